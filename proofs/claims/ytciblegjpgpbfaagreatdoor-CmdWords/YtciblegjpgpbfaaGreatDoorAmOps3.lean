/-
  The abstract machine's operations, held against the model's: slices made, cut, grown, copied. No condition beyond the relation itself.
-/
import Derived.Test.YtciblegjpgpbfaaGreatDoorAmOps2
namespace Go.Am
open Go

variable {P : Program} {ρ : Map} {H : AH} {w : World}

theorem natOf_some {a : AV} {n : Nat} {x : Value} (h : natOf a = some n) (hx : VRel ρ a x) : ∃ k, x = .int k n := by
  unfold natOf at h
  split at h
  · cases hx; cases h; exact ⟨_, rfl⟩
  · cases h

theorem opMakeSlice_ok (hi : Inv P ρ H w) {t : TypeId} {l c v : AV} {x y : Value} {H' : AH} (h : opMakeSlice P t l c H = some (.value v H')) (hx : VRel ρ l x) (hy : VRel ρ c y) (hf : Free ρ H H') :
    ∃ z w' ρ', (Instr.makeSlice t x y).run P w = .ok z w' ∧ VRel ρ' v z ∧ Stp P ρ H w ρ' H' w' := by
  unfold opMakeSlice at h
  split at h
  · rename_i e l' c' hd hl hc
    obtain ⟨kl, rfl⟩ := natOf_some hl hx
    obtain ⟨kc, rfl⟩ := natOf_some hc hy
    split at h
    · rename_i size bytes z hs hb hz
      obtain ⟨u, hu, rfl⟩ := zeroCells_some hz
      cases hcond : (Nat.ble l' c' && (Nat.ble c' lidA && (Nat.ble (c' * (bytes + size)) lidA && Nat.beq (u.cells.toList.map AV.atom).length size))) with
      | false => rw [hcond] at h; cases h
      | true =>
        rw [hcond] at h
        cases h
        simp only [Bool.and_eq_true] at hcond
        obtain ⟨h1, h2, h3, h4⟩ := hcond
        have g1 := Nat.le_of_ble_eq_true h1
        have g2 := Nat.le_of_ble_eq_true h2
        have g3 := Nat.le_of_ble_eq_true h3
        have g4 : u.cells.size = size := by have := Nat.eq_of_beq_eq_true h4; simpa using this
        rw [Nat.mul_add] at g3
        have glid : lidA = 1099511627776 := rfl
        obtain ⟨i, hi1, hi2⟩ := run_bytesOf (P := P) hb w
        rw [repeat_atoms] at hf ⊢
        obtain ⟨w', hw', hstp⟩ := newRow_ok hi (hf _ (Nat.le_refl _) (by simp)) (e := e) (VRels.atoms (((Array.range (c' * u.cells.size)).map (u.cells[· % u.cells.size]!)).toList))
        have ewl : IntKind.i64.wrap (l' : Int) = l' := by rw [wi64]; omega
        have ewc : IntKind.i64.wrap (c' : Int) = c' := by rw [wi64]; omega
        have k1 : ¬ ((c' : Int) < 0) := by omega
        have k2 : ¬ ((bytes : Int) * (c' : Int) > 2 ^ 48) := by
          have : ((bytes * c' : Nat) : Int) ≤ 1099511627776 := by rw [Nat.mul_comm]; omega
          rw [Int.natCast_mul] at this
          have e48 : (2 : Int) ^ 48 = 281474976710656 := by decide
          rw [e48]; omega
        have k3 : ¬ ((l' : Int) < 0) := by omega
        have k4 : ¬ ((l' : Int) > (c' : Int)) := by omega
        refine ⟨.slice (some ⟨w.heap.size, 0, none⟩) l' c', w', _, ?_, ?_, hstp⟩
        · have hcount : (Array.range (c' * u.cells.size)).map (u.cells[· % u.cells.size]!) = (Array.range (c' * size)).map ((if c' * size = 0 then (#[] : Array Value) else u.cells)[· % (if c' * size = 0 then (#[] : Array Value) else u.cells).size]!) := by
            rw [g4]
            by_cases h0 : c' * size = 0
            · rw [h0]; simp
            · rw [if_neg h0, g4]
          simp only [Instr.makeSlice, Sem.run_bind, run_underlying hd, Result.andThen_ok, asInt, asIntOf, Sem.run_pure, hi1, hi2, ewl, ewc]
          have hcnd : (((decide ((c' : Int) < 0) || decide ((bytes : Int) * (c' : Int) > 2 ^ 48)) || decide ((l' : Int) < 0) || decide ((l' : Int) > (c' : Int))) = true) ↔ False := by
            simp only [decide_eq_false k1, decide_eq_false k2, decide_eq_false k3, decide_eq_false k4]; simp
          rw [if_neg (by simpa using hcnd)]
          simp only [Int.toNat_natCast, Sem.run_bind, run_askRoom, Result.andThen_ok, run_sizeOf hs]
          by_cases h0 : c' * size = 0
          · rw [if_pos h0]
            rw [if_pos h0] at hcount
            simp only [Sem.run_bind, Sem.run_pure, Result.andThen_ok]
            rw [← hcount, hw']
            simp
          · rw [if_neg h0]
            rw [if_neg h0] at hcount
            simp only [Sem.run_bind, Sem.run_pure, Result.andThen_ok, run_zeroValue hu]
            rw [← hcount, hw']
            simp
        · have := VRel.exact (ρ := ρ.upd H.next ⟨w.heap.size, 0, ((Array.range (c' * u.cells.size)).map (u.cells[· % u.cells.size]!)).size⟩) (b := H.next) (off := 0) (len := l') (c := c') (Map.upd_same _ _ _) g1
          simpa [Loc.addr] using this
    · cases h
  · cases h

theorem asNatLe_some {a : AV} {n top : Nat} {x : Value} (h : asNatLe a top = some n) (hx : VRel ρ a x) : (∃ k, x = .int k n) ∧ n ≤ top := by
  unfold asNatLe at h
  split at h
  · rename_i i
    cases hb : Nat.ble i top with
    | false => rw [hb] at h; cases h
    | true => rw [hb] at h; cases h; cases hx; exact ⟨⟨_, rfl⟩, Nat.le_of_ble_eq_true hb⟩
  · cases h

theorem run_sliceBound {k : IntKind} {n y : Nat} (code : BoundsCode) (h : n ≤ y) : (Instr.sliceBound (.int k n) y code).run P w = .ok n w := by
  simp [Instr.sliceBound, asIntOf, h]

/-- An operand that may be there. -/
inductive ORel (ρ : Map) : Option AV → Option Value → Prop
  | none : ORel ρ none none
  | some {a : AV} {x : Value} (h : VRel ρ a x) : ORel ρ (some a) (some x)

theorem bounds_ok {len cap cap' l h m : Nat} {lo hi mx : Option AV} {lo' hi' mx' : Option Value} (isS : Bool) (hb : boundsA len cap lo hi mx = some (l, h, m)) (hlo : ORel ρ lo lo') (hhi : ORel ρ hi hi') (hmx : ORel ρ mx mx')
    (hcap : cap ≤ cap') (hex : mx = none ∨ cap = cap') (hlen : len ≤ cap') :
    (Instr.sliceBounds isS len cap' lo' hi' mx').run P w = .ok (l, h, if mx = none then cap' else m) w ∧ l ≤ h ∧ h ≤ cap' ∧ m ≤ cap' ∧ (mx ≠ none → h ≤ m) := by
  unfold boundsA at hb
  cases hmx with
  | none =>
    simp only at hb
    cases hhi with
    | none =>
      simp only at hb
      cases hlo with
      | none => simp only [Option.some.injEq, Prod.mk.injEq] at hb; obtain ⟨rfl, rfl, rfl⟩ := hb; exact ⟨by simp [Instr.sliceBounds], by omega, hlen, hcap, by simp⟩
      | some h1 =>
        simp only at hb
        split at hb
        · cases hb
        · rename_i hq
          obtain ⟨⟨k, rfl⟩, hle⟩ := asNatLe_some hq h1
          simp only [Option.some.injEq, Prod.mk.injEq] at hb; obtain ⟨rfl, rfl, rfl⟩ := hb
          exact ⟨by simp [Instr.sliceBounds, run_sliceBound _ hle], hle, hlen, hcap, by simp⟩
    | some h2 =>
      simp only at hb
      split at hb
      · cases hb
      · rename_i hh hq2
        obtain ⟨⟨k2, rfl⟩, hle2⟩ := asNatLe_some hq2 h2
        cases hlo with
        | none => simp only [Option.some.injEq, Prod.mk.injEq] at hb; obtain ⟨rfl, rfl, rfl⟩ := hb; exact ⟨by simp [Instr.sliceBounds, run_sliceBound _ (Nat.le_trans hle2 hcap)], by omega, by omega, hcap, by simp⟩
        | some h1 =>
          simp only at hb
          split at hb
          · cases hb
          · rename_i hq
            obtain ⟨⟨k, rfl⟩, hle⟩ := asNatLe_some hq h1
            simp only [Option.some.injEq, Prod.mk.injEq] at hb; obtain ⟨rfl, rfl, rfl⟩ := hb
            exact ⟨by simp [Instr.sliceBounds, run_sliceBound _ (Nat.le_trans hle2 hcap), run_sliceBound _ hle], hle, by omega, hcap, by simp⟩
  | some h3 =>
    simp only at hb
    have hcc : cap = cap' := by rcases hex with h | h; · cases h
                                · exact h
    subst hcc
    split at hb
    · cases hb
    · rename_i mm hq3
      obtain ⟨⟨k3, rfl⟩, hle3⟩ := asNatLe_some hq3 h3
      cases hhi with
      | none => simp only at hb; cases hb
      | some h2 =>
        simp only at hb
        split at hb
        · cases hb
        · rename_i hh hq2
          obtain ⟨⟨k2, rfl⟩, hle2⟩ := asNatLe_some hq2 h2
          cases hlo with
          | none => simp only [Option.some.injEq, Prod.mk.injEq] at hb; obtain ⟨rfl, rfl, rfl⟩ := hb; exact ⟨by simp [Instr.sliceBounds, run_sliceBound _ hle3, run_sliceBound _ hle2], by omega, by omega, hle3, fun _ => hle2⟩
          | some h1 =>
            simp only at hb
            split at hb
            · cases hb
            · rename_i hq
              obtain ⟨⟨k, rfl⟩, hle⟩ := asNatLe_some hq h1
              simp only [Option.some.injEq, Prod.mk.injEq] at hb; obtain ⟨rfl, rfl, rfl⟩ := hb
              exact ⟨by simp [Instr.sliceBounds, run_sliceBound _ hle3, run_sliceBound _ hle2, run_sliceBound _ hle], hle, by omega, hle3, fun _ => hle2⟩

theorem loc_add (l : Loc) (off n : Nat) : (l.addr off).add n = l.addr (off + n) := by unfold Loc.addr; rw [addr_add, Nat.add_assoc]

theorem sliceA_ok (hi : Inv P ρ H w) {t : TypeId} {a v : AV} {x : Value} {lo hi' mx : Option AV} {lo' hi'' mx' : Option Value} (h : sliceA P H t a lo hi' mx = some v) (hx : VRel ρ a x)
    (hlo : ORel ρ lo lo') (hhi : ORel ρ hi' hi'') (hmx : ORel ρ mx mx') :
    ∃ y, (Instr.sliceAt t x lo' hi'' mx').run P w = .ok y w ∧ VRel ρ v y := by
  unfold sliceA at h
  split at h
  · -- a string
    rename_i s hd
    cases hx
    unfold slStr at h
    split at h
    · rename_i l hh m hb
      split at h
      · cases hmx
        obtain ⟨hr, h1, h2, _, _⟩ := bounds_ok (P := P) (w := w) false hb hlo hhi .none (Nat.le_refl _) (.inl rfl) (Nat.le_refl _)
        cases h
        exact ⟨_, by simp [Instr.sliceAt, run_underlying hd, Instr.slice, hr], .atom _⟩
      · cases h
    · cases h
  · -- a nil slice
    rename_i e hd
    split at h
    · rename_i size hs
      cases hx
      unfold slNil at h
      split at h
      · rename_i lhm hb
        obtain ⟨l, hh, m⟩ := lhm
        obtain ⟨hr, h1, h2, h3, _⟩ := bounds_ok (P := P) (w := w) true hb hlo hhi hmx (Nat.le_refl _) (.inr rfl) (Nat.le_refl _)
        cases h
        have e0 : l = 0 := by omega
        have e1 : hh = 0 := by omega
        have e2 : m = 0 := by omega
        subst e0 e1 e2
        refine ⟨.slice none 0 0, ?_, .atom _⟩
        have : (if mx = none then 0 else 0) = 0 := by split <;> rfl
        rw [this] at hr
        simp [Instr.sliceAt, run_underlying hd, Instr.slice, hr, run_sizeOf hs]
      · cases h
    · cases h
  · -- a slice
    rename_i e b off len cap hd
    split at h
    · rename_i size hs
      unfold slSlice at h
      split at h
      · rename_i c
        cases hx with
        | exact hl hlc =>
          rename_i loc
          unfold slExact at h
          split at h
          · rename_i l hh m hb
            obtain ⟨hr, h1, h2, h3, h4⟩ := bounds_ok (P := P) (w := w) true hb hlo hhi hmx (Nat.le_refl _) (.inr rfl) hlc
            have hm : (if mx = none then c else m) = m := by
              split
              · rename_i hnone
                subst hnone
                unfold boundsA at hb
                simp only at hb
                split at hb
                · cases hb
                · split at hb
                  · cases hb
                  · simp only [Option.some.injEq, Prod.mk.injEq] at hb; exact hb.2.2
              · rfl
            rw [hm] at hr
            have hhm : hh ≤ m := by
              by_cases hnone : mx = none
              · rw [if_pos hnone] at hm; omega
              · exact h4 hnone
            cases h
            by_cases hml : m = l
            · refine ⟨.slice (some (loc.addr off)) (hh - l) (m - l), by simp [Instr.sliceAt, run_underlying hd, Instr.slice, hr, run_sizeOf hs, hml], ?_⟩
              rw [beq_t hml]
              exact .exact hl (by omega)
            · refine ⟨.slice (some (loc.addr (off + l * size))) (hh - l) (m - l), by simp [Instr.sliceAt, run_underlying hd, Instr.slice, hr, run_sizeOf hs, hml, loc_add], ?_⟩
              rw [beq_f hml]
              exact .exact hl (by omega)
          · cases h
      · rename_i esz
        split at h
        · rename_i B hB
          cases hes : Nat.beq esz size with
          | false => rw [hes] at h; cases h
          | true =>
            rw [hes] at h
            have := Nat.eq_of_beq_eq_true hes
            subst this
            cases hmx
            cases hx with
            | room hl hlc ht =>
              rename_i c loc
              simp only [cond] at h
              unfold slLoose at h
              split at h
              · rename_i l hh m hb
                obtain ⟨cs, fz, _, g1, _⟩ := hi.blk b B loc hB hl
                have hcap : max len ((B.cells.length - off) / esz) ≤ c := by
                  rw [Nat.max_le]
                  refine ⟨hlc, ?_⟩
                  rcases Nat.eq_zero_or_pos esz with h0 | h0
                  · rw [h0, Nat.div_zero]; exact Nat.zero_le _
                  · apply Nat.le_of_mul_le_mul_right _ h0
                    have := Nat.div_mul_le_self (B.cells.length - off) esz
                    omega
                obtain ⟨hr, h1, h2, h3, _⟩ := bounds_ok (P := P) (w := w) true hb hlo hhi .none hcap (.inl rfl) hlc
                rw [if_pos rfl] at hr
                cases hl0 : Nat.beq l 0 with
                | true =>
                  rw [hl0] at h
                  have := Nat.eq_of_beq_eq_true hl0
                  subst this
                  cases h
                  refine ⟨.slice (some (loc.addr off)) hh c, ?_, .room hl h2 ht⟩
                  simp [Instr.sliceAt, run_underlying hd, Instr.slice, hr, run_sizeOf hs, loc_add]
                | false =>
                  rw [hl0] at h
                  cases hll : Nat.blt l len with
                  | false =>
                    rw [hll] at h
                    cases h
                    by_cases hne : c = l
                    · subst hne; exact ⟨.slice (some (loc.addr off)) (hh - c) (c - c), by simp [Instr.sliceAt, run_underlying hd, Instr.slice, hr, run_sizeOf hs, loc_add], .top _⟩
                    · exact ⟨.slice (some (loc.addr (off + l * esz))) (hh - l) (c - l), by simp [Instr.sliceAt, run_underlying hd, Instr.slice, hr, run_sizeOf hs, loc_add, hne], .top _⟩
                  | true =>
                    rw [hll] at h
                    rw [Nat.blt_eq] at hll
                    cases h
                    have hne : ¬ c = l := by omega
                    refine ⟨.slice (some (loc.addr (off + l * esz))) (hh - l) (c - l), ?_, .room hl (by omega) ?_⟩
                    · simp [Instr.sliceAt, run_underlying hd, Instr.slice, hr, run_sizeOf hs, loc_add, hne]
                    · have : l * esz + (c - l) * esz = c * esz := by rw [← Nat.add_mul]; congr 1; omega
                      omega
              · cases h
        · cases h
      · split at h
        · cases hmx
          cases hx with
          | unk hl hlc =>
            rename_i c loc
            unfold slLoose at h
            split at h
            · rename_i l hh m hb
              obtain ⟨hr, h1, h2, h3, _⟩ := bounds_ok (P := P) (w := w) true hb hlo hhi .none hlc (.inl rfl) hlc
              rw [if_pos rfl] at hr
              cases hl0 : Nat.beq l 0 with
              | true =>
                rw [hl0] at h
                have := Nat.eq_of_beq_eq_true hl0
                subst this
                cases h
                refine ⟨.slice (some (loc.addr off)) hh c, ?_, .unk hl h2⟩
                simp [Instr.sliceAt, run_underlying hd, Instr.slice, hr, run_sizeOf hs, loc_add]
              | false =>
                rw [hl0] at h
                cases hll : Nat.blt l len with
                | false =>
                  rw [hll] at h
                  cases h
                  by_cases hne : c = l
                  · subst hne; exact ⟨.slice (some (loc.addr off)) (hh - c) (c - c), by simp [Instr.sliceAt, run_underlying hd, Instr.slice, hr, run_sizeOf hs, loc_add], .top _⟩
                  · exact ⟨.slice (some (loc.addr (off + l * size))) (hh - l) (c - l), by simp [Instr.sliceAt, run_underlying hd, Instr.slice, hr, run_sizeOf hs, loc_add, hne], .top _⟩
                | true =>
                  rw [hll] at h
                  rw [Nat.blt_eq] at hll
                  cases h
                  have hne : ¬ c = l := by omega
                  refine ⟨.slice (some (loc.addr (off + l * size))) (hh - l) (c - l), ?_, .unk hl (by omega)⟩
                  simp [Instr.sliceAt, run_underlying hd, Instr.slice, hr, run_sizeOf hs, loc_add, hne]
            · cases h
        · cases h
    · cases h
  · -- an array behind a pointer
    rename_i n e b off hd
    split at h
    · rename_i size hs
      cases hx with
      | ptr hl =>
        rename_i loc
        unfold slExact at h
        split at h
        · rename_i l hh m hb
          obtain ⟨hr, h1, h2, h3, h4⟩ := bounds_ok (P := P) (w := w) false hb hlo hhi hmx (Nat.le_refl _) (.inr rfl) (Nat.le_refl _)
          have hm : (if mx = none then n else m) = m := by
            split
            · rename_i hnone
              subst hnone
              unfold boundsA at hb
              simp only at hb
              split at hb
              · cases hb
              · split at hb
                · cases hb
                · simp only [Option.some.injEq, Prod.mk.injEq] at hb; exact hb.2.2
            · rfl
          rw [hm] at hr
          have hhm : hh ≤ m := by
            by_cases hnone : mx = none
            · rw [if_pos hnone] at hm; omega
            · exact h4 hnone
          cases h
          by_cases hml : m = l
          · refine ⟨.slice (some (loc.addr off)) (hh - l) (m - l), by simp [Instr.sliceAt, run_underlying hd, Instr.sureAddr, hr, run_sizeOf hs, hml], ?_⟩
            rw [beq_t hml]
            exact .exact hl (by omega)
          · refine ⟨.slice (some (loc.addr (off + l * size))) (hh - l) (m - l), by simp [Instr.sliceAt, run_underlying hd, Instr.sureAddr, hr, run_sizeOf hs, hml, loc_add], ?_⟩
            rw [beq_f hml]
            exact .exact hl (by omega)
        · cases h
    · cases h
  · cases h

theorem elemsA_at (hi : Inv P ρ H w) {size n : Nat} {a : AV} {l : List AV} {x : Value} (h : elemsA H size n a = some l) (hx : VRel ρ a x) :
    ∃ vs : Array Value, (∀ w' : World, w'.heap = w.heap → (Builtin.firstCells size n x).run P w' = .ok vs w') ∧ VRels ρ l vs.toList := by
  unfold elemsA at h
  split at h
  · split at h
    · cases h; cases hx; exact ⟨#[], fun _ _ => by simp [Builtin.firstCells], .nil⟩
    · cases h
  · rename_i s
    split at h
    · rename_i hn
      cases h
      cases hx
      refine ⟨_, fun _ _ => by simp [Builtin.firstCells]; rfl, ?_⟩
      rw [Array.toList_extract, Array.toList_map, List.extract_eq_take_drop, List.drop_zero, Nat.sub_zero, ← List.map_take]
      generalize s.data.toList.take n = bs
      induction bs with
      | nil => exact .nil
      | cons b bs ih => exact .cons (.atom _) ih
    · cases h
  · rename_i b off len cap
    have hk : ∀ loc : Loc, ρ b = some loc → ∃ vs : Array Value, (∀ w' : World, w'.heap = w.heap → (loadCells (loc.addr off) (n * size)).run P w' = .ok vs w') ∧ VRels ρ l vs.toList := fun loc hl => by
      split at h
      · rename_i h0
        cases h
        exact ⟨#[], fun _ _ => by rw [h0]; rfl, .nil⟩
      · exact hi.load h hl
    cases hx with
    | exact hl _ => obtain ⟨vs, h1, h2⟩ := hk _ hl; exact ⟨vs, fun w' hw' => by simp [Builtin.firstCells, h1 w' hw'], h2⟩
    | room hl _ _ => obtain ⟨vs, h1, h2⟩ := hk _ hl; exact ⟨vs, fun w' hw' => by simp [Builtin.firstCells, h1 w' hw'], h2⟩
    | unk hl _ => obtain ⟨vs, h1, h2⟩ := hk _ hl; exact ⟨vs, fun w' hw' => by simp [Builtin.firstCells, h1 w' hw'], h2⟩
  · cases h

theorem lenA_ok {a : AV} {n : Nat} {x : Value} (h : lenA a = some n) (hx : VRel ρ a x) : (Builtin.lenOf x).run P w = .ok n w := by
  unfold lenA at h
  split at h
  · cases h; cases hx; simp [Builtin.lenOf]
  · cases h; cases hx; simp [Builtin.lenOf]
  · cases h; cases hx <;> simp [Builtin.lenOf]
  · cases h

theorem growBy_le (newLen : Nat) : ∀ r c, c ≤ 2 * newLen → Builtin.growBy newLen r c ≤ 2 * newLen + 768 := by
  intro r
  induction r with
  | zero => intro c h; simp only [Builtin.growBy]; omega
  | succ r ih =>
    intro c h
    simp only [Builtin.growBy]
    split
    · omega
    · rename_i hlt
      by_cases h2 : c + (c + 768) / 4 ≤ 2 * newLen
      · exact ih _ h2
      · cases r with
        | zero => simp only [Builtin.growBy]; omega
        | succ r =>
          simp only [Builtin.growBy]
          rw [if_pos (by omega)]
          omega

theorem nextcap_le {newLen oldCap : Nat} (h : oldCap < newLen) : Builtin.nextslicecap newLen oldCap ≤ 2 * newLen + 768 := by
  unfold Builtin.nextslicecap
  split
  · omega
  · split
    · omega
    · exact growBy_le _ _ _ (by omega)

/-- What the type of the elements gives. -/
structure Grows (P : Program) (elem : TypeId) (size bytes : Nat) (z : Array Value) : Prop where
  hsize : szOf P elem = some size
  hbytes : bytesOf P elem = some bytes
  zero : ∃ v, zeroOf P elem = some v ∧ v.cells = z
  zsize : z.size = size
  pos : 0 < size
  few : bytes ≤ 4096

theorem growsA_some {elem : TypeId} {size bytes : Nat} (h : growsA P elem = some (size, bytes)) : ∃ z, Grows P elem size bytes z := by
  unfold growsA at h
  split at h
  · rename_i s b z hs hb hz
    obtain ⟨u, hu, rfl⟩ := zeroCells_some hz
    cases hc : (Nat.beq (u.cells.toList.map AV.atom).length s && (Nat.blt 0 s && Nat.ble b 4096)) with
    | false => rw [hc] at h; cases h
    | true =>
      rw [hc] at h
      cases h
      simp only [Bool.and_eq_true, Nat.blt_eq] at hc
      exact ⟨u.cells, hs, hb, ⟨u, hu, rfl⟩, by have := Nat.eq_of_beq_eq_true hc.1; simpa using this, hc.2.1, Nat.le_of_ble_eq_true hc.2.2⟩
  · cases h

theorem zeroCells_size (z : Array Value) (n : Nat) : (Builtin.zeroCells z n).size = n * z.size := by simp [Builtin.zeroCells]

/-- The model's append, where the new elements do not fit. -/
theorem run_append_new {t u ty elem : TypeId} {size bytes : Nat} {z : Array Value} (hg : Grows P elem size bytes z) (ht : P.underlying t = some (.slice elem)) (hu : (∃ e, P.underlying u = some (.slice e)) ∨ P.underlying u = some .string)
    {base : Option Addr} {len cap n : Nat} {x : Value} {new old : Array Value} (hn : (Builtin.lenOf x).run P w = .ok n w) (hnew : ∀ w', w'.heap = w.heap → (Builtin.firstCells size n x).run P w' = .ok new w')
    (hold : ∀ w', w'.heap = w.heap → (Builtin.firstCells size len (.slice base len cap)).run P w' = .ok old w') (hlt : cap < len + n) (hlid : (len + n) * (bytes + size) ≤ lidA) :
    ∃ c w', len + n ≤ c ∧ (Builtin.append_ #[t, u] ty #[.slice base len cap, x]).run P w = .ok (.slice (some ⟨w.heap.size, 0, none⟩) (len + n) c) w' ∧
      Pushed w (.cells (old ++ new ++ Builtin.zeroCells z (c - (len + n))) elem (0, 0)) w' := by
  obtain ⟨v, hv, hvz⟩ := hg.zero
  obtain ⟨i, hi1, hi2⟩ := run_bytesOf (P := P) hg.hbytes w
  have hzeros : ∀ w : World, (match #[t, u][1]? with
    | some xType => do pure ((← underlying xType) matches .int _)
    | none => pure false : Sem Bool).run P w = .ok false w := by
    intro w
    rcases hu with ⟨e, he⟩ | he <;> simp [run_underlying he]
  have glid : lidA = 1099511627776 := rfl
  rw [Nat.mul_add] at hlid
  have hpos := hg.pos
  have hneed : len + n ≤ 1099511627776 := by
    have : (len + n) * 1 ≤ (len + n) * size := Nat.mul_le_mul_left _ hpos
    omega
  have hq : (Question.appendCap (len + n) cap elem).cut (w.tape w.drawn (.appendCap (len + n) cap elem)) = len + n + (w.tape w.drawn (.appendCap (len + n) cap elem)) % (2 ^ 63 - (len + n)) := rfl
  generalize hc : (Question.appendCap (len + n) cap elem).cut (w.tape w.drawn (.appendCap (len + n) cap elem)) = c at hq
  have hcap : Builtin.nextslicecap (len + n) cap * bytes ≤ 2 ^ 48 := by
    have h1 := nextcap_le (newLen := len + n) (oldCap := cap) hlt
    have h2 : Builtin.nextslicecap (len + n) cap * bytes ≤ (2 * (len + n) + 768) * bytes := Nat.mul_le_mul_right _ h1
    have h3 : (2 * (len + n) + 768) * bytes = 2 * ((len + n) * bytes) + 768 * bytes := by rw [Nat.add_mul, Nat.mul_assoc]
    have h4 := hg.few
    have e48 : (2 : Nat) ^ 48 = 281474976710656 := by decide
    rw [e48]; omega
  refine ⟨c, { w with drawn := w.drawn + 1, heap := w.heap.push (.cells (old ++ new ++ Builtin.zeroCells z (c - (len + n))) elem) }, by omega, ?_, rfl, rfl, rfl⟩
  have k1 : ¬ (len + n ≤ cap) := by omega
  have k2 : ¬ (((len + n : Nat) : Int) > IntKind.i64.max ∧ (False ∨ bytes = 0)) := by
    intro h
    have e : IntKind.i64.max = 9223372036854775807 := by decide
    rw [e] at h; omega
  have k3 : ¬ (Builtin.nextslicecap (len + n) cap * bytes > 2 ^ 48) := by omega
  have hti : ∀ w' : World, (typeInfo elem).run P w' = .ok i w' := fun w' => by
    obtain ⟨i', h1, _⟩ := run_bytesOf (P := P) hg.hbytes w'
    have : i' = i := by
      unfold typeInfo at h1 hi1
      cases hx : P.info? elem with
      | none => simp [hx] at hi1
      | some j => simp [hx] at h1 hi1; rw [← h1, ← hi1]
    rw [← this]; exact h1
  have hz : ∀ w' : World, (zeroValue elem).run P w' = .ok v w' := run_zeroValue hv
  have hw1 : ({ w with drawn := w.drawn + 1 } : World).heap = w.heap := rfl
  have hchoose : (choose (.appendCap (len + n) cap elem)).run P w = .ok c { w with drawn := w.drawn + 1 } := by
    simp only [run_choose, Question.forced, Bool.false_eq_true, if_false, hc]
  have ho := hold _ hw1
  have hnw := hnew _ hw1
  have hk3 : ¬ (2 ^ 48 < Builtin.nextslicecap (len + n) cap * bytes) := k3
  rcases hu with ⟨e, he⟩ | he
  · simp only [Builtin.append_, Sem.run_bind, run_underlying ht, Result.andThen_ok, run_sizeOf hg.hsize, List.getElem?_toArray, List.getElem?_cons_zero, List.getElem?_cons_succ, run_underlying he, Sem.run_pure]
    simp only [Bool.false_eq_true, if_false, hn, Result.andThen_ok, Sem.run_bind, if_neg k1, hti, hi2]
    rw [if_neg (by simpa using k2)]
    simp only [Sem.run_bind, hti, Result.andThen_ok, hi2]
    rw [if_neg k3]
    simp only [Sem.run_bind, hchoose, Result.andThen_ok, hti, run_askRoom, ho, Bool.not_false, if_true, hnw, hz, hvz, newRow, run_newObj, Sem.run_pure]
  · simp only [Builtin.append_, Sem.run_bind, run_underlying ht, Result.andThen_ok, run_sizeOf hg.hsize, List.getElem?_toArray, List.getElem?_cons_zero, List.getElem?_cons_succ, run_underlying he, Sem.run_pure]
    simp only [Bool.false_eq_true, if_false, hn, Result.andThen_ok, Sem.run_bind, if_neg k1, hti, hi2]
    rw [if_neg (by simpa using k2)]
    simp only [Sem.run_bind, hti, Result.andThen_ok, hi2]
    rw [if_neg k3]
    simp only [Sem.run_bind, hchoose, Result.andThen_ok, hti, run_askRoom, ho, Bool.not_false, if_true, hnw, hz, hvz, newRow, run_newObj, Sem.run_pure]

/-- The model's append, where the new elements fit. -/
theorem run_append_fit {t u ty elem : TypeId} {size : Nat} (hs : szOf P elem = some size) (ht : P.underlying t = some (.slice elem)) (hu : (∃ e, P.underlying u = some (.slice e)) ∨ P.underlying u = some .string)
    {a : Addr} {len cap n : Nat} {x : Value} {new : Array Value} (hn : (Builtin.lenOf x).run P w = .ok n w) (hnew : (Builtin.firstCells size n x).run P w = .ok new w) (hle : len + n ≤ cap)
    {w' : World} (hst : (storeCells (a.add (len * size)) new.toList).run P w = .ok () w') :
    (Builtin.append_ #[t, u] ty #[.slice (some a) len cap, x]).run P w = .ok (.slice (some a) (len + n) cap) w' := by
  rcases hu with ⟨e, he⟩ | he
  · simp only [Builtin.append_, Sem.run_bind, run_underlying ht, Result.andThen_ok, run_sizeOf hs, List.getElem?_toArray, List.getElem?_cons_zero, List.getElem?_cons_succ, run_underlying he, Sem.run_pure]
    simp only [Bool.false_eq_true, if_false, hn, Result.andThen_ok, Sem.run_bind, if_pos hle, Bool.not_false, if_true, hnew, hst, Sem.run_pure]
  · simp only [Builtin.append_, Sem.run_bind, run_underlying ht, Result.andThen_ok, run_sizeOf hs, List.getElem?_toArray, List.getElem?_cons_zero, List.getElem?_cons_succ, run_underlying he, Sem.run_pure]
    simp only [Bool.false_eq_true, if_false, hn, Result.andThen_ok, Sem.run_bind, if_pos hle, Bool.not_false, if_true, hnew, hst, Sem.run_pure]

/-- .. of nothing. -/
theorem run_append_none {t u ty elem : TypeId} {size : Nat} (hs : szOf P elem = some size) (ht : P.underlying t = some (.slice elem)) (hu : (∃ e, P.underlying u = some (.slice e)) ∨ P.underlying u = some .string)
    {base : Option Addr} {len cap : Nat} {x : Value} {new : Array Value} (hn : (Builtin.lenOf x).run P w = .ok 0 w) (hnew : (Builtin.firstCells size 0 x).run P w = .ok new w) (h0 : new = #[]) (hle : len ≤ cap) :
    (Builtin.append_ #[t, u] ty #[.slice base len cap, x]).run P w = .ok (.slice base len cap) w := by
  subst h0
  rcases hu with ⟨e, he⟩ | he <;>
  · simp only [Builtin.append_, Sem.run_bind, run_underlying ht, Result.andThen_ok, run_sizeOf hs, List.getElem?_toArray, List.getElem?_cons_zero, List.getElem?_cons_succ, run_underlying he, Sem.run_pure]
    simp only [Bool.false_eq_true, if_false, hn, Result.andThen_ok, Sem.run_bind, Nat.add_zero, if_pos hle, Bool.not_false, if_true, hnew]
    cases base <;> rfl

theorem isSliceA_rel {s : AV} {x : Value} (h : isSliceA s = true) (hx : VRel ρ s x) : ∃ base len cap, x = .slice base len cap ∧ len ≤ cap := by
  unfold isSliceA at h
  split at h
  · cases hx; exact ⟨_, _, _, rfl, Nat.le_refl _⟩
  · cases hx with
    | exact _ c => exact ⟨_, _, _, rfl, c⟩
    | room _ c _ => exact ⟨_, _, _, rfl, c⟩
    | unk _ c => exact ⟨_, _, _, rfl, c⟩
  · cases h


theorem noElems (hi : Inv P ρ H w) {size : Nat} {a : AV} {l : List AV} {x : Value} (h : elemsA H size 0 a = some l) (hx : VRel ρ a x) : (Builtin.firstCells size 0 x).run P w = .ok #[] w := by
  obtain ⟨vs, h1, h2⟩ := elemsA_at (P := P) hi h hx
  have hl : l = [] := by
    unfold elemsA at h
    split at h
    · simp at h; exact h
    · simp at h; exact h
    · simp at h; exact h
    · cases h
  subst hl
  have : vs = #[] := by have := h2.size; simp at this; exact Array.eq_empty_of_size_eq_zero this.symm
  rw [← this]; exact h1 w rfl

/-- The slice's place, where it has one. -/
theorem VRel.place {b off len : Nat} {cap : Cap} {x : Value} (h : VRel ρ (.slice b off len cap) x) : ∃ l, ρ b = some l := by
  cases h with
  | exact h _ => exact ⟨_, h⟩
  | room h _ _ => exact ⟨_, h⟩
  | unk h _ => exact ⟨_, h⟩

theorem VRel.exact_inv {b off len c : Nat} {x : Value} (h : VRel ρ (.slice b off len (.exact c)) x) : ∃ l : Loc, ρ b = some l ∧ len ≤ c ∧ x = .slice (some (l.addr off)) len c := by
  cases h with
  | exact h hc => exact ⟨_, h, hc, rfl⟩
theorem VRel.room_inv {b off len esz : Nat} {x : Value} (h : VRel ρ (.slice b off len (.room esz)) x) : ∃ (l : Loc) (c : Nat), ρ b = some l ∧ len ≤ c ∧ off + c * esz = l.tot ∧ x = .slice (some (l.addr off)) len c := by
  cases h with
  | room h hc ht => exact ⟨_, _, h, hc, ht, rfl⟩
theorem nble {a b : Nat} (h : Nat.ble a b = false) : ¬ a ≤ b := fun e => by rw [Nat.ble_eq_true_of_le e] at h; cases h

theorem appNew_ok (hi : Inv P ρ H w) (hf : ρ H.next = none) {elem : TypeId} {size bytes : Nat} {z : Array Value} (hg : Grows P elem size bytes z) {t u ty : TypeId} (ht : P.underlying t = some (.slice elem))
    (hu : (∃ e, P.underlying u = some (.slice e)) ∨ P.underlying u = some .string) {base : Option Addr} {len cap n : Nat} {x : Value} {oldA newA : List AV} {old new : Array Value}
    (hn : (Builtin.lenOf x).run P w = .ok n w) (hnew : ∀ w', w'.heap = w.heap → (Builtin.firstCells size n x).run P w' = .ok new w')
    (hold : ∀ w', w'.heap = w.heap → (Builtin.firstCells size len (.slice base len cap)).run P w' = .ok old w') (hro : VRels ρ oldA old.toList) (hrn : VRels ρ newA new.toList)
    (hlt : cap < len + n) (hlid : (len + n) * (bytes + size) ≤ lidA) (hol : oldA.length = len * size) (hnl : newA.length = n * size) {v : AV} {H' : AH} (h : appNew H elem size len n oldA newA = some (v, H')) :
    ∃ y w' ρ', (Builtin.append_ #[t, u] ty #[.slice base len cap, x]).run P w = .ok y w' ∧ VRel ρ' v y ∧ Stp P ρ H w ρ' H' w' := by
  cases h
  obtain ⟨c, w', hc, hrun, hp⟩ := run_append_new (ty := ty) hg ht hu hn hnew hold hlt hlid
  have hs1 := hro.size
  have hs2 := hrn.size
  have hsz : (old ++ new ++ Builtin.zeroCells z (c - (len + n))).size = c * size := by
    rw [Array.size_append, Array.size_append, zeroCells_size, hg.zsize, ← hs1, ← hs2, hol, hnl, ← Nat.add_mul, ← Nat.add_mul]
    congr 1; omega
  have hstp := hi.push (B := { cells := oldA ++ newA, elem := elem, own := true }) hf hp (by
      simp only [Array.toList_append, List.append_assoc]
      rw [← List.append_assoc, List.length_append, hs1, hs2, ← Array.length_toList, ← Array.length_toList, ← List.length_append, List.take_left]
      exact hro.append hrn) (by simp only [List.length_append, hol, hnl, hsz, ← Nat.add_mul]; exact Nat.mul_le_mul_right _ hc) (fun _ => rfl)
  refine ⟨_, w', _, hrun, ?_, hstp⟩
  have := VRel.room (ρ := ρ.upd H.next ⟨w.heap.size, 0, (old ++ new ++ Builtin.zeroCells z (c - (len + n))).size⟩) (b := H.next) (off := 0) (len := len + n) (esz := size) (c := c) (Map.upd_same _ _ _) hc (by simp only [hsz]; omega)
  simpa [Loc.addr] using this

theorem appendA_ok (hi : Inv P ρ H w) {elem : TypeId} {s a v : AV} {x y : Value} {H' : AH} {t u ty : TypeId} (h : appendA P H elem s a = some (v, H')) (hx : VRel ρ s x) (hy : VRel ρ a y)
    (ht : P.underlying t = some (.slice elem)) (hu : (∃ e, P.underlying u = some (.slice e)) ∨ P.underlying u = some .string) (hf : Free ρ H H') :
    ∃ z w' ρ', (Builtin.append_ #[t, u] ty #[x, y]).run P w = .ok z w' ∧ VRel ρ' v z ∧ Stp P ρ H w ρ' H' w' := by
  unfold appendA at h
  split at h
  · rename_i size bytes n len hgr hln hls
    obtain ⟨z, hg⟩ := growsA_some hgr
    split at h
    · rename_i newA hnew
      have hlen := lenA_ok (P := P) (w := w) hln hy
      obtain ⟨new, hnew', hrn⟩ := elemsA_at (P := P) hi hnew hy
      cases hsl : isSliceA s with
      | false => rw [hsl] at h; cases h
      | true =>
        rw [hsl] at h
        simp only [cond] at h
        cases hn0 : Nat.beq n 0 with
        | true =>
          rw [hn0] at h
          have := Nat.eq_of_beq_eq_true hn0
          subst this
          obtain ⟨base, len', cap, rfl, hlc⟩ := isSliceA_rel hsl hx
          cases h
          exact ⟨_, w, ρ, run_append_none hg.hsize ht hu hlen (noElems hi hnew hy) rfl hlc, hx, Stp.refl hi⟩
        | false =>
          rw [hn0] at h
          simp only at h
          cases hc : (Nat.ble ((len + n) * (bytes + size)) lidA && Nat.beq newA.length (n * size)) with
          | false => rw [hc] at h; cases h
          | true =>
            rw [hc] at h
            simp only [Bool.and_eq_true] at hc
            have hlid := Nat.le_of_ble_eq_true hc.1
            have hnl := Nat.eq_of_beq_eq_true hc.2
            have hsz := hrn.size
            simp only at h
            have hnpos : 0 < n := by
              rcases Nat.eq_zero_or_pos n with h0 | h0
              · subst h0; cases hn0
              · exact h0
            unfold appTo at h
            split at h
            · -- onto nil
              cases hx
              simp only [lenA, Option.some.injEq] at hls
              subst hls
              have hfn : ρ H.next = none := by cases h; exact hf _ (Nat.le_refl _) (by simp)
              exact appNew_ok (oldA := []) (old := #[]) hi hfn hg ht hu hlen hnew' (fun _ _ => by simp [Builtin.firstCells]) .nil hrn (by omega) hlid (by simp) hnl h
            · -- a known capacity
              rename_i b off len2 c
              simp only [lenA, Option.some.injEq] at hls
              subst hls
              have hrel := hx
              obtain ⟨loc, hl, hle, rfl⟩ := hx.exact_inv
              · cases hb : Nat.ble (len2 + n) c with
                | true =>
                  rw [hb] at h
                  have hfit := Nat.le_of_ble_eq_true hb
                  simp only [cond_true] at h
                  split at h
                  · rename_i H2 hw2
                    cases h
                    obtain ⟨w', hst, hstp⟩ := hi.store hw2 hl hrn
                    refine ⟨_, w', ρ, run_append_fit hg.hsize ht hu hlen (hnew' w rfl) hfit (by rw [loc_add]; exact hst), .exact hl hfit, hstp⟩
                  · cases h
                | false =>
                  rw [hb] at h
                  have hnfit := nble hb
                  simp only [cond_false] at h
                  split at h
                  · rename_i oldA hold
                    have hfn : ρ H.next = none := by cases h; exact hf _ (Nat.le_refl _) (by simp)
                    obtain ⟨old, hold', hro⟩ := elemsA_at (P := P) hi hold hrel
                    have hol : oldA.length = len2 * size := by
                      simp only [elemsA] at hold
                      split at hold
                      · rename_i h0; cases hold; simp [h0]
                      · obtain ⟨B, _, hle', rfl⟩ := AH.read_some hold; simp; omega
                    exact appNew_ok hi hfn hg ht hu hlen hnew' hold' hro hrn (by omega) hlid hol hnl h
                  · cases h
            · -- room behind it
              rename_i b off len2 esz
              simp only [lenA, Option.some.injEq] at hls
              subst hls
              split at h
              · rename_i B hB
                cases hes : Nat.beq esz size with
                | false => rw [hes] at h; cases h
                | true =>
                  rw [hes] at h
                  have := Nat.eq_of_beq_eq_true hes
                  subst this
                  obtain ⟨loc, c, hl, hle, ht', rfl⟩ := hx.room_inv
                  · obtain ⟨cs, fz, hcs, g1, g2, g3, g4⟩ := hi.blk b B loc hB hl
                    unfold appRoom at h
                    cases hb : Nat.ble (off + (len2 + n) * esz) B.cells.length with
                    | true =>
                      rw [hb] at h
                      have hfit := Nat.le_of_ble_eq_true hb
                      have hfit' : len2 + n ≤ c := by
                        apply Nat.le_of_mul_le_mul_right _ hg.pos
                        omega
                      simp only [cond_true] at h
                      split at h
                      · rename_i H2 hw2
                        cases h
                        obtain ⟨w', hst, hstp⟩ := hi.store hw2 hl hrn
                        exact ⟨_, w', ρ, run_append_fit hg.hsize ht hu hlen (hnew' w rfl) hfit' (by rw [loc_add]; exact hst), .room hl hfit' ht', hstp⟩
                      · cases h
                    | false =>
                      rw [hb] at h
                      simp only [cond_false] at h
                      cases hcnd : (B.own && (Nat.beq B.elem elem && (Nat.ble (off + len2 * esz) B.cells.length && ((!B.fz || Nat.beq (off + len2 * esz) B.cells.length) && newA.all AV.one)))) with
                      | false => rw [hcnd] at h; cases h
                      | true =>
                        rw [hcnd] at h
                        simp only [Bool.and_eq_true] at hcnd
                        obtain ⟨ho, hel, hin, hfz, hone⟩ := hcnd
                        have hel := Nat.eq_of_beq_eq_true hel
                        have hin := Nat.le_of_ble_eq_true hin
                        have hzz : B.fz = true → off + len2 * esz = B.cells.length := fun e => by
                          rw [e] at hfz
                          simpa using Nat.eq_of_beq_eq_true (by simpa using hfz)
                        cases h
                        have hfn : ρ H.next = none := hf _ (Nat.le_refl _) (by simp)
                        by_cases hfit : len2 + n ≤ c
                        · have hroom : off + len2 * esz + new.toList.length ≤ loc.tot := by
                            have : (len2 + n) * esz ≤ c * esz := Nat.mul_le_mul_right _ hfit
                            rw [Nat.add_mul] at this
                            rw [Array.length_toList, ← hsz]; omega
                          obtain ⟨w', hst, hstp⟩ := hi.regrow hfn hB hl ho hin hzz hrn hone hroom
                          refine ⟨_, w', _, run_append_fit hg.hsize ht hu hlen (hnew' w rfl) hfit (by rw [loc_add]; exact hst), ?_, hstp⟩
                          have := VRel.room (ρ := ρ.upd H.next ⟨loc.blk, loc.off + off, loc.tot - off⟩) (b := H.next) (off := 0) (len := len2 + n) (esz := esz) (c := c) (Map.upd_same _ _ _) hfit (by simp only; omega)
                          simpa [Loc.addr] using this
                        · have hread : H.read b off (len2 * esz) = some ((B.cells.drop off).take (len2 * esz)) := by
                            unfold AH.read; rw [hB]; simp only [cutA_eq]; rw [if_pos hin]
                          obtain ⟨old, hold', hro⟩ := hi.load (P := P) hread hl
                          obtain ⟨c', w', hc', hrun, hp⟩ := run_append_new (ty := ty) (base := some (loc.addr off)) (len := len2) (cap := c) (old := old) hg ht hu hlen hnew' (fun w' hw' => by simp [Builtin.firstCells, hold' w' hw']) (by omega) hlid
                          have hs1 := hro.size
                          have hol : old.size = len2 * esz := by rw [← hs1]; simp; omega
                          have hszz : (old ++ new ++ Builtin.zeroCells z (c' - (len2 + n))).size = c' * esz := by
                            rw [Array.size_append, Array.size_append, zeroCells_size, hg.zsize, hol, ← hsz, hnl, ← Nat.add_mul, ← Nat.add_mul]
                            congr 1; omega
                          have hlen2 : ((B.cells.drop off).take (len2 * esz) ++ newA).length = (old ++ new).size := by
                            rw [List.length_append, hs1, hsz, Array.size_append]
                          have hp' : Pushed w (.cells (old ++ new ++ Builtin.zeroCells z (c' - (len2 + n))) B.elem (0, 0)) w' := by rw [hel]; exact hp
                          have hstp := hi.renew (B2 := { cells := (B.cells.drop off).take (len2 * esz) ++ newA, elem := B.elem, own := true, fz := B.fz }) hfn hB hl ho hp' (by
                              simp only
                              rw [hlen2, Array.toList_append, ← Array.length_toList, List.take_left, Array.toList_append]
                              exact hro.append hrn) (by simp only; rw [hlen2, Array.size_append, hol, ← hsz, hnl, hszz, ← Nat.add_mul]; exact Nat.mul_le_mul_right _ hc') rfl
                          refine ⟨_, w', _, hrun, ?_, hstp⟩
                          have := VRel.room (ρ := ρ.upd H.next ⟨w.heap.size, 0, (old ++ new ++ Builtin.zeroCells z (c' - (len2 + n))).size⟩) (b := H.next) (off := 0) (len := len2 + n) (esz := esz) (c := c') (Map.upd_same _ _ _) hc' (by simp only [hszz]; omega)
                          simpa [Loc.addr] using this
              · cases h
            · cases h
    · cases h
  · cases h

end Go.Am

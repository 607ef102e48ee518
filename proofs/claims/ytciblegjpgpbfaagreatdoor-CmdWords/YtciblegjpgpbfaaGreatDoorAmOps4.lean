/-
  The abstract machine's operations, held against the model's: copy, conversions, builtins, functions without a body. No condition beyond the relation itself.
-/
import Derived.Test.YtciblegjpgpbfaaGreatDoorAmOps3
import Derived.Laws.BytesString
import Derived.Lib.UnsafeStr
import Derived.Lib.MakeNoZero
import Derived.Laws.Externs
namespace Go.Am
open Go

variable {P : Program} {ρ : Map} {H : AH} {w : World}

theorem copyA_ok (hi : Inv P ρ H w) {elem : TypeId} {d s v : AV} {x y : Value} {H' : AH} {t ty : TypeId} (h : copyA P H elem d s = some (v, H')) (hx : VRel ρ d x) (hy : VRel ρ s y)
    (ht : P.underlying t = some (.slice elem)) (args : Array TypeId) (ha : args[0]? = some t) :
    ∃ z w', (Builtin.copy_ args ty #[x, y]).run P w = .ok z w' ∧ VRel ρ v z ∧ Stp P ρ H w ρ H' w' := by
  unfold copyA at h
  split at h
  · rename_i size dl sl hs hld hls
    split at h
    · rename_i cs hcs
      cases hsl : isSliceA d with
      | false => rw [hsl] at h; cases h
      | true =>
        rw [hsl] at h
        simp only [cond_true] at h
        have hl := lenA_ok (P := P) (w := w) hls hy
        obtain ⟨vs, hvs, hr⟩ := elemsA_at (P := P) hi hcs hy
        have hvs := hvs w rfl
        have hsz := hr.size
        cases he : cs.isEmpty with
        | true =>
          rw [he] at h
          simp only [cond_true, Option.some.injEq, Prod.mk.injEq] at h
          obtain ⟨rfl, rfl⟩ := h
          have : cs = [] := by simpa using he
          subst this
          have hv0 : vs = #[] := Array.eq_empty_of_size_eq_zero (by simpa using hsz.symm)
          subst hv0
          obtain ⟨base, len, cap, rfl, _⟩ := isSliceA_rel hsl hx
          have hlen : len = dl := by
            unfold isSliceA at hsl
            split at hsl
            · cases hx; simp only [lenA, Option.some.injEq] at hld; exact hld
            · simp only [lenA, Option.some.injEq] at hld
              cases hx <;> exact hld
            · cases hsl
          subst hlen
          refine ⟨_, w, ?_, .atom _, Stp.refl hi⟩
          cases base <;> simp [Builtin.copy_, ha, run_underlying ht, hl, run_sizeOf hs, hvs, storeCells, goInt] <;> rfl
        | false =>
          rw [he] at h
          simp only [cond_false] at h
          unfold copyTo at h
          split at h
          · rename_i b off len cap
            simp only [lenA, Option.some.injEq] at hld
            subst hld
            obtain ⟨loc, hloc⟩ := hx.place
            have hxs : ∃ c, x = .slice (some (loc.addr off)) len c := by
              cases hx with
              | exact e _ => rw [hloc] at e; cases e; exact ⟨_, rfl⟩
              | room e _ _ => rw [hloc] at e; cases e; exact ⟨_, rfl⟩
              | unk e _ => rw [hloc] at e; cases e; exact ⟨_, rfl⟩
            obtain ⟨c, rfl⟩ := hxs
            split at h
            · rename_i H2 hw
              cases h
              obtain ⟨w', hst, hstp⟩ := hi.store hw hloc hr
              refine ⟨_, w', ?_, .atom _, hstp⟩
              simp [Builtin.copy_, ha, run_underlying ht, hl, run_sizeOf hs, hvs, hst, goInt]
            · cases h
          · cases h
    · cases h
  · cases h

theorem bytesOfCells_ok : ∀ {cs : List AV} {l : List UInt8} {vs : List Value}, bytesOfCells cs = some l → VRels ρ cs vs → ∃ ns : List Int, vs = ns.map (Value.int .u8) ∧ l = ns.map fun n => UInt8.ofNat n.toNat := by
  intro cs
  induction cs with
  | nil => intro l vs h hv; cases hv; simp only [bytesOfCells, Option.some.injEq] at h; subst h; exact ⟨[], rfl, rfl⟩
  | cons c cs ih =>
    intro l vs h hv
    cases hv with
    | cons hc ht =>
      unfold bytesOfCells at h
      split at h
      · simp_all
      · rename_i n r heq
        cases heq
        cases hr : bytesOfCells cs with
        | none => rw [hr] at h; cases h
        | some l' =>
          rw [hr] at h
          simp only [Option.map_some, Option.some.injEq] at h
          subst h
          obtain ⟨ns, rfl, rfl⟩ := ih hr ht
          cases hc
          exact ⟨n :: ns, rfl, rfl⟩
      · cases h

theorem bytesOfCells_list {cs : List AV} {l : List UInt8} {vs : Array Value} (h : bytesOfCells cs = some l) (hv : VRels ρ cs vs.toList) :
    ∃ ns : List Int, vs = (ns.map (Value.int .u8)).toArray ∧ l = ns.map fun n => UInt8.ofNat n.toNat := by
  obtain ⟨ns, h1, h2⟩ := bytesOfCells_ok h hv
  exact ⟨ns, Array.ext' (by simpa using h1), h2⟩

theorem foldl_push (ns : List Int) : ∀ acc : ByteArray, ns.foldl (fun r n => r.push (UInt8.ofNat n.toNat)) acc = ⟨acc.data ++ (ns.map fun n => UInt8.ofNat n.toNat).toArray⟩ := by
  induction ns with
  | nil => intro acc; apply ByteArray.ext; simp
  | cons n ns ih => intro acc; rw [List.foldl_cons, ih]; apply ByteArray.ext; simp [ByteArray.push]

theorem push_modify (h : Array Obj) (o : Obj) (f : Obj → Obj) : (h.push o).modify h.size f = h.push (f o) := by
  apply Array.ext_getElem?
  intro i
  rw [Array.getElem?_modify, Array.getElem?_push, Array.getElem?_push]
  by_cases hi : h.size = i
  · subst hi; simp
  · rw [if_neg hi]
    by_cases h2 : i = h.size
    · exact absurd h2.symm hi
    · simp [h2]

/-- A string's bytes in a new row that a string may share. -/
theorem convBytes_ok (hi : Inv P ρ H w) {e : TypeId} {s : ByteArray} {v : AV} {H' : AH} (h : convBytes P H e s = some (v, H')) (hf : Free ρ H H') :
    ∃ y w' ρ', P.underlying e = some (.int .u8) ∧ (Conv.stringToBytes e s).run P w = .ok y w' ∧ VRel ρ' v y ∧ Stp P ρ H w ρ' H' w' := by
  unfold convBytes at h
  split at h
  case h_2 => cases h
  rename_i he
  cases hc : Nat.ble s.size lidA with
  | false => rw [hc] at h; cases h
  | true =>
    rw [hc] at h
    simp only [cond_true, Option.some.injEq, Prod.mk.injEq] at h
    obtain ⟨rfl, rfl⟩ := h
    have hle := Nat.le_of_ble_eq_true hc
    have hq : (Question.appendCap s.size 0 e).cut (w.tape w.drawn (.appendCap s.size 0 e)) = s.size + (w.tape w.drawn (.appendCap s.size 0 e)) % (2 ^ 63 - s.size) := rfl
    generalize hcc : (Question.appendCap s.size 0 e).cut (w.tape w.drawn (.appendCap s.size 0 e)) = c at hq
    have hchoose : (choose (.appendCap s.size 0 e)).run P w = .ok c { w with drawn := w.drawn + 1 } := by
      simp only [run_choose, Question.forced, Bool.false_eq_true, if_false, hcc]
    generalize hcs : (s.data.map fun b => Value.int .u8 b.toNat) ++ Array.replicate (c - s.size) (Value.int .u8 0) = cs
    have hsize : s.size ≤ cs.size := by rw [← hcs]; simp
    let w' : World := { w with drawn := w.drawn + 1, heap := w.heap.push (.cells cs e (cs.size, cs.size + 1)) }
    have hp : Pushed w (.cells cs e (cs.size, cs.size + 1)) w' := ⟨rfl, rfl, rfl⟩
    have hlen : (s.data.toList.map fun b => AV.int .u8 b.toNat).length = s.size := by simp
    refine ⟨.slice (some ⟨w.heap.size, 0, none⟩) s.size c, w', _, he, ?_, ?_, hi.push (B := { cells := s.data.toList.map fun b => .int .u8 b.toNat, elem := e, own := false }) (hf _ (Nat.le_refl _) (by simp)) hp ?_ (by simp only [hlen]; exact hsize) (fun h => by cases h)⟩
    · simp only [Conv.stringToBytes, Sem.run_bind, hchoose, Result.andThen_ok, hcs, newRow, run_newObj, Sem.run_pure, markStringish]
      simp only [run_shape, World.shape?, Array.getElem?_push_size, Result.andThen_ok, run_freeze, World.freeze]
      rw [if_neg (by decide)]
      simp only [push_modify, beq_self_eq_true, if_true]
      rfl
    · exact .unk (l := ⟨w.heap.size, 0, cs.size⟩) (off := 0) (Map.upd_same _ _ _) (by omega)
    · simp only [hlen]
      rw [← hcs]
      have : ((s.data.map fun b => Value.int .u8 b.toNat) ++ Array.replicate (c - s.size) (Value.int .u8 0)).toList.take s.size = s.data.toList.map fun b => Value.int .u8 b.toNat := by
        rw [Array.toList_append, List.take_append_of_le_length (by simp), Array.toList_map, List.take_of_length_le (by simp)]
      rw [this]
      generalize s.data.toList = bs
      induction bs with
      | nil => exact .nil
      | cons b bs ih => exact .cons (.atom _) ih

theorem convStr_ok (hi : Inv P ρ H w) {e : TypeId} {a v : AV} {x : Value} {H' : AH} (h : convStr P H e a = some (v, H')) (hx : VRel ρ a x) :
    ∃ y, P.underlying e = some (.int .u8) ∧ (Conv.bytesToString x).run P w = .ok y w ∧ VRel ρ v y ∧ H' = H := by
  unfold convStr at h
  split at h
  · rename_i he
    cases hx; cases h
    exact ⟨_, he, by simp [Conv.bytesToString], .atom _, rfl⟩
  · rename_i b off len c he
    split at h
    · rename_i cs hcs
      split at h
      · rename_i l hl
        cases h
        obtain ⟨loc, hloc⟩ := hx.place
        obtain ⟨vs, hvs, hr⟩ := hi.load hcs hloc
        obtain ⟨ns, rfl, rfl⟩ := bytesOfCells_list hl hr
        have hxs : ∃ c, x = .slice (some (loc.addr off)) len c := by
          cases hx with
          | exact e _ => rw [hloc] at e; cases e; exact ⟨_, rfl⟩
          | room e _ _ => rw [hloc] at e; cases e; exact ⟨_, rfl⟩
          | unk e _ => rw [hloc] at e; cases e; exact ⟨_, rfl⟩
        obtain ⟨c', rfl⟩ := hxs
        refine ⟨_, he, run_bytesToString w _ len c' ns (hvs w rfl), ?_, rfl⟩
        rw [foldl_push]
        have : (ByteArray.empty.data ++ (ns.map fun n => UInt8.ofNat n.toNat).toArray) = (ns.map fun n => UInt8.ofNat n.toNat).toArray := by simp
        rw [this]
        exact .atom _
      · cases h
    · cases h
  · cases h

theorem seenAt_row {b off : Nat} {cs : Array Value} {t : TypeId} {fz : Nat × Nat} (h : w.heap[b]? = some (.cells cs t fz)) : (Conv.seenAt ⟨b, off, none⟩).run P w = .ok ⟨b, off, none⟩ w := by
  simp [Conv.seenAt, viewAt, World.shape?, h]

theorem szOf_cells {t : TypeId} {n : Nat} (h : szOf P t = some n) : P.cellsOf t = n := by
  unfold szOf at h
  simp [Program.cellsOf, h]

/-- In a row, from whatever cell that begins an element. -/
theorem liesAt_row {e u : TypeId} {s : Nat} (hs : P.cellsOf e = s + 1) (hu : P.underlyingId e = P.underlyingId u) (count i n : Nat) (hn : i + n ≤ count) :
    liesAt P P.depth e count (i * (s + 1)) u n = true := by
  have hd : P.depth = (2 * (P.types.size + Made.depth) + 1) + 1 := rfl
  rw [hd]
  simp only [liesAt, Bool.or_eq_true]
  left
  rw [hd]
  simp [rowAt, hs, hn, sameLayout, hu]

theorem toUnsafe_ok (hi : Inv P ρ H w) {src dst t : TypeId} {b off : Nat} {v : AV} {x : Value} {H' : AH} (hs : P.underlying src = some (.pointer t)) (hd : P.underlying dst = some .unsafePointer)
    (h : toUnsafe P H t b off = some (v, H')) (hx : VRel ρ (.ptr b off) x) :
    ∃ y, (Conv.unsafePointer src dst x).run P w = .ok y w ∧ VRel ρ v y ∧ H' = H := by
  unfold toUnsafe at h
  split at h
  · rename_i n B hz hB
    cases hc : Nat.blt off B.cells.length with
    | false => rw [hc] at h; cases h
    | true =>
      rw [hc] at h; cases h
      rw [Nat.blt_eq] at hc
      cases hx with
      | ptr hl =>
        rename_i l
        obtain ⟨cs, fz, hcs, g1, g2, _⟩ := hi.blk b B l hB hl
        refine ⟨_, ?_, .ptr hl, rfl⟩
        have h1 : ¬ (l.off + off ≥ cs.size) := by omega
        simp [Conv.unsafePointer, run_underlying hs, run_underlying hd, Loc.addr, seenAt_row hcs, cellsIn, World.shape?, hcs, run_sizeOf hz]
        intro h2; omega
  · cases h

theorem cond_some {α : Type} {c : Bool} {x : Option α} {y : α} (h : cond c x none = some y) : c = true ∧ x = some y := by
  cases c with
  | false => cases h
  | true => exact ⟨rfl, h⟩

theorem ofUnsafe_ok (hi : Inv P ρ H w) {src dst u : TypeId} {b off : Nat} {v : AV} {x : Value} {H' : AH} (hs : P.underlying src = some .unsafePointer) (hd : P.underlying dst = some (.pointer u))
    (h : ofUnsafe P H u b off = some (v, H')) (hx : VRel ρ (.ptr b off) x) :
    ∃ y, (Conv.unsafePointer src dst x).run P w = .ok y w ∧ VRel ρ v y ∧ H' = H := by
  unfold ofUnsafe at h
  split at h
  · rename_i n B hz hB
    obtain ⟨hc, h⟩ := cond_some h
    simp only [Bool.and_eq_true] at hc
    obtain ⟨⟨hh, hu⟩, h0, hn, hcn⟩ := hc
    have hu := Nat.eq_of_beq_eq_true hu
    have h0 := Nat.eq_of_beq_eq_true h0
    have hn := Nat.eq_of_beq_eq_true hn
    have hcn := Nat.eq_of_beq_eq_true hcn
    cases h
    cases hx with
    | ptr hl =>
      rename_i l
      obtain ⟨cs, fz, hcs, g1, g2, _, _, g5⟩ := hi.blk b B l hB hl
      have hl0 := g5 hh
      refine ⟨_, ?_, .ptr hl, rfl⟩
      have hlies := liesAt_row (P := P) (e := B.elem) (u := u) hcn hu.symm (cs.size / P.cellsOf B.elem) 0 1 (by
        rw [hcn, Nat.zero_add, Nat.le_div_iff_mul_le (by omega)]; omega)
      subst h0
      rw [Nat.zero_mul] at hlies
      simp [Conv.unsafePointer, run_underlying hs, run_underlying hd, Loc.addr, seenAt_row hcs, run_sizeOf hz, hl0, variablesAt, World.shape?, hcs, hlies]
  · cases h

theorem convA_ok (hi : Inv P ρ H w) {src dst : TypeId} {a v : AV} {x : Value} {H' : AH} (h : convA P H src dst a = some (v, H')) (hx : VRel ρ a x) (hf : Free ρ H H') :
    ∃ y w' ρ', (convert src dst x).run P w = .ok y w' ∧ VRel ρ' v y ∧ Stp P ρ H w ρ' H' w' := by
  unfold convA at h
  split at h
  · rename_i hs hd
    cases hx; cases h
    exact ⟨_, w, ρ, by simp [convert, run_underlying hs, run_underlying hd, Conv.intToInt, wrapF_eq], .atom _, Stp.refl hi⟩
  · rename_i hs hd
    cases hx; cases h
    refine ⟨_, w, ρ, ?_, .atom _, Stp.refl hi⟩
    simp only [convert, Sem.run_bind, run_underlying hs, run_underlying hd, Result.andThen_ok]
    rfl
  · rename_i e s hs hd
    obtain ⟨y, w', ρ', he, h1, h2, h3⟩ := convBytes_ok hi h hf
    cases hx
    refine ⟨y, w', ρ', ?_, h2, h3⟩
    rw [← h1]
    rename_i d
    cases d <;> simp [convert, run_underlying hs, run_underlying hd, run_underlying he]
  · rename_i e hs hd _
    obtain ⟨y, he, h1, h2, rfl⟩ := convStr_ok hi h hx
    refine ⟨y, w, ρ, ?_, h2, Stp.refl hi⟩
    rw [← h1]
    have hxs : ∃ q l c, x = .slice q l c := by
      unfold convStr at h
      split at h
      · cases hx; exact ⟨_, _, _, rfl⟩
      · cases hx <;> exact ⟨_, _, _, rfl⟩
      · cases h
    obtain ⟨q, l, c, rfl⟩ := hxs
    exact run_convert_bytes_string w src dst e q l c hs he hd
  · rename_i t b off hs hd
    obtain ⟨y, h1, h2, rfl⟩ := toUnsafe_ok hi hs hd h hx
    refine ⟨y, w, ρ, ?_, h2, Stp.refl hi⟩
    rw [← h1]
    cases hx
    simp [convert, run_underlying hs, run_underlying hd]
  · rename_i u b off hs hd
    obtain ⟨y, h1, h2, rfl⟩ := ofUnsafe_ok hi hs hd h hx
    refine ⟨y, w, ρ, ?_, h2, Stp.refl hi⟩
    rw [← h1]
    cases hx
    simp [convert, run_underlying hs, run_underlying hd]
  · cases h

end Go.Am

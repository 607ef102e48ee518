/-
  The abstract machine's operations, held against the model's, one by one. No condition beyond the relation itself.
-/
import Derived.Test.YtciblegjpgpbfaaGreatDoorAmHeap
namespace Go.Am
open Go

variable {P : Program} {ρ : Map} {H : AH} {w : World}

theorem run_underlying {t : TypeId} {d : TypeDesc} (h : P.underlying t = some d) (w : World) : (underlying t).run P w = .ok d w := by
  simp [underlying, h]
theorem run_typeInfo {t : TypeId} {i : TypeInfo} (h : P.info? t = some i) (w : World) : (typeInfo t).run P w = .ok i w := by
  simp [typeInfo, h]
theorem run_sizeOf {t : TypeId} {n : Nat} (h : szOf P t = some n) (w : World) : (sizeOf t).run P w = .ok n w := by
  unfold szOf at h
  cases hi : P.info? t with
  | none => rw [hi] at h; cases h
  | some i => rw [hi] at h; simp at h; simp [sizeOf, run_typeInfo hi, h]
theorem run_bytesOf {t : TypeId} {n : Nat} (h : bytesOf P t = some n) (w : World) : ∃ i, (typeInfo t).run P w = .ok i w ∧ i.bytes = n := by
  unfold bytesOf at h
  cases hi : P.info? t with
  | none => rw [hi] at h; cases h
  | some i => rw [hi] at h; simp at h; exact ⟨i, run_typeInfo hi w, h⟩
theorem run_zeroValue {t : TypeId} {v : Value} (h : zeroOf P t = some v) (w : World) : (zeroValue t).run P w = .ok v w := by
  unfold zeroOf at h
  cases hi : P.info? t with
  | none => rw [hi] at h; cases h
  | some i => rw [hi] at h; simp at h; simp [zeroValue, run_typeInfo hi, h]
theorem zeroCells_some {t : TypeId} {z : List AV} (h : zeroCellsA P t = some z) : ∃ v, zeroOf P t = some v ∧ z = v.cells.toList.map .atom := by
  unfold zeroCellsA at h
  cases hz : zeroOf P t with
  | none => rw [hz] at h; cases h
  | some v => rw [hz] at h; exact ⟨v, rfl, (Option.some.inj h).symm⟩
theorem run_isAgg {t : TypeId} {b : Bool} (h : isAggT P t = some b) (w : World) : (isAgg t).run P w = .ok b w := by
  unfold isAggT at h
  cases hd : P.underlying t with
  | none => rw [hd] at h; cases h
  | some d =>
    rw [hd] at h
    cases d <;> simp at h <;> subst h <;> simp [isAgg, run_underlying hd]

/-- Load. -/
theorem loadA_ok (hi : Inv P ρ H w) {t : TypeId} {a : AV} {v : AV} {x : Value} (h : loadA P H t a = some v) (hx : VRel ρ a x) :
    ∃ y, (Instr.loadAt t x).run P w = .ok y w ∧ VRel ρ v y := by
  unfold loadA at h
  cases hx with
  | ptr hl =>
    rename_i b off l
    simp only at h
    cases ha : isAggT P t with
    | none => rw [ha] at h; cases h
    | some g =>
      rw [ha] at h
      cases g with
      | false =>
        simp only at h
        obtain ⟨y, hy, hr⟩ := hi.cell h hl
        refine ⟨y, ?_, hr⟩
        simp [Instr.loadAt, Instr.sureAddr, loadVar, run_isAgg ha, hy]
      | true =>
        simp only at h
        cases hs : szOf P t with
        | none => rw [hs] at h; cases h
        | some n =>
          rw [hs] at h
          simp only [Option.map_eq_some_iff] at h
          obtain ⟨l', hl', rfl⟩ := h
          obtain ⟨vs, hvs, hr⟩ := hi.load hl' hl
          have hvs := hvs w rfl
          exact ⟨.agg vs, by simp [Instr.loadAt, Instr.sureAddr, loadVar, run_isAgg ha, run_sizeOf hs, hvs], .agg hr⟩
  | _ => cases h

/-- Store. -/
theorem storeA_ok (hi : Inv P ρ H w) {t : TypeId} {a v : AV} {x y : Value} {H' : AH} (h : storeA P H t a v = some H') (hx : VRel ρ a x) (hy : VRel ρ v y) :
    ∃ w', (Instr.storeAt t x y).run P w = .ok () w' ∧ Stp P ρ H w ρ H' w' := by
  unfold storeA at h
  cases hx with
  | ptr hl =>
    rename_i b off l
    simp only at h
    split at h
    case isFalse => cases h
    rename_i hc
    simp only [Bool.and_eq_true, decide_eq_true_eq] at hc
    obtain ⟨hp, hn⟩ := hc
    have hcells := hy.cells hp
    obtain ⟨w', hw', hs⟩ := hi.store h hl hcells
    have hlen := hcells.size
    refine ⟨w', ?_, hs⟩
    simp [Instr.storeAt, Instr.sureAddr, storeVar, run_sizeOf hn.symm, hlen, hw']
  | _ => cases h

theorem pushed_newObj (o : Obj) : Pushed w o { w with heap := w.heap.push o } := ⟨rfl, rfl, rfl⟩

/-- A new variable that holds cells. -/
theorem newRow_ok (hi : Inv P ρ H w) (hf : ρ H.next = none) {e : TypeId} {as : List AV} {cs : Array Value} (hv : VRels ρ as cs.toList) (hd : Bool := false) :
    ∃ w', (newRow e cs).run P w = .ok ⟨w.heap.size, 0, none⟩ w' ∧
      Stp P ρ H w (ρ.upd H.next ⟨w.heap.size, 0, cs.size⟩) (H.push { cells := as, elem := e, own := true, head := hd }) w' := by
  have hlen := hv.size
  refine ⟨{ w with heap := w.heap.push (.cells cs e) }, by simp [newRow], hi.push (fz := (0, 0)) hf (pushed_newObj _) ?_ (by simp [hlen]) (fun _ => rfl)⟩
  simp only
  rw [hlen, ← Array.length_toList, List.take_length]
  exact hv

theorem opAlloc_ok (hi : Inv P ρ H w) {e : TypeId} {v : AV} {H' : AH} (h : opAlloc P e H = some (.value v H')) (hf : Free ρ H H') :
    ∃ y w' ρ', (Instr.alloc e true (.tuple #[])).run P w = .ok y w' ∧ VRel ρ' v y ∧ Stp P ρ H w ρ' H' w' := by
  unfold opAlloc at h
  cases hz : zeroCellsA P e with
  | none => rw [hz] at h; cases h
  | some z =>
    rw [hz] at h
    obtain ⟨u, hu, rfl⟩ := zeroCells_some hz
    simp only [Option.some.injEq, ONext.value.injEq] at h
    obtain ⟨rfl, rfl⟩ := h
    obtain ⟨w', hw', hs⟩ := newRow_ok hi (hf _ (Nat.le_refl _) (by simp)) (e := e) (VRels.atoms u.cells.toList) true
    exact ⟨_, w', _, by simp [Instr.alloc, run_zeroValue hu, newVar, hw', Loc.addr], .ptr (off := 0) (Map.upd_same _ _ _), hs⟩

theorem opBox_ok (hi : Inv P ρ H w) {e : TypeId} {x v : AV} {y : Value} {H' : AH} (h : opBox e x H = some (.value v H')) (hx : VRel ρ x y) (hf : Free ρ H H') :
    ∃ z w' ρ', (Instr.box e y).run P w = .ok z w' ∧ VRel ρ' v z ∧ Stp P ρ H w ρ' H' w' := by
  unfold opBox at h
  cases hp : x.plain with
  | false => rw [hp] at h; cases h
  | true =>
    rw [hp] at h
    simp only [cond, Option.some.injEq, ONext.value.injEq] at h
    obtain ⟨rfl, rfl⟩ := h
    obtain ⟨w', hw', hs⟩ := newRow_ok hi (hf _ (Nat.le_refl _) (by simp)) (e := e) (hx.cells hp)
    exact ⟨_, w', _, by simp [Instr.box, newVar, hw', Loc.addr], .ptr (off := 0) (Map.upd_same _ _ _), hs⟩

/-- A part of an aggregate. -/
theorem partA_ok {t : TypeId} {as : List AV} {cs : Array Value} {off : Nat} {v : AV} (h : partA P t as off = some v) (hc : VRels ρ as cs.toList) :
    ∃ y, (part t cs off).run P w = .ok y w ∧ VRel ρ v y := by
  unfold partA at h
  cases ha : isAggT P t with
  | none => rw [ha] at h; cases h
  | some g =>
    rw [ha] at h
    cases g with
    | true =>
      cases hs : szOf P t with
      | none => rw [hs] at h; cases h
      | some n =>
        rw [hs] at h
        simp only at h
        split at h
        case isFalse => cases h
        rename_i hle
        cases h
        refine ⟨.agg (cs.extract off (off + n)), by simp [part, run_isAgg ha, run_sizeOf hs], .agg ?_⟩
        have := (hc.drop off).take n
        rw [Array.toList_extract, List.extract_eq_take_drop, Nat.add_sub_cancel_left]
        exact this
    | false =>
      cases hs : szOf P t <;> rw [hs] at h <;> simp only at h <;>
      · obtain ⟨y, hy, hr⟩ := hc.has h
        refine ⟨y, ?_, hr⟩
        rw [Array.getElem?_toList] at hy
        simp [part, run_isAgg ha, hy]

theorem fold_overlay (v : Array Value) (off : Nat) : ∀ (cs : Array Value), off + v.size ≤ cs.size →
    (v.zipIdx.foldl (fun cs (x : Value × Nat) => cs.setIfInBounds (off + x.2) x.1) cs).toList = cs.toList.take off ++ v.toList ++ cs.toList.drop (off + v.size) := by
  have key : ∀ (l : List Value) (i : Nat) (cs : Array Value), off + i + l.length ≤ cs.size →
      ((l.zipIdx i).foldl (fun (cs : Array Value) (x : Value × Nat) => cs.setIfInBounds (off + x.2) x.1) cs).toList = cs.toList.take (off + i) ++ l ++ cs.toList.drop (off + i + l.length) := by
    intro l
    induction l with
    | nil => intro i cs _; simp
    | cons a l ih =>
      intro i cs h
      simp only [List.zipIdx_cons, List.foldl_cons]
      rw [ih (i + 1) _ (by simp at h ⊢; omega)]
      have e := list_seg_step cs.toList (off + i) a l (by simp at h ⊢; omega)
      simpa [Array.toList_setIfInBounds, Nat.add_assoc] using e
  intro cs h
  have := key v.toList 0 cs (by simpa using h)
  rw [← Array.foldl_toList, Array.toList_zipIdx]
  simpa using this

theorem fillA_ok {place : Nat → Option (Nat × Nat)} {pa : List (Nat × AV)} {pc : List (Nat × Value)} (hp : VRels ρ (pa.map (·.2)) (pc.map (·.2))) (hk : pa.map (·.1) = pc.map (·.1)) :
    ∀ {as r : List AV} {cs : Array Value}, fillA place as pa = some r → VRels ρ as cs.toList → ∃ ds, Instr.fill place cs pc = some ds ∧ VRels ρ r ds.toList := by
  induction pa generalizing pc with
  | nil =>
    intro as r cs h hc
    cases pc with
    | nil => simp only [fillA, Option.some.injEq] at h; subst h; exact ⟨cs, rfl, hc⟩
    | cons _ _ => simp at hk
  | cons x pa ih =>
    intro as r cs h hc
    cases pc with
    | nil => simp at hk
    | cons y pc =>
      obtain ⟨i, v⟩ := x
      obtain ⟨j, u⟩ := y
      simp only [List.map_cons, List.cons.injEq] at hk
      obtain ⟨rfl, hk⟩ := hk
      simp only [List.map_cons] at hp
      cases hp with
      | cons hv ht =>
        simp only [fillA] at h
        cases hpl : place i with
        | none => rw [hpl] at h; cases h
        | some os =>
          obtain ⟨off, size⟩ := os
          rw [hpl] at h
          simp only at h
          split at h
          case isTrue => cases h
          rename_i hcond
          simp only [Bool.or_eq_true, Bool.not_eq_true', not_or, ne_eq, decide_eq_true_eq, Decidable.not_not] at hcond
          have hplain : v.plain = true := by
            cases hh : v.plain with
            | true => rfl
            | false => exact absurd hh (by simpa using hcond.1.1)
          have hcl := hv.cells hplain
          have hlen := hcl.size
          have hcs := hc.size
          have hfit : off + u.cells.size ≤ cs.size := by have := hcond.2; omega
          have hsz : u.cells.size = size := by have := hcond.1.2; omega
          simp only [Instr.fill, hpl]
          rw [if_neg (by simp [hsz]; omega)]
          refine ih ht hk h ?_
          rw [fold_overlay _ _ _ hfit]
          unfold overlay
          rw [hlen]
          exact ((hc.take off).append hcl).append (hc.drop _)

theorem partsA_ok {ρa : Operand → AV} {ρc : Operand → Value} (he : ∀ x, VRel ρ (ρa x) (ρc x)) (parts : Array (Nat × Operand)) :
    VRels ρ ((partsA ρa parts).map (·.2)) (((parts.map fun (i, x) => (i, ρc x)).toList).map (·.2)) ∧ (partsA ρa parts).map (·.1) = ((parts.map fun (i, x) => (i, ρc x)).toList).map (·.1) := by
  unfold partsA
  rw [Array.toList_map]
  constructor
  · generalize parts.toList = l
    induction l with
    | nil => exact .nil
    | cons x l ih => exact .cons (he _) ih
  · simp

theorem run_places (P : Program) : ∀ (fs : List Field) (w : World), (∀ f ∈ fs, (szOf P f.type).isSome = true) →
    (fs.mapM (fun (f : Field) => (Prod.mk f.offset <$> sizeOf f.type : Sem (Nat × Nat)))).run P w = .ok (fs.map fun f => (f.offset, (szOf P f.type).getD 0)) w
  | [], w, _ => by simp
  | f :: fs, w, h => by
    obtain ⟨n, hn⟩ := Option.isSome_iff_exists.1 (h f (by simp))
    have ih := run_places P fs w (fun g hg => h g (by simp [hg]))
    simp [List.mapM_cons, run_sizeOf hn, ih, hn]

theorem opBuild_ok {t : TypeId} {pa : List (Nat × AV)} {pc : Array (Nat × Value)} {v : AV} {H' : AH} (h : opBuild P t pa H = some (.value v H'))
    (hp : VRels ρ (pa.map (·.2)) (pc.toList.map (·.2))) (hk : pa.map (·.1) = pc.toList.map (·.1)) :
    H' = H ∧ ∃ y, (Instr.build t pc).run P w = .ok y w ∧ VRel ρ v y := by
  unfold opBuild at h
  cases hd : P.underlying t with
  | none => rw [hd] at h; cases h
  | some d =>
    cases hz : zeroCellsA P t with
    | none => rw [hd, hz] at h; cases d <;> cases h
    | some z =>
      rw [hd, hz] at h
      obtain ⟨u, hu, rfl⟩ := zeroCells_some hz
      cases d with
      | struct fs =>
        simp only at h
        cases hall : (fs.toList.all fun f => (szOf P f.type).isSome) with
        | false => rw [hall] at h; cases h
        | true =>
          rw [hall] at h
          simp only [cond, opVal, Option.map_map] at h
          rw [List.all_eq_true] at hall
          cases hfl : fillA (fieldsPlace P fs) (u.cells.toList.map .atom) pa with
          | none => rw [hfl] at h; cases h
          | some r =>
            rw [hfl] at h
            simp only [Option.map_some, Function.comp, Option.some.injEq, ONext.value.injEq] at h
            obtain ⟨rfl, rfl⟩ := h
            refine ⟨rfl, ?_⟩
            have hplace : (fun i => (((fs.toList.map fun f => (f.offset, (szOf P f.type).getD 0)).toArray)[i]? : Option (Nat × Nat))) = fieldsPlace P fs := by
              funext i
              unfold fieldsPlace
              simp only [List.getElem?_toArray, List.getElem?_map, Array.getElem?_toList]
              cases hf : fs[i]? with
              | none => rfl
              | some f =>
                have hm : f ∈ fs.toList := by rw [← Array.getElem?_toList] at hf; exact List.mem_of_getElem? hf
                obtain ⟨n, hn⟩ := Option.isSome_iff_exists.1 (hall f hm)
                simp [hn]
            obtain ⟨ds, hds, hr⟩ := fillA_ok hp hk hfl (VRels.atoms u.cells.toList)
            refine ⟨.agg ds, ?_, .agg hr⟩
            simp only [Instr.build, Sem.run_bind, run_zeroValue hu, Result.andThen_ok, run_underlying hd]
            simp only [bind_pure_comp, Array.mapM_eq_mapM_toList, Sem.run_map, run_places P fs.toList w hall, Result.andThen_ok, hplace, hds, Sem.run_pure]
      | array n e =>
        simp only at h
        cases hs : szOf P e with
        | none => rw [hs] at h; cases h
        | some size =>
          rw [hs] at h
          simp only [opVal, Option.map_map] at h
          cases hfl : fillA (fun i => some (i * size, size)) (u.cells.toList.map .atom) pa with
          | none => rw [hfl] at h; cases h
          | some r =>
            rw [hfl] at h
            simp only [Option.map_some, Function.comp, Option.some.injEq, ONext.value.injEq] at h
            obtain ⟨rfl, rfl⟩ := h
            obtain ⟨ds, hds, hr⟩ := fillA_ok hp hk hfl (VRels.atoms u.cells.toList)
            exact ⟨rfl, .agg ds, by simp [Instr.build, run_zeroValue hu, run_underlying hd, run_sizeOf hs, hds], .agg hr⟩
      | _ => cases h

theorem repeat_atoms (z : Array Value) : ∀ n, repeatCells (z.toList.map .atom) n = (((Array.range (n * z.size)).map (z[· % z.size]!)).toList).map .atom := by
  intro n
  induction n with
  | zero => simp [repeatCells]
  | succ n ih =>
    unfold repeatCells
    have : repeatCells (z.toList.map .atom) n ++ z.toList.map .atom = z.toList.map .atom ++ repeatCells (z.toList.map .atom) n := by
      clear ih
      induction n with
      | zero => simp [repeatCells]
      | succ n ih => unfold repeatCells; rw [List.append_assoc, ih]
    rw [← this, ih]
    rw [show (n + 1) * z.size = n * z.size + z.size from by rw [Nat.add_mul, Nat.one_mul]]
    have e : (Array.range (n * z.size + z.size)).toList = (Array.range (n * z.size)).toList ++ (List.range z.size).map (n * z.size + ·) := by
      simp [List.range_add]
    simp only [Array.toList_map, e, List.map_append, List.map_map]
    congr 1
    apply List.ext_getElem?
    intro i
    simp only [List.getElem?_map]
    by_cases hi : i < z.size
    · simp only [List.getElem?_range hi, Option.map_some, Function.comp]
      rw [show (n * z.size + i) % z.size = i from by rw [Nat.mul_comm, Nat.mul_add_mod, Nat.mod_eq_of_lt hi]]
      simp [hi]
    · rw [List.getElem?_eq_none (by simp; omega), List.getElem?_eq_none (by simp; omega)]; rfl

theorem opBuildSlice_ok (hi : Inv P ρ H w) {t : TypeId} {len : Nat} {pa : List (Nat × AV)} {pc : Array (Nat × Value)} {v : AV} {H' : AH} (h : opBuildSlice P t len pa H = some (.value v H'))
    (hp : VRels ρ (pa.map (·.2)) (pc.toList.map (·.2))) (hk : pa.map (·.1) = pc.toList.map (·.1)) (hf : Free ρ H H') :
    ∃ y w' ρ', (Instr.buildSlice t len pc).run P w = .ok y w' ∧ VRel ρ' v y ∧ Stp P ρ H w ρ' H' w' := by
  unfold opBuildSlice at h
  cases hd : P.underlying t with
  | none => rw [hd] at h; cases h
  | some d =>
    rw [hd] at h
    cases d with
    | slice e =>
      simp only at h
      cases hs : szOf P e with
      | none => rw [hs] at h; cases h
      | some size =>
        cases hz : zeroCellsA P e with
        | none => rw [hs, hz] at h; cases h
        | some z =>
          rw [hs, hz] at h
          obtain ⟨u, hu, rfl⟩ := zeroCells_some hz
          simp only at h
          cases hc : (Nat.ble (len * size) (2 ^ 24) && Nat.beq (u.cells.toList.map AV.atom).length size) with
          | false => rw [hc] at h; cases h
          | true =>
            rw [hc] at h
            simp only [cond] at h
            rw [Bool.and_eq_true] at hc
            have hle : len * size ≤ 2 ^ 24 := Nat.le_of_ble_eq_true hc.1
            have hsz : u.cells.size = size := by have := Nat.eq_of_beq_eq_true hc.2; simpa using this
            cases hfl : fillA (fun i => some (i * size, size)) (repeatCells (u.cells.toList.map .atom) len) pa with
            | none => rw [hfl] at h; cases h
            | some r =>
              rw [hfl] at h
              simp only [Option.some.injEq, ONext.value.injEq] at h
              obtain ⟨rfl, rfl⟩ := h
              rw [repeat_atoms] at hfl
              obtain ⟨ds, hds, hr⟩ := fillA_ok (cs := (Array.range (len * u.cells.size)).map (u.cells[· % u.cells.size]!)) hp hk hfl (VRels.atoms _)
              obtain ⟨w', hw', hstp⟩ := newRow_ok hi (hf _ (Nat.le_refl _) (by simp)) (e := e) hr
              have hlow : ¬ (len * size > 2 ^ 24) := by omega
              refine ⟨.slice (some ⟨w.heap.size, 0, none⟩) len len, w', _, ?_, ?_, hstp⟩
              · rw [hsz] at hds
                have hfit : ¬ (2 ^ 24 < len * size) := hlow
                by_cases h0 : len * size = 0
                · have e0 : (Array.range (len * size)).map (u.cells[· % size]!) = #[] := by rw [h0]; simp
                  rw [e0] at hds
                  have e1 : Array.map (fun _ => (default : Value)) (Array.range 0) = #[] := by simp
                  simp [Instr.buildSlice, run_underlying hd, run_sizeOf hs, h0, e1, hds, hw']
                · simp [Instr.buildSlice, run_underlying hd, run_sizeOf hs, hfit, h0, run_zeroValue hu, hsz, hds, hw']
              · have := VRel.exact (ρ := ρ.upd H.next ⟨w.heap.size, 0, ds.size⟩) (b := H.next) (off := 0) (len := len) (c := len) (Map.upd_same _ _ _) (Nat.le_refl _)
                simpa [Loc.addr] using this
    | _ => cases h

end Go.Am

/-
  The abstract machine's heap, held against the model's: reading, writing, new blocks. No condition beyond the relation itself.
-/
import Derived.Test.YtciblegjpgpbfaaGreatDoorAmRel
import Derived.Laws.CopyRow
import Derived.Laws.Rows
import Derived.Laws.Cells
namespace Go.Am
open Go

theorem heap_setRow_size (w : World) (g : Nat) (cs : Array Value) : (w.setRow g cs).heap.size = w.heap.size := by
  simp [World.setRow]
theorem heap_setRow_ne (w : World) (g k : Nat) (cs : Array Value) (h : k ≠ g) : (w.setRow g cs).heap[k]? = w.heap[k]? := by
  simp only [World.setRow, Array.getElem?_modify]
  rw [if_neg (fun e => h e.symm)]

theorem addr_add (g o i : Nat) : (⟨g, o, none⟩ : Addr).add i = ⟨g, o + i, none⟩ := by
  unfold Addr.add; split <;> simp_all

theorem oneV_cell (v : Value) : oneV v = v.oneCell' := by cases v <;> rfl

/-- Cells written into a row of which they are not frozen. -/
theorem run_storeCells_free (P : Program) (g o : Nat) (t : TypeId) (fz : Nat × Nat) : ∀ (vs : List Value) (i : Nat) (cur : Array Value) (w : World), w.heap[g]? = some (.cells cur t fz) →
    (∀ j, o + i ≤ j → j < o + i + vs.length → ¬ (fz.1 ≤ j ∧ j < fz.2)) → o + i + vs.length ≤ cur.size → (∀ v ∈ vs, oneV v = true) →
    (storeCells ⟨g, o, none⟩ vs i).run P w = .ok () (w.setRow g (cur.toList.take (o + i) ++ vs ++ cur.toList.drop (o + i + vs.length)).toArray)
  | [], i, cur, w, hg, _, _, _ => by
    simp only [storeCells, List.append_nil, List.length_nil, Nat.add_zero, List.take_append_drop, Array.toArray_toList]
    rw [setRow_self w g cur t fz hg]
    rfl
  | v :: rest, i, cur, w, hg, hfz, hl, h1 => by
    have hi : o + i < cur.size := by simp at hl; omega
    have hcell : w.cell? ⟨g, o + i, none⟩ = some cur[o + i] := by simp [World.cell?, hg, hi]
    have hfro : w.frozen? ⟨g, o + i, none⟩ = false := by
      have := hfz (o + i) (Nat.le_refl _) (by simp)
      obtain ⟨lo, hi'⟩ := fz
      simp only [World.frozen?, hg, Bool.and_eq_false_iff, decide_eq_false_iff_not]
      simp only at this
      omega
    have hst : (store ((⟨g, o, none⟩ : Addr).add i) v).run P w = .ok () (w.setRow g (cur.setIfInBounds (o + i) v)) := by
      rw [addr_add, run_store P w _ v _ (by rw [← oneV_cell]; exact h1 v (by simp)), hcell]
      simp [hfro, setCell_eq_setRow w g (o + i) cur t fz v hg]
    have ih := run_storeCells_free P g o t fz rest (i + 1) (cur.setIfInBounds (o + i) v) (w.setRow g (cur.setIfInBounds (o + i) v)) (setRow_heap w g cur _ t _ hg)
      (fun j h1 h2 => hfz j (by omega) (by simp; omega)) (by simp at hl ⊢; omega) (fun x hx => h1 x (by simp [hx]))
    simp only [storeCells, Sem.run_bind, hst, Result.andThen_ok, ih, setRow_setRow]
    congr 3
    have e := list_seg_step cur.toList (o + i) v rest (by simp at hl ⊢; omega)
    simpa [Array.toList_setIfInBounds, Nat.add_assoc] using e

variable {P : Program} {ρ : Map} {H : AH} {w : World}

theorem AH.read_some {b off n : Nat} {l : List AV} (h : H.read b off n = some l) : ∃ B, H.get b = some B ∧ off + n ≤ B.cells.length ∧ l = (B.cells.drop off).take n := by
  unfold AH.read at h
  cases hB : H.get b with
  | none => rw [hB] at h; cases h
  | some B =>
    rw [hB] at h
    simp only [cutA_eq] at h
    split at h
    · rename_i hle; exact ⟨B, rfl, hle, (Option.some.inj h).symm⟩
    · cases h
theorem AH.readOne_some {b off : Nat} {a : AV} (h : H.readOne b off = some a) : ∃ B, H.get b = some B ∧ B.cells[off]? = some a := by
  unfold AH.readOne at h
  cases hB : H.get b with
  | none => rw [hB] at h; cases h
  | some B => rw [hB] at h; simp only [nthA_eq] at h; exact ⟨B, rfl, h⟩

theorem cell_row {g o : Nat} {cs : Array Value} {t : TypeId} {fz : Nat × Nat} (h : w.heap[g]? = some (.cells cs t fz)) : w.cell? ⟨g, o, none⟩ = cs[o]? := by
  simp [World.cell?, h]

/-- A cell that the abstract heap holds, in the model's. -/
theorem Inv.cell (hi : Inv P ρ H w) {b off : Nat} {a : AV} {l : Loc} (h : H.readOne b off = some a) (hl : ρ b = some l) :
    ∃ v, w.cell? (l.addr off) = some v ∧ VRel ρ a v := by
  obtain ⟨B, hB, ha⟩ := AH.readOne_some h
  obtain ⟨cs, fz, hcs, h1, h2, h3, _⟩ := hi.blk b B l hB hl
  obtain ⟨v, hv, hr⟩ := h3.has ha
  refine ⟨v, ?_, hr⟩
  rw [Loc.addr, cell_row hcs]
  have : off < B.cells.length := (List.getElem?_eq_some_iff.1 ha).1
  rw [List.getElem?_take_of_lt this, List.getElem?_drop] at hv
  simpa using hv

/-- Cells that the abstract heap holds, loaded in the model's. -/
theorem Inv.load (hi : Inv P ρ H w) {b off n : Nat} {l : List AV} {loc : Loc} (h : H.read b off n = some l) (hl : ρ b = some loc) :
    ∃ vs : Array Value, (∀ w' : World, w'.heap = w.heap → (loadCells (loc.addr off) n).run P w' = .ok vs w') ∧ VRels ρ l vs.toList := by
  obtain ⟨B, hB, hle, rfl⟩ := AH.read_some h
  obtain ⟨cs, fz, hcs, h1, h2, h3, _⟩ := hi.blk b B loc hB hl
  have hlen : ((cs.toList.drop (loc.off + off)).take n).length = n := by simp; omega
  refine ⟨((cs.toList.drop (loc.off + off)).take n).toArray, fun w' hw' => ?_, ?_⟩
  · have hcs : w'.heap[loc.blk]? = some (.cells cs B.elem fz) := by rw [hw']; exact hcs
    have := run_loadCells_list (P := P) w' (loc.addr off) ((cs.toList.drop (loc.off + off)).take n) (fun j v hv => by
      have hj : j < n := by rw [← hlen]; exact (List.getElem?_eq_some_iff.1 hv).1
      rw [Loc.addr, addr_add, cell_row hcs]
      rw [List.getElem?_take_of_lt hj, List.getElem?_drop] at hv
      simpa using hv)
    rw [hlen] at this
    exact this
  · have h4 := (h3.drop off).take n
    rw [List.drop_take, List.drop_drop, List.take_take, Nat.min_eq_left (by omega)] at h4
    exact h4

/-- The heap alone matters. -/
theorem Inv.of_heap {w' : World} (hi : Inv P ρ H w) (h : w'.heap = w.heap) : Inv P ρ H w' where
  lt := fun b l e => by rw [h]; exact hi.lt b l e
  blk := fun b B l e1 e2 => by
    obtain ⟨cs, fz, e3, rest⟩ := hi.blk b B l e1 e2
    exact ⟨cs, fz, by rw [h]; exact e3, rest⟩
  apart := hi.apart
  old := hi.old
  glob := hi.glob
theorem Stp.of_heap {w' : World} (hi : Inv P ρ H w) (h : w'.heap = w.heap) (hio : Io w w') : Stp P ρ H w ρ H w' :=
  { Stp.refl hi with io := hio, inv := hi.of_heap h, size := by rw [h]; exact Nat.le_refl _, frame := fun k _ _ => by rw [h]
                     made := fun b B' l h1 h2 _ => by have := hi.old b B' h2; omega }

/-- Cells of an own block written over. -/
theorem Inv.store (hi : Inv P ρ H w) {b off : Nat} {as : List AV} {vs : List Value} {H' : AH} {l : Loc} (h : H.write b off as = some H') (hl : ρ b = some l) (hv : VRels ρ as vs) :
    ∃ w', (storeCells (l.addr off) vs).run P w = .ok () w' ∧ Stp P ρ H w ρ H' w' := by
  unfold AH.write at h
  cases hB : H.get b with
  | none => rw [hB] at h; cases h
  | some B =>
    rw [hB] at h
    simp only at h
    cases hc : (B.own && (!B.fz && as.all AV.one)) with
    | false => rw [hc] at h; cases h
    | true =>
      rw [hc] at h
      simp only [Bool.and_eq_true, Bool.not_eq_true'] at hc
      obtain ⟨ho, hz, h1⟩ := hc
      simp only [cond, layA_eq] at h
      split at h
      case isFalse => cases h
      rename_i hle
      have hH' : H' = H.put b (some { cells := overlay B.cells off as, elem := B.elem, own := B.own, fz := B.fz, head := B.head }) := (Option.some.inj h).symm
      subst hH'
      obtain ⟨cs, fz, hcs, g1, g2, g3, g4⟩ := hi.blk b B l hB hl
      have hlen := hv.length
      have g4' := g4.1 ho
      rw [hz] at g4'
      simp only [Bool.false_eq_true, false_and, or_false] at g4'
      have hrun := run_storeCells_free P l.blk (l.off + off) B.elem fz vs 0 cs w hcs (fun j h1 h2 => by omega) (by omega) (hv.allOne h1)
      simp only [Nat.add_zero] at hrun
      generalize hcs' : (cs.toList.take (l.off + off) ++ vs ++ cs.toList.drop (l.off + off + vs.length)).toArray = cs' at hrun
      have hsz : cs'.size = cs.size := by rw [← hcs']; simp; omega
      refine ⟨w.setRow l.blk cs', hrun, ?_⟩
      have hheap : (w.setRow l.blk cs').heap[l.blk]? = some (.cells cs' B.elem fz) := setRow_heap w l.blk cs cs' B.elem fz hcs
      have hown : VRels ρ (overlay B.cells off as) ((cs'.toList.drop l.off).take (overlay B.cells off as).length) := by
        have hol : (overlay B.cells off as).length = B.cells.length := by unfold overlay; simp; omega
        rw [hol]
        have e : (cs'.toList.drop l.off).take B.cells.length =
            ((cs.toList.drop l.off).take B.cells.length).take off ++ vs ++ ((cs.toList.drop l.off).take B.cells.length).drop (off + as.length) := by
          rw [← hcs', hlen]
          apply List.ext_getElem?
          intro j
          by_cases hj : j < B.cells.length
          · rw [List.getElem?_take_of_lt hj, List.getElem?_drop]
            by_cases h1 : j < off
            · rw [List.getElem?_append_left (by simp; omega), List.getElem?_append_left (by simp; omega), List.getElem?_append_left (by simp; omega), List.getElem?_append_left (by simp; omega)]
              rw [List.getElem?_take_of_lt (by omega), List.getElem?_take_of_lt h1, List.getElem?_take_of_lt hj, List.getElem?_drop]
            · by_cases h2 : j < off + vs.length
              · rw [List.getElem?_append_left (by simp; omega), List.getElem?_append_right (by simp; omega), List.getElem?_append_left (by simp; omega), List.getElem?_append_right (by simp; omega)]
                congr 1
                simp; omega
              · rw [List.getElem?_append_right (by simp; omega), List.getElem?_append_right (by simp; omega), List.getElem?_drop, List.getElem?_drop]
                rw [List.getElem?_take_of_lt (by simp; omega), List.getElem?_drop]
                congr 1
                simp; omega
          · rw [List.getElem?_eq_none (by simp; omega), List.getElem?_eq_none (by simp; omega)]
        rw [e]
        exact ((g3.take off).append hv).append (g3.drop (off + as.length))
      have hol : (overlay B.cells off as).length = B.cells.length := by unfold overlay; simp; omega
      refine { io := ⟨rfl, rfl⟩, inv := ?_, next := Nat.le_refl _, same := fun _ _ => rfl, size := by rw [heap_setRow_size]; exact Nat.le_refl _, kept := ?_, made := ?_, frame := ?_ }
      · refine { lt := fun b' l' e => by rw [heap_setRow_size]; exact hi.lt b' l' e, blk := ?_, apart := ?_, old := ?_, glob := hi.glob }
        · intro b' B' l' e1 e2
          by_cases hb : b' = b
          · subst hb
            rw [AH.get_put_same] at e1
            cases e1
            rw [hl] at e2; cases e2
            refine ⟨cs', fz, hheap, by rw [hol]; exact g1, by omega, hown, fun _ => .inl g4', g4.2⟩
          · rw [AH.get_put_ne _ _ hb] at e1
            obtain ⟨ds, fz', k1, k2, k3, k4, k5⟩ := hi.blk b' B' l' e1 e2
            by_cases hblk : l'.blk = l.blk
            · exact absurd hblk.symm (hi.apart b b' B B' l l' (fun e => hb e.symm) hB e1 hl e2 ho)
            · exact ⟨ds, fz', by rw [heap_setRow_ne _ _ _ _ hblk]; exact k1, k2, k3, k4, k5⟩
        · intro b1 b2 B1 B2 l1 l2 hne e1 e2 e3 e4 o1
          by_cases hb1 : b1 = b
          · subst hb1
            rw [AH.get_put_ne _ _ (fun e => hne e.symm)] at e2
            exact hi.apart b1 b2 B B2 l1 l2 hne hB e2 e3 e4 ho
          · rw [AH.get_put_ne _ _ hb1] at e1
            by_cases hb2 : b2 = b
            · subst hb2
              exact hi.apart b1 b2 B1 B l1 l2 hne e1 hB e3 e4 o1
            · rw [AH.get_put_ne _ _ hb2] at e2
              exact hi.apart b1 b2 B1 B2 l1 l2 hne e1 e2 e3 e4 o1
        · intro b' B' e
          by_cases hb : b' = b
          · subst hb; exact hi.old b' B hB
          · rw [AH.get_put_ne _ _ hb] at e; exact hi.old b' B' e
      · intro b' B' _ e
        by_cases hb : b' = b
        · subst hb; exact ⟨B, hB, fun _ => ho⟩
        · rw [AH.get_put_ne _ _ hb] at e; exact ⟨B', e, id⟩
      · intro b' B' l' hb e _
        have : b' < H.next := by
          by_cases h : b' = b
          · subst h; exact hi.old b' B hB
          · rw [AH.get_put_ne _ _ h] at e; exact hi.old b' B' e
        omega
      · intro k hk hown'
        exact heap_setRow_ne _ _ _ _ (fun e => hown' b B l hB ho hl e.symm)

def Map.upd (ρ : Map) (b : Nat) (l : Loc) : Map := fun c => if c = b then some l else ρ c
theorem Map.upd_same (ρ : Map) (b : Nat) (l : Loc) : ρ.upd b l b = some l := by simp [Map.upd]
theorem Map.upd_ne (ρ : Map) {b c : Nat} (l : Loc) (h : c ≠ b) : ρ.upd b l c = ρ c := by simp [Map.upd, h]
theorem Map.le_upd (ρ : Map) {b : Nat} (l : Loc) (h : ρ b = none) : Map.le ρ (ρ.upd b l) := fun c k e => by
  by_cases hc : c = b
  · subst hc; rw [h] at e; cases e
  · rw [Map.upd_ne _ _ hc]; exact e

/-- A world with one block more. -/
def Pushed (w : World) (o : Obj) (w' : World) : Prop := w'.heap = w.heap.push o ∧ Io w w'

theorem Pushed.new {o : Obj} {w' : World} (h : Pushed w o w') : w'.heap[w.heap.size]? = some o := by rw [h.1]; simp
theorem Pushed.old {o : Obj} {w' : World} (h : Pushed w o w') {k : Nat} (hk : k < w.heap.size) : w'.heap[k]? = w.heap[k]? := by
  rw [h.1, Array.getElem?_push]; rw [if_neg (by omega)]
theorem Pushed.size {o : Obj} {w' : World} (h : Pushed w o w') : w'.heap.size = w.heap.size + 1 := by rw [h.1]; simp

/-- A block of one's own more, all that it bears known at its head. -/
theorem Inv.push (hi : Inv P ρ H w) (hf : ρ H.next = none) {B : Blk} {cs : Array Value} {fz : Nat × Nat} {w' : World} (hw : Pushed w (.cells cs B.elem fz) w')
    (hB : VRels ρ B.cells (cs.toList.take B.cells.length)) (hlen : B.cells.length ≤ cs.size) (hfz : B.own = true → fz.1 = fz.2) :
    Stp P ρ H w (ρ.upd H.next ⟨w.heap.size, 0, cs.size⟩) (H.push B) w' := by
  have hle := Map.le_upd ρ ⟨w.heap.size, 0, cs.size⟩ hf
  refine { io := hw.2, inv := ?_, next := by simp, same := ?_, size := by rw [hw.size]; omega, kept := ?_, made := ?_, frame := fun k hk _ => hw.old hk }
  · refine { lt := ?_, blk := ?_, apart := ?_, old := ?_, glob := ?_ }
    · intro b l e
      by_cases hb : b = H.next
      · subst hb; rw [Map.upd_same] at e; cases e; rw [hw.size]; simp
      · rw [Map.upd_ne _ _ hb] at e; rw [hw.size]; have := hi.lt b l e; omega
    · intro b C l e1 e2
      by_cases hb : b = H.next
      · subst hb
        rw [AH.get_push_same] at e1; cases e1
        rw [Map.upd_same] at e2; cases e2
        refine ⟨cs, fz, hw.new, hlen, by simp, by simpa using hB.mono hle, fun o => .inl (hfz o), fun _ => rfl⟩
      · rw [AH.get_push_ne _ _ hb] at e1
        rw [Map.upd_ne _ _ hb] at e2
        obtain ⟨ds, fz', k1, k2, k3, k4, k5⟩ := hi.blk b C l e1 e2
        exact ⟨ds, fz', by rw [hw.old (hi.lt b l e2)]; exact k1, k2, k3, k4.mono hle, k5⟩
    · intro b1 b2 B1 B2 l1 l2 hne e1 e2 e3 e4 o1
      by_cases hb1 : b1 = H.next
      · subst hb1
        rw [Map.upd_same] at e3; cases e3
        rw [Map.upd_ne _ _ (fun e => hne e.symm)] at e4
        have := hi.lt b2 l2 e4
        simp; omega
      · rw [AH.get_push_ne _ _ hb1] at e1
        rw [Map.upd_ne _ _ hb1] at e3
        by_cases hb2 : b2 = H.next
        · subst hb2
          rw [Map.upd_same] at e4; cases e4
          have := hi.lt b1 l1 e3
          simp; omega
        · rw [AH.get_push_ne _ _ hb2] at e2
          rw [Map.upd_ne _ _ hb2] at e4
          exact hi.apart b1 b2 B1 B2 l1 l2 hne e1 e2 e3 e4 o1
    · intro b C e
      by_cases hb : b = H.next
      · subst hb; simp
      · rw [AH.get_push_ne _ _ hb] at e; have := hi.old b C e; simp; omega
    · intro g hg
      obtain ⟨t, ht⟩ := hi.glob g hg
      exact ⟨t, hle _ _ ht⟩
  · intro b hb
    simp at hb
    exact Map.upd_ne _ _ (by omega)
  · intro b C hb e
    rw [AH.get_push_ne _ _ (by omega)] at e
    exact ⟨C, e, id⟩
  · intro b C l hb e e2
    have hbn : b = H.next := by
      by_cases h : b = H.next
      · exact h
      · rw [AH.get_push_ne _ _ h] at e; have := hi.old b C e; omega
    subst hbn
    rw [Map.upd_same] at e2; cases e2
    exact .inl (Nat.le_refl _)

theorem push_get_none {b c : Nat} {B2 C : Blk} (e : ((H.put b none).push B2).get c = some C) : (c = H.next ∧ C = B2) ∨ (c ≠ H.next ∧ c ≠ b ∧ H.get c = some C) := by
  by_cases hc : c = H.next
  · subst hc
    have : ((H.put b none).push B2).get (H.put b none).next = some B2 := AH.get_push_same _ _
    rw [AH.next_put] at this
    rw [this] at e
    exact .inl ⟨rfl, (Option.some.inj e).symm⟩
  · rw [AH.get_push_ne _ _ (by simpa using hc)] at e
    by_cases hb : c = b
    · subst hb; rw [AH.get_put_same] at e; cases e
    · rw [AH.get_put_ne _ _ hb] at e
      exact .inr ⟨hc, hb, e⟩

/-- An own block given up, another made in its place: of whatever world that fits. -/
theorem Inv.replace (hi : Inv P ρ H w) (hf : ρ H.next = none) {b : Nat} {B B2 : Blk} {l l2 : Loc} (hB : H.get b = some B) (hl : ρ b = some l) (ho : B.own = true) {w' : World}
    (hsz : w.heap.size ≤ w'.heap.size) (hlt : l2.blk < w'.heap.size)
    (hother : ∀ k, k < w.heap.size → k ≠ l.blk → w'.heap[k]? = w.heap[k]?)
    (hnew : BlkOk (ρ.upd H.next l2) B2 l2 w')
    (hplace : w.heap.size ≤ l2.blk ∨ l2.blk = l.blk) (ho2 : B2.own = true) (hio : Io w w') :
    Stp P ρ H w (ρ.upd H.next l2) ((H.put b none).push B2) w' := by
  have hle := Map.le_upd ρ l2 hf
  have hapart2 : ∀ c C k, c ≠ b → H.get c = some C → ρ c = some k → l2.blk ≠ k.blk := fun c C k hne e1 e2 => by
    rcases hplace with h | h1
    · have := hi.lt c k e2; omega
    · rw [h1]; exact hi.apart b c B C l k (fun e => hne e.symm) hB e1 hl e2 ho
  refine { io := hio, inv := ?_, next := by simp, same := ?_, size := hsz, kept := ?_, made := ?_, frame := ?_ }
  · refine { lt := ?_, blk := ?_, apart := ?_, old := ?_, glob := ?_ }
    · intro c k e
      by_cases hc : c = H.next
      · subst hc; rw [Map.upd_same] at e; cases e; exact hlt
      · rw [Map.upd_ne _ _ hc] at e; have := hi.lt c k e; omega
    · intro c C k e1 e2
      rcases push_get_none e1 with ⟨rfl, rfl⟩ | ⟨h1, h2, h3⟩
      · rw [Map.upd_same] at e2; cases e2; exact hnew
      · rw [Map.upd_ne _ _ h1] at e2
        obtain ⟨ds, fz', k1, k2, k3, k4, k5⟩ := hi.blk c C k h3 e2
        exact ⟨ds, fz', by rw [hother _ (hi.lt c k e2) (fun e => hi.apart b c B C l k (fun e => h2 e.symm) hB h3 hl e2 ho e.symm)]; exact k1, k2, k3, k4.mono hle, k5⟩
    · intro b1 b2 B1 B2' l1 l2' hne e1 e2 e3 e4 o1
      rcases push_get_none e1 with ⟨rfl, rfl⟩ | ⟨h1, h2, h3⟩
      · rw [Map.upd_same] at e3; cases e3
        rcases push_get_none e2 with ⟨h, _⟩ | ⟨h1, h2, h3⟩
        · exact absurd h.symm hne
        · rw [Map.upd_ne _ _ h1] at e4
          exact hapart2 b2 B2' l2' h2 h3 e4
      · rw [Map.upd_ne _ _ h1] at e3
        rcases push_get_none e2 with ⟨rfl, rfl⟩ | ⟨h1', h2', h3'⟩
        · rw [Map.upd_same] at e4; cases e4
          exact fun e => hapart2 b1 B1 l1 h2 h3 e3 e.symm
        · rw [Map.upd_ne _ _ h1'] at e4
          exact hi.apart b1 b2 B1 B2' l1 l2' hne h3 h3' e3 e4 o1
    · intro c C e
      rcases push_get_none e with ⟨rfl, _⟩ | ⟨_, _, h⟩
      · simp
      · have := hi.old c C h; simp; omega
    · intro g hg
      obtain ⟨t, ht⟩ := hi.glob g hg
      exact ⟨t, hle _ _ ht⟩
  · intro c hc
    simp at hc
    exact Map.upd_ne _ _ (by omega)
  · intro c C hc e
    rcases push_get_none e with ⟨h, _⟩ | ⟨_, _, h⟩
    · omega
    · exact ⟨C, h, id⟩
  · intro c C k hc e e2
    rcases push_get_none e with ⟨rfl, _⟩ | ⟨_, _, h⟩
    · rw [Map.upd_same] at e2; cases e2
      rcases hplace with h | h
      · exact .inl h
      · exact .inr ⟨b, B, l, hB, fun _ => ho, hl, h.symm⟩
    · have := hi.old c C h; omega
  · intro k hk hown
    exact hother k hk (fun e => hown b B l hB ho hl e.symm)

/-- An own block grown in its place: what lay from 'off' on for 'm' cells, and the new ones. -/
theorem Inv.regrow (hi : Inv P ρ H w) (hf : ρ H.next = none) {b off m : Nat} {B : Blk} {l : Loc} (hB : H.get b = some B) (hl : ρ b = some l) (ho : B.own = true)
    (hm : off + m ≤ B.cells.length) (hz : B.fz = true → off + m = B.cells.length) {as : List AV} {vs : List Value} (hv : VRels ρ as vs) (h1 : as.all AV.one = true) (hroom : off + m + vs.length ≤ l.tot) :
    ∃ w', (storeCells (l.addr (off + m)) vs).run P w = .ok () w' ∧
      Stp P ρ H w (ρ.upd H.next ⟨l.blk, l.off + off, l.tot - off⟩) ((H.put b none).push { cells := (B.cells.drop off).take m ++ as, elem := B.elem, own := true, fz := B.fz }) w' := by
  obtain ⟨cs, fz, hcs, g1, g2, g3, g4⟩ := hi.blk b B l hB hl
  have hlen := hv.length
  have hrun := run_storeCells_free P l.blk (l.off + (off + m)) B.elem fz vs 0 cs w hcs (fun j k1 k2 => by
    rcases g4.1 ho with h | ⟨h, h'⟩
    · omega
    · have := hz h; omega) (by omega) (hv.allOne h1)
  simp only [Nat.add_zero] at hrun
  generalize hcs' : (cs.toList.take (l.off + (off + m)) ++ vs ++ cs.toList.drop (l.off + (off + m) + vs.length)).toArray = cs' at hrun
  have hsz : cs'.size = cs.size := by rw [← hcs']; simp; omega
  have hheap : (w.setRow l.blk cs').heap[l.blk]? = some (.cells cs' B.elem fz) := setRow_heap w l.blk cs cs' B.elem fz hcs
  have hle := Map.le_upd ρ ⟨l.blk, l.off + off, l.tot - off⟩ hf
  refine ⟨w.setRow l.blk cs', hrun, hi.replace hf hB hl ho (by rw [heap_setRow_size]; exact Nat.le_refl _) (by rw [heap_setRow_size]; exact hi.lt b l hl) (fun k _ hne => heap_setRow_ne _ _ _ _ hne) ?_ (.inr rfl) rfl ⟨rfl, rfl⟩⟩
  · have hl2 : ((B.cells.drop off).take m ++ as).length = m + as.length := by simp; omega
    refine ⟨cs', fz, hheap, by rw [hl2]; simp only; omega, by simp only; omega, ?_, fun _ => ?_, fun h => by cases h⟩
    · rw [hl2]
      have e : (cs'.toList.drop (l.off + off)).take (m + as.length) = (((cs.toList.drop l.off).take B.cells.length).drop off).take m ++ vs := by
        apply List.ext_getElem?
        intro j
        by_cases hj : j < m
        · rw [List.getElem?_append_left (by simp; omega), List.getElem?_take_of_lt (by omega), List.getElem?_take_of_lt hj, List.getElem?_drop, List.getElem?_drop, List.getElem?_take_of_lt (by omega), List.getElem?_drop]
          rw [← hcs', List.getElem?_append_left (by simp; omega), List.getElem?_append_left (by simp; omega), List.getElem?_take_of_lt (by omega)]
          congr 1; omega
        · by_cases hj2 : j < m + as.length
          · rw [List.getElem?_append_right (by simp; omega), List.getElem?_take_of_lt hj2, List.getElem?_drop]
            rw [← hcs', List.getElem?_append_left (by simp; omega), List.getElem?_append_right (by simp; omega)]
            congr 1; simp; omega
          · rw [List.getElem?_eq_none (by simp; omega), List.getElem?_eq_none (by simp; omega)]
      simp only
      rw [e]
      exact (((g3.drop off).take m).append hv).mono hle
    · rcases g4.1 ho with h | ⟨h, h'⟩
      · exact .inl h
      · exact .inr ⟨h, by rw [hl2]; have := hz h; simp only; omega⟩

/-- An own block given up, its cells and more laid anew. -/
theorem Inv.renew (hi : Inv P ρ H w) (hf : ρ H.next = none) {b : Nat} {B B2 : Blk} {l : Loc} (hB : H.get b = some B) (hl : ρ b = some l) (ho : B.own = true) {cs : Array Value} {w' : World}
    (hw : Pushed w (.cells cs B2.elem (0, 0)) w') (hB2 : VRels ρ B2.cells (cs.toList.take B2.cells.length)) (hlen : B2.cells.length ≤ cs.size) (ho2 : B2.own = true) :
    Stp P ρ H w (ρ.upd H.next ⟨w.heap.size, 0, cs.size⟩) ((H.put b none).push B2) w' := by
  have hle := Map.le_upd ρ ⟨w.heap.size, 0, cs.size⟩ hf
  refine hi.replace hf hB hl ho (by rw [hw.size]; omega) (by rw [hw.size]; simp) (fun k hk _ => hw.old hk) ?_ (.inl (Nat.le_refl _)) ho2 hw.2
  exact ⟨cs, (0, 0), hw.new, hlen, by simp, by simpa using hB2.mono hle, fun _ => .inl rfl, fun _ => rfl⟩

/-- Cells that a string shares from here on. -/
theorem Inv.freeze (hi : Inv P ρ H w) {b off n : Nat} {B : Blk} {l : Loc} (hB : H.get b = some B) (hl : ρ b = some l) (ho : B.own = true) (hn : 0 < n) (hle : off + n ≤ B.cells.length) :
    Stp P ρ H w ρ (H.put b (some { cells := B.cells, elem := B.elem, own := B.own, fz := true, head := B.head })) (w.freeze (l.addr off) n) := by
  obtain ⟨cs, fz, hcs, g1, g2, g3, g4⟩ := hi.blk b B l hB hl
  have hlt : l.blk < w.heap.size := hi.lt b l hl
  have hv : w.heap[l.blk] = .cells cs B.elem fz := (Array.getElem?_eq_some_iff.1 hcs).2
  have hsz : (w.freeze (l.addr off) n).heap.size = w.heap.size := by
    unfold World.freeze; rw [if_neg (by omega)]; simp
  have hne : ∀ k, k ≠ l.blk → (w.freeze (l.addr off) n).heap[k]? = w.heap[k]? := fun k hk => by
    unfold World.freeze; rw [if_neg (by omega)]
    simp only [Array.getElem?_modify]
    rw [if_neg (fun e => hk e.symm)]
  have hat : ∃ fz', (w.freeze (l.addr off) n).heap[l.blk]? = some (.cells cs B.elem fz') ∧ (B.own = true → fz'.2 ≤ l.off + B.cells.length) := by
    obtain ⟨lo, hi'⟩ := fz
    refine ⟨if lo == hi' then (l.off + off, l.off + off + n) else (min lo (l.off + off), max hi' (l.off + off + n)), ?_, fun ho => ?_⟩
    · unfold World.freeze; rw [if_neg (by omega)]
      simp only [Array.getElem?_modify, Loc.addr, if_true, hcs, Option.map_some]
    · by_cases he : lo = hi'
      · subst he; simp; omega
      · have : (lo == hi') = false := by simpa using he
        rw [this]
        rcases g4.1 ho with h | ⟨_, h⟩
        · exact absurd h he
        · simp at h ⊢; omega
  obtain ⟨fz', h1, h2⟩ := hat
  refine { io := (by unfold World.freeze; split <;> exact ⟨rfl, rfl⟩), inv := ?_, next := Nat.le_refl _, same := fun _ _ => rfl, size := by rw [hsz]; exact Nat.le_refl _, kept := ?_, made := ?_, frame := ?_ }
  · refine { lt := fun c k e => by rw [hsz]; exact hi.lt c k e, blk := ?_, apart := ?_, old := ?_, glob := hi.glob }
    · intro c C k e1 e2
      by_cases hc : c = b
      · subst hc
        rw [AH.get_put_same] at e1; cases e1
        rw [hl] at e2; cases e2
        exact ⟨cs, fz', h1, g1, g2, g3, fun ho => .inr ⟨rfl, h2 ho⟩, g4.2⟩
      · rw [AH.get_put_ne _ _ hc] at e1
        obtain ⟨ds, fz2, k1, k2, k3, k4, k5⟩ := hi.blk c C k e1 e2
        by_cases hblk : k.blk = l.blk
        · rw [hblk, hcs] at k1
          injection k1 with k1
          injection k1 with ka kb kc
          subst ka kc
          refine ⟨cs, fz', by rw [hblk, ← kb]; exact h1, k2, k3, k4, fun ho => ?_, k5.2⟩
          exact absurd hblk (hi.apart c b C B k l hc e1 hB e2 hl ho)
        · exact ⟨ds, fz2, by rw [hne _ hblk]; exact k1, k2, k3, k4, k5⟩
    · intro b1 b2 B1 B2 l1 l2 hne' e1 e2 e3 e4 o1
      have get : ∀ c C, (H.put b (some { cells := B.cells, elem := B.elem, own := B.own, fz := true, head := B.head })).get c = some C → ∃ C', H.get c = some C' ∧ C'.own = C.own := fun c C e => by
        by_cases hc : c = b
        · subst hc; rw [AH.get_put_same] at e; cases e; exact ⟨B, hB, rfl⟩
        · rw [AH.get_put_ne _ _ hc] at e; exact ⟨C, e, rfl⟩
      obtain ⟨C1, f1, f2⟩ := get b1 B1 e1
      obtain ⟨C2, f3, _⟩ := get b2 B2 e2
      exact hi.apart b1 b2 C1 C2 l1 l2 hne' f1 f3 e3 e4 (f2.trans o1)
    · intro c C e
      by_cases hc : c = b
      · subst hc; exact hi.old c B hB
      · rw [AH.get_put_ne _ _ hc] at e; exact hi.old c C e
  · intro c C _ e
    by_cases hc : c = b
    · subst hc; rw [AH.get_put_same] at e; cases e; exact ⟨B, hB, id⟩
    · rw [AH.get_put_ne _ _ hc] at e; exact ⟨C, e, id⟩
  · intro c C k hc e _
    have : c < H.next := by
      by_cases h : c = b
      · subst h; exact hi.old c B hB
      · rw [AH.get_put_ne _ _ h] at e; exact hi.old c C e
    omega
  · intro k hk hown
    by_cases hkb : k = l.blk
    · exact absurd hkb.symm (hown b B l hB ho hl)
    · exact hne k hkb

end Go.Am

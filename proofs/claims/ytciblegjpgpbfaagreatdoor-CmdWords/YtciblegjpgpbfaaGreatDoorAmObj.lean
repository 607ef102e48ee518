/-
  Objects of the model's heap that the abstract machine does not know: laid, turned. No condition.
-/
import Derived.Test.YtciblegjpgpbfaaGreatDoorAmReg
namespace Go.Am
open Go

variable {P : Program} {ρ : Map} {H : AH} {w : World}

/-- No row of cells. -/
def NoRow (o : Obj) : Prop := ∀ c e z, o ≠ .cells c e z

theorem Inv.putObj (hi : Inv P ρ H w) {l : Nat} {o : Obj} (o' : Obj) (h : w.heap[l]? = some o) (hc : NoRow o) : Inv P ρ H (w.putObj l o') where
  lt := fun b k e => by rw [World.putObj_size]; exact hi.lt b k e
  blk := fun b B k e1 e2 => by
    obtain ⟨cs, fz, e3, rest⟩ := hi.blk b B k e1 e2
    refine ⟨cs, fz, ?_, rest⟩
    rw [World.putObj_heap_other, e3]
    intro e
    rw [e, h] at e3
    exact hc _ _ _ (Option.some.inj e3)
  apart := hi.apart
  old := hi.old
  glob := hi.glob

theorem lt_of_get {α : Type} {a : Array α} {i : Nat} {x : α} (h : a[i]? = some x) : i < a.size := (Array.getElem?_eq_some_iff.1 h).1

/-- What is done between a turn of an object and its turning back. -/
theorem Stp.around {ρ' : Map} {H' : AH} {w3 : World} {l : Nat} {o o1 : Obj} (h : Stp P ρ H (w.putObj l o1) ρ' H' w3) (hi : Inv P ρ H w) (ho : w.heap[l]? = some o) (hc : NoRow o) (hc1 : NoRow o1) :
    Stp P ρ H w ρ' H' (w3.putObj l o) := by
  have hl : l < w.heap.size := lt_of_get ho
  have h1 : (w.putObj l o1).heap[l]? = some o1 := World.putObj_heap_same hl
  have hi1 := hi.putObj o1 ho hc
  have h3 := h.object hi1 h1 hc1
  refine { io := ⟨h.io.1, h.io.2⟩, inv := h.inv.putObj o h3 hc1, next := h.next, same := h.same, size := ?_, kept := h.kept, made := ?_, frame := ?_ }
  · have := h.size; rw [World.putObj_size] at this; rw [World.putObj_size]; exact this
  · intro b B' k e1 e2 e3
    have := h.made b B' k e1 e2 e3
    rw [World.putObj_size] at this; exact this
  · intro k hk hown
    by_cases hkl : k = l
    · subst hkl
      rw [World.putObj_heap_same (lt_of_get h3), ho]
    · rw [World.putObj_heap_other hkl, h.frame k (by rw [World.putObj_size]; exact hk) hown, World.putObj_heap_other hkl]

/-- A new object is turned. -/
theorem Stp.later {ρ' : Map} {H' : AH} {w' : World} (h : Stp P ρ H w ρ' H' w') {l : Nat} {o : Obj} (o' : Obj) (hl : w.heap.size ≤ l) (ho : w'.heap[l]? = some o) (hc : NoRow o) : Stp P ρ H w ρ' H' (w'.putObj l o') :=
  { io := ⟨h.io.1, h.io.2⟩, inv := h.inv.putObj o' ho hc, next := h.next, same := h.same, size := by rw [World.putObj_size]; exact h.size, kept := h.kept, made := h.made
    frame := fun k hk hown => by rw [World.putObj_heap_other (by omega)]; exact h.frame k hk hown }

/-- The heap has grown by what the abstract machine does not know; a name more, for one of its places. -/
theorem Stp.named (hi : Inv P ρ H w) (hf : ρ H.next = none) {w' : World} (hsz : w.heap.size ≤ w'.heap.size) (hold : ∀ k, k < w.heap.size → w'.heap[k]? = w.heap[k]?) {loc : Loc} (hloc : loc.blk < w'.heap.size) (hio : Io w w') :
    Stp P ρ H w (ρ.upd H.next loc) { next := H.next + 1, m := H.m } w' := by
  have hget : ∀ b, AH.get { next := H.next + 1, m := H.m } b = H.get b := fun b => rfl
  have hle := Map.le_upd ρ loc hf
  refine { io := hio, inv := ?_, next := by simp, same := ?_, size := hsz, kept := fun b B' _ e => ⟨B', e, id⟩, made := ?_, frame := fun k hk _ => hold k hk }
  · refine { lt := ?_, blk := ?_, apart := ?_, old := ?_, glob := ?_ }
    · intro b k e
      by_cases hb : b = H.next
      · subst hb; rw [Map.upd_same] at e; cases e; exact hloc
      · rw [Map.upd_ne _ _ hb] at e; exact Nat.lt_of_lt_of_le (hi.lt b k e) hsz
    · intro b B k e1 e2
      have hb : b ≠ H.next := fun e => by have := hi.old b B e1; omega
      rw [Map.upd_ne _ _ hb] at e2
      obtain ⟨cs, fz, k1, k2, k3, k4, k5⟩ := hi.blk b B k e1 e2
      exact ⟨cs, fz, by rw [hold _ (hi.lt b k e2)]; exact k1, k2, k3, k4.mono hle, k5⟩
    · intro b1 b2 B1 B2 l1 l2 hne e1 e2 e3 e4 o1
      have hb1 : b1 ≠ H.next := fun e => by have := hi.old b1 B1 e1; omega
      have hb2 : b2 ≠ H.next := fun e => by have := hi.old b2 B2 e2; omega
      rw [Map.upd_ne _ _ hb1] at e3
      rw [Map.upd_ne _ _ hb2] at e4
      exact hi.apart b1 b2 B1 B2 l1 l2 hne e1 e2 e3 e4 o1
    · intro b B e; have := hi.old b B e; simp only; omega
    · intro g hg
      obtain ⟨t, ht⟩ := hi.glob g hg
      exact ⟨t, hle _ _ ht⟩
  · intro b hb
    simp only at hb
    exact Map.upd_ne _ _ (by omega)
  · intro b B' l hb e _
    have := hi.old b B' e; omega

theorem FR.putAll {base : Nat → Prop} {ro : Option Nat} (ps : List Nat) : ∀ {f : Frm} {a : Act} {as : List AV} {xs : List Value}, FR P ρ base ro f a w → VRels ρ as xs →
    FR P ρ base ro (putAll f ps as) { a with tmps := (ps.zip xs).foldl (fun (tmps : Array Value) (x : Nat × Value) => tmps.setIfInBounds x.1 x.2) a.tmps } w := by
  unfold Go.Am.putAll
  induction ps with
  | nil => intro f a as xs h _; simpa using h
  | cons p ps ih =>
    intro f a as xs h hx
    cases hx with
    | nil => simpa using h
    | cons h1 t =>
      simp only [List.zip_cons_cons, List.foldl_cons]
      exact ih (a := a.put (some p) _) (h.put (some p) h1) t

end Go.Am

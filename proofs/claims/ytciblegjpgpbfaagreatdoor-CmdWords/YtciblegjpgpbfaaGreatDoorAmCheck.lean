/-
  What the kernel is asked of one run on a canonical heap. No condition.
-/
import Derived.Test.YtciblegjpgpbfaaGreatDoorAmMemo
namespace Go.Am
open Go

noncomputable def blkB (K1 : AH) (m : Nat → Nat) (n : Nat) (i : Nat) (B : Blk) : Bool :=
  namedL n B.cells && (match K1.get (m i) with
    | some B1 => B1.own && (Nat.beq B1.elem B.elem && ((B1.fz == B.fz) && ((B1.head == B.head) && AV.beqs B1.cells (renL m B.cells))))
    | none => false)
noncomputable def blksB (K1 : AH) (m : Nat → Nat) (n : Nat) : Nat → List Blk → Bool
  | _, [] => true
  | i, B :: bs => blkB K1 m n i B && blksB K1 m n (i + 1) bs
def apartB : List Nat → Bool
  | [] => true
  | x :: l => l.all (fun y => !Nat.beq x y) && apartB l

/-- Does the answer lie so? -/
noncomputable def resultB (K1 : AH) (v0 v : AV) (μ : List Nat) (bs : List Blk) : Bool :=
  AV.beq v0 (ren (fun i => μ.getD i 0) v) && (named bs.length v && (Nat.beq μ.length bs.length && (blksB K1 (fun i => μ.getD i 0) bs.length 0 bs && apartB μ)))

noncomputable def runB (r : Option CRes) (v : AV) (μ : List Nat) (bs : List Blk) : Bool :=
  match r with
  | some (.ret v0 K1) => resultB K1 v0 v μ bs
  | _ => false

theorem blksB_ok {K1 : AH} {m : Nat → Nat} {n : Nat} : ∀ {bs : List Blk} {j : Nat}, blksB K1 m n j bs = true → ∀ (i : Nat) (B : Blk), bs[i]? = some B →
    namedL n B.cells = true ∧ ∃ B1, K1.get (m (j + i)) = some B1 ∧ B1.own = true ∧ B1.elem = B.elem ∧ B1.fz = B.fz ∧ B1.head = B.head ∧ B1.cells = renL m B.cells := by
  intro bs
  induction bs with
  | nil => intro j _ i B h; simp at h
  | cons C bs ih =>
    intro j h i B hB
    simp only [blksB, Bool.and_eq_true] at h
    cases i with
    | zero =>
      simp only [List.getElem?_cons_zero, Option.some.injEq] at hB
      subst hB
      have hb := h.1
      unfold blkB at hb
      rw [Bool.and_eq_true] at hb
      refine ⟨hb.1, ?_⟩
      have hb := hb.2
      split at hb
      · rename_i B1 hg
        simp only [Bool.and_eq_true, beq_iff_eq] at hb
        exact ⟨B1, by simpa using hg, hb.1, Nat.eq_of_beq_eq_true hb.2.1, hb.2.2.1, hb.2.2.2.1, beqs_eq _ _ hb.2.2.2.2⟩
      · cases hb
    | succ i =>
      have := ih h.2 i B (by simpa using hB)
      rw [show j + 1 + i = j + (i + 1) from by omega] at this
      exact this

theorem apartB_ok : ∀ {l : List Nat}, apartB l = true → ∀ i j, i < l.length → j < l.length → i ≠ j → l.getD i 0 ≠ l.getD j 0 := by
  intro l
  induction l with
  | nil => intro _ i j hi; simp at hi
  | cons x l ih =>
    intro h i j hi hj hne
    simp only [apartB, Bool.and_eq_true, List.all_eq_true] at h
    have far : ∀ k, k < l.length → x ≠ l.getD k 0 := by
      intro k hk e
      have hm : l.getD k 0 ∈ l := by
        rw [List.getD_eq_getElem?_getD, List.getElem?_eq_getElem hk]; exact List.getElem_mem hk
      have := h.1 _ hm
      rw [← e, Nat.beq_refl] at this
      cases this
    cases i with
    | zero =>
      cases j with
      | zero => exact absurd rfl hne
      | succ j => simpa using far j (by simpa using hj)
    | succ i =>
      cases j with
      | zero => simpa using fun e => far i (by simpa using hi) e.symm
      | succ j => simpa using ih h.2 i j (by simpa using hi) (by simpa using hj) (by omega)

theorem runB_ok {r : Option CRes} {v : AV} {μ : List Nat} {bs : List Blk} (h : runB r v μ bs = true) : ∃ v0 K1, r = some (.ret v0 K1) ∧ Result K1 v0 v (fun i => μ.getD i 0) bs := by
  unfold runB at h
  split at h
  · rename_i v0 K1
    simp only [resultB, Bool.and_eq_true] at h
    obtain ⟨h1, h2, h3, h4, h5⟩ := h
    have hl := Nat.eq_of_beq_eq_true h3
    refine ⟨v0, K1, rfl, beq_eq _ _ h1, h2, fun i B hB => ?_, fun i j hi hj => apartB_ok h5 i j (by omega) (by omega)⟩
    have := blksB_ok h4 i B hB
    rw [Nat.zero_add] at this
    exact this
  · cases h

end Go.Am

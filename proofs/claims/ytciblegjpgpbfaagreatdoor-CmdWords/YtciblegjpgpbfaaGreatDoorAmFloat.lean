/-
  Operations that make memory of what is at hand alone: they may be carried out whenever their operands are there. No condition.
-/
import Derived.Test.YtciblegjpgpbfaaGreatDoorAmQuiet
namespace Go.Am
open Go

variable {P : Program} {ρ : Map} {H : AH} {w : World}

/-! ### Values that are alike -/
theorem sameVal_eq {v u : Value} (h : sameVal v u = true) : v = u := by
  unfold sameVal at h
  split at h <;> simp_all

mutual
theorem beq_eq : (a b : AV) → AV.beq a b = true → a = b
  | .atom v, b, h => by
    cases b <;> simp only [AV.beq, Bool.false_eq_true] at h
    rw [sameVal_eq h]
  | .ptr x o, b, h => by
    cases b <;> simp only [AV.beq, Bool.false_eq_true, Bool.and_eq_true, beq_iff_eq] at h
    obtain ⟨rfl, rfl⟩ := h; rfl
  | .slice x o l c, b, h => by
    cases b <;> simp only [AV.beq, Bool.false_eq_true, Bool.and_eq_true, beq_iff_eq, decide_eq_true_eq] at h
    obtain ⟨⟨⟨rfl, rfl⟩, rfl⟩, rfl⟩ := h; rfl
  | .iface t v, b, h => by
    cases b <;> simp only [AV.beq, Bool.false_eq_true, Bool.and_eq_true, beq_iff_eq] at h
    obtain ⟨rfl, h⟩ := h
    rw [beq_eq v _ h]
  | .agg l, b, h => by
    cases b <;> simp only [AV.beq, Bool.false_eq_true] at h
    rw [beqs_eq l _ h]
  | .tuple l, b, h => by
    cases b <;> simp only [AV.beq, Bool.false_eq_true] at h
    rw [beqs_eq l _ h]
  | .fn f x y, b, h => by
    cases b <;> simp only [AV.beq, Bool.false_eq_true, Bool.and_eq_true, decide_eq_true_eq] at h
    obtain ⟨⟨rfl, h1⟩, h2⟩ := h
    rw [beqs_eq x _ h1, beqs_eq y _ h2]
  | .top, b, h => by cases b <;> simp only [AV.beq, Bool.false_eq_true] at h
  | .mapr x, b, h => by cases b <;> simp only [AV.beq, Bool.false_eq_true] at h
theorem beqs_eq : (l m : List AV) → AV.beqs l m = true → l = m
  | [], m, h => by cases m <;> simp only [AV.beqs, Bool.false_eq_true] at h; rfl
  | a :: l, m, h => by
    cases m <;> simp only [AV.beqs, Bool.false_eq_true, Bool.and_eq_true] at h
    rw [beq_eq a _ h.1, beqs_eq l _ h.2]
end

/-! ### What floats -/
theorem float_shape {ra : Operand → AV} {o : Oper} {r : ONext} (hfl : Oper.floats o = true) (h : opA P ra o H = some r) :
    ∃ B v, r = .value v (H.push B) ∧ B.own = true ∧ (v = .ptr H.next 0 ∨ ∃ n c, v = .slice H.next 0 n c) ∧ ∀ K : AH, K.next = H.next → opA P ra o K = some (.value v (K.push B)) := by
  unfold Oper.floats at hfl
  unfold opA at h ⊢
  generalize o.op = op at hfl h ⊢
  cases op <;> (try (cases hfl; done)) <;> simp only at h ⊢
  case alloc e =>
    unfold opAlloc at h ⊢
    split at h
    · cases h; exact ⟨_, _, rfl, rfl, .inl rfl, fun K hK => by rw [hK]⟩
    · cases h
  case box e x =>
    unfold opBox at h ⊢
    obtain ⟨hc, h⟩ := cond_some h
    cases h
    exact ⟨_, _, rfl, rfl, .inl rfl, fun K hK => by rw [hc, hK]; rfl⟩
  case buildSlice t n ps =>
    unfold opBuildSlice at h ⊢
    split at h
    · split at h
      · rename_i hs hz
        obtain ⟨hc, h⟩ := cond_some h
        split at h
        · rename_i hfill
          cases h
          exact ⟨_, _, rfl, rfl, .inr ⟨_, _, rfl⟩, fun K hK => by simp only [hc, hK, cond_true]⟩
        · cases h
      · cases h
    · cases h

theorem Inv.blank (hlt : ∀ b l, ρ b = some l → l.blk < w.heap.size) (hg : ∀ g, g < P.globals.size → ∃ t, ρ g = some ⟨g, 0, t⟩) (n : Nat) : Inv P ρ { next := n, m := .leaf } w where
  lt := hlt
  blk := fun b B l h => by cases h
  apart := fun b b' B B' l l' _ h => by cases h
  old := fun b B h => by cases h
  glob := hg

/-- What floats, carried out. -/
theorem float_ok {ra : Operand → AV} {rc : Operand → Value} {o : Oper} {v : AV} {B : Blk} (hfl : Oper.floats o = true) (h : opA P ra o H = some (.value v (H.push B))) (hlt : ∀ b l, ρ b = some l → l.blk < w.heap.size)
    (hg : ∀ g, g < P.globals.size → ∃ t, ρ g = some ⟨g, 0, t⟩) (he : ∀ x, VRel ρ (ra x) (rc x)) (hf : ρ H.next = none) :
    ∃ y w' l, (execOp rc o).run P w = .ok (.value y) w' ∧ VRel (ρ.upd H.next l) v y ∧ w.heap.size ≤ l.blk ∧ l.blk < w'.heap.size ∧ (∀ k, k < w.heap.size → w'.heap[k]? = w.heap[k]?) ∧ (w.heap.size ≤ w'.heap.size ∧ Io w w') ∧ BlkOk (ρ.upd H.next l) B l w' := by
  obtain ⟨B', v', e, ho, hv, hK⟩ := float_shape hfl h
  injection e with e1 e2
  have hBB : B' = B := by
    have h1 := AH.get_push_same H B
    rw [e2, AH.get_push_same] at h1
    exact Option.some.inj h1
  subst hBB e1
  have hop := hK { next := H.next, m := .leaf } rfl
  have hi0 := Inv.blank hlt hg H.next
  have hn := opA_ok hi0 he hop (fun b h1 h2 => by
    simp only [ONext.heap, AH.next_push] at h1 h2
    have : b = H.next := by omega
    rw [this]; exact hf)
  generalize hres : (execOp rc o).run P w = res at hn
  cases hn with
  | value hvy hs =>
    rename_i y w' ρ'
    have hpl : ∃ l, ρ' H.next = some l := by
      rcases hv with rfl | ⟨n, c, rfl⟩
      · cases hvy with
        | ptr hl => exact ⟨_, hl⟩
      · exact hvy.place
    obtain ⟨l, hl⟩ := hpl
    have hρ : ρ' = ρ.upd H.next l := by
      funext b
      by_cases hb : b = H.next
      · subst hb; rw [Map.upd_same]; exact hl
      · rw [Map.upd_ne _ _ hb]
        refine hs.same b ?_
        show b < H.next ∨ H.next + 1 ≤ b
        omega
    subst hρ
    refine ⟨y, w', l, rfl, hvy, ?_, hs.inv.lt _ _ hl, ?_, ⟨hs.size, hs.io⟩, hs.inv.blk _ _ _ (AH.get_push_same { next := H.next, m := .leaf } B') hl⟩
    · rcases hs.made H.next B' l (Nat.le_refl _) (AH.get_push_same { next := H.next, m := .leaf } B') hl with h1 | ⟨b0, B0, l0, h1, _⟩
      · exact h1
      · cases h1
    · intro k hk
      exact hs.frame k hk fun b B l h => by cases h

/-! ### A place for a name -/
/-- A name that had no place is given one, in new memory. -/
theorem Inv.mapped (hi : Inv P ρ H w) {b : Nat} (hb : ρ b = none) {w' : World} (hold : ∀ k, k < w.heap.size → w'.heap[k]? = w.heap[k]?) {l : Loc} (h1 : w.heap.size ≤ l.blk) (h2 : l.blk < w'.heap.size)
    (hB : ∀ B, H.get b = some B → BlkOk (ρ.upd b l) B l w') : Inv P (ρ.upd b l) H w' where
  lt := fun c k e => by
    by_cases hc : c = b
    · subst hc; rw [Map.upd_same] at e; cases e; exact h2
    · rw [Map.upd_ne _ _ hc] at e; have := hi.lt c k e; omega
  blk := fun c C k e1 e2 => by
    by_cases hc : c = b
    · subst hc; rw [Map.upd_same] at e2; cases e2; exact hB C e1
    · rw [Map.upd_ne _ _ hc] at e2
      obtain ⟨cs, fz, k1, k2, k3, k4, k5⟩ := hi.blk c C k e1 e2
      exact ⟨cs, fz, by rw [hold _ (hi.lt c k e2)]; exact k1, k2, k3, k4.mono (Map.le_upd ρ l hb), k5⟩
  apart := fun b1 b2 B1 B2 l1 l2 hne e1 e2 e3 e4 o1 => by
    by_cases hb1 : b1 = b
    · subst hb1
      rw [Map.upd_same] at e3; cases e3
      rw [Map.upd_ne _ _ (fun e => hne e.symm)] at e4
      have := hi.lt b2 l2 e4; omega
    · rw [Map.upd_ne _ _ hb1] at e3
      by_cases hb2 : b2 = b
      · subst hb2
        rw [Map.upd_same] at e4; cases e4
        have := hi.lt b1 l1 e3; omega
      · rw [Map.upd_ne _ _ hb2] at e4
        exact hi.apart b1 b2 B1 B2 l1 l2 hne e1 e2 e3 e4 o1
  old := hi.old
  glob := fun g hg => let ⟨t, ht⟩ := hi.glob g hg; ⟨t, Map.le_upd ρ l hb _ _ ht⟩

/-- A block more in the abstract heap, of a name that has no place, or whose place is held for it. -/
theorem Inv.pushed (hi : Inv P ρ H w) {B : Blk} (h : ρ H.next = none ∨ ∃ l, ρ H.next = some l ∧ BlkOk ρ B l w ∧ ∀ b B' l', H.get b = some B' → ρ b = some l' → l'.blk ≠ l.blk) : Inv P ρ (H.push B) w where
  lt := hi.lt
  blk := fun b C k e1 e2 => by
    by_cases hb : b = H.next
    · subst hb
      rw [AH.get_push_same] at e1; cases e1
      rcases h with h | ⟨l, h1, h2, _⟩
      · rw [h] at e2; cases e2
      · rw [h1] at e2; cases e2; exact h2
    · rw [AH.get_push_ne _ _ hb] at e1; exact hi.blk b C k e1 e2
  apart := fun b1 b2 B1 B2 l1 l2 hne e1 e2 e3 e4 o1 => by
    by_cases hb1 : b1 = H.next
    · subst hb1
      rw [AH.get_push_ne _ _ (fun e => hne e.symm)] at e2
      rcases h with h | ⟨l, h1, _, h3⟩
      · rw [h] at e3; cases e3
      · rw [h1] at e3; cases e3; exact fun e => h3 b2 B2 l2 e2 e4 e.symm
    · rw [AH.get_push_ne _ _ hb1] at e1
      by_cases hb2 : b2 = H.next
      · subst hb2
        rcases h with h | ⟨l, h1, _, h3⟩
        · rw [h] at e4; cases e4
        · rw [h1] at e4; cases e4; exact h3 b1 B1 l1 e1 e3
      · rw [AH.get_push_ne _ _ hb2] at e2
        exact hi.apart b1 b2 B1 B2 l1 l2 hne e1 e2 e3 e4 o1
  old := fun b C e => by
    by_cases hb : b = H.next
    · subst hb; simp
    · rw [AH.get_push_ne _ _ hb] at e; have := hi.old b C e; simp; omega
  glob := hi.glob

end Go.Am

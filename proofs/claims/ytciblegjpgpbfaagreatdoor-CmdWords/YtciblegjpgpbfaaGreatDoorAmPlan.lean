/-
  A region that draws its order: what the machine's plan of it says. No condition.
-/
import Derived.Test.YtciblegjpgpbfaaGreatDoorAmCall
namespace Go.Am
open Go

variable {P : Program}

/-- The operations that an operation waits for. -/
def direct (o : Oper) : List Nat := (o.after.toList.filter (Region.binds .any)).map (·.on)
def rowOf (o : Oper) (acc : List (List Nat)) : List Nat := (direct o ++ (direct o).flatMap fun j => acc.getD j []).eraseDups

theorem ahead_go_cons (o : Oper) (l : List Oper) (acc : List (List Nat)) : aheadRows.go (o :: l) acc = aheadRows.go l (acc ++ [rowOf o acc]) := rfl
theorem ahead_old : ∀ (l : List Oper) (acc : List (List Nat)) (j : Nat), j < acc.length → (aheadRows.go l acc)[j]? = acc[j]? := by
  intro l
  induction l with
  | nil => intro acc j _; rfl
  | cons o l ih =>
    intro acc j hj
    rw [ahead_go_cons, ih _ _ (by simp; omega), List.getElem?_append_left hj]
theorem ahead_new : ∀ (l : List Oper) (acc : List (List Nat)) (j : Nat) (o : Oper), l[j]? = some o → (aheadRows.go l acc)[acc.length + j]? = some (rowOf o ((aheadRows.go l acc).take (acc.length + j))) := by
  intro l
  induction l with
  | nil => intro acc j o h; simp at h
  | cons x l ih =>
    intro acc j o h
    rw [ahead_go_cons]
    cases j with
    | zero =>
      simp only [List.getElem?_cons_zero, Option.some.injEq] at h
      subst h
      rw [Nat.add_zero, ahead_old _ _ _ (by simp)]
      have : (aheadRows.go l (acc ++ [rowOf x acc])).take acc.length = acc := by
        apply List.ext_getElem?
        intro i
        by_cases hi : i < acc.length
        · rw [List.getElem?_take_of_lt hi, ahead_old _ _ _ (by simp; omega), List.getElem?_append_left hi]
        · rw [List.getElem?_eq_none (by simp; omega), List.getElem?_eq_none (by omega)]
      rw [this]
      simp
    | succ j =>
      have := ih (acc ++ [rowOf x acc]) j o (by simpa using h)
      simp only [List.length_append, List.length_cons, List.length_nil] at this
      rw [show acc.length + (j + 1) = acc.length + (0 + 1) + j from by omega]
      exact this

/-- i lies ahead of j. -/
def Ahead (ops : List Oper) (i j : Nat) : Prop := i ∈ (aheadRows ops).getD j []

theorem ahead_iff {ops : List Oper} {i j : Nat} {o : Oper} (ho : ops[j]? = some o) : Ahead ops i j ↔ i ∈ direct o ∨ ∃ k ∈ direct o, k < j ∧ Ahead ops i k := by
  have h := ahead_new ops [] j o ho
  simp only [List.length_nil, Nat.zero_add] at h
  unfold Ahead
  rw [List.getD_eq_getElem?_getD, show aheadRows ops = aheadRows.go ops [] from rfl, h, Option.getD_some, rowOf, List.mem_eraseDups, List.mem_append, List.mem_flatMap]
  constructor
  · rintro (h | ⟨k, hk, h⟩)
    · exact .inl h
    · by_cases hkj : k < j
      · refine .inr ⟨k, hk, hkj, ?_⟩
        rw [List.getD_eq_getElem?_getD, List.getElem?_take_of_lt hkj] at h
        rw [List.getD_eq_getElem?_getD]; exact h
      · rw [List.getD_eq_getElem?_getD, List.getElem?_eq_none (by simp; omega)] at h
        simp at h
  · rintro (h | ⟨k, hk, hkj, h⟩)
    · exact .inl h
    · refine .inr ⟨k, hk, ?_⟩
      rw [List.getD_eq_getElem?_getD] at h
      rw [List.getD_eq_getElem?_getD, List.getElem?_take_of_lt hkj]; exact h

/-- What is listed is closed under what lies ahead, if it is closed under what is waited for. -/
theorem ahead_closed {ops : List Oper} {D : Nat → Prop} (hD : ∀ j o, D j → ops[j]? = some o → ∀ i ∈ direct o, D i) : ∀ (j : Nat) (o : Oper), ops[j]? = some o → (∀ i ∈ direct o, D i) → ∀ i, Ahead ops i j → D i := by
  intro j
  induction j using Nat.strongRecOn with
  | _ j ih =>
    intro o ho hdir i hi
    rcases (ahead_iff ho).1 hi with h | ⟨k, hk, hkj, h⟩
    · exact hdir i h
    · have hlt : k < ops.length := by have := (List.getElem?_eq_some_iff.1 ho).1; omega
      have hok : ops[k]? = some ops[k] := List.getElem?_eq_getElem hlt
      exact ih k hkj _ hok (fun i' hi' => hD k _ (hdir k hk) hok i' hi') i h

/-- What the plan says. -/
structure PlanOk (P : Program) (ops : List Oper) (plan : List Plan) : Prop where
  back : ∀ i j, j < ops.length → Ahead ops i j → i < j
  acts : ∀ (i j : Nat) (o o' : Oper), ops[i]? = some o → ops[j]? = some o' → acting P o = true → acting P o' = true → i < j → Ahead ops i j
  once : ∀ (i j : Nat) (o o' : Oper) (d : Nat), ops[i]? = some o → ops[j]? = some o' → i ≠ j → o.dst = some d → o'.dst ≠ some d
  seen : ∀ (i j : Nat) (o o' : Oper) (d : Nat), ops[i]? = some o → ops[j]? = some o' → i ≠ j → o.dst = some d → d ∈ uses ops.toArray o' → (i < j → Ahead ops i j) ∧ (j < i → Ahead ops j i)
  floats : ∀ (i j : Nat) (o o' : Oper), ops[i]? = some o → ops[j]? = some o' → Oper.floats o = true → acting P o' = true → i < j → Ahead ops i j
  row : ∀ j, j < ops.length → ∃ p, plan[j]? = some p ∧ p.lo = (((List.range ops.length).filter fun i => (ops[i]?).any (acting P)).filter fun i => ((aheadRows ops).getD j []).contains i).length ∧
    p.hi = (((List.range ops.length).filter fun i => (ops[i]?).any (acting P)).filter fun i => !((aheadRows ops).getD i []).contains j && i != j).length
  size : plan.length = ops.length

theorem planOf_ok {ops : List Oper} {plan : List Plan} (h : planOf P ops = some plan) : PlanOk P ops plan := by
  unfold planOf at h
  simp only [Bool.not_eq_true'] at h
  split at h
  · cases h
  rename_i h1
  split at h
  · cases h
  rename_i h2
  split at h
  · cases h
  rename_i h3
  split at h
  · cases h
  split at h
  · cases h
  rename_i h5
  simp only [Option.some.injEq] at h
  subst h
  simp only [Bool.not_eq_false] at h1 h2 h3 h5
  have hget : ∀ {i o}, ops[i]? = some o → i < ops.length ∧ ops.getD i default = o := by
    intro i o ho
    exact ⟨(List.getElem?_eq_some_iff.1 ho).1, by rw [List.getD_eq_getElem?_getD, ho]; rfl⟩
  have hact : ∀ {i o}, ops[i]? = some o → acting P o = true → i ∈ (List.range ops.length).filter fun i => (ops[i]?).any (acting P) := by
    intro i o ho ha
    rw [List.mem_filter]
    exact ⟨List.mem_range.2 (hget ho).1, by rw [ho]; exact ha⟩
  refine { back := ?_, acts := ?_, once := ?_, seen := ?_, floats := ?_, row := ?_, size := by simp }
  · intro i j hj ha
    have := List.all_eq_true.1 h1 j (List.mem_range.2 hj)
    exact by simpa using List.all_eq_true.1 this i ha
  · intro i j o o' ho ho' ha ha' hij
    have := List.all_eq_true.1 (List.all_eq_true.1 h2 i (hact ho ha)) j (hact ho' ha')
    simp only [Bool.or_eq_true, decide_eq_true_eq, List.contains_iff_mem] at this
    rcases this with h | h
    · omega
    · exact h
  · intro i j o o' d ho ho' hij hd hd'
    have := List.all_eq_true.1 (List.all_eq_true.1 h3 i (List.mem_range.2 (hget ho).1)) j (List.mem_range.2 (hget ho').1)
    rw [(hget ho).2, (hget ho').2, hd, hd'] at this
    simp [hij] at this
  · intro i j o o' d ho ho' hij hd hu
    have := List.all_eq_true.1 (List.all_eq_true.1 h3 i (List.mem_range.2 (hget ho).1)) j (List.mem_range.2 (hget ho').1)
    rw [(hget ho).2, (hget ho').2, hd] at this
    have hne : (i == j) = false := by simpa using hij
    simp only [hne, Bool.false_or, Bool.and_eq_true, Bool.or_eq_true, Bool.not_eq_true'] at this
    have h := this.2
    rcases h with h | h
    · have hc : (uses ops.toArray o').contains d = true := List.contains_iff_mem.2 hu
      rw [hc] at h; cases h
    · split at h
      · exact ⟨fun _ => by simpa [Ahead] using h, fun _ => by omega⟩
      · exact ⟨fun _ => by omega, fun _ => by simpa [Ahead] using h⟩
  · intro i j o o' ho ho' hfl ha hij
    have := List.all_eq_true.1 h5 i (List.mem_range.2 (hget ho).1)
    rw [(hget ho).2, hfl] at this
    simp only [Bool.not_true, Bool.false_or] at this
    have := List.all_eq_true.1 this j (hact ho' ha)
    simp only [Bool.or_eq_true, decide_eq_true_eq, List.contains_iff_mem] at this
    rcases this with h | h
    · omega
    · exact h
  · intro j hj
    refine ⟨_, by rw [List.getElem?_map, List.getElem?_range hj]; rfl, rfl, rfl⟩

end Go.Am

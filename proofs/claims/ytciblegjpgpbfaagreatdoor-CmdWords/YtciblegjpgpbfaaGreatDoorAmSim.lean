/-
  A region that draws its order: what holds between two operations, whatever the order. No condition beyond the relation itself.
-/
import Derived.Test.YtciblegjpgpbfaaGreatDoorAmFloat
namespace Go.Am
open Go

variable {P : Program}

theorem lget {ops : Array Oper} {j : Nat} {o : Oper} (h : ops[j]? = some o) : ops.toList[j]? = some o := by simpa using h

/-- What one step of the run in the order of the text is. -/
theorem stepT_cases {call : ACall} {y : Option (Nat × Yld)} {ops : Array Oper} {o : Oper} {s s' : TS} (h : stepT P call y ops o s = some s') :
    s'.f = s.f.put o.dst s'.v ∧ ((wantedA ops o s.f = some false ∧ s'.H = s.H ∧ s'.v = .atom undef) ∨ (wantedA ops o s.f = some true ∧
      ((Oper.floats o = true ∧ opA P (s.f.eval P) o s.H = some (.value s'.v s'.H)) ∨
       (Oper.floats o = false ∧ Oper.quiet P o = true ∧ s'.H = s.H ∧ opA P (s.f.eval P) o s.H = some (.value s'.v s.H)) ∨
       (Oper.floats o = false ∧ Oper.quiet P o = false ∧ runOp P call y (s.f.eval P) o s.H = some (.value s'.v s'.H))))) := by
  unfold stepT at h
  split at h
  · cases h
  · rename_i hw; cases h; exact ⟨rfl, .inl ⟨hw, rfl, rfl⟩⟩
  · rename_i hw
    cases hfl : Oper.floats o with
    | true =>
      rw [hfl] at h
      simp only [cond_true] at h
      unfold valT at h
      split at h
      · rename_i hop; cases h; exact ⟨rfl, .inr ⟨hw, .inl ⟨rfl, hop⟩⟩⟩
      · cases h
    | false =>
      rw [hfl] at h
      cases hqu : Oper.quiet P o with
      | true =>
        rw [hqu] at h
        simp only [cond_true, cond_false] at h
        unfold quietT at h
        split at h
        · rename_i v H' hop
          cases h
          obtain ⟨v', e⟩ := quiet_value hqu hop
          injection e with e1 e2
          subst e1
          rw [e2] at hop
          exact ⟨rfl, .inr ⟨hw, .inr (.inl ⟨rfl, rfl, rfl, hop⟩)⟩⟩
        · cases h
      | false =>
        rw [hqu] at h
        simp only [cond_false] at h
        unfold actT at h
        split at h
        · rename_i hop; cases h; exact ⟨rfl, .inr ⟨hw, .inr (.inr ⟨rfl, rfl, hop⟩)⟩⟩
        · cases h

/-- All that is known of the region's run. -/
structure Cx (P : Program) (call : ACall) (y : Option (Nat × Yld)) (ops : Array Oper) (plan : List Plan) (f0 : Frm) (H0 : AH) (S : Nat → TS) (endp : List AH) : Prop where
  callOk : CallOk P call
  mono : YMono y
  planOk : PlanOk P ops.toList plan
  frm0 : (S 0).f = f0
  heap0 : (S 0).H = H0
  step : ∀ j o, ops[j]? = some o → stepT P call y ops o (S j) = some (S (j + 1))
  pk : ∀ j, j ≤ ops.size → (j = ops.size ∨ ∃ o, ops[j]? = some o ∧ acting P o = true) → endp.reverse[acts P ops j]? = some (S j).H
  quiet : ∀ (j : Nat) (o : Oper) (p : Plan), ops[j]? = some o → plan[j]? = some p → wantedA ops o (S j).f = some true → Oper.floats o = false → Oper.quiet P o = true → QuietOk P endp o p (S j).f (S (j + 1)).v

/-- A frame in which these operations have written. -/
structure Wrote (ops : Array Oper) (S : Nat → TS) (f0 : Frm) (D : Nat → Prop) (f : Frm) : Prop where
  n : f.n = f0.n
  rd : f.rd = f0.rd
  defers : f.defers = f0.defers
  wr : ∀ i o t, D i → ops[i]? = some o → o.dst = some t → t < f0.n → f.slot t = (S (i + 1)).v
  un : ∀ t, (∀ (i : Nat) (o : Oper), D i → ops[i]? = some o → o.dst ≠ some t) → f.slot t = f0.slot t
  out : ∀ t, f0.n ≤ t → f.slot t = f0.slot t

/-- What floats at this place of the text. -/
def Flt (ops : Array Oper) (S : Nat → TS) (i : Nat) : Prop := ∃ o, ops[i]? = some o ∧ Oper.floats o = true ∧ wantedA ops o (S i).f = some true

section
variable {call : ACall} {y : Option (Nat × Yld)} {ops : Array Oper} {plan : List Plan} {f0 : Frm} {H0 : AH} {S : Nat → TS} {endp : List AH} (cx : Cx P call y ops plan f0 H0 S endp)
include cx

theorem Wrote.put {D : Nat → Prop} {f : Frm} (h : Wrote ops S f0 D f) {i : Nat} {o : Oper} (ho : ops[i]? = some o) (hi : ¬ D i) : Wrote ops S f0 (fun j => D j ∨ j = i) (f.put o.dst (S (i + 1)).v) where
  n := by rw [Frm.put_n]; exact h.n
  rd := by rw [Frm.put_rd]; exact h.rd
  defers := by rw [Frm.put_defers]; exact h.defers
  wr := fun j oj t hj hoj hd ht => by
    cases hdo : o.dst with
    | none =>
      rcases hj with hj | rfl
      · exact h.wr j oj t hj hoj hd ht
      · rw [ho] at hoj; cases hoj; rw [hdo] at hd; cases hd
    | some d =>
      rw [Frm.slot_put]
      rcases hj with hj | rfl
      · have hne : j ≠ i := fun e => hi (e ▸ hj)
        have := cx.planOk.once j i oj o t (lget hoj) (lget ho) hne hd
        rw [hdo] at this
        rw [if_neg (by intro e; exact this (by rw [e.1]))]
        exact h.wr j oj t hj hoj hd ht
      · rw [ho] at hoj; cases hoj
        rw [hdo] at hd; cases hd
        rw [if_pos ⟨rfl, by rw [h.n]; exact ht⟩]
  un := fun t ht => by
    cases hdo : o.dst with
    | none => exact h.un t fun j oj hj hoj => ht j oj (.inl hj) hoj
    | some d =>
      rw [Frm.slot_put]
      have := ht i o (.inr rfl) ho
      rw [if_neg (by intro e; rw [hdo] at this; exact this (by rw [e.1]))]
      exact h.un t fun j oj hj hoj => ht j oj (.inl hj) hoj
  out := fun t ht => by
    cases hdo : o.dst with
    | none => exact h.out t ht
    | some d =>
      rw [Frm.slot_put, if_neg (by rw [h.n]; omega)]
      exact h.out t ht

omit cx in
theorem Wrote.congr {D E : Nat → Prop} {f : Frm} (h : Wrote ops S f0 D f) (hDE : ∀ i, i < ops.size → (D i ↔ E i)) : Wrote ops S f0 E f where
  n := h.n
  rd := h.rd
  defers := h.defers
  wr := fun i o t hi ho => h.wr i o t ((hDE i (lt_of_get ho)).2 hi) ho
  un := fun t ht => h.un t fun i o hi ho => ht i o ((hDE i (lt_of_get ho)).1 hi) ho
  out := h.out

theorem Cx.text {j : Nat} (hj : j ≤ ops.size) : Wrote ops S f0 (· < j) (S j).f := by
  induction j with
  | zero =>
    rw [cx.frm0]
    exact ⟨rfl, rfl, rfl, fun i o t hi => by omega, fun t _ => rfl, fun t _ => rfl⟩
  | succ j ih =>
    have hlt : j < ops.size := by omega
    have ho : ops[j]? = some ops[j] := Array.getElem?_eq_getElem hlt
    rw [(stepT_cases (cx.step j _ ho)).1]
    exact Wrote.congr (Wrote.put cx (ih (by omega)) ho (by omega)) fun i _ => by omega

theorem Cx.next_le {i : Nat} {o : Oper} (ho : ops[i]? = some o) : (S i).H.next ≤ (S (i + 1)).H.next := by
  rcases (stepT_cases (cx.step i o ho)).2 with ⟨_, h, _⟩ | ⟨_, ⟨_, h⟩ | ⟨_, _, h, _⟩ | ⟨_, _, h⟩⟩
  · rw [h]; exact Nat.le_refl _
  · exact opA_next h
  · rw [h]; exact Nat.le_refl _
  · exact runOp_next cx.callOk cx.mono h
theorem Cx.mono_next {i j : Nat} (hij : i ≤ j) (hj : j ≤ ops.size) : (S i).H.next ≤ (S j).H.next := by
  induction j with
  | zero => have : i = 0 := by omega
            subst this; exact Nat.le_refl _
  | succ j ih =>
    by_cases h : i = j + 1
    · subst h; exact Nat.le_refl _
    · have hlt : j < ops.size := by omega
      exact Nat.le_trans (ih (by omega) (by omega)) (cx.next_le (Array.getElem?_eq_getElem hlt))

theorem Cx.flt_push {i : Nat} (h : Flt ops S i) : ∃ B, (S (i + 1)).H = (S i).H.push B ∧ B.own = true := by
  obtain ⟨o, ho, hfl, hw⟩ := h
  rcases (stepT_cases (cx.step i o ho)).2 with ⟨hw', _⟩ | ⟨_, ⟨_, h⟩ | ⟨hfl', _⟩ | ⟨hfl', _⟩⟩
  · rw [hw] at hw'; cases hw'
  · obtain ⟨B, v, e, hown, _⟩ := float_shape hfl h
    injection e with _ e
    exact ⟨B, e, hown⟩
  · rw [hfl] at hfl'; cases hfl'
  · rw [hfl] at hfl'; cases hfl'

theorem Cx.flt_next {i : Nat} (h : Flt ops S i) : (S (i + 1)).H.next = (S i).H.next + 1 := by
  obtain ⟨B, e, _⟩ := cx.flt_push h
  rw [e]; rfl

omit cx in
theorem flt_lt {i : Nat} (h : Flt ops S i) : i < ops.size := by obtain ⟨o, ho, _⟩ := h; exact lt_of_get ho

omit cx in
theorem flt_act {i : Nat} (h : Flt ops S i) {o : Oper} (ho : ops[i]? = some o) : acting P o = false := by
  obtain ⟨o', ho', hfl, _⟩ := h
  rw [ho] at ho'; cases ho'
  simp [acting, hfl]

/-- The frame that has come about agrees with the text's on what the operation looks at. -/
theorem Cx.agree {D : Nat → Prop} {f : Frm} (h : Wrote ops S f0 D f) (hD : ∀ j o, D j → ops[j]? = some o → ∀ k ∈ direct o, D k) {i : Nat} {o : Oper} (ho : ops[i]? = some o) (hi : ¬ D i) (hdir : ∀ k ∈ direct o, D k) {t : Tmp}
    (ht : t ∈ uses ops o) : f.slot t = (S i).f.slot t := by
  have hlt := lt_of_get ho
  have hx := cx.text (j := i) (by omega)
  have hcl : ∀ j, Ahead ops.toList j i → D j := ahead_closed (D := D) (fun j o hj hoj => hD j o hj (by simpa using hoj)) i o (lget ho) hdir
  by_cases hout : f0.n ≤ t
  · rw [h.out t hout, hx.out t hout]
  by_cases hex : ∃ k ok, ops[k]? = some ok ∧ ok.dst = some t ∧ k ≠ i
  · obtain ⟨k, ok, hok, hdk, hki⟩ := hex
    have hseen := cx.planOk.seen k i ok o t (lget hok) (lget ho) hki hdk (by simpa using ht)
    by_cases hlt' : k < i
    · have hDk := hcl k (hseen.1 hlt')
      have htn : t < f0.n := Nat.lt_of_not_le hout
      rw [h.wr k ok t hDk hok hdk htn, hx.wr k ok t hlt' hok hdk htn]
    · have hgt : i < k := by omega
      have hDk : ¬ D k := fun hk => hi (by
        have hkd : ∀ j ∈ direct ok, D j := hD k ok hk hok
        exact ahead_closed (D := D) (fun j o hj hoj => hD j o hj (by simpa using hoj)) k ok (lget hok) hkd i (hseen.2 hgt))
      have hoth : ∀ j oj, ops[j]? = some oj → oj.dst = some t → j = k := by
        intro j oj hoj hdj
        by_cases e : j = k
        · exact e
        · exact absurd hdk (cx.planOk.once j k oj ok t (lget hoj) (lget hok) e hdj)
      rw [h.un t fun j oj hj hoj hdj => hDk (by rw [← hoth j oj hoj hdj]; exact hj), hx.un t fun j oj hj hoj hdj => by have := hoth j oj hoj hdj; omega]
  · have hno : ∀ j oj, ops[j]? = some oj → oj.dst = some t → j = i := by
      intro j oj hoj hdj
      by_cases e : j = i
      · exact e
      · exact absurd ⟨j, oj, hoj, hdj, e⟩ hex
    rw [h.un t fun j oj hj hoj hdj => hi (by rw [← hno j oj hoj hdj]; exact hj), hx.un t fun j oj hj hoj hdj => by have := hno j oj hoj hdj; omega]

end

end Go.Am

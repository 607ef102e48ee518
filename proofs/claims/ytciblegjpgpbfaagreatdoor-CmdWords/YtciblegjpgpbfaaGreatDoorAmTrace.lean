/-
  A region that draws its order: what the machine's run in the order of the text has found. No condition.
-/
import Derived.Test.YtciblegjpgpbfaaGreatDoorAmPlan
namespace Go.Am
open Go

variable {P : Program}

/-- A state of the run in the order of the text: the frame, the heap, the last operation's value. -/
structure TS where
  f : Frm
  H : AH
  v : AV

noncomputable def valT (o : Oper) (s : TS) : Option ONext → Option TS
  | some (.value v H') => some ⟨s.f.put o.dst v, H', v⟩
  | _ => none
noncomputable def quietT (o : Oper) (s : TS) : Option ONext → Option TS
  | some (.value v _) => some ⟨s.f.put o.dst v, s.H, v⟩
  | _ => none
noncomputable def actT (o : Oper) (s : TS) : Option Ran → Option TS
  | some (.value v H') => some ⟨s.f.put o.dst v, H', v⟩
  | _ => none
noncomputable def stepT (P : Program) (call : ACall) (y : Option (Nat × Yld)) (ops : Array Oper) (o : Oper) (s : TS) : Option TS :=
  match wantedA ops o s.f with
  | none => none
  | some false => some ⟨s.f.put o.dst (.atom undef), s.H, .atom undef⟩
  | some true => cond (Oper.floats o) (valT o s (opA P (s.f.eval P) o s.H)) (cond (Oper.quiet P o) (quietT o s (opA P (s.f.eval P) o s.H)) (actT o s (runOp P call y (s.f.eval P) o s.H)))

noncomputable def runT (P : Program) (call : ACall) (y : Option (Nat × Yld)) (ops : Array Oper) (f0 : Frm) (H0 : AH) : Nat → Option TS
  | 0 => some ⟨f0, H0, .atom undef⟩
  | j + 1 => (ops[j]?).bind fun o => (runT P call y ops f0 H0 j).bind (stepT P call y ops o)

/-- So many acting operations stand ahead of place j in the text. -/
def acts (P : Program) (ops : Array Oper) (j : Nat) : Nat := ((List.range j).filter fun k => (ops[k]?).any (acting P)).length
theorem acts_zero (ops : Array Oper) : acts P ops 0 = 0 := rfl
theorem acts_succ {ops : Array Oper} {j : Nat} {o : Oper} (ho : ops[j]? = some o) : acts P ops (j + 1) = acts P ops j + (if acting P o then 1 else 0) := by
  unfold acts
  rw [List.range_succ, List.filter_append, List.length_append]
  congr 1
  rw [List.filter_cons, ho]
  simp only [Option.any_some]
  split <;> rfl

def Later.holds (P : Program) (endp : List AH) (x : Later) : Prop := sameAt P x.ρ x.o x.v ((endp.reverse.drop x.p.lo).take (x.p.hi + 1 - x.p.lo)) = true

/-- What a quiet operation's value is held against. -/
def QuietOk (P : Program) (endp : List AH) (o : Oper) (p : Plan) (f : Frm) (v : AV) : Prop := Oper.reading o = true → Later.holds P endp { ρ := f.eval P, o := o, v := v, p := p }

structure Traced (P : Program) (call : ACall) (y : Option (Nat × Yld)) (ops : Array Oper) (plan : List Plan) (f0 : Frm) (H0 : AH) (i : Nat) (pt : List AH) (later : List Later) (x : AX) (f' : Frm) (H' : AH) : Prop where
  normal : x = .normal
  whole : ∃ endp v', runT P call y ops f0 H0 ops.size = some ⟨f', H', v'⟩ ∧
    (∀ c, c < pt.length → endp.reverse[c]? = pt.reverse[c]?) ∧
    (∀ j s, i ≤ j → j ≤ ops.size → runT P call y ops f0 H0 j = some s → (j = ops.size ∨ ∃ o, ops[j]? = some o ∧ acting P o = true) → endp.reverse[acts P ops j]? = some s.H) ∧
    (∀ z ∈ later, Later.holds P endp z) ∧
    (∀ j o p s s', i ≤ j → ops[j]? = some o → plan[j]? = some p → runT P call y ops f0 H0 j = some s → runT P call y ops f0 H0 (j + 1) = some s' → wantedA ops o s.f = some true → Oper.floats o = false → Oper.quiet P o = true →
      QuietOk P endp o p s.f s'.v)

theorem draw_trace {call : ACall} {y : Option (Nat × Yld)} {ops : Array Oper} {plan : List Plan} {f0 : Frm} {H0 : AH} (hsz : plan.length = ops.size) (l : List (Oper × Plan)) :
    ∀ (i : Nat), (ops.toList.zip plan).drop i = l → i ≤ ops.size → ∀ {f : Frm} {H : AH} {v : AV} {pt : List AH} {later : List Later} {x : AX} {f' : Frm} {H' : AH}, drawA P call y ops l f (H :: pt) later = some (x, f', H') →
      runT P call y ops f0 H0 i = some ⟨f, H, v⟩ → pt.length = acts P ops i → Traced P call y ops plan f0 H0 i pt later x f' H' := by
  induction l with
  | nil =>
    intro i hl hle f H v pt later x f' H' h hr hpt
    have hi : i = ops.size := by
      have := congrArg List.length hl
      simp [hsz] at this
      omega
    subst hi
    rw [drawA_nil] at h
    unfold drawEnd at h
    obtain ⟨hall, h⟩ := cond_some h
    cases h
    refine ⟨rfl, H :: pt, v, hr, ?_, ?_, ?_, ?_⟩
    · intro c hc
      rw [List.reverse_cons, List.getElem?_append_left (by simpa using hc)]
    · intro j s h1 h2 hj _
      have : j = ops.size := by omega
      subst this
      rw [hr] at hj; cases hj
      rw [← hpt]; simp
    · intro z hz
      exact List.all_eq_true.1 hall z hz
    · intro j o p s s' h1 ho
      have := lt_of_get ho
      omega
  | cons z l ih =>
    intro i hl hle f H v pt later x f' H' h hr hpt
    obtain ⟨o, p⟩ := z
    have hz : (ops.toList.zip plan)[i]? = some (o, p) := by
      have : ((ops.toList.zip plan).drop i)[0]? = some (o, p) := by rw [hl]; rfl
      simpa using this
    have hl' : (ops.toList.zip plan).drop (i + 1) = l := by rw [← List.drop_drop, hl]; rfl
    rw [List.getElem?_zip_eq_some] at hz
    have ho : ops[i]? = some o := by simpa using hz.1
    have hp : plan[i]? = some p := hz.2
    have hlt := lt_of_get ho
    rw [drawA_cons] at h
    simp only [drawOne] at h
    have hrun : runT P call y ops f0 H0 (i + 1) = stepT P call y ops o ⟨f, H, v⟩ := by
      show (ops[i]?).bind _ = _
      rw [ho, hr]; rfl
    have hacts := acts_succ (P := P) ho
    -- what is said from i + 1 on, said from i on
    have lift : ∀ {pt' : List AH} {later' : List Later}, Traced P call y ops plan f0 H0 (i + 1) pt' later' x f' H' → (acting P o = true → pt' = H :: pt) → (acting P o = false → pt' = pt) → (∀ z ∈ later, z ∈ later') →
        (∀ endp, (∀ z ∈ later', Later.holds P endp z) → ∀ s', stepT P call y ops o ⟨f, H, v⟩ = some s' → wantedA ops o f = some true → Oper.floats o = false → Oper.quiet P o = true → QuietOk P endp o p f s'.v) → Traced P call y ops plan f0 H0 i pt later x f' H' := by
      intro pt' later' ⟨hn, endp, v', h1, h2, h3, h4, h5⟩ ha1 ha2 hsub hq
      refine ⟨hn, endp, v', h1, ?_, ?_, fun z hz => h4 z (hsub z hz), ?_⟩
      · intro c hc
        cases ha : acting P o with
        | true =>
          rw [ha1 ha] at h2
          rw [h2 c (by simp; omega), List.reverse_cons, List.getElem?_append_left (by simpa using hc)]
        | false => rw [ha2 ha] at h2; exact h2 c hc
      · intro j s hj1 hj2 hj hor
        by_cases hji : j = i
        · subst hji
          rcases hor with hor | ⟨o', ho', ha⟩
          · omega
          · rw [ho] at ho'; cases ho'
            rw [hr] at hj; cases hj
            rw [ha1 ha] at h2
            rw [← hpt, h2 pt.length (by simp)]; simp
        · exact h3 j s (by omega) hj2 hj hor
      · intro j o' p' s s' hj ho' hp' hs hs' hw hfl hqu
        by_cases hji : j = i
        · subst hji
          rw [ho] at ho'; cases ho'
          rw [hp] at hp'; cases hp'
          rw [hr] at hs; cases hs
          rw [hrun] at hs'
          exact hq endp h4 s' hs' hw hfl hqu
        · exact h5 j o' p' s s' (by omega) ho' hp' hs hs' hw hfl hqu
    split at h
    · cases h
    · -- not wanted
      rename_i hw
      have hst : stepT P call y ops o ⟨f, H, v⟩ = some ⟨f.put o.dst (.atom undef), H, .atom undef⟩ := by simp [stepT, hw]
      cases ha : acting P o with
      | true =>
        rw [ha] at h hacts
        exact lift (ih (i + 1) hl' (by omega) h (by rw [hrun, hst]) (by rw [hacts]; simp [hpt])) (fun _ => rfl) (fun e => by rw [ha] at e; cases e) (fun _ h => h) (fun endp _ s' _ hw' => by rw [hw] at hw'; cases hw')
      | false =>
        rw [ha] at h hacts
        exact lift (ih (i + 1) hl' (by omega) h (by rw [hrun, hst]) (by rw [hacts]; simp [hpt])) (fun e => by rw [ha] at e; cases e) (fun _ => rfl) (fun _ h => h) (fun endp _ s' _ hw' => by rw [hw] at hw'; cases hw')
    · rename_i hw
      cases hfl : Oper.floats o with
      | true =>
        have ha : acting P o = false := by simp [acting, hfl]
        rw [ha] at hacts
        rw [hfl] at h
        simp only [cond_true] at h
        unfold drawFloat at h
        split at h
        · rename_i v1 H1 hop
          have hst : stepT P call y ops o ⟨f, H, v⟩ = some ⟨f.put o.dst v1, H1, v1⟩ := by simp [stepT, hw, hfl, valT, hop]
          exact lift (ih (i + 1) hl' (by omega) h (by rw [hrun, hst]) (by rw [hacts]; simp [hpt])) (fun e => by rw [ha] at e; cases e) (fun _ => rfl) (fun _ h => h) (fun endp _ s' _ _ hf' => by rw [hfl] at hf'; cases hf')
        · cases h
      | false =>
        rw [hfl] at h
        simp only [cond_false] at h
        cases hqu : Oper.quiet P o with
        | true =>
          have ha : acting P o = false := by simp [acting, hqu]
          rw [ha] at hacts
          rw [hqu] at h
          simp only [cond_true] at h
          unfold drawQuiet at h
          split at h
          · rename_i v1 H1 hop
            have hst : stepT P call y ops o ⟨f, H, v⟩ = some ⟨f.put o.dst v1, H, v1⟩ := by simp [stepT, hw, hfl, hqu, quietT, hop]
            refine lift (ih (i + 1) hl' (by omega) h (by rw [hrun, hst]) (by rw [hacts]; simp [hpt])) (fun e => by rw [ha] at e; cases e) (fun _ => rfl) ?_ ?_
            · intro z hz
              cases Oper.reading o with
              | true => exact List.mem_cons_of_mem _ hz
              | false => exact hz
            · intro endp hall s' hs' _ _ _ hrd
              rw [hst] at hs'; cases hs'
              refine hall _ ?_
              rw [hrd]; exact List.mem_cons_self
          · cases h
        | false =>
          have ha : acting P o = true := by simp [acting, hfl, hqu]
          rw [ha] at hacts
          rw [hqu] at h
          simp only [cond_false] at h
          unfold drawActs at h
          split at h
          · rename_i v1 H1 hop
            have hst : stepT P call y ops o ⟨f, H, v⟩ = some ⟨f.put o.dst v1, H1, v1⟩ := by simp [stepT, hw, hfl, hqu, actT, hop]
            exact lift (ih (i + 1) hl' (by omega) h (by rw [hrun, hst]) (by rw [hacts]; simp [hpt])) (fun _ => rfl) (fun e => by rw [ha] at e; cases e) (fun _ h => h) (fun endp _ s' _ _ _ hq' => by rw [hqu] at hq'; cases hq')
          · cases h

end Go.Am

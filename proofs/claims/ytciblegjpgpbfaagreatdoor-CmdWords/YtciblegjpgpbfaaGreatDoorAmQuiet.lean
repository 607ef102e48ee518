/-
  The abstract machine's quiet operations and those that float: what they hang on. No condition.
-/
import Derived.Test.YtciblegjpgpbfaaGreatDoorAmTrace
namespace Go.Am
open Go

variable {P : Program} {ρ : Map} {H : AH} {w : World}

theorem partsA_congr {ra rb : Operand → AV} {ps : Array (Nat × Operand)} (h : ∀ x ∈ ps.toList.map (·.2), ra x = rb x) : partsA ra ps = partsA rb ps := by
  unfold partsA
  apply List.map_congr_left
  intro p hp
  rw [h p.2 (List.mem_map.2 ⟨p, hp, rfl⟩)]

theorem list_congr {ra rb : Operand → AV} {l : List Operand} (h : ∀ x ∈ l, ra x = rb x) : l.map ra = l.map rb := List.map_congr_left h

theorem opt_congr {ra rb : Operand → AV} {x : Option Operand} (h : ∀ y, x = some y → ra y = rb y) : x.map ra = x.map rb := by
  cases x with
  | none => rfl
  | some y => simp [h y rfl]

theorem opCall_congr {ra rb : Operand → AV} {c : Call} (h : ∀ x ∈ c.operands, ra x = rb x) : opCall P ra c H = opCall P rb c H := by
  have hargs : c.args.toList.map ra = c.args.toList.map rb := list_congr fun x hx => h x (by simp only [Call.operands]; split <;> simp_all)
  unfold opCall
  rw [hargs]
  split
  · rfl
  · rename_i f hf
    rw [h f (by simp [Call.operands, hf])]
  · rfl
theorem opDefer_congr {ra rb : Operand → AV} {c : Call} (h : ∀ x ∈ c.operands, ra x = rb x) : opDefer P ra c H = opDefer P rb c H := by
  have hargs : c.args.toList.map ra = c.args.toList.map rb := list_congr fun x hx => h x (by simp only [Call.operands]; split <;> simp_all)
  unfold opDefer
  rw [hargs]
  split
  · rename_i f hf
    rw [h f (by simp [Call.operands, hf])]
  · rfl

/-- An operation hangs on its operands alone. -/
theorem opA_congr {ra rb : Operand → AV} {o : Oper} (h : ∀ x ∈ o.op.operands, ra x = rb x) : opA P ra o H = opA P rb o H := by
  unfold opA
  generalize hop : o.op = op at h
  cases op <;> simp only [Op.operands] at h <;> (try simp only)
  case move x => rw [h x (by simp)]
  case assign x => rw [h x (by simp)]
  case pick c a b => rw [h c (by simp), h a (by simp), h b (by simp)]
  case box e x => rw [h x (by simp)]
  case build t ps => rw [partsA_congr fun x hx => h x (by simpa using hx)]
  case buildSlice t n ps => rw [partsA_congr fun x hx => h x (by simpa using hx)]
  case load t x => rw [h x (by simp)]
  case store t a x => rw [h a (by simp), h x (by simp)]
  case nilCheck x => rw [h x (by simp)]
  case binOp op t x y _ => rw [h x (by simp), h y (by simp)]
  case unOp op t x => rw [h x (by simp)]
  case convert s d x => rw [h x (by simp)]
  case makeInterface t x => rw [h x (by simp)]
  case makeFunc fn first captured =>
    rw [list_congr (l := first.toList) fun x hx => h x (by simp at hx ⊢; exact .inl hx), list_congr (l := captured.toList) fun x hx => h x (by simp at hx ⊢; exact .inr hx)]
  case makeSlice t a b => rw [h a (by simp), h b (by simp)]
  case slice t x lo hi mx =>
    rw [h x (by simp), opt_congr (x := lo) fun y hy => h y (by simp [hy]), opt_congr (x := hi) fun y hy => h y (by simp [hy]), opt_congr (x := mx) fun y hy => h y (by simp [hy])]
  case fieldAddr s x f => rw [h x (by simp)]
  case field s x f => rw [h x (by simp)]
  case indexAddr t x i => rw [h x (by simp), h i (by simp)]
  case index t x i => rw [h x (by simp), h i (by simp)]
  case typeAssert x a b c => rw [h x (by simp)]
  case extract x i => rw [h x (by simp)]
  case call c => rw [opCall_congr h]
  case defer c => rw [opDefer_congr h]
  case panic x => rw [h x (by simp)]

theorem runOp_congr {call : ACall} {y : Option (Nat × Yld)} {ra rb : Operand → AV} {o : Oper} (h : ∀ x ∈ o.op.operands, ra x = rb x) : runOp P call y ra o H = runOp P call y rb o H := by
  unfold runOp
  rw [opA_congr h]

theorem builtin_same {b : Builtin} (hb : b = .len ∨ b = .cap ∨ b = .max ∨ b = .min) {ts : Array TypeId} {as : List AV} {v : AV} {H' : AH} (h : builtinA P b ts as H = some (v, H')) : H' = H := by
  rcases hb with rfl | rfl | rfl | rfl <;> simp only [builtinA] at h
  · repeat' (split at h)
    all_goals first | (cases h; rfl) | cases h
  · repeat' (split at h)
    all_goals first | (cases h; rfl) | cases h
  · exact map_pair h
  · exact map_pair h

/-- What a quiet operation comes to: a value; the heap is as it was. -/
theorem quiet_value {ra : Operand → AV} {o : Oper} {r : ONext} (hq : Oper.quiet P o = true) (h : opA P ra o H = some r) : ∃ v, r = .value v H := by
  have hv : ∀ {x : Option AV} {r : ONext}, opVal x H = some r → ∃ v, r = .value v H := by
    intro x r e
    cases x with
    | none => cases e
    | some v => cases e; exact ⟨v, rfl⟩
  have hs : ∀ {v : AV} {r : ONext}, some (ONext.value v H) = some r → ∃ v, r = .value v H := by
    intro v r e; cases e; exact ⟨v, rfl⟩
  unfold Oper.quiet at hq
  unfold opA at h
  generalize o.op = op at hq h
  split at hq
  · -- convert
    rename_i s d x
    split at hq
    · cases hq
    · cases hq
    · rename_i _ e he hd
      simp only at h
      unfold opValH at h
      cases hc : convA P H s d (ra x) with
      | none => rw [hc] at h; cases h
      | some z =>
        obtain ⟨v, H'⟩ := z
        rw [hc] at h
        cases h
        refine ⟨v, ?_⟩
        unfold convA at hc
        split at hc
        · cases hc; rfl
        · cases hc; rfl
        · rename_i e' s' h1 h2
          rw [hd] at h1; cases h1; exact absurd rfl (he _)
        · unfold convStr at hc
          split at hc
          · cases hc; rfl
          · split at hc
            · split at hc
              · cases hc; rfl
              · cases hc
            · cases hc
          · cases hc
        · unfold toUnsafe at hc
          split at hc
          · obtain ⟨_, hc⟩ := cond_some hc; cases hc; rfl
          · cases hc
        · unfold ofUnsafe at hc
          split at hc
          · obtain ⟨_, hc⟩ := cond_some hc; cases hc; rfl
          · cases hc
        · cases hc
  all_goals (try simp only at h)
  · exact hs h
  · exact hs h
  · unfold opPick at h; split at h <;> first | exact hs h | cases h
  · unfold opBuild at h
    split at h
    · obtain ⟨_, h⟩ := cond_some h; exact hv h
    · split at h <;> first | exact hv h | cases h
    · cases h
  · exact hv h
  · unfold opNilCheck at h; split at h <;> first | exact hs h | cases h
  · unfold opBin at h; split at h <;> exact hv h
  · exact hv h
  · unfold opIface at h; split at h <;> first | exact hs h | cases h
  · unfold opFunc at h; split at h <;> first | exact hs h | cases h
  · exact hv h
  · unfold opFieldAddr at h; repeat' (split at h)
    all_goals first | exact hs h | cases h
  · unfold opField at h; repeat' (split at h)
    all_goals first | exact hv h | cases h
  · unfold opIndexAddr at h; repeat' (split at h)
    all_goals first | exact hs h | cases h
  · unfold opIndex at h; repeat' (split at h)
    all_goals first | exact hs h | exact hv h | cases h
  · unfold opAssert at h; repeat' (split at h)
    all_goals first | (obtain ⟨_, h⟩ := cond_some h; exact hs h) | cases h
  · unfold opExtract at h; split at h <;> first | exact hv h | cases h
  all_goals first
    | (cases hq; done)
    | (unfold opCall at h
       simp only at h
       unfold opValH at h
       rename_i args ts
       first
         | (generalize hb : builtinA P .len ts (args.toList.map ra) H = b at h
            cases b with
            | none => cases h
            | some z => obtain ⟨v, H'⟩ := z; cases h; rw [builtin_same (.inl rfl) hb]; exact ⟨v, rfl⟩)
         | (generalize hb : builtinA P .cap ts (args.toList.map ra) H = b at h
            cases b with
            | none => cases h
            | some z => obtain ⟨v, H'⟩ := z; cases h; rw [builtin_same (.inr (.inl rfl)) hb]; exact ⟨v, rfl⟩)
         | (generalize hb : builtinA P .max ts (args.toList.map ra) H = b at h
            cases b with
            | none => cases h
            | some z => obtain ⟨v, H'⟩ := z; cases h; rw [builtin_same (.inr (.inr (.inl rfl))) hb]; exact ⟨v, rfl⟩)
         | (generalize hb : builtinA P .min ts (args.toList.map ra) H = b at h
            cases b with
            | none => cases h
            | some z => obtain ⟨v, H'⟩ := z; cases h; rw [builtin_same (.inr (.inr (.inr rfl))) hb]; exact ⟨v, rfl⟩))

/-- The same at another heap. -/
def rebase (K : AH) : ONext → ONext
  | .value v _ => .value v K
  | x => x
theorem opVal_rebase {x : Option AV} {K : AH} : opVal x K = (opVal x H).map (rebase K) := by cases x <;> rfl
theorem cond_rebase {c : Bool} {x y : Option ONext} {K : AH} (h : x = y.map (rebase K)) : cond c x none = (cond c y none).map (rebase K) := by
  cases c
  · rfl
  · exact h

/-- A quiet operation that does not read: its value is the same at whatever heap. -/
theorem pure_at {ra : Operand → AV} {o : Oper} {K : AH} (hq : Oper.quiet P o = true) (hr : Oper.reading o = false) : opA P ra o K = (opA P ra o H).map (rebase K) := by
  unfold Oper.quiet at hq
  unfold Oper.reading at hr
  unfold opA
  generalize o.op = op at hq hr
  cases op <;> (try (cases hr; done)) <;> (try (cases hq; done)) <;> (try simp only)
  case move => rfl
  case assign => rfl
  case pick => unfold opPick; split <;> rfl
  case build =>
    unfold opBuild
    split
    · exact cond_rebase opVal_rebase
    · split
      · exact opVal_rebase
      · rfl
    · rfl
  case nilCheck => unfold opNilCheck; split <;> rfl
  case binOp => unfold opBin; split <;> exact opVal_rebase
  case unOp => exact opVal_rebase
  case makeInterface => unfold opIface; split <;> rfl
  case makeFunc => unfold opFunc; split <;> rfl
  case fieldAddr =>
    unfold opFieldAddr
    split
    · split
      · split <;> rfl
      · rfl
    · rfl
  case field =>
    unfold opField
    split
    · split
      · exact opVal_rebase
      · rfl
    · rfl
  case indexAddr =>
    unfold opIndexAddr
    split
    · split <;> rfl
    · split <;> rfl
    · rfl
  case index =>
    unfold opIndex
    split
    · split
      · split <;> rfl
      · rfl
    · split
      · exact opVal_rebase
      · rfl
    · rfl
  case typeAssert =>
    unfold opAssert
    split
    · rfl
    · exact cond_rebase rfl
    · rfl
  case extract =>
    unfold opExtract
    split
    · exact opVal_rebase
    · rfl
  case call c =>
    obtain ⟨callee, args, ts⟩ := c
    have key : ∀ {x : AH → Option (AV × AH)}, (∀ K, x K = (x H).map fun z => (z.1, K)) → opValH (x K) = (opValH (x H)).map (rebase K) := by
      intro x hx
      rw [hx K]
      cases x H with
      | none => rfl
      | some z => rfl
    cases callee with
    | value f => cases hq
    | invoke a b => cases hq
    | builtin b =>
      cases b <;> (try (cases hq; done)) <;> simp only [opCall] <;> refine key fun K => ?_ <;> simp only [builtinA]
      · split
        · split <;> rfl
        · rfl
      · split
        · split <;> rfl
        · rfl
      · cases maxA (args.toList.map ra) <;> rfl
      · cases minA (args.toList.map ra) <;> rfl

end Go.Am

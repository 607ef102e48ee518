/-
  The abstract machine's heap only grows: the next block's number never falls. No condition.
-/
import Derived.Test.YtciblegjpgpbfaaGreatDoorAmCtl
namespace Go.Am
open Go

variable {P : Program} {H H' : AH}

theorem write_next {b off : Nat} {vs : List AV} (h : H.write b off vs = some H') : H'.next = H.next := by
  unfold AH.write at h
  split at h
  · obtain ⟨_, h⟩ := cond_some h
    unfold AH.wrote at h
    split at h
    · cases h; rfl
    · cases h
  · cases h

theorem cond_cases {α : Type} {c : Bool} {x y : Option α} {z : α} (h : cond c x y = some z) : x = some z ∨ y = some z := by
  cases c
  · exact .inr h
  · exact .inl h

theorem appNew_next {e : TypeId} {size len n : Nat} {old new : List AV} {v : AV} (h : appNew H e size len n old new = some (v, H')) : H.next ≤ H'.next := by
  cases h; simp

theorem appRoom_next {e : TypeId} {size b off len n : Nat} {new : List AV} {B : Blk} {v : AV} (h : appRoom H e size b off len n new B = some (v, H')) : H.next ≤ H'.next := by
  unfold appRoom at h
  rcases cond_cases h with h | h
  · split at h
    · rename_i hw; cases h; rw [write_next hw]; exact Nat.le_refl _
    · cases h
  · obtain ⟨_, h⟩ := cond_some h
    cases h; simp

theorem appTo_next {e : TypeId} {size n : Nat} {new : List AV} {s v : AV} (h : appTo H e size n new s = some (v, H')) : H.next ≤ H'.next := by
  unfold appTo at h
  split at h
  · exact appNew_next h
  · rcases cond_cases h with h | h
    · split at h
      · rename_i hw; cases h; rw [write_next hw]; exact Nat.le_refl _
      · cases h
    · split at h
      · exact appNew_next h
      · cases h
  · split at h
    · obtain ⟨_, h⟩ := cond_some h; exact appRoom_next h
    · cases h
  · cases h

theorem appendA_next {e : TypeId} {s x v : AV} (h : appendA P H e s x = some (v, H')) : H.next ≤ H'.next := by
  unfold appendA at h
  split at h
  · split at h
    · obtain ⟨_, h⟩ := cond_some h
      rcases cond_cases h with h | h
      · cases h; exact Nat.le_refl _
      · obtain ⟨_, h⟩ := cond_some h; exact appTo_next h
    · cases h
  · cases h

theorem copyA_next {e : TypeId} {s x v : AV} (h : copyA P H e s x = some (v, H')) : H.next ≤ H'.next := by
  unfold copyA at h
  split at h
  · split at h
    · obtain ⟨_, h⟩ := cond_some h
      rcases cond_cases h with h | h
      · cases h; exact Nat.le_refl _
      · unfold copyTo at h
        split at h
        · split at h
          · rename_i hw; cases h; rw [write_next hw]; exact Nat.le_refl _
          · cases h
        · cases h
    · cases h
  · cases h

theorem convA_next {s d : TypeId} {x v : AV} (h : convA P H s d x = some (v, H')) : H.next ≤ H'.next := by
  unfold convA at h
  split at h
  · cases h; exact Nat.le_refl _
  · cases h; exact Nat.le_refl _
  · unfold convBytes at h
    split at h
    · obtain ⟨_, h⟩ := cond_some h; cases h; simp
    · cases h
  · unfold convStr at h
    split at h
    · cases h; exact Nat.le_refl _
    · split at h
      · split at h
        · cases h; exact Nat.le_refl _
        · cases h
      · cases h
    · cases h
  · unfold toUnsafe at h
    split at h
    · obtain ⟨_, h⟩ := cond_some h; cases h; exact Nat.le_refl _
    · cases h
  · unfold ofUnsafe at h
    split at h
    · obtain ⟨_, h⟩ := cond_some h; cases h; exact Nat.le_refl _
    · cases h
  · cases h

theorem map_pair {x : Option AV} {v : AV} (h : x.map (·, H) = some (v, H')) : H' = H := by
  cases x with
  | none => cases h
  | some y => cases h; rfl

theorem builtinA_next {b : Builtin} {ts : Array TypeId} {as : List AV} {v : AV} (h : builtinA P b ts as H = some (v, H')) : H.next ≤ H'.next := by
  unfold builtinA at h
  repeat' (split at h)
  all_goals first
    | exact appendA_next h
    | exact copyA_next h
    | (rw [map_pair h]; exact Nat.le_refl _)
    | (cases h; done)
    | (cases h; exact Nat.le_refl _)

theorem withH_next {x : Option AV} {v : AV} (h : withH H x = some (v, H')) : H.next ≤ H'.next := by
  unfold withH at h
  rw [map_pair h]; exact Nat.le_refl _

theorem externA_next {fn : Func} {as : List AV} {v : AV} (h : externA P fn as H = some (v, H')) : H.next ≤ H'.next := by
  obtain ⟨_, h⟩ := cond_some h
  unfold externIn at h
  repeat' (split at h)
  all_goals first
    | exact withH_next h
    | (cases h; done)
    | skip
  unfold makeNoZeroA at h
  repeat' (split at h)
  all_goals first
    | (cases h; done)
    | (obtain ⟨_, h⟩ := cond_some h; cases h; simp)

theorem callFn_next {f : FuncId} {as : List AV} {r : ONext} (h : callFn P f as H = some r) : H.next ≤ r.heap.next := by
  unfold callFn at h
  split at h
  · cases h
  · split at h
    · cases h
    · split at h
      · rename_i fn _ _ _
        cases he : externA P fn as H with
        | none => rw [he] at h; cases h
        | some q => obtain ⟨v, H'⟩ := q; rw [he] at h; cases h; exact externA_next he
      · cases h; exact Nat.le_refl _

theorem opVal_next {x : Option AV} {r : ONext} (h : opVal x H = some r) : H.next ≤ r.heap.next := by
  cases x with
  | none => cases h
  | some v => cases h; exact Nat.le_refl _
theorem some_next {v : AV} {r : ONext} (h : some (ONext.value v H) = some r) : H.next ≤ r.heap.next := by cases h; exact Nat.le_refl _
theorem push_next {v : AV} {B : Blk} {r : ONext} (h : some (ONext.value v (H.push B)) = some r) : H.next ≤ r.heap.next := by cases h; simp [ONext.heap]

theorem opA_next {ra : Operand → AV} {o : Oper} {r : ONext} (h : opA P ra o H = some r) : H.next ≤ r.heap.next := by
  unfold opA at h
  split at h
  · exact some_next h
  · exact some_next h
  · unfold opPick at h; split at h <;> first | exact some_next h | cases h
  · unfold opAlloc at h; split at h <;> first | exact push_next h | cases h
  · unfold opBox at h; obtain ⟨_, h⟩ := cond_some h; exact push_next h
  · unfold opBuild at h
    split at h
    · obtain ⟨_, h⟩ := cond_some h; exact opVal_next h
    · split at h <;> first | exact opVal_next h | cases h
    · cases h
  · unfold opBuildSlice at h
    split at h
    · split at h
      · obtain ⟨_, h⟩ := cond_some h
        split at h <;> first | exact push_next h | cases h
      · cases h
    · cases h
  · exact opVal_next h
  · unfold opStore at h
    split at h
    · rename_i hs
      cases h
      unfold storeA at hs
      split at hs
      · split at hs
        · show _ ≤ _; rw [ONext.heap, write_next hs]; exact Nat.le_refl _
        · cases hs
      · cases hs
    · cases h
  · unfold opNilCheck at h; split at h <;> first | exact some_next h | cases h
  · unfold opBin at h; split at h <;> exact opVal_next h
  · exact opVal_next h
  · unfold opValH at h
    rename_i src dst q _
    cases hc : convA P H src dst (ra q) with
    | none => rw [hc] at h; cases h
    | some z => obtain ⟨v, H'⟩ := z; rw [hc] at h; cases h; exact convA_next hc
  · unfold opIface at h; split at h <;> first | exact some_next h | cases h
  · unfold opFunc at h; split at h <;> first | exact some_next h | cases h
  · unfold opMakeSlice at h
    split at h
    · split at h
      · obtain ⟨_, h⟩ := cond_some h; exact push_next h
      · cases h
    · cases h
  · exact opVal_next h
  · unfold opFieldAddr at h; repeat' (split at h)
    all_goals first | exact some_next h | cases h
  · unfold opField at h; repeat' (split at h)
    all_goals first | exact opVal_next h | cases h
  · unfold opIndexAddr at h; repeat' (split at h)
    all_goals first | exact some_next h | cases h
  · unfold opIndex at h; repeat' (split at h)
    all_goals first | exact some_next h | exact opVal_next h | cases h
  · unfold opAssert at h; repeat' (split at h)
    all_goals first | (obtain ⟨_, h⟩ := cond_some h; exact some_next h) | cases h
  · unfold opExtract at h; split at h <;> first | exact opVal_next h | cases h
  · rename_i c _
    unfold opCall at h
    split at h
    · rename_i b _
      unfold opValH at h
      cases hc : builtinA P b c.argTypes (c.args.toList.map ra) H with
      | none => rw [hc] at h; cases h
      | some z => obtain ⟨v, H'⟩ := z; rw [hc] at h; cases h; exact builtinA_next hc
    · unfold opCallValue at h
      split at h
      · exact callFn_next h
      · cases h; exact Nat.le_refl _
      · cases h
    · cases h
  · unfold opDefer at h; repeat' (split at h)
    all_goals first | (cases h; exact Nat.le_refl _) | cases h
  · unfold opPanic at h; split at h <;> first | (cases h; exact Nat.le_refl _) | cases h
  · cases h

theorem runOp_next {call : ACall} (hc : CallOk P call) {y : Option (Nat × Yld)} (hm : YMono y) {ra : Operand → AV} {o : Oper} {r : Ran} (h : runOp P call y ra o H = some r) : H.next ≤ r.heap.next := by
  unfold runOp at h
  cases hop : opA P ra o H with
  | none => rw [hop] at h; cases h
  | some nx =>
    rw [hop] at h
    have h0 := opA_next hop
    cases nx with
    | value v H1 => cases h; exact h0
    | skip H1 => cases h; exact h0
    | defer g as H1 => cases h; exact h0
    | panic v H1 => cases h; exact h0
    | yield k args H1 =>
      simp only at h
      split at h
      · split at h
        · rename_i k' g _
          cases hg : g args H1 with
          | none => rw [hg] at h; cases h
          | some H2 => rw [hg] at h; cases h; exact Nat.le_trans h0 (hm _ _ rfl _ _ _ hg)
        · cases h
      · cases h
    | enter g args H1 =>
      simp only at h
      cases hcall : call g args none H1 with
      | none => rw [hcall] at h; cases h
      | some cr =>
        rw [hcall] at h
        have := hc.next _ _ _ _ _ hcall YMono.none
        cases cr <;> (cases h; exact Nat.le_trans h0 this)

end Go.Am

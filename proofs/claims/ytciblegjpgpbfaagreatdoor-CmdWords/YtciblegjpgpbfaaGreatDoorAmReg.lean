/-
  The abstract machine's regions in the order of their text, held against the model's. No condition beyond the relation itself.
-/
import Derived.Test.YtciblegjpgpbfaaGreatDoorAmNext
namespace Go.Am
open Go

variable {P : Program} {ρ : Map} {H : AH} {w : World}

/-- How a piece of code is left, in both. -/
inductive XRel (ρ : Map) : AX → Exit → Prop
  | normal : XRel ρ .normal .normal
  | exit (id : Nat) : XRel ρ (.exit id) (.exit id)
  | ret : XRel ρ .ret .ret
  | pan {v : AV} {c : List PanicEntry} (h : Chain ρ v c) : XRel ρ (.pan v) (.panic c)

def Post (P : Program) (ρ : Map) (H : AH) (w : World) (base : Nat → Prop) (ro : Option Nat) (x : AX) (f' : Frm) (H' : AH) : Exit → Act → World → Prop := fun e a' w' =>
  ∃ ρ', Stp P ρ H w ρ' H' w' ∧ FR P ρ' base ro f' a' w' ∧ XRel ρ' x e

theorem Post.before {ρ' : Map} {H1 H' : AH} {w' : World} {base : Nat → Prop} {ro : Option Nat} {x : AX} {f' : Frm} {e : Exit} {a'' : Act} {w'' : World} (hs : Stp P ρ H w ρ' H1 w') (hf : Free ρ H H')
    (h : Post P ρ' H1 w' base ro x f' H' e a'' w'') : Post P ρ H w base ro x f' H' e a'' w'' := by
  obtain ⟨ρ'', h1, h2, h3⟩ := h
  exact ⟨ρ'', hs.trans h1 hf, h2, h3⟩

theorem wanted_ok {f : Frm} {a : Act} {ops : Array Oper} {o : Oper} {b : Bool} (hs : ∀ t, VRel ρ (f.slot t) (a.tmps.getD t undef)) (h : wantedA ops o f = some b) : Region.wanted o (yielded ops a.tmps) = b := by
  unfold wantedA at h
  unfold Region.wanted
  split at h
  · rename_i hg; cases h; simp [hg]
  · rename_i j want hg
    split at h
    · cases h
    · rename_i y hy
      cases h
      simp only [hg]
      congr 1
      unfold yieldedA at hy
      unfold yielded
      cases hd : (ops[j]?).bind (·.dst) with
      | none => rw [hd] at hy; simp only [Option.some.injEq] at hy; subst hy; rfl
      | some t =>
        rw [hd] at hy
        simp only at hy
        have hv := hs t
        simp only [Option.bind_some]
        have hget : a.tmps.getD t undef = (a.tmps[t]?).getD undef := by simp [Array.getD_eq_getD_getElem?]
        rw [hget] at hv
        cases hsl : f.slot t with
        | atom v =>
          rw [hsl] at hy hv
          cases hv
          cases ht : a.tmps[t]? with
          | none =>
            rw [ht] at hy
            simp only [Option.getD_none, undef, yieldOf, Option.some.injEq] at hy
            rw [← hy]
          | some v =>
            rw [ht] at hy
            simp only [Option.getD_some] at hy
            cases v <;> simp only [yieldOf, Option.some.injEq] at hy <;> rw [← hy]
        | top => rw [hsl] at hy; cases hy
        | _ =>
          rw [hsl] at hy hv
          simp only [yieldOf, Option.some.injEq] at hy
          rw [← hy]
          cases ht : a.tmps[t]? with
          | none => rfl
          | some v =>
            rw [ht] at hv
            simp only [Option.getD_some] at hv
            cases hv <;> rfl

theorem regOne_next {call : ACall} (hc : CallOk P call) {y : Option (Nat × Yld)} (hm : YMono y) {ops : Array Oper} {o : Oper} {k : Frm → AH → Out} (hk : ∀ f H x f' H', k f H = some (x, f', H') → H.next ≤ H'.next)
    {f f' : Frm} {H H' : AH} {x : AX} (h : regOne P call y ops o k f H = some (x, f', H')) : H.next ≤ H'.next := by
  unfold regOne at h
  split at h
  · cases h
  · exact hk _ _ _ _ _ h
  · unfold regStep at h
    split at h
    · cases h
    · rename_i hr; exact Nat.le_trans (runOp_next hc hm hr) (hk _ _ _ _ _ h)
    · rename_i hr
      rcases cond_cases h with h | h
      · cases h
      · exact Nat.le_trans (runOp_next hc hm hr) (hk _ _ _ _ _ h)
    · rename_i hr; cases h; exact runOp_next hc hm hr

theorem regA_next {call : ACall} (hc : CallOk P call) {y : Option (Nat × Yld)} (hm : YMono y) {ops : Array Oper} (l : List Oper) :
    ∀ {f f' : Frm} {H H' : AH} {x : AX}, regA P call y ops l f H = some (x, f', H') → H.next ≤ H'.next := by
  induction l with
  | nil => intro f f' H H' x h; rw [regA_nil] at h; cases h; exact Nat.le_refl _
  | cons o l ih => intro f f' H H' x h; rw [regA_cons] at h; exact regOne_next hc hm (fun f H x f' H' h => ih h) h

theorem regA_ok {call : ACall} (hc : CallOk P call) {y : Option (Nat × Yld)} (hm : YMono y) {ops : Array Oper} {base : Nat → Prop} {ro : Option Nat} (l : List Oper) :
    ∀ (i : Nat), ops.toList.drop i = l → ∀ {f f' : Frm} {H H' : AH} {x : AX}, regA P call y ops l f H = some (x, f', H') →
    ∀ {ρ : Map} {a : Act} {w : World}, Inv P ρ H w → FR P ρ base ro f a w → YOk P ρ y w → Free ρ H H' →
    ∀ {Q : Exit → Act → World → Prop}, (∀ e a' w', Post P ρ H w base ro x f' H' e a' w' → Q e a' w') → wpOpsIn (FW ro) 0 P ops Q (List.range' i l.length) a w := by
  induction l with
  | nil =>
    intro i hl f f' H H' x h ρ a w hi hfr hy hf Q hQ
    rw [regA_nil] at h; cases h
    exact hQ _ _ _ ⟨ρ, Stp.refl hi, hfr, .normal⟩
  | cons o l ih =>
    intro i hl f f' H H' x h ρ a w hi hfr hy hf Q hQ
    have ho : ops[i]? = some o := by
      have : (ops.toList.drop i)[0]? = some o := by rw [hl]; rfl
      simpa using this
    have hl' : ops.toList.drop (i + 1) = l := by
      rw [← List.drop_drop, hl]; rfl
    rw [regA_cons] at h
    unfold regOne at h
    simp only [List.length_cons, List.range'_succ]
    show wpOpsIn (FW ro) 0 P ops Q (i :: List.range' (i + 1) l.length) a w
    unfold wpOpsIn
    rw [ho]
    simp only
    split at h
    · cases h
    · rename_i hw
      rw [wanted_ok hfr.slots hw]
      simp only [Bool.false_eq_true, if_false]
      exact ⟨fun _ _ => trivial, ih (i + 1) hl' h hi (hfr.put _ (.atom _)) hy hf hQ⟩
    · rename_i hw
      rw [wanted_ok hfr.slots hw]
      simp only [if_true]
      unfold regStep at h
      split at h
      · cases h
      · rename_i v H1 hr
        have hn : H1.next ≤ H'.next := regA_next hc hm l h
        refine runOp_ok hc hi hfr hy hm hr (hf.left hn) ?_
        intro ρ' z w' hv hs
        exact ih (i + 1) hl' h hs.inv ((hfr.step hi hs (hf.left hn)).put _ hv) (hy.step hi hs (hf.left hn)) (hf.right hs) (fun e a' w'' hp => hQ _ _ _ (hp.before hs hf))
      · rename_i g as H1 hr
        cases hrd : f.rd with
        | true => rw [hrd] at h; cases h
        | false =>
          rw [hrd] at h
          simp only [cond_false] at h
          have hro : ro = none := by
            have := hfr.rd
            rw [hrd] at this
            cases ro with
            | none => rfl
            | some l => cases this
          have hH : H1 = H := by
            unfold runOp at hr
            cases hop : opA P (f.eval P) o H with
            | none => rw [hop] at hr; cases hr
            | some nx =>
              rw [hop] at hr
              cases nx with
              | defer g' as' H2 =>
                simp only [Option.some.injEq, Ran.defer.injEq] at hr
                obtain ⟨_, _, rfl⟩ := hr
                have hn := opA_ok (w := w) hi (hfr.eval hi) hop (fun b h1 h2 => by
                  have := opA_next hop
                  exact hf b h1 (Nat.lt_of_lt_of_le h2 (regA_next hc hm l h)))
                generalize (execOp a.eval o).run P w = res at hn
                cases hn; rfl
              | yield k args H2 =>
                simp only at hr
                split at hr
                · split at hr
                  · rename_i g' _
                    cases hg : g' args H2 with
                    | none => rw [hg] at hr; cases hr
                    | some H3 => rw [hg] at hr; cases hr
                  · cases hr
                · cases hr
              | enter g' args H2 =>
                simp only at hr
                cases hcall : call g' args none H2 with
                | none => rw [hcall] at hr; cases hr
                | some cr => rw [hcall] at hr; cases cr <;> cases hr
              | _ => cases hr
          subst hH
          refine runOp_ok hc hi hfr hy hm hr (fun b h1 h2 => by simp only [Ran.heap] at h2; omega) ⟨hro, rfl, ?_⟩
          intro d hd
          have hfr' : FR P ρ base ro { n := f.n, rd := false, tmps := f.tmps, defers := (g, as) :: f.defers } { a with defers := d :: a.defers } w := ⟨hfr.size, hrd ▸ hfr.rd, hfr.slots, .call hd hfr.defers, hfr.round⟩
          exact ih (i + 1) hl' h hi (hfr'.put _ (.atom _)) hy hf hQ
      · rename_i v H1 hr
        cases h
        refine runOp_ok hc hi hfr hy hm hr hf ?_
        intro ρ' c w' hch hs
        exact hQ _ _ _ ⟨ρ', hs, hfr.step hi hs hf, .pan hch⟩

end Go.Am

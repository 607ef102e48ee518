/-
  The abstract machine's control, held against the model's: frames, what is asked of a call, regions in the order of their text. No condition beyond the relation itself.
-/
import Derived.Test.YtciblegjpgpbfaaGreatDoorAmOps6
import Derived.RangeFuncRecord
import Derived.RecoverIn
import Derived.LoopNIn
import Derived.OrdersIn
namespace Go.Am
open Go

variable {P : Program} {ρ : Map} {H : AH} {w : World}

/-- The calls that were put off, in both: among the model's there are marks of blocks that hold none. -/
inductive DRel (P : Program) (ρ : Map) (base : Nat → Prop) (w : World) : List (FuncId × List AV) → List Deferred → Prop
  | nil : DRel P ρ base w [] []
  | mark {r : Nat} {l : List (FuncId × List AV)} {m : List Deferred} (hb : base r) (ho : w.heap[r]? = some (.deferred (some []))) (hn : ∀ d ∈ m, d.target ≠ .collected r) (ht : DRel P ρ base w l m) :
      DRel P ρ base w l ({ target := .collected r, args := #[] } :: m)
  | call {g : FuncId} {as : List AV} {d : Deferred} {l : List (FuncId × List AV)} {m : List Deferred} (hd : DefRel P ρ g as d) (ht : DRel P ρ base w l m) : DRel P ρ base w ((g, as) :: l) (d :: m)

theorem DefRel.mono {σ : Map} (h : Map.le ρ σ) {g : FuncId} {as : List AV} {d : Deferred} : DefRel P ρ g as d → DefRel P σ g as d := fun ⟨cap, args, e, hv, rest⟩ => ⟨cap, args, e, hv.mono h, rest⟩

theorem DRel.mono {σ : Map} {base : Nat → Prop} {w' : World} (h : Map.le ρ σ) (hw : ∀ r : Nat, w.heap[r]? = some (.deferred (some [])) → w'.heap[r]? = some (.deferred (some []))) {l : List (FuncId × List AV)} {m : List Deferred}
    (hd : DRel P ρ base w l m) : DRel P σ base w' l m := by
  induction hd with
  | nil => exact .nil
  | mark hb ho hn _ ih => exact .mark hb (hw _ ho) hn ih
  | call hd _ ih => exact .call (hd.mono h) ih

theorem DRel.marks {base : Nat → Prop} {l : List (FuncId × List AV)} {m : List Deferred} (h : DRel P ρ base w l m) : ∀ d ∈ m, ∀ r, d.target = .collected r → r < w.heap.size := by
  induction h with
  | nil => intro d hd; cases hd
  | mark hb ho hn ht ih =>
    intro d hd r e
    rcases List.mem_cons.1 hd with rfl | hd
    · cases e; exact (Array.getElem?_eq_some_iff.1 ho).1
    · exact ih d hd r e
  | call hd ht ih =>
    intro d hd' r e
    rcases List.mem_cons.1 hd' with rfl | hd'
    · obtain ⟨cap, args, rfl, _⟩ := hd; cases e
    · exact ih d hd' r e

/-- A frame, in both. 'ro': the round that it is of. -/
structure FR (P : Program) (ρ : Map) (base : Nat → Prop) (ro : Option Nat) (f : Frm) (a : Act) (w : World) : Prop where
  size : f.n = a.tmps.size
  rd : f.rd = ro.isSome
  slots : ∀ t, VRel ρ (f.slot t) (a.tmps.getD t undef)
  defers : DRel P ρ base w f.defers a.defers
  round : ∀ l, ro = some l → ∃ r, w.heap[l]? = some (.loop r)

theorem FR.step {ρ' : Map} {H' : AH} {w' : World} {base : Nat → Prop} {ro : Option Nat} {f : Frm} {a : Act} (h : FR P ρ base ro f a w) (hi : Inv P ρ H w) (hs : Stp P ρ H w ρ' H' w') (hf : Free ρ H H') : FR P ρ' base ro f a w' where
  size := h.size
  rd := h.rd
  slots := fun t => (h.slots t).mono (hs.le hf)
  defers := h.defers.mono (hs.le hf) fun r hr => hs.object hi hr (by intro _ _ _ e; cases e)
  round := fun l hl => let ⟨r, hr⟩ := h.round l hl; ⟨r, hs.object hi hr (by intro _ _ _ e; cases e)⟩

theorem FR.eval {base : Nat → Prop} {ro : Option Nat} {f : Frm} {a : Act} (h : FR P ρ base ro f a w) (hi : Inv P ρ H w) (x : Operand) : VRel ρ (f.eval P x) (a.eval x) := by
  cases x with
  | tmp t => exact h.slots t
  | const v => exact lift_rel ρ v
  | global g =>
    show VRel ρ (cond (Nat.blt g P.globals.size) (.ptr g 0) .top) (.pointer (some ⟨g, 0, none⟩))
    cases hb : Nat.blt g P.globals.size with
    | false => exact .top _
    | true =>
      obtain ⟨t, ht⟩ := hi.glob g (by rw [Nat.blt_eq] at hb; exact hb)
      exact .ptr (off := 0) ht
  | func g => exact .fn .nil .nil

theorem Frm.slot_put (f : Frm) (d t : Nat) (v : AV) : (f.put (some d) v).slot t = if t = d ∧ d < f.n then v else f.slot t := by
  show (cond (Nat.blt d f.n) { f with tmps := f.tmps.put (d + 1) d (some v) } f).slot t = _
  by_cases hd : d < f.n
  · rw [show Nat.blt d f.n = true from by rw [Nat.blt_eq]; exact hd]
    show (match (f.tmps.put (d + 1) d (some v)).get t with | some v => v | none => .atom undef) = _
    by_cases ht : t = d
    · subst ht; rw [Tr.get_put_same _ _ _ _ (by omega)]; simp [hd]
    · rw [Tr.get_put_ne _ _ _ _ _ ht, if_neg (by simp [ht])]; rfl
  · have : Nat.blt d f.n = false := by
      cases hb : Nat.blt d f.n with
      | false => rfl
      | true => rw [Nat.blt_eq] at hb; exact absurd hb hd
    rw [this, if_neg (by simp [hd])]; rfl

@[simp] theorem Frm.put_n (f : Frm) (d : Option Tmp) (v : AV) : (f.put d v).n = f.n := by
  cases d with
  | none => rfl
  | some d => show (cond (Nat.blt d f.n) _ f).n = f.n; cases Nat.blt d f.n <;> rfl
@[simp] theorem Frm.put_rd (f : Frm) (d : Option Tmp) (v : AV) : (f.put d v).rd = f.rd := by
  cases d with
  | none => rfl
  | some d => show (cond (Nat.blt d f.n) _ f).rd = f.rd; cases Nat.blt d f.n <;> rfl
@[simp] theorem Frm.put_defers (f : Frm) (d : Option Tmp) (v : AV) : (f.put d v).defers = f.defers := by
  cases d with
  | none => rfl
  | some d => show (cond (Nat.blt d f.n) _ f).defers = f.defers; cases Nat.blt d f.n <;> rfl
theorem Act.put_defers' (a : Act) (d : Option Tmp) (v : Value) : (a.put d v).defers = a.defers := by cases d <;> rfl

theorem FR.put {base : Nat → Prop} {ro : Option Nat} {f : Frm} {a : Act} (h : FR P ρ base ro f a w) (d : Option Tmp) {v : AV} {x : Value} (hv : VRel ρ v x) : FR P ρ base ro (f.put d v) (a.put d x) w where
  size := by rw [Frm.put_n, h.size]; cases d <;> simp [Act.put]
  rd := by rw [Frm.put_rd]; exact h.rd
  slots := fun t => by
    cases d with
    | none => exact h.slots t
    | some d =>
      rw [Frm.slot_put]
      show VRel ρ _ ((a.tmps.setIfInBounds d x).getD t undef)
      by_cases ht : t = d
      · subst ht
        by_cases hd : t < f.n
        · rw [if_pos ⟨rfl, hd⟩]
          have : t < a.tmps.size := by rw [← h.size]; exact hd
          simpa [Array.getD, this] using hv
        · rw [if_neg (by simp [hd])]
          have hlt : ¬ t < a.tmps.size := by rw [← h.size]; exact hd
          have := h.slots t
          simpa [Array.getD, hlt] using this
      · rw [if_neg (by simp [ht])]
        have := h.slots t
        have e : (a.tmps.setIfInBounds d x).getD t undef = a.tmps.getD t undef := by
          simp only [Array.getD_eq_getD_getElem?]
          rw [Array.getElem?_setIfInBounds_ne (fun e => ht e.symm)]
        rw [e]; exact this
  defers := by rw [Frm.put_defers, Act.put_defers']; exact h.defers
  round := h.round

/-! ### What is asked of a call -/
def CRes.heap : CRes → AH
  | .ret _ H | .pan _ H => H
def Ran.heap : Ran → AH
  | .value _ H | .defer _ _ H | .pan _ H => H

/-- A panic's chain: its newest entry bears the value. -/
def Chain (ρ : Map) (v : AV) (c : List PanicEntry) : Prop := ∃ y rest, c = { v := y, recovered := false } :: rest ∧ VRel ρ v y ∧ ∀ e ∈ rest, e.goexit = false

inductive CRel (P : Program) (ρ : Map) (H : AH) (w : World) : CRes → Ending → World → Prop
  | ret {v : AV} {y : Value} {H' : AH} {w' : World} {ρ' : Map} (hv : VRel ρ' v y) (hs : Stp P ρ H w ρ' H' w') : CRel P ρ H w (.ret v H') (.returned y) w'
  | pan {v : AV} {c : List PanicEntry} {H' : AH} {w' : World} {ρ' : Map} (hv : Chain ρ' v c) (hs : Stp P ρ H w ρ' H' w') : CRel P ρ H w (.pan v H') (.panicked c) w'

def YMono (y : Option (Nat × Yld)) : Prop := ∀ k h, y = some (k, h) → ∀ args (H H' : AH), h args H = some H' → H.next ≤ H'.next

/-- The round that yield asks for. -/
def YRound (P : Program) (ρ : Map) (l : Nat) (r : Loop) (args : List AV) (H1 H2 : AH) (h : Yld) : Prop :=
  h args H1 = some H2 → ∀ (σ : Map) (w1 : World) (xs : Array Value), Map.le ρ σ → Inv P σ H1 w1 → VRels σ args xs.toList → w1.heap[l]? = some (.loop r) → Free σ H1 H2 →
    xs.size = r.params.size ∧ RoundIn Fence.wide 0 P l r.fn ((r.params.zip xs).foldl (fun tmps (t, a) => tmps.setIfInBounds t a) r.tmps) r.assign r.body w1
      (fun e w2 => e = .returned (.bool true) ∧ ∃ σ', Stp P σ H1 w1 σ' H2 w2)

/-- What is behind the yield that a function was given. -/
def YOk (P : Program) (ρ : Map) (y : Option (Nat × Yld)) (w : World) : Prop :=
  ∀ k h, y = some (k, h) → ∃ (l : Loc) (r : Loop), ρ k = some l ∧ w.heap[l.blk]? = some (.loop r) ∧ ∀ args H1 H2, YRound P ρ l.blk r args H1 H2 h

theorem YOk.none {w : World} : YOk P ρ none w := fun _ _ h => by cases h
theorem YMono.none : YMono none := fun _ _ h => by cases h

theorem YOk.step {y : Option (Nat × Yld)} {ρ' : Map} {H' : AH} {w' : World} (h : YOk P ρ y w) (hi : Inv P ρ H w) (hs : Stp P ρ H w ρ' H' w') (hf : Free ρ H H') : YOk P ρ' y w' := fun k g e => by
  obtain ⟨l, r, h1, h2, h3⟩ := h k g e
  exact ⟨l, r, hs.le hf _ _ h1, hs.object hi h2 (by intro _ _ _ e; cases e), fun args H1 H2 hg σ w1 xs hle => h3 args H1 H2 hg σ w1 xs (Map.le_trans (hs.le hf) hle)⟩

structure CallOk (P : Program) (c : ACall) : Prop where
  next : ∀ g args y H r, c g args y H = some r → YMono y → H.next ≤ r.heap.next
  ok : ∀ g args y H r, c g args y H = some r → ∀ (ρ : Map) (w : World) (xs : Array Value), Inv P ρ H w → VRels ρ args xs.toList → YOk P ρ y w → YMono y → Free ρ H r.heap →
    CallsIn Fence.wide 0 P g xs w (CRel P ρ H w r)

/-- The fence of a frame. -/
abbrev FW (ro : Option Nat) : Fence := { Fence.wide with round := ro }
theorem callsIn_fw {ro : Option Nat} {g : FuncId} {xs : Array Value} {R : Ending → World → Prop} (h : CallsIn Fence.wide 0 P g xs w R) : CallsIn (FW ro) 0 P g xs w R := h
theorem roundIn_fw {ro : Option Nat} {l : Nat} {f : FuncId} {tmps : Array Value} {a b : Code} {R : Ending → World → Prop} (h : RoundIn Fence.wide 0 P l f tmps a b w R) : RoundIn (FW ro) 0 P l f tmps a b w R := h

/-- What follows an operation, in both. -/
def Then (P : Program) (ρ : Map) (H : AH) (w : World) (ro : Option Nat) (o : Oper) (a : Act) (K : Act → World → Prop) (Q : Exit → Act → World → Prop) : Ran → Prop
  | .value v H' => ∀ (ρ' : Map) (x : Value) (w' : World), VRel ρ' v x → Stp P ρ H w ρ' H' w' → K (a.put o.dst x) w'
  | .defer g as H' => ro = none ∧ H' = H ∧ ∀ d, DefRel P ρ g as d → K ({ a with defers := d :: a.defers }.put o.dst undef) w
  | .pan v H' => ∀ (ρ' : Map) (c : List PanicEntry) (w' : World), Chain ρ' v c → Stp P ρ H w ρ' H' w' → Q (.panic c) a w'

theorem runOp_ok {call : ACall} (hc : CallOk P call) (hi : Inv P ρ H w) {base : Nat → Prop} {ro : Option Nat} {f : Frm} {a : Act} (hfr : FR P ρ base ro f a w) {y : Option (Nat × Yld)} (hy : YOk P ρ y w) (hm : YMono y)
    {o : Oper} {r : Ran} (h : runOp P call y (f.eval P) o H = some r) (hf : Free ρ H r.heap) {K : Act → World → Prop} {Q : Exit → Act → World → Prop} (hk : Then P ρ H w ro o a K Q r) :
    Oper.wpIn (FW ro) 0 P o a w K Q := by
  refine ⟨fun _ _ => trivial, ?_⟩
  have he := hfr.eval hi
  unfold runOp at h
  cases hop : opA P (f.eval P) o H with
  | none => rw [hop] at h; cases h
  | some nx =>
    rw [hop] at h
    have hsem : (∀ g as H', r ≠ .defer g as H') → Oper.semAt ro a.eval o = execOp a.eval o := by
      intro hne
      apply Oper.semAt_eq
      intro c hoc
      unfold opA at hop
      rw [hoc] at hop
      simp only at hop
      unfold opDefer at hop
      repeat' (split at hop)
      all_goals first
        | (cases hop; simp only [Option.some.injEq] at h; exact hne _ _ _ h.symm)
        | cases hop
    cases nx with
    | value v H' =>
      simp only [Option.some.injEq] at h
      subst h
      have hn := opA_ok (w := w) hi he hop hf
      rw [show (FW ro).round = ro from rfl, hsem (by intro _ _ _ e; cases e)]
      generalize (execOp a.eval o).run P w = res at hn
      cases hn with
      | value hv hs => exact hk _ _ _ hv hs
    | skip H' =>
      simp only [Option.some.injEq] at h
      subst h
      have hn := opA_ok (w := w) hi he hop hf
      rw [show (FW ro).round = ro from rfl, hsem (by intro _ _ _ e; cases e)]
      generalize (execOp a.eval o).run P w = res at hn
      cases hn with
      | skip hs => exact hk _ _ _ (.atom _) hs
    | defer g as H' =>
      simp only [Option.some.injEq] at h
      subst h
      have hn := opA_ok (w := w) hi he hop hf
      obtain ⟨hro, rfl, hk⟩ := hk
      subst hro
      rw [show (FW none).round = none from rfl, Oper.semAt_none]
      generalize (execOp a.eval o).run P w = res at hn
      cases hn with
      | defer hd => exact hk _ hd
    | panic v H' =>
      simp only [Option.some.injEq] at h
      subst h
      have hn := opA_ok (w := w) hi he hop hf
      rw [show (FW ro).round = ro from rfl, hsem (by intro _ _ _ e; cases e)]
      generalize (execOp a.eval o).run P w = res at hn
      cases hn with
      | panic hv => exact hk _ _ _ ⟨_, [], rfl, hv, by simp⟩ (Stp.refl hi)
    | yield k args H1 =>
      simp only at h
      split at h
      · rename_i k' g
        split at h
        · rename_i hkk
          subst hkk
          cases hg : g args H1 with
          | none => rw [hg] at h; cases h
          | some H2 =>
            rw [hg] at h
            simp only [Option.map_some, Option.some.injEq] at h
            subst h
            have hle : H1.next ≤ H2.next := hm _ _ rfl _ _ _ hg
            have hn := opA_ok (w := w) hi he hop (fun b h1 h2 => hf b h1 (by simp only [ONext.heap] at h2; simp only [Ran.heap]; omega))
            rw [show (FW ro).round = ro from rfl, hsem (by intro _ _ _ e; cases e)]
            obtain ⟨l, rec, e1, e2, e3⟩ := hy _ _ rfl
            generalize hres : (execOp a.eval o).run P w = res at hn
            cases hn with
            | yield hk1 hx =>
              rename_i l' xs
              rw [e1] at hk1; cases hk1
              obtain ⟨hsz, hround⟩ := e3 args H H2 hg ρ w xs (Map.le_refl ρ) hi hx e2 hf
              rw [run_yield e2 hsz]
              refine ⟨(fun h => by cases h), roundIn_fw (RoundIn.mono hround fun e w2 hh => ?_)⟩
              obtain ⟨rfl, σ', hs⟩ := hh
              exact hk _ _ _ (.atom _) hs
        · cases h
      · cases h
    | enter g args H1 =>
      simp only at h
      cases hcall : call g args none H1 with
      | none => rw [hcall] at h; cases h
      | some cr =>
        rw [hcall] at h
        have hle := hc.next _ _ _ _ _ hcall YMono.none
        have hrh : r.heap = cr.heap := by
          cases cr <;> (simp only [Option.some.injEq] at h; subst h; rfl)
        have hn := opA_ok (w := w) hi he hop (fun b h1 h2 => hf b h1 (by simp only [ONext.heap] at h2; rw [hrh]; omega))
        have hne : ∀ g as H', r ≠ .defer g as H' := by
          intro _ _ _ e
          cases cr <;> (simp only [Option.some.injEq] at h; subst h; cases e)
        rw [show (FW ro).round = ro from rfl, hsem hne]
        generalize hres : (execOp a.eval o).run P w = res at hn
        cases hn with
        | enter hx hf' hb =>
          rename_i xs fn c
          refine ⟨(fun h => by cases h), callsIn_fw (CallsIn.mono (hc.ok _ _ _ _ _ hcall ρ w xs hi hx YOk.none YMono.none (fun b h1 h2 => hf b h1 (by rw [hrh]; exact h2))) fun e w2 hh => ?_)⟩
          cases hh with
          | ret hv hs =>
            simp only [Option.some.injEq] at h; subst h
            exact hk _ _ _ hv hs
          | pan hv hs =>
            simp only [Option.some.injEq] at h; subst h
            exact hk _ _ _ hv hs

end Go.Am

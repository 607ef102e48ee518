/-
  What a piece of code must come to, as one proposition that simp can unfold. No condition.
-/
import Derived.Test.YtciblegjpgpbfaaGreatDoorAmWp
namespace Go.Am
open Go

variable {P : Program} {R : Prims}

abbrev QPost := AX → Frm → AH → Prop

/-- Behind a call. -/
def Aft (K : Frm → AH → Prop) (Q : QPost) (f : Frm) (dst : Option Tmp) : CRes → Prop
  | .ret v H => K (f.put dst v) H
  | .pan v H => Q (.pan v) f H

/-- Behind an operation. -/
def wpNext (P : Program) (R : Prims) (K : Frm → AH → Prop) (Q : QPost) (f : Frm) (dst : Option Tmp) : Option ONext → Prop
  | some (.value v H) => K (f.put dst v) H
  | some (.skip H) => K (f.put dst (.atom undef)) H
  | some (.enter g args H) => Does P R g args H (Aft K Q f dst)
  | some (.panic v H) => Q (.pan v) f H
  | some (.defer g args H) => f.rd = false ∧ K (({ f with defers := (g, args) :: f.defers } : Frm).put dst (.atom undef)) H
  | _ => False

def wpWant (P : Program) (R : Prims) (K : Frm → AH → Prop) (Q : QPost) (o : Oper) (f : Frm) (H : AH) : Option Bool → Prop
  | some true => wpNext P R K Q f o.dst (opA P (f.eval P) o H)
  | some false => K (f.put o.dst (.atom undef)) H
  | none => False

noncomputable def wpOps (P : Program) (R : Prims) (ops : Array Oper) (Q : QPost) (l : List Oper) : Frm → AH → Prop :=
  List.rec (motive := fun _ => Frm → AH → Prop) (fun f H => Q .normal f H) (fun o _ ih f H => wpWant P R ih Q o f H (wantedA ops o f)) l

/-- A branch: what each side must come to, from the frame and the heap. -/
def wpCond (X Y : QPost → Frm → AH → Prop) (Q : QPost) (f : Frm) (H : AH) : AV → Prop
  | .atom (.bool true) => X Q f H
  | .atom (.bool false) => Y Q f H
  | _ => False

noncomputable def wpReg (P : Program) (R : Prims) (id : Nat) (ops : Array Oper) (Q : QPost) (f : Frm) (H : AH) : Bool → Prop
  | false => wpOps P R ops Q ops.toList f H
  | true => Wp P R (.region id ops true) f H Q

noncomputable def wpC (P : Program) (R : Prims) (c : Code) : QPost → Frm → AH → Prop :=
  Code.rec (motive := fun _ => QPost → Frm → AH → Prop)
    (fun Q f H => Q .normal f H)
    (fun id ops d Q f H => wpReg P R id ops Q f H d)
    (fun _ _ a b Q f H => a (Cont (b Q) Q) f H)
    (fun c _ _ a b Q f H => wpCond a b Q f H (f.eval P c))
    (fun id _ a Q f H => a (InBlk id Q) f H)
    (fun a _ Q f H => Wp P R (.loop a) f H Q)
    (fun g ps a b _ _ Q f H => Wp P R (.rangeFunc g ps a b) f H Q)
    (fun id Q f H => Q (.exit id) f H)
    (fun _ a Q f H => a Q f H)
    (fun _ Q f H => Q .normal f H)
    (fun _ _ _ _ => False)
    (fun Q f H => Q .ret f H)
    (fun _ _ _ _ => False) c

theorem wpOps_ok {ops : Array Oper} {Q : QPost} : ∀ {l : List Oper} {f : Frm} {H : AH}, wpOps P R ops Q l f H → Wops P R ops l f H Q := by
  intro l
  induction l with
  | nil => intro f H h; exact Wops.nil h
  | cons o l ih =>
    intro f H h
    have h : wpWant P R (wpOps P R ops Q l) Q o f H (wantedA ops o f) := h
    unfold wpWant at h
    split at h
    · rename_i hw
      unfold wpNext at h
      split at h
      · rename_i v H1 ho; exact Wops.value hw ho (ih h)
      · rename_i H1 ho; exact Wops.skip hw ho (ih h)
      · rename_i g args H1 ho
        refine Wops.enter hw ho (Does.mono h fun r hr => ?_)
        cases r with
        | ret v H2 => exact ih hr
        | pan v H2 => exact hr
      · rename_i v H1 ho; exact Wops.panic hw ho h
      · rename_i g args H1 ho; exact Wops.defer hw ho h.1 (ih h.2)
      · exact h.elim
    · rename_i hw; exact Wops.off hw (ih h)
    · exact h.elim

theorem wpC_ok : ∀ (c : Code) {Q : QPost} {f : Frm} {H : AH}, wpC P R c Q f H → Wp P R c f H Q
  | .skip, _, _, _, h => Wp.skip h
  | .region id ops d, Q, f, H, h => by
    cases d with
    | false => exact Wp.region (wpOps_ok h)
    | true => exact h
  | .seq a b, Q, f, H, h => Wp.seq (Wp.mono (wpC_ok a (Q := Cont (wpC P R b Q) Q) h) fun x f' H' hx => by
      cases x with
      | normal => exact wpC_ok b hx
      | exit id => exact hx
      | ret => exact hx
      | pan v => exact hx)
  | .cond c a b, Q, f, H, h => by
    have h : wpCond (wpC P R a) (wpC P R b) Q f H (f.eval P c) := h
    unfold wpCond at h
    split at h
    · rename_i hc; exact Wp.cond hc (wpC_ok a h)
    · rename_i hc; exact Wp.cond hc (wpC_ok b h)
    · exact h.elim
  | .block id a, Q, _, _, h => Wp.block (wpC_ok a (Q := InBlk id Q) h)
  | .loop a, _, _, _, h => h
  | .exit id, _, _, _, h => Wp.exit h
  | .scope a, _, _, _, h => Wp.scope (wpC_ok a h)
  | .label l, _, _, _, h => Wp.label h
  | .ret, _, _, _, h => Wp.ret h
  | .rangeFunc .., _, _, _, h => h
  | .goto _, _, _, _, h => h.elim
  | .refuse _, _, _, _, h => h.elim

/-- A function's body. -/
theorem Does.of {g : FuncId} {args : List AV} {H : AH} {fn : Func} {c : Code} {Q' : CRes → Prop} (hn : R.call g args none H = none) (hf : P.funcs[g]? = some fn) (hb : fn.body = some c) (h : wpC P R c (Fin P fn Q') (enterA fn args) H) : Does P R g args H Q' :=
  Does.intro hn hf hb (wpC_ok c h)

end Go.Am

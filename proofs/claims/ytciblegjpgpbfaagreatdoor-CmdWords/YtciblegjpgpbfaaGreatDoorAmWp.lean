/-
  Weakest conditions for the abstract machine, fuel aside. No condition.
-/
import Derived.Test.YtciblegjpgpbfaaGreatDoorAmMono
namespace Go.Am
open Go

/-- Calls known beforehand, whatever is ranged over. -/
structure Prims where
  call : ACall
  mono : ∀ g args y y' H, YLe y y' → call g args y' H = call g args y H
noncomputable def Prims.none : Prims := ⟨fun _ _ _ _ => .none, fun _ _ _ _ _ _ => rfl⟩

/-- The machine with so much fuel. -/
noncomputable def cal (P : Program) (R : Prims) (N : Nat) : ACall := callA P R.call N N

variable {P : Program} {R : Prims}

theorem cal_le {N M : Nat} (h : N ≤ M) : CLe (cal P R N) (cal P R M) := callA_mono R.mono h h

/-- What a call comes to. -/
def Does (P : Program) (R : Prims) (g : FuncId) (args : List AV) (H : AH) (Q : CRes → Prop) : Prop := ∃ N r, cal P R N g args none H = some r ∧ Q r
/-- What a piece of code comes to. -/
def Wp (P : Program) (R : Prims) (c : Code) (f : Frm) (H : AH) (Q : AX → Frm → AH → Prop) : Prop := ∃ N x f' H', codeA P (cal P R N) N c none f H = some (x, f', H') ∧ Q x f' H'
/-- What operations of a region come to, in the order of the text. -/
def Wops (P : Program) (R : Prims) (ops : Array Oper) (l : List Oper) (f : Frm) (H : AH) (Q : AX → Frm → AH → Prop) : Prop := ∃ N x f' H', regA P (cal P R N) none ops l f H = some (x, f', H') ∧ Q x f' H'

theorem Does.mono {g : FuncId} {args : List AV} {H : AH} {Q Q' : CRes → Prop} (h : Does P R g args H Q) (hq : ∀ r, Q r → Q' r) : Does P R g args H Q' := by
  obtain ⟨N, r, h1, h2⟩ := h
  exact ⟨N, r, h1, hq r h2⟩
theorem Wp.mono {c : Code} {f : Frm} {H : AH} {Q Q' : AX → Frm → AH → Prop} (h : Wp P R c f H Q) (hq : ∀ x f H, Q x f H → Q' x f H) : Wp P R c f H Q' := by
  obtain ⟨N, x, f', H', h1, h2⟩ := h
  exact ⟨N, x, f', H', h1, hq _ _ _ h2⟩

/-- Behind a normal end: K. -/
def Cont (K : Frm → AH → Prop) (Q : AX → Frm → AH → Prop) : AX → Frm → AH → Prop
  | .normal, f, H => K f H
  | x, f, H => Q x f H
/-- At a block's end. -/
def InBlk (id : Nat) (Q : AX → Frm → AH → Prop) : AX → Frm → AH → Prop
  | .exit id', f, H => if id' = id then Q .normal f H else Q (.exit id') f H
  | x, f, H => Q x f H

section
variable {f : Frm} {H : AH} {Q : AX → Frm → AH → Prop}

theorem Wp.skip (h : Q .normal f H) : Wp P R .skip f H Q := ⟨0, _, _, _, rfl, h⟩
theorem Wp.ret (h : Q .ret f H) : Wp P R .ret f H Q := ⟨0, _, _, _, rfl, h⟩
theorem Wp.exit {id : Nat} (h : Q (.exit id) f H) : Wp P R (.exit id) f H Q := ⟨0, _, _, _, rfl, h⟩
theorem Wp.label {l : Nat} (h : Q .normal f H) : Wp P R (.label l) f H Q := ⟨0, _, _, _, rfl, h⟩
theorem Wp.scope {c : Code} (h : Wp P R c f H Q) : Wp P R (.scope c) f H Q := h

theorem Wp.seq {a b : Code} (h : Wp P R a f H (Cont (fun f' H' => Wp P R b f' H' Q) Q)) : Wp P R (.seq a b) f H Q := by
  obtain ⟨N, x, f1, H1, h1, h2⟩ := h
  cases x with
  | normal =>
    obtain ⟨M, x, f2, H2, h3, h4⟩ := h2
    refine ⟨max N M, x, f2, H2, ?_, h4⟩
    show loopNext (codeA P (cal P R (max N M)) (max N M) b none) (codeA P (cal P R (max N M)) (max N M) a none f H) = _
    rw [codeA_mono (cal_le (Nat.le_max_left N M)) (Nat.le_max_left N M) a (YLe.refl none) _ _ _ h1]
    exact codeA_mono (cal_le (Nat.le_max_right N M)) (Nat.le_max_right N M) b (YLe.refl none) _ _ _ h3
  | exit id =>
    refine ⟨N, .exit id, f1, H1, ?_, h2⟩
    show loopNext _ (codeA P (cal P R N) N a none f H) = _
    rw [h1]; rfl
  | ret =>
    refine ⟨N, .ret, f1, H1, ?_, h2⟩
    show loopNext _ (codeA P (cal P R N) N a none f H) = _
    rw [h1]; rfl
  | pan v =>
    refine ⟨N, .pan v, f1, H1, ?_, h2⟩
    show loopNext _ (codeA P (cal P R N) N a none f H) = _
    rw [h1]; rfl

theorem Wp.cond {c : Operand} {a b : Code} {t : Bool} (hc : f.eval P c = .atom (.bool t)) (h : Wp P R (if t then a else b) f H Q) : Wp P R (.cond c a b) f H Q := by
  obtain ⟨N, x, f1, H1, h1, h2⟩ := h
  refine ⟨N, x, f1, H1, ?_, h2⟩
  show condA (f.eval P c) (codeA P (cal P R N) N a none) (codeA P (cal P R N) N b none) f H = _
  rw [hc]
  cases t
  · exact h1
  · exact h1

theorem Wp.block {id : Nat} {a : Code} (h : Wp P R a f H (InBlk id Q)) : Wp P R (.block id a) f H Q := by
  obtain ⟨N, x, f1, H1, h1, h2⟩ := h
  have hb : codeA P (cal P R N) N (.block id a) none f H = blockA id (codeA P (cal P R N) N a none f H) := rfl
  cases x with
  | exit id' =>
    simp only [InBlk] at h2
    by_cases e : id' = id
    · rw [if_pos e] at h2
      refine ⟨N, .normal, f1, H1, ?_, h2⟩
      rw [hb, h1]; simp only [blockA, beq_t e, cond_true]
    · rw [if_neg e] at h2
      refine ⟨N, .exit id', f1, H1, ?_, h2⟩
      rw [hb, h1]; simp only [blockA, beq_f e, cond_false]
  | normal => exact ⟨N, .normal, f1, H1, by rw [hb, h1]; rfl, h2⟩
  | ret => exact ⟨N, .ret, f1, H1, by rw [hb, h1]; rfl, h2⟩
  | pan v => exact ⟨N, .pan v, f1, H1, by rw [hb, h1]; rfl, h2⟩

/-- A loop: what holds with a number that falls from round to round. -/
theorem Wp.loop {a : Code} (I : Nat → Frm → AH → Prop) (h : ∀ m f H, I m f H → Wp P R a f H (Cont (fun f' H' => ∃ m', m' < m ∧ I m' f' H') Q)) {m : Nat} (h0 : I m f H) : Wp P R (.loop a) f H Q := by
  have key : ∀ m f H, I m f H → ∃ N K x f' H', loopA (codeA P (cal P R N) N a none) K f H = some (x, f', H') ∧ Q x f' H' := by
    intro m
    induction m using Nat.strongRecOn with
    | _ m ih =>
      intro f H hi
      obtain ⟨N, x, f1, H1, h1, h2⟩ := h m f H hi
      cases x with
      | normal =>
        obtain ⟨m', hlt, hi'⟩ := h2
        obtain ⟨M, K, x, f2, H2, h3, h4⟩ := ih m' hlt f1 H1 hi'
        refine ⟨max N M, K + 1, x, f2, H2, ?_, h4⟩
        rw [loopA_succ, codeA_mono (cal_le (Nat.le_max_left N M)) (Nat.le_max_left N M) a (YLe.refl none) _ _ _ h1]
        exact loopA_mono (codeA_mono (cal_le (Nat.le_max_right N M)) (Nat.le_max_right N M) a (YLe.refl none)) (Nat.le_refl K) _ _ _ h3
      | exit id => exact ⟨N, 1, .exit id, f1, H1, by rw [loopA_succ, h1]; rfl, h2⟩
      | ret => exact ⟨N, 1, .ret, f1, H1, by rw [loopA_succ, h1]; rfl, h2⟩
      | pan v => exact ⟨N, 1, .pan v, f1, H1, by rw [loopA_succ, h1]; rfl, h2⟩
  obtain ⟨N, K, x, f', H', h1, h2⟩ := key m f H h0
  refine ⟨max N K, x, f', H', ?_, h2⟩
  exact loopA_mono (codeA_mono (cal_le (Nat.le_max_left N K)) (Nat.le_max_left N K) a (YLe.refl none)) (Nat.le_max_right N K) _ _ _ h1

theorem Wp.region {id : Nat} {ops : Array Oper} (h : Wops P R ops ops.toList f H Q) : Wp P R (.region id ops false) f H Q := h

theorem Wops.nil {ops : Array Oper} (h : Q .normal f H) : Wops P R ops [] f H Q := ⟨0, _, _, _, rfl, h⟩

theorem Wops.off {ops : Array Oper} {o : Oper} {l : List Oper} (hw : wantedA ops o f = some false) (h : Wops P R ops l (f.put o.dst (.atom undef)) H Q) : Wops P R ops (o :: l) f H Q := by
  obtain ⟨N, x, f', H', h1, h2⟩ := h
  exact ⟨N, x, f', H', by rw [regA_cons]; unfold regOne; rw [hw]; exact h1, h2⟩

theorem Wops.value {ops : Array Oper} {o : Oper} {l : List Oper} {v : AV} {H1 : AH} (hw : wantedA ops o f = some true) (ho : opA P (f.eval P) o H = some (.value v H1)) (h : Wops P R ops l (f.put o.dst v) H1 Q) : Wops P R ops (o :: l) f H Q := by
  obtain ⟨N, x, f', H', h1, h2⟩ := h
  exact ⟨N, x, f', H', by rw [regA_cons]; unfold regOne; rw [hw]; simp only [runOp, ho, regStep]; exact h1, h2⟩

theorem Wops.skip {ops : Array Oper} {o : Oper} {l : List Oper} {H1 : AH} (hw : wantedA ops o f = some true) (ho : opA P (f.eval P) o H = some (.skip H1)) (h : Wops P R ops l (f.put o.dst (.atom undef)) H1 Q) : Wops P R ops (o :: l) f H Q := by
  obtain ⟨N, x, f', H', h1, h2⟩ := h
  exact ⟨N, x, f', H', by rw [regA_cons]; unfold regOne; rw [hw]; simp only [runOp, ho, regStep]; exact h1, h2⟩

theorem Wops.panic {ops : Array Oper} {o : Oper} {l : List Oper} {v : AV} {H1 : AH} (hw : wantedA ops o f = some true) (ho : opA P (f.eval P) o H = some (.panic v H1)) (h : Q (.pan v) f H1) : Wops P R ops (o :: l) f H Q :=
  ⟨0, .pan v, f, H1, by rw [regA_cons]; unfold regOne; rw [hw]; simp only [runOp, ho, regStep], h⟩

theorem Wops.defer {ops : Array Oper} {o : Oper} {l : List Oper} {g : FuncId} {args : List AV} {H1 : AH} (hw : wantedA ops o f = some true) (ho : opA P (f.eval P) o H = some (.defer g args H1)) (hr : f.rd = false)
    (h : Wops P R ops l (({ f with defers := (g, args) :: f.defers } : Frm).put o.dst (.atom undef)) H1 Q) : Wops P R ops (o :: l) f H Q := by
  obtain ⟨N, x, f', H', h1, h2⟩ := h
  exact ⟨N, x, f', H', by rw [regA_cons]; unfold regOne; rw [hw]; simp only [runOp, ho, regStep]; rw [hr] at h1 ⊢; exact h1, h2⟩

/-- Behind a call. -/
def After (ops : Array Oper) (o : Oper) (l : List Oper) (P : Program) (R : Prims) (f : Frm) (Q : AX → Frm → AH → Prop) : CRes → Prop
  | .ret v H1 => Wops P R ops l (f.put o.dst v) H1 Q
  | .pan v H1 => Q (.pan v) f H1

theorem Wops.enter {ops : Array Oper} {o : Oper} {l : List Oper} {g : FuncId} {args : List AV} {H1 : AH} (hw : wantedA ops o f = some true) (ho : opA P (f.eval P) o H = some (.enter g args H1)) (h : Does P R g args H1 (After ops o l P R f Q)) :
    Wops P R ops (o :: l) f H Q := by
  obtain ⟨N, r, h1, h2⟩ := h
  cases r with
  | ret v H2 =>
    obtain ⟨M, x, f', H', h3, h4⟩ := h2
    refine ⟨max N M, x, f', H', ?_, h4⟩
    rw [regA_cons]
    unfold regOne
    rw [hw]
    simp only [runOp, ho]
    rw [cal_le (Nat.le_max_left N M) _ _ _ _ _ _ (YLe.refl none) h1]
    exact regA_mono (cal_le (Nat.le_max_right N M)) (YLe.refl none) l _ _ _ h3
  | pan v H2 =>
    refine ⟨N, .pan v, f, H2, ?_, h2⟩
    rw [regA_cons]
    unfold regOne
    rw [hw]
    simp only [runOp, ho, h1, regStep]

/-- A call known beforehand. -/
theorem Does.prim {g : FuncId} {args : List AV} {r : CRes} {Q' : CRes → Prop} (h : R.call g args none H = some r) (hq : Q' r) : Does P R g args H Q' :=
  ⟨1, r, by show callA P R.call 1 1 g args none H = some r; rw [callA_succ, h]; rfl, hq⟩

/-- What a body without deferred calls must come to. -/
def Fin (P : Program) (fn : Func) (Q : CRes → Prop) : AX → Frm → AH → Prop
  | .normal, f, H | .ret, f, H => f.defers = [] ∧ ∃ v, resultsA P H f fn.results.toList = some v ∧ Q (.ret v H)
  | .pan v, f, H => f.defers = [] ∧ Q (.pan v H)
  | _, _, _ => False

theorem Does.intro {g : FuncId} {args : List AV} {fn : Func} {c : Code} {Q' : CRes → Prop} (hn : R.call g args none H = none) (hf : P.funcs[g]? = some fn) (hb : fn.body = some c) (h : Wp P R c (enterA fn args) H (Fin P fn Q')) : Does P R g args H Q' := by
  obtain ⟨N, x, f', H', h1, h2⟩ := h
  have key : ∀ r, endA P (cal P R N) fn.results.toList (some (x, f', H')) = some r → cal P R (N + 1) g args none H = some r := by
    intro r he
    have hstep : callStep P N (cal P R N) g args none H = some r := by
      unfold callStep
      rw [hf]
      simp only [bodyA, hb, h1]
      exact he
    show callA P R.call (N + 1) (N + 1) g args none H = some r
    rw [callA_succ, hn]
    show callStep P (N + 1) _ _ _ _ _ = _
    exact callStep_mono (callA_mono R.mono (Nat.le_succ N) (Nat.le_refl N)) (Nat.le_succ N) _ _ _ _ _ _ (YLe.refl none) hstep
  cases x with
  | normal =>
    obtain ⟨hd, v, hv, hq⟩ := h2
    exact ⟨N + 1, _, key _ (by simp [endA, hd, leaveA, giveA, hv]), hq⟩
  | ret =>
    obtain ⟨hd, v, hv, hq⟩ := h2
    exact ⟨N + 1, _, key _ (by simp [endA, hd, leaveA, giveA, hv]), hq⟩
  | pan v =>
    obtain ⟨hd, hq⟩ := h2
    exact ⟨N + 1, _, key _ (by simp [endA, hd, leaveA, giveA]), hq⟩
  | exit id => exact h2.elim
end

end Go.Am

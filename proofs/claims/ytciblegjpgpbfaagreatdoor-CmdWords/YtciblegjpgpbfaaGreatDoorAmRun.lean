/-
  Equations by which simp runs a piece of code. No condition.
-/
import Derived.Test.YtciblegjpgpbfaaGreatDoorAmSym
namespace Go.Am.Run
open Go Go.Am

variable {P : Program} {R : Prims} {Q : QPost} {f : Frm} {H : AH} {K : Frm → AH → Prop}

theorem skip : wpC P R .skip Q f H = Q .normal f H := (rfl)
theorem region {id : Nat} {ops : Array Oper} : wpC P R (.region id ops false) Q f H = wpOps P R ops Q ops.toList f H := (rfl)
theorem draw {id : Nat} {ops : Array Oper} : wpC P R (.region id ops true) Q f H = Wp P R (.region id ops true) f H Q := (rfl)
theorem seq {a b : Code} : wpC P R (.seq a b) Q f H = wpC P R a (Cont (wpC P R b Q) Q) f H := (rfl)
theorem cond {c : Operand} {a b : Code} : wpC P R (.cond c a b) Q f H = wpCond (wpC P R a) (wpC P R b) Q f H (f.eval P c) := (rfl)
theorem block {id : Nat} {a : Code} : wpC P R (.block id a) Q f H = wpC P R a (InBlk id Q) f H := (rfl)
theorem loop {a : Code} : wpC P R (.loop a) Q f H = Wp P R (.loop a) f H Q := (rfl)
theorem exit {id : Nat} : wpC P R (.exit id) Q f H = Q (.exit id) f H := (rfl)
theorem scope {a : Code} : wpC P R (.scope a) Q f H = wpC P R a Q f H := (rfl)
theorem label {l : Nat} : wpC P R (.label l) Q f H = Q .normal f H := (rfl)
theorem ret : wpC P R .ret Q f H = Q .ret f H := (rfl)

theorem cont_normal : Cont K Q .normal f H = K f H := (rfl)
theorem cont_exit {i : Nat} : Cont K Q (.exit i) f H = Q (.exit i) f H := (rfl)
theorem cont_ret : Cont K Q .ret f H = Q .ret f H := (rfl)
theorem cont_pan {v : AV} : Cont K Q (.pan v) f H = Q (.pan v) f H := (rfl)
theorem blk_exit {i j : Nat} : InBlk i Q (.exit j) f H = if j = i then Q .normal f H else Q (.exit j) f H := (rfl)
theorem blk_normal {i : Nat} : InBlk i Q .normal f H = Q .normal f H := (rfl)
theorem blk_ret {i : Nat} : InBlk i Q .ret f H = Q .ret f H := (rfl)
theorem blk_pan {i : Nat} {v : AV} : InBlk i Q (.pan v) f H = Q (.pan v) f H := (rfl)

theorem nil {ops : Array Oper} : wpOps P R ops Q [] f H = Q .normal f H := (rfl)
theorem cons {ops : Array Oper} {o : Oper} {l : List Oper} : wpOps P R ops Q (o :: l) f H = wpWant P R (wpOps P R ops Q l) Q o f H (wantedA ops o f) := (rfl)
theorem want_true {o : Oper} : wpWant P R K Q o f H (some true) = wpNext P R K Q f o.dst (opA P (f.eval P) o H) := (rfl)
theorem want_false {o : Oper} : wpWant P R K Q o f H (some false) = K (f.put o.dst (.atom undef)) H := (rfl)
theorem next_value {d : Option Tmp} {v : AV} : wpNext P R K Q f d (some (.value v H)) = K (f.put d v) H := (rfl)
theorem next_skip {d : Option Tmp} : wpNext P R K Q f d (some (.skip H)) = K (f.put d (.atom undef)) H := (rfl)
theorem next_enter {d : Option Tmp} {g : FuncId} {args : List AV} : wpNext P R K Q f d (some (.enter g args H)) = Does P R g args H (Aft K Q f d) := (rfl)
theorem next_panic {d : Option Tmp} {v : AV} : wpNext P R K Q f d (some (.panic v H)) = Q (.pan v) f H := (rfl)
theorem aft_ret {d : Option Tmp} {v : AV} : Aft K Q f d (.ret v H) = K (f.put d v) H := (rfl)
theorem aft_pan {d : Option Tmp} {v : AV} : Aft K Q f d (.pan v H) = Q (.pan v) f H := (rfl)
theorem cond_t {X Y : QPost → Frm → AH → Prop} : wpCond X Y Q f H (.atom (.bool true)) = X Q f H := (rfl)
theorem cond_f {X Y : QPost → Frm → AH → Prop} : wpCond X Y Q f H (.atom (.bool false)) = Y Q f H := (rfl)
theorem cond_bool {X Y : QPost → Frm → AH → Prop} {t : Bool} : wpCond X Y Q f H (.atom (.bool t)) = if t = true then X Q f H else Y Q f H := by cases t <;> rfl

theorem wanted_none {ops : Array Oper} {d : Option Tmp} {op : Op} {t : TypeId} {p : String} {a : Array Edge} : wantedA ops { dst := d, op, type := t, pos := p, after := a, guard := none } f = some true := (rfl)
theorem wanted_some {ops : Array Oper} {d : Option Tmp} {op : Op} {t : TypeId} {p : String} {a : Array Edge} {j : Nat} {w : Bool} {o : Oper} {k : Tmp} {b : Bool} (ho : ops[j]? = some o) (hd : o.dst = some k) (hs : f.slot k = .atom (.bool b)) :
    wantedA ops { dst := d, op, type := t, pos := p, after := a, guard := some (j, w) } f = some (b == w) := by
  simp [wantedA, yieldedA, ho, hd, hs, yieldOf]

theorem eval_tmp {t : Nat} : f.eval P (.tmp t) = f.slot t := (rfl)
theorem eval_const {v : Value} : f.eval P (.const v) = lift v := (rfl)
theorem eval_func {g : FuncId} : f.eval P (.func g) = .fn (.func g) [] [] := (rfl)
theorem put_n {d : Option Tmp} {v : AV} : (f.put d v).n = f.n := by simp
theorem put_none {v : AV} : f.put none v = f := (rfl)
theorem put_defers {d : Option Tmp} {v : AV} : (f.put d v).defers = f.defers := by simp
theorem put_rd {d : Option Tmp} {v : AV} : (f.put d v).rd = f.rd := by simp
theorem slot_put {d t : Nat} {v : AV} (h : d < f.n) : (f.put (some d) v).slot t = if t = d then v else f.slot t := by
  rw [Frm.slot_put]; simp [h]

theorem enter_n (fn : Func) (l : List AV) : (enterA fn l).n = max l.length fn.ntmps := (rfl)
theorem enter_slot (fn : Func) (l : List AV) (t : Nat) : (enterA fn l).slot t = l.getD t (.atom undef) := by
  show (match (fillT l 0 .leaf).get t with | some v => v | none => .atom undef) = _
  rw [fillT_get]
  by_cases h : t < l.length
  · rw [if_pos (by omega)]; simp [h]
  · rw [if_neg (by omega)]; simp [Tr.get_leaf]; rw [List.getElem?_eq_none (by omega)]; rfl
theorem enter_defers (fn : Func) (l : List AV) : (enterA fn l).defers = [] := (rfl)
theorem enter_rd (fn : Func) (l : List AV) : (enterA fn l).rd = false := (rfl)


theorem want_if {o : Oper} {b : Bool} : wpWant P R K Q o f H (some b) = if b = true then wpNext P R K Q f o.dst (opA P (f.eval P) o H) else K (f.put o.dst (.atom undef)) H := by cases b <;> rfl
/-- what a guard's operation has said -/
noncomputable def said (ops : Array Oper) (f : Frm) (j : Nat) : Option (Option Bool) := match (ops[j]?).bind (·.dst) with
  | none => some none
  | some t => yieldOf (f.slot t)
def wantS (w : Bool) : Option (Option Bool) → Option Bool
  | none => none
  | some y => some (y == some w)
theorem wanted_guard {ops : Array Oper} {d : Option Tmp} {op : Op} {t : TypeId} {p : String} {a : Array Edge} {j : Nat} {w : Bool} : wantedA ops { dst := d, op, type := t, pos := p, after := a, guard := some (j, w) } f = wantS w (said ops f j) := by
  show (match yieldedA ops f j with | none => none | some y => some (y == some w)) = wantS w (said ops f j)
  have : yieldedA ops f j = said ops f j := by
    unfold yieldedA said
    cases (ops[j]?).bind (·.dst) <;> rfl
  rw [this]
  cases said ops f j <;> rfl
theorem yield_bool {b : Bool} : yieldOf (.atom (.bool b)) = some (some b) := (rfl)
theorem yield_undef : yieldOf (.atom undef) = some none := (rfl)
theorem want_true' {b : Bool} : wantS true (some (some b)) = some b := by cases b <;> rfl
theorem want_false' {b : Bool} : wantS false (some (some b)) = some (!b) := by cases b <;> rfl
theorem want_none {w : Bool} : wantS w (some none) = some false := by cases w <;> rfl

theorem lift_int {k : IntKind} {n : Int} : lift (.int k n) = .atom (.int k n) := (rfl)
theorem lift_bool {b : Bool} : lift (.bool b) = .atom (.bool b) := (rfl)
theorem lift_str {s : ByteArray} : lift (.string s) = .atom (.string s) := (rfl)
theorem lift_nilslice {a b : Nat} : lift (.slice none a b) = .atom (.slice none a b) := (rfl)
theorem lift_nilptr : lift (.pointer none) = .atom (.pointer none) := (rfl)
theorem lift_niliface : lift .nilIface = .atom .nilIface := (rfl)
theorem lift_func {g : FuncId} {x y : Array Value} : lift (.func (.func g) x y) = .atom (.func (.func g) x y) := (rfl)

theorem addF_eq (a b : Int) : addF a b = a + b := by cases a <;> cases b <;> rfl
theorem subF_eq (a b : Int) : subF a b = a - b := by
  cases a <;> cases b <;> try rfl
  rename_i a b
  show _root_.cond (Nat.ble b a) _ _ = _
  cases h : Nat.ble b a with
  | true =>
    have := Nat.le_of_ble_eq_true h
    show Int.ofNat (a - b) = Int.ofNat a - Int.ofNat b
    exact Int.ofNat_sub this
  | false =>
    have : ¬ b ≤ a := fun e => by rw [Nat.ble_eq_true_of_le e] at h; cases h
    show Int.negSucc (Nat.pred (b - a)) = Int.ofNat a - Int.ofNat b
    rw [Int.negSucc_eq]
    have : (Nat.pred (b - a) : Int) + 1 = (b : Int) - a := by simp only [Nat.pred_eq_sub_one]; omega
    rw [this]
    simp only [Int.ofNat_eq_natCast]; omega
theorem mulF_eq (a b : Int) : mulF a b = a * b := by cases a <;> cases b <;> rfl
theorem eqF_eq (a b : Int) : eqF a b = decide (a = b) := by
  cases a <;> cases b
  · rename_i a b
    show Nat.beq a b = _
    by_cases h : a = b
    · subst h; simp
    · rw [beq_f h]
      have : ¬ (Int.ofNat a = Int.ofNat b) := fun e => h (Int.ofNat.inj e)
      rw [decide_eq_false this]
  · simp [eqF]
  · simp [eqF]
  · rename_i a b
    show Nat.beq a b = _
    by_cases h : a = b
    · subst h; simp
    · rw [beq_f h]; simp [h]
theorem leF_eq (a b : Int) : leF a b = decide (a ≤ b) := by
  cases a <;> cases b
  · rename_i a b
    show Nat.ble a b = _
    by_cases h : a ≤ b
    · rw [Nat.ble_eq_true_of_le h]; simp [h]
    · have : Nat.ble a b = false := by cases e : Nat.ble a b with | true => exact absurd (Nat.le_of_ble_eq_true e) h | false => rfl
      rw [this]; simp [h]
  · rename_i a b
    show false = _
    have : ¬ (Int.ofNat a ≤ Int.negSucc b) := by rw [Int.negSucc_eq]; simp only [Int.ofNat_eq_natCast]; omega
    rw [decide_eq_false this]
  · rename_i a b
    show true = _
    have : Int.negSucc a ≤ Int.ofNat b := by rw [Int.negSucc_eq]; simp only [Int.ofNat_eq_natCast]; omega
    rw [decide_eq_true this]
  · rename_i a b
    show Nat.ble b a = _
    by_cases h : b ≤ a
    · rw [Nat.ble_eq_true_of_le h]
      have : Int.negSucc a ≤ Int.negSucc b := by rw [Int.negSucc_eq, Int.negSucc_eq]; omega
      simp [this]
    · have e : Nat.ble b a = false := by cases e : Nat.ble b a with | true => exact absurd (Nat.le_of_ble_eq_true e) h | false => rfl
      have : ¬ (Int.negSucc a ≤ Int.negSucc b) := by rw [Int.negSucc_eq, Int.negSucc_eq]; omega
      rw [e]; simp [this]
theorem wrap_i64 {n : Int} (h : -9223372036854775808 ≤ n) (h' : n < 9223372036854775808) : wrapF .i64 n = n := by
  cases n with
  | ofNat m =>
    have : Nat.blt m (lim .i64) = true := by rw [Nat.blt_eq]; simp only [lim]; simp only [Int.ofNat_eq_natCast] at h'; omega
    simp only [wrapF, this, cond_true]
  | negSucc m =>
    have : Nat.blt m (lim .i64) = true := by rw [Nat.blt_eq]; simp only [lim]; rw [Int.negSucc_eq] at h; omega
    simp only [wrapF, this, cond_true]
theorem wrap_u64 {n : Int} (h : 0 ≤ n) (h' : n < 18446744073709551616) : wrapF .u64 n = n := by
  obtain ⟨m, rfl⟩ := Int.eq_ofNat_of_zero_le h
  have : Nat.blt m (lim .u64) = true := by rw [Nat.blt_eq]; simp only [lim]; omega
  show _root_.cond _ _ _ = _
  rw [this]; rfl
theorem wrap_u8 {n : Int} (h : 0 ≤ n) (h' : n < 256) : wrapF .u8 n = n := by
  obtain ⟨m, rfl⟩ := Int.eq_ofNat_of_zero_le h
  have : Nat.blt m (lim .u8) = true := by rw [Nat.blt_eq]; simp only [lim]; omega
  show _root_.cond _ _ _ = _
  rw [this]; rfl

theorem len_slice {t e : TypeId} {b o n : Nat} {c : Cap} (h : P.underlying t = some (.slice e)) : builtinA P .len #[t] [.slice b o n c] H = some (.atom (.int .i64 n), H) := by
  simp [builtinA, h, AV.int]
theorem len_nil {t e : TypeId} {a b : Nat} (h : P.underlying t = some (.slice e)) : builtinA P .len #[t] [.atom (.slice none a b)] H = some (.atom (.int .i64 a), H) := by
  simp [builtinA, h, AV.int]
theorem len_str {t : TypeId} {s : ByteArray} (h : P.underlying t = some .string) : builtinA P .len #[t] [.atom (.string s)] H = some (.atom (.int .i64 s.size), H) := by
  simp [builtinA, h, AV.int]
theorem range_nat {i n : Nat} : inRangeA (i : Int) n = if i < n then some i else none := by
  show _root_.cond (Nat.blt i n) _ _ = _
  by_cases h : i < n
  · have e : Nat.blt i n = true := by rw [Nat.blt_eq]; exact h
    rw [e, if_pos h]; rfl
  · have : Nat.blt i n = false := by cases e : Nat.blt i n with | true => rw [Nat.blt_eq] at e; exact absurd e h | false => rfl
    rw [this, if_neg h]; rfl
theorem index_slice {t e : TypeId} {b o n size : Nat} {c : Cap} {k : IntKind} {i : Nat} (h : P.underlying t = some (.slice e)) (hs : szOf P e = some size) (hi : i < n) :
    opIndexAddr P t (.slice b o n c) (.atom (.int k (i : Int))) H = some (.value (.ptr b (o + i * size)) H) := by
  simp only [opIndexAddr, h, hs, range_nat, hi, if_true]
theorem load_one {t : TypeId} {b o : Nat} {v : AV} (ht : isAggT P t = some false) (h : H.readOne b o = some v) : loadA P H t (.ptr b o) = some v := by
  simp only [loadA, ht, h]
theorem call_func {ρ : Operand → AV} {g : FuncId} {xs : Array Operand} {ts : Array TypeId} (hr : ρ (.func g) = .fn (.func g) [] []) : opCall P ρ { callee := .value (.func g), args := xs, argTypes := ts } H = callFn P g (xs.toList.map ρ) H := by
  simp [opCall, hr, opCallValue]
theorem callFn_enter {g : FuncId} {fn : Func} {args : List AV} (hf : P.funcs[g]? = some fn) (hn : (fn.name == "runtime.NumGoroutine") = false) (hb : fn.body.isNone = false) : callFn P g args H = some (.enter g args H) := by
  simp only [callFn, hf, hn, hb]; rfl


theorem _root_.Go.Am.Does.step {g : FuncId} {args : List AV} {r : CRes} {N : Nat} {Q' : CRes → Prop} (hn : R.call g args none H = none) (h : callStep P N (cal P R N) g args none H = some r) (hq : Q' r) : Does P R g args H Q' := by
  refine ⟨N + 1, r, ?_, hq⟩
  show callA P R.call (N + 1) (N + 1) g args none H = some r
  rw [callA_succ, hn]
  exact callStep_mono (callA_mono R.mono (Nat.le_succ N) (Nat.le_refl N)) (Nat.le_succ N) _ _ _ _ _ _ (YLe.refl none) h

theorem fin1 {fn : Func} {Q' : CRes → Prop} {t : Tmp} (hr : fn.results.toList = [.tmp t]) (hd : f.defers = []) (h : Q' (.ret (f.slot t) H)) : Fin P fn Q' .ret f H :=
  ⟨hd, f.slot t, by rw [hr]; rfl, h⟩
theorem fin2 {fn : Func} {Q' : CRes → Prop} {t u : Tmp} (hr : fn.results.toList = [.tmp t, .tmp u]) (hd : f.defers = []) (h : Q' (.ret (.tuple [f.slot t, f.slot u]) H)) : Fin P fn Q' .ret f H :=
  ⟨hd, .tuple [f.slot t, f.slot u], by rw [hr]; rfl, h⟩
theorem fin3 {fn : Func} {Q' : CRes → Prop} {t u v : Tmp} (hr : fn.results.toList = [.tmp t, .tmp u, .tmp v]) (hd : f.defers = []) (h : Q' (.ret (.tuple [f.slot t, f.slot u, f.slot v]) H)) : Fin P fn Q' .ret f H :=
  ⟨hd, .tuple [f.slot t, f.slot u, f.slot v], by rw [hr]; rfl, h⟩

theorem cast_lit (n : Nat) : ((no_index (OfNat.ofNat n) : Nat) : Int) = OfNat.ofNat n := (rfl)

theorem next_of {d : Option Tmp} {v : AV} {H1 : AH} {x : Option ONext} (h : x = some (.value v H1)) (hk : K (f.put d v) H1) : wpNext P R K Q f d x := by rw [h]; exact hk

end Go.Am.Run

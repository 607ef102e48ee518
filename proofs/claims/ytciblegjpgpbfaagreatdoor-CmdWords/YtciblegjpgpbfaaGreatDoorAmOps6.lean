/-
  The abstract machine's operations, held against the model's: functions without a body; every operation. No condition beyond the relation itself.
-/
import Derived.Test.YtciblegjpgpbfaaGreatDoorAmOps5
namespace Go.Am
open Go

variable {P : Program} {ρ : Map} {H : AH} {w : World}

theorem find_plain {fn : Func} {n : String} (h : fn.name = n) {e : Array Value → Sem Value} (h1 : Extern.allGenericRows.lookup n = none) (h2 : Extern.allTypedRows.lookup n = none)
    (h3 : Extern.allRows.lookup n = some e) : Extern.find fn = some e := by
  simp [Extern.find, h, h1, h2, h3]
theorem find_typed {fn : Func} {n : String} (h : fn.name = n) {e : Extern.Typed} (h1 : Extern.allGenericRows.lookup n = none) (h2 : Extern.allTypedRows.lookup n = some e) :
    Extern.find fn = some (e fn.params fn.resultTypes) := by
  simp [Extern.find, h, h1, h2]

def sub64E : Array Value → Sem Value := fun args => do
  let (x, y, b) ← Extern.MathBitsCarry.three "Sub64" args
  pure (Extern.MathBitsCarry.pair ((x + Extern.MathBitsCarry.m64 - y - b) % Extern.MathBitsCarry.m64) (if x < y + b then 1 else 0))

theorem carry3_some {as : List AV} {x : Nat × Nat × Nat} {xs : Array Value} (h : carry3 as = some x) (hx : VRels ρ as xs.toList) :
    ∃ k1 k2 k3 a b c, xs = #[.int k1 a, .int k2 b, .int k3 c] ∧ c.toNat ≤ 1 ∧ x = (a.toNat, b.toNat, c.toNat) := by
  unfold carry3 at h
  split at h
  · obtain ⟨v, u, t, rfl, h1, h2, h3⟩ := hx.three_inv
    cases h1; cases h2; cases h3
    split at h
    · rename_i hc; cases h; exact ⟨_, _, _, _, _, _, rfl, hc, rfl⟩
    · cases h
  · cases h

theorem three_ok (s : String) (k1 k2 k3 : IntKind) (a b c : Int) (hc : c.toNat ≤ 1) : (Extern.MathBitsCarry.three s #[.int k1 a, .int k2 b, .int k3 c]).run P w = .ok (a.toNat, b.toNat, c.toNat) w := by
  unfold Extern.MathBitsCarry.three
  conv => lhs; arg 2; whnf
  have h1 : ¬ 1 < c.toNat := by omega
  generalize hd : Nat.decLt 1 c.toNat = d
  cases d with
  | isTrue h => exact absurd h h1
  | isFalse _ => rfl

theorem VRels.tops {ρ : Map} {l : List Value} : ∀ {n : Nat}, l.length = n → VRels ρ (List.replicate n .top) l := by
  induction l with
  | nil => intro n h; subst h; exact .nil
  | cons a l ih => intro n h; subst h; exact .cons (.top a) (ih rfl)

theorem makeNoZero_row (ps : Array TypeId) (t : TypeId) (n : Nat) :
    Extern.BytealgMakeNoZero.makeNoZero ps #[t] #[.int .i64 (.ofNat n)] = Extern.BytealgMakeNoZero.makeNoZero ps #[t] #[.int .i64 n] := rfl

theorem externIn_ok (hi : Inv P ρ H w) {fn : Func} {as : List AV} {xs : Array Value} {v : AV} {H' : AH} (h : externIn P fn.name fn.resultTypes.toList as H = some (v, H')) (hx : VRels ρ as xs.toList) (hf : Free ρ H H') :
    ∃ e y w' ρ', Extern.find fn = some e ∧ (e xs).run P w = .ok y w' ∧ VRel ρ' v y ∧ Stp P ρ H w ρ' H' w' := by
  have wh : ∀ {x : Option AV}, withH H x = some (v, H') → x = some v ∧ H' = H := by
    intro x e
    cases x with
    | none => cases e
    | some u => cases e; exact ⟨rfl, rfl⟩
  unfold externIn at h
  split at h
  · rename_i hn
    obtain ⟨hx1, rfl⟩ := wh h
    cases hc : carry3 as with
    | none => rw [hc] at hx1; cases hx1
    | some x =>
      rw [hc] at hx1; cases hx1
      obtain ⟨k1, k2, k3, a, b, c, rfl, hc1, rfl⟩ := carry3_some hc hx
      refine ⟨add64Entry, Extern.MathBitsCarry.pair ((a.toNat + b.toNat + c.toNat) % Extern.MathBitsCarry.m64) ((a.toNat + b.toNat + c.toNat) / Extern.MathBitsCarry.m64), w, ρ, find_plain hn (by kernel_rfl) (by kernel_rfl) (by kernel_rfl), ?_, ?_, Stp.refl hi⟩
      · simp only [add64Entry, Sem.run_bind, three_ok _ _ _ _ _ _ _ hc1, Result.andThen_ok, Sem.run_pure]
      · exact .tuple (.cons (.atom _) (.cons (.atom _) .nil))
  split at h
  · rename_i hn
    obtain ⟨hx1, rfl⟩ := wh h
    cases hc : carry3 as with
    | none => rw [hc] at hx1; cases hx1
    | some x =>
      rw [hc] at hx1; cases hx1
      obtain ⟨k1, k2, k3, a, b, c, rfl, hc1, rfl⟩ := carry3_some hc hx
      refine ⟨sub64E, Extern.MathBitsCarry.pair ((a.toNat + Extern.MathBitsCarry.m64 - b.toNat - c.toNat) % Extern.MathBitsCarry.m64) (if a.toNat < b.toNat + c.toNat then 1 else 0), w, ρ, find_plain hn (by kernel_rfl) (by kernel_rfl) (by kernel_rfl), ?_, ?_, Stp.refl hi⟩
      · simp only [sub64E, Sem.run_bind, three_ok _ _ _ _ _ _ _ hc1, Result.andThen_ok, Sem.run_pure]
      · exact .tuple (.cons (.atom _) (.cons (.atom _) .nil))
  split at h
  · rename_i hn
    obtain ⟨hx1, rfl⟩ := wh h
    unfold cmpA at hx1
    split at hx1
    · obtain ⟨x, y, rfl, h1, h2⟩ := hx.two_inv
      cases h1; cases h2; cases hx1
      exact ⟨Extern.BytealgCompare.compare, _, w, ρ, find_plain hn (by kernel_rfl) (by kernel_rfl) (by kernel_rfl), rfl, .atom _, Stp.refl hi⟩
    · cases hx1
  split at h
  · rename_i hn
    obtain ⟨hx1, rfl⟩ := wh h
    unfold indexByteA at hx1
    split at hx1
    · obtain ⟨x, y, rfl, h1, h2⟩ := hx.two_inv
      cases h1; cases h2; cases hx1
      exact ⟨Extern.BytealgIndexByte.indexByte, _, w, ρ, find_plain hn (by kernel_rfl) (by kernel_rfl) (by kernel_rfl), run_indexByte_string _ _ w, .atom _, Stp.refl hi⟩
    · cases hx1
  split at h
  · rename_i hn
    unfold makeNoZeroA at h
    split at h
    · rename_i n
      split at h
      · rename_i t ht
        split at h
        · rename_i e hd
          obtain ⟨hle, h⟩ := cond_some h
          cases h
          have hle := Nat.le_of_ble_eq_true hle
          have hlid : lidA = 1099511627776 := rfl
          obtain ⟨x, rfl, h1⟩ := hx.one_inv
          cases h1
          obtain ⟨cs, hrun, hcs, _⟩ := Lib.run_makeNoZero (P := P) w fn.params t e hd n (by omega)
          have hrt : fn.resultTypes = #[t] := Array.ext' (by simpa using ht)
          have hfn : ρ H.next = none := hf _ (Nat.le_refl _) (by simp)
          have hp : Pushed w (.cells cs e (0, 0)) (w.drew.drew.alloc (.cells cs e)) := ⟨rfl, rfl, rfl⟩
          refine ⟨Extern.BytealgMakeNoZero.makeNoZero fn.params fn.resultTypes, .slice (some ⟨w.heap.size, 0, none⟩) n cs.size, _, _, find_typed hn (by kernel_rfl) (by kernel_rfl), ?_, ?_,
            hi.push (B := { cells := List.replicate n .top, elem := e, own := true }) (cs := cs) (fz := (0, 0)) hfn hp ?_ (by simpa using hcs) (fun _ => rfl)⟩
          · rw [hrt, makeNoZero_row, hrun]
          · exact .room (l := ⟨w.heap.size, 0, cs.size⟩) (off := 0) (Map.upd_same _ _ _) hcs (by simp)
          · have : (cs.toList.take n).length = n := by simp; omega
            simp only [List.length_replicate]
            exact VRels.tops this
        · cases h
      · cases h
    · cases h
  split at h
  · rename_i hn
    obtain ⟨hx1, rfl⟩ := wh h
    unfold sameA at hx1
    split at hx1
    · obtain ⟨x, rfl, h1⟩ := hx.one_inv
      cases hx1
      exact ⟨Extern.AbiNoEscape.same, _, w, ρ, find_plain hn (by kernel_rfl) (by kernel_rfl) (by kernel_rfl), rfl, h1, Stp.refl hi⟩
    · cases hx1
  · cases h

theorem externA_ok (hi : Inv P ρ H w) {f : FuncId} {fn : Func} {as : List AV} {xs : Array Value} {v : AV} {H' : AH} (hp : P.funcs[f]? = some fn) (hname : (fn.name == "runtime.NumGoroutine") = false)
    (hb : fn.body.isNone = true) (h : externA P fn as H = some (v, H')) (hx : VRels ρ as xs.toList) (hf : Free ρ H H') :
    ∃ y w' ρ', (callFunc f xs).run P w = .ok (.value y) w' ∧ VRel ρ' v y ∧ Stp P ρ H w ρ' H' w' := by
  obtain ⟨hn, h⟩ := cond_some h
  obtain ⟨e, y, w', ρ', h1, h2, h3, h4⟩ := externIn_ok hi h hx hf
  refine ⟨y, w', ρ', ?_, h3, h4⟩
  rw [run_callFunc_extern hp hname hb (by simpa using hn) h1, h2]
  rfl

def ONext.heap : ONext → AH
  | .value _ H | .skip H | .enter _ _ H | .yield _ _ H | .defer _ _ H | .panic _ H => H

/-- A call put off, as the model's. -/
def DefRel (P : Program) (ρ : Map) (g : FuncId) (as : List AV) (d : Deferred) : Prop :=
  ∃ cap args, d = { target := .fn (.func g) cap, args := args } ∧ VRels ρ as (args ++ cap).toList ∧
    ∃ fn c, P.funcs[g]? = some fn ∧ fn.body = some c ∧ (fn.name == "runtime.NumGoroutine") = false

/-- What an operation comes to, in both. -/
inductive NRel (P : Program) (ρ : Map) (H : AH) (w : World) : ONext → Result Next → Prop
  | value {v : AV} {y : Value} {H' : AH} {w' : World} {ρ' : Map} (hv : VRel ρ' v y) (hs : Stp P ρ H w ρ' H' w') : NRel P ρ H w (.value v H') (.ok (.value y) w')
  | skip {H' : AH} {w' : World} {ρ' : Map} (hs : Stp P ρ H w ρ' H' w') : NRel P ρ H w (.skip H') (.ok .skip w')
  | enter {f : FuncId} {as : List AV} {xs : Array Value} {fn : Func} {c : Code} (hx : VRels ρ as xs.toList) (hf : P.funcs[f]? = some fn) (hb : fn.body = some c) : NRel P ρ H w (.enter f as H) (.ok (.enter f xs) w)
  | yield {k : Nat} {l : Loc} {as : List AV} {xs : Array Value} (hk : ρ k = some l) (hx : VRels ρ as xs.toList) : NRel P ρ H w (.yield k as H) ((Instr.yield l.blk xs).run P w)
  | defer {g : FuncId} {as : List AV} {d : Deferred} (hd : DefRel P ρ g as d) : NRel P ρ H w (.defer g as H) (.ok (.defer d) w)
  | panic {v : AV} {y : Value} (hv : VRel ρ v y) : NRel P ρ H w (.panic v H) (.halt (.panic y) w)

theorem callFn_ok (hi : Inv P ρ H w) {f : FuncId} {as : List AV} {xs : Array Value} {r : ONext} (h : callFn P f as H = some r) (hx : VRels ρ as xs.toList) (hf : Free ρ H r.heap) :
    NRel P ρ H w r ((callFunc f xs).run P w) := by
  unfold callFn at h
  split at h
  · cases h
  · rename_i fn hfn
    cases hname : (fn.name == "runtime.NumGoroutine") with
    | true => rw [hname] at h; cases h
    | false =>
      rw [hname] at h
      simp only [Bool.false_eq_true, if_false] at h
      have hname' : fn.name ≠ "runtime.NumGoroutine" := by simpa using hname
      split at h
      · rename_i hb
        cases he : externA P fn as H with
        | none => rw [he] at h; cases h
        | some r' =>
          obtain ⟨v, H'⟩ := r'
          rw [he] at h; cases h
          obtain ⟨y, w', ρ', h1, h2, h3⟩ := externA_ok hi hfn hname hb he hx hf
          rw [h1]
          exact .value h2 h3
      · rename_i hb
        cases h
        cases hbody : fn.body with
        | none => rw [hbody] at hb; simp at hb
        | some c =>
          have : (callFunc f xs).run P w = .ok (.enter f xs) w := by simp [callFunc, hfn, hname', hbody]
          rw [this]
          exact .enter hx hfn hbody

theorem VRels.map_oper {ra : Operand → AV} {rc : Operand → Value} (he : ∀ x, VRel ρ (ra x) (rc x)) (l : List Operand) : VRels ρ (l.map ra) (l.map rc) := by
  induction l with
  | nil => exact .nil
  | cons a l ih => exact .cons (he a) ih

theorem opCall_ok (hi : Inv P ρ H w) {ra : Operand → AV} {rc : Operand → Value} (he : ∀ x, VRel ρ (ra x) (rc x)) {c : Call} {ty : TypeId} {r : ONext} (h : opCall P ra c H = some r) (hf : Free ρ H r.heap) :
    NRel P ρ H w r ((do let d ← resolve rc c ty; invoke d.target d.args : Sem Next).run P w) := by
  have hargs : VRels ρ (c.args.toList.map ra) (c.args.map rc).toList := by rw [Array.toList_map]; exact VRels.map_oper he _
  unfold opCall at h
  split at h
  · rename_i b hc
    cases hb : builtinA P b c.argTypes (c.args.toList.map ra) H with
    | none => rw [hb] at h; cases h
    | some r' =>
      obtain ⟨v, H'⟩ := r'
      rw [hb] at h; cases h
      obtain ⟨y, w', ρ', h1, h2, h3⟩ := builtinA_ok (ty := ty) (consts := c.args.map fun | .const _ => true | _ => false) hi hb hargs hf
      have : (do let d ← resolve rc c ty; invoke d.target d.args : Sem Next).run P w = .ok (.value y) w' := by
        simp only [resolve, hc, Sem.run_bind, Sem.run_pure, Result.andThen_ok, invoke]
        exact h1
      rw [this]
      exact .value h2 h3
  · rename_i q hc
    have hq := he q
    unfold opCallValue at h
    split at h
    · rename_i g first captured hqa
      rw [hqa] at hq
      cases hq' : rc q with
      | func fn x y =>
        rw [hq'] at hq
        cases hq with
        | fn ha hb =>
          have : (do let d ← resolve rc c ty; invoke d.target d.args : Sem Next).run P w = (callFunc g (x ++ c.args.map rc ++ y)).run P w := by
            simp only [resolve, hc, hq', Deferred.ofValue, Sem.run_bind, Sem.run_pure, Result.andThen_ok, invoke]
          rw [this]
          exact callFn_ok hi h (by simpa using (ha.append hargs).append hb) hf
      | _ => rw [hq'] at hq; cases hq
    · rename_i k hqa
      rw [hqa] at hq
      cases h
      cases hq' : rc q with
      | func fn x y =>
        rw [hq'] at hq
        cases hq with
        | yield hk =>
          rename_i l
          have : (do let d ← resolve rc c ty; invoke d.target d.args : Sem Next).run P w = (Instr.yield l.blk (c.args.map rc)).run P w := by
            simp only [resolve, hc, hq', Deferred.ofValue, Sem.run_bind, Sem.run_pure, Result.andThen_ok, invoke]
            simp
          rw [this]
          exact .yield hk hargs
      | _ => rw [hq'] at hq; cases hq
    · cases h
  · cases h

theorem opDefer_ok {ra : Operand → AV} {rc : Operand → Value} (he : ∀ x, VRel ρ (ra x) (rc x)) {c : Call} {ty : TypeId} {r : ONext} (h : opDefer P ra c H = some r) :
    NRel P ρ H w r ((do pure (.defer (← resolve rc c ty)) : Sem Next).run P w) := by
  have hargs : VRels ρ (c.args.toList.map ra) (c.args.map rc).toList := by rw [Array.toList_map]; exact VRels.map_oper he _
  unfold opDefer at h
  split at h
  · rename_i q hc
    have hq := he q
    split at h
    · rename_i g first captured hqa
      rw [hqa] at hq
      split at h
      · rename_i fn hfn
        split at h
        · rename_i hcond
          simp only [Bool.and_eq_true, bne_iff_ne, ne_eq] at hcond
          cases h
          cases hq' : rc q with
          | func f x y =>
            rw [hq'] at hq
            cases hq with
            | fn ha hb =>
              have : (do pure (.defer (← resolve rc c ty)) : Sem Next).run P w = .ok (.defer { target := .fn (.func g) y, args := x ++ c.args.map rc }) w := by
                simp [resolve, hc, hq', Deferred.ofValue]
              rw [this]
              obtain ⟨cd, hcd⟩ := Option.isSome_iff_exists.1 hcond.1
              exact .defer ⟨y, x ++ c.args.map rc, rfl, by simpa using (ha.append hargs).append hb, fn, cd, hfn, hcd, by simpa using hcond.2⟩
          | _ => rw [hq'] at hq; cases hq
        · cases h
      · cases h
    · cases h
  · cases h

theorem VRel.orel {ra : Operand → AV} {rc : Operand → Value} (he : ∀ x, VRel ρ (ra x) (rc x)) (x : Option Operand) : ORel ρ (x.map ra) (x.map rc) := by
  cases x with
  | none => exact .none
  | some x => exact .some (he x)

theorem run_v {s : Sem Value} {y : Value} {w' : World} (h : s.run P w = .ok y w') : (do pure (.value (← s)) : Sem Next).run P w = .ok (.value y) w' := by
  simp [h]

theorem opVal_val {x : Option AV} {H : AH} {r : ONext} (h : opVal x H = some r) : ∃ v H', r = .value v H' := by
  cases x with
  | none => cases h
  | some v => cases h; exact ⟨v, _, rfl⟩
theorem val_step {c : Bool} {x : Option ONext} {r : ONext} (hx : x = some r → ∃ v H', r = .value v H') (h : cond c x none = some r) : ∃ v H', r = .value v H' := hx (cond_some h).2
theorem val_some {v : AV} {H : AH} {r : ONext} (h : some (ONext.value v H) = some r) : ∃ v H', r = .value v H' := by cases h; exact ⟨_, _, rfl⟩
theorem opPick_val (c a b : AV) (H : AH) {r : ONext} (h : opPick c a b H = some r) : ∃ v H', r = .value v H' := by
  unfold opPick at h
  repeat' (split at h)
  all_goals first
    | exact val_some h
    | exact opVal_val h
    | exact val_step val_some h
    | exact val_step opVal_val h
    | cases h
    | (obtain ⟨_, h⟩ := cond_some h; cases h)
    | (obtain ⟨_, h⟩ := cond_some h; split at h <;> first | exact val_some h | cases h)
theorem opAlloc_val (P : Program) (e : TypeId) (H : AH) {r : ONext} (h : opAlloc P e H = some r) : ∃ v H', r = .value v H' := by
  unfold opAlloc at h
  repeat' (split at h)
  all_goals first
    | exact val_some h
    | exact opVal_val h
    | exact val_step val_some h
    | exact val_step opVal_val h
    | cases h
    | (obtain ⟨_, h⟩ := cond_some h; cases h)
    | (obtain ⟨_, h⟩ := cond_some h; split at h <;> first | exact val_some h | cases h)
theorem opBox_val (e : TypeId) (x : AV) (H : AH) {r : ONext} (h : opBox e x H = some r) : ∃ v H', r = .value v H' := by
  unfold opBox at h
  repeat' (split at h)
  all_goals first
    | exact val_some h
    | exact opVal_val h
    | exact val_step val_some h
    | exact val_step opVal_val h
    | cases h
    | (obtain ⟨_, h⟩ := cond_some h; cases h)
    | (obtain ⟨_, h⟩ := cond_some h; split at h <;> first | exact val_some h | cases h)
theorem opBuild_val (P : Program) (t : TypeId) (l : List (Nat × AV)) (H : AH) {r : ONext} (h : opBuild P t l H = some r) : ∃ v H', r = .value v H' := by
  unfold opBuild at h
  repeat' (split at h)
  all_goals first
    | exact val_some h
    | exact opVal_val h
    | exact val_step val_some h
    | exact val_step opVal_val h
    | cases h
    | (obtain ⟨_, h⟩ := cond_some h; cases h)
    | (obtain ⟨_, h⟩ := cond_some h; split at h <;> first | exact val_some h | cases h)
theorem opBuildSlice_val (P : Program) (t : TypeId) (n : Nat) (l : List (Nat × AV)) (H : AH) {r : ONext} (h : opBuildSlice P t n l H = some r) : ∃ v H', r = .value v H' := by
  unfold opBuildSlice at h
  repeat' (split at h)
  all_goals first
    | exact val_some h
    | exact opVal_val h
    | exact val_step val_some h
    | exact val_step opVal_val h
    | cases h
    | (obtain ⟨_, h⟩ := cond_some h; cases h)
    | (obtain ⟨_, h⟩ := cond_some h; split at h <;> first | exact val_some h | cases h)
theorem opNilCheck_val (x : AV) (H : AH) {r : ONext} (h : opNilCheck x H = some r) : ∃ v H', r = .value v H' := by
  unfold opNilCheck at h
  repeat' (split at h)
  all_goals first
    | exact val_some h
    | exact opVal_val h
    | exact val_step val_some h
    | exact val_step opVal_val h
    | cases h
    | (obtain ⟨_, h⟩ := cond_some h; cases h)
    | (obtain ⟨_, h⟩ := cond_some h; split at h <;> first | exact val_some h | cases h)
theorem opBin_val (P : Program) (op : BinOp) (t : TypeId) (x y : AV) (k : Bool) (H : AH) {r : ONext} (h : opBin P op t x y k H = some r) : ∃ v H', r = .value v H' := by
  unfold opBin at h
  repeat' (split at h)
  all_goals first
    | exact val_some h
    | exact opVal_val h
    | exact val_step val_some h
    | exact val_step opVal_val h
    | cases h
    | (obtain ⟨_, h⟩ := cond_some h; cases h)
    | (obtain ⟨_, h⟩ := cond_some h; split at h <;> first | exact val_some h | cases h)
theorem opIface_val (P : Program) (t : TypeId) (x : AV) (H : AH) {r : ONext} (h : opIface P t x H = some r) : ∃ v H', r = .value v H' := by
  unfold opIface at h
  repeat' (split at h)
  all_goals first
    | exact val_some h
    | exact opVal_val h
    | exact val_step val_some h
    | exact val_step opVal_val h
    | cases h
    | (obtain ⟨_, h⟩ := cond_some h; cases h)
    | (obtain ⟨_, h⟩ := cond_some h; split at h <;> first | exact val_some h | cases h)
theorem opFunc_val (fn : Fn) (a b : List AV) (H : AH) {r : ONext} (h : opFunc fn a b H = some r) : ∃ v H', r = .value v H' := by
  unfold opFunc at h
  repeat' (split at h)
  all_goals first
    | exact val_some h
    | exact opVal_val h
    | exact val_step val_some h
    | exact val_step opVal_val h
    | cases h
    | (obtain ⟨_, h⟩ := cond_some h; cases h)
    | (obtain ⟨_, h⟩ := cond_some h; split at h <;> first | exact val_some h | cases h)
theorem opMakeSlice_val (P : Program) (t : TypeId) (l c : AV) (H : AH) {r : ONext} (h : opMakeSlice P t l c H = some r) : ∃ v H', r = .value v H' := by
  unfold opMakeSlice at h
  repeat' (split at h)
  all_goals first
    | exact val_some h
    | exact opVal_val h
    | exact val_step val_some h
    | exact val_step opVal_val h
    | cases h
    | (obtain ⟨_, h⟩ := cond_some h; cases h)
    | (obtain ⟨_, h⟩ := cond_some h; split at h <;> first | exact val_some h | cases h)
theorem opFieldAddr_val (P : Program) (s : TypeId) (x : AV) (f : Nat) (H : AH) {r : ONext} (h : opFieldAddr P s x f H = some r) : ∃ v H', r = .value v H' := by
  unfold opFieldAddr at h
  repeat' (split at h)
  all_goals first
    | exact val_some h
    | exact opVal_val h
    | exact val_step val_some h
    | exact val_step opVal_val h
    | cases h
    | (obtain ⟨_, h⟩ := cond_some h; cases h)
    | (obtain ⟨_, h⟩ := cond_some h; split at h <;> first | exact val_some h | cases h)
theorem opField_val (P : Program) (s : TypeId) (x : AV) (f : Nat) (H : AH) {r : ONext} (h : opField P s x f H = some r) : ∃ v H', r = .value v H' := by
  unfold opField at h
  repeat' (split at h)
  all_goals first
    | exact val_some h
    | exact opVal_val h
    | exact val_step val_some h
    | exact val_step opVal_val h
    | cases h
    | (obtain ⟨_, h⟩ := cond_some h; cases h)
    | (obtain ⟨_, h⟩ := cond_some h; split at h <;> first | exact val_some h | cases h)
theorem opIndexAddr_val (P : Program) (t : TypeId) (x i : AV) (H : AH) {r : ONext} (h : opIndexAddr P t x i H = some r) : ∃ v H', r = .value v H' := by
  unfold opIndexAddr at h
  repeat' (split at h)
  all_goals first
    | exact val_some h
    | exact opVal_val h
    | exact val_step val_some h
    | exact val_step opVal_val h
    | cases h
    | (obtain ⟨_, h⟩ := cond_some h; cases h)
    | (obtain ⟨_, h⟩ := cond_some h; split at h <;> first | exact val_some h | cases h)
theorem opIndex_val (P : Program) (t : TypeId) (x i : AV) (H : AH) {r : ONext} (h : opIndex P t x i H = some r) : ∃ v H', r = .value v H' := by
  unfold opIndex at h
  repeat' (split at h)
  all_goals first
    | exact val_some h
    | exact opVal_val h
    | exact val_step val_some h
    | exact val_step opVal_val h
    | cases h
    | (obtain ⟨_, h⟩ := cond_some h; cases h)
    | (obtain ⟨_, h⟩ := cond_some h; split at h <;> first | exact val_some h | cases h)
theorem opAssert_val (P : Program) (x : AV) (t : TypeId) (ok : Bool) (H : AH) {r : ONext} (h : opAssert P x t ok H = some r) : ∃ v H', r = .value v H' := by
  unfold opAssert at h
  repeat' (split at h)
  all_goals first
    | exact val_some h
    | exact opVal_val h
    | exact val_step val_some h
    | exact val_step opVal_val h
    | cases h
    | (obtain ⟨_, h⟩ := cond_some h; cases h)
    | (obtain ⟨_, h⟩ := cond_some h; split at h <;> first | exact val_some h | cases h)
theorem opExtract_val (x : AV) (i : Nat) (H : AH) {r : ONext} (h : opExtract x i H = some r) : ∃ v H', r = .value v H' := by
  unfold opExtract at h
  repeat' (split at h)
  all_goals first
    | exact val_some h
    | exact opVal_val h
    | exact val_step val_some h
    | exact val_step opVal_val h
    | cases h
    | (obtain ⟨_, h⟩ := cond_some h; cases h)
    | (obtain ⟨_, h⟩ := cond_some h; split at h <;> first | exact val_some h | cases h)
/-- Every operation. -/
theorem opA_ok (hi : Inv P ρ H w) {ra : Operand → AV} {rc : Operand → Value} (he : ∀ x, VRel ρ (ra x) (rc x)) {o : Oper} {r : ONext} (h : opA P ra o H = some r) (hf : Free ρ H r.heap) :
    NRel P ρ H w r ((execOp rc o).run P w) := by
  have val : ∀ {x : Option AV} {r : ONext}, opVal x H = some r → ∃ v, x = some v ∧ r = .value v H := by
    intro x r e
    cases x with
    | none => cases e
    | some v => cases e; exact ⟨v, rfl, rfl⟩
  have same : ∀ {s : Sem Value} {v : AV} {y : Value}, s.run P w = .ok y w → VRel ρ v y → NRel P ρ H w (.value v H) ((do pure (.value (← s)) : Sem Next).run P w) := by
    intro s v y h1 h2
    rw [run_v h1]
    exact .value h2 (Stp.refl hi)
  unfold opA at h
  unfold execOp
  split at h
  case h_27 => cases h
  all_goals rename_i ho
  all_goals rw [ho]
  all_goals simp only
  · cases h; rw [Sem.run_pure]; exact .value (he _) (Stp.refl hi)
  · cases h; rw [Sem.run_pure]; exact .value (he _) (Stp.refl hi)
  · -- pick
    obtain ⟨v, H', rfl⟩ := opPick_val _ _ _ _ h
    obtain ⟨rfl, u, h1, h2⟩ := opPick_ok (P := P) (w := w) h (he _) (he _) (he _)
    rw [h1]; exact .value h2 (Stp.refl hi)
  · -- alloc
    obtain ⟨v, H', rfl⟩ := opAlloc_val _ _ _ h
    obtain ⟨y, w', ρ', h1, h2, h3⟩ := opAlloc_ok hi h hf
    rw [run_v h1]; exact .value h2 h3
  · -- box
    obtain ⟨v, H', rfl⟩ := opBox_val _ _ _ h
    obtain ⟨y, w', ρ', h1, h2, h3⟩ := opBox_ok hi h (he _) hf
    rw [run_v h1]; exact .value h2 h3
  · -- build
    obtain ⟨v, H', rfl⟩ := opBuild_val _ _ _ _ h
    obtain ⟨hp, hk⟩ := partsA_ok he _
    obtain ⟨rfl, y, h1, h2⟩ := opBuild_ok (w := w) h hp hk
    exact same h1 h2
  · -- buildSlice
    obtain ⟨v, H', rfl⟩ := opBuildSlice_val _ _ _ _ _ h
    obtain ⟨hp, hk⟩ := partsA_ok he _
    obtain ⟨y, w', ρ', h1, h2, h3⟩ := opBuildSlice_ok hi h hp hk hf
    rw [run_v h1]; exact .value h2 h3
  · -- load
    obtain ⟨v, hv, rfl⟩ := val h
    obtain ⟨y, h1, h2⟩ := loadA_ok hi hv (he _)
    exact same h1 h2
  · -- store
    unfold opStore at h
    split at h
    · rename_i H' hs
      cases h
      obtain ⟨w', h1, h2⟩ := storeA_ok hi hs (he _) (he _)
      simp only [Sem.run_bind, h1, Result.andThen_ok, Sem.run_pure]
      exact .skip h2
    · cases h
  · -- nilCheck
    obtain ⟨v, H', rfl⟩ := opNilCheck_val _ _ h
    obtain ⟨rfl, u, h1, h2⟩ := opNilCheck_ok (P := P) (w := w) (ρc := rc) h (he _) ho rfl
    unfold execOp at h1
    rw [ho] at h1
    simp only at h1
    rw [h1]; exact .value h2 (Stp.refl hi)
  · -- binOp
    obtain ⟨v, H', rfl⟩ := opBin_val _ _ _ _ _ _ _ h
    obtain ⟨rfl, z, h1, h2⟩ := opBin_ok (w := w) h (he _) (he _)
    exact same h1 h2
  · -- unOp
    obtain ⟨v, hv, rfl⟩ := val h
    obtain ⟨y, h1, h2⟩ := unA_ok (P := P) (w := w) hv (he _)
    exact same h1 h2
  · -- convert
    rename_i src dst x
    cases hc : convA P H src dst (ra x) with
    | none => rw [hc] at h; cases h
    | some r' =>
      obtain ⟨v, H'⟩ := r'
      rw [hc] at h; cases h
      obtain ⟨y, w', ρ', h1, h2, h3⟩ := convA_ok hi hc (he _) hf
      rw [run_v h1]; exact .value h2 h3
  · -- makeInterface
    obtain ⟨v, H', rfl⟩ := opIface_val _ _ _ _ h
    obtain ⟨rfl, u, h1, h2⟩ := opIface_ok (w := w) h (he _)
    exact same h1 h2
  · -- makeFunc
    rename_i fn first captured
    unfold opFunc at h
    split at h
    · cases h
      have e : ∀ l : Array Operand, VRels ρ (l.toList.map ra) (l.map rc).toList := fun l => by rw [Array.toList_map]; exact VRels.map_oper he _
      exact same (y := .func (.func _) (first.map rc) (captured.map rc)) (by simp [Instr.makeFunc]) (.fn (e _) (e _))
    · cases h
  · -- makeSlice
    obtain ⟨v, H', rfl⟩ := opMakeSlice_val _ _ _ _ _ h
    obtain ⟨y, w', ρ', h1, h2, h3⟩ := opMakeSlice_ok hi h (he _) (he _) hf
    rw [run_v h1]; exact .value h2 h3
  · -- slice
    obtain ⟨v, hv, rfl⟩ := val h
    obtain ⟨y, h1, h2⟩ := sliceA_ok hi hv (he _) (VRel.orel he _) (VRel.orel he _) (VRel.orel he _)
    exact same h1 h2
  · -- fieldAddr
    obtain ⟨v, H', rfl⟩ := opFieldAddr_val _ _ _ _ _ h
    obtain ⟨rfl, u, h1, h2⟩ := opFieldAddr_ok (w := w) h (he _)
    exact same h1 h2
  · -- field
    obtain ⟨v, H', rfl⟩ := opField_val _ _ _ _ _ h
    obtain ⟨rfl, u, h1, h2⟩ := opField_ok (w := w) h (he _)
    exact same h1 h2
  · -- indexAddr
    obtain ⟨v, H', rfl⟩ := opIndexAddr_val _ _ _ _ _ h
    obtain ⟨rfl, u, h1, h2⟩ := opIndexAddr_ok (w := w) h (he _) (he _)
    exact same h1 h2
  · -- index
    obtain ⟨v, H', rfl⟩ := opIndex_val _ _ _ _ _ h
    obtain ⟨rfl, u, h1, h2⟩ := opIndex_ok (w := w) h (he _) (he _)
    exact same h1 h2
  · -- typeAssert
    rename_i x xt t ok
    obtain ⟨v, H', rfl⟩ := opAssert_val _ _ _ _ _ h
    obtain ⟨rfl, u, h1, h2⟩ := opAssert_ok (w := w) (xt := xt) h (he _)
    exact same h1 h2
  · -- extract
    obtain ⟨v, H', rfl⟩ := opExtract_val _ _ _ h
    obtain ⟨rfl, u, h1, h2⟩ := opExtract_ok (P := P) (w := w) h (he _)
    exact same h1 h2
  · -- call
    exact opCall_ok hi he h hf
  · -- defer
    exact opDefer_ok he h
  · -- panic
    rename_i x
    have hx := he x
    unfold opPanic at h
    split at h
    · rename_i t y hxa
      cases h
      rw [hxa] at hx
      cases hq : rc x with
      | iface u z =>
        rw [hq] at hx
        have : ((do pure (.value (← Instr.panic (.iface u z))) : Sem Next)).run P w = .halt (.panic (.iface u z)) w := by
          simp [Instr.panic]
        rw [this]
        exact .panic hx
      | _ => rw [hq] at hx; cases hx
    · cases h

end Go.Am

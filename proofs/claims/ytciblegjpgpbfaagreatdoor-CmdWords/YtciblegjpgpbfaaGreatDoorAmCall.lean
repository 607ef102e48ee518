/-
  The abstract machine's calls, held against the model's: what a function leaves behind, its deferred calls, what it returns. No condition beyond 'DrawOk' and the relation itself.
-/
import Derived.Test.YtciblegjpgpbfaaGreatDoorAmCode
namespace Go.Am
open Go

variable {P : Program} {ρ : Map} {H : AH} {w : World}

theorem stepR_scope {b : Frame} {a : Act} {k : List Item} {cs : List Frame} {c : Code} : step P (lone (b.atR a (.code (.scope c) :: k)) cs w) = .next (lone (b.atR a (.code c :: .inScope c :: k)) cs w) :=
  step_lone_go (by simp [stepG, stepG.exec, Frame.atR])
theorem stepR_inScope {b : Frame} {a : Act} {k : List Item} {cs : List Frame} {c : Code} : step P (lone (b.atR a (.inScope c :: k)) cs w) = .next (lone (b.atR a k) cs w) :=
  step_lone_go (by simp [stepG, stepG.exec, Frame.atR])

def NoGoto (Q : Exit → Act → World → Prop) : Exit → Act → World → Prop
  | .goto _, _, _ => False
  | e, a, w => Q e a w

theorem wpIn_scope {F : Fence} {n : Nat} {Q : Exit → Act → World → Prop} {a : Act} {c : Code} (h : c.wpIn F n P (NoGoto Q) a w) : (Code.scope c).wpIn F n P Q a w := by
  intro b k cs hro hb hr
  have h0 : (lone (b.atR a (.code (.scope c) :: k)) cs w).fenced P F := fenced_calm hb hr rfl
  obtain ⟨e, a₁, w₁, hq, harr⟩ := h b (.inScope c :: k) cs hro hb hr
  cases e with
  | normal => exact ⟨.normal, a₁, w₁, hq, .head h0 stepR_scope (StepsIn.trans harr (.one (fenced_calm hb hr rfl) stepR_inScope))⟩
  | exit id =>
    have hx : exitTo id (.inScope c :: k) = exitTo id k := by simp [exitTo]
    exact ⟨.exit id, a₁, w₁, hq, fun k' hk => .head h0 stepR_scope (harr.1 k' (by rw [hx]; exact hk)),
      fun hr' hk => let ⟨k₁, h1, h2⟩ := harr.2 hr' (by rw [hx]; exact hk); ⟨k₁, h1, .head h0 stepR_scope h2⟩⟩
  | goto l => exact hq.elim
  | ret => exact ⟨_, a₁, w₁, hq, .of_steps (.one h0 stepR_scope) harr⟩
  | panic ch => exact ⟨_, a₁, w₁, hq, .of_steps (.one h0 stepR_scope) harr⟩
  | outgrown => exact ⟨_, a₁, w₁, hq, .of_steps (.one h0 stepR_scope) harr⟩

theorem RunOk.scope {c : Code} {y : Option (Nat × Yld)} {run : Frm → AH → Out} (h : RunOk P c y run) : RunOk P (.scope c) y run where
  next := h.next
  ok := fun hm f H x f' H' hr base ro ρ a w hi hbs hfr hy hf Q hQ => by
    refine wpIn_scope (h.ok hm f H x f' H' hr base ro ρ a w hi hbs hfr hy hf _ fun e a' w' hp => ?_)
    obtain ⟨ρ', hs, hfr', hx⟩ := hp
    have := hQ e a' w' ⟨ρ', hs, hfr', hx⟩
    cases hx <;> exact this

theorem codeA_ok {call : ACall} (hc : CallOk P call) (hd : DrawOk P call) (L : Nat) (c : Code) : ∀ y, RunOk P c y (codeA P call L c y) := by
  induction c with
  | skip => exact fun y => RunOk.skip
  | region id ops draw =>
    intro y
    cases draw with
    | false => exact (RegOk.region hc).run
    | true => exact (hd id ops y).run
  | seq a b iha ihb => exact fun y => RunOk.seq (iha y) (ihb y)
  | cond c a b iha ihb => exact fun y => RunOk.cond (iha y) (ihb y)
  | block id a ih => exact fun y => RunOk.block (ih y)
  | loop a ih => exact fun y => RunOk.loop (ih y) L
  | rangeFunc g ps a b iha ihb => exact fun y => RunOk.range hc (iha none) (ihb none)
  | exit id => exact fun y => RunOk.exit
  | scope a ih => exact fun y => RunOk.scope (ih y)
  | label l => exact fun y => RunOk.label
  | goto l => exact fun y => RunOk.never
  | ret => exact fun y => RunOk.ret
  | refuse s => exact fun y => RunOk.never

/-! ### What a function returns -/
theorem resultA_ok (hi : Inv P ρ H w) {f : Frm} {tmps : Array Value} (hs : ∀ t, VRel ρ (f.slot t) (tmps.getD t undef)) {g : ResultVar → Sem Value} (g1 : ∀ t, g (.tmp t) = pure (tmps.getD t undef))
    (g2 : ∀ a t, g (.cell a t) = do loadVar t (← asAddr (tmps.getD a undef))) : ∀ {rs : List ResultVar} {l : List AV}, resultA P H f rs = some l →
    ∃ xs : List Value, (rs.mapM g).run P w = .ok xs w ∧ VRels ρ l xs := by
  intro rs
  induction rs with
  | nil => intro l h; cases h; exact ⟨[], by simp, .nil⟩
  | cons r rs ih =>
    intro l h
    cases r with
    | tmp t =>
      simp only [resultA] at h
      cases hr : resultA P H f rs with
      | none => rw [hr] at h; cases h
      | some l' =>
        rw [hr] at h; cases h
        obtain ⟨xs, h1, h2⟩ := ih hr
        exact ⟨tmps.getD t undef :: xs, by simp only [List.mapM_cons, Sem.run_bind, g1, Sem.run_pure, Result.andThen_ok, h1], .cons (hs t) h2⟩
    | cell a t =>
      simp only [resultA] at h
      split at h
      · rename_i v l' hl hr
        cases h
        obtain ⟨xs, h1, h2⟩ := ih hr
        obtain ⟨y, h3, h4⟩ := loadA_ok hi hl (hs a)
        have : (do loadVar t (← asAddr (tmps.getD a undef)) : Sem Value).run P w = .ok y w := by
          have hv := hs a
          generalize hz : tmps.getD a undef = z at hv h3
          unfold loadA at hl
          cases hsl : f.slot a with
          | ptr b off =>
            rw [hsl] at hv
            cases hv
            simpa [Instr.loadAt, Instr.sureAddr, asAddr] using h3
          | _ => rw [hsl] at hl; cases hl
        exact ⟨y :: xs, by simp only [List.mapM_cons, g2, Sem.run_bind] at this ⊢; simp only [this, Sem.run_pure, Result.andThen_ok, h1], .cons h4 h2⟩
      · cases h

theorem results_ok (hi : Inv P ρ H w) {f : Frm} {tmps : Array Value} (hs : ∀ t, VRel ρ (f.slot t) (tmps.getD t undef)) {fn : Func} {v : AV} (h : resultsA P H f fn.results.toList = some v) :
    ∃ y, (results fn tmps).run P w = .ok y w ∧ VRel ρ v y := by
  have key : ∀ {l : List AV}, resultA P H f fn.results.toList = some l → ∃ xs : List Value, (results fn tmps).run P w = .ok (if h : xs.toArray.size = 1 then xs.toArray[0] else .tuple xs.toArray) w ∧ VRels ρ l xs := by
    intro l hr
    obtain ⟨xs, h1, h2⟩ := resultA_ok hi hs (g := fun
      | .tmp t => pure (tmps.getD t undef)
      | .cell a t => do loadVar t (← asAddr (tmps.getD a undef))) (fun _ => rfl) (fun _ _ => rfl) hr
    refine ⟨xs, ?_, h2⟩
    unfold results
    simp only [Array.mapM_eq_mapM_toList, Sem.run_bind, Sem.run_map]
    refine (congrArg (fun (z : Result (List Value)) => ((z.andThen fun a w' => Result.ok a.toArray w').andThen fun (a : Array Value) w' => Sem.run P (pure (if h : a.size = 1 then a[0] else .tuple a)) w')) h1).trans ?_
    simp only [Result.andThen_ok, Sem.run_pure]
  unfold resultsA at h
  split at h
  · rename_i u hr
    cases h
    obtain ⟨xs, h1, h2⟩ := key hr
    obtain ⟨x, m, rfl, h3, h4⟩ := h2.cons_inv
    have := h4.nil_inv
    subst this
    exact ⟨x, by simpa using h1, h3⟩
  · rename_i l hne hr
    cases h
    obtain ⟨xs, h1, h2⟩ := key hr
    refine ⟨_, h1, ?_⟩
    have : ¬ xs.toArray.size = 1 := by
      intro e
      have hl : l.length = 1 := by rw [h2.length]; simpa using e
      match l, hl with
      | [u], _ => exact hne u rfl
    rw [dif_neg this]
    exact .tuple (by simpa using h2)
  · cases h

/-! ### Calls that were put off -/
/-- What the frame below is at: it returns, or what it panicked with is recovered; it panics. -/
def UMode (ρ : Map) : Option AV → FrameMode → Prop
  | none, u => u = .returning ∨ ∃ v rest, u = .panicking ({ v := v, recovered := true } :: rest) ∧ ∀ e ∈ rest, e.goexit = false
  | some a, u => ∃ c, u = .panicking c ∧ Chain ρ a c

theorem Chain.mono {σ : Map} (h : Map.le ρ σ) {v : AV} {c : List PanicEntry} : Chain ρ v c → Chain σ v c := fun ⟨y, rest, e, hv, hr⟩ => ⟨y, rest, e, hv.mono h, hr⟩
theorem UMode.mono {σ : Map} (h : Map.le ρ σ) {pan : Option AV} {u : FrameMode} (hu : UMode ρ pan u) : UMode σ pan u := by
  cases pan with
  | none => exact hu
  | some a => obtain ⟨c, e, hc⟩ := hu; exact ⟨c, e, hc.mono h⟩

theorem regD_next {call : ACall} {ops : Array Oper} (l : List Oper) : ∀ {f f' : Frm} {H H' : AH} {pan pan' : Option AV} {x : AX}, regD P call ops l f H pan = some (x, f', H', pan') → H.next ≤ H'.next := by
  induction l with
  | nil => intro f f' H H' pan pan' x h; simp only [regD, Option.some.injEq, Prod.mk.injEq] at h; rw [h.2.2.1]; exact Nat.le_refl _
  | cons o l ih =>
    intro f f' H H' pan pan' x h
    unfold regD at h
    split at h
    · cases h
    · exact ih h
    · split at h
      · exact ih h
      · split at h
        · rename_i ho; exact Nat.le_trans (opA_next ho) (ih h)
        · rename_i ho; exact Nat.le_trans (opA_next ho) (ih h)
        · rename_i ho; cases h; exact opA_next ho
        · cases h

theorem FR.none_step {base : Nat → Prop} {f : Frm} {a : Act} (h : FR P ρ base none f a w) : FR P ρ base none f a w := h

theorem regD_ok {call : ACall} {ops : Array Oper} {base : Nat → Prop} (c0 : Frame) (cs : List Frame) (l : List Oper) :
    ∀ (i : Nat), ops.toList.drop i = l → ∀ {f f' : Frm} {H H' : AH} {pan pan' : Option AV} {x : AX}, regD P call ops l f H pan = some (x, f', H', pan') →
    ∀ {ρ : Map} {a : Act} {w : World} {u : FrameMode}, Inv P ρ H w → FR P ρ base none f a w → UMode ρ pan u → Free ρ H H' →
    ∀ {Q : Exit → Act → List Frame → World → Prop}, (∀ ρ' e a' w' u', Stp P ρ H w ρ' H' w' → FR P ρ' base none f' a' w' → XRel ρ' x e → UMode ρ' pan' u' → Q e a' ({ c0 with mode := u' } :: cs) w') →
      wpOpsSIn (FW none) 0 P ops Q (List.range' i l.length) a ({ c0 with mode := u } :: cs) w := by
  induction l with
  | nil =>
    intro i hl f f' H H' pan pan' x h ρ a w u hi hfr hu hf Q hQ
    simp only [regD, Option.some.injEq, Prod.mk.injEq] at h
    obtain ⟨rfl, rfl, rfl, rfl⟩ := h
    exact hQ _ _ _ _ _ (Stp.refl hi) hfr .normal hu
  | cons o l ih =>
    intro i hl f f' H H' pan pan' x h ρ a w u hi hfr hu hf Q hQ
    have ho : ops[i]? = some o := by
      have : (ops.toList.drop i)[0]? = some o := by rw [hl]; rfl
      simpa using this
    have hl' : ops.toList.drop (i + 1) = l := by
      rw [← List.drop_drop, hl]; rfl
    simp only [List.length_cons, List.range'_succ]
    unfold wpOpsSIn
    rw [ho]
    simp only
    refine ⟨fun _ _ => trivial, ?_⟩
    unfold regD at h
    split at h
    · cases h
    · rename_i hw
      rw [wanted_ok hfr.slots hw]
      simp only [Bool.false_eq_true, if_false]
      exact ih (i + 1) hl' h hi (hfr.put _ (.atom _)) hu hf hQ
    · rename_i hw
      rw [wanted_ok hfr.slots hw]
      simp only [if_true]
      split at h
      · rename_i args argTypes hop
        have hex : (execOp a.eval o).run P w = .ok .recover w := by
          simp [execOp, hop, resolve, invoke, builtin]
        rw [hex]
        simp only
        cases pan with
        | none =>
          have hrec : recoverD ({ c0 with mode := u } :: cs) = none := by
            rcases hu with rfl | ⟨v, rest, rfl, _⟩ <;> rfl
          rw [hrec]
          exact ih (i + 1) hl' h hi (hfr.put _ (.atom _)) hu hf hQ
        | some p =>
          obtain ⟨c, rfl, y, rest, rfl, hv, hrest⟩ := hu
          have hrec : recoverD ({ c0 with mode := .panicking ({ v := y, recovered := false } :: rest) } :: cs) = some (y, { c0 with mode := .panicking ({ v := y, recovered := true } :: rest) } :: cs) := rfl
          rw [hrec]
          exact ih (i + 1) hl' h hi (hfr.put _ hv) (.inr ⟨y, rest, rfl, hrest⟩) hf hQ
      · have he := hfr.eval hi
        split at h
        · rename_i v H1 hop
          have hn := regD_next l h
          have hr := opA_ok (w := w) hi he hop (hf.left hn)
          generalize (execOp a.eval o).run P w = res at hr
          cases hr with
          | value hv hs =>
            exact ih (i + 1) hl' h hs.inv ((hfr.step hi hs (hf.left hn)).put _ hv) (hu.mono (hs.le (hf.left hn))) (hf.right hs) fun ρ' e a' w' u' h1 => hQ ρ' e a' w' u' (hs.trans h1 hf)
        · rename_i H1 hop
          have hn := regD_next l h
          have hr := opA_ok (w := w) hi he hop (hf.left hn)
          generalize (execOp a.eval o).run P w = res at hr
          cases hr with
          | skip hs =>
            exact ih (i + 1) hl' h hs.inv ((hfr.step hi hs (hf.left hn)).put _ (.atom _)) (hu.mono (hs.le (hf.left hn))) (hf.right hs) fun ρ' e a' w' u' h1 => hQ ρ' e a' w' u' (hs.trans h1 hf)
        · rename_i v H1 hop
          simp only [Option.some.injEq, Prod.mk.injEq] at h
          obtain ⟨rfl, rfl, rfl, rfl⟩ := h
          have hr := opA_ok (w := w) hi he hop hf
          generalize (execOp a.eval o).run P w = res at hr
          cases hr with
          | panic hv =>
            exact hQ _ _ _ _ _ (Stp.refl hi) hfr (.pan ⟨_, [], rfl, hv, by simp⟩) hu
        · cases h

theorem codeD_next {call : ACall} (hd : DrawOk P call) (c : Code) : ∀ {f f' : Frm} {H H' : AH} {pan pan' : Option AV} {x : AX}, codeD P call c f H pan = some (x, f', H', pan') → H.next ≤ H'.next := by
  induction c with
  | skip => intro f f' H H' pan pan' x h; simp only [codeD, Option.some.injEq, Prod.mk.injEq] at h; rw [h.2.2.1]; exact Nat.le_refl _
  | ret => intro f f' H H' pan pan' x h; simp only [codeD, Option.some.injEq, Prod.mk.injEq] at h; rw [h.2.2.1]; exact Nat.le_refl _
  | region id ops draw =>
    intro f f' H H' pan pan' x h
    cases draw with
    | false => exact regD_next _ h
    | true =>
      simp only [codeD, withPan] at h
      split at h
      · rename_i hr
        simp only [Option.some.injEq, Prod.mk.injEq] at h
        rw [← h.2.2.1]
        exact (hd id ops none).next YMono.none _ _ _ _ _ hr
      · cases h
  | seq a b iha ihb =>
    intro f f' H H' pan pan' x h
    simp only [codeD, seqD] at h
    split at h
    · rename_i ha; exact Nat.le_trans (iha ha) (ihb h)
    · exact iha h
  | cond c a b iha ihb =>
    intro f f' H H' pan pan' x h
    simp only [codeD] at h
    split at h
    · exact iha h
    · exact ihb h
    · cases h
  | _ => intro f f' H H' pan pan' x h; simp [codeD] at h

theorem codeD_ok {call : ACall} (hd : DrawOk P call) {base : Nat → Prop} (c0 : Frame) (cs : List Frame) (c : Code) : ∀ {f f' : Frm} {H H' : AH} {pan pan' : Option AV} {x : AX}, codeD P call c f H pan = some (x, f', H', pan') →
    ∀ {ρ : Map} {a : Act} {w : World} {u : FrameMode}, Inv P ρ H w → FR P ρ base none f a w → UMode ρ pan u → Free ρ H H' →
    ∀ {Q : Exit → Act → List Frame → World → Prop}, (∀ ρ' e a' w' u', Stp P ρ H w ρ' H' w' → FR P ρ' base none f' a' w' → XRel ρ' x e → UMode ρ' pan' u' → Q e a' ({ c0 with mode := u' } :: cs) w') →
      c.wpSIn (FW none) 0 P Q a ({ c0 with mode := u } :: cs) w := by
  induction c with
  | skip =>
    intro f f' H H' pan pan' x h ρ a w u hi hfr hu hf Q hQ
    simp only [codeD, Option.some.injEq, Prod.mk.injEq] at h
    obtain ⟨rfl, rfl, rfl, rfl⟩ := h
    exact wpSIn_of_wpIn rfl (wpIn_skip (hQ _ _ _ _ _ (Stp.refl hi) hfr .normal hu))
  | ret =>
    intro f f' H H' pan pan' x h ρ a w u hi hfr hu hf Q hQ
    simp only [codeD, Option.some.injEq, Prod.mk.injEq] at h
    obtain ⟨rfl, rfl, rfl, rfl⟩ := h
    exact wpSIn_of_wpIn rfl (wpIn_ret (hQ _ _ _ _ _ (Stp.refl hi) hfr .ret hu))
  | region id ops draw =>
    intro f f' H H' pan pan' x h ρ a w u hi hfr hu hf Q hQ
    cases draw with
    | false =>
      refine wpSIn_region ?_
      have := regD_ok (base := base) c0 cs ops.toList 0 rfl h hi hfr hu hf hQ
      rw [List.range_eq_range']
      simpa using this
    | true =>
      simp only [codeD, withPan] at h
      split at h
      · rename_i hr
        simp only [Option.some.injEq, Prod.mk.injEq] at h
        obtain ⟨rfl, rfl, rfl, rfl⟩ := h
        refine wpSIn_of_wpIn rfl ((hd id ops none).ok YMono.none _ _ _ _ _ hr base none ρ a w hi hfr YOk.none hf _ fun e a' w' hp => ?_)
        obtain ⟨ρ', h1, h2, h3⟩ := hp
        exact hQ ρ' e a' w' u h1 h2 h3 (hu.mono (h1.le hf))
      · cases h
  | seq a b iha ihb =>
    intro f f' H H' pan pan' x h ρ act w u hi hfr hu hf Q hQ
    refine wpSIn_seq ?_
    simp only [codeD, seqD] at h
    split at h
    · rename_i f1 H1 pan1 ha
      have hn := codeD_next hd b h
      refine iha ha hi hfr hu (hf.left hn) ?_
      intro ρ1 e a1 w1 u1 hs hfr1 hx hu1
      cases hx
      exact ihb h hs.inv hfr1 hu1 (hf.right hs) fun ρ' e a' w' u' h1 => hQ ρ' e a' w' u' (hs.trans h1 hf)
    · rename_i hne
      refine iha h hi hfr hu hf ?_
      intro ρ1 e a1 w1 u1 hs hfr1 hx hu1
      cases hx with
      | normal => exact absurd h (hne _ _ _)
      | exit id => exact hQ _ _ _ _ _ hs hfr1 (.exit id) hu1
      | ret => exact hQ _ _ _ _ _ hs hfr1 .ret hu1
      | pan hch => exact hQ _ _ _ _ _ hs hfr1 (.pan hch) hu1
  | cond c a b iha ihb =>
    intro f f' H H' pan pan' x h ρ act w u hi hfr hu hf Q hQ
    simp only [codeD] at h
    have he := hfr.eval hi c
    split at h
    · rename_i ht
      rw [ht] at he
      have hc : act.eval c = .bool true := by
        generalize act.eval c = z at he
        cases he; rfl
      exact wpSIn_cond hc (iha h hi hfr hu hf hQ)
    · rename_i ht
      rw [ht] at he
      have hc : act.eval c = .bool false := by
        generalize act.eval c = z at he
        cases he; rfl
      exact wpSIn_cond hc (ihb h hi hfr hu hf hQ)
    · cases h
  | _ => intro f f' H H' pan pan' x h; simp [codeD] at h

/-! ### The frame that a call enters -/
theorem fillT_cons (a : AV) (l : List AV) (i : Nat) (t : Tr AV) : fillT (a :: l) i t = fillT l (i + 1) (t.put (i + 1) i (some a)) := rfl
theorem fillT_get (l : List AV) : ∀ (i : Nat) (t : Tr AV) (k : Nat), (fillT l i t).get k = if i ≤ k ∧ k < i + l.length then l[k - i]? else t.get k := by
  induction l with
  | nil => intro i t k; show t.get k = _; rw [if_neg (by simp)]
  | cons a l ih =>
    intro i t k
    rw [fillT_cons, ih]
    by_cases h1 : k = i
    · subst h1
      rw [if_neg (by omega), if_pos (by simp), Tr.get_put_same _ _ _ _ (by omega)]
      simp
    · by_cases h2 : i + 1 ≤ k ∧ k < i + 1 + l.length
      · rw [if_pos h2, if_pos (by simp; omega)]
        have : k - i = (k - (i + 1)) + 1 := by omega
        rw [this]; simp
      · rw [if_neg h2, if_neg (by simp; omega), Tr.get_put_ne _ _ _ _ _ h1]

theorem enter_ok {base : Nat → Prop} {fn : Func} {as : List AV} {xs : Array Value} (hx : VRels ρ as xs.toList) :
    FR P ρ base none (enterA fn as) { tmps := xs ++ Array.replicate (fn.ntmps - xs.size) undef, defers := [] } w where
  size := by
    have := hx.size
    show max as.length fn.ntmps = _
    simp; omega
  rd := rfl
  slots := fun t => by
    have hsz := hx.size
    show VRel ρ (match (fillT as 0 .leaf).get t with | some v => v | none => .atom undef) _
    rw [fillT_get]
    by_cases ht : t < as.length
    · rw [if_pos (by omega)]
      have hg := hx.get t
      rcases hg with ⟨h1, _⟩ | ⟨a, v, h1, h2, h3⟩
      · rw [List.getElem?_eq_none_iff] at h1; omega
      · simp only [Nat.sub_zero, h1]
        have : (xs ++ Array.replicate (fn.ntmps - xs.size) undef).getD t undef = v := by
          have h4 : xs[t]? = some v := by simpa using h2
          have hlt := lt_of_get h4
          rw [Array.getD_eq_getD_getElem?, Array.getElem?_append_left hlt, h4]; rfl
        rw [this]; exact h3
    · rw [if_neg (by omega)]
      have : (xs ++ Array.replicate (fn.ntmps - xs.size) undef).getD t undef = undef := by
        rw [Array.getD_eq_getD_getElem?, Array.getElem?_append_right (by omega), Array.getElem?_replicate]
        split <;> rfl
      rw [this]; exact .atom _
  defers := .nil
  round := fun _ e => by cases e

/-! ### A call that was put off, carried out -/
def LMode (ρ : Map) : Option AV → FrameMode → Prop
  | none, u => u = .returning
  | some a, u => ∃ c, u = .panicking c ∧ Chain ρ a c
theorem LMode.umode {pan : Option AV} {u : FrameMode} (h : LMode ρ pan u) : UMode ρ pan u := by
  cases pan with
  | none => exact .inl h
  | some a => exact h
theorem LMode.mono {σ : Map} (h : Map.le ρ σ) {pan : Option AV} {u : FrameMode} (hu : LMode ρ pan u) : LMode σ pan u := by
  cases pan with
  | none => exact hu
  | some a => obtain ⟨c, e, hc⟩ := hu; exact ⟨c, e, hc.mono h⟩

theorem dropWhile_nil : ∀ {l : List PanicEntry}, (∀ e ∈ l, e.goexit = false) → l.dropWhile (!·.goexit) = []
  | [], _ => rfl
  | e :: l, h => by
    rw [List.dropWhile_cons, h e (by simp)]
    simp only [Bool.not_false, if_true]
    exact dropWhile_nil fun e he => h e (by simp [he])

theorem UMode.settle {pan : Option AV} {u : FrameMode} (h : UMode ρ pan u) : LMode ρ pan (settle u) := by
  cases pan with
  | none =>
    rcases h with rfl | ⟨v, rest, rfl, hr⟩
    · rfl
    · show Go.settle (.panicking ({ v := v, recovered := true } :: rest)) = .returning
      simp only [Go.settle]
      rw [dropWhile_nil hr]
  | some a =>
    obtain ⟨c, rfl, y, rest, rfl, hv, hr⟩ := h
    exact ⟨_, rfl, y, rest, rfl, hv, hr⟩

theorem UMode.raise {u : FrameMode} (h : UMode ρ none u) {v : AV} {c : List PanicEntry} (hc : Chain ρ v c) : LMode ρ (some v) (raised u c) := by
  rcases h with rfl | ⟨x, rest, rfl, hr⟩
  · exact ⟨c, rfl, hc⟩
  · obtain ⟨y, rest', rfl, hv, hr'⟩ := hc
    refine ⟨_, rfl, y, rest' ++ ({ v := x, recovered := true } :: rest), rfl, hv, ?_⟩
    intro e he
    rcases List.mem_append.1 he with he | he
    · exact hr' e he
    · rcases List.mem_cons.1 he with rfl | he
      · rfl
      · exact hr e he

theorem DRel.nil_inv {w : World} {m : List Deferred} (h : DRel P ρ (fun _ => False) w [] m) : m = [] := by
  cases h with
  | nil => rfl
  | mark hb => exact hb.elim

theorem ended_some {f : Frm} {H H' : AH} {pan pan' : Option AV} {ok : Bool} (h : ended f H pan ok = some (pan', H')) : f.defers = [] ∧ ok = true ∧ pan' = pan ∧ H' = H := by
  obtain ⟨hc, h⟩ := cond_some h
  simp only [Bool.and_eq_true, List.isEmpty_iff] at hc
  cases h
  exact ⟨hc.1, hc.2, rfl, rfl⟩

theorem leaveOne_next {call : ACall} (hd : DrawOk P call) {g : FuncId} {as : List AV} {pan pan' : Option AV} {H H' : AH} (h : leaveOne P call g as pan H = some (pan', H')) : H.next ≤ H'.next := by
  unfold leaveOne at h
  split at h
  · cases h
  · split at h
    · cases h
    · unfold leftD at h
      split at h
      · rename_i hc; obtain ⟨_, _, _, rfl⟩ := ended_some h; exact codeD_next hd _ hc
      · rename_i hc; obtain ⟨_, _, _, rfl⟩ := ended_some h; exact codeD_next hd _ hc
      · rename_i hc; obtain ⟨_, _, _, rfl⟩ := ended_some h; exact codeD_next hd _ hc
      · cases h

/-- What is asked of a call that was put off. -/
def LeftR (P : Program) (ρ : Map) (H : AH) (w : World) (pan' : Option AV) (H' : AH) : Ending → FrameMode → World → Prop
  | .returned _, u', w' => ∃ ρ', Stp P ρ H w ρ' H' w' ∧ LMode ρ' pan' (settle u')
  | .panicked c, u', w' => ∃ ρ', Stp P ρ H w ρ' H' w' ∧ LMode ρ' pan' (raised u' c)
  | .outgrown, _, _ => False

theorem leaveOne_ok {call : ACall} (hd : DrawOk P call) {g : FuncId} {as : List AV} {pan pan' : Option AV} {H H' : AH} (h : leaveOne P call g as pan H = some (pan', H')) {xs : Array Value} {u : FrameMode}
    (hi : Inv P ρ H w) (hx : VRels ρ as xs.toList) (hu : UMode ρ pan u) (hf : Free ρ H H') :
    CallsDIn Fence.wide 0 P g xs u w (LeftR P ρ H w pan' H') := by
  unfold leaveOne at h
  split at h
  · cases h
  · rename_i fn hfn
    split at h
    · cases h
    · rename_i c hbody
      have hres : fn.results.toList.isEmpty = true → ∀ (tmps : Array Value) (w : World), (results fn tmps).run P w = .ok (.tuple #[]) w := by
        intro he tmps w
        have : fn.results = #[] := by simpa using he
        simp [results, this]
      refine callsDIn_of_wpSIn hfn hbody trivial fun c₀ cs hc0 => ?_
      have hc0' : ({ c₀ with mode := u } : Frame) = c₀ := by subst hc0; rfl
      have hfr := enter_ok (P := P) (w := w) (base := fun _ => False) (fn := fn) hx
      unfold leftD at h
      split at h
      · rename_i f' H1 pan1 hc
        obtain ⟨hdf, hok, rfl, rfl⟩ := ended_some h
        have := codeD_ok hd (base := fun _ => False) c₀ cs c hc hi hfr hu hf (Q := bodyPostS P fn c₀ cs (LeftR P ρ H w _ _)) (fun ρ' e a' w' u' hs hfr' hxr hu' => by
          cases hxr
          have hd' := hfr'.defers
          rw [hdf] at hd'
          exact ⟨hd'.nil_inv, u', rfl, _, hres hok _ _, ⟨ρ', hs, hu'.settle⟩⟩)
        rw [hc0'] at this
        exact this
      · rename_i f' H1 pan1 hc
        obtain ⟨hdf, hok, rfl, rfl⟩ := ended_some h
        have := codeD_ok hd (base := fun _ => False) c₀ cs c hc hi hfr hu hf (Q := bodyPostS P fn c₀ cs (LeftR P ρ H w _ _)) (fun ρ' e a' w' u' hs hfr' hxr hu' => by
          cases hxr
          have hd' := hfr'.defers
          rw [hdf] at hd'
          exact ⟨hd'.nil_inv, u', rfl, _, hres hok _ _, ⟨ρ', hs, hu'.settle⟩⟩)
        rw [hc0'] at this
        exact this
      · rename_i v f' H1 hc
        obtain ⟨hdf, hok, rfl, rfl⟩ := ended_some h
        have := codeD_ok hd (base := fun _ => False) c₀ cs c hc hi hfr hu hf (Q := bodyPostS P fn c₀ cs (LeftR P ρ H w _ _)) (fun ρ' e a' w' u' hs hfr' hxr hu' => by
          cases hxr with
          | pan hch =>
            have hd' := hfr'.defers
            rw [hdf] at hd'
            exact ⟨hd'.nil_inv, u', rfl, ⟨ρ', hs, hu'.raise hch⟩⟩)
        rw [hc0'] at this
        exact this
      · cases h

theorem leaveA_next {call : ACall} (hd : DrawOk P call) : ∀ {l : List (FuncId × List AV)} {pan pan' : Option AV} {H H' : AH}, leaveA P call l pan H = some (pan', H') → H.next ≤ H'.next := by
  intro l
  induction l with
  | nil => intro pan pan' H H' h; simp only [leaveA, Option.some.injEq, Prod.mk.injEq] at h; rw [h.2]; exact Nat.le_refl _
  | cons x l ih =>
    intro pan pan' H H' h
    obtain ⟨g, as⟩ := x
    unfold leaveA at h
    split at h
    · rename_i h1; exact Nat.le_trans (leaveOne_next hd h1) (ih h)
    · cases h

theorem giveA_heap {f : Frm} {rs : List ResultVar} {x : Option (Option AV × AH)} {r : CRes} (h : giveA P f rs x = some r) : ∃ pan H, x = some (pan, H) ∧ r.heap = H := by
  unfold giveA at h
  split at h
  · rename_i H
    split at h
    · cases h; exact ⟨_, H, rfl, rfl⟩
    · cases h
  · cases h; exact ⟨_, _, rfl, rfl⟩
  · cases h

/-- What a frame leaves behind: its deferred calls, what it returns. -/
theorem leave_ok {call : ACall} (hd : DrawOk P call) {fn : Func} {f : Frm} {tmps : Array Value} {ρ0 : Map} {H0 : AH} {w0 : World} {r : CRes} (hf0 : Free ρ0 H0 r.heap) (m : List Deferred) :
    ∀ {l : List (FuncId × List AV)} {pan : Option AV} {H : AH}, giveA P f fn.results.toList (leaveA P call l pan H) = some r → ∀ {ρ : Map} {w : World} {u : FrameMode}, Stp P ρ0 H0 w0 ρ H w →
      DRel P ρ (w0.heap.size ≤ ·) w l m → LMode ρ pan u → (∀ t, VRel ρ (f.slot t) (tmps.getD t undef)) → LeavesInM Fence.wide 0 P fn tmps (CRel P ρ0 H0 w0 r) m u w := by
  induction m with
  | nil =>
    intro l pan H h ρ w u hs hdr hu hsl
    cases hdr
    simp only [leaveA] at h
    unfold giveA at h
    split at h
    · rename_i H' heq
      simp only [Option.some.injEq, Prod.mk.injEq] at heq
      obtain ⟨rfl, rfl⟩ := heq
      split at h
      · rename_i v hv
        cases h
        obtain ⟨y, h1, h2⟩ := results_ok hs.inv hsl hv
        have hu : u = .returning := hu
        subst hu
        exact ⟨y, h1, .ret h2 hs⟩
      · cases h
    · rename_i v H' heq
      simp only [Option.some.injEq, Prod.mk.injEq] at heq
      obtain ⟨rfl, rfl⟩ := heq
      cases h
      obtain ⟨c, rfl, hc⟩ := hu
      exact CRel.pan hc hs
    · rename_i heq; cases heq
  | cons d ms ih =>
    intro l pan H h ρ w u hs hdr hu hsl
    have hrun : u ≠ .run := by
      cases pan with
      | none => have hu : u = .returning := hu; rw [hu]; intro e; cases e
      | some a => obtain ⟨c, rfl, _⟩ := hu; intro e; cases e
    cases hdr with
    | mark hb ho hn ht =>
      rename_i r0
      refine ⟨hrun, .inl ⟨r0, _, rfl, run_takeDeferred ho, ?_⟩⟩
      have hnr : NoRow (.deferred (some [])) := by intro _ _ _ e; cases e
      refine ih h (hs.later _ hb ho hnr) ?_ hu hsl
      -- the other marks stay
      have keep : ∀ {l : List (FuncId × List AV)} {m : List Deferred}, DRel P ρ (w0.heap.size ≤ ·) w l m → (∀ d ∈ m, d.target ≠ .collected r0) → DRel P ρ (w0.heap.size ≤ ·) (w.putObj r0 (.deferred none)) l m := by
        intro l m hdr
        induction hdr with
        | nil => intro _; exact .nil
        | mark hb' ho' hn' _ ih' =>
          intro hne
          refine .mark hb' ?_ hn' (ih' fun d hd => hne d (by simp [hd]))
          rw [World.putObj_heap_other]
          · exact ho'
          · intro e; subst e; exact hne _ List.mem_cons_self rfl
        | call hd' _ ih' => intro hne; exact .call hd' (ih' fun d hd => hne d (by simp [hd]))
      exact keep ht hn
    | call hdd ht =>
      rename_i g as l'
      obtain ⟨cap, args, rfl, hxs, fn', c', hfn, hbody, hname⟩ := hdd
      unfold leaveA at h
      split at h
      · rename_i pan1 H1 h1
        obtain ⟨pan2, H2, he, hr⟩ := giveA_heap h
        have hn1 := leaveOne_next hd h1
        have hn2 := leaveA_next hd he
        have hfr : Free ρ H r.heap := hf0.right hs
        have hf1 : Free ρ H H1 := hfr.left (by rw [hr]; exact hn2)
        have hname' : fn'.name ≠ "runtime.NumGoroutine" := by simpa using hname
        refine ⟨hrun, .inr ⟨fun h => by simp [Fence.wide] at h, .func g, cap, g, args ++ cap, rfl, ?_, fun _ _ => trivial, ?_⟩⟩
        · simp [invoke, callFunc, hfn, hname', hbody]
        · have := leaveOne_ok hd h1 (w := w) (u := u) hs.inv hxs hu.umode hf1
          refine CallsDIn.mono this fun e u' w' hh => ?_
          have step : ∀ {ρ' : Map} {u'' : FrameMode}, Stp P ρ H w ρ' H1 w' → LMode ρ' pan1 u'' → LeavesInM Fence.wide 0 P fn tmps (CRel P ρ0 H0 w0 r) ms u'' w' := by
            intro ρ' u'' hs' hl
            refine ih h (hs.trans hs' (hf0.left (by rw [hr]; exact hn2))) ?_ hl (fun t => (hsl t).mono (hs'.le hf1))
            exact ht.mono (hs'.le hf1) fun r hr => hs'.object hs.inv hr (by intro _ _ _ e; cases e)
          cases e with
          | returned v => obtain ⟨ρ', h1, h2⟩ := hh; exact step h1 h2
          | panicked c => obtain ⟨ρ', h1, h2⟩ := hh; exact step h1 h2
          | outgrown => exact hh.elim
      · cases h

theorem endA_next {call : ACall} (hd : DrawOk P call) {rs : List ResultVar} {x : AX} {f : Frm} {H : AH} {r : CRes} (h : endA P call rs (some (x, f, H)) = some r) : H.next ≤ r.heap.next := by
  have key : ∀ {pan : Option AV}, giveA P f rs (leaveA P call f.defers pan H) = some r → H.next ≤ r.heap.next := by
    intro pan h
    obtain ⟨pan', H', he, hr⟩ := giveA_heap h
    rw [hr]; exact leaveA_next hd he
  cases x with
  | normal => exact key h
  | ret => exact key h
  | pan v => exact key h
  | exit id => cases h

theorem callStep_ok {call : ACall} (hc : CallOk P call) (hd : DrawOk P call) (L : Nat) : CallOk P (callStep P L call) where
  next := fun g args y H r h hm => by
    unfold callStep at h
    split at h
    · cases h
    · unfold bodyA at h
      split at h
      · cases h
      · rename_i c _
        generalize hres : codeA P call L c y (enterA _ args) H = res at h
        cases res with
        | none => cases h
        | some z =>
          obtain ⟨x, f, H'⟩ := z
          exact Nat.le_trans ((codeA_ok hc hd L c y).next hm _ _ _ _ _ hres) (endA_next hd h)
  ok := fun g args y H r h ρ w xs hi hx hy hm hf => by
    unfold callStep at h
    split at h
    · cases h
    · rename_i fn hfn
      unfold bodyA at h
      split at h
      · cases h
      · rename_i c hbody
        generalize hres : codeA P call L c y (enterA fn args) H = res at h
        cases res with
        | none => cases h
        | some z =>
          obtain ⟨x, f, H'⟩ := z
          have hn := endA_next hd h
          refine callsIn_of_wp_marks hfn hbody trivial ?_
          refine (codeA_ok hc hd L c y).ok hm _ _ _ _ _ hres (w.heap.size ≤ ·) none ρ _ w hi (fun _ h => h) (enter_ok hx) hy (hf.left hn) _ fun e a' w' hp => ?_
          obtain ⟨ρ', hs, hfr', hxr⟩ := hp
          cases hxr with
          | normal => exact leave_ok hd hf a'.defers h hs hfr'.defers rfl hfr'.slots
          | ret => exact leave_ok hd hf a'.defers h hs hfr'.defers rfl hfr'.slots
          | pan hch => exact leave_ok hd hf a'.defers h hs hfr'.defers ⟨_, rfl, hch⟩ hfr'.slots
          | exit id => cases h

def PrimOk (P : Program) (prim : ACall) : Prop :=
  (∀ g args y H r, prim g args y H = some r → YMono y → H.next ≤ r.heap.next) ∧
  (∀ g args y H r, prim g args y H = some r → ∀ (ρ : Map) (w : World) (xs : Array Value), Inv P ρ H w → VRels ρ args xs.toList → YOk P ρ y w → YMono y → Free ρ H r.heap → CallsIn Fence.wide 0 P g xs w (CRel P ρ H w r))

theorem callA_zero (prim : ACall) (L : Nat) : callA P prim L 0 = fun _ _ _ _ => none := rfl
theorem callA_succ (prim : ACall) (L n : Nat) (g : FuncId) (args : List AV) (y : Option (Nat × Yld)) (H : AH) : callA P prim L (n + 1) g args y H =
    primOr (prim g args y H) (callStep P L (callA P prim L n) g args y H) := rfl

theorem callA_ok {prim : ACall} (hp : PrimOk P prim) (hD : ∀ call, CallOk P call → DrawOk P call) (L n : Nat) : CallOk P (callA P prim L n) := by
  induction n with
  | zero => exact ⟨(fun _ _ _ _ _ h => by cases h), (fun _ _ _ _ _ h => by cases h)⟩
  | succ n ih =>
    have hs := callStep_ok ih (hD _ ih) L
    refine ⟨fun g args y H r h hm => ?_, fun g args y H r h ρ w xs hi hx hy hm hf => ?_⟩
    · rw [callA_succ] at h
      cases hg : prim g args y H with
      | none => rw [hg] at h; exact hs.next g args y H r h hm
      | some q => rw [hg] at h; cases h; exact hp.1 g args y H _ hg hm
    · rw [callA_succ] at h
      cases hg : prim g args y H with
      | none => rw [hg] at h; exact hs.ok g args y H r h ρ w xs hi hx hy hm hf
      | some q => rw [hg] at h; cases h; exact hp.2 g args y H _ hg ρ w xs hi hx hy hm hf

end Go.Am

/-
  The abstract machine's code, held against the model's: sequences, branches, loops, a range over a function. 'DrawOk': the same of a region that draws its order (SurdAmDraw).
-/
import Derived.Test.YtciblegjpgpbfaaGreatDoorAmObj
namespace Go.Am
open Go

variable {P : Program} {ρ : Map} {H : AH} {w : World}

/-- A piece of code, run by the one machine and by the other. -/
structure RunOk (P : Program) (c : Code) (y : Option (Nat × Yld)) (run : Frm → AH → Out) : Prop where
  next : YMono y → ∀ f H x f' H', run f H = some (x, f', H') → H.next ≤ H'.next
  ok : YMono y → ∀ f H x f' H', run f H = some (x, f', H') → ∀ (base : Nat → Prop) (ro : Option Nat) (ρ : Map) (a : Act) (w : World), Inv P ρ H w → (∀ r, w.heap.size ≤ r → base r) → FR P ρ base ro f a w → YOk P ρ y w → Free ρ H H' →
    ∀ (Q : Exit → Act → World → Prop), (∀ e a' w', Post P ρ H w base ro x f' H' e a' w' → Q e a' w') → c.wpIn (FW ro) 0 P Q a w

/-- A region: no mark is laid. -/
structure RegOk (P : Program) (c : Code) (y : Option (Nat × Yld)) (run : Frm → AH → Out) : Prop where
  next : YMono y → ∀ f H x f' H', run f H = some (x, f', H') → H.next ≤ H'.next
  ok : YMono y → ∀ f H x f' H', run f H = some (x, f', H') → ∀ (base : Nat → Prop) (ro : Option Nat) (ρ : Map) (a : Act) (w : World), Inv P ρ H w → FR P ρ base ro f a w → YOk P ρ y w → Free ρ H H' →
    ∀ (Q : Exit → Act → World → Prop), (∀ e a' w', Post P ρ H w base ro x f' H' e a' w' → Q e a' w') → c.wpIn (FW ro) 0 P Q a w
theorem RegOk.run {c : Code} {y : Option (Nat × Yld)} {run : Frm → AH → Out} (h : RegOk P c y run) : RunOk P c y run :=
  ⟨h.next, fun hm f H x f' H' hr base ro ρ a w hi _ hfr hy hf Q hQ => h.ok hm f H x f' H' hr base ro ρ a w hi hfr hy hf Q hQ⟩

def DrawOk (P : Program) (call : ACall) : Prop := ∀ (id : Nat) (ops : Array Oper) (y : Option (Nat × Yld)), RegOk P (.region id ops true) y (regionA P call y ops true)

theorem RunOk.skip {y : Option (Nat × Yld)} : RunOk P .skip y (fun f H => some (.normal, f, H)) where
  next := fun _ f H x f' H' h => by cases h; exact Nat.le_refl _
  ok := fun _ f H x f' H' h base ro ρ a w hi _ hfr _ _ Q hQ => by cases h; exact wpIn_skip (hQ _ _ _ ⟨ρ, Stp.refl hi, hfr, .normal⟩)

theorem RunOk.label {l : Nat} {y : Option (Nat × Yld)} : RunOk P (.label l) y (fun f H => some (.normal, f, H)) where
  next := fun _ f H x f' H' h => by cases h; exact Nat.le_refl _
  ok := fun _ f H x f' H' h base ro ρ a w hi _ hfr _ _ Q hQ => by cases h; exact wpIn_label (hQ _ _ _ ⟨ρ, Stp.refl hi, hfr, .normal⟩)

theorem RunOk.exit {id : Nat} {y : Option (Nat × Yld)} : RunOk P (.exit id) y (fun f H => some (.exit id, f, H)) where
  next := fun _ f H x f' H' h => by cases h; exact Nat.le_refl _
  ok := fun _ f H x f' H' h base ro ρ a w hi _ hfr _ _ Q hQ => by cases h; exact wpIn_exit (hQ _ _ _ ⟨ρ, Stp.refl hi, hfr, .exit _⟩)

theorem RunOk.ret {y : Option (Nat × Yld)} : RunOk P .ret y (fun f H => some (.ret, f, H)) where
  next := fun _ f H x f' H' h => by cases h; exact Nat.le_refl _
  ok := fun _ f H x f' H' h base ro ρ a w hi _ hfr _ _ Q hQ => by cases h; exact wpIn_ret (hQ _ _ _ ⟨ρ, Stp.refl hi, hfr, .ret⟩)

theorem RunOk.never {c : Code} {y : Option (Nat × Yld)} : RunOk P c y (fun _ _ => none) where
  next := fun _ f H x f' H' h => by cases h
  ok := fun _ f H x f' H' h => by cases h

theorem RegOk.region {call : ACall} (hc : CallOk P call) {id : Nat} {ops : Array Oper} {y : Option (Nat × Yld)} : RegOk P (.region id ops false) y (regionA P call y ops false) where
  next := fun hm f H x f' H' h => regA_next hc hm _ h
  ok := fun hm f H x f' H' h base ro ρ a w hi hfr hy hf Q hQ => by
    refine wpIn_region ?_
    have := regA_ok hc hm (ops := ops) (base := base) (ro := ro) ops.toList 0 rfl h hi hfr hy hf hQ
    rw [List.range_eq_range']
    simpa using this

/-- Behind a piece that has ended as it should. -/
theorem RunOk.andThen {c : Code} {y : Option (Nat × Yld)} {run : Frm → AH → Out} (hr : RunOk P c y run) {k : Frm → AH → Out} (hm : YMono y) {f f' : Frm} {H H' : AH} {x : AX} (h : loopNext k (run f H) = some (x, f', H'))
    (hk : ∀ f1 H1, k f1 H1 = some (x, f', H') → H1.next ≤ H'.next) {base : Nat → Prop} {ro : Option Nat} {a : Act} (hi : Inv P ρ H w) (hb : ∀ r, w.heap.size ≤ r → base r) (hfr : FR P ρ base ro f a w) (hy : YOk P ρ y w) (hf : Free ρ H H')
    {K : Act → World → Prop} {Q : Exit → Act → World → Prop} (hQ : ∀ e a' w', Post P ρ H w base ro x f' H' e a' w' → Q e a' w')
    (hK : ∀ f1 H1 ρ1 a1 w1, k f1 H1 = some (x, f', H') → Stp P ρ H w ρ1 H1 w1 → FR P ρ1 base ro f1 a1 w1 → YOk P ρ1 y w1 → (∀ r, w1.heap.size ≤ r → base r) → Free ρ1 H1 H' → K a1 w1) :
    c.wpIn (FW ro) 0 P (Exit.then K Q) a w := by
  unfold loopNext at h
  split at h
  · rename_i f1 H1 hrun
    have hn := hk _ _ h
    refine hr.ok hm _ _ _ _ _ hrun base ro ρ a w hi hb hfr hy (hf.left hn) _ fun e a' w' hp => ?_
    obtain ⟨ρ1, hs, hfr1, hx⟩ := hp
    cases hx
    exact hK f1 H1 ρ1 a' w' h hs hfr1 (hy.step hi hs (hf.left hn)) (fun r hr => hb r (Nat.le_trans hs.size hr)) (hf.right hs)
  · rename_i hne
    refine hr.ok hm _ _ _ _ _ h base ro ρ a w hi hb hfr hy hf _ fun e a' w' hp => ?_
    obtain ⟨ρ1, hs, hfr1, hx⟩ := hp
    cases hx with
    | normal => exact absurd h (hne _ _)
    | exit id => exact hQ _ _ _ ⟨ρ1, hs, hfr1, .exit id⟩
    | ret => exact hQ _ _ _ ⟨ρ1, hs, hfr1, .ret⟩
    | pan hch => exact hQ _ _ _ ⟨ρ1, hs, hfr1, .pan hch⟩

theorem loopNext_next {run k : Frm → AH → Out} {f f' : Frm} {H H' : AH} {x : AX} (h : loopNext k (run f H) = some (x, f', H')) (hr : ∀ f H x f' H', run f H = some (x, f', H') → H.next ≤ H'.next)
    (hk : ∀ f1 H1, k f1 H1 = some (x, f', H') → H1.next ≤ H'.next) : H.next ≤ H'.next := by
  unfold loopNext at h
  split at h
  · rename_i f1 H1 hrun; exact Nat.le_trans (hr _ _ _ _ _ hrun) (hk _ _ h)
  · exact hr _ _ _ _ _ h

theorem RunOk.seq {a b : Code} {y : Option (Nat × Yld)} {ra rb : Frm → AH → Out} (ha : RunOk P a y ra) (hb : RunOk P b y rb) : RunOk P (.seq a b) y (fun f H => loopNext rb (ra f H)) where
  next := fun hm f H x f' H' h => loopNext_next h (fun f H x f' H' h => ha.next hm _ _ _ _ _ h) (fun f1 H1 h => hb.next hm _ _ _ _ _ h)
  ok := fun hm f H x f' H' h base ro ρ a w hi hbs hfr hy hf Q hQ => by
    refine wpIn_seq (ha.andThen hm h (fun f1 H1 h => hb.next hm _ _ _ _ _ h) hi hbs hfr hy hf hQ ?_)
    intro f1 H1 ρ1 a1 w1 h1 hs hfr1 hy1 hb1 hf1
    exact hb.ok hm _ _ _ _ _ h1 base ro ρ1 a1 w1 hs.inv hb1 hfr1 hy1 hf1 Q fun e a' w' hp => hQ _ _ _ (hp.before hs hf)

theorem RunOk.cond {c : Operand} {a b : Code} {y : Option (Nat × Yld)} {ra rb : Frm → AH → Out} (ha : RunOk P a y ra) (hb : RunOk P b y rb) : RunOk P (.cond c a b) y (fun f H => condA (f.eval P c) ra rb f H) where
  next := fun hm f H x f' H' h => by
    unfold condA at h
    split at h
    · rename_i t _
      cases t
      · exact hb.next hm _ _ _ _ _ h
      · exact ha.next hm _ _ _ _ _ h
    · cases h
  ok := fun hm f H x f' H' h base ro ρ a w hi hbs hfr hy hf Q hQ => by
    unfold condA at h
    split at h
    · rename_i t ht
      have he := hfr.eval hi c
      rw [ht] at he
      have hc : a.eval c = .bool t := by
        generalize a.eval c = z at he
        cases he; rfl
      refine wpIn_cond hc ?_
      cases t
      · exact hb.ok hm _ _ _ _ _ h base ro ρ a w hi hbs hfr hy hf Q hQ
      · exact ha.ok hm _ _ _ _ _ h base ro ρ a w hi hbs hfr hy hf Q hQ
    · cases h

theorem RunOk.block {id : Nat} {a : Code} {y : Option (Nat × Yld)} {ra : Frm → AH → Out} (ha : RunOk P a y ra) : RunOk P (.block id a) y (fun f H => blockA id (ra f H)) where
  next := fun hm f H x f' H' h => by
    unfold blockA at h
    split at h
    · rename_i id' f1 H1 hr
      rcases cond_cases h with h | h <;> (cases h; exact ha.next hm _ _ _ _ _ hr)
    · exact ha.next hm _ _ _ _ _ h
  ok := fun hm f H x f' H' h base ro ρ a w hi hbs hfr hy hf Q hQ => by
    refine wpIn_block ?_
    unfold blockA at h
    split at h
    · rename_i id' f1 H1 hr
      cases hid : Nat.beq id' id with
      | true =>
        rw [hid] at h
        cases h
        have := Nat.eq_of_beq_eq_true hid
        subst this
        refine ha.ok hm _ _ _ _ _ hr base ro ρ a w hi hbs hfr hy hf _ fun e a' w' hp => ?_
        obtain ⟨ρ1, hs, hfr1, hx⟩ := hp
        cases hx
        simp only [Exit.inBlock, if_true]
        exact hQ _ _ _ ⟨ρ1, hs, hfr1, .normal⟩
      | false =>
        rw [hid] at h
        cases h
        have hne : id' ≠ id := fun e => by rw [e, Nat.beq_refl] at hid; cases hid
        refine ha.ok hm _ _ _ _ _ hr base ro ρ a w hi hbs hfr hy hf _ fun e a' w' hp => ?_
        obtain ⟨ρ1, hs, hfr1, hx⟩ := hp
        cases hx
        simp only [Exit.inBlock, if_neg hne]
        exact hQ _ _ _ ⟨ρ1, hs, hfr1, .exit _⟩
    · rename_i hne
      refine ha.ok hm _ _ _ _ _ h base ro ρ a w hi hbs hfr hy hf _ fun e a' w' hp => ?_
      obtain ⟨ρ1, hs, hfr1, hx⟩ := hp
      cases hx with
      | normal => exact hQ _ _ _ ⟨ρ1, hs, hfr1, .normal⟩
      | exit id' => exact absurd h (hne _ _ _)
      | ret => exact hQ _ _ _ ⟨ρ1, hs, hfr1, .ret⟩
      | pan hch => exact hQ _ _ _ ⟨ρ1, hs, hfr1, .pan hch⟩

theorem RunOk.loop {c : Code} {y : Option (Nat × Yld)} {ra : Frm → AH → Out} (ha : RunOk P c y ra) (L : Nat) : RunOk P (.loop c) y (fun f H => loopA ra L f H) where
  next := fun hm => by
    have : ∀ n f H x f' H', loopA ra n f H = some (x, f', H') → H.next ≤ H'.next := by
      intro n
      induction n with
      | zero => intro f H x f' H' h; cases h
      | succ n ih => intro f H x f' H' h; rw [loopA_succ] at h; exact loopNext_next h (fun f H x f' H' h => ha.next hm _ _ _ _ _ h) (fun f1 H1 h => ih _ _ _ _ _ h)
    exact fun f H x f' H' h => this L f H x f' H' h
  ok := fun hm f H x f' H' h base ro ρ a w hi hbs hfr hy hf Q hQ => by
    have hnext : ∀ n f H x f' H', loopA ra n f H = some (x, f', H') → H.next ≤ H'.next := by
      intro n
      induction n with
      | zero => intro f H x f' H' h; cases h
      | succ n ih => intro f H x f' H' h; rw [loopA_succ] at h; exact loopNext_next h (fun f H x f' H' h => ha.next hm _ _ _ _ _ h) (fun f1 H1 h => ih _ _ _ _ _ h)
    refine wpIn_loop_rounds L ?_
    have key : ∀ n f H (ρ : Map) (a : Act) (w : World), loopA ra n f H = some (x, f', H') → Inv P ρ H w → (∀ r, w.heap.size ≤ r → base r) → FR P ρ base ro f a w → YOk P ρ y w → Free ρ H H' →
        (∀ e a' w', Post P ρ H w base ro x f' H' e a' w' → Q e a' w') → Code.roundsIn (FW ro) 0 P c Q n a w := by
      intro n
      induction n with
      | zero => intro f H ρ a w h; cases h
      | succ n ih =>
        intro f H ρ a w h hi hbs hfr hy hf hQ
        rw [loopA_succ] at h
        rw [roundsIn_succ]
        refine ha.andThen hm h (fun f1 H1 h => hnext _ _ _ _ _ _ h) hi hbs hfr hy hf hQ ?_
        intro f1 H1 ρ1 a1 w1 h1 hs hfr1 hy1 hb1 hf1
        exact ih f1 H1 ρ1 a1 w1 h1 hs.inv hb1 hfr1 hy1 hf1 fun e a' w' hp => hQ _ _ _ (hp.before hs hf)
    exact key L f H ρ a w h hi hbs hfr hy hf hQ


/-! ### A range over a function -/
theorem roundA_some {ps : List Nat} {ra rb : Frm → AH → Out} {f : Frm} {args : List AV} {H H2 : AH} (h : roundA ps ra rb f args H = some H2) :
    args.length = ps.length ∧ ∃ f1 H1 f2, ra (putAll { f with defers := [], rd := true } ps args) H = some (.normal, f1, H1) ∧ rb f1 H1 = some (.normal, f2, H2) ∧ f2.defers = [] := by
  obtain ⟨hl, h⟩ := cond_some h
  refine ⟨Nat.eq_of_beq_eq_true hl, ?_⟩
  unfold roundBody at h
  split at h
  · rename_i f1 H1 h1
    split at h
    · rename_i f2 H3 h2
      obtain ⟨he, h⟩ := cond_some h
      cases h
      exact ⟨f1, H1, f2, h1, h2, by simpa using he⟩
    · cases h
  · cases h

theorem round_next {a b : Code} {ps : List Nat} {ra rb : Frm → AH → Out} (ha : RunOk P a none ra) (hb : RunOk P b none rb) {f : Frm} {k : Nat} : YMono (some (k, roundA ps ra rb f)) := by
  intro k' h e args H H' hh
  cases e
  obtain ⟨_, f1, H1, f2, h1, h2, _⟩ := roundA_some hh
  exact Nat.le_trans (ha.next YMono.none _ _ _ _ _ h1) (hb.next YMono.none _ _ _ _ _ h2)

theorem zip_fold (ps : Array Tmp) (xs : Array Value) (ts : Array Value) :
    (ps.zip xs).foldl (fun tmps (x : Nat × Value) => tmps.setIfInBounds x.1 x.2) ts = (ps.toList.zip xs.toList).foldl (fun tmps (x : Nat × Value) => tmps.setIfInBounds x.1 x.2) ts := by
  rw [← Array.foldl_toList, Array.toList_zip]

/-- One round. -/
theorem round_ok {a b : Code} {ps : Array Tmp} {ra rb : Frm → AH → Out} (ha : RunOk P a none ra) (hb : RunOk P b none rb) {f : Frm} {act : Act} {base : Nat → Prop} {ro : Option Nat} {w0 : World} (hfr : FR P ρ base ro f act w0)
    {l : Nat} {fn : FuncId} {db : Nat} {args : List AV} {H1 H2 : AH} :
    YRound P ρ l { state := .ready, pending := none, fn := fn, tmps := act.tmps, params := ps, assign := a, body := b, defers := db } args H1 H2 (roundA ps.toList ra rb f) := by
  intro h σ w1 xs hle hi hx hl hf
  obtain ⟨hlen, f1, H1', f2, h1, h2, hd2⟩ := roundA_some h
  have hsz : xs.size = ps.size := by rw [← hx.size, hlen]; simp
  refine ⟨hsz, roundIn_of_wpIn trivial ?_⟩
  have hn1 := ha.next YMono.none _ _ _ _ _ h1
  have hn2 := hb.next YMono.none _ _ _ _ _ h2
  have hfr0 : FR P σ (fun _ => True) (some l) { n := f.n, rd := true, tmps := f.tmps, defers := [] } { tmps := act.tmps, defers := [] } w1 :=
    ⟨hfr.size, rfl, fun t => (hfr.slots t).mono hle, .nil, fun l' e => by cases e; exact ⟨_, hl⟩⟩
  have hfr1 := hfr0.putAll ps.toList hx
  rw [← zip_fold] at hfr1
  refine ha.ok YMono.none _ _ _ _ _ h1 (fun _ => True) (some l) σ _ w1 hi (fun _ _ => trivial) hfr1 YOk.none (hf.left hn2) _ fun e a1 w2 hp => ?_
  obtain ⟨σ1, hs1, hfr2, hx1⟩ := hp
  cases hx1
  have hl2 := hs1.object hi hl (by intro _ _ _ e; cases e)
  refine ⟨_, run_beginRound hl2 rfl, ?_⟩
  have hnr : ∀ r : Loop, NoRow (.loop r) := fun r => by intro _ _ _ e; cases e
  have hl3 : (w2.putObj l (.loop { state := .busy, pending := none, fn := fn, tmps := act.tmps, params := ps, assign := a, body := b, defers := db })).heap[l]? = some (.loop { state := .busy, pending := none, fn := fn, tmps := act.tmps, params := ps, assign := a, body := b, defers := db }) := World.putObj_heap_same (lt_of_get hl2)
  have hi3 := hs1.inv.putObj (.loop { state := .busy, pending := none, fn := fn, tmps := act.tmps, params := ps, assign := a, body := b, defers := db }) hl2 (hnr _)
  have hfr3 : FR P σ1 (fun _ => True) (some l) f1 a1 (w2.putObj l (.loop { state := .busy, pending := none, fn := fn, tmps := act.tmps, params := ps, assign := a, body := b, defers := db })) :=
    ⟨hfr2.size, hfr2.rd, hfr2.slots, hfr2.defers.mono (Map.le_refl _) (fun r hr => by
      by_cases e : r = l
      · subst e; rw [hl2] at hr; cases hr
      · rw [World.putObj_heap_other e]; exact hr), fun l' e => by cases e; exact ⟨_, hl3⟩⟩
  refine hb.ok YMono.none _ _ _ _ _ h2 (fun _ => True) (some l) σ1 a1 _ hi3 (fun _ _ => trivial) hfr3 YOk.none (hf.right hs1) _ fun e a2 w3 hp => ?_
  obtain ⟨σ2, hs2, hfr4, hx2⟩ := hp
  cases hx2
  have hl4 := hs2.object hi3 hl3 (hnr _)
  refine ⟨_, _, run_endRound none hl4, rfl, σ2, ?_⟩
  have hs2' := hs2.around hs1.inv hl2 (hnr _) (hnr _)
  exact hs1.trans hs2' hf

theorem RunOk.range {call : ACall} (hc : CallOk P call) {a b : Code} {g : Operand} {ps : Array Tmp} {ra rb : Frm → AH → Out} (ha : RunOk P a none ra) (hb : RunOk P b none rb) {y : Option (Nat × Yld)} :
    RunOk P (.rangeFunc g ps a b) y (fun f H => rangeA P call (f.eval P g) ps.toList ra rb f H) where
  next := fun hm f H x f' H' h => by
    unfold rangeA at h
    split at h
    · split at h
      · rename_i h' args H1 hcf
        have h1 := callFn_next hcf
        unfold rangeEnd at h
        split at h
        · rename_i hcall
          cases h
          have h2 := hc.next _ _ _ _ _ hcall (round_next ha hb)
          simp only [ONext.heap, CRes.heap] at h1 h2
          omega
        · cases h
      · cases h
    · cases h
  ok := fun hm f H x f' H' h base ro ρ act w hi hbs hfr hy hf Q hQ => by
    unfold rangeA at h
    split at h
    case h_2 => cases h
    rename_i h0 cap hg
    split at h
    case h_2 => cases h
    rename_i h' args H1 hcf
    unfold rangeEnd at h
    split at h
    case h_2 => cases h
    rename_i v H2 hcall
    cases h
    have hn1 := callFn_next hcf
    have hn2 := hc.next _ _ _ _ _ hcall (round_next ha hb)
    simp only [ONext.heap, CRes.heap] at hn1 hn2
    have hfk : ρ H.next = none := hf _ (Nat.le_refl _) (by omega)
    have hev := hfr.eval hi g
    rw [hg] at hev
    obtain ⟨first, captured, hgv, hfirst, hcap⟩ : ∃ first captured, act.eval g = .func (.func h0) first captured ∧ first = #[] ∧ VRels ρ cap captured.toList := by
      generalize act.eval g = z at hev
      cases hev with
      | fn h1 h2 => exact ⟨_, _, rfl, by simpa using h1.nil_inv, h2⟩
    subst hfirst
    refine wpIn_rangeFunc fun fn _ => ?_
    -- the record
    obtain ⟨l, mark, w1, db, hent, hl, ⟨hsz, hio⟩, hlsz, hold, hlo, hmark⟩ : ∃ (l : Nat) (mark : List Deferred) (w1 : World) (db : Nat), (Instr.enterLoop fn act.tmps ps a b (FW ro).round).run P w = .ok (l, mark) w1 ∧
        w1.heap[l]? = some (.loop { state := .ready, pending := none, fn := fn, tmps := act.tmps, params := ps, assign := a, body := b, defers := db }) ∧ (w.heap.size ≤ w1.heap.size ∧ Io w w1) ∧ l < w1.heap.size ∧
        (∀ k, k < w.heap.size → w1.heap[k]? = w.heap[k]?) ∧ w.heap.size ≤ l ∧
        (mark = [] ∨ ∃ r, w.heap.size ≤ r ∧ r ≠ l ∧ w1.heap[r]? = some (.deferred (some [])) ∧ mark = [{ target := .collected r, args := #[] }]) := by
      cases ro with
      | none =>
        refine ⟨_, _, _, w.heap.size, run_enterLoop_outer fn act.tmps ps a b, ?_, ?_, ?_, ?_, ?_, .inr ⟨w.heap.size, Nat.le_refl _, by omega, ?_, rfl⟩⟩
        · have := World.alloc_heap_new (w.alloc (.deferred (some []))) (.loop { state := .ready, pending := none, fn := fn, tmps := act.tmps, params := ps, assign := a, body := b, defers := w.heap.size })
          rw [World.size_alloc] at this
          exact this
        · exact ⟨by rw [World.size_alloc, World.size_alloc]; omega, rfl, rfl⟩
        · rw [World.size_alloc, World.size_alloc]; omega
        · intro k hk
          show ((w.heap.push _).push _)[k]? = _
          rw [Array.getElem?_push, if_neg (by simp; omega), Array.getElem?_push, if_neg (by omega)]
        · omega
        · show ((w.heap.push _).push _)[w.heap.size]? = _
          rw [Array.getElem?_push, if_neg (by simp), Array.getElem?_push, if_pos rfl]
      | some l0 =>
        obtain ⟨r0, hr0⟩ := hfr.round l0 rfl
        refine ⟨w.heap.size, [], w.alloc (.loop { state := .ready, pending := none, fn := fn, tmps := act.tmps, params := ps, assign := a, body := b, defers := r0.defers }), r0.defers, ?_, World.alloc_heap_new _ _, ?_, ?_, ?_, Nat.le_refl _, .inl rfl⟩
        · unfold Instr.enterLoop
          simp only [Sem.run_bind, run_getLoop hr0, run_newObj_alloc, Result.andThen, Sem.run_pure]
        · exact ⟨by rw [World.size_alloc]; omega, rfl, rfl⟩
        · rw [World.size_alloc]; omega
        · intro k hk
          show (w.heap.push _)[k]? = _
          rw [Array.getElem?_push, if_neg (by omega)]
    have hnr : ∀ r : Loop, NoRow (.loop r) := fun r => by intro _ _ _ e; cases e
    have hs1 := Stp.named hi hfk hsz hold (loc := ⟨l, 0, 0⟩) hlsz hio
    have hle1 := Map.le_upd ρ (⟨l, 0, 0⟩ : Loc) hfk
    have hfr1 : FR P (ρ.upd H.next ⟨l, 0, 0⟩) base ro f act w1 := hfr.step hi hs1 (hf.left (by show H.next + 1 ≤ _; omega))
    have hf1 : Free (ρ.upd H.next ⟨l, 0, 0⟩) { next := H.next + 1, m := H.m } H' := hf.right hs1
    have hargs : VRels (ρ.upd H.next ⟨l, 0, 0⟩) (AV.fn (.yield H.next) [] [] :: cap) (#[] ++ #[Value.func (.yield l) #[] #[]] ++ captured).toList := by
      simp only [Array.toList_append, List.nil_append, List.cons_append]
      exact .cons (.yield (l := ⟨l, 0, 0⟩) (Map.upd_same _ _ _)) (hcap.mono hle1)
    have hcf' := callFn_ok (w := w1) hs1.inv hcf hargs (hf1.left hn2)
    generalize hres : (callFunc h0 (#[] ++ #[Value.func (.yield l) #[] #[]] ++ captured)).run P w1 = res at hcf'
    cases hcf' with
    | enter hx hfn hbody =>
      rename_i xs fnn cc
      refine ⟨l, mark, w1, { target := .fn (.func h0) captured, args := #[] ++ #[Value.func (.yield l) #[] #[]] }, w1, h', xs, w1, hent, ?_, fun _ _ => trivial, ?_, (fun h => by cases h), ?_⟩
      · have hcv : act.eval (.const (.func (.yield l) #[] #[])) = .func (.yield l) #[] #[] := rfl
        simp [resolve, hgv, Deferred.ofValue, hcv]
      · exact hres
      · have hyok : YOk P (ρ.upd H.next ⟨l, 0, 0⟩) (some (H.next, roundA ps.toList ra rb f)) w1 := by
          intro k h e
          cases e
          exact ⟨⟨l, 0, 0⟩, _, Map.upd_same _ _ _, hl, fun args H1 H2 => round_ok ha hb hfr1⟩
        refine callsIn_fw (CallsIn.mono (hc.ok _ _ _ _ _ hcall _ w1 _ hs1.inv hx hyok (round_next ha hb) hf1) fun e w3 hh => ?_)
        cases hh with
        | ret hv hs2 =>
          rename_i yv ρ'
          have hl3 := hs2.object hs1.inv hl (hnr _)
          refine ⟨none, _, run_endLoop hl3 (by intro e; cases e), ?_⟩
          refine hQ _ _ _ ⟨ρ', ?_, ?_, .normal⟩
          · exact (hs1.trans hs2 hf).later _ hlo hl3 (hnr _)
          · have hle2 := hs2.le hf1
            refine ⟨hfr.size, hfr.rd, fun t => (hfr1.slots t).mono hle2, ?_, ?_⟩
            · have hd := hfr.defers.mono (w' := w3.putObj l (.loop { state := .exhausted, pending := none, fn := fn, tmps := act.tmps, params := ps, assign := a, body := b, defers := db })) (Map.le_trans hle1 hle2) (fun r hr => by
                have hlt := lt_of_get hr
                rw [World.putObj_heap_other (by omega)]
                exact hs2.object hs1.inv (by rw [hold _ hlt]; exact hr) (by intro _ _ _ e; cases e))
              rcases hmark with rfl | ⟨r, hr1, hr2, hr3, rfl⟩
              · exact hd
              · refine .mark (hbs r hr1) ?_ ?_ hd
                rw [World.putObj_heap_other hr2]
                · exact hs2.object hs1.inv hr3 (by intro _ _ _ e; cases e)
                · intro d hd' e
                  have := hfr.defers.marks d hd' r e
                  omega
            · intro l' e
              obtain ⟨r0, hr0⟩ := hfr.round l' e
              have hlt := lt_of_get hr0
              refine ⟨r0, ?_⟩
              rw [World.putObj_heap_other (by omega)]
              exact hs2.object hs1.inv (by rw [hold _ hlt]; exact hr0) (by intro _ _ _ e; cases e)

end Go.Am

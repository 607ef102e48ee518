/-
  A region that draws its order: the invariant between two operations, and how it is kept. No condition beyond the relation itself.
-/
import Derived.Test.YtciblegjpgpbfaaGreatDoorAmSim
namespace Go.Am
open Go

variable {P : Program}

/-- What holds between two operations. 'listed': what has been carried out. 'q': the place in the text whose heap it is. -/
structure SI (P : Program) (y : Option (Nat × Yld)) (ops : Array Oper) (f0 : Frm) (H0 : AH) (S : Nat → TS) (base : Nat → Prop) (ro : Option Nat) (ρ0 : Map) (w0 : World) (listed : Array Bool) (q : Nat) (ρ : Map) (f : Frm) (a : Act) (w : World) : Prop where
  size : listed.size = ops.size
  qle : q ≤ ops.size
  closed : ∀ (j : Nat) (o : Oper), listed[j]? = some true → ops[j]? = some o → ∀ k ∈ direct o, listed[k]? = some true
  below : ∀ (j : Nat) (o : Oper), j < q → ops[j]? = some o → acting P o = true → listed[j]? = some true
  above : ∀ (j : Nat) (o : Oper), q ≤ j → ops[j]? = some o → acting P o = true → listed[j]? ≠ some true
  wrote : Wrote ops S f0 (fun i => listed[i]? = some true) f
  fr : FR P ρ base ro f a w
  inv : Inv P ρ (S q).H w
  yok : YOk P ρ y w
  unl : ∀ i : Nat, Flt ops S i → listed[i]? ≠ some true → ρ (S i).H.next = none
  held : ∀ i : Nat, Flt ops S i → listed[i]? = some true → q ≤ i → ∃ B l, (S (i + 1)).H = (S i).H.push B ∧ ρ (S i).H.next = some l ∧ BlkOk ρ B l w ∧ w0.heap.size ≤ l.blk ∧
    (∀ b B' l', (S q).H.get b = some B' → ρ b = some l' → l'.blk ≠ l.blk) ∧ (∀ (i' : Nat) (l' : Loc), Flt ops S i' → q ≤ i' → i' ≠ i → ρ (S i').H.next = some l' → l'.blk ≠ l.blk)
  later : ∀ (i : Nat) (o : Oper), q ≤ i → ops[i]? = some o → acting P o = true → ∀ b, (S i).H.next ≤ b → b < (S (i + 1)).H.next → ρ b = none
  same : ∀ b, b < H0.next ∨ (S ops.size).H.next ≤ b → ρ b = ρ0 b
  wsize : w0.heap.size ≤ w.heap.size
  io : Io w0 w
  kept : ∀ b B', b < H0.next → (S q).H.get b = some B' → ∃ B, H0.get b = some B ∧ (B'.own = true → B.own = true)
  made : ∀ b B' l, H0.next ≤ b → (S q).H.get b = some B' → ρ b = some l → w0.heap.size ≤ l.blk ∨ ∃ b0 B0 l0, H0.get b0 = some B0 ∧ (B'.own = true → B0.own = true) ∧ ρ0 b0 = some l0 ∧ l0.blk = l.blk
  frame : ∀ k, k < w0.heap.size → (∀ b B l, H0.get b = some B → B.own = true → ρ0 b = some l → l.blk ≠ k) → w.heap[k]? = w0.heap[k]?

section
variable {call : ACall} {y : Option (Nat × Yld)} {ops : Array Oper} {plan : List Plan} {f0 : Frm} {H0 : AH} {S : Nat → TS} {endp : List AH} (cx : Cx P call y ops plan f0 H0 S endp)
  {base : Nat → Prop} {ro : Option Nat} {ρ0 : Map} {w0 : World} {listed : Array Bool} {q : Nat} {ρ : Map} {f : Frm} {a : Act} {w : World}
include cx

theorem Cx.zero_le {j : Nat} (hj : j ≤ ops.size) : H0.next ≤ (S j).H.next := by
  have := cx.mono_next (Nat.zero_le j) hj
  rw [cx.heap0] at this; exact this

/-- What does not act is passed by. -/
theorem SI.advance (h : SI P y ops f0 H0 S base ro ρ0 w0 listed q ρ f a w) {o : Oper} (ho : ops[q]? = some o) (hna : acting P o = false) : SI P y ops f0 H0 S base ro ρ0 w0 listed (q + 1) ρ f a w := by
  have hq := lt_of_get ho
  have hbelow : ∀ (j : Nat) (oj : Oper), j < q + 1 → ops[j]? = some oj → acting P oj = true → listed[j]? = some true := by
    intro j oj hj hoj ha
    by_cases e : j = q
    · subst e; rw [ho] at hoj; cases hoj; rw [hna] at ha; cases ha
    · exact h.below j oj (by omega) hoj ha
  have habove : ∀ (j : Nat) (oj : Oper), q + 1 ≤ j → ops[j]? = some oj → acting P oj = true → listed[j]? ≠ some true := fun j oj hj => h.above j oj (by omega)
  have hlater : ∀ (i : Nat) (oi : Oper), q + 1 ≤ i → ops[i]? = some oi → acting P oi = true → ∀ b, (S i).H.next ≤ b → b < (S (i + 1)).H.next → ρ b = none := fun i oi hi => h.later i oi (by omega)
  have stay : (S (q + 1)).H = (S q).H → SI P y ops f0 H0 S base ro ρ0 w0 listed (q + 1) ρ f a w := by
    intro e
    exact { h with qle := by omega, below := hbelow, above := habove, inv := e ▸ h.inv, later := hlater, kept := by rw [e]; exact h.kept, made := by rw [e]; exact h.made
                   held := fun i hi hl hqi => by
                     obtain ⟨B, l, h1, h2, h3, h4, h5, h6⟩ := h.held i hi hl (by omega)
                     exact ⟨B, l, h1, h2, h3, h4, by rw [e]; exact h5, fun i' l' g1 g2 => h6 i' l' g1 (by omega)⟩ }
  rcases (stepT_cases (cx.step q o ho)).2 with ⟨_, e, _⟩ | ⟨hw, ⟨hfl, hop⟩ | ⟨_, _, e, _⟩ | ⟨h1, h2, _⟩⟩
  · exact stay e
  · -- what floats joins the heap
    have hflt : Flt ops S q := ⟨o, ho, hfl, hw⟩
    obtain ⟨B, e, hown⟩ := cx.flt_push hflt
    have hz := cx.zero_le (j := q) (by omega)
    have hname : ρ (S q).H.next = none ∨ ∃ l, ρ (S q).H.next = some l ∧ BlkOk ρ B l w ∧ w0.heap.size ≤ l.blk ∧ (∀ b B' l', (S q).H.get b = some B' → ρ b = some l' → l'.blk ≠ l.blk) := by
      by_cases hl : listed[q]? = some true
      · obtain ⟨B', l, h1, h2, h3, h4, h5, _⟩ := h.held q hflt hl (Nat.le_refl _)
        have : B' = B := by
          have g := AH.get_push_same (S q).H B
          rw [← e, h1, AH.get_push_same] at g
          exact Option.some.inj g
        subst this
        exact .inr ⟨l, h2, h3, h4, h5⟩
      · exact .inl (h.unl q hflt hl)
    refine { h with qle := by omega, below := hbelow, above := habove, inv := ?_, later := hlater, kept := ?_, made := ?_, held := ?_ }
    · rw [e]
      refine h.inv.pushed ?_
      rcases hname with g | ⟨l, g1, g2, _, g4⟩
      · exact .inl g
      · exact .inr ⟨l, g1, g2, g4⟩
    · intro i hi hl hqi
      obtain ⟨B', l, h1, h2, h3, h4, h5, h6⟩ := h.held i hi hl (by omega)
      refine ⟨B', l, h1, h2, h3, h4, ?_, fun i' l' g1 g2 => h6 i' l' g1 (by omega)⟩
      intro b B'' l' g1 g2
      by_cases hb : b = (S q).H.next
      · subst hb; exact h6 q l' hflt (Nat.le_refl _) (by omega) g2
      · rw [e, AH.get_push_ne _ _ hb] at g1; exact h5 b B'' l' g1 g2
    · intro b B' hb g
      rw [e, AH.get_push_ne _ _ (by omega)] at g
      exact h.kept b B' hb g
    · intro b B' l hb g1 g2
      by_cases hbn : b = (S q).H.next
      · subst hbn
        rcases hname with g | ⟨l', k1, _, k3, _⟩
        · rw [g] at g2; cases g2
        · rw [k1] at g2; cases g2; exact .inl k3
      · rw [e, AH.get_push_ne _ _ hbn] at g1; exact h.made b B' l hb g1 g2
  · exact stay e
  · simp [acting, h1, h2] at hna

omit cx in
theorem set_listed {i j : Nat} (hi : i < listed.size) : (listed.setIfInBounds i true)[j]? = some true ↔ listed[j]? = some true ∨ j = i := by
  by_cases e : i = j
  · subst e; simp [hi]
  · rw [Array.getElem?_setIfInBounds_ne e]
    constructor
    · exact .inl
    · rintro (h | h)
      · exact h
      · exact absurd h.symm e

omit cx in
theorem set_closed (h : SI P y ops f0 H0 S base ro ρ0 w0 listed q ρ f a w) {i : Nat} {o : Oper} (ho : ops[i]? = some o) (hdir : ∀ k ∈ direct o, listed[k]? = some true) :
    ∀ (j : Nat) (oj : Oper), (listed.setIfInBounds i true)[j]? = some true → ops[j]? = some oj → ∀ k ∈ direct oj, (listed.setIfInBounds i true)[k]? = some true := by
  have hi : i < listed.size := by rw [h.size]; exact lt_of_get ho
  intro j oj hj hoj k hk
  rw [set_listed hi] at hj ⊢
  rcases hj with hj | rfl
  · exact .inl (h.closed j oj hj hoj k hk)
  · rw [ho] at hoj; cases hoj; exact .inl (hdir k hk)

/-- An operation that neither acts nor makes memory, or is not wanted. -/
theorem SI.idle (h : SI P y ops f0 H0 S base ro ρ0 w0 listed q ρ f a w) {i : Nat} {o : Oper} (ho : ops[i]? = some o) (hl : listed[i]? ≠ some true) (hdir : ∀ k ∈ direct o, listed[k]? = some true)
    (hna : acting P o = false) (hnf : ¬ Flt ops S i) {x : Value} {w' : World} (hx : VRel ρ (S (i + 1)).v x) (hs : Stp P ρ (S q).H w ρ (S q).H w') :
    SI P y ops f0 H0 S base ro ρ0 w0 (listed.setIfInBounds i true) q ρ (f.put o.dst (S (i + 1)).v) (a.put o.dst x) w' := by
  have hi : i < listed.size := by rw [h.size]; exact lt_of_get ho
  have hfree : Free ρ (S q).H (S q).H := fun b h1 h2 => by omega
  refine { size := by simp [h.size], qle := h.qle, closed := set_closed h ho hdir, below := ?_, above := ?_, wrote := ?_, fr := ?_, inv := hs.inv, yok := h.yok.step h.inv hs hfree, unl := ?_, held := ?_, later := h.later, same := h.same,
           io := h.io.trans hs.io, wsize := Nat.le_trans h.wsize hs.size, kept := h.kept, made := h.made, frame := ?_ }
  · intro j oj hj hoj ha; rw [set_listed hi]; exact .inl (h.below j oj hj hoj ha)
  · intro j oj hj hoj ha e
    rw [set_listed hi] at e
    rcases e with e | rfl
    · exact h.above j oj hj hoj ha e
    · rw [ho] at hoj; cases hoj; rw [hna] at ha; cases ha
  · exact (Wrote.put cx h.wrote ho hl).congr fun j _ => (set_listed hi).symm
  · exact (h.fr.step h.inv hs hfree).put _ hx
  · intro j hj e
    exact h.unl j hj (fun e' => e (by rw [set_listed hi]; exact .inl e'))
  · intro j hj e hqj
    rw [set_listed hi] at e
    have hlj : listed[j]? = some true := by
      rcases e with e | rfl
      · exact e
      · exact absurd hj hnf
    obtain ⟨B, l, h1, h2, ⟨cs, fz, k1, k2, k3, k4, k5⟩, h4, h5, h6⟩ := h.held j hj hlj hqj
    refine ⟨B, l, h1, h2, ⟨cs, fz, ?_, k2, k3, k4, k5⟩, h4, h5, h6⟩
    rw [hs.frame l.blk (lt_of_get k1) fun b B' l' g1 _ g3 => h5 b B' l' g1 g3]; exact k1
  · intro k hk hown
    rw [hs.frame k (Nat.lt_of_lt_of_le hk h.wsize) ?_]
    · exact h.frame k hk hown
    · intro b B l g1 g2 g3 e
      by_cases hb : b < H0.next
      · obtain ⟨B', k1, k2⟩ := h.kept b B hb g1
        rw [h.same b (.inl hb)] at g3
        exact hown b B' l k1 (k2 g2) g3 e
      · rcases h.made b B l (by omega) g1 g3 with k1 | ⟨b0, B0, l0, k1, k2, k3, k4⟩
        · omega
        · exact hown b0 B0 l0 k1 (k2 g2) k3 (k4.trans e)

/-- What floats is carried out. -/
theorem SI.float (h : SI P y ops f0 H0 S base ro ρ0 w0 listed q ρ f a w) {i : Nat} {o : Oper} (ho : ops[i]? = some o) (hl : listed[i]? ≠ some true) (hdir : ∀ k ∈ direct o, listed[k]? = some true)
    (hflt : Flt ops S i) {B : Blk} (hB : (S (i + 1)).H = (S i).H.push B) {x : Value} {w' : World} {l : Loc} (hx : VRel (ρ.upd (S i).H.next l) (S (i + 1)).v x) (h1 : w.heap.size ≤ l.blk) (h2 : l.blk < w'.heap.size)
    (hold : ∀ k, k < w.heap.size → w'.heap[k]? = w.heap[k]?) (hsz : w.heap.size ≤ w'.heap.size ∧ Io w w') (hblk : BlkOk (ρ.upd (S i).H.next l) B l w') :
    SI P y ops f0 H0 S base ro ρ0 w0 (listed.setIfInBounds i true) q (ρ.upd (S i).H.next l) (f.put o.dst (S (i + 1)).v) (a.put o.dst x) w' := by
  have hlt := lt_of_get ho
  have hi : i < listed.size := by rw [h.size]; exact hlt
  have hnone := h.unl i hflt hl
  have hle := Map.le_upd ρ l hnone
  have hna := flt_act (P := P) hflt ho
  have hnext := cx.flt_next hflt
  have hname : ∀ j, Flt ops S j → j ≠ i → (S j).H.next ≠ (S i).H.next := by
    intro j hj hji e
    have hlj := flt_lt hj
    have hnj := cx.flt_next hj
    by_cases hlt' : j < i
    · have := cx.mono_next (i := j + 1) (j := i) (by omega) (by omega); omega
    · have := cx.mono_next (i := i + 1) (j := j) (by omega) (by omega); omega
  refine { size := by simp [h.size], qle := h.qle, closed := set_closed h ho hdir, below := ?_, above := ?_, wrote := ?_, fr := ?_, inv := ?_, yok := ?_, unl := ?_, held := ?_, later := ?_, same := ?_,
           io := h.io.trans hsz.2, wsize := Nat.le_trans h.wsize hsz.1, kept := h.kept, made := ?_, frame := ?_ }
  · intro j oj hj hoj ha; rw [set_listed hi]; exact .inl (h.below j oj hj hoj ha)
  · intro j oj hj hoj ha e
    rw [set_listed hi] at e
    rcases e with e | rfl
    · exact h.above j oj hj hoj ha e
    · rw [ho] at hoj; cases hoj; rw [hna] at ha; cases ha
  · exact (Wrote.put cx h.wrote ho hl).congr fun j _ => (set_listed hi).symm
  · have : FR P (ρ.upd (S i).H.next l) base ro f a w' := ⟨h.fr.size, h.fr.rd, fun t => (h.fr.slots t).mono hle, h.fr.defers.mono hle (fun r hr => by rw [hold r (lt_of_get hr)]; exact hr),
      fun l' e => let ⟨r, hr⟩ := h.fr.round l' e; ⟨r, by rw [hold _ (lt_of_get hr)]; exact hr⟩⟩
    exact this.put _ hx
  · refine h.inv.mapped hnone hold h1 h2 ?_
    intro B' hB'
    -- the name is in the heap: the block is what was pushed
    have hiq : i < q := by
      by_cases hiq : i < q
      · exact hiq
      · exfalso
        have := h.inv.old _ _ hB'
        have := cx.mono_next (i := q) (j := i) (by omega) (by omega)
        omega
    have key : ∀ j, i + 1 ≤ j → j ≤ q → (S j).H.get (S i).H.next = some B := by
      intro j
      induction j with
      | zero => intro hj; omega
      | succ j ih =>
        intro hj hjq
        by_cases hji : j = i
        · subst hji; rw [hB]; exact AH.get_push_same _ _
        · have hjlt : j < ops.size := by have := h.qle; omega
          have hoj : ops[j]? = some ops[j] := Array.getElem?_eq_getElem hjlt
          have hg := ih (by omega) (by omega)
          have hnaj : acting P ops[j] = false := by
            cases ha : acting P ops[j] with
            | false => rfl
            | true =>
              exfalso
              have hlj := h.below j _ (by omega) hoj ha
              have := ahead_closed (D := fun k => listed[k]? = some true) (ops := ops.toList) (fun k ok hk hok => h.closed k ok hk (by simpa using hok)) j _ (lget hoj) (h.closed j _ hlj hoj) i
                (cx.planOk.floats i j o _ (lget ho) (lget hoj) (by obtain ⟨o', ho', g, _⟩ := hflt; rw [ho] at ho'; cases ho'; exact g) ha (by omega))
              exact hl this
          rcases (stepT_cases (cx.step j _ hoj)).2 with ⟨_, e, _⟩ | ⟨_, ⟨_, hop⟩ | ⟨_, _, e, _⟩ | ⟨g1, g2, _⟩⟩
          · rw [e]; exact hg
          · rename_i hwj hflj
            obtain ⟨Bj, ej, _⟩ := cx.flt_push ⟨_, hoj, hflj, hwj⟩
            rw [ej, AH.get_push_ne]
            · exact hg
            · have := cx.mono_next (i := i + 1) (j := j) (by omega) (by omega); omega
          · rw [e]; exact hg
          · simp [acting, g1, g2] at hnaj
    rw [key q (by omega) (Nat.le_refl _)] at hB'
    cases hB'
    exact hblk
  · intro k g e
    obtain ⟨l', r, g1, g2, g3⟩ := h.yok k g e
    exact ⟨l', r, hle _ _ g1, by rw [hold _ (lt_of_get g2)]; exact g2, fun args H1 H2 hg σ w1 xs hle' => g3 args H1 H2 hg σ w1 xs (Map.le_trans hle hle')⟩
  · intro j hj e
    have hne : j ≠ i := fun e' => e (by rw [set_listed hi]; exact .inr e')
    rw [Map.upd_ne _ _ (hname j hj hne)]
    exact h.unl j hj (fun e' => e (by rw [set_listed hi]; exact .inl e'))
  · intro j hj e hqj
    rw [set_listed hi] at e
    by_cases hji : j = i
    · subst hji
      refine ⟨B, l, hB, Map.upd_same _ _ _, hblk, Nat.le_trans h.wsize h1, ?_, ?_⟩
      · intro b B' l' g1 g2
        have hb : b ≠ (S j).H.next := by
          have := h.inv.old b B' g1
          have := cx.mono_next hqj (by omega)
          omega
        rw [Map.upd_ne _ _ hb] at g2
        have := h.inv.lt b l' g2; omega
      · intro i' l' g1 g2 g3 g4
        rw [Map.upd_ne _ _ (hname i' g1 g3)] at g4
        have := h.inv.lt _ l' g4; omega
    · have hlj : listed[j]? = some true := e.resolve_right hji
      obtain ⟨B', l', k1, k2, ⟨cs, fz, m1, m2, m3, m4, m5⟩, k4, k5, k6⟩ := h.held j hj hlj hqj
      have hb := hname j hj hji
      refine ⟨B', l', k1, by rw [Map.upd_ne _ _ hb]; exact k2, ⟨cs, fz, by rw [hold _ (lt_of_get m1)]; exact m1, m2, m3, m4.mono hle, m5⟩, k4, ?_, ?_⟩
      · intro b B'' l'' g1 g2
        by_cases hbn : b = (S i).H.next
        · subst hbn
          rw [Map.upd_same] at g2; cases g2
          have := lt_of_get m1; omega
        · rw [Map.upd_ne _ _ hbn] at g2; exact k5 b B'' l'' g1 g2
      · intro i' l'' g1 g2 g3 g4
        by_cases hii : i' = i
        · subst hii
          rw [Map.upd_same] at g4; cases g4
          have := lt_of_get m1; omega
        · rw [Map.upd_ne _ _ (hname i' g1 hii)] at g4; exact k6 i' l'' g1 g2 g3 g4
  · intro j oj hj hoj ha b g1 g2
    have hjl := lt_of_get hoj
    have hne : b ≠ (S i).H.next := by
      intro e
      have hji : j ≠ i := by intro e'; subst e'; rw [ho] at hoj; cases hoj; rw [hna] at ha; cases ha
      by_cases hlt' : j < i
      · have := cx.mono_next (i := j + 1) (j := i) (by omega) (by omega); omega
      · have := cx.mono_next (i := i + 1) (j := j) (by omega) (by omega); omega
    rw [Map.upd_ne _ _ hne]
    exact h.later j oj hj hoj ha b g1 g2
  · intro b hb
    have : b ≠ (S i).H.next := by
      have := cx.zero_le (j := i) (by omega)
      have := cx.mono_next (i := i + 1) (j := ops.size) (by omega) (by omega)
      omega
    rw [Map.upd_ne _ _ this]; exact h.same b hb
  · intro b B' l' hb g1 g2
    by_cases hbn : b = (S i).H.next
    · subst hbn
      rw [Map.upd_same] at g2; cases g2
      exact .inl (Nat.le_trans h.wsize h1)
    · rw [Map.upd_ne _ _ hbn] at g2; exact h.made b B' l' hb g1 g2
  · intro k hk hown
    rw [hold k (Nat.lt_of_lt_of_le hk h.wsize)]; exact h.frame k hk hown

end

end Go.Am

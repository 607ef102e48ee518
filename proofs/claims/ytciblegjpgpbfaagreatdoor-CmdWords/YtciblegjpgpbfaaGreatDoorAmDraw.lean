/-
  A region that draws its order, held against the model's: whatever the order. No condition beyond the relation itself.
-/
import Derived.Test.YtciblegjpgpbfaaGreatDoorAmInv
namespace Go.Am
open Go

variable {P : Program}

section
variable {call : ACall} {y : Option (Nat × Yld)} {ops : Array Oper} {plan : List Plan} {f0 : Frm} {H0 : AH} {S : Nat → TS} {endp : List AH} (cx : Cx P call y ops plan f0 H0 S endp)
  {base : Nat → Prop} {ro : Option Nat} {ρ0 : Map} {w0 : World} {listed : Array Bool} {q : Nat} {ρ : Map} {f : Frm} {a : Act} {w : World}
include cx

/-- What acts is carried out. -/
theorem SI.act (h : SI P y ops f0 H0 S base ro ρ0 w0 listed q ρ f a w) {o : Oper} (ho : ops[q]? = some o) (hdir : ∀ k ∈ direct o, listed[k]? = some true) (ha : acting P o = true) {x : Value} {ρ' : Map} {w' : World}
    (hx : VRel ρ' (S (q + 1)).v x) (hs : Stp P ρ (S q).H w ρ' (S (q + 1)).H w') :
    SI P y ops f0 H0 S base ro ρ0 w0 (listed.setIfInBounds q true) (q + 1) ρ' (f.put o.dst (S (q + 1)).v) (a.put o.dst x) w' := by
  have hlt := lt_of_get ho
  have hi : q < listed.size := by rw [h.size]; exact hlt
  have hl : listed[q]? ≠ some true := h.above q o (Nat.le_refl _) ho ha
  have hfree : Free ρ (S q).H (S (q + 1)).H := fun b h1 h2 => h.later q o (Nat.le_refl _) ho ha b h1 h2
  have hle := hs.le hfree
  have hz := cx.zero_le (j := q) (by omega)
  have hq1 := hs.next
  -- a name of what floats is none of this operation's
  have hname : ∀ j, Flt ops S j → ρ' (S j).H.next = ρ (S j).H.next := by
    intro j hj
    refine hs.same _ ?_
    have hnj := cx.flt_next hj
    have hjl := flt_lt hj
    by_cases hlt' : j < q
    · left; have := cx.mono_next (i := j + 1) (j := q) (by omega) (by omega); omega
    · have hne : j ≠ q := by intro e; subst e; have := flt_act (P := P) hj ho; rw [ha] at this; cases this
      right; exact cx.mono_next (i := q + 1) (j := j) (by omega) (by omega)
  refine { size := by simp [h.size], qle := by omega, closed := set_closed h ho hdir, below := ?_, above := ?_, wrote := ?_, fr := ?_, inv := hs.inv, yok := h.yok.step h.inv hs hfree, unl := ?_, held := ?_, later := ?_, same := ?_,
           io := h.io.trans hs.io, wsize := Nat.le_trans h.wsize hs.size, kept := ?_, made := ?_, frame := ?_ }
  · intro j oj hj hoj haj
    rw [set_listed hi]
    by_cases e : j = q
    · exact .inr e
    · exact .inl (h.below j oj (by omega) hoj haj)
  · intro j oj hj hoj haj e
    rw [set_listed hi] at e
    rcases e with e | rfl
    · exact h.above j oj (by omega) hoj haj e
    · omega
  · exact (Wrote.put cx h.wrote ho hl).congr fun j _ => (set_listed hi).symm
  · exact (h.fr.step h.inv hs hfree).put _ hx
  · intro j hj e
    rw [hname j hj]
    exact h.unl j hj (fun e' => e (by rw [set_listed hi]; exact .inl e'))
  · intro j hj e hqj
    rw [set_listed hi] at e
    have hlj : listed[j]? = some true := by
      rcases e with e | rfl
      · exact e
      · omega
    obtain ⟨B, l, h1, h2, ⟨cs, fz, k1, k2, k3, k4, k5⟩, h4, h5, h6⟩ := h.held j hj hlj (by omega)
    refine ⟨B, l, h1, by rw [hname j hj]; exact h2, ⟨cs, fz, ?_, k2, k3, k4.mono hle, k5⟩, h4, ?_, ?_⟩
    · rw [hs.frame l.blk (lt_of_get k1) fun b B' l' g1 _ g3 => h5 b B' l' g1 g3]; exact k1
    · intro b B' l' g1 g2
      by_cases hb : b < (S q).H.next
      · obtain ⟨B0, m1, _⟩ := hs.kept b B' hb g1
        rw [hs.same b (.inl hb)] at g2
        exact h5 b B0 l' m1 g2
      · rcases hs.made b B' l' (by omega) g1 g2 with m | ⟨b0, B0, l0, m1, _, m3, m4⟩
        · have := lt_of_get k1; omega
        · rw [← m4]; exact h5 b0 B0 l0 m1 m3
    · intro i' l' g1 g2 g3 g4
      rw [hname i' g1] at g4
      exact h6 i' l' g1 (by omega) g3 g4
  · intro j oj hj hoj haj b g1 g2
    have hjl := lt_of_get hoj
    have := cx.mono_next (i := q + 1) (j := j) (by omega) (by omega)
    rw [hs.same b (.inr (by omega))]
    exact h.later j oj (by omega) hoj haj b g1 g2
  · intro b hb
    have := cx.mono_next (i := q + 1) (j := ops.size) (by omega) (by omega)
    rw [hs.same b (by omega)]; exact h.same b hb
  · intro b B' hb g
    obtain ⟨B1, g1, g2⟩ := hs.kept b B' (by omega) g
    obtain ⟨B0, k1, k2⟩ := h.kept b B1 hb g1
    exact ⟨B0, k1, fun e => k2 (g2 e)⟩
  · intro b B' l hb g1 g2
    have old : ∀ b0 B0 l0, (S q).H.get b0 = some B0 → (B'.own = true → B0.own = true) → ρ b0 = some l0 → l0.blk = l.blk →
        w0.heap.size ≤ l.blk ∨ ∃ b0 B0 l0, H0.get b0 = some B0 ∧ (B'.own = true → B0.own = true) ∧ ρ0 b0 = some l0 ∧ l0.blk = l.blk := by
      intro b0 B0 l0 e1 e2 e3 e4
      by_cases hb0 : b0 < H0.next
      · obtain ⟨B1, k1, k2⟩ := h.kept b0 B0 hb0 e1
        rw [h.same b0 (.inl hb0)] at e3
        exact .inr ⟨b0, B1, l0, k1, fun e => k2 (e2 e), e3, e4⟩
      · rcases h.made b0 B0 l0 (by omega) e1 e3 with k | ⟨b1, B1, l1, k1, k2, k3, k4⟩
        · exact .inl (by rw [← e4]; exact k)
        · exact .inr ⟨b1, B1, l1, k1, fun e => k2 (e2 e), k3, k4.trans e4⟩
    by_cases hbq : b < (S q).H.next
    · obtain ⟨B0, m1, m2⟩ := hs.kept b B' hbq g1
      rw [hs.same b (.inl hbq)] at g2
      exact old b B0 l m1 m2 g2 rfl
    · rcases hs.made b B' l (by omega) g1 g2 with m | ⟨b0, B0, l0, m1, m2, m3, m4⟩
      · exact .inl (Nat.le_trans h.wsize m)
      · exact old b0 B0 l0 m1 m2 m3 m4
  · intro k hk hown
    rw [hs.frame k (Nat.lt_of_lt_of_le hk h.wsize) ?_]
    · exact h.frame k hk hown
    · intro b B l g1 g2 g3 e
      by_cases hb : b < H0.next
      · obtain ⟨B', k1, k2⟩ := h.kept b B hb g1
        rw [h.same b (.inl hb)] at g3
        exact hown b B' l k1 (k2 g2) g3 e
      · rcases h.made b B l (by omega) g1 g3 with k1 | ⟨b0, B0, l0, k1, k2, k3, k4⟩
        · omega
        · exact hown b0 B0 l0 k1 (k2 g2) k3 (k4.trans e)

/-- On to the next operation that acts. -/
theorem SI.to (h : SI P y ops f0 H0 S base ro ρ0 w0 listed q ρ f a w) {j : Nat} (hj : j ≤ ops.size) (hqj : q ≤ j) (hna : ∀ (k : Nat) (o : Oper), q ≤ k → k < j → ops[k]? = some o → acting P o = false) :
    SI P y ops f0 H0 S base ro ρ0 w0 listed j ρ f a w := by
  obtain ⟨d, rfl⟩ : ∃ d, j = q + d := ⟨j - q, by omega⟩
  clear hqj
  induction d with
  | zero => exact h
  | succ d ih =>
    have hlt : q + d < ops.size := by omega
    have ho : ops[q + d]? = some ops[q + d] := Array.getElem?_eq_getElem hlt
    exact (ih (by omega) fun k o h1 h2 => hna k o h1 (by omega)).advance cx ho (hna (q + d) _ (by omega) (by omega) ho)

omit cx in
/-- The next place where something acts, or the end. -/
theorem next_act (q : Nat) (hq : q ≤ ops.size) : ∃ j, q ≤ j ∧ j ≤ ops.size ∧ (∀ (k : Nat) (o : Oper), q ≤ k → k < j → ops[k]? = some o → acting P o = false) ∧ (j = ops.size ∨ ∃ o, ops[j]? = some o ∧ acting P o = true) := by
  obtain ⟨d, hd⟩ : ∃ d, ops.size = q + d := ⟨ops.size - q, by omega⟩
  induction d generalizing q with
  | zero => exact ⟨q, Nat.le_refl _, by omega, fun k o h1 h2 => by omega, .inl (by omega)⟩
  | succ d ih =>
    have hlt : q < ops.size := by omega
    have ho : ops[q]? = some ops[q] := Array.getElem?_eq_getElem hlt
    cases ha : acting P ops[q] with
    | true => exact ⟨q, Nat.le_refl _, hq, fun k o h1 h2 => by omega, .inr ⟨_, ho, ha⟩⟩
    | false =>
      obtain ⟨j, h1, h2, h3, h4⟩ := ih (q + 1) (by omega) (by omega)
      refine ⟨j, by omega, h2, fun k o g1 g2 g3 => ?_, h4⟩
      by_cases e : k = q
      · subst e; rw [ho] at g3; cases g3; exact ha
      · exact h3 k o (by omega) g2 g3

theorem SI.eval (h : SI P y ops f0 H0 S base ro ρ0 w0 listed q ρ f a w) {i : Nat} {o : Oper} (ho : ops[i]? = some o) (hl : listed[i]? ≠ some true) (hdir : ∀ k ∈ direct o, listed[k]? = some true) :
    (∀ x ∈ o.op.operands, f.eval P x = (S i).f.eval P x) ∧ wantedA ops o f = wantedA ops o (S i).f := by
  have hag : ∀ t ∈ uses ops o, f.slot t = (S i).f.slot t := fun t ht => cx.agree h.wrote h.closed ho hl hdir ht
  constructor
  · intro x hx
    cases x with
    | tmp t =>
      refine hag t ?_
      unfold uses
      exact List.mem_append_left _ (List.mem_filterMap.2 ⟨.tmp t, by simpa using hx, rfl⟩)
    | const v => rfl
    | global g => rfl
    | func g => rfl
  · unfold wantedA
    split
    · rfl
    · rename_i j want hg
      have : yieldedA ops f j = yieldedA ops (S i).f j := by
        unfold yieldedA
        split
        · rfl
        · rename_i t ht
          rw [hag t]
          unfold uses
          rw [hg]
          exact List.mem_append_right _ (by simp [ht])
      rw [this]

omit cx in
theorem filter_le {p r : Nat → Bool} : ∀ {l : List Nat}, (∀ x ∈ l, p x = true → r x = true) → (l.filter p).length ≤ (l.filter r).length := by
  intro l
  induction l with
  | nil => intro _; exact Nat.le_refl _
  | cons x l ih =>
    intro h
    have := ih fun z hz => h z (List.mem_cons_of_mem _ hz)
    rw [List.filter_cons, List.filter_cons]
    cases hp : p x with
    | false => cases r x <;> simp <;> omega
    | true => rw [h x List.mem_cons_self hp]; simp; omega

omit cx in
theorem acts_eq {j : Nat} (hj : j ≤ ops.size) : acts P ops j = (((List.range ops.size).filter fun k => (ops[k]?).any (acting P)).filter fun k => decide (k < j)).length := by
  unfold acts
  obtain ⟨d, hd⟩ : ∃ d, ops.size = j + d := ⟨ops.size - j, by omega⟩
  rw [hd, List.filter_filter]
  clear hd
  induction d with
  | zero =>
    congr 1
    apply List.filter_congr
    intro k hk
    have := List.mem_range.1 hk
    simp [this]
  | succ d ih =>
    rw [show j + (d + 1) = (j + d) + 1 from rfl, List.range_succ, List.filter_append, List.length_append, ← ih]
    have : ¬ (j + d < j) := by omega
    simp [this]


/-- At the end. -/
theorem SI.done (h : SI P y ops f0 H0 S base ro ρ0 w0 listed q ρ f a w) (hall : ∀ i, i < ops.size → listed[i]? = some true) (hn : H0.next ≤ (S ops.size).H.next) :
    Post P ρ0 H0 w0 base ro .normal (S ops.size).f (S ops.size).H .normal a w := by
  have h' := h.to cx (j := ops.size) (Nat.le_refl _) h.qle fun k o h1 _ hok => by
    cases ha : acting P o with
    | false => rfl
    | true => exact absurd (hall k (lt_of_get hok)) (h.above k o h1 hok ha)
  refine ⟨ρ, ⟨h'.inv, hn, h'.same, h'.wsize, h'.kept, h'.made, h'.frame, h'.io⟩, ?_, .normal⟩
  have hx := cx.text (j := ops.size) (Nat.le_refl _)
  have hD := h'.wrote
  have hslot : ∀ t, (S ops.size).f.slot t = f.slot t := by
    intro t
    by_cases hout : f0.n ≤ t
    · rw [hD.out t hout, hx.out t hout]
    · by_cases hex : ∃ (k : Nat) (ok : Oper), ops[k]? = some ok ∧ ok.dst = some t
      · obtain ⟨k, ok, hok, hdk⟩ := hex
        have hlt := lt_of_get hok
        have htn : t < f0.n := Nat.lt_of_not_le hout
        rw [hD.wr k ok t (hall k hlt) hok hdk htn, hx.wr k ok t hlt hok hdk htn]
      · rw [hD.un t fun j oj _ hoj hdj => hex ⟨j, oj, hoj, hdj⟩, hx.un t fun j oj _ hoj hdj => hex ⟨j, oj, hoj, hdj⟩]
  exact ⟨by rw [hx.n, ← hD.n]; exact h'.fr.size, by rw [hx.rd, ← hD.rd]; exact h'.fr.rd, fun t => by rw [hslot t]; exact h'.fr.slots t, by rw [hx.defers, ← hD.defers]; exact h'.fr.defers, h'.fr.round⟩

omit cx in
theorem holds_at {x : Later} {l : List AH} {K : AH} (hx : sameAt P x.ρ x.o x.v l = true) (hK : K ∈ l) : ∃ v' K', opA P x.ρ x.o K = some (.value v' K') ∧ AV.beq x.v v' = true := by
  induction l with
  | nil => cases hK
  | cons K0 l ih =>
    simp only [sameAt, Bool.and_eq_true] at hx
    rcases List.mem_cons.1 hK with rfl | hK
    · have h1 := hx.1
      split at h1
      · rename_i v' K' hop; exact ⟨v', K', hop, h1⟩
      · cases h1
    · exact ih hx.2 hK

/-- What a quiet operation comes to at the heap as it stands. -/
theorem SI.quietAt (h : SI P y ops f0 H0 S base ro ρ0 w0 listed q ρ f a w) {i : Nat} {o : Oper} (ho : ops[i]? = some o) (hl : listed[i]? ≠ some true) (hdir : ∀ k ∈ direct o, listed[k]? = some true)
    (hw : wantedA ops o (S i).f = some true) (hfl : Oper.floats o = false) (hqu : Oper.quiet P o = true) (hq : q = ops.size ∨ ∃ o, ops[q]? = some o ∧ acting P o = true) :
    opA P (f.eval P) o (S q).H = some (.value (S (i + 1)).v (S q).H) := by
  have hlt := lt_of_get ho
  rw [opA_congr (h.eval cx ho hl hdir).1]
  have hop : opA P ((S i).f.eval P) o (S i).H = some (.value (S (i + 1)).v (S i).H) := by
    rcases (stepT_cases (cx.step i o ho)).2 with ⟨e, _⟩ | ⟨_, ⟨e, _⟩ | ⟨_, _, _, e⟩ | ⟨_, e, _⟩⟩
    · rw [hw] at e; cases e
    · rw [hfl] at e; cases e
    · exact e
    · rw [hqu] at e; cases e
  cases hr : Oper.reading o with
  | false =>
    rw [pure_at (H := (S i).H) hqu hr, hop]; rfl
  | true =>
    obtain ⟨p, hp, hlo, hhi⟩ := cx.planOk.row i (by simpa using hlt)
    have hh := cx.quiet i o p ho hp hw hfl hqu hr
    have hpk := cx.pk q h.qle hq
    have hcl : ∀ j, Ahead ops.toList j i → listed[j]? = some true := ahead_closed (D := fun k => listed[k]? = some true) (fun j o hj hoj => h.closed j o hj (by simpa using hoj)) i o (lget ho) hdir
    have hle1 : p.lo ≤ acts P ops q := by
      rw [hlo, acts_eq h.qle, (Array.length_toList : ops.toList.length = ops.size)]
      have e : ((List.range ops.size).filter fun i => (ops.toList[i]?).any (acting P)) = ((List.range ops.size).filter fun i => (ops[i]?).any (acting P)) := by simp
      rw [e]
      refine filter_le fun k hk hc => ?_
      obtain ⟨hk1, hk2⟩ := List.mem_filter.1 hk
      have hkl := List.mem_range.1 hk1
      have hok : ops[k]? = some ops[k] := Array.getElem?_eq_getElem hkl
      rw [hok] at hk2
      have hDk := hcl k (by simpa [Ahead] using hc)
      by_cases hkq : k < q
      · simpa using hkq
      · exact absurd hDk (h.above k _ (by omega) hok (by simpa using hk2))
    have hle2 : acts P ops q ≤ p.hi := by
      rw [hhi, acts_eq h.qle, (Array.length_toList : ops.toList.length = ops.size)]
      have e : ((List.range ops.size).filter fun i => (ops.toList[i]?).any (acting P)) = ((List.range ops.size).filter fun i => (ops[i]?).any (acting P)) := by simp
      rw [e]
      refine filter_le fun k hk hc => ?_
      obtain ⟨hk1, hk2⟩ := List.mem_filter.1 hk
      have hkl := List.mem_range.1 hk1
      have hok : ops[k]? = some ops[k] := Array.getElem?_eq_getElem hkl
      rw [hok] at hk2
      have hkq : k < q := by simpa using hc
      have hDk := h.below k _ hkq hok (by simpa using hk2)
      have hne : k ≠ i := by intro e; subst e; exact hl hDk
      have hna : ¬ Ahead ops.toList i k := fun hah =>
        hl (ahead_closed (D := fun k => listed[k]? = some true) (fun j o hj hoj => h.closed j o hj (by simpa using hoj)) k _ (lget hok) (h.closed k _ hDk hok) i hah)
      simp only [Bool.and_eq_true, Bool.not_eq_true', bne_iff_ne, ne_eq]
      refine ⟨?_, hne⟩
      cases hb : ((aheadRows ops.toList).getD k []).contains i with
      | false => rfl
      | true => exact absurd (List.contains_iff_mem.1 hb) hna
    have hmem : (S q).H ∈ (endp.reverse.drop p.lo).take (p.hi + 1 - p.lo) := by
      refine List.mem_iff_getElem?.2 ⟨acts P ops q - p.lo, ?_⟩
      rw [List.getElem?_take_of_lt (by omega), List.getElem?_drop, show p.lo + (acts P ops q - p.lo) = acts P ops q from by omega]
      exact hpk
    obtain ⟨v', K', hv', hb⟩ := holds_at hh hmem
    obtain ⟨v'', e⟩ := quiet_value hqu hv'
    injection e with e1 e2
    subst e1 e2
    have hbe : (S (i + 1)).v = v' := beq_eq _ _ hb
    rw [hbe]
    exact hv'

/-- One operation, whichever may come up. -/
theorem SI.op (h : SI P y ops f0 H0 S base ro ρ0 w0 listed q ρ f a w) {i : Nat} {o : Oper} (ho : ops[i]? = some o) (hl : listed[i]? ≠ some true) (hdir : ∀ k ∈ direct o, listed[k]? = some true) {Q : Exit → Act → World → Prop} {K : Act → World → Prop}
    (hK : ∀ (q' : Nat) (ρ' : Map) (f' : Frm) (a' : Act) (w' : World), SI P y ops f0 H0 S base ro ρ0 w0 (listed.setIfInBounds i true) q' ρ' f' a' w' → K a' w') : wpOpIn (FW ro) 0 P ops Q i K a w := by
  have hlt := lt_of_get ho
  unfold wpOpIn
  rw [ho]
  simp only
  -- the place in the text where this operation may be carried out
  have hcl : ∀ j, Ahead ops.toList j i → listed[j]? = some true := ahead_closed (D := fun k => listed[k]? = some true) (fun j o hj hoj => h.closed j o hj (by simpa using hoj)) i o (lget ho) hdir
  have hact : acting P o = true → SI P y ops f0 H0 S base ro ρ0 w0 listed i ρ f a w := by
    intro ha
    have hqi : q ≤ i := by
      by_cases e : q ≤ i
      · exact e
      · exact absurd (h.below i o (by omega) ho ha) hl
    refine h.to cx (by omega) hqi fun k ok h1 h2 hok => ?_
    cases hak : acting P ok with
    | false => rfl
    | true => exact absurd (hcl k (cx.planOk.acts k i ok o (lget hok) (lget ho) hak ha h2)) (h.above k ok h1 hok hak)
  obtain ⟨hev, hwa⟩ := h.eval cx ho hl hdir
  rcases (stepT_cases (cx.step i o ho)).2 with ⟨hw, hH, hv⟩ | ⟨hw, ⟨hfl, hop⟩ | ⟨hfl, hqu, hH, hop⟩ | ⟨hfl, hqu, hop⟩⟩
  · -- not wanted
    rw [← hwa] at hw
    rw [wanted_ok h.fr.slots hw]
    simp only [Bool.false_eq_true, if_false]
    refine ⟨fun _ _ => trivial, ?_⟩
    cases ha : acting P o with
    | true =>
      have h1 := hact ha
      have hs : Stp P ρ (S i).H w ρ (S (i + 1)).H w := by rw [hH]; exact Stp.refl h1.inv
      exact hK _ _ _ _ _ (h1.act cx ho hdir ha (x := undef) (by rw [hv]; exact .atom _) hs)
    | false =>
      refine hK _ _ _ _ _ (h.idle cx ho hl hdir ha ?_ (x := undef) (by rw [hv]; exact .atom _) (Stp.refl h.inv))
      rintro ⟨o', ho', _, hw'⟩
      rw [ho] at ho'; cases ho'
      rw [hwa] at hw; rw [hw] at hw'; cases hw'
  · -- what floats
    have hflt : Flt ops S i := ⟨o, ho, hfl, hw⟩
    rw [← hwa] at hw
    rw [wanted_ok h.fr.slots hw]
    simp only [if_true]
    obtain ⟨B, hB, _⟩ := cx.flt_push hflt
    rw [hB, ← opA_congr hev] at hop
    obtain ⟨x, w', l, h1, h2, h3, h4, h5, h6, h7⟩ := float_ok hfl hop h.inv.lt h.inv.glob (h.fr.eval h.inv) (h.unl i hflt hl)
    refine ⟨fun _ _ => trivial, ?_⟩
    have hsem : Oper.semAt ro a.eval o = execOp a.eval o := by
      apply Oper.semAt_eq
      intro c hoc
      unfold Oper.floats at hfl
      rw [hoc] at hfl
      cases hfl
    rw [show (FW ro).round = ro from rfl, hsem, h1]
    exact hK _ _ _ _ _ (h.float cx ho hl hdir hflt hB h2 h3 h4 h5 h6 h7)
  · -- what is quiet
    have hna : acting P o = false := by simp [acting, hqu]
    obtain ⟨j, hj1, hj2, hj3, hj4⟩ := next_act (P := P) (ops := ops) q h.qle
    have h' := h.to cx hj2 hj1 hj3
    have hop' := h'.quietAt cx ho hl hdir hw hfl hqu hj4
    rw [← hwa] at hw
    rw [wanted_ok h.fr.slots hw]
    simp only [if_true]
    refine ⟨fun _ _ => trivial, ?_⟩
    have hsem : Oper.semAt ro a.eval o = execOp a.eval o := by
      apply Oper.semAt_eq
      intro c hoc
      unfold Oper.quiet at hqu
      rw [hoc] at hqu
      cases hqu
    rw [show (FW ro).round = ro from rfl, hsem]
    have hn := opA_ok (w := w) h'.inv (h'.fr.eval h'.inv) hop' (fun b h1 h2 => by simp only [ONext.heap] at h2; omega)
    generalize (execOp a.eval o).run P w = res at hn
    cases hn with
    | value hvx hs =>
      rename_i x w' ρ'
      have hρ : ρ' = ρ := by
        funext b
        exact hs.same b (by omega)
      subst hρ
      refine hK _ _ _ _ _ (h'.idle cx ho hl hdir hna ?_ hvx hs)
      rintro ⟨o', ho', g, _⟩
      rw [ho] at ho'; cases ho'
      rw [hfl] at g; cases g
  · -- what acts
    have ha : acting P o = true := by simp [acting, hfl, hqu]
    have h1 := hact ha
    rw [← hwa] at hw
    rw [wanted_ok h.fr.slots hw]
    simp only [if_true]
    rw [← runOp_congr hev] at hop
    refine runOp_ok cx.callOk h1.inv h1.fr h1.yok cx.mono hop (fun b g1 g2 => h1.later i o (Nat.le_refl _) ho ha b g1 g2) ?_
    intro ρ' x w' hvx hs
    exact hK _ _ _ _ _ (h1.act cx ho hdir ha hvx hs)


/-- So many operations are still to come. -/
def todo (ops : Array Oper) (listed : Array Bool) : Nat := ((List.range ops.size).filter fun i => !(listed.getD i true)).length

omit cx in
theorem getD_true {i : Nat} (hs : listed.size = ops.size) (hi : i < ops.size) : listed.getD i true = false ↔ listed[i]? ≠ some true := by
  have hlt : i < listed.size := by omega
  rw [Array.getD_eq_getD_getElem?]
  have : listed[i]? = some listed[i] := Array.getElem?_eq_getElem hlt
  rw [this]
  cases listed[i] <;> simp

omit cx in
theorem todo_set {i : Nat} (hs : listed.size = ops.size) (hi : i < ops.size) (hl : listed[i]? ≠ some true) : todo ops (listed.setIfInBounds i true) < todo ops listed := by
  unfold todo
  have e : (List.range ops.size).filter (fun j => !((listed.setIfInBounds i true).getD j true)) = ((List.range ops.size).filter fun j => !(listed.getD j true)).filter (fun j => j != i) := by
    rw [List.filter_filter]
    apply List.filter_congr
    intro j hj
    have hjl := List.mem_range.1 hj
    by_cases hji : j = i
    · subst hji
      have h1 : (listed.setIfInBounds j true).getD j true = true := by simp [Array.getD_eq_getD_getElem?, hs, hjl]
      rw [h1]; simp
    · have h1 : (listed.setIfInBounds i true).getD j true = listed.getD j true := by
        rw [Array.getD_eq_getD_getElem?, Array.getD_eq_getD_getElem?, Array.getElem?_setIfInBounds_ne (Ne.symm hji)]
      rw [h1]
      have : (j != i) = true := by simpa using hji
      rw [this]; simp
  rw [e]
  refine List.length_filter_lt_length_iff_exists.2 ⟨i, ?_, by simp⟩
  rw [List.mem_filter]
  exact ⟨List.mem_range.2 hi, by rw [(getD_true hs hi).2 hl]; rfl⟩

omit cx in
theorem ready_iff {i : Nat} (hs : listed.size = ops.size) : i ∈ Region.ready .any ops listed ↔ ∃ o, ops[i]? = some o ∧ listed[i]? ≠ some true ∧ ∀ k ∈ direct o, listed[k]? = some true := by
  rw [mem_ready]
  have hd : ∀ (o : Oper), (∀ e ∈ o.after, Region.binds .any e = true → listed.getD e.on false = true) ↔ ∀ k ∈ direct o, listed[k]? = some true := by
    intro o
    have hg : ∀ k, listed.getD k false = true ↔ listed[k]? = some true := by
      intro k
      rw [Array.getD_eq_getD_getElem?]
      cases listed[k]? with
      | none => simp
      | some b => simp
    constructor
    · intro h k hk
      obtain ⟨e, he, rfl⟩ := List.mem_map.1 hk
      obtain ⟨h1, h2⟩ := List.mem_filter.1 he
      exact (hg _).1 (h e (by simpa using h1) h2)
    · intro h e he hb
      exact (hg _).2 (h e.on (List.mem_map.2 ⟨e, List.mem_filter.2 ⟨by simpa using he, hb⟩, rfl⟩))
  constructor
  · rintro ⟨h1, o, ho, h2⟩
    exact ⟨o, ho, (getD_true hs (lt_of_get ho)).1 h1, (hd o).1 h2⟩
  · rintro ⟨o, ho, h1, h2⟩
    exact ⟨(getD_true hs (lt_of_get ho)).2 h1, o, ho, (hd o).2 h2⟩

theorem SI.all (h : SI P y ops f0 H0 S base ro ρ0 w0 listed q ρ f a w) (hr : Region.ready .any ops listed = []) : ∀ i, i < ops.size → listed[i]? = some true := by
  intro i
  induction i using Nat.strongRecOn with
  | _ i ih =>
    intro hi
    by_cases hl : listed[i]? = some true
    · exact hl
    · exfalso
      have ho : ops[i]? = some ops[i] := Array.getElem?_eq_getElem hi
      have : i ∈ Region.ready .any ops listed := (ready_iff h.size).2 ⟨_, ho, hl, fun k hk => by
        have hki : k < i := cx.planOk.back k i (by simpa using hi) ((ahead_iff (lget ho)).2 (.inl hk))
        exact ih k hki (by omega)⟩
      rw [hr] at this; cases this

theorem SI.sim {Q : Exit → Act → World → Prop} (hQ : ∀ e a' w', Post P ρ0 H0 w0 base ro .normal (S ops.size).f (S ops.size).H e a' w' → Q e a' w') : ∀ (fuel : Nat) (listed : Array Bool) (q : Nat) (ρ : Map) (f : Frm) (a : Act) (w : World),
    SI P y ops f0 H0 S base ro ρ0 w0 listed q ρ f a w → todo ops listed ≤ fuel → wpAnyIn (FW ro) 0 P .any ops Q fuel listed a w := by
  have hend : ∀ (listed : Array Bool) (q : Nat) (ρ : Map) (f : Frm) (a : Act) (w : World), SI P y ops f0 H0 S base ro ρ0 w0 listed q ρ f a w → Region.ready .any ops listed = [] → Q .normal a w :=
    fun listed q ρ f a w h hr => hQ _ _ _ (h.done cx (h.all cx hr) (cx.zero_le (Nat.le_refl _)))
  intro fuel
  induction fuel with
  | zero =>
    intro listed q ρ f a w h ht
    have hr : Region.ready .any ops listed = [] := by
      cases hr : Region.ready .any ops listed with
      | nil => rfl
      | cons i l =>
        exfalso
        obtain ⟨o, ho, hl, _⟩ := (ready_iff h.size).1 (show i ∈ Region.ready .any ops listed by rw [hr]; exact List.mem_cons_self)
        have := todo_set h.size (lt_of_get ho) hl
        omega
    exact ⟨hr, hend listed q ρ f a w h hr⟩
  | succ fuel ih =>
    intro listed q ρ f a w h ht
    refine ⟨hend listed q ρ f a w h, fun i hi => ?_⟩
    obtain ⟨o, ho, hl, hdir⟩ := (ready_iff h.size).1 hi
    have := todo_set h.size (lt_of_get ho) hl
    exact h.op cx ho hl hdir fun q' ρ' f' a' w' h' => ih _ q' ρ' f' a' w' h' (by omega)

end

/-- A region that draws its order. -/
theorem draw_ok {call : ACall} (hP : P.follows .mixedOrders = true) (hc : CallOk P call) : DrawOk P call := by
  intro id ops y
  have whole : YMono y → ∀ {f : Frm} {H : AH} {x : AX} {f' : Frm} {H' : AH}, regionA P call y ops true f H = some (x, f', H') →
      x = .normal ∧ ∃ (plan : List Plan) (S : Nat → TS) (endp : List AH), Cx P call y ops plan f H S endp ∧ (S ops.size).f = f' ∧ (S ops.size).H = H' := by
    intro hm f H x f' H' h
    unfold regionA at h
    simp only at h
    split at h
    · cases h
    · rename_i plan hplan
      have hpok := planOf_ok hplan
      have ht := draw_trace (P := P) (call := call) (y := y) (ops := ops) (plan := plan) (f0 := f) (H0 := H) (by rw [hpok.size]; simp) (ops.toList.zip plan) 0 rfl (Nat.zero_le _) h rfl rfl
      obtain ⟨hn, endp, v', h1, _, h3, _, h5⟩ := ht
      let S : Nat → TS := fun j => (runT P call y ops f H j).getD ⟨f, H, .atom undef⟩
      have hrun : ∀ j, j ≤ ops.size → runT P call y ops f H j = some (S j) := by
        have down : ∀ d j, j + d = ops.size → ∃ s, runT P call y ops f H j = some s := by
          intro d
          induction d with
          | zero => intro j hj; rw [show j = ops.size from by omega, h1]; exact ⟨_, rfl⟩
          | succ d ih =>
            intro j hj
            obtain ⟨s, hs⟩ := ih (j + 1) (by omega)
            cases hr : runT P call y ops f H j with
            | some s => exact ⟨s, rfl⟩
            | none =>
              exfalso
              have : runT P call y ops f H (j + 1) = (ops[j]?).bind fun o => (runT P call y ops f H j).bind (stepT P call y ops o) := rfl
              rw [this, hr] at hs
              generalize ops[j]? = z at hs
              cases z <;> cases hs
        intro j hj
        obtain ⟨s, hs⟩ := down (ops.size - j) j (by omega)
        show _ = some ((runT P call y ops f H j).getD _)
        rw [hs]; rfl
      have hlast := hrun ops.size (Nat.le_refl _)
      rw [h1] at hlast
      have hlast' : S ops.size = ⟨f', H', v'⟩ := (Option.some.inj hlast).symm
      refine ⟨hn, plan, S, endp, ?_, by rw [hlast'], by rw [hlast']⟩
      refine { callOk := hc, mono := hm, planOk := hpok, frm0 := rfl, heap0 := rfl, step := ?_, pk := ?_, quiet := ?_ }
      · intro j o ho
        have hj := lt_of_get ho
        have e : runT P call y ops f H (j + 1) = (ops[j]?).bind fun o => (runT P call y ops f H j).bind (stepT P call y ops o) := rfl
        rw [ho, hrun j (by omega), hrun (j + 1) (by omega)] at e
        exact e.symm
      · intro j hj hor
        exact h3 j (S j) (Nat.zero_le _) hj (hrun j hj) hor
      · intro j o p ho hp hw hfl hqu
        have hj := lt_of_get ho
        exact h5 j o p (S j) (S (j + 1)) (Nat.zero_le _) ho hp (hrun j (by omega)) (hrun (j + 1) (by omega)) hw hfl hqu
  refine ⟨fun hm f H x f' H' h => ?_, fun hm f H x f' H' h base ro ρ a w hi hfr hy hf Q hQ => ?_⟩
  · obtain ⟨_, plan, S, endp, cx, _, rfl⟩ := whole hm h
    exact cx.zero_le (Nat.le_refl _)
  · obtain ⟨rfl, plan, S, endp, cx, rfl, rfl⟩ := whole hm h
    refine wpIn_region_any hP ?_
    have hs0 : Stp P ρ H w ρ H { w with drawn := w.drawn + 1 } := Stp.of_heap hi rfl ⟨rfl, rfl⟩
    have hfree : Free ρ H H := fun b h1 h2 => by omega
    have hnone : ∀ i : Nat, (Array.replicate ops.size false)[i]? ≠ some true := by
      intro i e
      rw [Array.getElem?_replicate] at e
      split at e <;> cases e
    refine SI.sim cx (ρ0 := ρ) (w0 := { w with drawn := w.drawn + 1 }) (base := base) (ro := ro) (fun e a' w' hp => hQ e a' w' (hp.before hs0 hf)) ops.size _ 0 ρ f a _ ?_ ?_
    · have hbnd : ∀ j, j < ops.size → H.next ≤ (S j).H.next := fun j hj => cx.zero_le (by omega)
      refine { size := by simp, qle := Nat.zero_le _, closed := fun j o e => absurd e (hnone j), below := fun j o hj => by omega, above := fun j o _ _ _ => hnone j, wrote := ?_, fr := hfr.step hi hs0 hfree, inv := by rw [cx.heap0]; exact hs0.inv, yok := hy.step hi hs0 hfree,
               unl := ?_, held := fun i _ e => absurd e (hnone i), later := ?_, same := fun _ _ => rfl, io := ⟨rfl, rfl⟩, wsize := Nat.le_refl _, kept := ?_, made := ?_, frame := fun _ _ _ => rfl }
      · exact ⟨rfl, rfl, rfl, fun i o t e => absurd e (hnone i), fun _ _ => rfl, fun _ _ => rfl⟩
      · intro i hi' _
        have hlt := flt_lt hi'
        have hn := cx.flt_next hi'
        have := cx.mono_next (i := i + 1) (j := ops.size) (by omega) (Nat.le_refl _)
        exact hf _ (hbnd i hlt) (by omega)
      · intro i o _ ho _ b h1 h2
        have hlt := lt_of_get ho
        have := cx.mono_next (i := i + 1) (j := ops.size) (by omega) (Nat.le_refl _)
        have := hbnd i hlt
        exact hf b (by omega) (by omega)
      · intro b B' _ hB
        rw [cx.heap0] at hB
        exact ⟨B', hB, fun h => h⟩
      · intro b B' l hb hB _
        rw [cx.heap0] at hB
        have := hi.old b B' hB
        omega
    · unfold todo
      exact Nat.le_trans (List.length_filter_le _ _) (by simp)

/-- THE MACHINE IS SOUND. -/
theorem callA_sound (hP : P.follows .mixedOrders = true) {prim : ACall} (hp : PrimOk P prim) (L n : Nat) : CallOk P (callA P prim L n) :=
  callA_ok hp (fun _ hc => draw_ok hP hc) L n

#print axioms callA_sound

end Go.Am

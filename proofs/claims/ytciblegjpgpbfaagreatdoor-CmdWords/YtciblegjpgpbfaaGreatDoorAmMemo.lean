/-
  What a call has come to on a heap of its own, taken over to any heap where its arguments have the same shape. No condition.
-/
import Derived.Test.YtciblegjpgpbfaaGreatDoorAmPat
namespace Go.Am
open Go

mutual
/-- Names changed. -/
noncomputable def ren (m : Nat → Nat) : AV → AV
  | .top => .top
  | .atom v => .atom v
  | .ptr b o => .ptr (m b) o
  | .slice b o n c => .slice (m b) o n c
  | .mapr b => .mapr (m b)
  | .fn f x y => .fn f (renL m x) (renL m y)
  | .iface t v => .iface t (ren m v)
  | .agg l => .agg (renL m l)
  | .tuple l => .tuple (renL m l)
noncomputable def renL (m : Nat → Nat) : List AV → List AV
  | [] => []
  | a :: l => ren m a :: renL m l
end

mutual
/-- Names below a bound; no yield in it. -/
noncomputable def named (n : Nat) : AV → Bool
  | .top => true
  | .atom _ => true
  | .ptr b _ => Nat.blt b n
  | .slice b _ _ _ => Nat.blt b n
  | .mapr _ => false
  | .fn _ _ _ => false
  | .iface _ v => named n v
  | .agg l => namedL n l
  | .tuple l => namedL n l
noncomputable def namedL (n : Nat) : List AV → Bool
  | [] => true
  | a :: l => named n a && namedL n l
end

mutual
theorem ren_rel {σ τ : Map} {m m' : Nat → Nat} {n : Nat} (h : ∀ i, i < n → τ (m' i) = σ (m i)) : (a : AV) → ∀ {x : Value}, named n a = true → VRel σ (ren m a) x → VRel τ (ren m' a) x
  | .top, x, _, _ => by simpa [ren] using VRel.top x
  | .atom v, x, _, hx => by
    simp only [ren] at hx ⊢
    cases hx
    exact .atom v
  | .ptr b o, x, hn, hx => by
    simp only [named, Nat.blt_eq] at hn
    simp only [ren] at hx ⊢
    cases hx with
    | ptr hl => exact .ptr (by rw [h b hn]; exact hl)
  | .slice b o l c, x, hn, hx => by
    simp only [named, Nat.blt_eq] at hn
    simp only [ren] at hx ⊢
    cases hx with
    | exact hl hc => exact .exact (by rw [h b hn]; exact hl) hc
    | room hl hc ht => exact .room (by rw [h b hn]; exact hl) hc ht
    | unk hl hc => exact .unk (by rw [h b hn]; exact hl) hc
  | .mapr b, x, hn, _ => by simp [named] at hn
  | .fn f u v, x, hn, _ => by simp [named] at hn
  | .iface t v, x, hn, hx => by
    simp only [named] at hn
    simp only [ren] at hx ⊢
    cases hx with
    | iface hv => exact .iface (ren_rel h v hn hv)
  | .agg l, x, hn, hx => by
    simp only [named] at hn
    simp only [ren] at hx ⊢
    cases hx with
    | agg hl => exact .agg (renL_rel h l hn hl)
  | .tuple l, x, hn, hx => by
    simp only [named] at hn
    simp only [ren] at hx ⊢
    cases hx with
    | tuple hl => exact .tuple (renL_rel h l hn hl)
theorem renL_rel {σ τ : Map} {m m' : Nat → Nat} {n : Nat} (h : ∀ i, i < n → τ (m' i) = σ (m i)) : (l : List AV) → ∀ {xs : List Value}, namedL n l = true → VRels σ (renL m l) xs → VRels τ (renL m' l) xs
  | [], xs, _, hx => by
    simp only [renL] at hx ⊢
    cases hx; exact .nil
  | a :: l, xs, hn, hx => by
    simp only [namedL, Bool.and_eq_true] at hn
    simp only [renL] at hx ⊢
    cases hx with
    | cons ha ht => exact .cons (ren_rel h a hn.1 ha) (renL_rel h l hn.2 ht)
end

variable {P : Program}

/-- The blocks of a result, laid behind the heap's end under new names. -/
noncomputable def instL (base : Nat) : List Blk → AH → AH
  | [], H => H
  | B :: bs, H => instL base bs (H.push { cells := renL (fun i => base + i) B.cells, elem := B.elem, own := true, fz := B.fz, head := B.head })

theorem instL_next (base : Nat) : ∀ (bs : List Blk) (H : AH), (instL base bs H).next = H.next + bs.length
  | [], H => rfl
  | B :: bs, H => by rw [instL, instL_next base bs]; simp; omega
theorem instL_old (base : Nat) : ∀ (bs : List Blk) (H : AH) (b : Nat), b < H.next → (instL base bs H).get b = H.get b
  | [], H, b, _ => rfl
  | B :: bs, H, b, hb => by
    rw [instL, instL_old base bs _ b (by simp; omega), AH.get_push_ne _ _ (by omega)]
theorem instL_new (base : Nat) : ∀ (bs : List Blk) (H : AH) (i : Nat) (B : Blk), bs[i]? = some B →
    (instL base bs H).get (H.next + i) = some { cells := renL (fun i => base + i) B.cells, elem := B.elem, own := true, fz := B.fz, head := B.head }
  | [], H, i, B, h => by simp at h
  | C :: bs, H, i, B, h => by
    rw [instL]
    cases i with
    | zero =>
      simp only [List.getElem?_cons_zero, Option.some.injEq] at h
      subst h
      rw [instL_old base bs _ _ (by simp)]
      exact AH.get_push_same _ _
    | succ i =>
      have := instL_new base bs (H.push { cells := renL (fun i => base + i) C.cells, elem := C.elem, own := true, fz := C.fz, head := C.head }) i B (by simpa using h)
      rw [AH.next_push] at this
      rw [show H.next + (i + 1) = H.next + 1 + i from by omega]
      exact this
theorem instL_out (base : Nat) : ∀ (bs : List Blk) (H : AH) (b : Nat), H.next + bs.length ≤ b → (instL base bs H).get b = H.get b
  | [], H, b, _ => rfl
  | B :: bs, H, b, hb => by
    simp only [List.length_cons] at hb
    rw [instL, instL_out base bs _ b (by simp; omega), AH.get_push_ne _ _ (by omega)]

/-- A call's result as it lies in the heap that the call leaves. -/
structure Result (K1 : AH) (v0 v : AV) (μ : Nat → Nat) (bs : List Blk) : Prop where
  val : v0 = ren μ v
  ok : named bs.length v = true
  blk : ∀ (i : Nat) (B : Blk), bs[i]? = some B → namedL bs.length B.cells = true ∧ ∃ B1, K1.get (μ i) = some B1 ∧ B1.own = true ∧ B1.elem = B.elem ∧ B1.fz = B.fz ∧ B1.head = B.head ∧ B1.cells = renL μ B.cells
  inj : ∀ i j, i < bs.length → j < bs.length → i ≠ j → μ i ≠ μ j

/-- The step of a call on the canonical heap, as a step on the heap at hand. -/
theorem memo_stp {ρ σ ρ' : Map} {H K0 K1 : AH} {w w' : World} {v0 v : AV} {μ : Nat → Nat} {bs : List Blk} {y : Value} (hi : Inv P ρ H w) (hf : ∀ b, H.next ≤ b → b < H.next + bs.length → ρ b = none) (hn : NoOwn K0)
    (hs : Stp P σ K0 w ρ' K1 w') (hv : VRel ρ' v0 y) (hr : Result K1 v0 v μ bs) :
    ∃ τ, VRel τ (ren (fun i => H.next + i) v) y ∧ Stp P ρ H w τ (instL H.next bs H) w' := by
  let τ : Map := fun b => if H.next ≤ b ∧ b < H.next + bs.length then ρ' (μ (b - H.next)) else ρ b
  have hτn : ∀ i, i < bs.length → τ (H.next + i) = ρ' (μ i) := fun i hi => by
    show (if _ then _ else _) = _
    rw [if_pos (by omega), show H.next + i - H.next = i from by omega]
  have hτo : ∀ b, ¬ (H.next ≤ b ∧ b < H.next + bs.length) → τ b = ρ b := fun b hb => if_neg hb
  have hle : Map.le ρ τ := fun b l e => by
    by_cases hb : H.next ≤ b ∧ b < H.next + bs.length
    · rw [hf b hb.1 hb.2] at e; cases e
    · rw [hτo b hb]; exact e
  have hold : ∀ k, k < w.heap.size → w'.heap[k]? = w.heap[k]? := fun k hk => hs.frame k hk fun b B l h1 h2 _ => by rw [hn b B h1] at h2; cases h2
  -- a result's block is new memory
  have hnew : ∀ i l, i < bs.length → ρ' (μ i) = some l → w.heap.size ≤ l.blk := by
    intro i l hil hl
    have hB : bs[i]? = some bs[i] := List.getElem?_eq_getElem hil
    obtain ⟨_, B1, h1, h2, _⟩ := hr.blk i _ hB
    by_cases hk : μ i < K0.next
    · obtain ⟨B0, g1, g2⟩ := hs.kept (μ i) B1 hk h1
      have := g2 h2
      rw [hn _ _ g1] at this; cases this
    · rcases hs.made (μ i) B1 l (by omega) h1 hl with g | ⟨b0, B0, l0, g1, g2, _, _⟩
      · exact g
      · have := g2 h2
        rw [hn _ _ g1] at this; cases this
  have hget : ∀ b B, (instL H.next bs H).get b = some B → (b < H.next ∧ H.get b = some B) ∨ ∃ i B', b = H.next + i ∧ i < bs.length ∧ bs[i]? = some B' ∧ B = { cells := renL (fun i => H.next + i) B'.cells, elem := B'.elem, own := true, fz := B'.fz, head := B'.head } := by
    intro b B h
    by_cases h1 : b < H.next
    · rw [instL_old _ _ _ _ h1] at h; exact .inl ⟨h1, h⟩
    · by_cases h2 : b < H.next + bs.length
      · obtain ⟨i, rfl⟩ : ∃ i, b = H.next + i := ⟨b - H.next, by omega⟩
        have hil : i < bs.length := by omega
        have hB : bs[i]? = some bs[i] := List.getElem?_eq_getElem hil
        rw [instL_new _ _ _ _ _ hB] at h
        exact .inr ⟨i, _, rfl, hil, hB, (Option.some.inj h).symm⟩
      · rw [instL_out _ _ _ _ (by omega)] at h
        have := hi.old b B h; omega
  refine ⟨τ, ren_rel hτn v hr.ok (by rw [← hr.val]; exact hv), ?_⟩
  refine { io := hs.io, inv := ?_, next := by rw [instL_next]; omega, same := ?_, size := hs.size, kept := ?_, made := ?_, frame := fun k hk _ => hold k hk }
  · refine { lt := ?_, blk := ?_, apart := ?_, old := ?_, glob := fun g hg => let ⟨t, ht⟩ := hi.glob g hg; ⟨t, hle _ _ ht⟩ }
    · intro b l e
      by_cases hb : H.next ≤ b ∧ b < H.next + bs.length
      · obtain ⟨i, rfl⟩ : ∃ i, b = H.next + i := ⟨b - H.next, by omega⟩
        rw [hτn i (by omega)] at e
        exact hs.inv.lt _ _ e
      · rw [hτo b hb] at e; exact Nat.lt_of_lt_of_le (hi.lt b l e) hs.size
    · intro b B l e1 e2
      rcases hget b B e1 with ⟨h1, h2⟩ | ⟨i, B', rfl, hil, hB, rfl⟩
      · rw [hτo b (by omega)] at e2
        obtain ⟨cs, fz, k1, k2, k3, k4, k5⟩ := hi.blk b B l h2 e2
        exact ⟨cs, fz, by rw [hold _ (hi.lt b l e2)]; exact k1, k2, k3, k4.mono hle, k5⟩
      · rw [hτn i hil] at e2
        obtain ⟨hnm, B1, g1, g2, g3, g4, g5, g6⟩ := hr.blk i B' hB
        obtain ⟨cs, fz, k1, k2, k3, k4, k5⟩ := hs.inv.blk _ _ _ g1 e2
        have hlen : ∀ (m m' : Nat → Nat) (l : List AV), (renL m l).length = (renL m' l).length := by
          intro m m' l
          induction l with
          | nil => rfl
          | cons a l ih => simp [renL, ih]
        have hlen' := hlen (fun i => H.next + i) μ B'.cells
        rw [g6] at k2 k4 k5
        rw [g3] at k1
        refine ⟨cs, fz, k1, by simp only; rw [hlen']; exact k2, k3, ?_, ?_⟩
        · simp only
          rw [hlen']
          exact renL_rel hτn B'.cells hnm k4
        · simp only
          rw [hlen']
          exact ⟨fun _ => by have := k5.1 g2; rw [g4] at this; exact this, fun e => k5.2 (by rw [g5]; exact e)⟩
    · intro b1 b2 B1 B2 l1 l2 hne e1 e2 e3 e4 o1
      rcases hget b1 B1 e1 with ⟨h1, h2⟩ | ⟨i, B', rfl, hil, hB, rfl⟩
      · rw [hτo b1 (by omega)] at e3
        rcases hget b2 B2 e2 with ⟨h1', h2'⟩ | ⟨j, C', rfl, hjl, hC, rfl⟩
        · rw [hτo b2 (by omega)] at e4
          exact hi.apart b1 b2 B1 B2 l1 l2 hne h2 h2' e3 e4 o1
        · rw [hτn j hjl] at e4
          have := hnew j l2 hjl e4
          have := hi.lt b1 l1 e3
          omega
      · rw [hτn i hil] at e3
        rcases hget b2 B2 e2 with ⟨h1', h2'⟩ | ⟨j, C', rfl, hjl, hC, rfl⟩
        · rw [hτo b2 (by omega)] at e4
          have := hnew i l1 hil e3
          have := hi.lt b2 l2 e4
          omega
        · rw [hτn j hjl] at e4
          obtain ⟨_, D1, g1, g2, _⟩ := hr.blk i B' hB
          obtain ⟨_, D2, g3, g4, _⟩ := hr.blk j C' hC
          exact hs.inv.apart _ _ D1 D2 l1 l2 (hr.inj i j hil hjl (by omega)) g1 g3 e3 e4 g2
    · intro b B e
      rw [instL_next]
      rcases hget b B e with ⟨h1, _⟩ | ⟨i, _, rfl, hil, _⟩
      · omega
      · omega
  · intro b hb
    rw [instL_next] at hb
    exact hτo b (by omega)
  · intro b B' hb e
    rw [instL_old _ _ _ _ hb] at e
    exact ⟨B', e, id⟩
  · intro b B' l hb e e2
    rcases hget b B' e with ⟨h1, _⟩ | ⟨i, _, rfl, hil, _⟩
    · omega
    · rw [hτn i hil] at e2
      exact .inl (hnew i l hil e2)

/-- The heap that knows nothing but the globals' names. -/
def bare (P : Program) : AH := { next := P.globals.size, m := .leaf }

/-- A global whose cells are known: its number, its elements' type, its cells. -/
structure Glob where
  g : Nat
  e : TypeId
  vs : List Value

/-- Do the globals lie so? -/
noncomputable def globB (P : Program) (H : AH) (gs : List Glob) : Bool :=
  List.rec (motive := fun _ => Bool) true (fun x _ ih => Nat.blt x.g P.globals.size && ((match placeA H x.e x.g 0 x.vs.length with
    | some l => AV.beqs (x.vs.map .atom) l
    | none => false) && ih)) gs
/-- The heap that knows these globals' cells. -/
noncomputable def bareG (P : Program) (gs : List Glob) : AH :=
  List.rec (motive := fun _ => AH) (bare P) (fun x _ ih => ih.put x.g (some { cells := x.vs.map .atom, elem := x.e, own := false })) gs
theorem globB_cons (H : AH) (x : Glob) (l : List Glob) : globB P H (x :: l) = (Nat.blt x.g P.globals.size && ((match placeA H x.e x.g 0 x.vs.length with
    | some l => AV.beqs (x.vs.map .atom) l
    | none => false) && globB P H l)) := rfl
theorem bareG_cons (x : Glob) (l : List Glob) : bareG P (x :: l) = (bareG P l).put x.g (some { cells := x.vs.map .atom, elem := x.e, own := false }) := rfl
theorem bareG_next (gs : List Glob) : (bareG P gs).next = P.globals.size := by
  induction gs with
  | nil => rfl
  | cons x l ih => rw [bareG_cons, AH.next_put, ih]

theorem bareG_ok {ρ : Map} {H : AH} {w : World} (hi : Inv P ρ H w) (gs : List Glob) (h : globB P H gs = true) : Inv P (fun b => if b < P.globals.size then ρ b else none) (bareG P gs) w ∧ NoOwn (bareG P gs) := by
  induction gs with
  | nil =>
    exact ⟨Inv.blank
      (fun b l e => by
        split at e
        · exact hi.lt b l e
        · cases e)
      (fun g hg => by
        obtain ⟨t, ht⟩ := hi.glob g hg
        exact ⟨t, by simp only [hg, if_true]; exact ht⟩) P.globals.size, fun b B e => by cases e⟩
  | cons x l ih =>
    rw [globB_cons, Bool.and_eq_true, Bool.and_eq_true] at h
    obtain ⟨h1, h2, h3⟩ := h
    rw [Nat.blt_eq] at h1
    obtain ⟨hi', hn⟩ := ih h3
    split at h2
    case h_2 => cases h2
    rename_i m hm
    obtain ⟨B, hB, he, hle, rfl⟩ := placeA_some hm
    have hm' := beqs_eq _ _ h2
    rw [bareG_cons]
    have hno : NoOwn ((bareG P l).put x.g (some { cells := x.vs.map .atom, elem := x.e, own := false })) := fun b C e => by
      by_cases hb : b = x.g
      · subst hb; rw [AH.get_put_same] at e; cases e; rfl
      · rw [AH.get_put_ne _ _ hb] at e; exact hn b C e
    refine ⟨{ lt := hi'.lt, blk := fun b C t e1 e2 => ?_, apart := fun b1 b2 B1 B2 l1 l2 _ e1 _ _ _ o1 => (by rw [hno b1 B1 e1] at o1; cases o1), old := fun b C e => ?_, glob := hi'.glob }, hno⟩
    · by_cases hb : b = x.g
      · subst hb
        rw [AH.get_put_same] at e1
        cases e1
        rw [if_pos h1] at e2
        obtain ⟨cs, fz, k1, k2, k3, k4, _⟩ := hi.blk x.g B t hB e2
        have hl : (x.vs.map AV.atom).length = x.vs.length := List.length_map ..
        refine ⟨cs, fz, by rw [← he]; exact k1, by show (x.vs.map AV.atom).length ≤ _; omega, k3, ?_, ⟨fun e => (by cases e), fun e => (by cases e)⟩⟩
        show VRels _ (x.vs.map AV.atom) _
        have hc := (k4.drop 0).take x.vs.length
        rw [← hm', List.drop_zero, List.take_take, Nat.min_eq_left (by omega)] at hc
        rw [hl]
        generalize (cs.toList.drop t.off).take x.vs.length = ys at hc
        clear hm' h2 hm hl hle k1 k4
        revert ys
        generalize x.vs = vs
        induction vs with
        | nil => intro ys hc; cases hc; exact .nil
        | cons v vs ih => intro ys hc; cases hc with | cons hv ht => cases hv; exact .cons (.atom v) (ih _ ht)
      · rw [AH.get_put_ne _ _ hb] at e1; exact hi'.blk b C t e1 e2
    · rw [AH.next_put]
      by_cases hb : b = x.g
      · subst hb; rw [bareG_next]; exact h1
      · rw [AH.get_put_ne _ _ hb] at e; exact hi'.old b C e

/-- What is known of a function at arguments of these shapes (and globals whose cells are these). -/
noncomputable def memo (P : Program) (gs : List Glob) (ps : List Pat) (v : AV) (bs : List Blk) : ACall := fun _ args y H =>
  match y with
  | none => cond (fitsL H ps args && globB P H gs) (some (.ret (ren (fun i => H.next + i) v) (instL H.next bs H))) none
  | some _ => none

/-- What a call's answer must keep to be a primitive's. -/
def Kept (P : Program) (p : ACall) (g : FuncId) : Prop :=
  (∀ args y H r, p g args y H = some r → YMono y → H.next ≤ r.heap.next) ∧
  (∀ args y H r, p g args y H = some r → ∀ (ρ : Map) (w : World) (xs : Array Value), Inv P ρ H w → VRels ρ args xs.toList → YOk P ρ y w → YMono y → Free ρ H r.heap → CallsIn Fence.wide 0 P g xs w (CRel P ρ H w r))

/-- ONE RUN ON A HEAP OF ITS OWN GIVES WHAT A CALL COMES TO WHEREVER ITS ARGUMENTS HAVE THAT SHAPE. -/
theorem memo_ok {call : ACall} (hc : CallOk P call) {g : FuncId} {gs : List Glob} {ps : List Pat} {v0 v : AV} {K1 : AH} {μ : Nat → Nat} {bs : List Blk} (h : call g (layL ps (bareG P gs)).1 none (layL ps (bareG P gs)).2 = some (.ret v0 K1)) (hr : Result K1 v0 v μ bs) :
    Kept P (memo P gs ps v bs) g := by
  have inv : ∀ {args : List AV} {y : Option (Nat × Yld)} {H : AH} {r : CRes}, memo P gs ps v bs g args y H = some r → fitsL H ps args = true ∧ globB P H gs = true ∧ r = .ret (ren (fun i => H.next + i) v) (instL H.next bs H) := by
    intro args y H r e
    unfold memo at e
    cases y with
    | none => obtain ⟨h1, e⟩ := cond_some e; cases e; rw [Bool.and_eq_true] at h1; exact ⟨h1.1, h1.2, rfl⟩
    | some z => cases e
  refine ⟨fun args y H r e _ => ?_, fun args y H r e ρ w xs hi hx _ _ hf => ?_⟩
  · obtain ⟨_, _, rfl⟩ := inv e
    show H.next ≤ (instL H.next bs H).next
    rw [instL_next]; omega
  · obtain ⟨hfit, hgl, rfl⟩ := inv e
    obtain ⟨hk0, hn0⟩ := bareG_ok hi gs hgl
    have hf0 : Fresh (fun b => if b < P.globals.size then ρ b else none) (bareG P gs) := fun b hb => if_neg (by rw [bareG_next] at hb; omega)
    obtain ⟨σ, hl, hxs⟩ := layL_ok hi ps hfit hx hk0 hn0 hf0
    refine CallsIn.mono (hc.ok g _ none _ _ h σ w xs hl.inv hxs YOk.none YMono.none (fun b h1 _ => hl.fresh b h1)) fun e' w' hh => ?_
    cases hh with
    | ret hv hs =>
      obtain ⟨τ, h1, h2⟩ := memo_stp hi (fun b g1 g2 => hf b g1 (by show b < (instL H.next bs H).next; rw [instL_next]; exact g2)) hl.noOwn hs hv hr
      exact .ret h1 h2

#print axioms memo_ok

end Go.Am

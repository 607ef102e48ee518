/-
  Tables of what is known of calls: an entry may use those ahead of it. No condition.
-/
import Derived.Test.YtciblegjpgpbfaaGreatDoorAmCheck
namespace Go.Am
open Go

/-- What is known of one call: its number among all; the function; does it read the globals; the arguments' shapes; its value; its blocks; where they lay. -/
structure Ent where
  ix : Nat
  g : FuncId
  gl : Bool
  ps : List Pat
  v : AV
  bs : List Blk
  mu : List Nat

noncomputable def Ent.globs (G : List Glob) (e : Ent) : List Glob := cond e.gl G []
noncomputable def Ent.prim (P : Program) (G : List Glob) (e : Ent) : ACall := memo P (e.globs G) e.ps e.v e.bs

noncomputable def orElseR (a : Option CRes) (b : Option CRes) : Option CRes :=
  match a with
  | some r => some r
  | none => b

/-- The first of the entries below k that fits. -/
noncomputable def seek (P : Program) (G : List Glob) (k : Nat) (es : List Ent) : ACall := fun g args y H =>
  List.rec (motive := fun _ => Option CRes) none (fun e _ ih => cond (Nat.blt e.ix k && Nat.beq e.g g) (orElseR (e.prim P G g args y H) ih) ih) es
theorem seek_nil (G : List Glob) (k : Nat) (P : Program) (g : FuncId) (args : List AV) (y : Option (Nat × Yld)) (H : AH) : seek P G k [] g args y H = none := rfl
theorem seek_cons (P : Program) (G : List Glob) (k : Nat) (e : Ent) (es : List Ent) (g : FuncId) (args : List AV) (y : Option (Nat × Yld)) (H : AH) :
    seek P G k (e :: es) g args y H = cond (Nat.blt e.ix k && Nat.beq e.g g) (orElseR (e.prim P G g args y H) (seek P G k es g args y H)) (seek P G k es g args y H) := rfl

/-- A table: the functions' entries, under the functions' numbers. -/
abbrev Tab := Tr (List Ent)

/-- The primitives of a table: the entries below k. -/
noncomputable def Tab.prim (P : Program) (G : List Glob) (T : Tab) (k : Nat) : ACall := fun g args y H =>
  match Tr.get T g with
  | some es => seek P G k es g args y H
  | none => none

noncomputable def Tab.flat (T : Tab) : List Ent :=
  Tr.rec (motive := fun _ => List Ent) [] (fun v _ _ l r => v.getD [] ++ (l ++ r)) T
theorem Tab.flat_node (v : Option (List Ent)) (l r : Tab) : Tab.flat (.node v l r) = v.getD [] ++ (Tab.flat l ++ Tab.flat r) := rfl

theorem Tab.mem_flat : ∀ {T : Tab} {g : Nat} {es : List Ent}, Tr.get T g = some es → ∀ e ∈ es, e ∈ Tab.flat T := by
  intro T
  induction T with
  | leaf => intro g es h; rw [Tr.get_leaf] at h; cases h
  | node v l r ihl ihr =>
    intro g es h e he
    rw [Tr.get_node] at h
    rw [Tab.flat_node, List.mem_append, List.mem_append]
    cases h0 : Nat.beq g 0 with
    | true =>
      rw [h0] at h
      cases h
      exact .inl he
    | false =>
      rw [h0] at h
      cases h1 : Nat.beq (Nat.mod g 2) 1 with
      | true => rw [h1] at h; exact .inr (.inl (ihl h e he))
      | false => rw [h1] at h; exact .inr (.inr (ihr h e he))

variable {P : Program}

/-- What the kernel is asked of an entry. -/
noncomputable def chk (P : Program) (G : List Glob) (T : Tab) (L N : Nat) (e : Ent) : Bool :=
  runB (callA P (Tab.prim P G T e.ix) L N e.g (layL e.ps (bareG P (e.globs G))).1 none (layL e.ps (bareG P (e.globs G))).2) e.v e.mu e.bs
noncomputable def chks (P : Program) (G : List Glob) (T : Tab) (L N : Nat) (es : List Ent) : Bool :=
  List.rec (motive := fun _ => Bool) true (fun e _ ih => cond (chk P G T L N e) ih false) es
theorem chks_ok {G : List Glob} {T : Tab} {L N : Nat} {es : List Ent} (h : chks P G T L N es = true) : ∀ e ∈ es, chk P G T L N e = true := by
  induction es with
  | nil => intro e he; cases he
  | cons x es ih =>
    have h' : cond (chk P G T L N x) (chks P G T L N es) false = true := h
    cases hx : chk P G T L N x with
    | false => rw [hx] at h'; cases h'
    | true =>
      rw [hx] at h'
      intro e he
      rcases List.mem_cons.1 he with rfl | he
      · exact hx
      · exact ih h' e he

theorem seek_some {G : List Glob} {k : Nat} {g : FuncId} {args : List AV} {y : Option (Nat × Yld)} {H : AH} {r : CRes} : ∀ {es : List Ent}, seek P G k es g args y H = some r → ∃ e ∈ es, e.ix < k ∧ e.g = g ∧ e.prim P G g args y H = some r := by
  intro es
  induction es with
  | nil => intro h; rw [seek_nil] at h; cases h
  | cons e es ih =>
    intro h
    rw [seek_cons] at h
    cases hc : (Nat.blt e.ix k && Nat.beq e.g g) with
    | false =>
      rw [hc] at h
      obtain ⟨e', h1, h2⟩ := ih h
      exact ⟨e', List.mem_cons_of_mem _ h1, h2⟩
    | true =>
      rw [hc] at h
      rw [Bool.and_eq_true, Nat.blt_eq] at hc
      have hg := Nat.eq_of_beq_eq_true hc.2
      cases hp : e.prim P G g args y H with
      | some q =>
        rw [hp] at h
        cases h
        exact ⟨e, List.mem_cons_self, hc.1, hg, hp⟩
      | none =>
        rw [hp] at h
        obtain ⟨e', h1, h2⟩ := ih h
        exact ⟨e', List.mem_cons_of_mem _ h1, h2⟩

theorem Tab.prim_some {G : List Glob} {T : Tab} {k : Nat} {g : FuncId} {args : List AV} {y : Option (Nat × Yld)} {H : AH} {r : CRes} (h : Tab.prim P G T k g args y H = some r) : ∃ e ∈ Tab.flat T, e.ix < k ∧ e.g = g ∧ e.prim P G g args y H = some r := by
  unfold Tab.prim at h
  split at h
  · rename_i es hes
    obtain ⟨e, h1, h2⟩ := seek_some h
    exact ⟨e, Tab.mem_flat hes e h1, h2⟩
  · cases h

/-- A TABLE WHOSE ENTRIES ALL STAND HOLDS: its primitives are sound. -/
theorem Tab.ok (hP : P.follows .mixedOrders = true) {G : List Glob} {T : Tab} {L N : Nat} (h : ∀ e ∈ Tab.flat T, chk P G T L N e = true) (k : Nat) : PrimOk P (Tab.prim P G T k) := by
  induction k using Nat.strongRecOn with
  | _ k ih =>
    have key : ∀ e ∈ Tab.flat T, e.ix < k → Kept P (e.prim P G) e.g := by
      intro e he hk
      obtain ⟨v0, K1, h1, h2⟩ := runB_ok (h e he)
      exact memo_ok (callA_sound hP (ih e.ix hk) L N) h1 h2
    refine ⟨fun g args y H r e hm => ?_, fun g args y H r e => ?_⟩
    · obtain ⟨x, h1, h2, h3, h4⟩ := Tab.prim_some e
      subst h3
      exact (key x h1 h2).1 args y H r h4 hm
    · obtain ⟨x, h1, h2, h3, h4⟩ := Tab.prim_some e
      subst h3
      exact (key x h1 h2).2 args y H r h4

/-- ANY ENTRY OF SUCH A TABLE HOLDS. -/
theorem Tab.kept (hP : P.follows .mixedOrders = true) {G : List Glob} {T : Tab} {L N : Nat} (h : ∀ e ∈ Tab.flat T, chk P G T L N e = true) {e : Ent} (he : e ∈ Tab.flat T) : Kept P (e.prim P G) e.g := by
  obtain ⟨v0, K1, h1, h2⟩ := runB_ok (h e he)
  exact memo_ok (callA_sound hP (Tab.ok hP h e.ix) L N) h1 h2

#print axioms Tab.ok

end Go.Am

/-
  The abstract machine's values and heap, held against the model's. No condition: lemmas on the relation alone.
-/
import Derived.Test.YtciblegjpgpbfaaGreatDoorAmExec
import Derived.RangeFuncIn
import Derived.RangeFuncLeaves
namespace Go.Am

/-- Where an abstract block lies: the block, the first cell, how many cells from there on are its own. -/
structure Loc where
  blk : Nat
  off : Nat
  tot : Nat

abbrev Map := Nat → Option Loc

def Loc.addr (l : Loc) (i : Nat) : Addr := ⟨l.blk, l.off + i, none⟩

mutual
inductive VRel (ρ : Map) : AV → Value → Prop
  | top (v : Value) : VRel ρ .top v
  | atom (v : Value) : VRel ρ (.atom v) v
  | ptr {b off : Nat} {l : Loc} (h : ρ b = some l) : VRel ρ (.ptr b off) (.pointer (some (l.addr off)))
  | exact {b off len c : Nat} {l : Loc} (h : ρ b = some l) (hc : len ≤ c) : VRel ρ (.slice b off len (.exact c)) (.slice (some (l.addr off)) len c)
  | room {b off len esz c : Nat} {l : Loc} (h : ρ b = some l) (hc : len ≤ c) (ht : off + c * esz = l.tot) : VRel ρ (.slice b off len (.room esz)) (.slice (some (l.addr off)) len c)
  | unk {b off len c : Nat} {l : Loc} (h : ρ b = some l) (hc : len ≤ c) : VRel ρ (.slice b off len .unk) (.slice (some (l.addr off)) len c)
  | fn {g : FuncId} {as bs : List AV} {x y : Array Value} (ha : VRels ρ as x.toList) (hb : VRels ρ bs y.toList) : VRel ρ (.fn (.func g) as bs) (.func (.func g) x y)
  | yield {k : Nat} {l : Loc} (h : ρ k = some l) : VRel ρ (.fn (.yield k) [] []) (.func (.yield l.blk) #[] #[])
  | iface {t : TypeId} {v : AV} {w : Value} (h : VRel ρ v w) : VRel ρ (.iface t v) (.iface t w)
  | agg {l : List AV} {x : Array Value} (h : VRels ρ l x.toList) : VRel ρ (.agg l) (.agg x)
  | tuple {l : List AV} {x : Array Value} (h : VRels ρ l x.toList) : VRel ρ (.tuple l) (.tuple x)
inductive VRels (ρ : Map) : List AV → List Value → Prop
  | nil : VRels ρ [] []
  | cons {a : AV} {v : Value} {l : List AV} {m : List Value} (h : VRel ρ a v) (t : VRels ρ l m) : VRels ρ (a :: l) (v :: m)
end

def Map.le (ρ σ : Map) : Prop := ∀ b l, ρ b = some l → σ b = some l
theorem Map.le_refl (ρ : Map) : Map.le ρ ρ := fun _ _ h => h
theorem Map.le_trans {ρ σ τ : Map} (h : Map.le ρ σ) (k : Map.le σ τ) : Map.le ρ τ := fun b l e => k b l (h b l e)

mutual
theorem VRel.mono {ρ σ : Map} (h : Map.le ρ σ) : {a : AV} → {v : Value} → VRel ρ a v → VRel σ a v
  | _, _, .top v => .top v
  | _, _, .atom v => .atom v
  | _, _, .ptr e => .ptr (h _ _ e)
  | _, _, .exact e c => .exact (h _ _ e) c
  | _, _, .room e c t => .room (h _ _ e) c t
  | _, _, .unk e c => .unk (h _ _ e) c
  | _, _, .fn a b => .fn (VRels.mono h a) (VRels.mono h b)
  | _, _, .yield e => .yield (h _ _ e)
  | _, _, .iface v => .iface (VRel.mono h v)
  | _, _, .agg l => .agg (VRels.mono h l)
  | _, _, .tuple l => .tuple (VRels.mono h l)
theorem VRels.mono {ρ σ : Map} (h : Map.le ρ σ) : {l : List AV} → {m : List Value} → VRels ρ l m → VRels σ l m
  | _, _, .nil => .nil
  | _, _, .cons a t => .cons (VRel.mono h a) (VRels.mono h t)
end

section lists
variable {ρ : Map}
theorem VRels.length : {l : List AV} → {m : List Value} → VRels ρ l m → l.length = m.length
  | _, _, .nil => rfl
  | _, _, .cons _ t => by simp [VRels.length t]
theorem VRels.size {l : List AV} {x : Array Value} (h : VRels ρ l x.toList) : l.length = x.size := h.length.trans Array.length_toList
theorem VRels.get {l : List AV} {m : List Value} (h : VRels ρ l m) (i : Nat) : (l[i]? = none ∧ m[i]? = none) ∨ ∃ a v, l[i]? = some a ∧ m[i]? = some v ∧ VRel ρ a v := by
  induction l generalizing m i with
  | nil => cases h; simp
  | cons a l ih =>
    cases h with
    | cons h t =>
      cases i with
      | zero => exact .inr ⟨_, _, rfl, rfl, h⟩
      | succ i => simpa using ih t i
theorem VRels.getD {l : List AV} {m : List Value} (h : VRels ρ l m) (i : Nat) {a : AV} {v : Value} (hd : VRel ρ a v) : VRel ρ (l.getD i a) (m.getD i v) := by
  rcases h.get i with ⟨h1, h2⟩ | ⟨a, v, h1, h2, h3⟩
  · simp [List.getD, h1, h2, hd]
  · simp [List.getD, h1, h2, h3]
theorem VRels.has {l : List AV} {m : List Value} (h : VRels ρ l m) {i : Nat} {a : AV} (ha : l[i]? = some a) : ∃ v, m[i]? = some v ∧ VRel ρ a v := by
  rcases h.get i with ⟨h1, _⟩ | ⟨a', v, h1, h2, h3⟩
  · rw [h1] at ha; cases ha
  · rw [h1] at ha; cases ha; exact ⟨v, h2, h3⟩
theorem VRels.lacks {l : List AV} {m : List Value} (h : VRels ρ l m) {i : Nat} (ha : l[i]? = none) : m[i]? = none := by
  rcases h.get i with ⟨_, h2⟩ | ⟨a', v, h1, _, _⟩
  · exact h2
  · rw [h1] at ha; cases ha
theorem VRels.set {l : List AV} {m : List Value} (h : VRels ρ l m) (i : Nat) {a : AV} {v : Value} (ha : VRel ρ a v) : VRels ρ (l.set i a) (m.set i v) := by
  induction l generalizing m i with
  | nil => cases h; exact .nil
  | cons b l ih =>
    cases h with
    | cons h t =>
      cases i with
      | zero => exact .cons ha t
      | succ i => exact .cons h (ih t i)
theorem VRels.append {l l' : List AV} {m m' : List Value} (h : VRels ρ l m) (h' : VRels ρ l' m') : VRels ρ (l ++ l') (m ++ m') := by
  induction l generalizing m with
  | nil => cases h; exact h'
  | cons a l ih => cases h with | cons h t => exact .cons h (ih t)
theorem VRels.take {l : List AV} {m : List Value} (h : VRels ρ l m) (n : Nat) : VRels ρ (l.take n) (m.take n) := by
  induction l generalizing m n with
  | nil => cases h; simp; exact .nil
  | cons a l ih =>
    cases h with
    | cons h t =>
      cases n with
      | zero => exact .nil
      | succ n => exact .cons h (ih t n)
theorem VRels.drop {l : List AV} {m : List Value} (h : VRels ρ l m) (n : Nat) : VRels ρ (l.drop n) (m.drop n) := by
  induction l generalizing m n with
  | nil => cases h; simp; exact .nil
  | cons a l ih =>
    cases h with
    | cons h t =>
      cases n with
      | zero => exact .cons h t
      | succ n => exact ih t n
theorem VRels.replicate (n : Nat) {a : AV} {v : Value} (h : VRel ρ a v) : VRels ρ (List.replicate n a) (List.replicate n v) := by
  induction n with
  | zero => exact .nil
  | succ n ih => exact .cons h ih
theorem VRels.atoms (m : List Value) : VRels ρ (m.map .atom) m := by
  induction m with
  | nil => exact .nil
  | cons v m ih => exact .cons (.atom v) ih
theorem VRels.of_get {l : List AV} {m : List Value} (hl : l.length = m.length) (h : ∀ (i : Nat) (a : AV) (v : Value), l[i]? = some a → m[i]? = some v → VRel ρ a v) : VRels ρ l m := by
  induction l generalizing m with
  | nil => cases m with
    | nil => exact .nil
    | cons _ _ => cases hl
  | cons a l ih => cases m with
    | nil => cases hl
    | cons v m => exact .cons (h 0 a v rfl rfl) (ih (by simpa using hl) fun i a v h1 h2 => h (i + 1) a v (by simpa using h1) (by simpa using h2))
theorem VRels.foldSet (ps : List Nat) : ∀ {as : List AV} {vs : List Value} {l : List AV} {m : List Value}, VRels ρ as vs → VRels ρ l m →
    VRels ρ ((ps.zip as).foldl (fun l (x : Nat × AV) => l.set x.1 x.2) l) ((ps.zip vs).foldl (fun l (x : Nat × Value) => l.set x.1 x.2) m) := by
  induction ps with
  | nil => intro as vs l m _ h; simpa using h
  | cons p ps ih =>
    intro as vs l m ha h
    cases ha with
    | nil => simpa using h
    | cons h1 t => simpa using ih t (h.set p h1)
end lists

theorem lift_rel (ρ : Map) (v : Value) : VRel ρ (lift v) v := by
  unfold lift
  split
  · exact .agg (VRels.atoms _)
  · exact .tuple (VRels.atoms _)
  · exact .atom _

/-- A value's cells. -/
theorem VRel.cells {ρ : Map} {a : AV} {v : Value} (h : VRel ρ a v) (hp : a.plain = true) : VRels ρ a.cells v.cells.toList := by
  cases h with
  | top => simp [AV.plain] at hp
  | atom v => cases v <;> first | (simp [AV.plain, isOne] at hp; done) | exact .cons (.atom _) .nil
  | agg h => exact h
  | ptr e => exact .cons (.ptr e) .nil
  | exact e c => exact .cons (.exact e c) .nil
  | room e c t => exact .cons (.room e c t) .nil
  | unk e c => exact .cons (.unk e c) .nil
  | fn a b => exact .cons (.fn a b) .nil
  | yield e => exact .cons (.yield e) .nil
  | iface e => exact .cons (.iface e) .nil
  | tuple e => exact .cons (.tuple e) .nil

/-- A value that may lie in one cell does so in the model. -/
def oneV : Value → Bool
  | .agg _ | .tuple _ => false
  | _ => true
theorem VRel.one {ρ : Map} {a : AV} {v : Value} (h : VRel ρ a v) (ho : a.one = true) : oneV v = true := by
  cases h with
  | top => simp [AV.one] at ho
  | atom v => cases v <;> simp_all [AV.one, isOne, oneV]
  | agg h => simp [AV.one] at ho
  | tuple h => simp [AV.one] at ho
  | _ => rfl
theorem VRels.allOne {ρ : Map} {l : List AV} {m : List Value} (h : VRels ρ l m) (ho : l.all AV.one = true) : ∀ v ∈ m, oneV v = true := by
  induction l generalizing m with
  | nil => cases h; simp
  | cons a l ih =>
    cases h with
    | cons h t =>
      simp only [List.all_cons, Bool.and_eq_true] at ho
      intro v hv
      rcases List.mem_cons.1 hv with rfl | hv
      · exact h.one ho.1
      · exact ih t ho.2 v hv

/-! ### The tree -/
theorem beq_t {a b : Nat} (h : a = b) : Nat.beq a b = true := by subst h; exact Nat.beq_refl a
theorem beq_f {a b : Nat} (h : a ≠ b) : Nat.beq a b = false := by
  cases hb : Nat.beq a b with
  | false => rfl
  | true => exact absurd (Nat.eq_of_beq_eq_true hb) h
theorem Tr.get_node' {α : Type} (v : Option α) (l r : Tr α) (k : Nat) :
    (Tr.node v l r).get k = if k = 0 then v else if k % 2 = 1 then l.get (k / 2) else r.get (k / 2 - 1) := by
  rw [Tr.get_node]
  by_cases h0 : k = 0
  · subst h0; rfl
  · by_cases h1 : k % 2 = 1
    · rw [if_neg h0, if_pos h1, beq_f h0, beq_t (a := Nat.mod k 2) h1]; rfl
    · rw [if_neg h0, if_neg h1, beq_f h0, beq_f (a := Nat.mod k 2) h1]; rfl
theorem Tr.step_eq {α : Type} (ih : Tr α → Nat → Tr α) (x : Option α) (k : Nat) (v : Option α) (l r : Tr α) :
    Tr.step ih x k v l r = if k = 0 then .node x l r else if k % 2 = 1 then .node v (ih l (k / 2)) r else .node v l (ih r (k / 2 - 1)) := by
  unfold Tr.step
  by_cases h0 : k = 0
  · subst h0; rfl
  · by_cases h1 : k % 2 = 1
    · rw [if_neg h0, if_pos h1, beq_f h0, beq_t (a := Nat.mod k 2) h1]; rfl
    · rw [if_neg h0, if_neg h1, beq_f h0, beq_f (a := Nat.mod k 2) h1]; rfl
theorem Tr.get_step_same {α : Type} (ih : Tr α → Nat → Tr α) (x : Option α) (d : Nat) (hih : ∀ t j, j < d → (ih t j).get j = x) (k : Nat) (hk : k < d + 1) (v : Option α) (l r : Tr α) :
    (Tr.step ih x k v l r).get k = x := by
  rw [Tr.step_eq]
  by_cases h0 : k = 0
  · simp [h0, Tr.get_node']
  · by_cases h1 : k % 2 = 1
    · simp [h0, h1, Tr.get_node', hih l (k / 2) (by omega)]
    · simp [h0, h1, Tr.get_node', hih r (k / 2 - 1) (by omega)]
theorem Tr.get_step_ne {α : Type} (ih : Tr α → Nat → Tr α) (x : Option α) (hih : ∀ t k j, j ≠ k → (ih t k).get j = t.get j) (k j : Nat) (hne : j ≠ k) (v : Option α) (l r : Tr α) :
    (Tr.step ih x k v l r).get j = (Tr.node v l r).get j := by
  rw [Tr.step_eq]
  by_cases h0 : k = 0
  · subst h0; simp [Tr.get_node', hne]
  · by_cases h1 : k % 2 = 1
    · simp only [h0, h1, if_false, if_true, Tr.get_node']
      split
      · rfl
      · split
        · rw [hih l (k / 2) (j / 2) (by omega)]
        · rfl
    · simp only [h0, h1, if_false, Tr.get_node']
      split
      · rfl
      · split
        · rfl
        · rw [hih r (k / 2 - 1) (j / 2 - 1) (by omega)]
theorem Tr.get_put_same {α : Type} (d : Nat) : ∀ (t : Tr α) (k : Nat) (x : Option α), k < d → (Tr.put d t k x).get k = x := by
  induction d with
  | zero => intro t k x h; omega
  | succ d ih =>
    intro t k x h
    cases t with
    | leaf => rw [Tr.put_leaf]; exact Tr.get_step_same _ x d (fun t j hj => ih t j x hj) k h _ _ _
    | node v l r => rw [Tr.put_node]; exact Tr.get_step_same _ x d (fun t j hj => ih t j x hj) k h _ _ _
theorem Tr.get_put_ne {α : Type} (d : Nat) : ∀ (t : Tr α) (k j : Nat) (x : Option α), j ≠ k → (Tr.put d t k x).get j = t.get j := by
  induction d with
  | zero => intro t k j x _; rfl
  | succ d ih =>
    intro t k j x hne
    cases t with
    | leaf =>
      rw [Tr.put_leaf, Tr.get_step_ne _ x (fun t k j h => ih t k j x h) k j hne]
      rw [Tr.get_node']; simp only [Tr.get_leaf]; split <;> (try split) <;> rfl
    | node v l r => rw [Tr.put_node]; exact Tr.get_step_ne _ x (fun t k j h => ih t k j x h) k j hne _ _ _

theorem AH.get_put_same (H : AH) (b : Nat) (x : Option Blk) : (H.put b x).get b = x := by show (Tr.put (b + 1) H.m b x).get b = x; exact Tr.get_put_same _ _ _ _ (by omega)
theorem AH.get_put_ne (H : AH) {b c : Nat} (x : Option Blk) (h : c ≠ b) : (H.put b x).get c = H.get c := by show (Tr.put (b + 1) H.m b x).get c = Tr.get H.m c; exact Tr.get_put_ne _ _ _ _ _ h
theorem AH.get_push_same (H : AH) (x : Blk) : (H.push x).get H.next = some x := by show (Tr.put (H.next + 1) H.m H.next (some x)).get H.next = some x; exact Tr.get_put_same _ _ _ _ (by omega)
theorem AH.get_push_ne (H : AH) (x : Blk) {c : Nat} (h : c ≠ H.next) : (H.push x).get c = H.get c := by show (Tr.put (H.next + 1) H.m H.next (some x)).get c = Tr.get H.m c; exact Tr.get_put_ne _ _ _ _ _ h
@[simp] theorem AH.next_put (H : AH) (b : Nat) (x : Option Blk) : (H.put b x).next = H.next := rfl
@[simp] theorem AH.next_push (H : AH) (x : Blk) : (H.push x).next = H.next + 1 := rfl

/-! ### Lists, as the machine reads and writes them -/
theorem beq_succ (n : Nat) : Nat.beq (n + 1) 0 = false := rfl
theorem beq_zero : Nat.beq 0 0 = true := rfl
theorem nthA_eq (l : List AV) : ∀ i, nthA l i = l[i]? := by
  induction l with
  | nil => intro i; rfl
  | cons a l ih =>
    intro i
    show cond (Nat.beq i 0) (some a) (nthA l (Nat.pred i)) = _
    cases i with
    | zero => rfl
    | succ i => rw [beq_succ]; simpa using ih i
theorem takeA_eq (l : List AV) : ∀ n, takeA l n = if n ≤ l.length then some (l.take n) else none := by
  induction l with
  | nil =>
    intro n
    show cond (Nat.beq n 0) (some []) none = _
    cases n <;> simp [beq_succ]
  | cons a l ih =>
    intro n
    show cond (Nat.beq n 0) (some []) (consO a (takeA l (Nat.pred n))) = _
    cases n with
    | zero => simp
    | succ n =>
      rw [show Nat.beq (n + 1) 0 = false from rfl]
      simp only [cond, Nat.pred_succ, ih n]
      by_cases h : n ≤ l.length <;> simp [h, consO]
theorem cutA_eq (l : List AV) : ∀ off n, cutA l off n = if off + n ≤ l.length then some ((l.drop off).take n) else none := by
  induction l with
  | nil =>
    intro off n
    show cond (Nat.beq off 0) (cond (Nat.beq n 0) (some []) none) none = _
    cases off <;> cases n <;> simp [beq_succ]
  | cons a l ih =>
    intro off n
    show cond (Nat.beq off 0) (takeA (a :: l) n) (cutA l (Nat.pred off) n) = _
    cases off with
    | zero => rw [show Nat.beq 0 0 = true from rfl]; simp only [cond, takeA_eq]; simp
    | succ off =>
      rw [show Nat.beq (off + 1) 0 = false from rfl]
      simp only [cond, Nat.pred_succ, ih off n]
      simp only [List.length_cons, List.drop_succ_cons, show off + 1 + n ≤ l.length + 1 ↔ off + n ≤ l.length from by omega]
theorem overA_eq (vs : List AV) : ∀ l, overA vs l = if vs.length ≤ l.length then some (vs ++ l.drop vs.length) else none := by
  induction vs with
  | nil => intro l; show some l = _; simp
  | cons v vs ih =>
    intro l
    cases l with
    | nil => show none = _; simp
    | cons a t =>
      show consO v (overA vs t) = _
      rw [ih t]
      by_cases h : vs.length ≤ t.length <;> simp [h, consO]
theorem layA_eq (vs l : List AV) : ∀ off, layA vs l off = if off + vs.length ≤ l.length then some (overlay l off vs) else none := by
  induction l with
  | nil =>
    intro off
    show cond (Nat.beq off 0) (overA vs []) none = _
    cases off with
    | zero => rw [show Nat.beq 0 0 = true from rfl]; simp only [cond, overA_eq]; simp [overlay]
    | succ off => rw [beq_succ]; simp
  | cons a t ih =>
    intro off
    show cond (Nat.beq off 0) (overA vs (a :: t)) (consO a (layA vs t (Nat.pred off))) = _
    cases off with
    | zero => rw [show Nat.beq 0 0 = true from rfl]; simp only [cond, overA_eq]; simp [overlay]
    | succ off =>
      rw [show Nat.beq (off + 1) 0 = false from rfl]
      simp only [cond, Nat.pred_succ, ih off]
      by_cases h : off + vs.length ≤ t.length
      · rw [if_pos h, if_pos (by simp; omega)]
        simp [consO, overlay, show off + 1 + vs.length = (off + vs.length) + 1 from by omega]
      · rw [if_neg h, if_neg (by simp; omega)]; rfl

/-! ### The heap -/
/-- A block of the abstract heap, as it lies. -/
def BlkOk (ρ : Map) (B : Blk) (l : Loc) (w : World) : Prop :=
  ∃ (cs : Array Value) (fz : Nat × Nat), w.heap[l.blk]? = some (.cells cs B.elem fz) ∧ B.cells.length ≤ l.tot ∧ l.off + l.tot ≤ cs.size ∧
    VRels ρ B.cells ((cs.toList.drop l.off).take B.cells.length) ∧
    ((B.own = true → fz.1 = fz.2 ∨ (B.fz = true ∧ fz.2 ≤ l.off + B.cells.length)) ∧ (B.head = true → l.off = 0))

structure Inv (P : Program) (ρ : Map) (H : AH) (w : World) : Prop where
  lt : ∀ b l, ρ b = some l → l.blk < w.heap.size
  blk : ∀ b B l, H.get b = some B → ρ b = some l → BlkOk ρ B l w
  apart : ∀ b b' B B' l l', b ≠ b' → H.get b = some B → H.get b' = some B' → ρ b = some l → ρ b' = some l' → B.own = true →
    l.blk ≠ l'.blk
  old : ∀ b B, H.get b = some B → b < H.next
  glob : ∀ g, g < P.globals.size → ∃ t, ρ g = some ⟨g, 0, t⟩

/-- What lies outside stays as it was: the system, what was printed. -/
def Io (w w' : World) : Prop := w'.os = w.os ∧ w'.output = w.output
theorem Io.refl (w : World) : Io w w := ⟨rfl, rfl⟩
theorem Io.trans {w w' w'' : World} (h : Io w w') (k : Io w' w'') : Io w w'' := ⟨k.1.trans h.1, k.2.trans h.2⟩

/-- What a step of the abstract machine's means for the model's. -/
structure Stp (P : Program) (ρ : Map) (H : AH) (w : World) (ρ' : Map) (H' : AH) (w' : World) : Prop where
  inv : Inv P ρ' H' w'
  next : H.next ≤ H'.next
  same : ∀ b, b < H.next ∨ H'.next ≤ b → ρ' b = ρ b
  size : w.heap.size ≤ w'.heap.size
  kept : ∀ b B', b < H.next → H'.get b = some B' → ∃ B, H.get b = some B ∧ (B'.own = true → B.own = true)
  made : ∀ b B' l, H.next ≤ b → H'.get b = some B' → ρ' b = some l →
    w.heap.size ≤ l.blk ∨ ∃ b0 B0 l0, H.get b0 = some B0 ∧ (B'.own = true → B0.own = true) ∧ ρ b0 = some l0 ∧ l0.blk = l.blk
  frame : ∀ k, k < w.heap.size → (∀ b B l, H.get b = some B → B.own = true → ρ b = some l → l.blk ≠ k) → w'.heap[k]? = w.heap[k]?
  io : Io w w'

/-- Names that are still to be given have no place. -/
def Free (ρ : Map) (H H' : AH) : Prop := ∀ b, H.next ≤ b → b < H'.next → ρ b = none

theorem Stp.refl {P : Program} {ρ : Map} {H : AH} {w : World} (h : Inv P ρ H w) : Stp P ρ H w ρ H w :=
  ⟨h, Nat.le_refl _, fun _ _ => rfl, Nat.le_refl _, fun b B' _ h => ⟨B', h, id⟩, fun b B' l h1 h2 _ => by have := h.old b B' h2; omega, fun _ _ _ => rfl, Io.refl w⟩

theorem Stp.le {P : Program} {ρ ρ' : Map} {H H' : AH} {w w' : World} (h : Stp P ρ H w ρ' H' w') (hf : Free ρ H H') : Map.le ρ ρ' := fun b l e => by
  by_cases hb : b < H.next ∨ H'.next ≤ b
  · rw [h.same b hb]; exact e
  · rw [hf b (by omega) (by omega)] at e; cases e

theorem Stp.trans {P : Program} {ρ ρ₁ ρ₂ : Map} {H H₁ H₂ : AH} {w w₁ w₂ : World} (h : Stp P ρ H w ρ₁ H₁ w₁) (k : Stp P ρ₁ H₁ w₁ ρ₂ H₂ w₂) (_hf : Free ρ H H₂) :
    Stp P ρ H w ρ₂ H₂ w₂ where
  inv := k.inv
  next := Nat.le_trans h.next k.next
  same := fun b hb => by
    have := h.next; have := k.next
    rw [k.same b (by omega), h.same b (by omega)]
  size := Nat.le_trans h.size k.size
  io := h.io.trans k.io
  kept := fun b B' hb hB' => by
    obtain ⟨B1, h1, o1⟩ := k.kept b B' (by have := h.next; omega) hB'
    obtain ⟨B0, h0, o0⟩ := h.kept b B1 hb h1
    exact ⟨B0, h0, fun o => o0 (o1 o)⟩
  made := fun b B' l hb hB' hl => by
    by_cases hb1 : b < H₁.next
    · obtain ⟨B1, h1, o1⟩ := k.kept b B' hb1 hB'
      rw [k.same b (.inl hb1)] at hl
      rcases h.made b B1 l hb h1 hl with g | ⟨b0, B0, l0, e1, e2, e3, e4⟩
      · exact .inl g
      · exact .inr ⟨b0, B0, l0, e1, fun o => e2 (o1 o), e3, e4⟩
    · rcases k.made b B' l (by omega) hB' hl with h1 | ⟨b0, B0, l0, e1, e2, e3, e4⟩
      · exact .inl (Nat.le_trans h.size h1)
      · by_cases hb0 : b0 < H.next
        · obtain ⟨B, g1, g2⟩ := h.kept b0 B0 hb0 e1
          rw [h.same b0 (.inl hb0)] at e3
          exact .inr ⟨b0, B, l0, g1, fun o => g2 (e2 o), e3, e4⟩
        · rw [← e4]
          rcases h.made b0 B0 l0 (by omega) e1 e3 with g | ⟨b1, B1, l1, k1, k2, k3, k4⟩
          · exact .inl g
          · exact .inr ⟨b1, B1, l1, k1, fun o => k2 (e2 o), k3, k4⟩
  frame := fun q hq hown => by
    rw [k.frame q (Nat.lt_of_lt_of_le hq h.size) ?_]
    · exact h.frame q hq hown
    · intro b B l e1 e2 e3 heq
      by_cases hb : b < H.next
      · obtain ⟨B0, g1, g2⟩ := h.kept b B hb e1
        rw [h.same b (.inl hb)] at e3
        exact hown b B0 l g1 (g2 e2) e3 heq
      · rcases h.made b B l (by omega) e1 e3 with g | ⟨b0, B0, l0, g1, g2, g3, g4⟩
        · omega
        · exact hown b0 B0 l0 g1 (g2 e2) g3 (g4.trans heq)

theorem Free.left {ρ : Map} {H H₁ H₂ : AH} (h : Free ρ H H₂) (hn : H₁.next ≤ H₂.next) : Free ρ H H₁ := fun b h1 h2 => h b h1 (by omega)
theorem Free.right {P : Program} {ρ ρ₁ : Map} {H H₁ H₂ : AH} {w w₁ : World} (h : Free ρ H H₂) (hs : Stp P ρ H w ρ₁ H₁ w₁) : Free ρ₁ H₁ H₂ := fun b h1 h2 => by
  have := hs.next
  rw [hs.same b (.inr h1)]
  exact h b (by omega) h2

/-- What is no row of cells stays as it was. -/
theorem Stp.object {P : Program} {ρ ρ' : Map} {H H' : AH} {w w' : World} (h : Stp P ρ H w ρ' H' w') (hi : Inv P ρ H w) {k : Nat} {o : Obj} (ho : w.heap[k]? = some o)
    (hc : ∀ c e z, o ≠ .cells c e z) : w'.heap[k]? = some o := by
  have hk : k < w.heap.size := (Array.getElem?_eq_some_iff.1 ho).1
  rw [h.frame k hk, ho]
  intro b B l e1 _ e3 e4
  obtain ⟨cs, fz, e5, _⟩ := hi.blk b B l e1 e3
  rw [e4, ho] at e5
  exact hc _ _ _ (Option.some.inj e5)

end Go.Am

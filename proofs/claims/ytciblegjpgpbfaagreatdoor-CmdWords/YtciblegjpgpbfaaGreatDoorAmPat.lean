/-
  Shapes of values: what memory a call may read, as trees. No condition.
-/
import Derived.Test.YtciblegjpgpbfaaGreatDoorAmDraw
namespace Go.Am
open Go

/-- The shape of a value with the memory behind it. -/
inductive Pat where
  | atom (v : Value)
  | sl (elem : TypeId) (len : Nat) (cells : List Pat)
  | ptr (elem : TypeId) (cells : List Pat)
  | agg (l : List Pat)
  | iface (t : TypeId) (p : Pat)

/-- The block's cells from a place on, where its elements are of that type. -/
noncomputable def placeA (H : AH) (e : TypeId) (b off n : Nat) : Option (List AV) :=
  match H.get b with
  | some B => cond (Nat.beq B.elem e) (cutA B.cells off n) none
  | none => none

mutual
noncomputable def fits (H : AH) : Pat → AV → Bool
  | .atom v, a => AV.beq (.atom v) a
  | .sl e n cs, .slice b off len _ => Nat.beq n len && (match placeA H e b off cs.length with
    | some l => fitsL H cs l
    | none => false)
  | .ptr e cs, .ptr b off => match placeA H e b off cs.length with
    | some l => fitsL H cs l
    | none => false
  | .agg ps, .agg l => fitsL H ps l
  | .iface t p, .iface u a => Nat.beq t u && fits H p a
  | _, _ => false
noncomputable def fitsL (H : AH) : List Pat → List AV → Bool
  | [], [] => true
  | p :: ps, a :: l => fits H p a && fitsL H ps l
  | _, _ => false
end

mutual
/-- The shape laid into a heap, to be read alone. -/
noncomputable def lay : Pat → AH → AV × AH
  | .atom v, K => (.atom v, K)
  | .sl e n cs, K => (.slice (layL cs K).2.next 0 n .unk, (layL cs K).2.push { cells := (layL cs K).1, elem := e, own := false })
  | .ptr e cs, K => (.ptr (layL cs K).2.next 0, (layL cs K).2.push { cells := (layL cs K).1, elem := e, own := false })
  | .agg ps, K => (.agg (layL ps K).1, (layL ps K).2)
  | .iface t p, K => (.iface t (lay p K).1, (lay p K).2)
noncomputable def layL : List Pat → AH → List AV × AH
  | [], K => ([], K)
  | p :: ps, K => ((lay p K).1 :: (layL ps (lay p K).2).1, (layL ps (lay p K).2).2)
end

variable {P : Program}

/-- Nothing may be written. -/
def NoOwn (K : AH) : Prop := ∀ b B, K.get b = some B → B.own = false
/-- Names still to be given have no place. -/
def Fresh (σ : Map) (K : AH) : Prop := ∀ b, K.next ≤ b → σ b = none

/-- A view of memory more. -/
theorem Inv.view {σ : Map} {K : AH} {w : World} (hi : Inv P σ K w) (hn : NoOwn K) (hf : σ K.next = none) {B : Blk} {l : Loc} (ho : B.own = false) (hlt : l.blk < w.heap.size) (hB : BlkOk (σ.upd K.next l) B l w) :
    Inv P (σ.upd K.next l) (K.push B) w where
  lt := fun b k e => by
    by_cases hb : b = K.next
    · subst hb; rw [Map.upd_same] at e; cases e; exact hlt
    · rw [Map.upd_ne _ _ hb] at e; exact hi.lt b k e
  blk := fun b C k e1 e2 => by
    by_cases hb : b = K.next
    · subst hb
      rw [AH.get_push_same] at e1; cases e1
      rw [Map.upd_same] at e2; cases e2
      exact hB
    · rw [AH.get_push_ne _ _ hb] at e1
      rw [Map.upd_ne _ _ hb] at e2
      obtain ⟨cs, fz, k1, k2, k3, k4, k5⟩ := hi.blk b C k e1 e2
      exact ⟨cs, fz, k1, k2, k3, k4.mono (Map.le_upd σ l hf), k5⟩
  apart := fun b1 b2 B1 B2 l1 l2 _ e1 _ _ _ o1 => by
    by_cases hb : b1 = K.next
    · subst hb; rw [AH.get_push_same] at e1; cases e1; rw [ho] at o1; cases o1
    · rw [AH.get_push_ne _ _ hb] at e1; rw [hn _ _ e1] at o1; cases o1
  old := fun b C e => by
    by_cases hb : b = K.next
    · subst hb; simp
    · rw [AH.get_push_ne _ _ hb] at e; have := hi.old b C e; simp; omega
  glob := fun g hg => let ⟨t, ht⟩ := hi.glob g hg; ⟨t, Map.le_upd σ l hf _ _ ht⟩

theorem NoOwn.push {K : AH} (hn : NoOwn K) {B : Blk} (ho : B.own = false) : NoOwn (K.push B) := fun b C e => by
  by_cases hb : b = K.next
  · subst hb; rw [AH.get_push_same] at e; cases e; exact ho
  · rw [AH.get_push_ne _ _ hb] at e; exact hn b C e

/-- What is laid, held against the same memory. -/
structure Laid (P : Program) (σ : Map) (K : AH) (w : World) (σ' : Map) (K' : AH) : Prop where
  le : Map.le σ σ'
  inv : Inv P σ' K' w
  noOwn : NoOwn K'
  fresh : Fresh σ' K'
  next : K.next ≤ K'.next
  same : ∀ b, b < K.next → σ' b = σ b

theorem placeA_some {H : AH} {e : TypeId} {b off n : Nat} {l : List AV} (h : placeA H e b off n = some l) : ∃ B, H.get b = some B ∧ B.elem = e ∧ off + n ≤ B.cells.length ∧ l = (B.cells.drop off).take n := by
  unfold placeA at h
  split at h
  · rename_i B hB
    obtain ⟨he, h⟩ := cond_some h
    rw [cutA_eq] at h
    split at h
    · rename_i hle; cases h; exact ⟨B, hB, Nat.eq_of_beq_eq_true he, hle, rfl⟩
    · cases h
  · cases h

theorem Laid.trans {σ σ1 σ2 : Map} {K K1 K2 : AH} {w : World} (h : Laid P σ K w σ1 K1) (k : Laid P σ1 K1 w σ2 K2) : Laid P σ K w σ2 K2 :=
  ⟨Map.le_trans h.le k.le, k.inv, k.noOwn, k.fresh, Nat.le_trans h.next k.next, fun b hb => by rw [k.same b (Nat.lt_of_lt_of_le hb h.next), h.same b hb]⟩

/-- Cells of a place, laid. -/
theorem Laid.place {σ σ1 : Map} {K K1 : AH} {w : World} (h : Laid P σ K w σ1 K1) {B : Blk} {cells : List AV} {n : Nat} {l : Loc} {off : Nat} {cs : Array Value} {fz : Nat × Nat} (hcs : w.heap[l.blk]? = some (.cells cs B.elem fz))
    (hlt : l.blk < w.heap.size) (hle : off + n ≤ B.cells.length) (h1 : B.cells.length ≤ l.tot) (h2 : l.off + l.tot ≤ cs.size) (hc : VRels σ1 cells ((cs.toList.drop (l.off + off)).take n)) (hcl : cells.length = n) :
    Laid P σ K w (σ1.upd K1.next ⟨l.blk, l.off + off, l.tot - off⟩) (K1.push { cells := cells, elem := B.elem, own := false }) := by
  have hf := h.fresh K1.next (Nat.le_refl _)
  have hle' := Map.le_upd σ1 (⟨l.blk, l.off + off, l.tot - off⟩ : Loc) hf
  refine ⟨Map.le_trans h.le hle', h.inv.view h.noOwn hf rfl hlt ?_, h.noOwn.push rfl, ?_, Nat.le_trans h.next (by simp), ?_⟩
  · refine ⟨cs, fz, hcs, ?_, ?_, ?_, ⟨fun e => (by cases e), fun e => (by cases e)⟩⟩
    · show cells.length ≤ l.tot - off; omega
    · show l.off + off + (l.tot - off) ≤ cs.size; omega
    · show VRels _ cells ((cs.toList.drop (l.off + off)).take cells.length)
      rw [hcl]; exact hc.mono hle'
  · intro b hb
    simp only [AH.next_push] at hb
    rw [Map.upd_ne _ _ (by omega)]
    exact h.fresh b (by omega)
  · intro b hb
    have := h.next
    rw [Map.upd_ne _ _ (by omega)]
    exact h.same b hb

theorem layL_length : ∀ (ps : List Pat) (K : AH), (layL ps K).1.length = ps.length
  | [], _ => by simp [layL]
  | p :: ps, K => by simp [layL, layL_length ps]

theorem Laid.refl {σ : Map} {K : AH} {w : World} (hi : Inv P σ K w) (hn : NoOwn K) (hf : Fresh σ K) : Laid P σ K w σ K := ⟨Map.le_refl σ, hi, hn, hf, Nat.le_refl _, fun _ _ => rfl⟩

mutual
/-- A value that fits a shape, seen through the shape laid. -/
theorem lay_ok {ρ : Map} {H : AH} {w : World} (hi : Inv P ρ H w) : (p : Pat) → ∀ {a : AV} {x : Value}, fits H p a = true → VRel ρ a x → ∀ {σ : Map} {K : AH}, Inv P σ K w → NoOwn K → Fresh σ K →
    ∃ σ', Laid P σ K w σ' (lay p K).2 ∧ VRel σ' (lay p K).1 x
  | .atom v, a, x, h, hx, σ, K, hk, hn, hf => by
    simp only [fits] at h
    have := beq_eq _ _ h
    subst this
    cases hx
    exact ⟨σ, by simpa [lay] using Laid.refl hk hn hf, by simpa [lay] using VRel.atom v⟩
  | .agg ps, a, x, h, hx, σ, K, hk, hn, hf => by
    cases a <;> simp only [fits, Bool.false_eq_true] at h
    cases hx with
    | agg hl =>
      obtain ⟨σ', h1, h2⟩ := layL_ok hi ps h hl hk hn hf
      exact ⟨σ', by simpa [lay] using h1, by simpa [lay] using VRel.agg h2⟩
  | .iface t p, a, x, h, hx, σ, K, hk, hn, hf => by
    cases a <;> simp only [fits, Bool.false_eq_true, Bool.and_eq_true] at h
    have ht := Nat.eq_of_beq_eq_true h.1
    subst ht
    cases hx with
    | iface hv =>
      obtain ⟨σ', h1, h2⟩ := lay_ok hi p h.2 hv hk hn hf
      exact ⟨σ', by simpa [lay] using h1, by simpa [lay] using VRel.iface h2⟩
  | .ptr e cs, a, x, h, hx, σ, K, hk, hn, hf => by
    cases a <;> simp only [fits, Bool.false_eq_true] at h
    rename_i b off
    split at h
    case h_2 => cases h
    rename_i l hl
    obtain ⟨B, hB, he, hle, rfl⟩ := placeA_some hl
    cases hx with
    | ptr hloc =>
      rename_i loc
      obtain ⟨ds, fz, k1, k2, k3, k4, _⟩ := hi.blk b B loc hB hloc
      have hc := (k4.drop off).take cs.length
      rw [List.drop_take, List.drop_drop, List.take_take, Nat.min_eq_left (by omega)] at hc
      obtain ⟨σ', h1, h2⟩ := layL_ok hi cs h hc hk hn hf
      refine ⟨σ'.upd (layL cs K).2.next ⟨loc.blk, loc.off + off, loc.tot - off⟩, ?_, ?_⟩
      · have := h1.place (B := B) (off := off) (n := cs.length) k1 (hi.lt b loc hloc) hle k2 k3 h2 (layL_length cs K)
        rw [he] at this
        simpa [lay] using this
      · simp only [lay]
        exact VRel.ptr (off := 0) (l := ⟨loc.blk, loc.off + off, loc.tot - off⟩) (Map.upd_same _ _ _)
  | .sl e n cs, a, x, h, hx, σ, K, hk, hn, hf => by
    cases a <;> simp only [fits, Bool.false_eq_true, Bool.and_eq_true] at h
    rename_i b off len cap
    have hlen := Nat.eq_of_beq_eq_true h.1
    subst hlen
    have h := h.2
    split at h
    case h_2 => cases h
    rename_i l hl
    obtain ⟨B, hB, he, hle, rfl⟩ := placeA_some hl
    obtain ⟨loc, hloc⟩ := hx.place
    have hxs : ∃ c, n ≤ c ∧ x = .slice (some (loc.addr off)) n c := by
      cases hx with
      | exact e h => rw [hloc] at e; cases e; exact ⟨_, h, rfl⟩
      | room e h _ => rw [hloc] at e; cases e; exact ⟨_, h, rfl⟩
      | unk e h => rw [hloc] at e; cases e; exact ⟨_, h, rfl⟩
    obtain ⟨c, hc', rfl⟩ := hxs
    obtain ⟨ds, fz, k1, k2, k3, k4, _⟩ := hi.blk b B loc hB hloc
    have hc := (k4.drop off).take cs.length
    rw [List.drop_take, List.drop_drop, List.take_take, Nat.min_eq_left (by omega)] at hc
    obtain ⟨σ', h1, h2⟩ := layL_ok hi cs h hc hk hn hf
    refine ⟨σ'.upd (layL cs K).2.next ⟨loc.blk, loc.off + off, loc.tot - off⟩, ?_, ?_⟩
    · have := h1.place (B := B) (off := off) (n := cs.length) k1 (hi.lt b loc hloc) hle k2 k3 h2 (layL_length cs K)
      rw [he] at this
      simpa [lay] using this
    · simp only [lay]
      exact VRel.unk (off := 0) (l := ⟨loc.blk, loc.off + off, loc.tot - off⟩) (Map.upd_same _ _ _) hc'
theorem layL_ok {ρ : Map} {H : AH} {w : World} (hi : Inv P ρ H w) : (ps : List Pat) → ∀ {l : List AV} {xs : List Value}, fitsL H ps l = true → VRels ρ l xs → ∀ {σ : Map} {K : AH}, Inv P σ K w → NoOwn K → Fresh σ K →
    ∃ σ', Laid P σ K w σ' (layL ps K).2 ∧ VRels σ' (layL ps K).1 xs
  | [], l, xs, h, hx, σ, K, hk, hn, hf => by
    cases l <;> simp only [fitsL, Bool.false_eq_true] at h
    cases hx
    exact ⟨σ, by simpa [layL] using Laid.refl hk hn hf, by simpa [layL] using VRels.nil⟩
  | p :: ps, l, xs, h, hx, σ, K, hk, hn, hf => by
    cases l <;> simp only [fitsL, Bool.false_eq_true, Bool.and_eq_true] at h
    cases hx with
    | cons hv ht =>
      obtain ⟨σ1, h1, h2⟩ := lay_ok hi p h.1 hv hk hn hf
      obtain ⟨σ2, h3, h4⟩ := layL_ok hi ps h.2 ht h1.inv h1.noOwn h1.fresh
      exact ⟨σ2, by simpa [layL] using h1.trans h3, by simpa [layL] using VRels.cons (h2.mono h3.le) h4⟩
end

end Go.Am

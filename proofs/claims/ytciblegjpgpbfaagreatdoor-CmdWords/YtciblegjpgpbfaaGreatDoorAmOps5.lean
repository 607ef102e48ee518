/-
  The abstract machine's operations, held against the model's: builtins, functions without a body. No condition beyond the relation itself.
-/
import Derived.Test.YtciblegjpgpbfaaGreatDoorAmOps4
namespace Go.Am
open Go

variable {P : Program} {ρ : Map} {H : AH} {w : World}

theorem VRels.nil_inv {m : List Value} (h : VRels ρ [] m) : m = [] := by cases h; rfl
theorem VRels.cons_inv {a : AV} {l : List AV} {m : List Value} (h : VRels ρ (a :: l) m) : ∃ v m', m = v :: m' ∧ VRel ρ a v ∧ VRels ρ l m' := by
  cases h with | cons h t => exact ⟨_, _, rfl, h, t⟩
theorem VRels.one_inv {a : AV} {x : Array Value} (h : VRels ρ [a] x.toList) : ∃ v, x = #[v] ∧ VRel ρ a v := by
  obtain ⟨v, m, e, h1, h2⟩ := h.cons_inv
  have := h2.nil_inv
  subst this
  exact ⟨v, Array.ext' (by simpa using e), h1⟩
theorem VRels.two_inv {a b : AV} {x : Array Value} (h : VRels ρ [a, b] x.toList) : ∃ v u, x = #[v, u] ∧ VRel ρ a v ∧ VRel ρ b u := by
  obtain ⟨v, m, e, h1, h2⟩ := h.cons_inv
  obtain ⟨u, m', e', h3, h4⟩ := h2.cons_inv
  have := h4.nil_inv
  subst this e'
  exact ⟨v, u, Array.ext' (by simpa using e), h1, h3⟩
theorem VRels.three_inv {a b c : AV} {x : Array Value} (h : VRels ρ [a, b, c] x.toList) : ∃ v u t, x = #[v, u, t] ∧ VRel ρ a v ∧ VRel ρ b u ∧ VRel ρ c t := by
  obtain ⟨v, m, e, h1, h2⟩ := h.cons_inv
  obtain ⟨u, m', e', h3, h4⟩ := h2.cons_inv
  obtain ⟨t, m'', e'', h5, h6⟩ := h4.cons_inv
  have := h6.nil_inv
  subst this e'' e'
  exact ⟨v, u, t, Array.ext' (by simpa using e), h1, h3, h5⟩

theorem max_go {k : IntKind} {as : List AV} : ∀ {n : Int} {v : AV} {xs : List Value}, maxA.go k n as = some v → VRels ρ as xs →
    ∃ m, v = .int k m ∧ (xs.foldlM Builtin.max2 (.int k n)).run P w = .ok (.int k m) w := by
  induction as with
  | nil => intro n v xs h hx; cases hx; cases h; exact ⟨n, rfl, rfl⟩
  | cons a as ih =>
    intro n v xs h hx
    obtain ⟨x, m, rfl, h1, h2⟩ := hx.cons_inv
    unfold maxA.go at h
    split at h
    · simp_all
    · rename_i k' y r heq
      cases heq
      cases h1
      obtain ⟨m', e, hr⟩ := ih h h2
      refine ⟨m', e, ?_⟩
      rw [List.foldlM_cons, Sem.run_bind]
      simp only [Builtin.max2, Sem.run_pure, Result.andThen_ok]
      exact hr
    · cases h
theorem min_go {k : IntKind} {as : List AV} : ∀ {n : Int} {v : AV} {xs : List Value}, minA.go k n as = some v → VRels ρ as xs →
    ∃ m, v = .int k m ∧ (xs.foldlM Builtin.min2 (.int k n)).run P w = .ok (.int k m) w := by
  induction as with
  | nil => intro n v xs h hx; cases hx; cases h; exact ⟨n, rfl, rfl⟩
  | cons a as ih =>
    intro n v xs h hx
    obtain ⟨x, m, rfl, h1, h2⟩ := hx.cons_inv
    unfold minA.go at h
    split at h
    · simp_all
    · rename_i k' y r heq
      cases heq
      cases h1
      obtain ⟨m', e, hr⟩ := ih h h2
      refine ⟨m', e, ?_⟩
      rw [List.foldlM_cons, Sem.run_bind]
      simp only [Builtin.min2, Sem.run_pure, Result.andThen_ok]
      exact hr
    · cases h

theorem maxA_ok {as : List AV} {v : AV} {xs : Array Value} (h : maxA as = some v) (hx : VRels ρ as xs.toList) (ts : Array TypeId) (ty : TypeId) :
    ∃ y, (Builtin.max_ ts ty xs).run P w = .ok y w ∧ VRel ρ v y := by
  unfold maxA at h
  split at h
  · cases h
  · obtain ⟨x, m, e, h1, h2⟩ := hx.cons_inv
    cases h1
    obtain ⟨m', rfl, hr⟩ := max_go (P := P) (w := w) h h2
    exact ⟨_, by unfold Builtin.max_; rw [e]; exact hr, .atom _⟩
  · cases h
theorem minA_ok {as : List AV} {v : AV} {xs : Array Value} (h : minA as = some v) (hx : VRels ρ as xs.toList) (ts : Array TypeId) (ty : TypeId) :
    ∃ y, (Builtin.min_ ts ty xs).run P w = .ok y w ∧ VRel ρ v y := by
  unfold minA at h
  split at h
  · cases h
  · obtain ⟨x, m, e, h1, h2⟩ := hx.cons_inv
    cases h1
    obtain ⟨m', rfl, hr⟩ := min_go (P := P) (w := w) h h2
    exact ⟨_, by unfold Builtin.min_; rw [e]; exact hr, .atom _⟩
  · cases h

/-- Bytes, read one by one. -/
theorem run_loadInts : ∀ (ns : List Int) (a : Addr) (acc : ByteArray), (∀ j x, ns[j]? = some x → w.cell? (a.add j) = some (.int .u8 x)) →
    (loadBytes a acc ns.length).run P w = .ok ⟨acc.data ++ (ns.map fun n => UInt8.ofNat n.toNat).toArray⟩ w
  | [], a, acc, _ => by simp [loadBytes]
  | x :: l, a, acc, h => by
    have h0 : w.cell? a = some (.int .u8 x) := by
      have := h 0 x rfl
      simpa [Addr.add] using this
    have ih := run_loadInts l (a.add 1) (acc.push x.toNat.toUInt8) (fun j y hy => by
      have := h (j + 1) y (by simpa using hy)
      have e : (a.add 1).add j = a.add (j + 1) := by
        unfold Addr.add
        by_cases hj : j = 0
        · subst hj; simp
        · simp [hj]; omega
      rw [e]; exact this)
    simp only [List.length_cons, loadBytes, Sem.run_bind, run_load, h0, Result.andThen]
    rw [ih]
    congr 1
    apply ByteArray.ext
    simp [ByteArray.push]

theorem append_types {ts : Array TypeId} {t u ty : TypeId} (h0 : ts[0]? = some t) (h1 : ts[1]? = some u) (xs : Array Value) : Builtin.append_ ts ty xs = Builtin.append_ #[t, u] ty xs := by
  unfold Builtin.append_
  rw [h0, h1]; rfl

theorem lenB_ok {ts : Array TypeId} {ty : TypeId} {as : List AV} {xs : Array Value} {v : AV} {H' : AH} (h : builtinA P .len ts as H = some (v, H')) (hx : VRels ρ as xs.toList) :
    ∃ y, (Builtin.len_ ts ty xs).run P w = .ok y w ∧ VRel ρ v y ∧ H' = H := by
  simp only [builtinA] at h
  split at h
  case h_2 => cases h
  rename_i t a ht
  obtain ⟨x, rfl, h1⟩ := hx.one_inv
  split at h
  · rename_i hd; cases h; cases h1; exact ⟨_, by simp [Builtin.len_, ht, run_underlying hd]; rfl, .atom _, rfl⟩
  · rename_i hd; cases h; exact ⟨_, by simp [Builtin.len_, ht, run_underlying hd]; rfl, .atom _, rfl⟩
  · rename_i hd; cases h; cases h1; exact ⟨_, by simp [Builtin.len_, ht, run_underlying hd]; rfl, .atom _, rfl⟩
  · rename_i hd; cases h; cases h1 <;> exact ⟨_, by simp [Builtin.len_, ht, run_underlying hd]; rfl, .atom _, rfl⟩
  · cases h

theorem capB_ok {ts : Array TypeId} {ty : TypeId} {as : List AV} {xs : Array Value} {v : AV} {H' : AH} (h : builtinA P .cap ts as H = some (v, H')) (hx : VRels ρ as xs.toList) :
    ∃ y, (Builtin.cap_ ts ty xs).run P w = .ok y w ∧ VRel ρ v y ∧ H' = H := by
  simp only [builtinA] at h
  split at h
  case h_2 => cases h
  rename_i t a ht
  obtain ⟨x, rfl, h1⟩ := hx.one_inv
  split at h
  · rename_i hd; cases h; cases h1; exact ⟨_, by simp [Builtin.cap_, ht, run_underlying hd]; rfl, .atom _, rfl⟩
  · rename_i hd; cases h; cases h1; exact ⟨_, by simp [Builtin.cap_, ht, run_underlying hd]; rfl, .atom _, rfl⟩
  · cases h

theorem uStrB_ok (hi : Inv P ρ H w) {ts : Array TypeId} {ty : TypeId} {as : List AV} {xs : Array Value} {v : AV} {H' : AH} (h : builtinA P .unsafeString ts as H = some (v, H')) (hx : VRels ρ as xs.toList) :
    ∃ y w', (Builtin.unsafeString_ ts ty xs).run P w = .ok y w' ∧ VRel ρ v y ∧ Stp P ρ H w ρ H' w' := by
  simp only [builtinA] at h
  split at h
  · -- of a nil pointer, no byte
    rename_i k n pt ht
    obtain ⟨x, y, rfl, h1, h2⟩ := hx.two_inv
    cases h1; cases h2
    split at h
    case isFalse => cases h
    rename_i hn
    cases h
    subst hn
    refine ⟨_, w, ?_, .atom _, Stp.refl hi⟩
    have hm1 : ¬ ((0 : Int) > IntKind.i64.max) := by decide
    unfold Builtin.unsafeString_
    conv => lhs; arg 2; whnf
    simp [ht, hm1]
  · rename_i b off k n pt ht
    obtain ⟨x, y, rfl, h1, h2⟩ := hx.two_inv
    cases h2
    split at h
    case h_2 => cases h
    rename_i u B hp hB
    split at h
    case isFalse => cases h
    rename_i hc
    simp only [Bool.and_eq_true, decide_eq_true_eq, beq_iff_eq] at hc
    obtain ⟨⟨⟨⟨ho, hn0⟩, hnl⟩, hu⟩, hsz⟩ := hc
    split at h
    case h_2 => cases h
    rename_i cs hcs
    split at h
    case h_2 => cases h
    rename_i l hl
    cases h
    cases h1 with
    | ptr hloc =>
      rename_i loc
      obtain ⟨m, rfl⟩ := Int.eq_ofNat_of_zero_le (Int.le_of_lt hn0)
      simp only [Int.toNat_natCast] at hcs
      obtain ⟨B', hB', hle, hce⟩ := AH.read_some hcs
      rw [hB] at hB'; cases hB'
      obtain ⟨ds, fz, hds, g1, g2, g3, g4⟩ := hi.blk b B loc hB hloc
      have hstp := hi.freeze (off := off) (n := m) hB hloc ho (by omega) hle
      have hl' := hl
      have hr : VRels ρ cs ((ds.extract (loc.off + off) (loc.off + off + m)).toList) := by
        have h4 := (g3.drop off).take m
        rw [List.drop_take, List.drop_drop, List.take_take, Nat.min_eq_left (by omega)] at h4
        rw [hce, Array.toList_extract, List.extract_eq_take_drop, show loc.off + off + m - (loc.off + off) = m from by omega]
        exact h4
      obtain ⟨ns, hns, rfl⟩ := bytesOfCells_list hl hr
      have hlen : ns.length = m := by
        have : (ds.extract (loc.off + off) (loc.off + off + m)).size = m := by simp; omega
        rw [hns] at this; simpa using this
      have hload := run_loadInts (P := P) (w := w) ns (loc.addr off) .empty (fun j x hj => by
        have hjm : j < m := by rw [← hlen]; exact (List.getElem?_eq_some_iff.1 hj).1
        have e : ds[loc.off + off + j]? = some (.int .u8 x) := by
          have : (ds.extract (loc.off + off) (loc.off + off + m))[j]? = some (.int .u8 x) := by rw [hns]; simp [hj]
          rw [Array.getElem?_extract] at this
          split at this
          · simpa using this
          · cases this
        rw [Loc.addr, addr_add, cell_row hds]; exact e)
      rw [hlen] at hload
      have hlies := liesAt_row (P := P) (e := B.elem) (u := u) (s := 0) (szOf_cells hsz) hu.symm (ds.size / P.cellsOf B.elem) (loc.off + off) m (by rw [szOf_cells hsz]; omega)
      rw [Nat.zero_add, Nat.mul_one] at hlies
      refine ⟨_, _, ?_, .atom _, hstp⟩
      have hm0 : ¬ ((m : Int) < 0) := by omega
      have hm1 : ¬ ((m : Int) > IntKind.i64.max) := by
        have : lidA = 1099511627776 := rfl
        rw [show IntKind.i64.max = 9223372036854775807 from by decide]; omega
      have hm2 : ¬ ((m : Int) = 0) := by omega
      unfold Builtin.unsafeString_
      conv => lhs; arg 2; whnf
      simp only [ht, if_neg hm0, if_neg hm1, if_neg hm2, elemOf, run_underlying hp, variablesAt, Sem.run_bind, Sem.run_pure, Result.andThen_ok]
      rw [Loc.addr] at hload
      simp [Loc.addr, World.shape?, hds, hlies, hload]
  · cases h

theorem sDataB_ok {ts : Array TypeId} {ty : TypeId} {as : List AV} {xs : Array Value} {v : AV} {H' : AH} (h : builtinA P .unsafeSliceData ts as H = some (v, H')) (hx : VRels ρ as xs.toList) :
    ∃ y, (Builtin.unsafeSliceData_ ts ty xs).run P w = .ok y w ∧ VRel ρ v y ∧ H' = H := by
  simp only [builtinA] at h
  split at h
  · obtain ⟨x, rfl, h1⟩ := hx.one_inv
    cases h; cases h1
    exact ⟨_, rfl, .atom _, rfl⟩
  · rename_i b off n c
    obtain ⟨x, rfl, h1⟩ := hx.one_inv
    split at h
    case h_2 => cases h
    cases h
    obtain ⟨loc, hloc⟩ := h1.place
    have hxs : ∃ c, n + 1 ≤ c ∧ x = .slice (some (loc.addr off)) (n + 1) c := by
      cases h1 with
      | exact e h => rw [hloc] at e; cases e; exact ⟨_, h, rfl⟩
      | room e h _ => rw [hloc] at e; cases e; exact ⟨_, h, rfl⟩
      | unk e h => rw [hloc] at e; cases e; exact ⟨_, h, rfl⟩
    obtain ⟨c', hc', rfl⟩ := hxs
    exact ⟨_, Lib.run_unsafeSliceData_row w ts ty _ _ c' (by omega), .ptr hloc, rfl⟩
  · cases h

theorem builtinA_ok (hi : Inv P ρ H w) {b : Builtin} {ts : Array TypeId} {ty : TypeId} {consts : Array Bool} {as : List AV} {xs : Array Value} {v : AV} {H' : AH} (h : builtinA P b ts as H = some (v, H'))
    (hx : VRels ρ as xs.toList) (hf : Free ρ H H') :
    ∃ y w' ρ', (builtin b ts ty consts xs).run P w = .ok (.value y) w' ∧ VRel ρ' v y ∧ Stp P ρ H w ρ' H' w' := by
  have lift : ∀ {s : Sem Value} {y : Value} {w' : World}, s.run P w = .ok y w' → ((do pure (.value (← s))) : Sem Next).run P w = .ok (.value y) w' := by
    intro s y w' e
    simp [e]
  cases b with
  | len => obtain ⟨y, h1, h2, rfl⟩ := lenB_ok (ty := ty) (w := w) h hx; exact ⟨y, w, ρ, lift h1, h2, Stp.refl hi⟩
  | cap => obtain ⟨y, h1, h2, rfl⟩ := capB_ok (ty := ty) (w := w) h hx; exact ⟨y, w, ρ, lift h1, h2, Stp.refl hi⟩
  | append =>
    simp only [builtinA] at h
    split at h
    case h_2 => cases h
    rename_i t u s a ht hu
    obtain ⟨x, y, rfl, h1, h2⟩ := hx.two_inv
    split at h
    · rename_i e e' hd hd'
      obtain ⟨z, w', ρ', k1, k2, k3⟩ := appendA_ok (ty := ty) hi h h1 h2 hd (.inl ⟨_, hd'⟩) hf
      exact ⟨z, w', ρ', lift (by rw [append_types ht hu]; exact k1), k2, k3⟩
    · rename_i e hd hd'
      obtain ⟨z, w', ρ', k1, k2, k3⟩ := appendA_ok (ty := ty) hi h h1 h2 hd (.inr hd') hf
      exact ⟨z, w', ρ', lift (by rw [append_types ht hu]; exact k1), k2, k3⟩
    · cases h
  | copy =>
    simp only [builtinA] at h
    split at h
    case h_2 => cases h
    rename_i t s a ht
    obtain ⟨x, y, rfl, h1, h2⟩ := hx.two_inv
    split at h
    · rename_i e hd
      obtain ⟨z, w', k1, k2, k3⟩ := copyA_ok (ty := ty) hi h h1 h2 hd ts ht
      exact ⟨z, w', ρ, lift k1, k2, k3⟩
    · cases h
  | unsafeSliceData => obtain ⟨y, h1, h2, rfl⟩ := sDataB_ok (P := P) (w := w) (ty := ty) h hx; exact ⟨y, w, ρ, lift h1, h2, Stp.refl hi⟩
  | unsafeString => obtain ⟨y, w', h1, h2, h3⟩ := uStrB_ok (ty := ty) hi h hx; exact ⟨y, w', ρ, lift h1, h2, h3⟩
  | max =>
    simp only [builtinA] at h
    cases hm : maxA as with
    | none => rw [hm] at h; cases h
    | some m =>
      rw [hm] at h; cases h
      obtain ⟨y, h1, h2⟩ := maxA_ok (P := P) (w := w) hm hx ts ty
      exact ⟨y, w, ρ, lift h1, h2, Stp.refl hi⟩
  | min =>
    simp only [builtinA] at h
    cases hm : minA as with
    | none => rw [hm] at h; cases h
    | some m =>
      rw [hm] at h; cases h
      obtain ⟨y, h1, h2⟩ := minA_ok (P := P) (w := w) hm hx ts ty
      exact ⟨y, w, ρ, lift h1, h2, Stp.refl hi⟩
  | _ => simp [builtinA] at h

end Go.Am

/-
  The abstract machine's arithmetic, held against the model's. No condition.
-/
import Derived.Test.YtciblegjpgpbfaaGreatDoorAmOps
namespace Go.Am
open Go

theorem wrap_unf (k : IntKind) (n : Int) : k.wrap n = if (k.signed && decide (n % (2 ^ k.bits : Int) ≥ (2 ^ (k.bits - 1) : Int))) = true then n % (2 ^ k.bits : Int) - (2 ^ k.bits : Int) else n % (2 ^ k.bits : Int) := rfl

theorem wu8 (n : Int) : IntKind.u8.wrap n = n % 256 := by simp [IntKind.wrap, IntKind.bits, IntKind.signed]
theorem wu16 (n : Int) : IntKind.u16.wrap n = n % 65536 := by simp [IntKind.wrap, IntKind.bits, IntKind.signed]
theorem wu32 (n : Int) : IntKind.u32.wrap n = n % 4294967296 := by simp [IntKind.wrap, IntKind.bits, IntKind.signed]
theorem wu64 (n : Int) : IntKind.u64.wrap n = n % 18446744073709551616 := by simp [IntKind.wrap, IntKind.bits, IntKind.signed]
theorem wi8 (n : Int) : IntKind.i8.wrap n = (n + 128) % 256 - 128 := by
  simp [IntKind.wrap, IntKind.bits, IntKind.signed]; split <;> omega
theorem wi16 (n : Int) : IntKind.i16.wrap n = (n + 32768) % 65536 - 32768 := by
  simp [IntKind.wrap, IntKind.bits, IntKind.signed]; split <;> omega
theorem wi32 (n : Int) : IntKind.i32.wrap n = (n + 2147483648) % 4294967296 - 2147483648 := by
  simp [IntKind.wrap, IntKind.bits, IntKind.signed]; split <;> omega
theorem wi64 (n : Int) : IntKind.i64.wrap n = (n + 9223372036854775808) % 18446744073709551616 - 9223372036854775808 := by
  simp [IntKind.wrap, IntKind.bits, IntKind.signed]; split <;> omega

theorem wrapN_eq (k : IntKind) (m : Nat) : wrapN k m = k.wrap (.ofNat m) := by
  cases k <;> first | rfl | (simp only [wrapN, wu8, wu16, wu32, wu64]; rfl)

theorem wrapF_eq (k : IntKind) (n : Int) : wrapF k n = k.wrap n := by
  cases n with
  | ofNat m =>
    simp only [wrapF]
    cases h : Nat.blt m (lim k) with
    | false => simp only [cond]; exact wrapN_eq k m
    | true =>
      simp only [cond]
      have hlt : m < lim k := by simpa [Nat.blt_eq] using h
      cases k <;> simp only [lim] at hlt <;> simp only [wu8, wu16, wu32, wu64, wi8, wi16, wi32, wi64, Int.ofNat_eq_natCast] <;> omega
  | negSucc m =>
    cases k with
    | i64 =>
      show cond (Nat.blt m (lim .i64)) (.negSucc m) (IntKind.i64.wrap (.negSucc m)) = _
      cases h : Nat.blt m (lim .i64) with
      | false => exact cond_false _ _
      | true =>
        rw [cond_true]
        have hlt : m < 9223372036854775808 := by rw [Nat.blt_eq] at h; exact h
        simp only [wi64, Int.negSucc_eq]
        omega
    | _ => rfl

theorem addF_eq (a b : Int) : addF a b = a + b := by cases a <;> cases b <;> rfl
theorem mulF_eq (a b : Int) : mulF a b = a * b := by cases a <;> cases b <;> rfl
theorem subF_eq (a b : Int) : subF a b = a - b := by
  cases a with
  | negSucc a => cases b <;> rfl
  | ofNat a =>
    cases b with
    | negSucc b => rfl
    | ofNat b =>
      simp only [subF]
      cases h : Nat.ble b a with
      | true =>
        have := Nat.le_of_ble_eq_true h
        simp only [cond, Int.ofNat_eq_natCast]
        show ((a - b : Nat) : Int) = _
        omega
      | false =>
        have : ¬ b ≤ a := fun e => by rw [Nat.ble_eq_true_of_le e] at h; cases h
        simp only [cond, Int.ofNat_eq_natCast, Int.negSucc_eq]
        show -(((b - a).pred : Nat) + 1 : Int) = _
        have : ((b - a).pred : Nat) = b - a - 1 := rfl
        omega
theorem eqF_eq (a b : Int) : eqF a b = (a == b) := by
  cases a <;> cases b <;> simp only [eqF]
  · rename_i a b
    cases h : Nat.beq a b with
    | true => have := Nat.eq_of_beq_eq_true h; subst this; simp
    | false =>
      have : a ≠ b := fun e => by subst e; rw [Nat.beq_refl] at h; cases h
      symm; simp; omega
  · symm; simp
  · symm; simp
  · rename_i a b
    cases h : Nat.beq a b with
    | true => have := Nat.eq_of_beq_eq_true h; subst this; simp
    | false =>
      have : a ≠ b := fun e => by subst e; rw [Nat.beq_refl] at h; cases h
      symm; simp; omega
theorem ble_dec (a b : Nat) : Nat.ble a b = decide (a ≤ b) := by
  cases h : Nat.ble a b with
  | true => simp [Nat.le_of_ble_eq_true h]
  | false =>
    have : ¬ a ≤ b := fun e => by rw [Nat.ble_eq_true_of_le e] at h; cases h
    simp [this]
theorem leF_eq (a b : Int) : leF a b = decide (a ≤ b) := by
  cases a <;> cases b <;> simp only [leF]
  · rw [ble_dec]; simp
  · symm; simp; omega
  · symm; simp; omega
  · rw [ble_dec, Int.negSucc_eq, Int.negSucc_eq]
    rename_i a b
    by_cases h : b ≤ a
    · rw [decide_eq_true h, decide_eq_true]; omega
    · rw [decide_eq_false h, decide_eq_false]; omega
theorem sameKind_eq {k k' : IntKind} (h : sameKind k k' = true) : k = k' := by cases k <;> cases k' <;> first | rfl | (simp [sameKind] at h)

theorem min_eq (b n : Nat) : (cond (Nat.ble b n) b n) = min b n := by
  rw [ble_dec]; by_cases h : b ≤ n
  · simp [h, Nat.min_eq_left h]
  · simp [h, Nat.min_eq_right (Nat.le_of_not_le h)]

theorem bits_u64 (a b : Nat) (ha : a < 18446744073709551616) (hb : b < 18446744073709551616) (f : Nat → Nat → Nat) (g : BitVec 64 → BitVec 64 → BitVec 64)
    (hg : ∀ x y, (g x y).toNat = f x.toNat y.toNat) : (Int.ofNat (f a b)) = IntKind.u64.wrap (g (BitVec.ofInt 64 (.ofNat a)) (BitVec.ofInt 64 (.ofNat b))).toNat := by
  have e1 : (BitVec.ofInt 64 (Int.ofNat a)).toNat = a := by simp; omega
  have e2 : (BitVec.ofInt 64 (Int.ofNat b)).toNat = b := by simp; omega
  have h1 : f a b < 18446744073709551616 := by
    have := (g (BitVec.ofInt 64 (.ofNat a)) (BitVec.ofInt 64 (.ofNat b))).isLt
    rw [hg, e1, e2] at this
    simpa using this
  rw [hg, e1, e2, wu64]
  simp only [Int.ofNat_eq_natCast]
  omega

theorem andF_eq (k : IntKind) (a b : Int) : bitF Nat.land (andS k) k a b = andS k a b := by
  cases a with
  | negSucc a => rfl
  | ofNat a => cases b with
    | negSucc b => rfl
    | ofNat b =>
      cases k <;> simp only [bitF]
      cases h : (Nat.blt a 18446744073709551616 && Nat.blt b 18446744073709551616) with
      | false => rfl
      | true =>
        simp only [Bool.and_eq_true, Nat.blt_eq] at h
        exact bits_u64 a b h.1 h.2 Nat.land (· &&& ·) (fun x y => by simp [BitVec.toNat_and])
theorem orF_eq (k : IntKind) (a b : Int) : bitF Nat.lor (orS k) k a b = orS k a b := by
  cases a with
  | negSucc a => rfl
  | ofNat a => cases b with
    | negSucc b => rfl
    | ofNat b =>
      cases k <;> simp only [bitF]
      cases h : (Nat.blt a 18446744073709551616 && Nat.blt b 18446744073709551616) with
      | false => rfl
      | true =>
        simp only [Bool.and_eq_true, Nat.blt_eq] at h
        exact bits_u64 a b h.1 h.2 Nat.lor (· ||| ·) (fun x y => by simp [BitVec.toNat_or])
theorem xorF_eq (k : IntKind) (a b : Int) : bitF Nat.xor (xorS k) k a b = xorS k a b := by
  cases a with
  | negSucc a => rfl
  | ofNat a => cases b with
    | negSucc b => rfl
    | ofNat b =>
      cases k <;> simp only [bitF]
      cases h : (Nat.blt a 18446744073709551616 && Nat.blt b 18446744073709551616) with
      | false => rfl
      | true =>
        simp only [Bool.and_eq_true, Nat.blt_eq] at h
        exact bits_u64 a b h.1 h.2 Nat.xor (· ^^^ ·) (fun x y => by simp [BitVec.toNat_xor])

theorem not_dec_le (a b : Int) : decide (a < b) = !decide (b ≤ a) := by
  by_cases h : a < b
  · rw [decide_eq_true h, decide_eq_false (by omega)]; rfl
  · rw [decide_eq_false h, decide_eq_true (by omega)]; rfl

theorem intBin_ok {P : Program} {w : World} {op : BinOp} {k : IntKind} {a b : Int} {v : AV} (t : TypeId) (h : intBin op k a b = some v) :
    ∃ y, v = .atom y ∧ (binOp op t (.int k a) (.int k b)).run P w = .ok y w := by
  cases op <;> simp only [intBin, Option.some.injEq, reduceCtorEq] at h
  case add => exact ⟨_, h.symm, by simp [binOp, Op.intArith, wrapF_eq, addF_eq]⟩
  case sub => exact ⟨_, h.symm, by simp [binOp, Op.intArith, wrapF_eq, subF_eq]⟩
  case mul => exact ⟨_, h.symm, by simp [binOp, Op.intArith, wrapF_eq, mulF_eq]⟩
  case quo =>
    have hq : b ≠ 0 ∧ v = .atom (.int k (k.wrap (a.tdiv b))) := by
      cases a with
      | negSucc a => simp only [quoF] at h; split at h <;> simp_all [AV.int]
      | ofNat a => cases b with
        | negSucc b => simp only [quoF] at h; split at h <;> simp_all [AV.int]
        | ofNat b =>
          simp only [quoF] at h
          cases hb : Nat.beq b 0 with
          | true => rw [hb] at h; cases h
          | false =>
            rw [hb] at h
            simp only [cond, Option.some.injEq] at h
            refine ⟨fun e => ?_, ?_⟩
            · have : b = 0 := by simpa using e
              subst this; cases hb
            · rw [← h, wrapF_eq]; rfl
    exact ⟨_, hq.2, by simp [binOp, Op.intDiv, hq.1]⟩
  case rem =>
    have hq : b ≠ 0 ∧ v = .atom (.int k (a.tmod b)) := by
      cases a with
      | negSucc a => simp only [remF] at h; split at h <;> simp_all [AV.int]
      | ofNat a => cases b with
        | negSucc b => simp only [remF] at h; split at h <;> simp_all [AV.int]
        | ofNat b =>
          simp only [remF] at h
          cases hb : Nat.beq b 0 with
          | true => rw [hb] at h; cases h
          | false =>
            rw [hb] at h
            simp only [cond, Option.some.injEq] at h
            refine ⟨fun e => ?_, ?_⟩
            · have : b = 0 := by simpa using e
              subst this; cases hb
            · rw [← h]; rfl
    exact ⟨_, hq.2, by simp [binOp, Op.intDiv, hq.1]⟩
  case and => exact ⟨_, h.symm, by rw [andF_eq]; simp [binOp, Op.intBits, andS]⟩
  case or => exact ⟨_, h.symm, by rw [orF_eq]; simp [binOp, Op.intBits, orS]⟩
  case xor => exact ⟨_, h.symm, by rw [xorF_eq]; simp [binOp, Op.intBits, xorS]⟩
  case andNot => exact ⟨_, h.symm, by simp [binOp, Op.intBits, clrS]⟩
  case eql => exact ⟨_, h.symm, by simp [binOp, Op.intCmp, eqF_eq]⟩
  case neq => exact ⟨_, h.symm, by simp [binOp, Op.intCmp, eqF_eq, bne]⟩
  case lss => exact ⟨_, h.symm, by simp [binOp, Op.intCmp, leF_eq, not_dec_le]⟩
  case leq => exact ⟨_, h.symm, by simp [binOp, Op.intCmp, leF_eq]⟩
  case gtr => exact ⟨_, h.symm, by simp [binOp, Op.intCmp, leF_eq, not_dec_le]⟩
  case geq => exact ⟨_, h.symm, by simp [binOp, Op.intCmp, leF_eq]⟩

theorem intOp_ok {P : Program} {w : World} {op : BinOp} {k k' : IntKind} {a b : Int} {v : AV} (t : TypeId) (h : intOp op k a k' b = some v) :
    ∃ y, v = .atom y ∧ (binOp op t (.int k a) (.int k' b)).run P w = .ok y w := by
  by_cases h1 : op = .shl
  · subst h1
    simp only [intOp] at h
    have hq : 0 ≤ b ∧ v = .atom (.int k (k.wrap (a * 2 ^ (min b.toNat k.bits)))) := by
      cases b with
      | negSucc b => cases a <;> cases h
      | ofNat b => cases a with
        | negSucc a => simp only [shlF, Option.some.injEq] at h; exact ⟨by simp, h.symm⟩
        | ofNat a =>
          simp only [shlF, Option.some.injEq, min_eq, wrapF_eq] at h
          refine ⟨by simp, ?_⟩
          rw [← h]
          simp only [AV.int, Int.ofNat_eq_natCast, Int.toNat_natCast]
          congr 3
    obtain ⟨h0, hv⟩ := hq
    have hn : ¬ b < 0 := by omega
    exact ⟨_, hv, by simp [binOp, Op.shift, hn]⟩
  · by_cases h2 : op = .shr
    · subst h2
      simp only [intOp] at h
      have hq : 0 ≤ b ∧ v = .atom (.int k (a.fdiv (2 ^ (min b.toNat k.bits)))) := by
        cases b with
        | negSucc b => cases a <;> cases h
        | ofNat b => cases a with
          | negSucc a => simp only [shrF, Option.some.injEq] at h; exact ⟨by simp, h.symm⟩
          | ofNat a =>
            simp only [shrF, Option.some.injEq, min_eq] at h
            refine ⟨by simp, ?_⟩
            rw [← h]
            simp only [AV.int, Int.ofNat_eq_natCast, Int.toNat_natCast]
            congr 2
            show ((a / 2 ^ min b k.bits : Nat) : Int) = _
            rw [Int.fdiv_eq_ediv_of_nonneg _ (by exact Int.le_of_lt (Int.pow_pos (by omega)))]
            rw [Int.natCast_ediv, Int.natCast_pow]; rfl
      obtain ⟨h0, hv⟩ := hq
      have hn : ¬ b < 0 := by omega
      exact ⟨_, hv, by simp [binOp, Op.shift, hn]⟩
    · have : intOp op k a k' b = cond (sameKind k k') (intBin op k a b) none := by
        cases op <;> first | rfl | (exact absurd rfl h1) | (exact absurd rfl h2)
      rw [this] at h
      cases hk : sameKind k k' with
      | false => rw [hk] at h; cases h
      | true =>
        rw [hk] at h
        have := sameKind_eq hk
        subst this
        exact intBin_ok t h

end Go.Am

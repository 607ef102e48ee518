/-
  The abstract machine's operations, held against the model's: comparisons, conversions, addresses, slices. No condition beyond the relation itself.
-/
import Derived.Test.YtciblegjpgpbfaaGreatDoorAmArith
namespace Go.Am
open Go

variable {P : Program} {ρ : Map} {H : AH} {w : World}

theorem strBin_ok {op : BinOp} {a b : ByteArray} {v : AV} (t : TypeId) (h : strBin op a b = some v) :
    ∃ y, v = .atom y ∧ (binOp op t (.string a) (.string b)).run P w = .ok y w := by
  have hrun : (Op.stringOp op a b).run P w = (binOp op t (.string a) (.string b)).run P w := by cases op <;> rfl
  rw [← hrun]
  cases op <;> simp only [strBin, Option.some.injEq, reduceCtorEq] at h
  case add =>
    split at h
    case isFalse => cases h
    rename_i hle
    simp only [Option.some.injEq] at h
    have : ¬ (((a.size + b.size : Nat) : Int) > IntKind.i64.max) := by
      have e : IntKind.i64.max = 9223372036854775807 := by decide
      have : lidA = 1099511627776 := rfl
      rw [e]; omega
    exact ⟨_, h.symm, by simp only [Op.stringOp]; rw [if_neg this]; rfl⟩
  all_goals exact ⟨_, h.symm, rfl⟩

theorem equalIn_ok {t : TypeId} {a b : AV} {x y : Value} {r : Bool} (h : eqA P t a b = some r) (hx : VRel ρ a x) (hy : VRel ρ b y) (d : Nat) :
    (Op.equalIn (d + 1) t x y).run P w = .ok r w := by
  unfold eqA at h
  cases hd : P.underlying t with
  | none => rw [hd] at h; cases h
  | some td =>
    rw [hd] at h
    cases td with
    | bool =>
      simp only at h
      unfold eqBool at h
      split at h
      · cases hx; cases hy; cases h; simp [Op.equalIn, run_underlying hd]
      · cases h
    | pointer e =>
      simp only at h
      unfold eqPtr at h
      split at h
      · cases hx; cases hy; cases h; simp [Op.equalIn, run_underlying hd]
      · cases hx; cases hy; cases h; simp [Op.equalIn, run_underlying hd]
      · cases hx; cases hy; cases h; simp [Op.equalIn, run_underlying hd]
      · cases hx with
        | ptr h1 =>
          cases hy with
          | ptr h2 =>
            split at h
            · rename_i n hs
              rename_i b o b' o' l l' n'
              cases hbb : Nat.beq b b' with
              | false => rw [hbb] at h; cases h
              | true =>
                rw [hbb] at h
                have := Nat.eq_of_beq_eq_true hbb
                subst this
                rw [h1] at h2
                cases h2
                cases h
                simp only [Op.equalIn, Sem.run_bind, run_underlying hd, Result.andThen_ok, run_sizeOf hs]
                rw [if_pos (by simp)]
                simp only [sameAddr, Loc.addr, beq_self_eq_true, if_true, Sem.run_pure]
                congr 1
                rw [Bool.eq_iff_iff]
                simp
            · cases h
      · cases h
    | interface ms =>
      simp only at h
      unfold eqIfc at h
      split at h
      · cases hx; cases hy; cases h; simp [Op.equalIn, run_underlying hd]
      · cases hx; cases hy; cases h; simp [Op.equalIn, run_underlying hd]
      · cases h
    | slice e =>
      simp only at h
      unfold eqSl at h
      split at h
      · cases hx; cases hy; cases h; simp [Op.equalIn, run_underlying hd]
      · cases hx; cases h; cases hy <;> simp [Op.equalIn, run_underlying hd]
      · cases hy; cases h; cases hx <;> simp [Op.equalIn, run_underlying hd]
      · cases h
    | _ => cases h

theorem nil_equalIn {t : TypeId} {ms : Array (String × TypeId)} (hd : P.underlying t = some (.interface ms)) (d : Nat) : (Op.equalIn (d + 1) t .nilIface .nilIface).run P w = .ok true w := by
  simp [Op.equalIn, run_underlying hd]
theorem nil_equal {t : TypeId} {ms : Array (String × TypeId)} (hd : P.underlying t = some (.interface ms)) : (Op.equal t .nilIface .nilIface).run P w = .ok true w :=
  nil_equalIn hd 9999

theorem opBin_ok {op : BinOp} {t : TypeId} {a b v : AV} {x y : Value} {ox oy : Operand} {H' : AH} (h : opBin P op t a b (isConstO ox || isConstO oy) H = some (.value v H')) (hx : VRel ρ a x) (hy : VRel ρ b y) :
    H' = H ∧ ∃ z, ((do eqGuard op t ox oy x y; binOp op t x y) : Sem Value).run P w = .ok z w ∧ VRel ρ v z := by
  unfold opBin at h
  split at h
  · -- two nil interfaces
    cases hx; cases hy
    unfold nilNil at h
    cases hd : P.underlying t with
    | none => rw [hd] at h; cases h
    | some td =>
      rw [hd] at h
      cases hk : (isConstO ox || isConstO oy) with
      | false => rw [hk] at h; cases td <;> cases h
      | true =>
        rw [hk] at h
        have hg : ∀ op, (op = .eql ∨ op = .neq) → (eqGuard op t ox oy .nilIface .nilIface).run P w = .ok () w := by
          intro op ho
          cases ox <;> cases oy <;> simp [isConstO] at hk <;> rcases ho with rfl | rfl <;> simp [eqGuard]
        cases td with
        | interface ms =>
          cases op <;> simp only [opVal, Option.map_some, Option.map_none, reduceCtorEq, Option.some.injEq, ONext.value.injEq] at h
          · obtain ⟨rfl, rfl⟩ := h
            refine ⟨rfl, .bool true, ?_, .atom _⟩
            rw [Sem.run_bind, hg .eql (.inl rfl), show binOp .eql t .nilIface .nilIface = (do pure (.bool (← Op.equal t .nilIface .nilIface))) from rfl]
            simp [nil_equal hd]
          · obtain ⟨rfl, rfl⟩ := h
            refine ⟨rfl, .bool false, ?_, .atom _⟩
            rw [Sem.run_bind, hg .neq (.inr rfl), show binOp .neq t .nilIface .nilIface = (do pure (.bool (!(← Op.equal t .nilIface .nilIface)))) from rfl]
            simp [nil_equal hd]
        | _ => cases op <;> cases h
  · rename_i hnn
    cases hb : binA P op t a b with
    | none => rw [hb] at h; cases h
    | some r =>
      rw [hb] at h
      simp only [opVal, Option.map_some, Option.some.injEq, ONext.value.injEq] at h
      obtain ⟨rfl, rfl⟩ := h
      refine ⟨rfl, ?_⟩
      unfold binA at hb
      split at hb
      · cases hx; cases hy
        obtain ⟨z, rfl, hz⟩ := intOp_ok (P := P) (w := w) t hb
        refine ⟨z, ?_, .atom _⟩
        rename_i k1 n1 k2 n2
        have hg : (eqGuard op t ox oy (.int k1 n1) (.int k2 n2)).run P w = .ok () w := by
          cases op <;> simp [eqGuard]
        rw [Sem.run_bind, hg]; exact hz
      · cases hx; cases hy
        obtain ⟨z, rfl, hz⟩ := strBin_ok (P := P) (w := w) t hb
        refine ⟨z, ?_, .atom _⟩
        rename_i s1 s2
        have hg : (eqGuard op t ox oy (.string s1) (.string s2)).run P w = .ok () w := by cases op <;> simp [eqGuard]
        rw [Sem.run_bind, hg]; exact hz
      · rename_i hni hns
        cases he : eqA P t a b with
        | none => rw [he] at hb; cases op <;> cases hb
        | some r' =>
          rw [he] at hb
          have hrun := equalIn_ok (P := P) (w := w) he hx hy 9999
          have hshape : (eqGuard op t ox oy x y).run P w = .ok () w ∧ (op = .eql → binOp op t x y = (do pure (.bool (← Op.equal t x y)))) ∧ (op = .neq → binOp op t x y = (do pure (.bool (!(← Op.equal t x y))))) := by
            unfold eqA at he
            cases hd : P.underlying t with
            | none => rw [hd] at he; cases he
            | some td =>
              rw [hd] at he
              cases td with
              | bool =>
                simp only at he; unfold eqBool at he; split at he
                · cases hx; cases hy; cases op <;> simp [eqGuard, binOp]
                · cases he
              | pointer e =>
                simp only at he; unfold eqPtr at he; split at he
                · cases hx; cases hy; cases op <;> simp [eqGuard, binOp]
                · cases hx; cases hy; cases op <;> simp [eqGuard, binOp]
                · cases hx; cases hy; cases op <;> simp [eqGuard, binOp]
                · cases hx; cases hy; cases op <;> simp [eqGuard, binOp]
                · cases he
              | interface ms =>
                simp only at he; unfold eqIfc at he; split at he
                · cases hx; cases hy; cases op <;> simp [eqGuard, binOp]
                · cases hx; cases hy; cases op <;> simp [eqGuard, binOp]
                · cases he
              | slice e =>
                simp only at he; unfold eqSl at he; split at he
                · cases hx; cases hy; cases op <;> simp [eqGuard, binOp]
                · cases hx; cases hy <;> cases op <;> simp [eqGuard, binOp]
                · cases hy; cases hx <;> cases op <;> simp [eqGuard, binOp]
                · cases he
              | _ => cases he
          obtain ⟨hg, h1, h2⟩ := hshape
          have hrun' : (Op.equal t x y).run P w = .ok r' w := hrun
          cases op <;> simp only [eqOp, Option.some.injEq, reduceCtorEq] at hb
          · exact ⟨.bool r', by rw [Sem.run_bind, hg, h1 rfl]; simp [hrun'], by rw [← hb]; exact .atom _⟩
          · exact ⟨.bool (!r'), by rw [Sem.run_bind, hg, h2 rfl]; simp [hrun'], by rw [← hb]; exact .atom _⟩

theorem unA_ok {op : UnOp} {a v : AV} {x : Value} (h : unA op a = some v) (hx : VRel ρ a x) : ∃ y, (Op.unary op x).run P w = .ok y w ∧ VRel ρ v y := by
  unfold unA at h
  split at h
  · cases hx; cases h; exact ⟨_, by simp [Op.unary, Op.intArith, wrapF_eq, subF_eq], .atom _⟩
  · cases hx; cases h; exact ⟨_, by simp [Op.unary, Op.intBits], .atom _⟩
  · cases hx; cases h; exact ⟨_, by simp [Op.unary], .atom _⟩
  · cases h

theorem opPick_ok {c a b v : AV} {x y z : Value} {H' : AH} (h : opPick c a b H = some (.value v H')) (hc : VRel ρ c x) (ha : VRel ρ a y) (hb : VRel ρ b z) :
    H' = H ∧ ∃ u, (asBool x >>= fun t => pure (Next.value (if t then y else z)) : Sem Next).run P w = .ok (.value u) w ∧ VRel ρ v u := by
  unfold opPick at h
  split at h
  · cases hc
    simp only [Option.some.injEq, ONext.value.injEq] at h
    obtain ⟨rfl, rfl⟩ := h
    rename_i t
    cases t
    · exact ⟨rfl, z, by simp [asBool], hb⟩
    · exact ⟨rfl, y, by simp [asBool], ha⟩
  · cases h

theorem opNilCheck_ok {a v : AV} {x : Value} {H' : AH} (h : opNilCheck a H = some (.value v H')) (hx : VRel ρ a x) {o : Oper} {ρc : Operand → Value} {q : Operand} (ho : o.op = .nilCheck q) (hq : ρc q = x) :
    H' = H ∧ ∃ u, (execOp ρc o).run P w = .ok (.value u) w ∧ VRel ρ v u := by
  unfold opNilCheck at h
  split at h
  · cases h
    cases hx with
    | ptr e => exact ⟨rfl, _, by simp [execOp, ho, hq], .ptr e⟩
  · cases h
    cases hx with
    | fn e1 e2 => exact ⟨rfl, _, by simp [execOp, ho, hq], .fn e1 e2⟩
  · cases h

theorem opIface_ok {t : TypeId} {a v : AV} {x : Value} {H' : AH} (h : opIface P t a H = some (.value v H')) (hx : VRel ρ a x) :
    H' = H ∧ ∃ u, (Instr.makeInterface t x).run P w = .ok u w ∧ VRel ρ v u := by
  unfold opIface at h
  split at h
  · cases h
  · cases h
  · rename_i d hne hd
    cases h
    refine ⟨rfl, _, ?_, .iface hx⟩
    simp only [Instr.makeInterface, Sem.run_bind, run_underlying hd, Result.andThen_ok]
    cases d <;> first | rfl | (exact absurd hd (hne _))

theorem opFieldAddr_ok {s : TypeId} {a v : AV} {x : Value} {f : Nat} {H' : AH} (h : opFieldAddr P s a f H = some (.value v H')) (hx : VRel ρ a x) :
    H' = H ∧ ∃ u, (Instr.fieldAt s x f).run P w = .ok u w ∧ VRel ρ v u := by
  unfold opFieldAddr at h
  split at h
  · rename_i fs b off hd
    cases hf : fs[f]? with
    | none => rw [hf] at h; cases h
    | some fd =>
      rw [hf] at h
      simp only at h
      split at h
      · rename_i n hs
        cases h
        cases hx with
        | ptr e =>
          rename_i l
          refine ⟨rfl, .pointer (some (l.addr (off + fd.offset))), ?_, .ptr e⟩
          have : (l.addr off).add fd.offset = l.addr (off + fd.offset) := by unfold Loc.addr; rw [addr_add, Nat.add_assoc]
          simp [Instr.fieldAt, run_underlying hd, hf, Instr.sureAddr, fieldPlace, run_sizeOf hs, this]
      · cases h
  · cases h

theorem opField_ok {s : TypeId} {a v : AV} {x : Value} {f : Nat} {H' : AH} (h : opField P s a f H = some (.value v H')) (hx : VRel ρ a x) :
    H' = H ∧ ∃ u, (Instr.field s x f).run P w = .ok u w ∧ VRel ρ v u := by
  unfold opField at h
  split at h
  · rename_i fs cs hd
    cases hf : fs[f]? with
    | none => rw [hf] at h; cases h
    | some fd =>
      rw [hf] at h
      simp only [opVal] at h
      cases hp : partA P fd.type cs fd.offset with
      | none => rw [hp] at h; cases h
      | some r =>
        rw [hp] at h
        cases h
        cases hx with
        | agg e =>
          obtain ⟨y, hy, hr⟩ := partA_ok (P := P) (w := w) hp e
          exact ⟨rfl, y, by simp [Instr.field, run_underlying hd, hf, asAgg, hy], hr⟩
  · cases h

theorem inRange_some {i : Int} {n k : Nat} (h : inRangeA i n = some k) : 0 ≤ i ∧ i < n ∧ i.toNat = k := by
  unfold inRangeA at h
  split at h
  · rename_i m
    cases hb : Nat.blt m n with
    | false => rw [hb] at h; cases h
    | true => rw [hb] at h; cases h; rw [Nat.blt_eq] at hb; exact ⟨by simp, by simpa using hb, by simp⟩
  · cases h

theorem opIndexAddr_ok {t : TypeId} {a i v : AV} {x y : Value} {H' : AH} (h : opIndexAddr P t a i H = some (.value v H')) (hx : VRel ρ a x) (hy : VRel ρ i y) :
    H' = H ∧ ∃ u, (Instr.indexAt t x y).run P w = .ok u w ∧ VRel ρ v u := by
  unfold opIndexAddr at h
  split at h
  · rename_i e b off len cap k n hd
    split at h
    · rename_i size kk hs hr
      cases h
      obtain ⟨h0, h1, rfl⟩ := inRange_some hr
      cases hy
      have hadd : ∀ l : Loc, (l.addr off).add (n.toNat * size) = l.addr (off + n.toNat * size) := fun l => by unfold Loc.addr; rw [addr_add, Nat.add_assoc]
      cases hx with
      | exact e c => exact ⟨rfl, _, by simp [Instr.indexAt, asIntOf, run_underlying hd, h0, h1, run_sizeOf hs, hadd], .ptr e⟩
      | room e c t => exact ⟨rfl, _, by simp [Instr.indexAt, asIntOf, run_underlying hd, h0, h1, run_sizeOf hs, hadd], .ptr e⟩
      | unk e c => exact ⟨rfl, _, by simp [Instr.indexAt, asIntOf, run_underlying hd, h0, h1, run_sizeOf hs, hadd], .ptr e⟩
    · cases h
  · rename_i len e b off k n hd
    split at h
    · rename_i size kk hs hr
      cases h
      obtain ⟨h0, h1, rfl⟩ := inRange_some hr
      cases hy
      have hadd : ∀ l : Loc, (l.addr off).add (n.toNat * size) = l.addr (off + n.toNat * size) := fun l => by unfold Loc.addr; rw [addr_add, Nat.add_assoc]
      cases hx with
      | ptr e => exact ⟨rfl, _, by simp [Instr.indexAt, asIntOf, run_underlying hd, Instr.sureAddr, h0, h1, run_sizeOf hs, hadd], .ptr e⟩
    · cases h
  · cases h

theorem opIndex_ok {t : TypeId} {a i v : AV} {x y : Value} {H' : AH} (h : opIndex P t a i H = some (.value v H')) (hx : VRel ρ a x) (hy : VRel ρ i y) :
    H' = H ∧ ∃ u, (Instr.index t x y).run P w = .ok u w ∧ VRel ρ v u := by
  unfold opIndex at h
  split at h
  · rename_i s k n hd
    split at h
    · rename_i kk hr
      obtain ⟨h0, h1, rfl⟩ := inRange_some hr
      split at h
      · rename_i b hb
        cases h
        cases hx; cases hy
        exact ⟨rfl, _, by simp [Instr.index, asIntOf, run_underlying hd, h0, hb], .atom _⟩
      · cases h
    · cases h
  · rename_i len e cs k n hd
    split at h
    · rename_i size kk hs hr
      obtain ⟨h0, h1, rfl⟩ := inRange_some hr
      simp only [opVal] at h
      cases hp : partA P e cs (n.toNat * size) with
      | none => rw [hp] at h; cases h
      | some r =>
        rw [hp] at h
        cases h
        cases hy
        cases hx with
        | agg ec =>
          obtain ⟨u, hu, hr'⟩ := partA_ok (P := P) (w := w) hp ec
          exact ⟨rfl, u, by simp [Instr.index, asIntOf, run_underlying hd, h0, h1, run_sizeOf hs, hu], hr'⟩
    · cases h
  · cases h

theorem opAssert_ok {xt t : TypeId} {a v : AV} {x : Value} {ok : Bool} {H' : AH} (h : opAssert P a t ok H = some (.value v H')) (hx : VRel ρ a x) :
    H' = H ∧ ∃ u, (Instr.typeAssert x xt t ok).run P w = .ok u w ∧ VRel ρ v u := by
  unfold opAssert at h
  split at h
  · cases h
  · rename_i d u y hne hd
    cases hb : Nat.beq u t with
    | false => rw [hb] at h; cases h
    | true =>
      rw [hb] at h
      have := Nat.eq_of_beq_eq_true hb
      subst this
      cases h
      cases hx with
      | iface hv =>
        rename_i wv
        refine ⟨rfl, if ok then .tuple #[wv, .bool true] else wv, ?_, ?_⟩
        · simp only [Instr.typeAssert, Sem.run_bind, run_underlying hd, Result.andThen_ok]
          cases d <;> first | (exact absurd hd (hne _)) | (cases ok <;> simp)
        · cases ok
          · exact hv
          · exact .tuple (.cons hv (.cons (.atom _) .nil))
  · cases h

theorem opExtract_ok {a v : AV} {x : Value} {i : Nat} {H' : AH} (h : opExtract a i H = some (.value v H')) (hx : VRel ρ a x) :
    H' = H ∧ ∃ u, (Instr.extract x i).run P w = .ok u w ∧ VRel ρ v u := by
  unfold opExtract at h
  split at h
  · rename_i l
    simp only [opVal] at h
    cases hl : l[i]? with
    | none => rw [hl] at h; cases h
    | some r =>
      rw [hl] at h
      cases h
      cases hx with
      | tuple e =>
        obtain ⟨u, hu, hr⟩ := e.has hl
        rw [Array.getElem?_toList] at hu
        exact ⟨rfl, u, by simp [Instr.extract, hu], hr⟩
  · cases h

end Go.Am

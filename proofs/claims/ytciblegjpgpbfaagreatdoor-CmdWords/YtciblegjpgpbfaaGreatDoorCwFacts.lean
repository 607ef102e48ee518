/-
  The closed facts of CmdWords' row and card, one by one. No condition.
-/
import Derived.Test.YtciblegjpgpbfaaGreatDoorCards
import Derived.Test.YtciblegjpgpbfaaGreatDoorTie
import Derived.JoinedOf
import Derived.JoinedCond
namespace Go.Proofs.YtciblegjpgpbfaaGreatDoor.words
set_option maxRecDepth 100000
set_option linter.unusedSimpArgs false
set_option linter.unusedVariables false

theorem j10 : (Rows.cmdWordsRow.inPlace == Tryz.pinned.checked.prog.inPlace 3) = true := by kernel_rfl
theorem j11 : (Rows.cmdWordsRow.unfollowed == Tryz.pinned.checked.prog.unfollowed 3) = true := by kernel_rfl
theorem j13 : (Rows.cmdWordsRow.named == Tryz.pinned.checked.prog.varsNamed 3) = true := by kernel_rfl
theorem unf : Tryz.pinned.checked.prog.unfollowed 3 = true := by kernel_rfl
theorem j12 : (Rows.cmdWordsRow.recurses == Tryz.pinned.checked.prog.recurses 3) = true := by
  unfold Program.recurses
  rw [unf]
  kernel_rfl
theorem closed : joinedFacts Tryz.pinned.checked.prog 3 Tryz.f3 (OpenSpec.ofChange Rows.cmdWordsSpec).bare Rows.cmdWordsRow = true := by
  unfold joinedFacts
  rw [j10, j11, j12, j13]
  kernel_rfl

theorem noGo : Tryz.pinned.checked.prog.funcs.any Func.goes = false := by kernel_rfl
theorem goes_none {P : Program} (h : P.funcs.any Func.goes = false) (f : FuncId) : P.goes f = false := by
  unfold Program.goes
  rw [h, Bool.and_false, Bool.or_false, List.any_eq_false]
  intro g _
  cases hg : P.funcs[g]? with
  | none => simp
  | some fn =>
    have hm : fn ∈ P.funcs := Array.mem_of_getElem? hg
    rw [Array.any_eq_false'] at h
    simpa using h fn hm
theorem noGoAt : false = Rows.cmdWordsRow.goesBy Tryz.pinned.checked.prog := by
  unfold OpenClaim.goesBy Program.goesAt Program.goesFrom
  cases hf : Tryz.pinned.checked.prog.funcNamed Rows.cmdWordsRow.func with
  | none => rfl
  | some f => simp only [Option.any_some, goes_none noGo f]; rfl
end Go.Proofs.YtciblegjpgpbfaaGreatDoor.words

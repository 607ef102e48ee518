/-
  ALL ENTRIES OF THE TABLE STAND: its primitives are sound. No condition.
-/

import Derived.Test.YtciblegjpgpbfaaGreatDoorKnCk0
import Derived.Test.YtciblegjpgpbfaaGreatDoorKnCk1
import Derived.Test.YtciblegjpgpbfaaGreatDoorKnCk2
import Derived.Test.YtciblegjpgpbfaaGreatDoorKnCk3
import Derived.Test.YtciblegjpgpbfaaGreatDoorKnCk4
import Derived.Test.YtciblegjpgpbfaaGreatDoorKnCk5
namespace Go.Kn
open Go Go.Am
theorem all : ∀ e ∈ Tab.flat T, chk Go.Proofs.Tryz.prog G T 100000 100000 e = true := by
  rw [flat_eq]
  intro e he
  obtain ⟨l, hl, he⟩ := List.mem_flatten.1 he
  simp only [B, List.mem_cons, List.not_mem_nil, or_false] at hl
  rcases hl with rfl | rfl | rfl | rfl | rfl | rfl | rfl | rfl | rfl | rfl | rfl | rfl | rfl | rfl | rfl | rfl | rfl | rfl | rfl | rfl | rfl | rfl | rfl | rfl | rfl | rfl | rfl | rfl
  · exact chks_ok ck0 e he
  · exact chks_ok ck1 e he
  · exact chks_ok ck2 e he
  · exact chks_ok ck3 e he
  · exact chks_ok ck4 e he
  · exact chks_ok ck5 e he
  · exact chks_ok ck6 e he
  · exact chks_ok ck7 e he
  · exact chks_ok ck8 e he
  · exact chks_ok ck9 e he
  · exact chks_ok ck10 e he
  · exact chks_ok ck11 e he
  · exact chks_ok ck12 e he
  · exact chks_ok ck13 e he
  · exact chks_ok ck14 e he
  · exact chks_ok ck15 e he
  · exact chks_ok ck16 e he
  · exact chks_ok ck17 e he
  · exact chks_ok ck18 e he
  · exact chks_ok ck19 e he
  · exact chks_ok ck20 e he
  · exact chks_ok ck21 e he
  · exact chks_ok ck22 e he
  · exact chks_ok ck23 e he
  · exact chks_ok ck24 e he
  · exact chks_ok ck25 e he
  · exact chks_ok ck26 e he
  · exact chks_ok ck27 e he
end Go.Kn

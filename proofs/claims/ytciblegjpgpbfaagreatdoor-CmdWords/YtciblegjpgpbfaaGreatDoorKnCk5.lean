/-
  Entries of the table, held by the kernel. No condition.
-/

import Derived.Test.YtciblegjpgpbfaaGreatDoorKnTab
namespace Go.Kn
open Go Go.Am
theorem ck25 : chks Go.Proofs.Tryz.prog G T 100000 100000 B25 = true := by decide +kernel
theorem ck26 : chks Go.Proofs.Tryz.prog G T 100000 100000 B26 = true := by decide +kernel
theorem ck27 : chks Go.Proofs.Tryz.prog G T 100000 100000 B27 = true := by decide +kernel
end Go.Kn

/-
  Entries of the table, held by the kernel. No condition.
-/

import Derived.Test.YtciblegjpgpbfaaGreatDoorKnTab
namespace Go.Kn
open Go Go.Am
theorem ck5 : chks Go.Proofs.Tryz.prog G T 100000 100000 B5 = true := by decide +kernel
theorem ck6 : chks Go.Proofs.Tryz.prog G T 100000 100000 B6 = true := by decide +kernel
theorem ck7 : chks Go.Proofs.Tryz.prog G T 100000 100000 B7 = true := by decide +kernel
theorem ck8 : chks Go.Proofs.Tryz.prog G T 100000 100000 B8 = true := by decide +kernel
theorem ck9 : chks Go.Proofs.Tryz.prog G T 100000 100000 B9 = true := by decide +kernel
end Go.Kn

/-
  Entries of the table, held by the kernel. No condition.
-/

import Derived.Test.YtciblegjpgpbfaaGreatDoorKnTab
namespace Go.Kn
open Go Go.Am
theorem ck15 : chks Go.Proofs.Tryz.prog G T 100000 100000 B15 = true := by decide +kernel
theorem ck16 : chks Go.Proofs.Tryz.prog G T 100000 100000 B16 = true := by decide +kernel
theorem ck17 : chks Go.Proofs.Tryz.prog G T 100000 100000 B17 = true := by decide +kernel
theorem ck18 : chks Go.Proofs.Tryz.prog G T 100000 100000 B18 = true := by decide +kernel
theorem ck19 : chks Go.Proofs.Tryz.prog G T 100000 100000 B19 = true := by decide +kernel
end Go.Kn

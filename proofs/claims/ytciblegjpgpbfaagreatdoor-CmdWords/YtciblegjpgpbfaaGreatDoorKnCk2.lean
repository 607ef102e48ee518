/-
  Entries of the table, held by the kernel. No condition.
-/

import Derived.Test.YtciblegjpgpbfaaGreatDoorKnTab
namespace Go.Kn
open Go Go.Am
theorem ck10 : chks Go.Proofs.Tryz.prog G T 100000 100000 B10 = true := by decide +kernel
theorem ck11 : chks Go.Proofs.Tryz.prog G T 100000 100000 B11 = true := by decide +kernel
theorem ck12 : chks Go.Proofs.Tryz.prog G T 100000 100000 B12 = true := by decide +kernel
theorem ck13 : chks Go.Proofs.Tryz.prog G T 100000 100000 B13 = true := by decide +kernel
theorem ck14 : chks Go.Proofs.Tryz.prog G T 100000 100000 B14 = true := by decide +kernel
end Go.Kn

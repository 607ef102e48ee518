/-
  Entries of the table, held by the kernel. No condition.
-/

import Derived.Test.YtciblegjpgpbfaaGreatDoorKnTab
namespace Go.Kn
open Go Go.Am
theorem ck0 : chks Go.Proofs.Tryz.prog G T 100000 100000 B0 = true := by decide +kernel
theorem ck1 : chks Go.Proofs.Tryz.prog G T 100000 100000 B1 = true := by decide +kernel
theorem ck2 : chks Go.Proofs.Tryz.prog G T 100000 100000 B2 = true := by decide +kernel
theorem ck3 : chks Go.Proofs.Tryz.prog G T 100000 100000 B3 = true := by decide +kernel
theorem ck4 : chks Go.Proofs.Tryz.prog G T 100000 100000 B4 = true := by decide +kernel
end Go.Kn

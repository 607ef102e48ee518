/-
  Entries of the table, held by the kernel. No condition.
-/

import Derived.Test.YtciblegjpgpbfaaGreatDoorKnTab
namespace Go.Kn
open Go Go.Am
theorem ck20 : chks Go.Proofs.Tryz.prog G T 100000 100000 B20 = true := by decide +kernel
theorem ck21 : chks Go.Proofs.Tryz.prog G T 100000 100000 B21 = true := by decide +kernel
theorem ck22 : chks Go.Proofs.Tryz.prog G T 100000 100000 B22 = true := by decide +kernel
theorem ck23 : chks Go.Proofs.Tryz.prog G T 100000 100000 B23 = true := by decide +kernel
theorem ck24 : chks Go.Proofs.Tryz.prog G T 100000 100000 B24 = true := by decide +kernel
end Go.Kn

/-
  The slices' types of disks.
-/
import Derived.Test.YteliekblhcbmgaaGenDk
import Derived.Test.YteliekblhcbmgaaLists
namespace Go.Proofs.Yteliekblhcbmgaa
open Go.Vc
theorem slBs : SlT Try.prog 36 30 1 24 := .of (by kernel_rfl)
theorem slWd : SlT Try.prog 54 59 2 32 := .of (by kernel_rfl)
theorem slWm : SlT Try.prog 64 68 2 32 := .of (by kernel_rfl)
end Go.Proofs.Yteliekblhcbmgaa

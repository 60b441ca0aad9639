/-
  What holds of this translation at large.
-/
import Derived.Test.YteliekblhcbmgaaHp
import Derived.Test.YteliekblhcbmgaaProg
namespace Go.Proofs.Yteliekblhcbmgaa
open Go.Vc
theorem okN : okNames Try.prog = true := by kernel_rfl
theorem mixed : Try.prog.follows .mixedOrders = true := by kernel_rfl
theorem slU8 : SlT Try.prog 30 5 1 1 := .of (by kernel_rfl)
theorem strU8 : isBytesB Try.prog 30 9 = true := by kernel_rfl
end Go.Proofs.Yteliekblhcbmgaa

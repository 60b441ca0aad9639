/-
  What holds of this translation at large.
-/
import Derived.Test.YtfploingelmpkaaHp
import Derived.Test.YtfploingelmpkaaProg
namespace Go.Proofs.Ytfploingelmpkaa
open Go.Vc
theorem okN : okNames Try.prog = true := by kernel_rfl
theorem mixed : Try.prog.follows .mixedOrders = true := by kernel_rfl
theorem slU8 : SlT Try.prog 25 5 1 1 := .of (by kernel_rfl)
theorem strU8 : isBytesB Try.prog 25 9 = true := by kernel_rfl
end Go.Proofs.Ytfploingelmpkaa

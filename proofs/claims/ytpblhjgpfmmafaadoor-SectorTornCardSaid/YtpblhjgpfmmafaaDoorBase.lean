/-
  What holds of this translation at large.
-/
import Derived.Test.YtpblhjgpfmmafaaDoorHp
import Derived.Test.YtpblhjgpfmmafaaDoorProg
namespace Go.Proofs.YtpblhjgpfmmafaaDoor
open Go.Vc
theorem okN : okNames Tryd.prog = true := by kernel_rfl
theorem mixed : Tryd.prog.follows .mixedOrders = true := by kernel_rfl
theorem slU8 : SlT Tryd.prog 22 5 1 1 := .of (by kernel_rfl)
theorem strU8 : isBytesB Tryd.prog 22 9 = true := by kernel_rfl
end Go.Proofs.YtpblhjgpfmmafaaDoor

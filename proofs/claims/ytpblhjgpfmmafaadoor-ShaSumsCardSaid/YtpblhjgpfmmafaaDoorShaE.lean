/-
  Plain: two digests reckoned.
-/
import Derived.Test.YtpblhjgpfmmafaaDoorShaD
import Derived.KernelRfl
namespace Go.Vc
open Go
theorem sha_nil : (shaB []).take 4 = [227, 176, 196, 66] := by kernel_rfl
theorem sha_abc : (shaB [97, 98, 99]).take 4 = [186, 120, 22, 191] := by kernel_rfl
end Go.Vc

/- The conditions of functions, printed by a program (wip/gen/gen.py) from the translation. -/
import Derived.Test.YtdjgdcafmfheoaaDoorHpM
set_option linter.unusedVariables false
namespace Go.Proofs.YtdjgdcafmfheoaaDoor
open Go.Vc

-- slices.Equal[[]byte,byte]
def slices_Equal_byte_byte_VC (o0 : Option Addr) (l0 : Nat) (c0 : Nat) (o1 : Option Addr) (l1 : Nat) (c1 : Nat) (w : World) (R : Value → World → Prop) : Prop :=
  BS (((l0 : Nat) : Int) != ((l1 : Nat) : Int)) (R (.bool false) w) (LoopI (0 : Int) w fun B1 n13 w1 => BS (decide (n13 < ((l0 : Nat) : Int))) (DrewC w1 fun w2 => Req (bnd n13 l0) <| TSome o0 fun a18 => LoadC w2 (a18.add (n13.toNat * 1)) fun v19 => TInt .u8 v19 fun n19 => Req (bnd n13 l1) <| TSome o1 fun a22 => LoadC w2 (a22.add (n13.toNat * 1)) fun v23 => TInt .u8 v23 fun n23 => BS (n19 != n23) (R (.bool false) w2) (B1 [.int .i64 (IntKind.wrap .i64 (n13 + (1 : Int)))] w2)) (R (.bool true) w1))
theorem slices_Equal_byte_byte_vc {o0 : Option Addr} {l0 : Nat} {c0 : Nat} {o1 : Option Addr} {l1 : Nat} {c1 : Nat} {w : World} {R : Value → World → Prop} (h : slices_Equal_byte_byte_VC o0 l0 c0 o1 l1 c1 w R) : CallV Tryd.prog 63 #[.slice o0 l0 c0, .slice o1 l1 c1] w R :=
  vc_intro (A := [(4, [(13, 3)])]) (args := [.slice o0 l0 c0, .slice o1 l1 c1]) okN mixed Tryd.func63 (by kernel_rfl) (by kernel_rfl) h

end Go.Proofs.YtdjgdcafmfheoaaDoor

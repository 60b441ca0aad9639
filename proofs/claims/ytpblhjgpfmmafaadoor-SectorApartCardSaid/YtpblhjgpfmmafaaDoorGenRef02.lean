/- The conditions of functions, printed by a program (wip/gen/gen.py) from the translation. -/
import Derived.Test.YtpblhjgpfmmafaaDoorBase
set_option linter.unusedVariables false
namespace Go.Proofs.YtpblhjgpfmmafaaDoor
open Go.Vc

-- trireme/triremeref02.Uint
def ref02_Uint_K1 (n0 : Int) (n1 : Int) (b14 : Bool) (w : World) (R : Value → World → Prop) : Prop :=
  BS b14 (AllocC w (.cells #[] 5) fun a15 w1 => R (.tuple #[.slice (some ⟨a15, 0, none⟩) 0 0, .int .i64 (1 : Int)]) w1) (RunV Tryd.prog (Instr.makeSlice 22 (.int .i64 n1) (.int .i64 n1)) w fun v17 w2 => TSl v17 fun o17 l17 c17 => LoopNI .u64 n0 (0 : Int) w2 fun B1 n7 n8 w3 => BS (decide (n8 < n1)) (Req (bnd (IntKind.wrap .i64 ((IntKind.wrap .i64 (n1 - (1 : Int))) - n8)) l17) <| TSome o17 fun a32 => StoreC w3 (a32.add ((IntKind.wrap .i64 ((IntKind.wrap .i64 (n1 - (1 : Int))) - n8)).toNat * 1)) (.int .u8 (IntKind.wrap .u8 (Int.tmod n7 (256 : Int)))) fun w4 => B1 [.int .u64 (IntKind.wrap .u64 (Int.tdiv n7 (256 : Int))), .int .i64 (IntKind.wrap .i64 (n8 + (1 : Int)))] w4) (BS (decide (n7 > (0 : Int))) (AllocC w3 (.cells #[] 5) fun a37 w5 => R (.tuple #[.slice (some ⟨a37, 0, none⟩) 0 0, .int .i64 (1 : Int)]) w5) (R (.tuple #[.slice o17 l17 c17, .int .i64 (0 : Int)]) w3)))
def ref02_Uint_VC (n0 : Int) (n1 : Int) (w : World) (R : Value → World → Prop) : Prop :=
  BS (decide (n1 < (1 : Int))) (AllocC w (.cells #[] 5) fun a15 w1 => R (.tuple #[.slice (some ⟨a15, 0, none⟩) 0 0, .int .i64 (1 : Int)]) w1) (ref02_Uint_K1 n0 n1 (decide (n1 > (8 : Int))) w R)
theorem ref02_Uint_vc {n0 : Int} {n1 : Int} {w : World} {R : Value → World → Prop} (h : ref02_Uint_VC n0 n1 w R) : CallV Tryd.prog 44 #[.int .u64 n0, .int .i64 n1] w R :=
  vc_intro (A := [(6, [(7, 40), (8, 3)])]) (args := [.int .u64 n0, .int .i64 n1]) okN mixed Tryd.func44 (by kernel_rfl) (by kernel_rfl) h

-- trireme/triremeref02.Number
def ref02_Number_VC (o0 : Option Addr) (l0 : Nat) (c0 : Nat) (w : World) (R : Value → World → Prop) : Prop :=
  LoopNI .u64 (0 : Int) (0 : Int) w fun B1 n3 n4 w1 => BS (decide (n4 < ((l0 : Nat) : Int))) (Req (bnd n4 l0) <| TSome o0 fun a15 => LoadC w1 (a15.add (n4.toNat * 1)) fun v16 => TInt .u8 v16 fun n16 => B1 [.int .u64 (IntKind.wrap .u64 ((IntKind.wrap .u64 (n3 * (256 : Int))) + (IntKind.wrap .u64 n16))), .int .i64 (IntKind.wrap .i64 (n4 + (1 : Int)))] w1) (R (.int .u64 n3) w1)
theorem ref02_Number_vc {o0 : Option Addr} {l0 : Nat} {c0 : Nat} {w : World} {R : Value → World → Prop} (h : ref02_Number_VC o0 l0 c0 w R) : CallV Tryd.prog 47 #[.slice o0 l0 c0] w R :=
  vc_intro (A := [(3, [(3, 40), (4, 3)])]) (args := [.slice o0 l0 c0]) okN mixed Tryd.func47 (by kernel_rfl) (by kernel_rfl) h

end Go.Proofs.YtpblhjgpfmmafaaDoor

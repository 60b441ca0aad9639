/- The conditions of functions, printed by a program (wip/gen/gen.py) from the translation. -/
import Derived.Test.YtdjgdcafmfheoaaDoorHpM
set_option linter.unusedVariables false
namespace Go.Proofs.YtdjgdcafmfheoaaDoor
open Go.Vc

-- trireme/triremeref02.Uint
def ref02_Uint_K1 (n0 : Int) (n1 : Int) (b14 : Bool) (w : World) (R : Value → World → Prop) : Prop :=
  BS b14 (AllocC w (.cells #[] 5) fun a15 w1 => R (.tuple #[.slice (some ⟨a15, 0, none⟩) 0 0, .int .i64 (1 : Int)]) w1) (RunV Tryd.prog (Instr.makeSlice 26 (.int .i64 n1) (.int .i64 n1)) w fun v17 w2 => TSl v17 fun o17 l17 c17 => LoopNI .u64 n0 (0 : Int) w2 fun B1 n7 n8 w3 => BS (decide (n8 < n1)) (Req (bnd (IntKind.wrap .i64 ((IntKind.wrap .i64 (n1 - (1 : Int))) - n8)) l17) <| TSome o17 fun a32 => StoreC w3 (a32.add ((IntKind.wrap .i64 ((IntKind.wrap .i64 (n1 - (1 : Int))) - n8)).toNat * 1)) (.int .u8 (IntKind.wrap .u8 (Int.tmod n7 (256 : Int)))) fun w4 => B1 [.int .u64 (IntKind.wrap .u64 (Int.tdiv n7 (256 : Int))), .int .i64 (IntKind.wrap .i64 (n8 + (1 : Int)))] w4) (BS (decide (n7 > (0 : Int))) (AllocC w3 (.cells #[] 5) fun a37 w5 => R (.tuple #[.slice (some ⟨a37, 0, none⟩) 0 0, .int .i64 (1 : Int)]) w5) (R (.tuple #[.slice o17 l17 c17, .int .i64 (0 : Int)]) w3)))
def ref02_Uint_VC (n0 : Int) (n1 : Int) (w : World) (R : Value → World → Prop) : Prop :=
  BS (decide (n1 < (1 : Int))) (AllocC w (.cells #[] 5) fun a15 w1 => R (.tuple #[.slice (some ⟨a15, 0, none⟩) 0 0, .int .i64 (1 : Int)]) w1) (ref02_Uint_K1 n0 n1 (decide (n1 > (8 : Int))) w R)
theorem ref02_Uint_vc {n0 : Int} {n1 : Int} {w : World} {R : Value → World → Prop} (h : ref02_Uint_VC n0 n1 w R) : CallV Tryd.prog 103 #[.int .u64 n0, .int .i64 n1] w R :=
  vc_intro (A := [(6, [(7, 23), (8, 3)])]) (args := [.int .u64 n0, .int .i64 n1]) okN mixed Tryd.func103 (by kernel_rfl) (by kernel_rfl) h

-- trireme/triremeref02.Number
def ref02_Number_VC (o0 : Option Addr) (l0 : Nat) (c0 : Nat) (w : World) (R : Value → World → Prop) : Prop :=
  LoopNI .u64 (0 : Int) (0 : Int) w fun B1 n3 n4 w1 => BS (decide (n4 < ((l0 : Nat) : Int))) (Req (bnd n4 l0) <| TSome o0 fun a15 => LoadC w1 (a15.add (n4.toNat * 1)) fun v16 => TInt .u8 v16 fun n16 => B1 [.int .u64 (IntKind.wrap .u64 ((IntKind.wrap .u64 (n3 * (256 : Int))) + (IntKind.wrap .u64 n16))), .int .i64 (IntKind.wrap .i64 (n4 + (1 : Int)))] w1) (R (.int .u64 n3) w1)
theorem ref02_Number_vc {o0 : Option Addr} {l0 : Nat} {c0 : Nat} {w : World} {R : Value → World → Prop} (h : ref02_Number_VC o0 l0 c0 w R) : CallV Tryd.prog 101 #[.slice o0 l0 c0] w R :=
  vc_intro (A := [(3, [(3, 23), (4, 3)])]) (args := [.slice o0 l0 c0]) okN mixed Tryd.func101 (by kernel_rfl) (by kernel_rfl) h

-- trireme/triremeref02.Text
def ref02_Text_VC (o0 : Option Addr) (l0 : Nat) (c0 : Nat) (w : World) (R : Value → World → Prop) : Prop :=
  CallV Tryd.prog 103 #[.int .u64 (IntKind.wrap .u64 ((l0 : Nat) : Int)), .int .i64 (2 : Int)] w fun v10 w1 => T2 v10 fun v10a v10b => TSl v10a fun o10a l10a c10a => TInt .i64 v10b fun n10b => BS (n10b != (0 : Int)) (AllocC w1 (.cells #[] 5) fun a15 w2 => R (.tuple #[.slice (some ⟨a15, 0, none⟩) 0 0, .int .i64 (23 : Int)]) w2) (RunV Tryd.prog (Builtin.append_ #[26, 26] 26 #[.slice o10a l10a c10a, .slice o0 l0 c0]) w1 fun v18 w3 => TSl v18 fun o18 l18 c18 => R (.tuple #[.slice o18 l18 c18, .int .i64 (0 : Int)]) w3)
theorem ref02_Text_vc {o0 : Option Addr} {l0 : Nat} {c0 : Nat} {w : World} {R : Value → World → Prop} (h : ref02_Text_VC o0 l0 c0 w R) : CallV Tryd.prog 106 #[.slice o0 l0 c0] w R :=
  vc_intro (A := []) (args := [.slice o0 l0 c0]) okN mixed Tryd.func106 (by kernel_rfl) (by kernel_rfl) h

-- (*trireme/triremeref02.Eye).Raw
def ref02_Eye_Raw_VC (a0 : Addr) (n1 : Int) (w : World) (R : Value → World → Prop) : Prop :=
  BS (decide (n1 < (0 : Int))) (AllocC w (.cells #[] 5) fun a8 w1 => R (.tuple #[.slice (some ⟨a8, 0, none⟩) 0 0, .int .i64 (1 : Int)]) w1) (DrewC w fun w2 => LoadC w2 (a0.add 0) fun v13 => TSl v13 fun o13 l13 c13 => LoadC w2 (a0.add 1) fun v18 => TInt .i64 v18 fun n18 => BS (decide (n1 > (IntKind.wrap .i64 (((l13 : Nat) : Int) - n18)))) (AllocC w2 (.cells #[] 5) fun a21 w3 => R (.tuple #[.slice (some ⟨a21, 0, none⟩) 0 0, .int .i64 (20 : Int)]) w3) (LoadC w2 (a0.add 1) fun v25 => TInt .i64 v25 fun n25 => StoreC w2 (a0.add 1) (.int .i64 (IntKind.wrap .i64 (n25 + n1))) fun w4 => DrewC w4 fun w5 => LoadC w5 (a0.add 0) fun v34 => TSl v34 fun o34 l34 c34 => LoadC w5 (a0.add 1) fun v38 => TInt .i64 v38 fun n38 => LoadC w5 (a0.add 1) fun v44 => TInt .i64 v44 fun n44 => Req (bndle n44 c34) <| Req (bndle (IntKind.wrap .i64 (n38 - n1)) n44.toNat) <| AllocC w5 (.cells #[] 5) fun a30 w6 => StableC w6 (a0.add 0) (.slice o34 l34 c34) ∧ StableC w6 (a0.add 1) (.int .i64 n38) ∧ StableC w6 (a0.add 1) (.int .i64 n44) ∧ RunV Tryd.prog (Builtin.append_ #[26, 26] 26 #[.slice (some ⟨a30, 0, none⟩) 0 0, .slice (slBase o34 c34 ((IntKind.wrap .i64 (n38 - n1)).toNat) 1) (n44.toNat - (IntKind.wrap .i64 (n38 - n1)).toNat) (c34 - (IntKind.wrap .i64 (n38 - n1)).toNat)]) w6 fun v46 w7 => TSl v46 fun o46 l46 c46 => R (.tuple #[.slice o46 l46 c46, .int .i64 (0 : Int)]) w7))
theorem ref02_Eye_Raw_vc {a0 : Addr} {n1 : Int} {w : World} {R : Value → World → Prop} (h : ref02_Eye_Raw_VC a0 n1 w R) : CallV Tryd.prog 71 #[.pointer (some a0), .int .i64 n1] w R :=
  vc_intro (A := []) (args := [.pointer (some a0), .int .i64 n1]) okN mixed Tryd.func71 (by kernel_rfl) (by kernel_rfl) h

-- (*trireme/triremeref02.Eye).Uint
def ref02_Eye_Uint_K1 (a0 : Addr) (n1 : Int) (b13 : Bool) (w : World) (R : Value → World → Prop) : Prop :=
  BS b13 (R (.tuple #[.int .u64 (0 : Int), .int .i64 (1 : Int)]) w) (CallV Tryd.prog 71 #[.pointer (some a0), .int .i64 n1] w fun v17 w1 => T2 v17 fun v17a v17b => TSl v17a fun o17a l17a c17a => TInt .i64 v17b fun n17b => CallV Tryd.prog 101 #[.slice o17a l17a c17a] w1 fun v21 w2 => TInt .u64 v21 fun n21 => R (.tuple #[.int .u64 n21, .int .i64 n17b]) w2)
def ref02_Eye_Uint_VC (a0 : Addr) (n1 : Int) (w : World) (R : Value → World → Prop) : Prop :=
  BS (decide (n1 < (1 : Int))) (R (.tuple #[.int .u64 (0 : Int), .int .i64 (1 : Int)]) w) (ref02_Eye_Uint_K1 a0 n1 (decide (n1 > (8 : Int))) w R)
theorem ref02_Eye_Uint_vc {a0 : Addr} {n1 : Int} {w : World} {R : Value → World → Prop} (h : ref02_Eye_Uint_VC a0 n1 w R) : CallV Tryd.prog 70 #[.pointer (some a0), .int .i64 n1] w R :=
  vc_intro (A := []) (args := [.pointer (some a0), .int .i64 n1]) okN mixed Tryd.func70 (by kernel_rfl) (by kernel_rfl) h

-- (*trireme/triremeref02.Eye).Text
def ref02_Eye_Text_VC (a0 : Addr) (w : World) (R : Value → World → Prop) : Prop :=
  DrewC w fun w1 => LoadC w1 (a0.add 0) fun v8 => TSl v8 fun o8 l8 c8 => LoadC w1 (a0.add 1) fun v13 => TInt .i64 v13 fun n13 => BS (decide ((IntKind.wrap .i64 (((l8 : Nat) : Int) - n13)) < (2 : Int))) (AllocC w1 (.cells #[] 5) fun a16 w2 => R (.tuple #[.slice (some ⟨a16, 0, none⟩) 0 0, .int .i64 (20 : Int)]) w2) (DrewC w1 fun w3 => LoadC w3 (a0.add 0) fun v20 => TSl v20 fun o20 l20 c20 => LoadC w3 (a0.add 1) fun v24 => TInt .i64 v24 fun n24 => LoadC w3 (a0.add 1) fun v28 => TInt .i64 v28 fun n28 => Req (bndle (IntKind.wrap .i64 (n28 + (2 : Int))) c20) <| Req (bndle n24 ((IntKind.wrap .i64 (n28 + (2 : Int))).toNat)) <| CallV Tryd.prog 101 #[.slice (slBase o20 c20 n24.toNat 1) ((IntKind.wrap .i64 (n28 + (2 : Int))).toNat - n24.toNat) (c20 - n24.toNat)] w3 fun v31 w4 => TInt .u64 v31 fun n31 => DrewC w4 fun w5 => LoadC w5 (a0.add 0) fun v37 => TSl v37 fun o37 l37 c37 => LoadC w5 (a0.add 1) fun v42 => TInt .i64 v42 fun n42 => BS (decide ((IntKind.wrap .i64 n31) > (IntKind.wrap .i64 ((IntKind.wrap .i64 (((l37 : Nat) : Int) - n42)) - (2 : Int))))) (AllocC w5 (.cells #[] 5) fun a46 w6 => R (.tuple #[.slice (some ⟨a46, 0, none⟩) 0 0, .int .i64 (20 : Int)]) w6) (LoadC w5 (a0.add 1) fun v50 => TInt .i64 v50 fun n50 => StoreC w5 (a0.add 1) (.int .i64 (IntKind.wrap .i64 (n50 + (2 : Int)))) fun w7 => CallV Tryd.prog 71 #[.pointer (some a0), .int .i64 (IntKind.wrap .i64 n31)] w7 fun v56 w8 => T2 v56 fun v56a v56b => TSl v56a fun o56a l56a c56a => TInt .i64 v56b fun n56b => R (.tuple #[.slice o56a l56a c56a, .int .i64 n56b]) w8))
theorem ref02_Eye_Text_vc {a0 : Addr} {w : World} {R : Value → World → Prop} (h : ref02_Eye_Text_VC a0 w R) : CallV Tryd.prog 67 #[.pointer (some a0)] w R :=
  vc_intro (A := []) (args := [.pointer (some a0)]) okN mixed Tryd.func67 (by kernel_rfl) (by kernel_rfl) h

-- (*trireme/triremeref02.Eye).End
def ref02_Eye_End_VC (a0 : Addr) (w : World) (R : Value → World → Prop) : Prop :=
  DrewC w fun w1 => LoadC w1 (a0.add 1) fun v6 => TInt .i64 v6 fun n6 => LoadC w1 (a0.add 0) fun v10 => TSl v10 fun o10 l10 c10 => BS (decide (n6 < ((l10 : Nat) : Int))) (R (.int .i64 (21 : Int)) w1) (R (.int .i64 (0 : Int)) w1)
theorem ref02_Eye_End_vc {a0 : Addr} {w : World} {R : Value → World → Prop} (h : ref02_Eye_End_VC a0 w R) : CallV Tryd.prog 72 #[.pointer (some a0)] w R :=
  vc_intro (A := []) (args := [.pointer (some a0)]) okN mixed Tryd.func72 (by kernel_rfl) (by kernel_rfl) h

end Go.Proofs.YtdjgdcafmfheoaaDoor

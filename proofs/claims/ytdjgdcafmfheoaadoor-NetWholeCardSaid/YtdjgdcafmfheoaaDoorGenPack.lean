/- The conditions of functions, printed by a program (wip/gen/gen.py) from the translation. -/
import Derived.Test.YtdjgdcafmfheoaaDoorHpM
set_option linter.unusedVariables false
namespace Go.Proofs.YtdjgdcafmfheoaaDoor
open Go.Vc

-- slices.Clone[[]byte,byte]
def slices_Clone_byte_byte_VC (o0 : Option Addr) (l0 : Nat) (c0 : Nat) (w : World) (R : Value → World → Prop) : Prop :=
  BS o0.isNone (R (.slice (none : Option Addr) 0 0) w) (AllocC w (.cells #[] 5) fun a5 w1 => RunV Tryd.prog (Builtin.append_ #[26, 26] 26 #[.slice (some ⟨a5, 0, none⟩) 0 0, .slice o0 l0 c0]) w1 fun v7 w2 => TSl v7 fun o7 l7 c7 => R (.slice o7 l7 c7) w2)
theorem slices_Clone_byte_byte_vc {o0 : Option Addr} {l0 : Nat} {c0 : Nat} {w : World} {R : Value → World → Prop} (h : slices_Clone_byte_byte_VC o0 l0 c0 w R) : CallV Tryd.prog 91 #[.slice o0 l0 c0] w R :=
  vc_intro (A := []) (args := [.slice o0 l0 c0]) okN mixed Tryd.func91 (by kernel_rfl) (by kernel_rfl) h

-- (*trireme/pack.Pen).Uint
def pack_Pen_Uint_K2 (a0 : Addr) (n1 : Int) (n2 : Int) (w : World) (R : Value → World → Prop) : Prop :=
  LoopI (IntKind.wrap .i64 (n2 - (1 : Int))) w fun B1 n7 w1 => BS (decide (n7 ≥ (0 : Int))) (DrewC w1 fun w2 => LoadC w2 (a0.add 0) fun v35 => TSl v35 fun o35 l35 c35 => Req (decide (0 ≤ (IntKind.wrap .i64 ((8 : Int) * n7)))) <| AllocC w2 (.cells #[.int .u8 (IntKind.wrap .u8 (shrV .u64 n1 (IntKind.wrap .i64 ((8 : Int) * n7))))] 5) fun a41 w3 => StableC w3 (a0.add 0) (.slice o35 l35 c35) ∧ RunV Tryd.prog (Builtin.append_ #[26, 26] 26 #[.slice o35 l35 c35, .slice (some ⟨a41, 0, none⟩) 1 1]) w3 fun v42 w4 => TSl v42 fun o42 l42 c42 => StoreC w4 (a0.add 0) (.slice o42 l42 c42) fun w5 => B1 [.int .i64 (IntKind.wrap .i64 (n7 - (1 : Int)))] w5) (R (.int .i64 (0 : Int)) w1)
def pack_Pen_Uint_K1 (a0 : Addr) (n1 : Int) (n2 : Int) (b24 : Bool) (w : World) (R : Value → World → Prop) : Prop :=
  BS b24 (R (.int .i64 (1 : Int)) w) (pack_Pen_Uint_K2 a0 n1 n2 w R)
def pack_Pen_Uint_VC (a0 : Addr) (n1 : Int) (n2 : Int) (w : World) (R : Value → World → Prop) : Prop :=
  BS (decide (n2 < (1 : Int))) (R (.int .i64 (1 : Int)) w) (BS (decide (n2 > (8 : Int))) (R (.int .i64 (1 : Int)) w) (BS (decide (n2 < (8 : Int))) (Req (decide (0 ≤ (IntKind.wrap .i64 ((8 : Int) * n2)))) <| pack_Pen_Uint_K1 a0 n1 n2 (decide ((shrV .u64 n1 (IntKind.wrap .i64 ((8 : Int) * n2))) > (0 : Int))) w R) (pack_Pen_Uint_K2 a0 n1 n2 w R)))
theorem pack_Pen_Uint_vc {a0 : Addr} {n1 : Int} {n2 : Int} {w : World} {R : Value → World → Prop} (h : pack_Pen_Uint_VC a0 n1 n2 w R) : CallV Tryd.prog 51 #[.pointer (some a0), .int .u64 n1, .int .i64 n2] w R :=
  vc_intro (A := [(4, [(7, 3)])]) (args := [.pointer (some a0), .int .u64 n1, .int .i64 n2]) okN mixed Tryd.func51 (by kernel_rfl) (by kernel_rfl) h

-- (*trireme/pack.Pen).Text
def pack_Pen_Text_VC (a0 : Addr) (o1 : Option Addr) (l1 : Nat) (c1 : Nat) (w : World) (R : Value → World → Prop) : Prop :=
  CallV Tryd.prog 51 #[.pointer (some a0), .int .u64 (IntKind.wrap .u64 ((l1 : Nat) : Int)), .int .i64 (2 : Int)] w fun v9 w1 => TInt .i64 v9 fun n9 => BS (n9 != (0 : Int)) (R (.int .i64 (23 : Int)) w1) (CallV Tryd.prog 50 #[.pointer (some a0), .slice o1 l1 c1] w1 fun v13 w2 => R (.int .i64 (0 : Int)) w2)
theorem pack_Pen_Text_vc {a0 : Addr} {o1 : Option Addr} {l1 : Nat} {c1 : Nat} {w : World} {R : Value → World → Prop} (h : pack_Pen_Text_VC a0 o1 l1 c1 w R) : CallV Tryd.prog 52 #[.pointer (some a0), .slice o1 l1 c1] w R :=
  vc_intro (A := []) (args := [.pointer (some a0), .slice o1 l1 c1]) okN mixed Tryd.func52 (by kernel_rfl) (by kernel_rfl) h

-- (*trireme/pack.Pen).Raw
def pack_Pen_Raw_VC (a0 : Addr) (o1 : Option Addr) (l1 : Nat) (c1 : Nat) (w : World) (R : Value → World → Prop) : Prop :=
  LoadC w (a0.add 0) fun v8 => TSl v8 fun o8 l8 c8 => RunV Tryd.prog (Builtin.append_ #[26, 26] 26 #[.slice o8 l8 c8, .slice o1 l1 c1]) w fun v10 w1 => TSl v10 fun o10 l10 c10 => StoreC w1 (a0.add 0) (.slice o10 l10 c10) fun w2 => R (.tuple #[]) w2
theorem pack_Pen_Raw_vc {a0 : Addr} {o1 : Option Addr} {l1 : Nat} {c1 : Nat} {w : World} {R : Value → World → Prop} (h : pack_Pen_Raw_VC a0 o1 l1 c1 w R) : CallV Tryd.prog 50 #[.pointer (some a0), .slice o1 l1 c1] w R :=
  vc_intro (A := []) (args := [.pointer (some a0), .slice o1 l1 c1]) okN mixed Tryd.func50 (by kernel_rfl) (by kernel_rfl) h

-- (*trireme/pack.Pen).Data
def pack_Pen_Data_VC (a0 : Addr) (w : World) (R : Value → World → Prop) : Prop :=
  LoadC w (a0.add 0) fun v6 => TSl v6 fun o6 l6 c6 => CallV Tryd.prog 91 #[.slice o6 l6 c6] w fun v7 w1 => TSl v7 fun o7 l7 c7 => R (.slice o7 l7 c7) w1
theorem pack_Pen_Data_vc {a0 : Addr} {w : World} {R : Value → World → Prop} (h : pack_Pen_Data_VC a0 w R) : CallV Tryd.prog 54 #[.pointer (some a0)] w R :=
  vc_intro (A := []) (args := [.pointer (some a0)]) okN mixed Tryd.func54 (by kernel_rfl) (by kernel_rfl) h

-- trireme/pack.NewEye
def pack_NewEye_VC (o0 : Option Addr) (l0 : Nat) (c0 : Nat) (w : World) (R : Value → World → Prop) : Prop :=
  CallV Tryd.prog 91 #[.slice o0 l0 c0] w fun v4 w1 => TSl v4 fun o4 l4 c4 => AllocC w1 (.cells #[.slice o4 l4 c4] 150) fun a6 w2 => R (.pointer (some (⟨a6, 0, none⟩ : Addr))) w2
theorem pack_NewEye_vc {o0 : Option Addr} {l0 : Nat} {c0 : Nat} {w : World} {R : Value → World → Prop} (h : pack_NewEye_VC o0 l0 c0 w R) : CallV Tryd.prog 57 #[.slice o0 l0 c0] w R :=
  vc_intro (A := []) (args := [.slice o0 l0 c0]) okN mixed Tryd.func57 (by kernel_rfl) (by kernel_rfl) h

-- (*trireme/pack.Eye).Uint
def pack_Eye_Uint_K1 (a0 : Addr) (n1 : Int) (n4 : Int) (b14 : Bool) (w : World) (R : Value → World → Prop) : Prop :=
  BS b14 (R (.tuple #[.int .u64 (0 : Int), .int .i64 (1 : Int)]) w) (CallV Tryd.prog 93 #[.pointer (some a0), .int .i64 n1] w fun v18 w1 => T2 v18 fun v18a v18b => TSl v18a fun o18a l18a c18a => TInt .i64 v18b fun n18b => LoopNI .u64 n4 (0 : Int) w1 fun B1 n4_1 n23 w2 => BS (decide (n23 < ((l18a : Nat) : Int))) (Req (bnd n23 l18a) <| TSome o18a fun a25 => LoadC w2 (a25.add (n23.toNat * 1)) fun v26 => TInt .u8 v26 fun n26 => B1 [.int .u64 (bitsV .or .u64 (shlV .u64 n4_1 (8 : Int)) (IntKind.wrap .u64 n26)), .int .i64 (IntKind.wrap .i64 (n23 + (1 : Int)))] w2) (R (.tuple #[.int .u64 n4_1, .int .i64 n18b]) w2))
def pack_Eye_Uint_VC (a0 : Addr) (n1 : Int) (w : World) (R : Value → World → Prop) : Prop :=
  BS (decide (n1 < (1 : Int))) (R (.tuple #[.int .u64 (0 : Int), .int .i64 (1 : Int)]) w) (pack_Eye_Uint_K1 a0 n1 (0 : Int) (decide (n1 > (8 : Int))) w R)
theorem pack_Eye_Uint_vc {a0 : Addr} {n1 : Int} {w : World} {R : Value → World → Prop} (h : pack_Eye_Uint_VC a0 n1 w R) : CallV Tryd.prog 92 #[.pointer (some a0), .int .i64 n1] w R :=
  vc_intro (A := [(5, [(4, 23), (23, 3)])]) (args := [.pointer (some a0), .int .i64 n1]) okN mixed Tryd.func92 (by kernel_rfl) (by kernel_rfl) h

-- (*trireme/pack.Eye).Text
def pack_Eye_Text_VC (a0 : Addr) (w : World) (R : Value → World → Prop) : Prop :=
  LoadC w (a0.add 0) fun v11 => TSl v11 fun o11 l11 c11 => CallV Tryd.prog 92 #[.pointer (some a0), .int .i64 (2 : Int)] w fun v14 w1 => T2 v14 fun v14a v14b => TInt .u64 v14a fun n14a => TInt .i64 v14b fun n14b => BS (n14b != (0 : Int)) (R (.tuple #[.slice (none : Option Addr) 0 0, .int .i64 n14b]) w1) (CallV Tryd.prog 93 #[.pointer (some a0), .int .i64 (IntKind.wrap .i64 n14a)] w1 fun v24 w2 => T2 v24 fun v24a v24b => TSl v24a fun o24a l24a c24a => TInt .i64 v24b fun n24b => BS (n24b != (0 : Int)) (StoreC w2 (a0.add 0) (.slice o11 l11 c11) fun w3 => R (.tuple #[.slice o24a l24a c24a, .int .i64 n24b]) w3) (R (.tuple #[.slice o24a l24a c24a, .int .i64 n24b]) w2))
theorem pack_Eye_Text_vc {a0 : Addr} {w : World} {R : Value → World → Prop} (h : pack_Eye_Text_VC a0 w R) : CallV Tryd.prog 97 #[.pointer (some a0)] w R :=
  vc_intro (A := []) (args := [.pointer (some a0)]) okN mixed Tryd.func97 (by kernel_rfl) (by kernel_rfl) h

-- (*trireme/pack.Eye).Raw
def pack_Eye_Raw_VC (a0 : Addr) (n1 : Int) (w : World) (R : Value → World → Prop) : Prop :=
  BS (decide (n1 < (0 : Int))) (R (.tuple #[.slice (none : Option Addr) 0 0, .int .i64 (1 : Int)]) w) (LoadC w (a0.add 0) fun v15 => TSl v15 fun o15 l15 c15 => BS (decide (n1 > ((l15 : Nat) : Int))) (R (.tuple #[.slice (none : Option Addr) 0 0, .int .i64 (20 : Int)]) w) (LoadC w (a0.add 0) fun v21 => TSl v21 fun o21 l21 c21 => Req (bndle n1 c21) <| CallV Tryd.prog 91 #[.slice (slBase o21 c21 0 1) n1.toNat c21] w fun v24 w1 => TSl v24 fun o24 l24 c24 => LoadC w1 (a0.add 0) fun v29 => TSl v29 fun o29 l29 c29 => Req (bndle n1 l29) <| StoreC w1 (a0.add 0) (.slice (slBase o29 c29 n1.toNat 1) (l29 - n1.toNat) (c29 - n1.toNat)) fun w2 => R (.tuple #[.slice o24 l24 c24, .int .i64 (0 : Int)]) w2))
theorem pack_Eye_Raw_vc {a0 : Addr} {n1 : Int} {w : World} {R : Value → World → Prop} (h : pack_Eye_Raw_VC a0 n1 w R) : CallV Tryd.prog 93 #[.pointer (some a0), .int .i64 n1] w R :=
  vc_intro (A := []) (args := [.pointer (some a0), .int .i64 n1]) okN mixed Tryd.func93 (by kernel_rfl) (by kernel_rfl) h

end Go.Proofs.YtdjgdcafmfheoaaDoor

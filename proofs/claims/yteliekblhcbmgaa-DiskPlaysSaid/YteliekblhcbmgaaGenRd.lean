/- The conditions of functions, printed by a program (wip/gen/gen.py) from the translation. -/
import Derived.Test.YteliekblhcbmgaaBase
set_option linter.unusedVariables false
namespace Go.Proofs.Yteliekblhcbmgaa
open Go.Vc

-- (*trireme/disk.Disk).Read
def disk_Disk_Read_K1 (a0 : Addr) (a4 : Addr) (a5 : Addr) (b13 : Bool) (w : World) (R : Value → World → Prop) : Prop :=
  BS b13 (StoreC w a4 (.slice (none : Option Addr) 0 0) fun w1 => StoreC w1 a5 (.int .i64 (2 : Int)) fun w2 => LoadC w2 a4 fun vR => TSl vR fun oR lR cR => LoadC w2 a5 fun vR_1 => TInt .i64 vR_1 fun nR => R (.tuple #[.slice oR lR cR, .int .i64 nR]) w2) (LoadC w (a0.add 1) fun v28 => TSl v28 fun o28 l28 c28 => CallV Try.prog 28 #[.slice o28 l28 c28] w fun v29 w3 => False)
def disk_Disk_Read_VC (a0 : Addr) (n1 : Int) (w : World) (R : Value → World → Prop) : Prop :=
  AllocC w (.cells #[.int .i64 n1] 3) fun a3 w1 => AllocC w1 (.cells #[.slice (none : Option Addr) 0 0] 30) fun a4 w2 => AllocC w2 (.cells #[.int .i64 (0 : Int)] 27) fun a5 w3 => LoadC w3 (a0.add 3) fun v12 => TBool v12 fun b12 => BS b12 (StoreC w3 (⟨a4, 0, none⟩ : Addr) (.slice (none : Option Addr) 0 0) fun w4 => StoreC w4 (⟨a5, 0, none⟩ : Addr) (.int .i64 (3 : Int)) fun w5 => LoadC w5 (⟨a4, 0, none⟩ : Addr) fun vR => TSl vR fun oR lR cR => LoadC w5 (⟨a5, 0, none⟩ : Addr) fun vR_1 => TInt .i64 vR_1 fun nR => R (.tuple #[.slice oR lR cR, .int .i64 nR]) w5) (DrewC w3 fun w6 => LoadC w6 (⟨a3, 0, none⟩ : Addr) fun v14 => TInt .i64 v14 fun n14 => BS (decide (n14 < (0 : Int))) (disk_Disk_Read_K1 a0 (⟨a4, 0, none⟩ : Addr) (⟨a5, 0, none⟩ : Addr) true w6 R) (LoadC w6 (⟨a3, 0, none⟩ : Addr) fun v17 => TInt .i64 v17 fun n17 => LoadC w6 (a0.add 0) fun v21 => TSl v21 fun o21 l21 c21 => disk_Disk_Read_K1 a0 (⟨a4, 0, none⟩ : Addr) (⟨a5, 0, none⟩ : Addr) (decide (n17 ≥ ((l21 : Nat) : Int))) w6 R))
theorem disk_Disk_Read_vc {a0 : Addr} {n1 : Int} {w : World} {R : Value → World → Prop} (h : disk_Disk_Read_VC a0 n1 w R) : CallV Try.prog 15 #[.pointer (some a0), .int .i64 n1] w R :=
  vc_intro (A := []) (args := [.pointer (some a0), .int .i64 n1]) okN mixed Try.func15 (by kernel_rfl) (by kernel_rfl) h

end Go.Proofs.Yteliekblhcbmgaa

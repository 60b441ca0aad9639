/-
  How scripts on disks, and rows of integers, are read as arguments.
-/
import Derived.Test.YteliekblhcbmgaaDk7
import Derived.Test.YteliekblhcbmgaaArgsL
set_option linter.unusedVariables false
set_option linter.unusedSimpArgs false
namespace Go.Vc
open Go Go.ChangeShapes Go.WideShapes Go.ChangeAt Go.RowKit
section
variable {P : Program}
theorem tp_ints {t e : TypeId} (ht : P.underlying t = some (.slice e)) (he : P.underlying e = some (.int .i64)) (hz : P.cellsOf e = 1) :
    TP P t fun W cs => ∃ v l, cs = [v] ∧ RdS (wv W) v 1 l.length (jvs l) ∧ ∀ f ∈ l, i64ok f := fun H enc W fuel cs x h => by
  obtain ⟨v, n, xs, e, hn, hr, hq⟩ := tp_slice ht hz (by omega) (tp_int he) H enc W fuel cs x h
  have hlen : xs.length = n := by obtain ⟨_, _, _, _, hl, _⟩ := hr; simpa using hl
  obtain ⟨l, rfl, hl, hp⟩ := map_of (f := jv) (P := i64ok) hlen fun i hi => by
    obtain ⟨k, e, h1, h2⟩ := hq i hi
    have h1 : (-9223372036854775808 : Int) ≤ k := h1
    have h2 : k ≤ 9223372036854775807 := h2
    exact ⟨k, e, by omega, by omega⟩
  exact ⟨v, l, e, by rw [hl]; exact hr, hp⟩
end
end Go.Vc
namespace Go.Proofs.Yteliekblhcbmgaa
open Go.Vc Go.ChangeShapes Go.WideShapes Go.ChangeAt Go.RowKit
attribute [local irreducible] TInt TBool TStr TPtr TSl TAgg TMap TChan T2 T3 T4 BS Req TSome TCell TByte LoadC LoadA StoreC AllocC RunV RunU CallV ExtV EqA StableC StableA StableV TCells ReadV
theorem tp_opk : TP Try.prog 32 fun W cs => ∃ o, OpKP (wv W) o cs := fun H enc W fuel cs x h => by
  obtain ⟨hl, hf⟩ := tp_struct (t := 32) Try.underlying32 H enc W fuel cs x h
  have hl : cs.length = 5 := hl.trans (by kernel_rfl)
  obtain ⟨n0, e0, a0, b0⟩ := hf 0 _ rfl _ (tp_int Try.underlying3)
  obtain ⟨n1, e1, a1, b1⟩ := hf 1 _ rfl _ (tp_int Try.underlying3)
  obtain ⟨v, l2, e2, _, hr⟩ := hf 2 _ rfl _ (tp_bytes Try.underlying30 Try.underlying5 (by kernel_rfl))
  obtain ⟨r, e3⟩ := hf 3 _ rfl _ (tp_bool Try.underlying4)
  obtain ⟨u, l4, e4, hu, hfs⟩ := hf 4 _ rfl _ (tp_ints Try.underlying24 Try.underlying3 (by kernel_rfl))
  have e0 := one_at ((cut (show Try.prog.cellsOf 3 = 1 by kernel_rfl)).symm.trans e0)
  have e1 := one_at ((cut (show Try.prog.cellsOf 3 = 1 by kernel_rfl)).symm.trans e1)
  have e2 := one_at ((cut (show Try.prog.cellsOf 30 = 1 by kernel_rfl)).symm.trans e2)
  have e3 := one_at ((cut (show Try.prog.cellsOf 4 = 1 by kernel_rfl)).symm.trans e3)
  have e4 := one_at ((cut (show Try.prog.cellsOf 24 = 1 by kernel_rfl)).symm.trans e4)
  clear hf h
  have rg : ∀ {k : Int}, IntKind.i64.min ≤ k → k ≤ IntKind.i64.max → i64ok k := fun {k} h1 h2 => by
    have h1 : (-9223372036854775808 : Int) ≤ k := h1
    have h2 : k ≤ 9223372036854775807 := h2
    exact ⟨by omega, by omega⟩
  refine ⟨⟨n0, n1, l2, r, l4⟩, v, u, ?_, hr, hu, rg a0 b0, rg a1 b1, hfs⟩
  refine list_eq hl fun i hi => ?_
  have hi : i < 5 := hi
  match i, hi with
  | 0, _ => exact e0
  | 1, _ => exact e1
  | 2, _ => exact e2
  | 3, _ => exact e3
  | 4, _ => exact e4
theorem tp_scrk : TP Try.prog 23 fun W cs => ∃ v l, cs = [v] ∧ ScrK (wv W) v l ∧ l.length ≤ maxLen := tp_list (Q := OpKP) (z := 5) Try.underlying23 (by kernel_rfl) (by omega) tp_opk
end Go.Proofs.Yteliekblhcbmgaa

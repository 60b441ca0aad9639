/-
  How operations and answers are read as arguments.
-/
import Derived.Test.YtpmpfahedbfppaaAns3
import Derived.Test.YtpmpfahedbfppaaArgs2
set_option linter.unusedVariables false
set_option linter.unusedSimpArgs false
namespace Go.Proofs.Ytpmpfahedbfppaa
open Go.Vc Go.ChangeShapes Go.WideShapes Go.ChangeAt Go.RowKit
attribute [local irreducible] TInt TBool TStr TPtr TSl TAgg TMap TChan T2 T3 T4 BS Req TSome TCell TByte LoadC LoadA StoreC AllocC RunV RunU CallV EqA StableC StableA StableV TCells ReadV
attribute [local irreducible] eU eT eE

theorem ci : Try.prog.cellsOf 3 = 1 := by kernel_rfl
theorem cstr : Try.prog.cellsOf 9 = 1 := by kernel_rfl
theorem cbytes : Try.prog.cellsOf 26 = 1 := by kernel_rfl
theorem cstrs : Try.prog.cellsOf 62 = 1 := by kernel_rfl

theorem tp_opr : TP Try.prog 61 fun W cs => ∃ (o : OpR) (v : Value), cs = o.cells v ∧ OpRV (wv W) o v ∧ o.data.length ≤ maxLen := fun H enc W fuel cs x h => by
  obtain ⟨hl, hf⟩ := tp_struct (t := 61) Try.underlying61 H enc W fuel cs x h
  have hl : cs.length = 6 := hl.trans (by kernel_rfl)
  obtain ⟨n0, e0, _⟩ := hf 0 _ rfl _ (tp_int Try.underlying3)
  obtain ⟨l1, e1, _⟩ := hf 1 _ rfl _ (tp_string Try.underlying9)
  obtain ⟨l2, e2, _⟩ := hf 2 _ rfl _ (tp_string Try.underlying9)
  obtain ⟨n3, e3, _⟩ := hf 3 _ rfl _ (tp_int Try.underlying3)
  obtain ⟨n4, e4, _⟩ := hf 4 _ rfl _ (tp_int Try.underlying3)
  obtain ⟨v, l5, e5, h5, hr⟩ := hf 5 _ rfl _ (tp_bytes Try.underlying26 Try.underlying5 (by kernel_rfl))
  have e0 := one_at ((cut ci).symm.trans e0)
  have e1 := one_at ((cut cstr).symm.trans e1)
  have e2 := one_at ((cut cstr).symm.trans e2)
  have e3 := one_at ((cut ci).symm.trans e3)
  have e4 := one_at ((cut ci).symm.trans e4)
  have e5 := one_at ((cut cbytes).symm.trans e5)
  clear hf h
  refine ⟨⟨n0, l1, l2, n3, n4, l5⟩, v, ?_, hr, h5⟩
  refine list_eq hl fun i hi => ?_
  have hi : i < 6 := hi
  match i, hi with
  | 0, _ => exact e0
  | 1, _ => exact e1
  | 2, _ => exact e2
  | 3, _ => exact e3
  | 4, _ => exact e4
  | 5, _ => exact e5
theorem tp_ans : TP Try.prog 64 fun W cs => ∃ (a : AnsR) (v u : Value), cs = a.cells v u ∧ AnsV (wv W) a v u ∧ a.data.length ≤ maxLen ∧ a.names.length ≤ maxLen := fun H enc W fuel cs x h => by
  obtain ⟨hl, hf⟩ := tp_struct (t := 64) Try.underlying64 H enc W fuel cs x h
  have hl : cs.length = 4 := hl.trans (by kernel_rfl)
  obtain ⟨n0, e0, _⟩ := hf 0 _ rfl _ (tp_int Try.underlying32)
  obtain ⟨n1, e1, _⟩ := hf 1 _ rfl _ (tp_int Try.underlying3)
  obtain ⟨v, l2, e2, h2, hr⟩ := hf 2 _ rfl _ (tp_bytes Try.underlying26 Try.underlying5 (by kernel_rfl))
  obtain ⟨u, l3, e3, h3, hs, _⟩ := hf 3 _ rfl _ (tp_strs Try.underlying62 Try.underlying9 (by kernel_rfl))
  have e0 := one_at ((cut (show Try.prog.cellsOf 32 = 1 by kernel_rfl)).symm.trans e0)
  have e1 := one_at ((cut ci).symm.trans e1)
  have e2 := one_at ((cut cbytes).symm.trans e2)
  have e3 := one_at ((cut cstrs).symm.trans e3)
  clear hf h
  refine ⟨⟨n0, n1, l2, l3⟩, v, u, ?_, ⟨hr, hs⟩, h2, h3⟩
  refine list_eq hl fun i hi => ?_
  have hi : i < 4 := hi
  match i, hi with
  | 0, _ => exact e0
  | 1, _ => exact e1
  | 2, _ => exact e2
  | 3, _ => exact e3
end Go.Proofs.Ytpmpfahedbfppaa

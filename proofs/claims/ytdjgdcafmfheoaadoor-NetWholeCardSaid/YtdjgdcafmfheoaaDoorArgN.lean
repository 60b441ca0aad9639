/-
  How scripts of nets are read as arguments.
-/
import Derived.Test.YtdjgdcafmfheoaaDoorWalkNet2
set_option linter.unusedVariables false
set_option linter.unusedSimpArgs false
namespace Go.Proofs.YtdjgdcafmfheoaaDoor
open Go.Vc Go.ChangeShapes Go.WideShapes Go.ChangeAt Go.RowKit
attribute [local irreducible] TInt TBool TStr TPtr TSl TAgg TMap TChan T2 T3 T4 BS Req TSome TCell TByte LoadC LoadA StoreC AllocC RunV RunU CallV ExtV EqA StableC StableA StableV TCells ReadV
attribute [local irreducible] eU eT eE
attribute [local irreducible] DrewC eH many rdM wrM eHb rdOp rdAns
theorem tp_nop : TP Tryd.prog 60 fun W cs => ∃ x, NopQ (wv W) x cs := fun H enc W fuel cs x h => by
  obtain ⟨hl, hf⟩ := tp_struct (t := 60) Tryd.underlying60 H enc W fuel cs x h
  have hl : cs.length = 55 := hl.trans (by kernel_rfl)
  obtain ⟨n0, e0, _⟩ := hf 0 _ rfl _ (tp_int Tryd.underlying3)
  obtain ⟨n1, e1, _⟩ := hf 1 _ rfl _ (tp_int Tryd.underlying3)
  obtain ⟨m, mv, va, ua, vh, vb, e3, M, ok⟩ := hf 2 _ rfl _ tp_msg
  have e0 : cs[0]? = some (.int .i64 n0) := one_at ((cut ci).symm.trans e0)
  have e1 : cs[1]? = some (.int .i64 n1) := one_at ((cut ci).symm.trans e1)
  have e3 : (cs.drop 2).take 53 = m.cells mv va ua vh vb := (cut (show Tryd.prog.cellsOf 38 = 53 by kernel_rfl)).symm.trans e3
  clear hf h
  refine ⟨⟨n0, n1, m⟩, mv, va, ua, vh, vb, ?_, M, ok⟩
  obtain ⟨a, b, r, rfl⟩ := two_of (cs := cs) (by omega)
  have e0 : a = .int .i64 n0 := by simpa using e0
  have e1 : b = .int .i64 n1 := by simpa using e1
  have e3 : r.take 53 = m.cells mv va ua vh vb := e3
  rw [List.take_of_length_le (by simp at hl; omega)] at e3
  rw [e3, e0, e1]; rfl
theorem tp_nops : TP Tryd.prog 52 fun W cs => ∃ v l, cs = [v] ∧ LsV NopQ 55 (wv W) v l ∧ l.length ≤ maxLen :=
  tp_list (Q := NopQ) (z := 55) Tryd.underlying52 (by kernel_rfl) (by omega) tp_nop
theorem tp_u64s : TP Tryd.prog 69 fun W cs => ∃ v l, cs = [v] ∧ LsV u64P 1 (wv W) v l ∧ l.length ≤ maxLen :=
  tp_list (Q := u64P) (z := 1) Tryd.underlying69 (by kernel_rfl) (by omega) fun H enc W fuel cs x h => by
    obtain ⟨n, e, g⟩ := tp_int Tryd.underlying23 H enc W fuel cs x h
    have g := rg_u64 g
    refine ⟨n.toNat, ?_, by omega⟩
    rw [e]; unfold u64v; rw [Int.toNat_of_nonneg g.1]
end Go.Proofs.YtdjgdcafmfheoaaDoor

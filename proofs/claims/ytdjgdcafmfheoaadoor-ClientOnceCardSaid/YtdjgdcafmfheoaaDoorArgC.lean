/-
  How scripts of clients are read as arguments.
-/
import Derived.Test.YtdjgdcafmfheoaaDoorWalkCl2
set_option linter.unusedVariables false
set_option linter.unusedSimpArgs false
namespace Go.Proofs.YtdjgdcafmfheoaaDoor
open Go.Vc Go.ChangeShapes Go.WideShapes Go.ChangeAt Go.RowKit
attribute [local irreducible] TInt TBool TStr TPtr TSl TAgg TMap TChan T2 T3 T4 BS Req TSome TCell TByte LoadC LoadA StoreC AllocC RunV RunU CallV ExtV EqA StableC StableA StableV TCells ReadV
attribute [local irreducible] eU eT eE
attribute [local irreducible] DrewC eH many rdM wrM eHb rdOp rdAns
theorem tp_step : TP Tryd.prog 79 fun W cs => ∃ x, StQ (wv W) x cs := fun H enc W fuel cs x h => by
  obtain ⟨hl, hf⟩ := tp_struct (t := 79) Tryd.underlying79 H enc W fuel cs x h
  have hl : cs.length = 61 := hl.trans (by kernel_rfl)
  obtain ⟨n0, e0, _⟩ := hf 0 _ rfl _ (tp_int Tryd.underlying3)
  obtain ⟨n1, e1, _⟩ := hf 1 _ rfl _ (tp_int Tryd.underlying3)
  obtain ⟨o, v, e2, hv, _⟩ := hf 2 _ rfl _ tp_opr
  obtain ⟨m, mv, va, ua, vh, vb, e3, M, ok⟩ := hf 3 _ rfl _ tp_msg
  have e0 : cs[0]? = some (.int .i64 n0) := one_at ((cut ci).symm.trans e0)
  have e1 : cs[1]? = some (.int .i64 n1) := one_at ((cut ci).symm.trans e1)
  have e2 : (cs.drop 2).take 6 = o.cells v := (cut (show Tryd.prog.cellsOf 28 = 6 by kernel_rfl)).symm.trans e2
  have e3 : (cs.drop 8).take 53 = m.cells mv va ua vh vb := (cut (show Tryd.prog.cellsOf 38 = 53 by kernel_rfl)).symm.trans e3
  clear hf h
  refine ⟨⟨n0, n1, o, m⟩, v, mv, va, ua, vh, vb, ?_, hv, M, ok⟩
  obtain ⟨a, b, r, rfl⟩ := two_of (cs := cs) (by omega)
  have e0 : a = .int .i64 n0 := by simpa using e0
  have e1 : b = .int .i64 n1 := by simpa using e1
  have e2 : r.take 6 = o.cells v := e2
  have e3 : (r.drop 6).take 53 = m.cells mv va ua vh vb := e3
  rw [List.take_of_length_le (by rw [List.length_drop]; simp at hl; omega)] at e3
  have : r = o.cells v ++ m.cells mv va ua vh vb := by rw [← e2, ← e3, List.take_append_drop]
  rw [this, e0, e1]; rfl
theorem tp_steps : TP Tryd.prog 71 fun W cs => ∃ v l, cs = [v] ∧ LsV StQ 61 (wv W) v l ∧ l.length ≤ maxLen :=
  tp_list (Q := StQ) (z := 61) Tryd.underlying71 (by kernel_rfl) (by omega) tp_step
theorem tp_msgs : TP Tryd.prog 56 fun W cs => ∃ v l, cs = [v] ∧ LsV MsgP 53 (wv W) v l ∧ l.length ≤ maxLen :=
  tp_list (Q := MsgP) (z := 53) Tryd.underlying56 (by kernel_rfl) (by omega) tp_msg
theorem tp_ops : TP Tryd.prog 91 fun W cs => ∃ v l, cs = [v] ∧ LsV OpQ 6 (wv W) v l ∧ l.length ≤ maxLen :=
  tp_list (Q := OpQ) (z := 6) Tryd.underlying91 (by kernel_rfl) (by omega) fun H enc W fuel cs x h => by
    obtain ⟨o, v, e, hv, _⟩ := tp_opr H enc W fuel cs x h
    exact ⟨o, v, e, hv⟩
end Go.Proofs.YtdjgdcafmfheoaaDoor

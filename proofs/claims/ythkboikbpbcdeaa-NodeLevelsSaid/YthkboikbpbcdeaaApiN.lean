/-
  How nodes are read as arguments.
-/
import Derived.Test.YthkboikbpbcdeaaNode6
import Derived.Test.YthkboikbpbcdeaaArgsL
set_option linter.unusedVariables false
set_option linter.unusedSimpArgs false
namespace Go.Proofs.Ythkboikbpbcdeaa
open Go.Vc Go.ChangeShapes Go.WideShapes Go.ChangeAt Go.RowKit
attribute [local irreducible] TInt TBool TStr TPtr TSl TAgg TMap TChan T2 T3 T4 BS Req TSome TCell TByte LoadC LoadA StoreC AllocC RunV RunU CallV ExtV EqA StableC StableA StableV TCells ReadV
theorem tp_kid : TP Try.prog 58 fun W cs => ∃ k, KidP (wv W) k cs := fun H enc W fuel cs x h => by
  obtain ⟨hl, hf⟩ := tp_struct (t := 58) Try.underlying58 H enc W fuel cs x h
  have hl : cs.length = 33 := hl.trans (by kernel_rfl)
  obtain ⟨v, l, e0, _, hr⟩ := hf 0 _ rfl _ (tp_bytes Try.underlying22 Try.underlying5 (by kernel_rfl))
  obtain ⟨g, e1, hg⟩ := hf 1 _ rfl _ (tp_hash (n := 32) Try.underlying56 Try.underlying5 (by kernel_rfl) (by kernel_rfl))
  have e0 : (cs.drop 0).take 1 = [v] := (cut (show Try.prog.cellsOf 22 = 1 by kernel_rfl)).symm.trans e0
  have e1 : (cs.drop 1).take 32 = bvs g := (cut (show Try.prog.cellsOf 56 = 32 by kernel_rfl)).symm.trans e1
  refine ⟨⟨l, g⟩, v, ?_, hg, hr⟩
  rw [List.take_of_length_le (l := cs.drop 1) (by rw [List.length_drop]; omega)] at e1
  show cs = v :: bvs g
  rw [← e1]
  match cs, hl with
  | c0 :: cr, _ => simp at e0 ⊢; exact e0
theorem tp_node : TP Try.prog 38 fun W cs => ∃ (n : NodeR) (v u : Value), cs = n.cells v u ∧ NodeV (wv W) n v u ∧ n.pairs.length ≤ maxLen ∧ n.kids.length ≤ maxLen := fun H enc W fuel cs x h => by
  obtain ⟨hl, hf⟩ := tp_struct (t := 38) Try.underlying38 H enc W fuel cs x h
  have hl : cs.length = 3 := hl.trans (by kernel_rfl)
  obtain ⟨n0, e0, _⟩ := hf 0 _ rfl _ (tp_int Try.underlying3)
  obtain ⟨v, ps, e1, hp, hpl⟩ := hf 1 _ rfl _ (tp_pairs Try.underlying30 Try.underlying35 (by kernel_rfl) (by kernel_rfl) (by kernel_rfl) Try.underlying22 Try.underlying5 (by kernel_rfl) (by kernel_rfl))
  obtain ⟨u, ks, e2, hk, hkl⟩ := hf 2 _ rfl _ (tp_list (Q := KidP) (z := 33) Try.underlying36 (by kernel_rfl) (by omega) tp_kid)
  have e0 := one_at ((cut (show Try.prog.cellsOf 3 = 1 by kernel_rfl)).symm.trans e0)
  have e1 := one_at ((cut (show Try.prog.cellsOf 30 = 1 by kernel_rfl)).symm.trans e1)
  have e2 := one_at ((cut (show Try.prog.cellsOf 36 = 1 by kernel_rfl)).symm.trans e2)
  clear hf h
  refine ⟨⟨n0, ps, ks⟩, v, u, ?_, ⟨hp, hk⟩, hpl, hkl⟩
  refine list_eq hl fun i hi => ?_
  have hi : i < 3 := hi
  match i, hi with
  | 0, _ => exact e0
  | 1, _ => exact e1
  | 2, _ => exact e2
end Go.Proofs.Ythkboikbpbcdeaa

/-
  How scripts of chapter 02 are read as arguments.
-/
import Derived.Test.YtpmpfahedbfppaaL2b
import Derived.Test.YtpmpfahedbfppaaArgs
set_option linter.unusedVariables false
namespace Go.Proofs.Ytpmpfahedbfppaa
open Go.Vc Go.ChangeShapes Go.WideShapes Go.ChangeAt Go.RowKit
attribute [local irreducible] TInt TBool TStr TPtr TSl TAgg TMap TChan T2 T3 T4 BS Req TSome TCell TByte LoadC LoadA StoreC AllocC RunV RunU CallV EqA StableC StableA StableV TCells ReadV

theorem list4 {cs : List Value} (h : cs.length = 4) : ∃ a b c d, cs = [a, b, c, d] := by
  match cs, h with
  | [a, b, c, d], _ => exact ⟨a, b, c, d, rfl⟩
theorem tp_op : TP Try.prog 31 fun W cs => ∃ (o : OpD) (vb : Value), cs = o.cells vb ∧ OpV (wv W) o vb := fun H enc W fuel cs x h => by
  obtain ⟨hl, hf⟩ := tp_struct (t := 31) Try.underlying31 H enc W fuel cs x h
  have hl : cs.length = 4 := hl.trans (by kernel_rfl)
  have c3 : Try.prog.cellsOf 3 = 1 := by kernel_rfl
  have c29 : Try.prog.cellsOf 29 = 1 := by kernel_rfl
  have c26 : Try.prog.cellsOf 26 = 1 := by kernel_rfl
  obtain ⟨n0, e0, _⟩ := hf 0 _ rfl _ (tp_int Try.underlying3)
  obtain ⟨n1, e1, _⟩ := hf 1 _ rfl _ (tp_int Try.underlying3)
  obtain ⟨n2, e2, r1, r2⟩ := hf 2 _ rfl _ (tp_int Try.underlying29)
  obtain ⟨v, l, e3, _, hr⟩ := hf 3 _ rfl _ (tp_bytes Try.underlying26 Try.underlying5 (by kernel_rfl))
  have e1' : IntKind.min .u64 = 0 := rfl
  have e2' : IntKind.max .u64 = 18446744073709551615 := rfl
  obtain ⟨m, rfl⟩ : ∃ m : Nat, n2 = m := ⟨n2.toNat, by omega⟩
  refine ⟨⟨n0, n1, m, l⟩, v, ?_, hr, by show m < _; omega⟩
  have e0 : (cs.drop 0).take (Try.prog.cellsOf 3) = [.int .i64 n0] := e0
  have e1 : (cs.drop 1).take (Try.prog.cellsOf 3) = [.int .i64 n1] := e1
  have e2 : (cs.drop 2).take (Try.prog.cellsOf 29) = [.int .u64 m] := e2
  have e3 : (cs.drop 3).take (Try.prog.cellsOf 26) = [v] := e3
  rw [c3] at e0 e1
  rw [c29] at e2
  rw [c26] at e3
  clear hf h
  obtain ⟨a, b, c, d, rfl⟩ := list4 hl
  simp at e0 e1 e2 e3
  simp [OpD.cells, e0, e1, e2, e3]
theorem tp_script : TP Try.prog 22 fun W cs => ∃ v ops, cs = [v] ∧ ScrV (wv W) v ops := fun H enc W fuel cs x h => by
  obtain ⟨v, n, xs, e, hn, hr, hq⟩ := tp_slice (z := 4) Try.underlying22 (by kernel_rfl) (by omega) tp_op H enc W fuel cs x h
  refine ⟨v, ?_⟩
  have : ∃ ops : List OpD, ops.length = n ∧ ∀ i o, ops[i]? = some o → ∃ vb, OpV (wv W) o vb ∧ (xs.drop (i * 4)).take 4 = o.cells vb := by
    clear hr
    induction n with
    | zero => exact ⟨[], rfl, fun i o h => by simp at h⟩
    | succ n ih =>
      obtain ⟨ops, hl, hops⟩ := ih (by omega) (fun i hi => hq i (by omega))
      obtain ⟨o, vb, ho, hv⟩ := hq n (by omega)
      refine ⟨ops ++ [o], by simp [hl], fun i o' h => ?_⟩
      rcases Nat.lt_or_ge i n with hi | hi
      · rw [List.getElem?_append_left (by omega)] at h; exact hops i o' h
      · rw [List.getElem?_append_right (by omega)] at h
        have hi2 : i = n := by
          rcases Nat.lt_or_ge (i - ops.length) 1 with h1 | h1
          · omega
          · rw [List.getElem?_eq_none (by simpa using h1)] at h; simp at h
        subst hi2
        rw [hl, Nat.sub_self] at h
        simp at h
        subst h
        exact ⟨vb, hv, ho⟩
  obtain ⟨ops, hl, hops⟩ := this
  refine ⟨ops, e, xs, by rw [hl]; exact hr, by rw [hl]; exact hn, fun i o hi => ?_⟩
  obtain ⟨vb, hv, hx⟩ := hops i o hi
  refine ⟨vb, hv, fun k u hu => ?_⟩
  rw [← hx, List.getElem?_take] at hu
  split at hu
  · rwa [List.getElem?_drop] at hu
  · simp at hu
end Go.Proofs.Ytpmpfahedbfppaa

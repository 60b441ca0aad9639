/-
  BoxPlays: for every input the law returns true and changes nothing.
-/
import Derived.Test.YtfploingelmpkaaWalkBx2
import Derived.Test.YtfploingelmpkaaRows
set_option linter.unusedVariables false
namespace Go.Proofs.Ytfploingelmpkaa
open Go.Vc Go.ChangeShapes Go.WideShapes Go.ChangeAt Go.RowKit
theorem tp_bop : TP Try.prog 55 fun W cs => ∃ x, BopQ (wv W) x cs := fun H enc W fuel cs x h => by
  obtain ⟨hl, hf⟩ := tp_struct (t := 55) Try.underlying55 H enc W fuel cs x h
  have hl : cs.length = 54 := hl.trans (by kernel_rfl)
  obtain ⟨n0, e0, _⟩ := hf 0 _ rfl _ (tp_int Try.underlying3)
  obtain ⟨m, mv, va, ua, vh, vb, e3, M, ok⟩ := hf 1 _ rfl _ tp_msg
  have e0 : cs[0]? = some (.int .i64 n0) := one_at ((cut ci).symm.trans e0)
  have e3 : (cs.drop 1).take 53 = m.cells mv va ua vh vb := (cut (show Try.prog.cellsOf 37 = 53 by kernel_rfl)).symm.trans e3
  clear hf h
  refine ⟨⟨n0, m⟩, mv, va, ua, vh, vb, ?_, M, ok⟩
  match cs, hl with
  | a :: r, hl =>
    have e0 : a = .int .i64 n0 := by simpa using e0
    have e3 : r.take 53 = m.cells mv va ua vh vb := e3
    rw [List.take_of_length_le (by simp at hl; omega)] at e3
    rw [e3, e0]; rfl
theorem tp_bops : TP Try.prog 49 fun W cs => ∃ v l, cs = [v] ∧ LsV BopQ 54 (wv W) v l ∧ l.length ≤ maxLen :=
  tp_list (Q := BopQ) (z := 54) Try.underlying49 (by kernel_rfl) (by omega) tp_bop
end Go.Proofs.Ytfploingelmpkaa
namespace Go.Proofs.Ytfploingelmpkaa.boxPlays
open Go.Vc Go.ChangeShapes Go.WideShapes Go.ChangeAt Go.RowKit
attribute [local irreducible] TInt TBool TStr TPtr TSl TAgg TMap TChan T2 T3 T4 BS Req TSome TCell TByte LoadC LoadA StoreC AllocC RunV RunU CallV ExtV EqA StableC StableA StableV TCells ReadV

set_option maxRecDepth 100000 in
theorem lifted (os : Os) (started : os.Started) (H : Type) (enc : TypeId × Value → H) :
    ReturnsInHanded {} Try.checked os 4 .any (Rows.boxPlaysSpec.pre6 enc Try.prog Try.f4 Rows.boxPlaysRow.domain false) (Rows.boxPlaysSpec.post enc Try.prog Try.f4 false true false false) := by
  refine returnsInHanded_of_change (C := Try.checked) (by kernel_rfl) started (by kernel_rfl) Try.func4
    (ChangeSpec.witness6 (enc := enc) (C := Try.checked) false ⟨#[], #[.int .i64 1, .slice none 0 0], []⟩ 8 (by kernel_rfl) (by kernel_rfl) (by kernel_rfl) (by kernel_rfl)) ?_
  intro W base args ds gs before hval hW _ _
  refine law_post (f := 4) (by kernel_rfl) (by kernel_rfl) (by kernel_rfl) Try.underlying4 rfl (fun ds h => by match ds, h with | [_, _], _ => rfl) hW ?_
  obtain ⟨p, q, hA, _⟩ := hW
  rw [Try.params4] at hA hval
  obtain ⟨v0, _, _, _, _, _, hargs, rfl, rfl, h0, hA⟩ := trodAll_cons hA
  obtain ⟨v1, _, _, _, _, _, rfl, rfl, rfl, h1, hA⟩ := trodAll_cons hA
  obtain ⟨rfl, rfl, rfl⟩ := trodAll_nil hA
  obtain rfl : args = #[v0, v1] := by cases args; simp_all
  obtain ⟨n0, rfl, _, _, _⟩ := open_int Try.underlying3 (hval 0 _ v0 rfl rfl) h0
  obtain ⟨x1, l1, e1, hr1, _⟩ := TP.trod tp_bops h1
  obtain rfl := arg_slice Try.underlying49 (hval 1 _ v1 rfl rfl) e1
  obtain ⟨o1, p1, rfl⟩ := hr1.form
  exact walkBx.plays n0 l1 o1 p1 W hr1

theorem proved : Rows.BoxPlaysSaid :=
  OpenClaim.holds_of_wide 4 Try.f4 rfl rfl rfl rfl rfl rfl rfl ⟨rfl, rfl, rfl, rfl, rfl⟩ rfl rfl rfl rfl rfl (by kernel_rfl) Try.func4 (by kernel_rfl)
    (of_decide_eq_true (by kernel_rfl)) (by unfold Func.isWrapper; first | (rw [if_pos (by decide +kernel)]; kernel_rfl) | (rw [if_neg (by decide +kernel)]; exact ⟨rfl, rfl⟩))
    (fun os started H enc _ => lifted os started H enc)
end Go.Proofs.Ytfploingelmpkaa.boxPlays

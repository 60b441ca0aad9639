/-
  OperApart: for every two operations and answers the law returns true and changes nothing.
-/
import Derived.Test.YtpmpfahedbfppaaWalkOper
import Derived.Test.YtpmpfahedbfppaaApi
import Derived.Test.YtpmpfahedbfppaaRows
set_option linter.unusedVariables false
namespace Go.Proofs.Ytpmpfahedbfppaa.operApart
open Go.Vc Go.ChangeShapes Go.WideShapes Go.ChangeAt Go.RowKit
attribute [local irreducible] TInt TBool TStr TPtr TSl TAgg TMap TChan T2 T3 T4 BS Req TSome TCell TByte LoadC LoadA StoreC AllocC RunV RunU CallV EqA StableC StableA StableV TCells ReadV

theorem tp_both : TP Try.prog 66 fun W cs => ∃ (o : OpR) (v : Value) (a : AnsR) (va ua : Value), cs = o.cells v ++ a.cells va ua ∧ OpRV (wv W) o v ∧ AnsV (wv W) a va ua := fun H enc W fuel cs x h => by
  obtain ⟨hl, hf⟩ := tp_struct (t := 66) Try.underlying66 H enc W fuel cs x h
  have hl : cs.length = 10 := hl.trans (by kernel_rfl)
  obtain ⟨o, v, e0, ho, _⟩ := hf 0 _ rfl _ tp_opr
  obtain ⟨a, va, ua, e1, ha, _⟩ := hf 1 _ rfl _ tp_ans
  have e0 : (cs.drop 0).take 6 = o.cells v := (cut (show Try.prog.cellsOf 61 = 6 by kernel_rfl)).symm.trans e0
  have e1 : (cs.drop 6).take 4 = a.cells va ua := (cut (show Try.prog.cellsOf 64 = 4 by kernel_rfl)).symm.trans e1
  refine ⟨o, v, a, va, ua, ?_, ho, ha⟩
  rw [← e0, ← e1, List.drop_zero, List.take_of_length_le (l := cs.drop 6) (by rw [List.length_drop]; omega), List.take_append_drop]

set_option maxRecDepth 100000 in
theorem lifted (os : Os) (started : os.Started) (H : Type) (enc : TypeId × Value → H) :
    ReturnsInHanded {} Try.checked os 9 .any (Rows.operApartSpec.pre6 enc Try.prog Try.f9 Rows.operApartRow.domain false) (Rows.operApartSpec.post enc Try.prog Try.f9 false true false false) := by
  refine returnsInHanded_of_change (C := Try.checked) (by kernel_rfl) started (by kernel_rfl) Try.func9
    (ChangeSpec.witness6 (enc := enc) (C := Try.checked) false ⟨#[], #[.agg #[.int .i64 0, .string ByteArray.empty, .string ByteArray.empty, .int .i64 0, .int .i64 0, .slice none 0 0, .int .i64 0, .int .i64 0, .slice none 0 0, .slice none 0 0], .agg #[.int .i64 0, .string ByteArray.empty, .string ByteArray.empty, .int .i64 0, .int .i64 0, .slice none 0 0, .int .i64 0, .int .i64 0, .slice none 0 0, .slice none 0 0]], []⟩ 8 (by kernel_rfl) (by kernel_rfl) (by kernel_rfl) (by kernel_rfl)) ?_
  intro W base args ds gs before hval hW _ _
  refine law_post (f := 9) (by kernel_rfl) (by kernel_rfl) (by kernel_rfl) Try.underlying4 rfl (fun ds h => by match ds, h with | [_, _], _ => rfl) hW ?_
  obtain ⟨p, q, hA, _⟩ := hW
  rw [Try.params9] at hA hval
  obtain ⟨v0, _, _, _, _, _, hargs, rfl, rfl, h0, hA⟩ := trodAll_cons hA
  obtain ⟨v1, _, _, _, _, _, rfl, rfl, rfl, h1, hA⟩ := trodAll_cons hA
  obtain ⟨rfl, rfl, rfl⟩ := trodAll_nil hA
  obtain rfl : args = #[v0, v1] := by cases args; simp_all
  obtain ⟨o, v, a, va, ua, e0, ho, ha⟩ := TP.trod tp_both h0
  obtain rfl := arg_struct Try.underlying66 (hval 0 _ v0 rfl rfl) e0
  obtain ⟨p, u, b, vb, ub, e1, hp, hb⟩ := TP.trod tp_both h1
  obtain rfl := arg_struct Try.underlying66 (hval 1 _ v1 rfl rfl) e1
  exact walkOper.apart o p a b v u va ua vb ub W ho hp ha hb

theorem proved : Rows.OperApartSaid :=
  OpenClaim.holds_of_wide 9 Try.f9 rfl rfl rfl rfl rfl rfl rfl ⟨rfl, rfl, rfl, rfl, rfl⟩ rfl rfl rfl rfl rfl (by kernel_rfl) Try.func9 (by kernel_rfl)
    (of_decide_eq_true (by kernel_rfl)) (by unfold Func.isWrapper; first | (rw [if_pos (by decide +kernel)]; kernel_rfl) | (rw [if_neg (by decide +kernel)]; exact ⟨rfl, rfl⟩))
    (fun os started H enc _ => lifted os started H enc)
end Go.Proofs.Ytpmpfahedbfppaa.operApart

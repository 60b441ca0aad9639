/-
  What the functions of chapter 02's document answer and of its laws' helpers do, each once.
-/
import Derived.Test.YtpmpfahedbfppaaPack
import Derived.Test.YtpmpfahedbfppaaGenL2
set_option linter.unusedVariables false
namespace Go.Proofs.Ytpmpfahedbfppaa
open Go.Vc
attribute [local irreducible] TInt TBool TStr TPtr TSl TAgg TMap TChan T2 T3 T4 BS Req TSome TCell TByte LoadC LoadA StoreC AllocC RunV RunU CallV EqA StableC StableA StableV TCells ReadV

/-- speaks -/
theorem speaks {c : Nat → Nat} (j : Nat) {w : World} {R : Value → World → Prop} (h : ∀ c' w', Step c [j, j + 1] [j, j + 1] w c' w' → R (.bool true) w') :
    CallV Try.prog 12 #[] w R := by
  refine law02_speaks_vc ?_
  unfold law02_speaks_VC
  refine AllocC.col c j fun b c1 w1 h1 hb hnew => ?_
  have hp : PenV (view c1 j w1) ⟨b, 0, none⟩ [] := ⟨b, _, rfl, hb, OwS.nil ..⟩
  refine Pen_Uint (n := 258) hp (by omega) (by simp) (fun hbad => (hbad ⟨by omega, by omega, by decide⟩).elim) (fun _ c2 w2 h2 hp2 => ?_)
  refine TInt.mk ?_
  refine AllocC.col c2 (j + 1) fun b2 c3 w3 h3 hb3 _ => ?_
  refine mark_col Try.underlying26 Try.underlying5 hb3 fun w4 h4 _ hb4 => ?_
  refine TSl.mk ?_
  have hj : j ≠ j + 1 := by omega
  have hrd : RdS (view c3 (j + 1) w4) (.slice (some ⟨b2, 0, none⟩) 2 2) 1 2 (bvs [97, 98]) := RdS.block (xs := bvs [97, 98]) hb4 rfl (Nat.le_refl _)
  have hp4 := hp2.mono ((h3.step.sub (i := j) (by simp)).trans (h4.step.sub (i := j) (by simp)))
  refine Pen_Text hp4 (hrd.mono (view_sub _ _ _)) ⟨j + 1, by omega, hrd⟩ (by simp) (fun hbad => (hbad (by omega)).elim) (fun _ c5 w5 h5 hp5 => ?_)
  refine TInt.mk (BS.yes rfl (BS.yes rfl ?_))
  refine Pen_Data j hp5 (by simp) fun v c6 w6 h6 ho6 => ?_
  obtain ⟨o, cp, rfl⟩ := ho6.form
  refine TSl.mk (string_rule strU8 ((ho6.mono (view_sub _ _ _)).rd) (TStr.mk ?_))
  have hst : Step c [j, j + 1] [j, j + 1] w c6 w6 :=
    (h1.step.weak (by simp) (by simp)).trans <| (h2.weak (by simp) (by simp)).trans <| (h3.step.weak (by simp) (by simp)).trans <| (h4.step.weak (by simp) (by simp)).trans <| (h5.weak (by simp) (by simp)).trans <| (h6.weak (by simp) (by simp))
  have := h c6 w6 hst
  rw [show (⟨#[0, 1, 2, 0, 2, 97, 98]⟩ : ByteArray) = strOf [0, 1, 2, 0, 2, 97, 98] from rfl, strEq_of, decide_eq_true (by decide)]
  exact this

end Go.Proofs.Ytpmpfahedbfppaa

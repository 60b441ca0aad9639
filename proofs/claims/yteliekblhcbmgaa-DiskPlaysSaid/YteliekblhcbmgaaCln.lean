/-
  slices.Clone of bytes.
-/
import Derived.Test.YteliekblhcbmgaaGenDk
import Derived.Test.YteliekblhcbmgaaLists
set_option linter.unusedVariables false
set_option linter.unusedSimpArgs false
namespace Go.Proofs.Yteliekblhcbmgaa
open Go.Vc
attribute [local irreducible] TInt TBool TStr TPtr TSl TAgg TMap TChan T2 T3 T4 BS Req TSome TCell TByte LoadC LoadA StoreC AllocC RunV RunU CallV ExtV EqA StableC StableA StableV TCells ReadV
/-- slices.Clone of bytes -/
theorem Clone_bytes (c : Nat → Nat) (i : Nat) {w : World} {v : Value} {n : Nat} {l : List UInt8} {R : Value → World → Prop}
    (hr : RdS (wv w) v 1 n (bvs l)) (hn : n ≤ 140737488355328)
    (h : ∀ v' c' w', Step c [] [i] w c' w' → OwS (view c' i w') v' 5 1 n (bvs l) → R v' w') :
    CallV Try.prog 27 #[v] w R := by
  obtain ⟨o, cp, rfl⟩ : ∃ o cp, v = .slice o n cp := by obtain ⟨o, cp, e, _⟩ := hr; exact ⟨o, cp, e⟩
  refine slices_Clone_byte_byte_vc ?_
  refine BS.mk (fun ho => ?_) (fun ho => ?_)
  · have : o = none := by simpa using ho
    subst this
    have hl : l = [] := by
      obtain ⟨o, cp, e, _, hl, hx⟩ := hr
      cases e
      rcases hx with h | ⟨b, off, cs, T, fz, e', _⟩
      · simpa [bvs] using h
      · simp at e'
    subst hl
    have hn0 : n = 0 := by obtain ⟨o, cp, e, _, hl, hx⟩ := hr; simpa using hl.symm
    subst hn0
    exact h _ c w (.refl ..) (OwS.nil ..)
  · refine AllocC.col c i fun b c1 w1 h1 hb hnew => ?_
    have hown : OwS (view c1 i w1) (.slice (some ⟨b, 0, none⟩) 0 0) 5 1 0 [] := ⟨by simp, .inr ⟨b, 0, _, rfl, hb, Nat.le_refl _, by simp [maxLen], by simp, by simp⟩⟩
    have hs1 : Sub (wv w) (wv w1) := by
      intro b' o' hb'
      exact ((h1.fresh).keep b' (lt_of_heap hb') (by simp)).trans hb'
    refine append_col slU8 hown (hr.mono hs1) (bvs_one l) (by omega) (by omega) fun v' c2 w2 h2 ho2 _ => ?_
    obtain ⟨o2, cp2, rfl⟩ := ho2.form
    refine TSl.mk ?_
    have := h _ c2 w2 (h2.stepNew h1.fresh (by simp) fun b' e => ?_) (by simpa using ho2)
    · simpa using this
    · simp [Value.ownBlock] at e; exact e ▸ size_le_of_none hnew
end Go.Proofs.Yteliekblhcbmgaa

/-
  slices.Equal of bytes.
-/
import Derived.Test.YtdjgdcafmfheoaaDoorHpM
import Derived.Test.YtdjgdcafmfheoaaDoorGenSlEq
set_option linter.unusedVariables false
set_option linter.unusedSimpArgs false
namespace Go.Proofs.YtdjgdcafmfheoaaDoor
open Go.Vc
attribute [local irreducible] TInt TBool TStr TPtr TSl TAgg TMap TChan T2 T3 T4 BS Req TSome TCell TByte LoadC LoadA StoreC AllocC RunV RunU CallV ExtV EqA StableC StableA StableV TCells ReadV

theorem Equal_bytes (c : Nat → Nat) {w : World} {v1 v2 : Value} {l m : List UInt8} {R : Value → World → Prop} (h1 : RdS (wv w) v1 1 l.length (bvs l)) (h2 : RdS (wv w) v2 1 m.length (bvs m)) (hl : l.length ≤ 1099511627776)
    (h : ∀ w', Step c [] [] w c w' → R (.bool (decide (l = m))) w') : CallV Tryd.prog 63 #[v1, v2] w R := by
  obtain ⟨o1, cp1, rfl⟩ := h1.form
  obtain ⟨o2, cp2, rfl⟩ := h2.form
  refine slices_Equal_byte_byte_vc ?_
  unfold slices_Equal_byte_byte_VC
  refine BS.ne (fun hne => ?_) (fun heq => ?_)
  · have := h w (.refl ..)
    rwa [decide_eq_false (by rintro rfl; exact hne rfl)] at this
  have hlen : l.length = m.length := by omega
  refine ⟨fun vs w' => ∃ k : Nat, k ≤ l.length ∧ vs = [.int .i64 k] ∧ l.take k = m.take k ∧ Step c [] [] w c w', fun vs _ => match vs with | [.int _ x] => (l.length - x).toNat | _ => 0, ⟨0, by omega, rfl, by simp, .refl ..⟩, ?_⟩
  rintro _ w1 n ⟨k, hk, e, heq, st⟩
  simp only [List.cons.injEq, Value.int.injEq, true_and, and_true] at e
  subst e
  refine BS.dec (fun hlt => ?_) (fun hge => ?_)
  · refine DrewC.mk ?_
    have hk' : k < l.length := by omega
    have hs : Sub (wv w) (wv w1.drew) := fun b o hb => (st.keep b (lt_of_heap hb) (by simp)).trans hb
    refine Req.bnd ⟨by omega, hlt⟩ ?_
    have e1 : (bvs l)[k]? = some (bv (l[k]'hk')) := by rw [bvs_get, List.getElem?_eq_getElem hk']; rfl
    have e2 : (bvs m)[k]? = some (bv (m[k]'(by omega))) := by rw [bvs_get, List.getElem?_eq_getElem (by omega)]; rfl
    obtain ⟨a1, rfl, g1⟩ := RdS.cell (h1.mono hs) e1
    obtain ⟨a2, rfl, g2⟩ := RdS.cell (h2.mono hs) e2
    refine TSome.mk ?_
    rw [Int.toNat_natCast, Nat.mul_one]
    refine LoadC.mk g1 (TInt.mk ?_)
    refine Req.bnd ⟨by omega, by omega⟩ (TSome.mk ?_)
    refine LoadC.mk g2 (TInt.mk ?_)
    refine BS.ne (fun hne => ?_) (fun heq2 => ?_)
    · have := h w1.drew st.drew
      rwa [decide_eq_false (by rintro rfl; exact hne rfl)] at this
    · have hx : l[k]'hk' = m[k]'(by omega) := UInt8.toNat_inj.1 (by omega)
      refine ⟨⟨k + 1, by omega, by rw [wrap_i64 (by omega) (by omega)]; rfl, ?_, st.drew⟩, ?_⟩
      · rw [List.take_add_one, List.take_add_one, heq, List.getElem?_eq_getElem hk', List.getElem?_eq_getElem (by omega), hx]
      · rw [wrap_i64 (by omega) (by omega)]; show ((l.length : Int) - (k + 1)).toNat < ((l.length : Int) - k).toNat; omega
  · have : k = l.length := by omega
    subst this
    rw [List.take_length, List.take_of_length_le (by omega)] at heq
    have := h w1 st
    rwa [decide_eq_true heq] at this

end Go.Proofs.YtdjgdcafmfheoaaDoor

/-
  PackCuts: for every text and every place of the cut the law returns true and changes nothing.
-/
import Derived.Test.YtpmpfahedbfppaaL2
import Derived.Test.YtpmpfahedbfppaaArgs
import Derived.Test.YtpmpfahedbfppaaRows
set_option linter.unusedVariables false
namespace Go.Proofs.Ytpmpfahedbfppaa.packCuts
open Go.Vc Go.ChangeShapes Go.WideShapes Go.ChangeAt Go.RowKit
attribute [local irreducible] TInt TBool TStr TPtr TSl TAgg TMap TChan T2 T3 T4 BS Req TSome TCell TByte LoadC LoadA StoreC AllocC RunV RunU CallV EqA StableC StableA StableV TCells ReadV

theorem walk (v0 : Value) (l : List UInt8) (k : Int) (w : World) (hr : RdS (wv w) v0 1 l.length (bvs l)) :
    CallV Try.prog 7 #[v0, .int .i64 k] w fun v w' => v = .bool true ∧ Below w.heap.size w w' := by
  have fin : ∀ {c' w'} {W N : List Nat}, Step (fun _ => 0) W N w c' w' → 0 ∉ W → Below w.heap.size w w' := fun h h0 => h.below fun _ => h0
  obtain ⟨o0, cp0, rfl⟩ := hr.form
  refine law02_PackCuts_vc ?_
  unfold law02_PackCuts_VC
  have hr0 : RdS (view (fun _ => 0) 0 w) (.slice o0 l.length cp0) 1 l.length (bvs l) := hr
  refine speaks (c := fun _ => 0) 1 fun c1 w1 h1 => ?_
  refine TBool.mk (BS.no rfl ?_)
  refine AllocC.col c1 3 fun p1 c2 w2 h2 hp1 _ => ?_
  have hst2 : Step (fun _ => 0) [1, 2, 3] [1, 2, 3] w c2 w2 := (h1.weak (by simp) (by simp)).trans (h2.step.weak (by simp) (by simp))
  refine BS.dec (fun hbig => ⟨by rw [decide_eq_true hbig], fin hst2 (by simp)⟩) (fun hsmall => ?_)
  have hl : l.length ≤ 1000 := by omega
  have hr2 := hr0.mono (hst2.sub (i := 0) (by simp))
  have hA : PenV (view c2 3 w2) ⟨p1, 0, none⟩ [] := ⟨p1, _, rfl, hp1, OwS.nil ..⟩
  refine Pen_Text hA (hr2.mono (view_sub _ _ _)) ⟨0, by omega, hr2⟩ (by simp; omega) (fun hbad => absurd (by omega) hbad) (fun _ c3 w3 h3 hA3 => ?_)
  refine TInt.mk ?_
  have hst3 := hst2.trans (h3.weak (by simp) (by simp))
  unfold law02_PackCuts_K1
  refine BS.no rfl ?_
  simp only [List.nil_append] at hA3
  have hdl : (be l.length 2 ++ l).length = l.length + 2 := by rw [List.length_append, be_length]; omega
  refine Pen_Data 4 hA3 (by omega) fun v4 c4 w4 h4 ho4 => ?_
  obtain ⟨o4, cp4, rfl⟩ := ho4.form
  refine TSl.mk ?_
  rw [hdl] at ho4 ⊢
  obtain ⟨m0, hm0, _⟩ := and_mask k 65535 (by omega)
  rw [show ((65535 : Nat) : Int) = 65535 from rfl] at hm0
  rw [hm0]
  have hm : Int.tmod (m0 : Int) ((l.length + 2 : Nat) : Int) = ((m0 % (l.length + 2) : Nat) : Int) := by rw [Int.tmod_eq_emod_of_nonneg (by omega)]; omega
  rw [hm]
  have hlt : m0 % (l.length + 2) < l.length + 2 := Nat.mod_lt _ (by omega)
  generalize m0 % (l.length + 2) = m at hlt
  refine Req.ne (by omega) ?_
  have hr4 := ho4.rd
  have hcp := hr4.len.2.1
  refine Req.bndle (by omega) ?_
  rw [Int.toNat_natCast]
  have htake : RdS (view c4 4 w4) (.slice (slBase o4 cp4 0 1) m cp4) 1 m (bvs ((be l.length 2 ++ l).take m)) := by
    have := hr4.take (k := m) (by omega)
    rw [bvs_take]; simpa using this
  refine NewEye c4 5 (htake.mono (view_sub _ _ _)) (by omega) fun a c5 w5 h5 he5 => ?_
  refine TPtr.mk (BS.no rfl ?_)
  have htl : ((be l.length 2 ++ l).take m).length = m := by rw [List.length_take, hdl]; omega
  refine Eye_Text he5 6 (by omega) (fun _ c6 w6 h6 he6 => ?_) (fun h2l hnum => ?_)
  · refine T2.mk (TSl.mk (TInt.mk ?_))
    refine Eye_Raw he6 7 (by omega) (fun h => by omega) (fun _ h => by omega) (fun _ _ v7 c7 w7 h7 _ he7 ho7 => ?_)
    obtain ⟨o7, cp7, rfl⟩ := ho7.form
    rw [Int.toNat_natCast] at *
    refine T2.mk (TSl.mk (TInt.mk (DrewC.mk ?_)))
    refine BS.yes rfl (BS.yes rfl (BS.yes rfl ?_))
    refine string_rule (w := w7.drew) strU8 (RdS.mono (h := view c7 7 w7) ho7.rd (view_sub c7 7 w7)) ?_
    refine TStr.mk ?_
    refine Req.bndle (by omega) ?_
    have htake7 := ((htake.mono (h5.sub (by simp))).mono (h6.sub (by simp))).mono (h7.sub (i := 4) (by simp))
    refine string_rule (w := w7.drew) strU8 (RdS.mono htake7 (view_sub c7 4 w7)) ?_
    refine TStr.mk ?_
    rw [List.take_take, Nat.min_self, strEq_of]
    refine BS.yes (by simp) ?_
    refine Eye_End (w := w7.drew) he7 ?_
    refine TInt.mk ⟨?_, fin ((hst3.and h4).and (h5.and (h6.and h7))).drew (by simp)⟩
    rw [if_pos (List.drop_eq_nil_of_le (by omega))]
    rfl
  · exfalso
    rw [htl] at h2l hnum
    have : ((be l.length 2 ++ l).take m).take 2 = be l.length 2 := by
      rw [List.take_take, Nat.min_eq_left h2l]
      have := List.take_left (l₁ := be l.length 2) (l₂ := l)
      rwa [be_length] at this
    rw [this, num_be, Nat.mod_eq_of_lt (by omega)] at hnum
    omega

set_option maxRecDepth 100000 in
theorem lifted (os : Os) (started : os.Started) (H : Type) (enc : TypeId × Value → H) :
    ReturnsInHanded {} Try.checked os 7 .any (Rows.packCutsSpec.pre6 enc Try.prog Try.f7 Rows.packCutsRow.domain false) (Rows.packCutsSpec.post enc Try.prog Try.f7 false true false false) := by
  refine returnsInHanded_of_change (C := Try.checked) (by kernel_rfl) started (by kernel_rfl) Try.func7
    (ChangeSpec.witness6 (enc := enc) (C := Try.checked) false ⟨#[], #[.slice none 0 0, .int .i64 0], []⟩ 8 (by kernel_rfl) (by kernel_rfl) (by kernel_rfl) (by kernel_rfl)) ?_
  intro W base args ds gs before hval hW _ _
  refine law_post (f := 7) (by kernel_rfl) (by kernel_rfl) (by kernel_rfl) Try.underlying4 rfl (fun ds h => by match ds, h with | [_, _], _ => rfl) hW ?_
  obtain ⟨p, q, hA, _⟩ := hW
  rw [Try.params7] at hA hval
  obtain ⟨v0, _, _, _, _, _, hargs, rfl, rfl, h0, hA⟩ := trodAll_cons hA
  obtain ⟨v1, _, _, _, _, _, rfl, rfl, rfl, h1, hA⟩ := trodAll_cons hA
  obtain ⟨rfl, rfl, rfl⟩ := trodAll_nil hA
  obtain rfl : args = #[v0, v1] := by cases args; simp_all
  obtain ⟨v, l, e0, _, hr⟩ := TP.trod (tp_bytes Try.underlying26 Try.underlying5 (by kernel_rfl)) h0
  obtain rfl := arg_slice Try.underlying26 (hval 0 _ v0 rfl rfl) e0
  obtain ⟨n1, rfl, _, _, r1⟩ := open_int Try.underlying3 (hval 1 _ v1 rfl rfl) h1
  exact walk v l n1 W hr

theorem proved : Rows.PackCutsSaid :=
  OpenClaim.holds_of_wide 7 Try.f7 rfl rfl rfl rfl rfl rfl rfl ⟨rfl, rfl, rfl, rfl, rfl⟩ rfl rfl rfl rfl rfl (by kernel_rfl) Try.func7 (by kernel_rfl)
    (of_decide_eq_true (by kernel_rfl)) (by unfold Func.isWrapper; first | (rw [if_pos (by decide +kernel)]; kernel_rfl) | (rw [if_neg (by decide +kernel)]; exact ⟨rfl, rfl⟩))
    (fun os started H enc _ => lifted os started H enc)
end Go.Proofs.Ytpmpfahedbfppaa.packCuts

/-
  PackOrder: for every two numbers and every size the law returns true and changes nothing.
-/
import Derived.Test.YtpmpfahedbfppaaL2
import Derived.Test.YtpmpfahedbfppaaArgs
import Derived.Test.YtpmpfahedbfppaaRows
set_option linter.unusedVariables false
namespace Go.Proofs.Ytpmpfahedbfppaa.packOrder
open Go.Vc Go.ChangeShapes Go.WideShapes Go.ChangeAt Go.RowKit
attribute [local irreducible] TInt TBool TStr TPtr TSl TAgg TMap TChan T2 T3 T4 BS Req TSome TCell TByte LoadC LoadA StoreC AllocC RunV RunU CallV EqA StableC StableA StableV TCells ReadV

theorem be_less (a b k : Nat) (ha : a < 256 ^ k) (hb : b < 256 ^ k) : Op.bytesLess (be a k) (be b k) = decide (a < b) := by
  induction k generalizing a b with
  | zero => simp [be, Op.bytesLess]; omega
  | succ k ih =>
    rw [be, be, Op.bytesLess]
    have hk : 0 < 256 ^ k := Nat.pow_pos (by omega)
    rw [Nat.pow_succ] at ha hb
    have h1 : a / 256 ^ k < 256 := by rw [Nat.div_lt_iff_lt_mul hk, Nat.mul_comm]; exact ha
    have h2 : b / 256 ^ k < 256 := by rw [Nat.div_lt_iff_lt_mul hk, Nat.mul_comm]; exact hb
    have h3 := ih (a % 256 ^ k) (b % 256 ^ k) (Nat.mod_lt _ hk) (Nat.mod_lt _ hk)
    rw [be_mod, be_mod] at h3
    rw [h3]
    have ea := Nat.div_add_mod a (256 ^ k)
    have eb := Nat.div_add_mod b (256 ^ k)
    have hma := Nat.mod_lt a hk
    have hmb := Nat.mod_lt b hk
    have e1 : (byteAt a k < byteAt b k) ↔ a / 256 ^ k < b / 256 ^ k := by
      rw [UInt8.lt_iff_toNat_lt, byteAt_toNat, byteAt_toNat, Nat.mod_eq_of_lt h1, Nat.mod_eq_of_lt h2]
    have e2 : (byteAt a k == byteAt b k) = decide (a / 256 ^ k = b / 256 ^ k) := by
      rw [Bool.eq_iff_iff]
      simp only [beq_iff_eq, decide_eq_true_eq]
      rw [← UInt8.toNat_inj, byteAt_toNat, byteAt_toNat, Nat.mod_eq_of_lt h1, Nat.mod_eq_of_lt h2]
    rw [e2, Bool.eq_iff_iff]
    simp only [Bool.or_eq_true, Bool.and_eq_true, decide_eq_true_eq, e1]
    generalize a / 256 ^ k = qa at *
    generalize b / 256 ^ k = qb at *
    generalize 256 ^ k = M at *
    constructor
    · rintro (h | ⟨h, h'⟩)
      · have : M * (qa + 1) ≤ M * qb := Nat.mul_le_mul_left _ h
        rw [Nat.mul_add] at this; omega
      · subst h; omega
    · intro h
      rcases Nat.lt_trichotomy qa qb with h' | h' | h'
      · exact .inl h'
      · subst h'; exact .inr ⟨rfl, by omega⟩
      · have : M * (qb + 1) ≤ M * qa := Nat.mul_le_mul_left _ h'
        rw [Nat.mul_add] at this; omega

theorem bad_case {a b : Nat} {size : Int} {a7 a8 : Addr} {w : World} {R : Value → World → Prop} (ha : a < 18446744073709551616) (hb : b < 18446744073709551616) (hs : -9223372036854775808 ≤ size ∧ size < 9223372036854775808)
    (hbad : ¬ uintOk a size ∨ ¬ uintOk b size) (h : R (.bool true) w) : law02_PackOrder_K1 a b size a7 a8 true w R := by
  unfold law02_PackOrder_K1
  refine BS.yes rfl ?_
  refine BS.dec (fun _ => h) (fun h1 => BS.dec (fun _ => h) (fun h2 => ?_))
  obtain ⟨k, rfl⟩ : ∃ k : Nat, size = k := ⟨size.toNat, by omega⟩
  have hmx : ¬ max a b < 256 ^ k := by
    intro hlt
    unfold uintOk at hbad
    rw [Int.toNat_natCast] at hbad
    have : a < 256 ^ k := by omega
    have : b < 256 ^ k := by omega
    rcases hbad with h | h
    · exact h ⟨by omega, by omega, by assumption⟩
    · exact h ⟨by omega, by omega, by assumption⟩
  have hk8 : k < 8 := by
    rcases Nat.lt_or_ge k 8 with h8 | h8
    · exact h8
    · exfalso; apply hmx
      have : k = 8 := by omega
      subst this
      rw [show (256 : Nat) ^ 8 = 18446744073709551616 from rfl]; omega
  refine BS.dec (fun h3 => ?_) (fun h3 => by omega)
  rw [wrap_u64 (n := (k : Int)) (by omega) (by omega), wrap_u64 (by omega) (by omega)]
  refine Req.mk (by omega) ?_
  rw [show max (a : Int) (b : Int) = ((max a b : Nat) : Int) by omega, shr_u64 (by omega) (by omega) (by omega), Int.toNat_natCast, show (8 * (k : Int)).toNat = 8 * k by omega, ← pow_256]
  have hp : 0 < max a b / 256 ^ k := Nat.div_pos (by omega) (Nat.pow_pos (by omega))
  rw [decide_eq_true (by omega)]
  exact h

theorem walk (a b : Nat) (size : Int) (w : World) (ha : a < 18446744073709551616) (hb : b < 18446744073709551616) (hs : -9223372036854775808 ≤ size ∧ size < 9223372036854775808) :
    CallV Try.prog 4 #[.int .u64 a, .int .u64 b, .int .i64 size] w fun v w' => v = .bool true ∧ Below w.heap.size w w' := by
  have fin : ∀ {c' w'} {W N : List Nat}, Step (fun _ => 0) W N w c' w' → 0 ∉ W → Below w.heap.size w w' := fun h h0 => h.below fun _ => h0
  refine law02_PackOrder_vc ?_
  unfold law02_PackOrder_VC
  refine speaks (c := fun _ => 0) 1 fun c1 w1 h1 => ?_
  refine TBool.mk (BS.no rfl ?_)
  refine AllocC.col c1 3 fun p1 c2 w2 h2 hp1 _ => ?_
  refine AllocC.col c2 4 fun p2 c3 w3 h3 hp2 _ => ?_
  have hA : PenV (view c3 3 w3) ⟨p1, 0, none⟩ [] := (show PenV (view c2 3 w2) ⟨p1, 0, none⟩ [] from ⟨p1, _, rfl, hp1, OwS.nil ..⟩).mono (h3.step.sub (by simp))
  have hB : PenV (view c3 4 w3) ⟨p2, 0, none⟩ [] := ⟨p2, _, rfl, hp2, OwS.nil ..⟩
  have hst3 : Step (fun _ => 0) [1, 2, 3, 4] [1, 2, 3, 4] w c3 w3 := (h1.weak (by simp) (by simp)).trans <| (h2.step.weak (by simp) (by simp)).trans <| (h3.step.weak (by simp) (by simp))
  refine Pen_Uint hA ha (by simp) (fun hbad => ?_) (fun hok c4 w4 h4 hA4 => ?_)
  · refine TInt.mk (BS.yes rfl ?_)
    exact bad_case ha hb hs (.inl hbad) ⟨rfl, fin hst3 (by simp)⟩
  refine TInt.mk (BS.no rfl ?_)
  have hst4 := hst3.trans (h4.weak (by simp) (by simp))
  refine Pen_Uint (hB.mono (h4.sub (by simp))) hb (by simp) (fun hbad => ?_) (fun hok2 c5 w5 h5 hB5 => ?_)
  · exact TInt.mk (bad_case ha hb hs (.inr hbad) ⟨rfl, fin hst4 (by simp)⟩)
  refine TInt.mk ?_
  have hst5 := hst4.trans (h5.weak (by simp) (by simp))
  have hA5 := hA4.mono (h5.sub (i := 3) (by simp))
  unfold law02_PackOrder_K1
  refine BS.no rfl ?_
  refine DrewC.mk ?_
  refine Pen_Data (w := w5.drew) 5 hA5 (by simp; have := hok.2.1; omega) fun v6 c6 w6 h6 ho6 => ?_
  obtain ⟨o6, cp6, rfl⟩ := ho6.form
  refine TSl.mk (string_rule strU8 (ho6.mono (view_sub _ _ _)).rd (TStr.mk ?_))
  have hB6 := hB5.mono (Step.sub (i := 4) h6 (by simp))
  refine Pen_Data 6 hB6 (by simp; have := hok.2.1; omega) fun v7 c7 w7 h7 ho7 => ?_
  obtain ⟨o7, cp7, rfl⟩ := ho7.form
  refine TSl.mk ⟨StableV.string strU8 ((ho6.mono (h7.sub (i := 5) (by simp))).mono (view_sub _ _ _)).rd, ?_⟩
  refine string_rule strU8 (ho7.mono (view_sub _ _ _)).rd (TStr.mk ?_)
  have hst : Step (fun _ => 0) [1, 2, 3, 4] [1, 2, 3, 4, 5, 6] w c7 w7 := (hst5.drew.weak (by simp) (by simp)).trans <| (h6.weak (by simp) (by simp)).trans <| h7.weak (by simp) (by simp)
  have hfin := fin hst (by simp)
  obtain ⟨k, rfl⟩ : ∃ k : Nat, size = k := ⟨size.toNat, by have := hok.1; omega⟩
  obtain ⟨_, _, hak⟩ := hok
  obtain ⟨_, _, hbk⟩ := hok2
  rw [Int.toNat_natCast] at *
  refine BS.eq (fun _ => ?_) (fun hne => absurd (show ((strOf ([] ++ be a k)).size : Int) = k by simp) hne)
  have hlt : strLt (strOf ([] ++ be a k)) (strOf ([] ++ be b k)) = decide (a < b) := by
    unfold strLt
    rw [ByteArray.toList_eq, ByteArray.toList_eq, strOf_data, strOf_data, List.nil_append, List.nil_append]
    exact be_less a b k hak hbk
  rw [hlt, strEq_of]
  refine BS.yes (by simp) ?_
  refine ⟨?_, hfin⟩
  congr 1
  rw [Bool.eq_iff_iff]
  by_cases hab : a = b
  · subst hab; simp
  · have : ¬ be a k = be b k := fun e => hab (be_inj hak hbk e)
    have h2 : ¬ (a : Int) = b := by omega
    simp [this, h2]

set_option maxRecDepth 100000 in
theorem lifted (os : Os) (started : os.Started) (H : Type) (enc : TypeId × Value → H) :
    ReturnsInHanded {} Try.checked os 4 .any (Rows.packOrderSpec.pre6 enc Try.prog Try.f4 Rows.packOrderRow.domain false) (Rows.packOrderSpec.post enc Try.prog Try.f4 false true false false) := by
  refine returnsInHanded_of_change (C := Try.checked) (by kernel_rfl) started (by kernel_rfl) Try.func4
    (ChangeSpec.witness6 (enc := enc) (C := Try.checked) false ⟨#[], #[.int .u64 0, .int .u64 0, .int .i64 0], []⟩ 8 (by kernel_rfl) (by kernel_rfl) (by kernel_rfl) (by kernel_rfl)) ?_
  intro W base args ds gs before hval hW _ _
  refine law_post (f := 4) (by kernel_rfl) (by kernel_rfl) (by kernel_rfl) Try.underlying4 rfl (fun ds h => by match ds, h with | [_, _, _], _ => rfl) hW ?_
  obtain ⟨p, q, hA, _⟩ := hW
  rw [Try.params4] at hA hval
  obtain ⟨v0, _, _, _, _, _, hargs, rfl, rfl, h0, hA⟩ := trodAll_cons hA
  obtain ⟨v1, _, _, _, _, _, rfl, rfl, rfl, h1, hA⟩ := trodAll_cons hA
  obtain ⟨v2, _, _, _, _, _, rfl, rfl, rfl, h2, hA⟩ := trodAll_cons hA
  obtain ⟨rfl, rfl, rfl⟩ := trodAll_nil hA
  obtain rfl : args = #[v0, v1, v2] := by cases args; simp_all
  obtain ⟨n0, rfl, _, _, r0⟩ := open_int Try.underlying29 (hval 0 _ v0 rfl rfl) h0
  obtain ⟨n1, rfl, _, _, r1⟩ := open_int Try.underlying29 (hval 1 _ v1 rfl rfl) h1
  obtain ⟨n2, rfl, _, _, r2⟩ := open_int Try.underlying3 (hval 2 _ v2 rfl rfl) h2
  obtain ⟨l0, m0⟩ := wf_range r0
  obtain ⟨l1, m1⟩ := wf_range r1
  obtain ⟨l2, m2⟩ := wf_range r2
  have e1 : IntKind.min .u64 = 0 := rfl
  have e2 : IntKind.max .u64 = 18446744073709551615 := rfl
  have e3 : IntKind.min .i64 = -9223372036854775808 := rfl
  have e4 : IntKind.max .i64 = 9223372036854775807 := rfl
  obtain ⟨a, rfl⟩ : ∃ a : Nat, n0 = a := ⟨n0.toNat, by omega⟩
  obtain ⟨b, rfl⟩ : ∃ a : Nat, n1 = a := ⟨n1.toNat, by omega⟩
  exact walk a b n2 W (by omega) (by omega) (by omega)

theorem proved : Rows.PackOrderSaid :=
  OpenClaim.holds_of_wide 4 Try.f4 rfl rfl rfl rfl rfl rfl rfl ⟨rfl, rfl, rfl, rfl, rfl⟩ rfl rfl rfl rfl rfl (by kernel_rfl) Try.func4 (by kernel_rfl)
    (of_decide_eq_true (by kernel_rfl)) (by unfold Func.isWrapper; first | (rw [if_pos (by decide +kernel)]; kernel_rfl) | (rw [if_neg (by decide +kernel)]; exact ⟨rfl, rfl⟩))
    (fun os started H enc _ => lifted os started H enc)
end Go.Proofs.Ytpmpfahedbfppaa.packOrder

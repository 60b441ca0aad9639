/-
  What the functions of chapter 02's document answer do, each once.
-/
import Derived.Test.YtpblhjgpfmmafaaDoorPack
import Derived.Test.YtpblhjgpfmmafaaDoorHp2
import Derived.Test.YtpblhjgpfmmafaaDoorGenRef02
set_option linter.unusedVariables false
namespace Go.Proofs.YtpblhjgpfmmafaaDoor
open Go.Vc
attribute [local irreducible] TInt TBool TStr TPtr TSl TAgg TMap TChan T2 T3 T4 BS Req TSome TCell TByte LoadC LoadA StoreC AllocC RunV RunU CallV ExtV EqA StableC StableA StableV TCells ReadV

theorem zU8 : zeroCB Tryd.prog 5 = some (#[.int .u8 0], 1, 1) := by kernel_rfl

/-- the document's Uint -/
theorem ref_Uint (c : Nat → Nat) (j : Nat) {w : World} {n : Nat} {size : Int} {R : Value → World → Prop} (hn : n < 18446744073709551616)
    (hbad : ¬ uintOk n size → ∀ v c' w', Step c [] [j] w c' w' → OwS (view c' j w') v 5 1 0 [] → R (.tuple #[v, .int .i64 1]) w')
    (h : uintOk n size → ∀ v c' w', Step c [] [j] w c' w' → OwS (view c' j w') v 5 1 size.toNat (bvs (be n size.toNat)) → R (.tuple #[v, .int .i64 0]) w') :
    CallV Tryd.prog 44 #[.int .u64 n, .int .i64 size] w R := by
  refine ref02_Uint_vc ?_
  unfold ref02_Uint_VC
  have hempty : ¬ uintOk n size → AllocC w (.cells #[] 5) fun a w1 => R (.tuple #[.slice (some ⟨a, 0, none⟩) 0 0, .int .i64 1]) w1 := fun hb =>
    AllocC.col c j fun b c1 w1 h1 hv _ => hbad hb _ c1 w1 h1.fresh (OwS.empty hv)
  refine BS.dec (fun h1 => hempty fun h => by have := h.1; omega) (fun h1 => ?_)
  unfold ref02_Uint_K1
  refine BS.dec (fun h2 => hempty fun h => by have := h.2.1; omega) (fun h2 => ?_)
  obtain ⟨s, rfl⟩ : ∃ k : Nat, size = k := ⟨size.toNat, by omega⟩
  refine make_col Tryd.underlying22 zU8 c j (Nat.le_refl _) (by omega) (by omega) fun b c1 w1 hw1 hb hnew => ?_
  refine TSl.mk ?_
  have hb0 := size_le_of_none hnew
  refine ⟨fun vs w' => ∃ (k : Nat) (cur : Array Value), k ≤ s ∧ vs = [.int .u64 ((n / 256 ^ k : Nat) : Int), .int .i64 k] ∧ Step c [] [j] w c1 w' ∧ view c1 j w' b = some (.cells cur 5 (0, 0)) ∧ cur.size = s ∧ cur.toList.drop (s - k) = bvs (be n k),
    fun vs _ => match vs with | [_, .int _ x] => (s - x).toNat | _ => 0, ?_, ?_⟩
  · refine ⟨0, _, by omega, by simp, hw1.fresh, hb, by simp [size_madeCells], ?_⟩
    rw [List.drop_eq_nil_of_le (by simp [size_madeCells])]; rfl
  · rintro _ w2 n7 n8 ⟨k, cur, hk, e, hst, hcur, hsz, hdrop⟩
    simp only [List.cons.injEq, Value.int.injEq, true_and, and_true] at e
    obtain ⟨rfl, rfl⟩ := e
    refine BS.dec (fun hlt => ?_) (fun hge => ?_)
    · have hlt' : k < s := by omega
      rw [wrap_i64 (n := (s : Int) - 1) (by omega) (by omega), wrap_i64 (by omega) (by omega)]
      refine Req.bnd ⟨by omega, by omega⟩ (TSome.mk ?_)
      have ei : ((s : Int) - 1 - k).toNat * 1 = s - 1 - k := by omega
      rw [addr_add, ei]
      refine StoreC.col hcur (by omega) fun w3 hw3 _ hcur3 => ?_
      have hq : n / 256 ^ k < 18446744073709551616 := Nat.lt_of_le_of_lt (Nat.div_le_self _ _) hn
      have hbyte : IntKind.wrap .u8 (Int.tmod ((n / 256 ^ k : Nat) : Int) 256) = ((byteAt n k).toNat : Int) := by
        rw [byteAt_toNat, wrap_u8_mod, Int.tmod_eq_emod_of_nonneg (Int.natCast_nonneg _)]; generalize n / 256 ^ k = q; omega
      refine ⟨⟨k + 1, _, by omega, ?_, Wr.stepNew hst (by simp) hw3 (fun b' e => by simp at e; omega), hcur3, by simpa using hsz, ?_⟩, ?_⟩
      · rw [wrap_i64 (by omega) (by omega), Int.tdiv_eq_ediv_of_nonneg (Int.natCast_nonneg _), Nat.pow_succ, ← Nat.div_div_eq_div_mul]
        generalize n / 256 ^ k = q at hq
        rw [wrap_u64 (by omega) (by omega)]
        congr 2
      · rw [hbyte]
        have : s - (k + 1) = s - 1 - k := by omega
        rw [this, Array.toList_setIfInBounds, Nat.zero_add, drop_set_cons _ _ _ (by simp; omega), show s - 1 - k + 1 = s - k by omega, hdrop]
        rfl
      · rw [wrap_i64 (by omega) (by omega)]; show ((s : Int) - (k + 1)).toNat < ((s : Int) - k).toNat; omega
    · have hks : k = s := by omega
      subst hks
      refine BS.dec (fun hpos => ?_) (fun hz => ?_)
      · refine AllocC.col c1 j fun b2 c2 w3 h3 hv _ => ?_
        refine hbad (fun hok => ?_) _ c2 w3 (hst.trans h3.fresh) (OwS.empty hv)
        have h5 := hok.2.2
        rw [Int.toNat_natCast] at h5
        rw [Nat.div_eq_of_lt h5] at hpos
        simp at hpos
      · refine h ⟨by omega, by omega, ?_⟩ _ c1 w2 hst (OwS.whole hcur ?_ (by simp) ?_)
        · rw [Int.toNat_natCast]
          have h0 : n / 256 ^ k = 0 := by generalize n / 256 ^ k = q at hz; omega
          exact (Nat.div_eq_zero_iff_lt (Nat.pow_pos (by omega))).1 h0
        · simpa using hdrop
        · simp only [maxLen]; omega

/-- the document's Number -/
theorem ref_Number {w : World} {v : Value} {l : List UInt8} {R : Value → World → Prop} (hr : RdS (wv w) v 1 l.length (bvs l)) (hl : l.length ≤ 8) (h : R (.int .u64 (num l)) w) :
    CallV Tryd.prog 47 #[v] w R := by
  obtain ⟨o, cp, rfl⟩ := hr.form
  refine ref02_Number_vc ?_
  unfold ref02_Number_VC
  refine ⟨fun vs w' => ∃ m : Nat, m ≤ l.length ∧ vs = [.int .u64 (num (l.take m)), .int .i64 m] ∧ w' = w, fun vs _ => match vs with | [_, .int _ x] => (l.length - x).toNat | _ => 0, ⟨0, by omega, by simp [num], rfl⟩, ?_⟩
  rintro _ w2 n4 n23 ⟨m, hmk, e, rfl⟩
  simp only [List.cons.injEq, Value.int.injEq, true_and, and_true] at e
  obtain ⟨rfl, rfl⟩ := e
  refine BS.dec (fun hlt => ?_) (fun hge => ?_)
  · have hmk' : m < l.length := by omega
    refine Req.bnd ⟨by omega, hlt⟩ ?_
    obtain ⟨x, hx⟩ : ∃ x, l[m]? = some x := ⟨l[m]'(by omega), List.getElem?_eq_getElem _⟩
    obtain ⟨a', rfl, hcell⟩ := RdS.cell hr (i := m) (u := bv x) (by rw [bvs_get, hx]; rfl)
    refine TSome.mk ?_
    rw [Int.toNat_natCast, Nat.mul_one]
    refine LoadC.mk hcell (TInt.mk ?_)
    have hnum : num (l.take m) < 72057594037927936 := by
      have h6 := num_lt (l.take m)
      rw [List.length_take, Nat.min_eq_left hmk] at h6
      exact Nat.lt_of_lt_of_le h6 (Nat.pow_le_pow_right (by omega) (show m ≤ 7 by omega))
    have hx8 := x.toNat_lt
    refine ⟨⟨m + 1, by omega, ?_, rfl⟩, ?_⟩
    · rw [List.take_add_one, hx, Option.toList_some, num_snoc]
      generalize num (l.take m) = q at hnum
      rw [wrap_u64 (n := (q : Int) * 256) (by omega) (by omega), wrap_u64 (n := (x.toNat : Int)) (by omega) (by omega), wrap_u64 (by omega) (by omega), wrap_i64 (by omega) (by omega)]
      simp
    · rw [wrap_i64 (by omega) (by omega)]; show ((l.length : Int) - (m + 1)).toNat < ((l.length : Int) - m).toNat; omega
  · have : m = l.length := by omega
    subst this
    rwa [List.take_length]

end Go.Proofs.YtpblhjgpfmmafaaDoor

/-
  What the functions of chapter 02's document answer do, each once.
-/
import Derived.Test.YtdjgdcafmfheoaaDoorPack
import Derived.Test.YtdjgdcafmfheoaaDoorHpM
import Derived.Test.YtdjgdcafmfheoaaDoorGenRef02
set_option linter.unusedVariables false
namespace Go.Proofs.YtdjgdcafmfheoaaDoor
open Go.Vc
attribute [local irreducible] TInt TBool TStr TPtr TSl TAgg TMap TChan T2 T3 T4 BS Req TSome TCell TByte LoadC LoadA StoreC AllocC RunV RunU CallV ExtV EqA StableC StableA StableV TCells ReadV

theorem zU8 : zeroCB Tryd.prog 5 = some (#[.int .u8 0], 1, 1) := by kernel_rfl

/-- the document's Uint -/
theorem ref_Uint (c : Nat → Nat) (j : Nat) {w : World} {n : Nat} {size : Int} {R : Value → World → Prop} (hn : n < 18446744073709551616)
    (hbad : ¬ uintOk n size → ∀ v c' w', Step c [] [j] w c' w' → OwS (view c' j w') v 5 1 0 [] → R (.tuple #[v, .int .i64 1]) w')
    (h : uintOk n size → ∀ v c' w', Step c [] [j] w c' w' → OwS (view c' j w') v 5 1 size.toNat (bvs (be n size.toNat)) → R (.tuple #[v, .int .i64 0]) w') :
    CallV Tryd.prog 103 #[.int .u64 n, .int .i64 size] w R := by
  refine ref02_Uint_vc ?_
  unfold ref02_Uint_VC
  have hempty : ¬ uintOk n size → AllocC w (.cells #[] 5) fun a w1 => R (.tuple #[.slice (some ⟨a, 0, none⟩) 0 0, .int .i64 1]) w1 := fun hb =>
    AllocC.col c j fun b c1 w1 h1 hv _ => hbad hb _ c1 w1 h1.fresh (OwS.empty hv)
  refine BS.dec (fun h1 => hempty fun h => by have := h.1; omega) (fun h1 => ?_)
  unfold ref02_Uint_K1
  refine BS.dec (fun h2 => hempty fun h => by have := h.2.1; omega) (fun h2 => ?_)
  obtain ⟨s, rfl⟩ : ∃ k : Nat, size = k := ⟨size.toNat, by omega⟩
  refine make_col Tryd.underlying26 zU8 c j (Nat.le_refl _) (by omega) (by omega) fun b c1 w1 hw1 hb hnew => ?_
  refine TSl.mk ?_
  have hb0 := size_le_of_none hnew
  refine ⟨fun vs w' => ∃ (k : Nat) (cur : Array Value), k ≤ s ∧ vs = [.int .u64 ((n / 256 ^ k : Nat) : Int), .int .i64 k] ∧ Step c [] [j] w c1 w' ∧ view c1 j w' b = some (.cells cur 5 (0, 0)) ∧ cur.size = s ∧ cur.toList.drop (s - k) = bvs (be n k),
    fun vs _ => match vs with | [_, .int _ x] => (s - x).toNat | _ => 0, ?_, ?_⟩
  · refine ⟨0, _, by omega, by simp, hw1.fresh, hb, by simp [size_madeCells], ?_⟩
    rw [List.drop_eq_nil_of_le (by simp [size_madeCells])]; rfl
  · rintro _ w2 n7 n8 ⟨k, cur, hk, e, hst, hcur, hsz, hdrop⟩
    simp only [List.cons.injEq, Value.int.injEq, true_and, and_true] at e
    obtain ⟨rfl, rfl⟩ := e
    refine BS.dec (fun hlt => ?_) (fun hge => ?_)
    · have hlt' : k < s := by omega
      rw [wrap_i64 (n := (s : Int) - 1) (by omega) (by omega), wrap_i64 (by omega) (by omega)]
      refine Req.bnd ⟨by omega, by omega⟩ (TSome.mk ?_)
      have ei : ((s : Int) - 1 - k).toNat * 1 = s - 1 - k := by omega
      rw [addr_add, ei]
      refine StoreC.col hcur (by omega) fun w3 hw3 _ hcur3 => ?_
      have hq : n / 256 ^ k < 18446744073709551616 := Nat.lt_of_le_of_lt (Nat.div_le_self _ _) hn
      have hbyte : IntKind.wrap .u8 (Int.tmod ((n / 256 ^ k : Nat) : Int) 256) = ((byteAt n k).toNat : Int) := by
        rw [byteAt_toNat, wrap_u8_mod, Int.tmod_eq_emod_of_nonneg (Int.natCast_nonneg _)]; generalize n / 256 ^ k = q; omega
      refine ⟨⟨k + 1, _, by omega, ?_, Wr.stepNew hst (by simp) hw3 (fun b' e => by simp at e; omega), hcur3, by simpa using hsz, ?_⟩, ?_⟩
      · rw [wrap_i64 (by omega) (by omega), Int.tdiv_eq_ediv_of_nonneg (Int.natCast_nonneg _), Nat.pow_succ, ← Nat.div_div_eq_div_mul]
        generalize n / 256 ^ k = q at hq
        rw [wrap_u64 (by omega) (by omega)]
        congr 2
      · rw [hbyte]
        have : s - (k + 1) = s - 1 - k := by omega
        rw [this, Array.toList_setIfInBounds, Nat.zero_add, drop_set_cons _ _ _ (by simp; omega), show s - 1 - k + 1 = s - k by omega, hdrop]
        rfl
      · rw [wrap_i64 (by omega) (by omega)]; show ((s : Int) - (k + 1)).toNat < ((s : Int) - k).toNat; omega
    · have hks : k = s := by omega
      subst hks
      refine BS.dec (fun hpos => ?_) (fun hz => ?_)
      · refine AllocC.col c1 j fun b2 c2 w3 h3 hv _ => ?_
        refine hbad (fun hok => ?_) _ c2 w3 (hst.trans h3.fresh) (OwS.empty hv)
        have h5 := hok.2.2
        rw [Int.toNat_natCast] at h5
        rw [Nat.div_eq_of_lt h5] at hpos
        simp at hpos
      · refine h ⟨by omega, by omega, ?_⟩ _ c1 w2 hst (OwS.whole hcur ?_ (by simp) ?_)
        · rw [Int.toNat_natCast]
          have h0 : n / 256 ^ k = 0 := by generalize n / 256 ^ k = q at hz; omega
          exact (Nat.div_eq_zero_iff_lt (Nat.pow_pos (by omega))).1 h0
        · simpa using hdrop
        · simp only [maxLen]; omega

/-- the document's Number -/
theorem ref_Number {w : World} {v : Value} {l : List UInt8} {R : Value → World → Prop} (hr : RdS (wv w) v 1 l.length (bvs l)) (hl : l.length ≤ 8) (h : R (.int .u64 (num l)) w) :
    CallV Tryd.prog 101 #[v] w R := by
  obtain ⟨o, cp, rfl⟩ := hr.form
  refine ref02_Number_vc ?_
  unfold ref02_Number_VC
  refine ⟨fun vs w' => ∃ m : Nat, m ≤ l.length ∧ vs = [.int .u64 (num (l.take m)), .int .i64 m] ∧ w' = w, fun vs _ => match vs with | [_, .int _ x] => (l.length - x).toNat | _ => 0, ⟨0, by omega, by simp [num], rfl⟩, ?_⟩
  rintro _ w2 n4 n23 ⟨m, hmk, e, rfl⟩
  simp only [List.cons.injEq, Value.int.injEq, true_and, and_true] at e
  obtain ⟨rfl, rfl⟩ := e
  refine BS.dec (fun hlt => ?_) (fun hge => ?_)
  · have hmk' : m < l.length := by omega
    refine Req.bnd ⟨by omega, hlt⟩ ?_
    obtain ⟨x, hx⟩ : ∃ x, l[m]? = some x := ⟨l[m]'(by omega), List.getElem?_eq_getElem _⟩
    obtain ⟨a', rfl, hcell⟩ := RdS.cell hr (i := m) (u := bv x) (by rw [bvs_get, hx]; rfl)
    refine TSome.mk ?_
    rw [Int.toNat_natCast, Nat.mul_one]
    refine LoadC.mk hcell (TInt.mk ?_)
    have hnum : num (l.take m) < 72057594037927936 := by
      have h6 := num_lt (l.take m)
      rw [List.length_take, Nat.min_eq_left hmk] at h6
      exact Nat.lt_of_lt_of_le h6 (Nat.pow_le_pow_right (by omega) (show m ≤ 7 by omega))
    have hx8 := x.toNat_lt
    refine ⟨⟨m + 1, by omega, ?_, rfl⟩, ?_⟩
    · rw [List.take_add_one, hx, Option.toList_some, num_snoc]
      generalize num (l.take m) = q at hnum
      rw [wrap_u64 (n := (q : Int) * 256) (by omega) (by omega), wrap_u64 (n := (x.toNat : Int)) (by omega) (by omega), wrap_u64 (by omega) (by omega), wrap_i64 (by omega) (by omega)]
      simp
    · rw [wrap_i64 (by omega) (by omega)]; show ((l.length : Int) - (m + 1)).toNat < ((l.length : Int) - m).toNat; omega
  · have : m = l.length := by omega
    subst this
    rwa [List.take_length]

/-- the document's Text -/
theorem ref_Text (c : Nat → Nat) (j : Nat) {w : World} {v : Value} {l : List UInt8} {R : Value → World → Prop} (q : Nat) (hq : q ≠ j) (hr : RdS (view c q w) v 1 l.length (bvs l)) (hl : l.length ≤ 1099511627776)
    (hbad : ¬ l.length < 65536 → ∀ v c' w', Step c [j] [j] w c' w' → OwS (view c' j w') v 5 1 0 [] → R (.tuple #[v, .int .i64 23]) w')
    (h : l.length < 65536 → ∀ v c' w', Step c [j] [j] w c' w' → OwS (view c' j w') v 5 1 (2 + l.length) (bvs (be l.length 2 ++ l)) → R (.tuple #[v, .int .i64 0]) w') :
    CallV Tryd.prog 106 #[v] w R := by
  obtain ⟨o, cp, rfl⟩ := hr.form
  refine ref02_Text_vc ?_
  unfold ref02_Text_VC
  rw [wrap_u64 (by omega) (by omega)]
  refine ref_Uint c j (by omega) (fun hb v1 c1 w1 h1 ho1 => ?_) (fun hg v1 c1 w1 h1 ho1 => ?_)
  · obtain ⟨o1, cp1, rfl⟩ := ho1.form
    refine T2.mk (TSl.mk (TInt.mk (BS.yes rfl ?_)))
    refine AllocC.col c1 j fun b c2 w2 h2 hv _ => ?_
    exact hbad (fun hlt => hb ⟨by omega, by omega, by simpa using hlt⟩) _ c2 w2 ((h1.weak (by simp) (by simp)).trans h2.step) (OwS.empty hv)
  · obtain ⟨o1, cp1, rfl⟩ := ho1.form
    refine T2.mk (TSl.mk (TInt.mk (BS.no rfl ?_)))
    have hlt : l.length < 65536 := by simpa using hg.2.2
    refine append_col slU8 ho1 ((hr.mono (h1.sub (by simp))).mono (view_sub c1 q w1)) (bvs_one l) (by omega) (by omega) fun v2 c2 w2 h2 ho2 _ => ?_
    obtain ⟨o2, cp2, rfl⟩ := ho2.form
    refine TSl.mk (h hlt _ c2 w2 ((h1.weak (by simp) (by simp)).trans h2.step) ?_)
    rw [bvs_append]; exact ho2
/-- the document's eye -/
def RefEye (h : View) (a : Addr) (vB : Value) (k : Nat) : Prop := ∃ b, a = ⟨b, 0, none⟩ ∧ h b = some (.cells #[vB, .int .i64 k] 124 (0, 0))
theorem RefEye.mono {h h' : View} {a : Addr} {vB : Value} {k : Nat} (hp : RefEye h a vB k) (hs : Sub h h') : RefEye h' a vB k := by
  obtain ⟨b, e, hb⟩ := hp; exact ⟨b, e, hs _ _ hb⟩

theorem ref_Eye_Raw {c : Nat → Nat} {i q : Nat} (j : Nat) {w : World} {a : Addr} {vB : Value} {k : Nat} {D : List UInt8} {n : Int} {R : Value → World → Prop}
    (hij : i ≠ j) (hq : q ≠ i) (hp : RefEye (view c i w) a vB k) (hB : RdS (view c q w) vB 1 D.length (bvs D)) (hk : k ≤ D.length) (hD : D.length ≤ 1099511627776)
    (hneg : n < 0 → ∀ v c' w', Step c [] [j] w c' w' → OwS (view c' j w') v 5 1 0 [] → R (.tuple #[v, .int .i64 1]) w')
    (hshort : 0 ≤ n → (D.length : Int) - k < n → ∀ v c' w', Step c [] [j] w c' w' → OwS (view c' j w') v 5 1 0 [] → R (.tuple #[v, .int .i64 20]) w')
    (h : 0 ≤ n → n ≤ (D.length : Int) - k → ∀ v c' w', Step c [i] [j] w c' w' → RefEye (view c' i w') a vB (k + n.toNat) → OwS (view c' j w') v 5 1 n.toNat (bvs ((D.drop k).take n.toNat)) → R (.tuple #[v, .int .i64 0]) w') :
    CallV Tryd.prog 71 #[.pointer (some a), .int .i64 n] w R := by
  refine ref02_Eye_Raw_vc ?_
  unfold ref02_Eye_Raw_VC
  obtain ⟨b, rfl, hb⟩ := hp
  obtain ⟨oB, cB, rfl⟩ := hB.form
  refine BS.dec (fun h1 => ?_) (fun h1 => ?_)
  · refine AllocC.col c j fun b1 c1 w1 h2 hv _ => ?_
    exact hneg h1 _ c1 w1 h2.fresh (OwS.empty hv)
  refine DrewC.mk ?_
  rw [addr_add, addr_add, Nat.zero_add]
  have hl0 : ∀ {C : Value → Prop}, C (.slice oB D.length cB) → LoadC w.drew ⟨b, 0 + 0, none⟩ C := fun hC => LoadC.at (v := .slice oB D.length cB) (view_sub c i w.drew) hb rfl hC
  have hl1 : ∀ {C : Value → Prop}, C (.int .i64 k) → LoadC w.drew ⟨b, 1, none⟩ C := fun hC => LoadC.at (v := .int .i64 k) (view_sub c i w.drew) hb rfl hC
  refine hl0 (TSl.mk ?_)
  refine hl1 (TInt.mk ?_)
  rw [wrap_i64 (by omega) (by omega)]
  refine BS.dec (fun h2 => ?_) (fun h2 => ?_)
  · refine AllocC.col (w := w.drew) c j fun b1 c1 w1 h2 hv _ => ?_
    exact hshort (by omega) (by omega) _ c1 w1 h2.fresh.undrew (OwS.empty hv)
  refine hl1 (TInt.mk ?_)
  obtain ⟨m, rfl⟩ : ∃ k : Nat, n = k := ⟨n.toNat, by omega⟩
  rw [Int.toNat_natCast] at h
  rw [wrap_i64 (n := (k : Int) + m) (by omega) (by omega)]
  refine StoreC.col (w := w.drew) hb (by simp) fun w1 hw1 hs1 hb1 => ?_
  refine DrewC.mk ?_
  have hb1' : view c i w1.drew b = some (.cells #[.slice oB D.length cB, .int .i64 ((k + m : Nat) : Int)] 124 (0, 0)) := hb1
  have g0 : ∀ {C : Value → Prop}, C (.slice oB D.length cB) → LoadC w1.drew ⟨b, 0 + 0, none⟩ C := fun hC => LoadC.at (v := .slice oB D.length cB) (view_sub c i w1.drew) hb1' rfl hC
  have g1 : ∀ {C : Value → Prop}, C (.int .i64 ((k + m : Nat) : Int)) → LoadC w1.drew ⟨b, 1, none⟩ C := fun hC => LoadC.at (v := .int .i64 ((k + m : Nat) : Int)) (view_sub c i w1.drew) hb1' rfl hC
  refine g0 (TSl.mk ?_)
  refine g1 (TInt.mk ?_)
  refine g1 (TInt.mk ?_)
  have hB1 : RdS (view c q w1.drew) (.slice oB D.length cB) 1 D.length (bvs D) := hB.mono (Step.sub (w1 := w1) hs1 (by simpa using hq))
  have hcB := hB.len.2.1
  refine Req.bndle ⟨by omega, by omega⟩ ?_
  rw [wrap_i64 (by omega) (by omega)]
  refine Req.bndle ⟨by omega, by omega⟩ ?_
  have e1 : (((k + m : Nat) : Int) - m).toNat = k := by omega
  have e2 : (((k + m : Nat) : Int)).toNat = k + m := by omega
  rw [e1, e2]
  refine AllocC.col (w := w1.drew) c j fun b2 c2 w2 hw2 hv hnew => ?_
  have hst : Step c [i] [j] w c2 w2 := Step.undrew ((hs1.drew.weak (by simp) (by simp)).trans (hw2.fresh.weak (by simp) (by simp)))
  have hb2 := hw2.step.sub (i := i) (by simpa using hij) _ _ hb1'
  refine ⟨StableC.at (view_sub c2 i w2) hb2 rfl, StableC.at (view_sub c2 i w2) hb2 rfl, StableC.at (view_sub c2 i w2) hb2 rfl, ?_⟩
  have hB2 : RdS (wv w2) (.slice oB D.length cB) 1 D.length (bvs D) := by
    refine RdS.mono ?_ (view_sub c2 q w2)
    exact hB1.mono (hw2.fresh.sub (by simp))
  have hpart : RdS (wv w2) (.slice (slBase oB cB k 1) (k + m - k) (cB - k)) 1 m (bvs ((D.drop k).take m)) := by
    have := hB2.mid (k := k) (m := m) (by omega)
    rw [bvs_take, bvs_drop]; simpa using this
  refine append_col slU8 (OwS.empty hv) hpart (bvs_one _) (by omega) (by omega) fun v3 c3 w3 hw3 ho3 _ => ?_
  obtain ⟨o3, cp3, rfl⟩ := ho3.form
  refine TSl.mk ?_
  have hst3 : Step c2 [] [j] w2 c3 w3 → Step c [i] [j] w c3 w3 := fun h => hst.trans (h.weak (by simp) (by simp))
  have hst3' : Step c [i] [j] w c3 w3 := by
    have h5 : Step c [] [j] w1.drew c3 w3 := Wr.stepNew hw2.fresh (by simp) hw3 (fun b' e => by simp [Value.ownBlock] at e; exact e ▸ size_le_of_none hnew)
    exact (hs1.undrew.weak (W' := [i]) (N' := [j]) (by simp) (by simp)).trans (h5.undrew.weak (by simp) (by simp))
  rw [Nat.zero_add, List.nil_append] at ho3
  have := h (by omega) (by omega) _ c3 w3 hst3' ⟨b, rfl, hw3.step.sub (i := i) (by simpa using hij) _ _ hb2⟩ ho3
  simpa using this
theorem ref_Eye_End {c : Nat → Nat} {i q : Nat} {w : World} {a : Addr} {vB : Value} {k : Nat} {D : List UInt8} {R : Value → World → Prop}
    (hp : RefEye (view c i w) a vB k) (hB : RdS (view c q w) vB 1 D.length (bvs D)) (hk : k ≤ D.length) (h : R (.int .i64 (if D.drop k = [] then 0 else 21)) w.drew) :
    CallV Tryd.prog 72 #[.pointer (some a)] w R := by
  refine ref02_Eye_End_vc ?_
  unfold ref02_Eye_End_VC
  obtain ⟨b, rfl, hb⟩ := hp
  obtain ⟨oB, cB, rfl⟩ := hB.form
  refine DrewC.mk ?_
  rw [addr_add, addr_add, Nat.zero_add]
  refine LoadC.at (v := .int .i64 k) (view_sub c i w.drew) hb rfl ?_
  refine TInt.mk ?_
  refine LoadC.at (v := .slice oB D.length cB) (view_sub c i w.drew) hb rfl ?_
  refine TSl.mk ?_
  refine BS.dec (fun h1 => ?_) (fun h1 => ?_)
  · rwa [if_neg (fun e => by have := congrArg List.length e; simp at this; omega)] at h
  · rwa [if_pos (List.drop_eq_nil_of_le (by omega))] at h

theorem ref_Eye_Uint {c : Nat → Nat} {i q : Nat} (j : Nat) {w : World} {a : Addr} {vB : Value} {k : Nat} {D : List UInt8} {n : Int} {R : Value → World → Prop}
    (hij : i ≠ j) (hq : q ≠ i) (hp : RefEye (view c i w) a vB k) (hB : RdS (view c q w) vB 1 D.length (bvs D)) (hk : k ≤ D.length) (hD : D.length ≤ 1099511627776)
    (hbad : ¬ (1 ≤ n ∧ n ≤ 8) → R (.tuple #[.int .u64 0, .int .i64 1]) w)
    (hshort : 1 ≤ n → n ≤ 8 → (D.length : Int) - k < n → ∀ c' w', Step c [] [j] w c' w' → R (.tuple #[.int .u64 0, .int .i64 20]) w')
    (h : 1 ≤ n → n ≤ 8 → n ≤ (D.length : Int) - k → ∀ c' w', Step c [i] [j] w c' w' → RefEye (view c' i w') a vB (k + n.toNat) → R (.tuple #[.int .u64 (num ((D.drop k).take n.toNat)), .int .i64 0]) w') :
    CallV Tryd.prog 70 #[.pointer (some a), .int .i64 n] w R := by
  refine ref02_Eye_Uint_vc ?_
  unfold ref02_Eye_Uint_VC
  refine BS.dec (fun h1 => hbad (by omega)) (fun h1 => ?_)
  unfold ref02_Eye_Uint_K1
  refine BS.dec (fun h1 => hbad (by omega)) (fun h2 => ?_)
  refine ref_Eye_Raw j hij hq hp hB hk hD (fun h => by omega) (fun _ hs v c1 w1 h1 ho => ?_) (fun _ hs v c1 w1 h1 hp1 ho => ?_)
  · obtain ⟨o, cp, rfl⟩ := ho.form
    refine T2.mk (TSl.mk (TInt.mk ?_))
    refine ref_Number (l := []) (ho.mono (view_sub c1 j w1)).rd (by simp) (TInt.mk ?_)
    exact hshort (by omega) (by omega) hs c1 w1 h1
  · obtain ⟨o, cp, rfl⟩ := ho.form
    refine T2.mk (TSl.mk (TInt.mk ?_))
    have hlen : ((D.drop k).take n.toNat).length = n.toNat := by rw [List.length_take, List.length_drop]; omega
    refine ref_Number (l := (D.drop k).take n.toNat) (by rw [hlen]; exact (ho.mono (view_sub c1 j w1)).rd) (by omega) (TInt.mk ?_)
    exact h (by omega) (by omega) hs c1 w1 h1 hp1

theorem ref_Eye_Text {c : Nat → Nat} {i q : Nat} (j : Nat) {w : World} {a : Addr} {vB : Value} {k : Nat} {D : List UInt8} {R : Value → World → Prop}
    (hij : i ≠ j) (hq : q ≠ i) (hp : RefEye (view c i w) a vB k) (hB : RdS (view c q w) vB 1 D.length (bvs D)) (hk : k ≤ D.length) (hD : D.length ≤ 1099511627776)
    (hshort : ¬ (2 ≤ D.length - k ∧ num ((D.drop k).take 2) ≤ D.length - k - 2) → ∀ v c' w', Step c [] [j] w c' w' → OwS (view c' j w') v 5 1 0 [] → R (.tuple #[v, .int .i64 20]) w')
    (h : 2 ≤ D.length - k → num ((D.drop k).take 2) ≤ D.length - k - 2 → ∀ v c' w', Step c [i] [j] w c' w' → RefEye (view c' i w') a vB (k + 2 + num ((D.drop k).take 2)) → OwS (view c' j w') v 5 1 (num ((D.drop k).take 2)) (bvs ((D.drop (k + 2)).take (num ((D.drop k).take 2)))) → R (.tuple #[v, .int .i64 0]) w') :
    CallV Tryd.prog 67 #[.pointer (some a)] w R := by
  refine ref02_Eye_Text_vc ?_
  unfold ref02_Eye_Text_VC
  obtain ⟨b, rfl, hb⟩ := hp
  obtain ⟨oB, cB, rfl⟩ := hB.form
  refine DrewC.mk ?_
  rw [addr_add, addr_add, Nat.zero_add]
  have hl0 : ∀ {w' : World} {C : Value → Prop}, wv w' = wv w → C (.slice oB D.length cB) → LoadC w' ⟨b, 0 + 0, none⟩ C := fun e hC => LoadC.at (v := .slice oB D.length cB) (h := view c i w) (e ▸ view_sub c i w) hb rfl hC
  have hl1 : ∀ {w' : World} {C : Value → Prop}, wv w' = wv w → C (.int .i64 k) → LoadC w' ⟨b, 1, none⟩ C := fun e hC => LoadC.at (v := .int .i64 k) (h := view c i w) (e ▸ view_sub c i w) hb rfl hC
  refine hl0 rfl (TSl.mk ?_)
  refine hl1 rfl (TInt.mk ?_)
  rw [wrap_i64 (n := (D.length : Int) - k) (by omega) (by omega)]
  refine BS.dec (fun h2 => ?_) (fun h2 => ?_)
  · refine AllocC.col (w := w.drew) c j fun b1 c1 w1 h2 hv _ => ?_
    exact hshort (fun h => by omega) _ c1 w1 h2.fresh.undrew (OwS.empty hv)
  refine DrewC.mk ?_
  refine hl0 rfl (TSl.mk ?_)
  refine hl1 rfl (TInt.mk ?_)
  refine hl1 rfl (TInt.mk ?_)
  rw [wrap_i64 (n := (k : Int) + 2) (by omega) (by omega)]
  have hcB := hB.len.2.1
  refine Req.bndle ⟨by omega, by omega⟩ ?_
  have e2 : ((k : Int) + 2).toNat = k + 2 := by omega
  rw [e2]
  refine Req.bndle ⟨by omega, by omega⟩ ?_
  rw [Int.toNat_natCast]
  have hlen2 : ((D.drop k).take 2).length = k + 2 - k := by rw [List.length_take, List.length_drop]; omega
  have hpart : RdS (view c q w) (.slice (slBase oB cB k 1) (k + 2 - k) (cB - k)) 1 ((D.drop k).take 2).length (bvs ((D.drop k).take 2)) := by
    have := hB.mid (k := k) (m := 2) (by omega)
    rw [hlen2, show k + 2 - k = 2 by omega, bvs_take, bvs_drop]
    simpa using this
  refine ref_Number (w := w.drew.drew) (RdS.mono hpart (view_sub c q w)) (by omega) ?_
  refine TInt.mk (DrewC.mk ?_)
  refine hl0 rfl (TSl.mk ?_)
  refine hl1 rfl (TInt.mk ?_)
  have hnum : num ((D.drop k).take 2) < 65536 := by
    have h6 := num_lt ((D.drop k).take 2)
    rw [hlen2, show k + 2 - k = 2 by omega] at h6
    exact h6
  rw [wrap_i64 (n := (num ((D.drop k).take 2) : Int)) (by omega) (by omega), wrap_i64 (n := (D.length : Int) - k) (by omega) (by omega), wrap_i64 (by omega) (by omega)]
  refine BS.dec (fun h3 => ?_) (fun h3 => ?_)
  · refine AllocC.col (w := w.drew.drew.drew) c j fun b1 c1 w1 h2 hv _ => ?_
    exact hshort (fun h => by omega) _ c1 w1 h2.fresh.undrew.undrew.undrew (OwS.empty hv)
  refine hl1 rfl (TInt.mk ?_)
  refine StoreC.col (w := w.drew.drew.drew) hb (by simp) fun w1 hw1 hs1 hb1 => ?_
  rw [wrap_i64 (by omega) (by omega)] at hb1
  have hp1 : RefEye (view c i w1) ⟨b, 0, none⟩ (.slice oB D.length cB) (k + 2) := ⟨b, rfl, hb1⟩
  have hB1 : RdS (view c q w1) (.slice oB D.length cB) 1 D.length (bvs D) := hB.mono (Step.sub (w1 := w1) hs1 (by simpa using hq))
  refine ref_Eye_Raw j hij hq hp1 hB1 (by omega) hD (fun h => by omega) (fun _ hs => by omega) (fun _ hs v c2 w2 h2 hp2 ho2 => ?_)
  obtain ⟨o2, cp2, rfl⟩ := ho2.form
  refine T2.mk (TSl.mk (TInt.mk ?_))
  rw [Int.toNat_natCast] at *
  have hst : Step c [i] [j] w c2 w2 := (hs1.undrew.undrew.undrew.weak (by simp) (by simp)).trans h2
  exact h (by omega) (by omega) _ c2 w2 hst hp2 ho2
end Go.Proofs.YtdjgdcafmfheoaaDoor

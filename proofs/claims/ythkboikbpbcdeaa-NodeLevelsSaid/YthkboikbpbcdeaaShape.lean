/-
  What the functions of package shape, and of chapter 06's document answer, do, each once.
-/
import Derived.Test.YthkboikbpbcdeaaShapeD
import Derived.Test.YthkboikbpbcdeaaGenShape
set_option linter.unusedVariables false
set_option linter.unusedSimpArgs false
namespace Go.Proofs.Ythkboikbpbcdeaa
open Go.Vc
attribute [local irreducible] TInt TBool TStr TPtr TSl TAgg TMap TChan T2 T3 T4 BS Req TSome TCell TByte LoadC LoadA StoreC AllocC RunV RunU CallV ExtV EqA StableC StableA StableV TCells ReadV

theorem fnv32 {h : Nat} (hh : h < 4294967296) (b : UInt8) : IntKind.wrap .u32 (bitsV .xor .u32 (h : Int) (IntKind.wrap .u32 ((b.toNat : Nat) : Int)) * (16777619 : Int)) = ((fnvStep h b : Nat) : Int) := by
  have hb := b.toNat_lt
  rw [wrap_u32_nat b.toNat, Nat.mod_eq_of_lt (by omega), xor_u32 hh (by omega)]
  have : ((h ^^^ b.toNat : Nat) : Int) * 16777619 = (((h ^^^ b.toNat) * 16777619 : Nat) : Int) := by generalize h ^^^ b.toNat = q; omega
  rw [this, wrap_u32_nat]; rfl
theorem fnv64 {h : Nat} (hh : h < 4294967296) (b : UInt8) : Int.tmod (IntKind.wrap .u64 (bitsV .xor .u64 (h : Int) (IntKind.wrap .u64 ((b.toNat : Nat) : Int)) * (16777619 : Int))) (4294967296 : Int) = ((fnvStep h b : Nat) : Int) := by
  have hb := b.toNat_lt
  have hx : h ^^^ b.toNat < 2 ^ 32 := Nat.xor_lt_two_pow hh (by omega)
  rw [wrap_u64 (n := ((b.toNat : Nat) : Int)) (by omega) (by omega), xor_u64 hh (by omega), wrap_u64 (by omega) (by omega), Int.tmod_eq_emod_of_nonneg (by omega)]
  have : ((h ^^^ b.toNat : Nat) : Int) * 16777619 = (((h ^^^ b.toNat) * 16777619 : Nat) : Int) := by generalize h ^^^ b.toNat = q; omega
  rw [this]
  unfold fnvStep
  generalize (h ^^^ b.toNat) * 16777619 = q
  omega

theorem Mark_c {w : World} {v : Value} {key : List UInt8} {level : Int} {R : Value → World → Prop} (hr : RdS (wv w) v 1 key.length (bvs key)) (hl : key.length ≤ 1099511627776) (h : R (.bool (gmark key level)) w) :
    CallV Try.prog 12 #[v, .int .i64 level] w R := by
  obtain ⟨o, p, rfl⟩ := hr.form
  refine shape_Mark_vc ?_
  unfold shape_Mark_VC
  have fls : ¬ (0 ≤ level ∧ level < 16) → R (.bool false) w := fun hn => by
    unfold gmark at h; rw [decide_eq_false hn] at h; exact h
  refine BS.dec (fun k => fls (by omega)) (fun k1 => ?_)
  unfold shape_Mark_K1
  refine BS.dec (fun k => fls (by omega)) (fun k2 => ?_)
  refine LoopNI.up key.length (fun i x w' => w' = w ∧ x = (fnv (key.take i) : Nat)) ⟨rfl, by simp [fnv]⟩ ?_
  rintro i x _ B hi ⟨rfl, rfl⟩ back
  refine BS.dec (fun hlt => ?_) (fun hge => ?_)
  · obtain ⟨b, hb⟩ := get_of_lt (l := key) (i := i) (by omega)
    refine Req.bnd ⟨by omega, hlt⟩ (hr.elt (Sub.refl _) (u := bv b) (by rw [bvs_get, hb]; rfl) (TInt.mk ?_))
    rw [fnv32 (fnv_lt _), wrap_i64 (by omega) (by omega)]
    refine back _ _ (by omega) ⟨rfl, ?_⟩
    rw [List.take_add_one, hb, Option.toList_some, fnv_snoc]
  · have : i = key.length := by omega
    subst this
    rw [List.take_length]
    obtain ⟨m, rfl⟩ : ∃ m : Nat, level = m := ⟨level.toNat, by omega⟩
    rw [wrap_i64 (by omega) (by omega)]
    refine Req.mk (by omega) ?_
    have e2 : (2 : Int) * (m : Int) = ((2 * m : Nat) : Int) := by omega
    rw [e2, shr_u32 (by omega), and3_u32 (Nat.lt_of_le_of_lt (Nat.div_le_self _ _) (fnv_lt key))]
    have : (((fnv key / 2 ^ (2 * m) % 4 : Nat) : Int) == (0 : Int)) = gmark key m := by
      unfold gmark
      rw [decide_eq_true (show (0 : Int) ≤ m ∧ (m : Int) < 16 by omega), Bool.true_and, Int.toNat_natCast, Nat.pow_mul]
      generalize fnv key / (2 ^ 2) ^ m = q
      show decide _ = decide _
      rw [decide_eq_decide]; omega
    rw [this]; exact h
theorem ref_Mark_c {w : World} {v : Value} {key : List UInt8} {level : Int} {R : Value → World → Prop} (hr : RdS (wv w) v 1 key.length (bvs key)) (hl : key.length ≤ 1099511627776) (h : R (.bool (gmark key level)) w) :
    CallV Try.prog 13 #[v, .int .i64 level] w R := by
  obtain ⟨o, p, rfl⟩ := hr.form
  refine ref06_Mark_vc ?_
  unfold ref06_Mark_VC
  have fls : ¬ (0 ≤ level ∧ level < 16) → R (.bool false) w := fun hn => by
    unfold gmark at h; rw [decide_eq_false hn] at h; exact h
  refine BS.dec (fun k => fls (by omega)) (fun k1 => ?_)
  unfold ref06_Mark_K1
  refine BS.dec (fun k => fls (by omega)) (fun k2 => ?_)
  refine LoopNI.up key.length (fun i x w' => w' = w ∧ x = (fnv (key.take i) : Nat)) ⟨rfl, by simp [fnv]⟩ ?_
  rintro i x w1 B hi ⟨rfl, rfl⟩ back
  refine BS.dec (fun hlt => ?_) (fun hge => ?_)
  · obtain ⟨b, hb⟩ := get_of_lt (l := key) (i := i) (by omega)
    refine Req.bnd ⟨by omega, hlt⟩ (hr.elt (Sub.refl _) (u := bv b) (by rw [bvs_get, hb]; rfl) (TInt.mk ?_))
    rw [fnv64 (fnv_lt _), wrap_i64 (by omega) (by omega)]
    refine back _ _ (by omega) ⟨rfl, ?_⟩
    rw [List.take_add_one, hb, Option.toList_some, fnv_snoc]
  · have : i = key.length := by omega
    subst this
    rw [List.take_length]
    obtain ⟨m, rfl⟩ : ∃ m : Nat, level = m := ⟨level.toNat, by omega⟩
    have hf := fnv_lt key
    refine LoopNI.up m (fun i x w' => w' = w1 ∧ x = (fnv key / 4 ^ i : Nat)) ⟨rfl, by simp⟩ ?_
    rintro i x _ B2 hi2 ⟨rfl, rfl⟩ back2
    have hq : fnv key / 4 ^ i < 4294967296 := Nat.lt_of_le_of_lt (Nat.div_le_self _ _) hf
    refine BS.dec (fun hlt => ?_) (fun hge => ?_)
    · rw [Int.tdiv_eq_ediv_of_nonneg (Int.natCast_nonneg _), wrap_u64 (by generalize fnv key / 4 ^ i = q; omega) (by generalize fnv key / 4 ^ i = q at hq; omega), wrap_i64 (by omega) (by omega)]
      refine back2 _ _ (by omega) ⟨rfl, ?_⟩
      rw [Nat.pow_succ, ← Nat.div_div_eq_div_mul]; rfl
    · have : i = m := by omega
      subst this
      rw [Int.tmod_eq_emod_of_nonneg (Int.natCast_nonneg _)]
      have : ((((fnv key / 4 ^ i : Nat) : Int) % 4) == (0 : Int)) = gmark key i := by
        unfold gmark
        rw [decide_eq_true (show (0 : Int) ≤ i ∧ (i : Int) < 16 by omega), Bool.true_and, Int.toNat_natCast]
        generalize fnv key / 4 ^ i = q
        show decide _ = decide _
        rw [decide_eq_decide]; omega
      rw [this]; exact h

theorem SameInts_c (c : Nat → Nat) {w : World} {v u : Value} {l m : List Nat} {R : Value → World → Prop} (h1 : RdS (wv w) v 1 l.length (ivs l)) (h2 : RdS (wv w) u 1 m.length (ivs m)) (hl : l.length ≤ 1099511627776)
    (h : ∀ w', Step c [] [] w c w' → R (.bool (decide (l = m))) w') : CallV Try.prog 15 #[v, u] w R := by
  obtain ⟨o1, cp1, rfl⟩ := h1.form
  obtain ⟨o2, cp2, rfl⟩ := h2.form
  refine ref06_SameInts_vc ?_
  unfold ref06_SameInts_VC
  refine BS.ne (fun hne => ?_) (fun heq => ?_)
  · have := h w (.refl ..)
    rwa [decide_eq_false (by rintro rfl; exact hne rfl)] at this
  have hlen : l.length = m.length := by omega
  refine LoopI.up l.length (fun i w' => Step c [] [] w c w' ∧ l.take i = m.take i) ⟨.refl .., by simp⟩ ?_
  rintro i w1 B hi ⟨st, heq⟩ back
  refine BS.dec (fun hlt => ?_) (fun hge => ?_)
  · refine DrewC.col c fun w2 st2 => ?_
    have st := st.trans st2
    obtain ⟨s, hs⟩ := get_of_lt (l := l) (i := i) (by omega)
    obtain ⟨t, ht⟩ := get_of_lt (l := m) (i := i) (by omega)
    refine Req.bnd ⟨by omega, hlt⟩ (h1.elt st.wv (u := iv s) (by rw [ivs_get, hs]; rfl) (TInt.mk ?_))
    refine Req.bnd ⟨by omega, by omega⟩ (h2.elt st.wv (u := iv t) (by rw [ivs_get, ht]; rfl) (TInt.mk ?_))
    refine BS.ne (fun hne => ?_) (fun he => ?_)
    · have := h w2 st
      rwa [decide_eq_false (by rintro rfl; rw [hs] at ht; exact hne (congrArg Int.ofNat (show s = t by simpa using ht)))] at this
    · rw [wrap_i64 (by omega) (by omega)]
      refine back _ (by omega) ⟨st, ?_⟩
      have : s = t := by omega
      rw [List.take_add_one, List.take_add_one, heq, hs, ht, this]
  · have : i = l.length := by omega
    subst this
    rw [List.take_length, hlen, List.take_length] at heq
    have := h w1 st
    rwa [decide_eq_true heq] at this

theorem slInt : SlT Try.prog 26 3 1 8 := .of (by kernel_rfl)

theorem Inner_c (c : Nat → Nat) (j : Nat) {w : World} {v : Value} {ks : List (List UInt8)} {level : Int} {R : Value → World → Prop} (hr : BlsV (wv w) v ks) (hl : ks.length ≤ 1073741824) (hk : ∀ k ∈ ks, k.length ≤ 1099511627776)
    (h : ∀ v c' w', Step c [] [j] w c' w' → OwS (view c' j w') v 3 1 (inn level 0 ks).length (ivs (inn level 0 ks)) → R v w') : CallV Try.prog 14 #[v, .int .i64 level] w R := by
  obtain ⟨o0, p0, rfl⟩ := LsV.form hr
  have D : BlsV (view (fun _ => 0) 0 w) (.slice o0 ks.length p0) ks := by rw [view0]; exact hr
  have S := Fr.start w
  have hlim := (inn_facts level 0 ks (by omega)).2.2
  refine shape_Inner_vc ?_
  unfold shape_Inner_VC
  refine LoopSII.up ks.length (fun i o l p x w' => ∃ (c' : Nat → Nat) (out : List Nat) (n : Nat), x = n ∧ n < 4 ∧ Fr w c' w' ∧ BlsV (view c' 0 w') (.slice o0 ks.length p0) ks ∧ OwS (view c' 1 w') (.slice o l p) 3 1 out.length (ivs out) ∧ out ++ inn level n (ks.drop i) = inn level 0 ks)
    ⟨_, [], 0, rfl, by omega, S, D, OwS.nil .., rfl⟩ ?_
  rintro i o l p _ w1 B hi ⟨c1, out, n, rfl, hn, S, D, ho, hinv⟩ back
  have hout := congrArg List.length hinv
  rw [List.length_append] at hout
  refine BS.dec (fun hlt => ?_) (fun hge => ?_)
  · obtain ⟨k, hki⟩ := get_of_lt (l := ks) (i := i) (by omega)
    have hkl := hk k (List.mem_of_getElem? hki)
    obtain ⟨es, ⟨vk, rfl, hv⟩, E⟩ := LsV.at (by omega) D hki
    obtain ⟨ok, pk, rfl⟩ := hv.form
    refine Req.bnd ⟨by omega, hlt⟩ (E.ld0 (view_sub _ _ _) rfl (TSl.mk ?_))
    have hd : ks.drop i = k :: ks.drop (i + 1) := by rw [List.drop_eq_getElem?_toList_append, hki]; rfl
    rw [hd, inn] at hinv
    have e1 : IntKind.wrap .i64 ((n : Int) + 1) = ((n + 1 : Nat) : Int) := by rw [wrap_i64 (by omega) (by omega)]; omega
    rw [e1]
    have kk : ∀ b : Bool, (b = true ↔ (n + 1 = 4 ∨ (n + 1 ≥ 2 ∧ gmark k level = true))) → shape_Inner_K1 level o l p ((n + 1 : Nat) : Int) o0 ks.length p0 ((ks.length : Nat) : Int) (i : Int) b B w1 R := by
      intro b hb
      unfold shape_Inner_K1
      refine BS.mk (fun e => ?_) (fun e => ?_)
      · subst e
        rw [if_pos (hb.1 rfl)] at hinv
        refine AllocC.col c1 2 fun x c2 w2 st2 b2 _ => ?_
        replace S := S.go st2.step (by decide) (by decide); replace D := D.mono (st2.step.sub (by decide)); replace ho := ho.mono (st2.step.sub (by decide))
        refine app_ints slInt ho (m := [n + 1]) ((RdS.block (xs := ivs [n + 1]) b2 rfl (Nat.le_refl _)).mono (view_sub _ _ _)) (by simp; omega) fun o3 p3 c3 w3 st3 ho => ?_
        replace S := S.go st3.step (by decide) (by decide); replace D := D.mono (st3.step.sub (by decide))
        refine TSl.mk ?_
        rw [wrap_i64 (by omega) (by omega)]
        exact back _ _ _ _ _ (by omega) ⟨c3, _, 0, rfl, by omega, S, D, ho, by rw [← hinv]; simp⟩
      · subst e
        rw [if_neg (fun hh => by simpa using hb.2 hh)] at hinv
        rw [wrap_i64 (by omega) (by omega)]
        have : n + 1 < 4 := by
          rcases Nat.lt_or_ge (n + 1) 4 with h | h
          · exact h
          · exact absurd (hb.2 (.inl (by omega))) (by simp)
        exact back _ _ _ _ _ (by omega) ⟨c1, _, n + 1, rfl, this, S, D, ho, hinv⟩
    refine BS.eq (fun e => kk _ (by simp; omega)) (fun e => ?_)
    refine BS.dec (fun e2 => ?_) (fun e2 => BS.of_no (kk false (by simp; omega)))
    refine Mark_c (hv.mono (view_sub _ _ _)) hkl (TBool.mk (kk _ ?_))
    constructor
    · intro hm; exact .inr ⟨by omega, hm⟩
    · rintro (hm | hm)
      · omega
      · exact hm.2
  · have : i = ks.length := by omega
    subst this
    rw [List.drop_length, inn] at hinv
    refine BS.dec (fun e => ?_) (fun e => ?_)
    · rw [if_pos (by omega)] at hinv
      refine AllocC.col c1 2 fun x c2 w2 st2 b2 _ => ?_
      replace S := S.go st2.step (by decide) (by decide); replace D := D.mono (st2.step.sub (by decide)); replace ho := ho.mono (st2.step.sub (by decide))
      refine app_ints slInt ho (m := [n]) ((RdS.block (xs := ivs [n]) b2 rfl (Nat.le_refl _)).mono (view_sub _ _ _)) (by simp; omega) fun o3 p3 c3 w3 st3 ho => ?_
      replace S := S.go st3.step (by decide) (by decide); replace D := D.mono (st3.step.sub (by decide))
      refine TSl.mk ?_
      rw [hinv] at ho ⊢
      exact h _ _ _ (S.leave c j) (ho.mono (S.out c j (by omega)))
    · rw [if_neg (by omega), List.append_nil] at hinv
      subst hinv
      exact h _ _ _ (S.leave c j) (ho.mono (S.out c j (by omega)))
theorem ref_Inner_c (c : Nat → Nat) (j : Nat) {w : World} {v : Value} {ks : List (List UInt8)} {level : Int} {R : Value → World → Prop} (hr : BlsV (wv w) v ks) (hl : ks.length ≤ 1073741824) (hk : ∀ k ∈ ks, k.length ≤ 1099511627776)
    (h : ∀ v c' w', Step c [] [j] w c' w' → OwS (view c' j w') v 3 1 (inn level 0 ks).length (ivs (inn level 0 ks)) → R v w') : CallV Try.prog 16 #[v, .int .i64 level] w R := by
  obtain ⟨o0, p0, rfl⟩ := LsV.form hr
  have D : BlsV (view (fun _ => 0) 0 w) (.slice o0 ks.length p0) ks := by rw [view0]; exact hr
  have S := Fr.start w
  have hlim := (inn_facts level 0 ks (by omega)).2.2
  refine ref06_Inner_vc ?_
  unfold ref06_Inner_VC
  refine AllocC.col (fun _ => 0) 1 fun x c1 w1 st1 b1 _ => ?_
  replace S := S.go st1.step (by decide) (by decide); replace D := D.mono (st1.step.sub (by decide))
  refine ⟨fun vs w' => ∃ (at' : Nat) (o : Option Addr) (l p : Nat) (c' : Nat → Nat) (out : List Nat), at' ≤ ks.length ∧ vs = [.slice o l p, .int .i64 at'] ∧ Fr w c' w' ∧ BlsV (view c' 0 w') (.slice o0 ks.length p0) ks ∧ OwS (view c' 1 w') (.slice o l p) 3 1 out.length (ivs out) ∧ out ++ inn level 0 (ks.drop at') = inn level 0 ks,
    fun vs _ => ((ks.length : Int) - nextI vs).toNat, ⟨0, _, _, _, c1, [], by omega, rfl, S, D, OwS.empty b1, rfl⟩, ?_⟩
  rintro _ w2 o l p n6 ⟨at', o', l', p', c2, out, hat, e, S, D, ho, hinv⟩
  simp only [List.cons.injEq, Value.slice.injEq, Value.int.injEq, true_and, and_true] at e
  obtain ⟨⟨rfl, rfl, rfl⟩, rfl⟩ := e
  have hout := congrArg List.length hinv
  rw [List.length_append] at hout
  refine BS.dec (fun hlt => ?_) (fun hge => ?_)
  · refine ⟨fun vs w' => ∃ n : Nat, 1 ≤ n ∧ n ≤ 4 ∧ at' + n ≤ ks.length ∧ vs = [.int .i64 n] ∧ w2 = w' ∧ inn level 0 (ks.drop at') = inn level (n - 1) (ks.drop (at' + n - 1)), fun vs _ => (4 - headI vs).toNat,
      ⟨1, by omega, by omega, by omega, rfl, rfl, rfl⟩, ?_⟩
    rintro _ w3 n7 ⟨n, h1, h4, hn, e, rfl, hst⟩
    obtain rfl : n7 = (n : Int) := by simpa using e
    obtain ⟨k, hki⟩ := get_of_lt (l := ks) (i := at' + n - 1) (by omega)
    have hkl := hk k (List.mem_of_getElem? hki)
    have hd : ks.drop (at' + n - 1) = k :: ks.drop (at' + n) := by
      rw [List.drop_eq_getElem?_toList_append, hki, show at' + n - 1 + 1 = at' + n by omega]; rfl
    rw [hd, inn, show n - 1 + 1 = n by omega] at hst
    have stop : (n = 4 ∨ (n ≥ 2 ∧ gmark k level = true) ∨ at' + n = ks.length) → ref06_Inner_K2 o0 ks.length p0 level o l p (at' : Int) (n : Int) (Back (fun vs w' => ∃ (at' : Nat) (o : Option Addr) (l p : Nat) (c' : Nat → Nat) (out : List Nat), at' ≤ ks.length ∧ vs = [.slice o l p, .int .i64 at'] ∧ Fr w c' w' ∧ BlsV (view c' 0 w') (.slice o0 ks.length p0) ks ∧ OwS (view c' 1 w') (.slice o l p) 3 1 out.length (ivs out) ∧ out ++ inn level 0 (ks.drop at') = inn level 0 ks)
    (fun vs _ => ((ks.length : Int) - nextI vs).toNat) [.slice o l p, .int .i64 (at' : Int)] w2) w2 R := by
      intro hs
      have hstop : inn level 0 (ks.drop at') = n :: inn level 0 (ks.drop (at' + n)) := by
        by_cases hc : n = 4 ∨ (n ≥ 2 ∧ gmark k level = true)
        · rw [if_pos hc] at hst; exact hst
        · have hz : at' + n = ks.length := by
            rcases hs with hs | hs | hs
            · exact absurd (.inl hs) hc
            · exact absurd (.inr hs) hc
            · exact hs
          rw [if_neg hc, hz, List.drop_length, inn, if_pos (by omega)] at hst
          rw [hz, List.drop_length, hst]; simp [inn]
      unfold ref06_Inner_K2
      refine AllocC.col c2 2 fun x c3 w3 st3 b3 _ => ?_
      replace S := S.go st3.step (by decide) (by decide); replace D := D.mono (st3.step.sub (by decide)); replace ho := ho.mono (st3.step.sub (by decide))
      refine app_ints slInt ho (m := [n]) ((RdS.block (xs := ivs [n]) b3 rfl (Nat.le_refl _)).mono (view_sub _ _ _)) (by simp; omega) fun o4 p4 c4 w4 st4 ho => ?_
      replace S := S.go st4.step (by decide) (by decide); replace D := D.mono (st4.step.sub (by decide))
      refine TSl.mk ⟨⟨at' + n, _, _, _, c4, _, hn, by rw [wrap_i64 (by omega) (by omega)]; simp, S, D, ho, ?_⟩, ?_⟩
      · rw [← hinv, hstop]; simp
      · rw [wrap_i64 (by omega) (by omega)]
        show ((ks.length : Int) - ((at' : Int) + n)).toNat < ((ks.length : Int) - at').toNat
        omega
    have go : n < 4 → ¬ (n ≥ 2 ∧ gmark k level = true) → at' + n < ks.length → Back (fun vs w' => ∃ n : Nat, 1 ≤ n ∧ n ≤ 4 ∧ at' + n ≤ ks.length ∧ vs = [.int .i64 n] ∧ w2 = w' ∧ inn level 0 (ks.drop at') = inn level (n - 1) (ks.drop (at' + n - 1))) (fun vs _ => (4 - headI vs).toNat) [.int .i64 (n : Int)] w2 [.int .i64 (IntKind.wrap .i64 ((n : Int) + 1))] w2 := by
      intro g1 g2 g3
      rw [wrap_i64 (by omega) (by omega)]
      refine ⟨⟨n + 1, by omega, by omega, by omega, by simp, rfl, ?_⟩, ?_⟩
      · rw [if_neg (fun h => h.elim (by omega) g2)] at hst; exact hst
      · show ((4 : Int) - ((n : Int) + 1)).toNat < ((4 : Int) - n).toNat; omega
    have ew : IntKind.wrap .i64 ((at' : Int) + (n : Int)) = ((at' + n : Nat) : Int) := by rw [wrap_i64 (by omega) (by omega)]; omega
    refine BS.dec (fun g1 => ?_) (fun g1 => stop (.inl (by omega)))
    rw [ew]
    refine BS.dec (fun g2 => ?_) (fun g2 => stop (.inr (.inr (by omega))))
    refine BS.dec (fun g3 => go (by omega) (fun h => absurd h.1 (by omega)) (by omega)) (fun g3 => ?_)
    have ew2 : IntKind.wrap .i64 (((at' + n : Nat) : Int) - 1) = ((at' + n - 1 : Nat) : Int) := by rw [wrap_i64 (by omega) (by omega)]; omega
    rw [ew2]
    obtain ⟨es, ⟨vk, rfl, hv⟩, E⟩ := LsV.at (by omega) D hki
    obtain ⟨ok, pk, rfl⟩ := hv.form
    refine Req.bnd ⟨by omega, by omega⟩ (E.ld0 (view_sub _ _ _) rfl (TSl.mk ?_))
    refine ref_Mark_c (hv.mono (view_sub _ _ _)) hkl (TBool.mk ?_)
    unfold ref06_Inner_K1
    refine BS.nb (fun hm => ?_) (fun hm => ?_)
    · exact go (by omega) (by rw [hm]; simp) (by omega)
    · exact stop (.inr (.inl ⟨by omega, hm⟩))
  · have : at' = ks.length := by omega
    subst this
    rw [List.drop_length, inn, if_neg (by omega), List.append_nil] at hinv
    subst hinv
    exact h _ _ _ (S.leave c j) (ho.mono (S.out c j (by omega)))
end Go.Proofs.Ythkboikbpbcdeaa

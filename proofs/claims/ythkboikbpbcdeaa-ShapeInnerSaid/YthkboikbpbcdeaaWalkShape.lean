/-
  Chapter 06's statements: the walks.
-/
import Derived.Test.YthkboikbpbcdeaaShape2
import Derived.Test.YthkboikbpbcdeaaArgs2
set_option linter.unusedVariables false
set_option linter.unusedSimpArgs false
namespace Go.Proofs.Ythkboikbpbcdeaa.walkShape
open Go.Vc Go.ChangeShapes Go.WideShapes Go.ChangeAt Go.RowKit
attribute [local irreducible] TInt TBool TStr TPtr TSl TAgg TMap TChan T2 T3 T4 BS Req TSome TCell TByte LoadC LoadA StoreC AllocC RunV RunU CallV EqA StableC StableA StableV TCells ReadV

theorem fin {w : World} {c' w'} (S : Fr w c' w') : Below w.heap.size w w' := Step.below S fun _ => by simp
theorem speaks06 (c : Nat → Nat) (j : Nat) {w : World} {R : Value → World → Prop} (h : ∀ c' w', Step c [] [j] w c' w' → R (.bool true) w') : CallV Try.prog 11 #[] w R := by
  have S := Fr.start w
  refine law06_speaks_vc ?_
  unfold law06_speaks_VC
  refine Mark_c (key := []) (RdS.none_bytes ..) (by simp) (TBool.mk (BS.yes (by decide) ?_))
  refine Leaves_c (fun _ => 0) 1 (ps := []) (LsV.nil ..) (by simp) (by simp) fun v1 c1 w1 st1 r1 => ?_
  replace S := S.go st1 (by decide) (by decide)
  obtain ⟨o, p, rfl⟩ := r1.form
  refine TSl.mk ?_
  refine AllocC.col c1 2 fun x c2 w2 st2 b2 _ => ?_
  replace S := S.go st2.step (by decide) (by decide); replace r1 := r1.mono (st2.step.sub (by decide))
  refine SameInts_c c2 (r1.rd.mono (view_sub _ _ _)) (m := [0]) (RdS.block (xs := ivs [0]) (view_sub _ _ _ _ _ b2) rfl (Nat.le_refl _)) (by decide) fun w3 st3 => TBool.mk (BS.yes (by decide) ?_)
  replace S := S.go st3 (by decide) (by decide)
  refine Inner_c c2 1 (ks := []) (LsV.nil ..) (by simp) (by simp) fun v4 c4 w4 st4 r4 => ?_
  replace S := S.go st4 (by decide) (by decide)
  obtain ⟨o4, p4, rfl⟩ := r4.form
  refine TSl.mk ?_
  exact h _ _ (S.leave c j)

theorem marks (v : Value) (key : List UInt8) (level : Int) (w : World) (hr : RdS (wv w) v 1 key.length (bvs key)) : CallV Try.prog 3 #[v, .int .i64 level] w fun r w' => r = .bool true ∧ Below w.heap.size w w' := by
  obtain ⟨o0, p0, rfl⟩ := hr.form
  have D : RdS (view (fun _ => 0) 0 w) (.slice o0 key.length p0) 1 key.length (bvs key) := by rw [view0]; exact hr
  have S := Fr.start w
  refine law06_ShapeMarks_vc ?_
  unfold law06_ShapeMarks_VC
  refine speaks06 (fun _ => 0) 1 fun c1 w1 st1 => TBool.mk (BS.no rfl ?_)
  replace S := S.go st1 (by decide) (by decide); replace D := D.mono (st1.sub (by decide))
  refine BS.dec (fun _ => ⟨rfl, fin S⟩) (fun hl => ?_)
  refine AllocC.col c1 2 fun x c2 w2 st2 b2 _ => ?_
  replace S := S.go st2.step (by decide) (by decide); replace D := D.mono (st2.step.sub (by decide))
  refine app_bytes slU8 (OwS.some_bytes b2) (D.mono (view_sub _ _ _)) (by simp; omega) fun o3 p3 c3 w3 st3 r3 => ?_
  replace S := S.go st3.step (by decide) (by decide); replace D := D.mono (st3.step.sub (by decide))
  rw [List.nil_append] at r3 ⊢
  refine TSl.mk ?_
  refine Mark_c (r3.rd.mono (view_sub _ _ _)) (by omega) (TBool.mk ?_)
  refine ref_Mark_c (D.mono (view_sub _ _ _)) (by omega) (TBool.mk ?_)
  refine BS.yes (by simp) ?_
  refine string_rule strU8 (r3.rd.mono (view_sub _ _ _)) (TStr.mk ?_)
  refine string_rule strU8 (D.mono (view_sub _ _ _)) (TStr.mk ?_)
  rw [strEq_of, decide_eq_true rfl]
  exact ⟨rfl, fin S⟩

theorem inner (v : Value) (ks : List (List UInt8)) (level : Int) (w : World) (hr : BlsV (wv w) v ks) : CallV Try.prog 4 #[v, .int .i64 level] w fun r w' => r = .bool true ∧ Below w.heap.size w w' := by
  obtain ⟨o0, p0, rfl⟩ := LsV.form hr
  have D : BlsV (view (fun _ => 0) 0 w) (.slice o0 ks.length p0) ks := by rw [view0]; exact hr
  have S := Fr.start w
  refine law06_ShapeInner_vc ?_
  unfold law06_ShapeInner_VC
  refine speaks06 (fun _ => 0) 1 fun c1 w1 st1 => TBool.mk (BS.no rfl ?_)
  replace S := S.go st1 (by decide) (by decide); replace D := D.mono (st1.sub (by decide))
  refine BS.dec (fun _ => ⟨rfl, fin S⟩) (fun hl => ?_)
  refine LoopI.up ks.length (fun i w' => w1 = w' ∧ ∀ k ∈ ks.take i, k.length ≤ 100) ⟨rfl, by simp⟩ ?_
  rintro i w2 B hi ⟨rfl, hk⟩ back
  refine BS.dec (fun hlt => ?_) (fun hge => ?_)
  · obtain ⟨k, hki⟩ := get_of_lt (l := ks) (i := i) (by omega)
    obtain ⟨es, ⟨vk, rfl, hv⟩, E⟩ := LsV.at (by omega) D hki
    obtain ⟨ok, pk, rfl⟩ := hv.form
    refine Req.bnd ⟨by omega, hlt⟩ (E.ld0 (view_sub _ _ _) rfl (TSl.mk ?_))
    refine BS.dec (fun _ => ⟨rfl, fin S⟩) (fun hs => ?_)
    rw [wrap_i64 (by omega) (by omega)]
    refine back _ (by omega) ⟨rfl, fun x hx => ?_⟩
    rw [List.take_add_one, hki, Option.toList_some, List.mem_append, List.mem_singleton] at hx
    rcases hx with hx | rfl
    · exact hk x hx
    · omega
  · have : i = ks.length := by omega
    subst this
    rw [List.take_length] at hk
    have hk' : ∀ k ∈ ks, k.length ≤ 1099511627776 := fun k hm => by have := hk k hm; omega
    have hlim := (inn_facts level 0 ks (by omega)).2.2
    refine Inner_c c1 2 (D.mono (view_sub _ _ _)) (by omega) hk' fun v3 c3 w3 st3 r3 => ?_
    replace S := S.go st3 (by decide) (by decide); replace D := D.mono (st3.sub (by decide))
    obtain ⟨o3, p3, rfl⟩ := r3.form
    refine TSl.mk ?_
    have k2 : law06_ShapeInner_K2 o0 ks.length p0 level o3 (inn level 0 ks).length p3 w3 fun r w' => r = .bool true ∧ Below w.heap.size w w' := by
      unfold law06_ShapeInner_K2
      refine ref_Inner_c c3 3 (D.mono (view_sub _ _ _)) (by omega) hk' fun v4 c4 w4 st4 r4 => ?_
      replace S := S.go st4 (by decide) (by decide); replace r3 := r3.mono (st4.sub (by decide))
      obtain ⟨o4, p4, rfl⟩ := r4.form
      refine TSl.mk ?_
      refine SameInts_c c4 (r3.rd.mono (view_sub _ _ _)) (r4.rd.mono (view_sub _ _ _)) (by omega) fun w5 st5 => TBool.mk ?_
      replace S := S.go st5 (by decide) (by decide)
      rw [decide_eq_true rfl]
      exact ⟨rfl, fin S⟩
    refine BS.dec (fun g => ?_) (fun g => k2)
    unfold law06_ShapeInner_K1
    exact BS.dec (fun g2 => absurd g2 (by omega)) (fun _ => k2)

theorem leaves_facts (ps : List PairR) (i n : Nat) (h : (leaves ps)[i]? = some n) : ((leaves ps).take i).sum + n ≤ ps.length ∧ (ps ≠ [] → 1 ≤ n) ∧ (ps = [] → n = 0) ∧ (n ≤ 1 ∨ osum ((ps.drop ((leaves ps).take i).sum).take n) ≤ 200) := by
  unfold leaves at h ⊢
  split
  · rename_i e
    rw [if_pos e] at h
    have hi := lt_of_get h
    have : i = 0 := by simpa using hi
    subst this
    simp at h
    subst h
    exact ⟨by simp, fun h => absurd e h, fun _ => rfl, by simp⟩
  · rename_i e
    rw [if_neg e] at h
    have hi := lt_of_get h
    have h3 := lv_drop ps i (by omega)
    have h4 : (lv 0 0 ps).drop i = n :: (lv 0 0 ps).drop (i + 1) := by rw [List.drop_eq_getElem?_toList_append, h]; rfl
    rw [h3.2] at h4
    obtain ⟨a1, a2, a3, a4, a5⟩ := lv_cons h4 (by omega) (by omega)
    rw [List.length_drop] at a3
    refine ⟨by have := h3.1; omega, fun _ => a2, fun h => absurd h e, ?_⟩
    rw [Nat.sub_zero, Nat.zero_add] at a5
    exact a5
theorem leaves_sum (ps : List PairR) : (leaves ps).sum = ps.length := by
  unfold leaves
  split
  · rename_i e; subst e; rfl
  · exact lv_sum ps
theorem leaves_take (ps : List PairR) (i : Nat) : ((leaves ps).take i).sum ≤ ps.length := by
  have h1 := leaves_sum ps
  have h2 : (leaves ps).sum = ((leaves ps).take i).sum + ((leaves ps).drop i).sum := by rw [← List.sum_append, List.take_append_drop]
  omega
theorem leaves_drop (ps : List PairR) (m : Nat) (h : ((leaves ps).take m).sum ≠ ps.length) (hm : m ≤ (leaves ps).length) : leaves (ps.drop ((leaves ps).take m).sum) = (leaves ps).drop m := by
  have hle := leaves_take ps m
  have hps : ps ≠ [] := by
    rintro rfl
    apply h
    have := leaves_take [] m
    simp at this ⊢
    omega
  have e : leaves ps = lv 0 0 ps := if_neg hps
  rw [e] at h hm hle ⊢
  have h3 := lv_drop ps m hm
  have hne : ps.drop ((lv 0 0 ps).take m).sum ≠ [] := by
    intro e
    have := congrArg List.length e
    rw [List.length_drop, List.length_nil] at this
    omega
  rw [h3.2, leaves, if_neg hne]
theorem leaves_length (ps : List PairR) : (leaves ps).length ≤ ps.length + 1 := by
  have h3 : ∀ l : List Nat, (∀ n ∈ l, 1 ≤ n) → l.length ≤ l.sum := by
    intro l
    induction l with
    | nil => simp
    | cons x l ih => intro hx; have := ih (fun n hn => hx n (by simp [hn])); have := hx x (by simp); simp; omega
  by_cases hps : ps = []
  · subst hps; simp [leaves]
  · have := h3 (leaves ps) (fun n hn => by obtain ⟨i, hi⟩ := List.getElem?_of_mem hn; exact (leaves_facts ps i n hi).2.1 hps)
    rw [leaves_sum] at this; omega

theorem locals (v : Value) (ps : List PairR) (k : Int) (w : World) (hr : PairsV (wv w) v ps) : CallV Try.prog 5 #[v, .int .i64 k] w fun r w' => r = .bool true ∧ Below w.heap.size w w' := by
  obtain ⟨o0, p0, rfl⟩ := LsV.form hr
  have D : PairsV (view (fun _ => 0) 0 w) (.slice o0 ps.length p0) ps := by rw [view0]; exact hr
  have S := Fr.start w
  refine law06_ShapeLocal_vc ?_
  unfold law06_ShapeLocal_VC
  refine speaks06 (fun _ => 0) 1 fun c1 w1 st1 => TBool.mk (BS.no rfl ?_)
  replace S := S.go st1 (by decide) (by decide); replace D := D.mono (st1.sub (by decide))
  refine Great_pairs c1 (D.mono (view_sub _ _ _)) (fun w2 st2 => TBool.mk (BS.yes rfl ⟨rfl, fin (S.go st2 (by decide) (by decide))⟩)) (fun hl hk w2 st2 => TBool.mk (BS.no rfl ?_))
  replace S := S.go st2 (by decide) (by decide); replace D := D.mono (st2.sub (by decide))
  refine Leaves_c c1 2 (D.mono (view_sub _ _ _)) hl hk fun v3 c3 w3 st3 r3 => ?_
  replace S := S.go st3 (by decide) (by decide); replace D := D.mono (st3.sub (by decide))
  obtain ⟨o3, p3, rfl⟩ := r3.form
  refine TSl.mk ?_
  have hL := leaves_length ps
  have hcap := r3.rd.len.2.1
  obtain ⟨m0, hm0, _⟩ := and_mask k 1023 (by omega)
  rw [show ((1023 : Nat) : Int) = 1023 from rfl] at hm0
  rw [hm0, wrap_i64 (n := (((leaves ps).length : Nat) : Int) + 1) (by omega) (by omega)]
  have hm : Int.tmod (m0 : Int) (((leaves ps).length : Nat) + 1 : Int) = ((m0 % ((leaves ps).length + 1) : Nat) : Int) := by
    rw [Int.tmod_eq_emod_of_nonneg (by omega), show (((leaves ps).length : Nat) : Int) + 1 = (((leaves ps).length + 1 : Nat) : Int) by omega]; exact (Int.natCast_emod _ _).symm
  rw [hm]
  have hlt : m0 % ((leaves ps).length + 1) < (leaves ps).length + 1 := Nat.mod_lt _ (by omega)
  generalize m0 % ((leaves ps).length + 1) = m at hlt
  refine Req.ne (by omega) (Req.bndle ⟨by omega, by omega⟩ ?_)
  rw [Int.toNat_natCast]
  have hsumB := fun i => leaves_take ps i
  refine LoopNI.up m (fun i x w' => w3 = w' ∧ x = ((((leaves ps).take i).sum : Nat) : Int)) ⟨rfl, by simp⟩ ?_
  rintro i _ w4 B hi ⟨rfl, rfl⟩ back
  have hsi := hsumB i
  refine BS.dec (fun hlt2 => ?_) (fun hge => ?_)
  · obtain ⟨x, hx⟩ := get_of_lt (l := leaves ps) (i := i) (by omega)
    have hx2 : (ivs ((leaves ps).take m))[i]? = some (iv x) := by rw [ivs_get, List.getElem?_take, if_pos (by omega), hx]; rfl
    have htk := r3.rd.take (k := m) (by omega)
    rw [Nat.mul_one, ← ivs_take] at htk
    refine Req.bnd ⟨by omega, by omega⟩ (htk.elt (view_sub _ _ _) hx2 (TInt.mk ?_))
    have hxs := (leaves_facts ps i x hx).1
    rw [wrap_i64 (n := (((leaves ps).take i).sum : Int) + (x : Nat)) (by omega) (by omega), wrap_i64 (by omega) (by omega)]
    refine back _ _ (by omega) ⟨rfl, ?_⟩
    rw [List.take_add_one, hx, Option.toList_some, List.sum_append, List.sum_singleton]; omega
  · have : i = m := by omega
    subst this
    refine BS.eq (fun _ => ⟨rfl, fin S⟩) (fun hne => ?_)
    refine DrewC.col c3 fun w5 st5 => ?_
    replace S := S.go st5 (by decide) (by decide); replace D := D.mono (st5.sub (by decide)); replace r3 := r3.mono (st5.sub (by decide))
    refine Req.bndle ⟨by omega, by omega⟩ (Req.bndle ⟨by omega, by omega⟩ ?_)
    rw [Int.toNat_natCast]
    have hdr := LsV.drop D hsi
    refine Leaves_c c3 4 (ps := ps.drop ((leaves ps).take i).sum) (PairsV.mono hdr (view_sub _ _ _)) (by rw [List.length_drop]; omega) (fun p hp => hk p (List.mem_of_mem_drop hp)) fun v6 c6 w6 st6 r6 => ?_
    replace S := S.go st6 (by decide) (by decide); replace r3 := r3.mono (st6.sub (by decide))
    obtain ⟨o6, p6, rfl⟩ := r6.form
    refine TSl.mk ?_
    have hd3 := r3.rd.drop (k := i) (by omega)
    rw [Nat.mul_one, ← ivs_drop] at hd3
    have el : (leaves ps).length - i = ((leaves ps).drop i).length := by rw [List.length_drop]
    rw [el] at hd3 ⊢
    have heq := leaves_drop ps i (by omega) (by omega)
    refine SameInts_c c6 (r6.rd.mono (view_sub _ _ _)) (hd3.mono (view_sub _ _ _)) (by rw [heq, List.length_drop]; omega) fun w7 st7 => TBool.mk ?_
    replace S := S.go st7 (by decide) (by decide)
    rw [decide_eq_true heq]
    exact ⟨rfl, fin S⟩

theorem sums (v : Value) (ps : List PairR) (level : Int) (w : World) (hr : PairsV (wv w) v ps) : CallV Try.prog 6 #[v, .int .i64 level] w fun r w' => r = .bool true ∧ Below w.heap.size w w' := by
  obtain ⟨o0, p0, rfl⟩ := LsV.form hr
  have D : PairsV (view (fun _ => 0) 0 w) (.slice o0 ps.length p0) ps := by rw [view0]; exact hr
  have S := Fr.start w
  refine law06_ShapeSums_vc ?_
  unfold law06_ShapeSums_VC
  refine speaks06 (fun _ => 0) 1 fun c1 w1 st1 => TBool.mk (BS.no rfl ?_)
  replace S := S.go st1 (by decide) (by decide); replace D := D.mono (st1.sub (by decide))
  refine Great_pairs c1 (D.mono (view_sub _ _ _)) (fun w2 st2 => TBool.mk (BS.yes rfl ⟨rfl, fin (S.go st2 (by decide) (by decide))⟩)) (fun hl hk w2 st2 => TBool.mk (BS.no rfl ?_))
  replace S := S.go st2 (by decide) (by decide); replace D := D.mono (st2.sub (by decide))
  refine AllocC.col c1 2 fun a c3 w3 st3 b3 _ => ?_
  replace S := S.go st3.step (by decide) (by decide); replace D := D.mono (st3.step.sub (by decide))
  refine Leaves_c c3 3 (D.mono (view_sub _ _ _)) hl hk fun v4 c4 w4 st4 r4 => ?_
  replace S := S.go st4 (by decide) (by decide); replace D := D.mono (st4.sub (by decide)); replace b3 := st4.sub (by decide) _ _ b3
  obtain ⟨o4, p4, rfl⟩ := r4.form
  refine TSl.mk ?_
  have hL := leaves_length ps
  have hsumB := fun i => leaves_take ps i
  have hcap := (LsV.len D).2
  refine LoopISI.up (leaves ps).length (fun i x o l p w' => ∃ (c' : Nat → Nat) (fs : List (List UInt8)), Fr w c' w' ∧ PairsV (view c' 0 w') (.slice o0 ps.length p0) ps ∧ OwS (view c' 3 w') (.slice o4 (leaves ps).length p4) 3 1 (leaves ps).length (ivs (leaves ps)) ∧
    x = ((((leaves ps).take i).sum : Nat) : Int) ∧ LsO BytesP 22 1 (view c' 2 w') (view c' 0 w') (.slice o l p) fs ∧ fs.length ≤ i ∧ ∀ k ∈ fs, k.length ≤ 8000) ⟨c4, [], S, D, r4, by simp, LsO.empty b3, by simp, by simp⟩ ?_
  rintro i _ o l p w5 B hi ⟨c5, fs, S, D, r4, rfl, ho, hfl, hfk⟩ back
  have hsi := hsumB i
  refine BS.dec (fun hlt => ?_) (fun hge => ?_)
  · obtain ⟨n, hn⟩ := get_of_lt (l := leaves ps) (i := i) (by omega)
    obtain ⟨f1, f2, f3, f4⟩ := leaves_facts ps i n hn
    have htk : ((leaves ps).take (i + 1)).sum = ((leaves ps).take i).sum + n := by rw [List.take_add_one, hn, Option.toList_some, List.sum_append, List.sum_singleton]
    refine Req.bnd ⟨by omega, by omega⟩ (r4.rd.elt (view_sub _ _ _) (u := iv n) (by rw [ivs_get, hn]; rfl) (TInt.mk ?_))
    refine BS.dec (fun g => absurd g (by omega)) (fun _ => ?_)
    generalize hat : ((leaves ps).take i).sum = at' at *
    unfold law06_ShapeSums_K1
    refine BS.dec (fun g => by rw [wrap_i64 (by omega) (by omega)] at g; omega) (fun _ => ?_)
    have ew : IntKind.wrap .i64 ((at' : Int) + (n : Int)) = ((at' + n : Nat) : Int) := by rw [wrap_i64 (by omega) (by omega)]; omega
    rw [ew, Int.toNat_natCast, Int.toNat_natCast]
    refine Req.bndle ⟨by omega, by omega⟩ (Req.bndle ⟨by omega, by omega⟩ ?_)
    refine LoopNI.up n (fun q x w' => ∃ c', Fr w c' w' ∧ PairsV (view c' 0 w') (.slice o0 ps.length p0) ps ∧ OwS (view c' 3 w') (.slice o4 (leaves ps).length p4) 3 1 (leaves ps).length (ivs (leaves ps)) ∧ LsO BytesP 22 1 (view c' 2 w') (view c' 0 w') (.slice o l p) fs ∧
      x = ((osum ((ps.drop at').take q) : Nat) : Int) ∧ osum ((ps.drop at').take q) ≤ q * 16004) ⟨c5, S, D, r4, ho, by simp [osum], by simp [osum]⟩ ?_
    rintro q _ w6 B2 hq ⟨c6, S, D, r4, ho, rfl, hsz⟩ back2
    refine BS.dec (fun hlt2 => ?_) (fun hge2 => ?_)
    · have hdr := LsV.drop D hsi
      obtain ⟨y, hy⟩ := get_of_lt (l := ps.drop at') (i := q) (by rw [List.length_drop]; omega)
      have hky := hk y (List.mem_of_mem_drop (List.mem_of_getElem? hy))
      obtain ⟨es, ⟨vk, vv, rfl, r1, r2⟩, E⟩ := LsV.at (by omega) hdr hy
      obtain ⟨o1, p1, rfl⟩ := r1.form
      obtain ⟨o2, p2, rfl⟩ := r2.form
      refine Req.bnd ⟨by omega, by omega⟩ (E.all (view_sub _ _ _) ?_)
      refine AllocC.col c6 5 fun z c7 w7 st7 b7 _ => ?_
      replace S := S.go st7.step (by decide) (by decide); replace D := D.mono (st7.step.sub (by decide)); replace r4 := r4.mono (st7.step.sub (by decide))
      replace ho := ho.mono' (fun _ _ hp => hp.mono (st7.step.sub (by decide))) (st7.step.sub (by decide))
      refine RunU.var b7 (by kernel_rfl) rfl (by first | (simp [Value.oneCell']; done) | (simp [Value.oneCell', OpR.cells, sv]; done) | (simp [Value.oneCell', AnsR.cells, sv]; done) | rfl) fun w8 st8 b7 => ?_
      replace S := S.go st8.step (by decide) (by decide); replace D := D.mono (st8.step.sub (by decide)); replace r4 := r4.mono (st8.step.sub (by decide))
      replace ho := ho.mono' (fun _ _ hp => hp.mono (st8.step.sub (by decide))) (st8.step.sub (by decide))
      (repeat (first | refine TInt.mk ?_ | refine TBool.mk ?_ | refine TStr.mk ?_ | refine TSl.mk ?_ | refine TPtr.mk ?_ | refine TAgg.mk ?_ | refine T2.mk ?_ | refine T3.mk ?_ | refine TSome.mk ?_ | refine LoadC.ad (view_sub _ _ _) _ (by assumption) rfl ?_))
      have eo : IntKind.wrap .i64 (IntKind.wrap .i64 ((4 : Int) + ((y.1.length : Nat) : Int)) + ((y.2.length : Nat) : Int)) = ((own y : Nat) : Int) := by
        rw [wrap_i64 (n := (4 : Int) + ((y.1.length : Nat) : Int)) (by omega) (by omega), wrap_i64 (by omega) (by omega)]; unfold own; omega
      have hown : own y ≤ 16004 := by unfold own; omega
      rw [eo, wrap_i64 (n := (osum ((ps.drop at').take q) : Int) + (own y : Nat)) (by omega) (by omega), wrap_i64 (by omega) (by omega)]
      have e : osum ((ps.drop at').take (q + 1)) = osum ((ps.drop at').take q) + own y := by unfold osum; rw [List.take_add_one, hy]; simp
      refine back2 _ _ (by omega) ⟨c7, S, D, r4, ho, by rw [e]; omega, by rw [e]; omega⟩
    · have : q = n := by omega
      subst this
      have k3 : law06_ShapeSums_K3 o0 ps.length p0 level (at' : Int) o l p (q : Int) o4 (leaves ps).length p4 (((leaves ps).length : Nat) : Int) (i : Int) B w6 fun r w' => r = .bool true ∧ Below w.heap.size w w' := by
        unfold law06_ShapeSums_K3
        rw [ew, wrap_i64 (n := (i : Int) + 1) (by omega) (by omega)]
        refine BS.dec (fun g => ?_) (fun g => ?_)
        · obtain ⟨y, hy⟩ := get_of_lt (l := ps) (i := at') (by omega)
          have hky := hk y (List.mem_of_getElem? hy)
          obtain ⟨es, ⟨vk, vv, rfl, r1, r2⟩, E⟩ := LsV.at (by omega) D hy
          obtain ⟨o1, p1, rfl⟩ := r1.form
          refine Req.bnd ⟨by omega, by omega⟩ (E.ld (k := 0) (view_sub _ _ _) rfl (TSl.mk ?_))
          refine AllocC.col c6 4 fun z c7 w7 st7 b7 _ => ?_
          replace S := S.go st7.step (by decide) (by decide); replace D := D.mono (st7.step.sub (by decide)); replace r4 := r4.mono (st7.step.sub (by decide)); replace r1 := r1.mono (st7.step.sub (by decide))
          replace ho := ho.mono' (fun _ _ hp => hp.mono (st7.step.sub (by decide))) (st7.step.sub (by decide))
          refine LsO.app slBytes ho (m := [y.1]) (LsW.one (view_sub _ _ _ _ _ b7) rfl ⟨_, rfl, r1⟩) (fun _ _ hp => hp.ones) (by simp; omega) (by simp; omega) fun o8 p8 c8 w8 st8 ho => ?_
          replace S := S.go st8.step (by decide) (by decide); replace D := D.mono (st8.step.sub (by decide)); replace r4 := r4.mono (st8.step.sub (by decide))
          refine TSl.mk ?_
          refine back _ _ _ _ _ (by omega) ⟨c8, _, S, D, r4, by rw [htk], ho.mono' (fun _ _ hp => hp.mono (st8.step.sub (by decide))) (Sub.refl _), by simp; omega, ?_⟩
          intro k hkm
          simp only [List.mem_append, List.mem_singleton] at hkm
          rcases hkm with hkm | rfl
          · exact hfk k hkm
          · exact hky.1
        · exact back _ _ _ _ _ (by omega) ⟨c6, fs, S, D, r4, by rw [htk], ho, by omega, hfk⟩
      refine BS.dec (fun g => ?_) (fun g => ?_)
      · refine BS.dec (fun g2 => absurd f4 (by omega)) (fun g2 => ?_)
        refine BS.eq (fun g3 => ?_) (fun g3 => k3)
        unfold law06_ShapeSums_K2
        exact BS.dec (fun g4 => absurd (f2 (by rintro rfl; simp at g4)) (by omega)) (fun _ => k3)
      · refine BS.eq (fun g3 => ?_) (fun g3 => k3)
        exact BS.dec (fun g4 => absurd (f2 (by rintro rfl; simp at g4)) (by omega)) (fun _ => k3)
  · have : i = (leaves ps).length := by omega
    subst this
    rw [List.take_length, leaves_sum]
    have := ho.len
    subst this
    obtain ⟨g1, g2, g3⟩ := inn_facts level 0 fs (by omega)
    refine Inner_c c5 4 (LsO.rd ho (fun _ _ hp => hp.mono (view_sub _ _ _)) (view_sub _ _ _)) (by omega) (fun k hkm => by have := hfk k hkm; omega) fun v6 c6 w6 st6 r6 => ?_
    replace S := S.go st6 (by decide) (by decide)
    obtain ⟨o6, p6, rfl⟩ := r6.form
    refine TSl.mk ?_
    have htk : ∀ q, ((inn level 0 fs).take q).sum ≤ fs.length := fun q => by
      have : (inn level 0 fs).sum = ((inn level 0 fs).take q).sum + ((inn level 0 fs).drop q).sum := by rw [← List.sum_append, List.take_append_drop]
      omega
    refine LoopNI.up (inn level 0 fs).length (fun q x w' => w6 = w' ∧ x = ((((inn level 0 fs).take q).sum : Nat) : Int)) ⟨rfl, by simp⟩ ?_
    rintro q _ w7 B3 hq ⟨rfl, rfl⟩ back3
    have hq1 := htk q
    refine BS.dec (fun hlt2 => ?_) (fun hge2 => ?_)
    · obtain ⟨n, hn⟩ := get_of_lt (l := inn level 0 fs) (i := q) (by omega)
      have hnb := g1 n (List.mem_of_getElem? hn)
      refine Req.bnd ⟨by omega, by omega⟩ (r6.rd.elt (view_sub _ _ _) (u := iv n) (by rw [ivs_get, hn]; rfl) (TInt.mk ?_))
      refine BS.dec (fun g => absurd g (by omega)) (fun _ => BS.dec (fun g => absurd g (by omega)) (fun _ => ?_))
      rw [wrap_i64 (n := (((inn level 0 fs).take q).sum : Int) + (n : Nat)) (by omega) (by omega), wrap_i64 (by omega) (by omega)]
      refine back3 _ _ (by omega) ⟨rfl, ?_⟩
      rw [List.take_add_one, hn, Option.toList_some, List.sum_append, List.sum_singleton]; omega
    · have : q = (inn level 0 fs).length := by omega
      subst this
      rw [List.take_length]
      refine BS.yes (by simp) ?_
      have : (((inn level 0 fs).sum : Nat) : Int) == ((fs.length : Nat) : Int) := by rw [g2]; simp
      rw [this]
      exact ⟨rfl, fin S⟩
end Go.Proofs.Ythkboikbpbcdeaa.walkShape

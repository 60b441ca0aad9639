/-
  Nodes: what is right, each function once.
-/
import Derived.Test.YthkboikbpbcdeaaNodeD
import Derived.Test.YthkboikbpbcdeaaArr
import Derived.Test.YthkboikbpbcdeaaShape2
import Derived.Test.YthkboikbpbcdeaaGenNode
set_option linter.unusedVariables false
set_option linter.unusedSimpArgs false
namespace Go.Proofs.Ythkboikbpbcdeaa
open Go.Vc
attribute [local irreducible] TInt TBool TStr TPtr TSl TAgg TMap TChan T2 T3 T4 BS Req TSome TCell TByte LoadC LoadA StoreC AllocC RunV RunU CallV ExtV EqA StableC StableA StableV TCells ReadV

def KidP (h : View) (k : KidR) (es : List Value) : Prop := ∃ v, es = v :: bvs k.hash ∧ k.hash.length = 32 ∧ RdS h v 1 k.first.length (bvs k.first)
theorem KidP.mono {h h' : View} {k : KidR} {es : List Value} (hp : KidP h k es) (hs : Sub h h') : KidP h' k es := by
  obtain ⟨v, e, hl, hr⟩ := hp; exact ⟨v, e, hl, hr.mono hs⟩
theorem KidP.ones {h : View} {k : KidR} {es : List Value} (hp : KidP h k es) : ∀ u ∈ es, u.oneCell' = true := by
  obtain ⟨v, rfl, hl, hr⟩ := hp
  obtain ⟨o, c, rfl⟩ := hr.form
  intro u hu
  simp only [List.mem_cons] at hu
  rcases hu with rfl | hu
  · rfl
  · exact bvs_one _ u hu
def KidsV (h : View) (v : Value) (l : List KidR) : Prop := LsV KidP 33 h v l
theorem KidsV.mono {h h' : View} {v : Value} {l : List KidR} (hl : KidsV h v l) (hs : Sub h h') : KidsV h' v l := LsV.mono' (fun _ _ hp => hp.mono hs) hl hs
structure NodeV (h : View) (n : NodeR) (v u : Value) : Prop where
  p : PairsV h v n.pairs
  k : KidsV h u n.kids
theorem NodeV.mono {h h' : View} {n : NodeR} {v u : Value} (H : NodeV h n v u) (hs : Sub h h') : NodeV h' n v u := ⟨H.p.mono hs, H.k.mono hs⟩
theorem KidsV.hs {h : View} {v : Value} {l : List KidR} (hl : KidsV h v l) : ∀ k ∈ l, k.hash.length = 32 := by
  intro k hk
  obtain ⟨i, hi⟩ := List.getElem?_of_mem hk
  obtain ⟨o, c, rfl⟩ := LsV.form hl
  obtain ⟨es, ⟨v, _, hh, _⟩, _⟩ := LsV.at (by omega) hl hi
  exact hh
theorem slKid : SlT Try.prog 36 58 33 56 := .of (by kernel_rfl)

theorem rise_nil : rise [] := by intro i a b h; simp at h
theorem rise_one (l : List (List UInt8)) (h : l.length ≤ 1) : rise l := by
  intro i a b h1 h2
  have := lt_of_get h2; omega
theorem rise_take {l : List (List UInt8)} {i : Nat} (hi : 1 ≤ i) {a b : List UInt8} (ha : l[i - 1]? = some a) (hb : l[i]? = some b) : rise (l.take (i + 1)) ↔ (rise (l.take i) ∧ ltB a b = true) := by
  constructor
  · intro h
    constructor
    · intro j x y hx hy
      have h1 := lt_of_get hy
      rw [List.length_take] at h1
      refine h j x y ?_ ?_
      · rw [List.getElem?_take, if_pos (by omega)] at hx ⊢; exact hx
      · rw [List.getElem?_take, if_pos (by omega)] at hy ⊢; exact hy
    · refine h (i - 1) a b ?_ ?_
      · rw [List.getElem?_take, if_pos (by omega)]; exact ha
      · rw [show i - 1 + 1 = i by omega, List.getElem?_take, if_pos (by omega)]; exact hb
  · rintro ⟨h, hab⟩ j x y hx hy
    have h1 := lt_of_get hy
    rw [List.length_take] at h1
    rw [List.getElem?_take, if_pos (by omega)] at hx hy
    by_cases hj : j + 1 = i
    · have : j = i - 1 := by omega
      subst this
      rw [hj] at hy
      rw [ha] at hx
      rw [hb] at hy
      cases hx; cases hy; exact hab
    · exact h j x y (by rw [List.getElem?_take, if_pos (by omega)]; exact hx) (by rw [List.getElem?_take, if_pos (by omega)]; exact hy)
theorem rise_of_take {l : List (List UInt8)} {i : Nat} (h : rise l) : rise (l.take i) := by
  intro j x y hx hy
  have h1 := lt_of_get hy
  rw [List.length_take] at h1
  rw [List.getElem?_take, if_pos (by omega)] at hx hy
  exact h j x y hx hy

theorem Compare_c {w : World} {v u : Value} {l m : List UInt8} {R : Value → World → Prop} (h1 : RdS (wv w) v 1 l.length (bvs l)) (h2 : RdS (wv w) u 1 m.length (bvs m)) (h : R (.int .i64 (Lib.compareBytes l m)) w) : CallV Try.prog 52 #[v, u] w R := by
  obtain ⟨o1, p1, rfl⟩ := h1.form
  obtain ⟨o2, p2, rfl⟩ := h2.form
  refine bytes_Compare_vc ?_
  unfold bytes_Compare_VC
  exact ExtV.mk Try.func53 (by kernel_rfl) (by kernel_rfl) (by kernel_rfl) (by kernel_rfl) (compare_run h1 h2) (TInt.mk h)

theorem right1_c (c : Nat → Nat) (j : Nat) {w : World} {v u : Value} {l : List UInt8} {h0 : View} {R : Value → World → Prop} (hr : RdS h0 v 1 l.length (bvs l)) (h : ∀ c' w', Step c [] [j] w c' w' → R v w') : CallV Try.prog 44 #[.agg #[v, u]] w R := by
  obtain ⟨o1, p1, rfl⟩ := hr.form
  refine node_right_1_vc ?_
  unfold node_right_1_VC
  refine AllocC.col c j fun b c1 w1 st1 b1 _ => ?_
  (repeat (first | refine TInt.mk ?_ | refine TBool.mk ?_ | refine TStr.mk ?_ | refine TSl.mk ?_ | refine TPtr.mk ?_ | refine TAgg.mk ?_ | refine T2.mk ?_ | refine T3.mk ?_ | refine TSome.mk ?_ | refine LoadC.ad (view_sub _ _ _) _ (by assumption) rfl ?_))
  exact h _ _ st1.fresh
theorem right2_c (c : Nat → Nat) (j : Nat) {w : World} {v : Value} {us : List Value} {l : List UInt8} {h0 : View} {R : Value → World → Prop} (hr : RdS h0 v 1 l.length (bvs l)) (h : ∀ c' w', Step c [] [j] w c' w' → R v w') : CallV Try.prog 46 #[.agg (v :: us).toArray] w R := by
  obtain ⟨o1, p1, rfl⟩ := hr.form
  refine node_right_2_vc ?_
  unfold node_right_2_VC
  refine AllocC.col c j fun b c1 w1 st1 b1 _ => ?_
  (repeat (first | refine TInt.mk ?_ | refine TBool.mk ?_ | refine TStr.mk ?_ | refine TSl.mk ?_ | refine TPtr.mk ?_ | refine TAgg.mk ?_ | refine T2.mk ?_ | refine T3.mk ?_ | refine TSome.mk ?_ | refine LoadC.ad (view_sub _ _ _) _ (by assumption) rfl ?_))
  exact h _ _ st1.fresh

theorem rising_pairs (c : Nat → Nat) (j : Nat) {w : World} {v : Value} {l : List PairR} {R : Value → World → Prop} (hr : PairsV (wv w) v l) (hl : l.length ≤ 1099511627776)
    (h : ∀ b c' w', Step c [] [j] w c' w' → (b = true ↔ rise (l.map (·.1))) → R (.bool b) w') : CallV Try.prog 43 #[v, .func (.func 44) #[] #[]] w R := by
  obtain ⟨o0, p0, rfl⟩ := LsV.form hr
  have D : PairsV (view (fun _ => 0) 0 w) (.slice o0 l.length p0) l := by rw [view0]; exact hr
  have S := Fr.start w
  refine node_rising_api_Pair_vc ?_
  unfold node_rising_api_Pair_VC
  refine LoopI.from 1 (max 1 l.length) (by omega) (fun i w' => ∃ c', Fr w c' w' ∧ PairsV (view c' 0 w') (.slice o0 l.length p0) l ∧ rise ((l.map (·.1)).take i)) rfl ⟨_, S, D, rise_one _ (by simp; omega)⟩ ?_
  rintro i w1 B hi1 hi ⟨c1, S, D, hri⟩ back
  refine BS.dec (fun hlt => ?_) (fun hge => ?_)
  · refine DrewC.col c1 fun w2 st2 => ?_
    replace S := S.go st2 (by decide) (by decide); replace D := D.mono (st2.sub (by decide))
    obtain ⟨x, hx⟩ := get_of_lt (l := l) (i := i - 1) (by omega)
    obtain ⟨y, hy⟩ := get_of_lt (l := l) (i := i) (by omega)
    obtain ⟨es, ⟨vk, vv, rfl, r1, r2⟩, E⟩ := LsV.at (by omega) D hx
    obtain ⟨fs, ⟨uk, uv, rfl, q1, q2⟩, F⟩ := LsV.at (by omega) D hy
    have ew : IntKind.wrap .i64 ((i : Int) - 1) = ((i - 1 : Nat) : Int) := by rw [wrap_i64 (by omega) (by omega)]; omega
    rw [ew]
    obtain ⟨b, off, cs, T, fz, rfl, hb, hc⟩ := F.blk (by omega)
    refine Req.bnd ⟨by omega, by omega⟩ (E.all (view_sub _ _ _) ?_)
    refine Req.bnd ⟨by omega, by omega⟩ (TSome.mk ?_)
    rw [addr_add, Int.toNat_natCast]
    refine LoadA.at (view_sub _ _ _) hb rfl hc ?_
    refine right1_c c1 2 r1 fun c3 w3 st3 => ?_
    replace hb := st3.sub (by decide) _ _ hb
    replace S := S.go st3 (by decide) (by decide); replace D := D.mono (st3.sub (by decide)); replace r1 := r1.mono (st3.sub (by decide)); replace q1 := q1.mono (st3.sub (by decide))
    obtain ⟨o1, p1, rfl⟩ := r1.form
    refine TSl.mk ⟨?_, ?_⟩
    · exact StableA.at (view_sub _ _ _) hb rfl hc
    refine right1_c c3 2 q1 fun c4 w4 st4 => ?_
    replace S := S.go st4 (by decide) (by decide); replace D := D.mono (st4.sub (by decide)); replace r1 := r1.mono (st4.sub (by decide)); replace q1 := q1.mono (st4.sub (by decide))
    obtain ⟨o2, p2, rfl⟩ := q1.form
    refine TSl.mk (Compare_c (r1.mono (view_sub _ _ _)) (q1.mono (view_sub _ _ _)) (TInt.mk ?_))
    have hcn := compare_neg x.1 y.1
    have hmx : (l.map (·.1))[i - 1]? = some x.1 := by rw [List.getElem?_map, hx]; rfl
    have hmy : (l.map (·.1))[i]? = some y.1 := by rw [List.getElem?_map, hy]; rfl
    have ht := rise_take hi1 hmx hmy
    refine BS.dec (fun hg => ?_) (fun hg => ?_)
    · refine h _ _ _ (S.leave c j) ⟨fun h => by simp at h, fun hr => ?_⟩
      have := (ht.1 (rise_of_take hr)).2
      rw [← hcn] at this; omega
    · rw [wrap_i64 (by omega) (by omega)]
      exact back _ (by omega) ⟨c4, S, D, ht.2 ⟨hri, hcn.1 (by omega)⟩⟩
  · refine h _ _ _ (S.leave c j) ⟨fun _ => ?_, fun _ => rfl⟩
    rwa [List.take_of_length_le (by simp; omega)] at hri
theorem rising_kids (c : Nat → Nat) (j : Nat) {w : World} {v : Value} {l : List KidR} {R : Value → World → Prop} (hr : KidsV (wv w) v l) (hl : l.length ≤ 1099511627776)
    (h : ∀ b c' w', Step c [] [j] w c' w' → (b = true ↔ rise (l.map (·.first))) → R (.bool b) w') : CallV Try.prog 45 #[v, .func (.func 46) #[] #[]] w R := by
  obtain ⟨o0, p0, rfl⟩ := LsV.form hr
  have D : KidsV (view (fun _ => 0) 0 w) (.slice o0 l.length p0) l := by rw [view0]; exact hr
  have S := Fr.start w
  refine node_rising_api_Kid_vc ?_
  unfold node_rising_api_Kid_VC
  refine LoopI.from 1 (max 1 l.length) (by omega) (fun i w' => ∃ c', Fr w c' w' ∧ KidsV (view c' 0 w') (.slice o0 l.length p0) l ∧ rise ((l.map (·.first)).take i)) rfl ⟨_, S, D, rise_one _ (by simp; omega)⟩ ?_
  rintro i w1 B hi1 hi ⟨c1, S, D, hri⟩ back
  refine BS.dec (fun hlt => ?_) (fun hge => ?_)
  · refine DrewC.col c1 fun w2 st2 => ?_
    replace S := S.go st2 (by decide) (by decide); replace D := D.mono (st2.sub (by decide))
    obtain ⟨x, hx⟩ := get_of_lt (l := l) (i := i - 1) (by omega)
    obtain ⟨y, hy⟩ := get_of_lt (l := l) (i := i) (by omega)
    obtain ⟨es, ⟨vk, rfl, r0, r1⟩, E⟩ := LsV.at (by omega) D hx
    obtain ⟨fs, ⟨uk, rfl, q0, q1⟩, F⟩ := LsV.at (by omega) D hy
    have ew : IntKind.wrap .i64 ((i : Int) - 1) = ((i - 1 : Nat) : Int) := by rw [wrap_i64 (by omega) (by omega)]; omega
    rw [ew]
    obtain ⟨b, off, cs, T, fz, rfl, hb, hc⟩ := F.blk (by omega)
    refine Req.bnd ⟨by omega, by omega⟩ (E.all (view_sub _ _ _) ?_)
    refine Req.bnd ⟨by omega, by omega⟩ (TSome.mk ?_)
    rw [addr_add, Int.toNat_natCast]
    refine LoadA.at (view_sub _ _ _) hb (by simp [q0]) hc ?_
    refine right2_c c1 2 r1 fun c3 w3 st3 => ?_
    replace hb := st3.sub (by decide) _ _ hb
    replace S := S.go st3 (by decide) (by decide); replace D := D.mono (st3.sub (by decide)); replace r1 := r1.mono (st3.sub (by decide)); replace q1 := q1.mono (st3.sub (by decide))
    obtain ⟨o1, p1, rfl⟩ := r1.form
    refine TSl.mk ⟨?_, ?_⟩
    · exact StableA.at (view_sub _ _ _) hb (by simp [q0]) hc
    refine right2_c c3 2 q1 fun c4 w4 st4 => ?_
    replace S := S.go st4 (by decide) (by decide); replace D := D.mono (st4.sub (by decide)); replace r1 := r1.mono (st4.sub (by decide)); replace q1 := q1.mono (st4.sub (by decide))
    obtain ⟨o2, p2, rfl⟩ := q1.form
    refine TSl.mk (Compare_c (r1.mono (view_sub _ _ _)) (q1.mono (view_sub _ _ _)) (TInt.mk ?_))
    have hcn := compare_neg x.first y.first
    have hmx : (l.map (·.first))[i - 1]? = some x.first := by rw [List.getElem?_map, hx]; rfl
    have hmy : (l.map (·.first))[i]? = some y.first := by rw [List.getElem?_map, hy]; rfl
    have ht := rise_take hi1 hmx hmy
    refine BS.dec (fun hg => ?_) (fun hg => ?_)
    · refine h _ _ _ (S.leave c j) ⟨fun h => by simp at h, fun hr => ?_⟩
      have := (ht.1 (rise_of_take hr)).2
      rw [← hcn] at this; omega
    · rw [wrap_i64 (by omega) (by omega)]
      exact back _ (by omega) ⟨c4, S, D, ht.2 ⟨hri, hcn.1 (by omega)⟩⟩
  · refine h _ _ _ (S.leave c j) ⟨fun _ => ?_, fun _ => rfl⟩
    rwa [List.take_of_length_le (by simp; omega)] at hri

theorem Rising_c (c : Nat → Nat) {w : World} {v : Value} {l : List PairR} {R : Value → World → Prop} (hr : PairsV (wv w) v l) (hl : l.length ≤ 1099511627776)
    (h : ∀ b w', Step c [] [] w c w' → (b = true ↔ rise (l.map (·.1))) → R (.bool b) w') : CallV Try.prog 49 #[v] w R := by
  obtain ⟨o0, p0, rfl⟩ := LsV.form hr
  refine ref06_Rising_vc ?_
  unfold ref06_Rising_VC
  refine LoopI.from 1 (max 1 l.length) (by omega) (fun i w' => Step c [] [] w c w' ∧ rise ((l.map (·.1)).take i)) rfl ⟨.refl .., rise_one _ (by simp; omega)⟩ ?_
  rintro i w1 B hi1 hi ⟨st, hri⟩ back
  refine BS.dec (fun hlt => ?_) (fun hge => ?_)
  · refine DrewC.col c fun w2 st2 => ?_
    have st := st.trans st2
    obtain ⟨x, hx⟩ := get_of_lt (l := l) (i := i - 1) (by omega)
    obtain ⟨y, hy⟩ := get_of_lt (l := l) (i := i) (by omega)
    obtain ⟨es, ⟨vk, vv, rfl, r1, r2⟩, E⟩ := LsV.at (by omega) hr hx
    obtain ⟨fs, ⟨uk, uv, rfl, q1, q2⟩, F⟩ := LsV.at (by omega) hr hy
    obtain ⟨o1, p1, rfl⟩ := r1.form
    obtain ⟨o2, p2, rfl⟩ := q1.form
    have ew : IntKind.wrap .i64 ((i : Int) - 1) = ((i - 1 : Nat) : Int) := by rw [wrap_i64 (by omega) (by omega)]; omega
    rw [ew]
    refine Req.bnd ⟨by omega, by omega⟩ (E.ld (k := 0) st.wv rfl (TSl.mk (string_rule strU8 (r1.mono st.wv) (TStr.mk ?_))))
    refine Req.bnd ⟨by omega, by omega⟩ (F.ld (k := 0) st.wv rfl (TSl.mk (string_rule strU8 (q1.mono st.wv) (TStr.mk ?_))))
    rw [strLt_of]
    have hmx : (l.map (·.1))[i - 1]? = some x.1 := by rw [List.getElem?_map, hx]; rfl
    have hmy : (l.map (·.1))[i]? = some y.1 := by rw [List.getElem?_map, hy]; rfl
    have ht := rise_take hi1 hmx hmy
    refine BS.nb (fun hg => ?_) (fun hg => ?_)
    · refine h _ _ st ⟨fun h => by simp at h, fun hr => ?_⟩
      have := (ht.1 (rise_of_take hr)).2
      rw [hg] at this; simp at this
    · rw [wrap_i64 (by omega) (by omega)]
      exact back _ (by omega) ⟨st, ht.2 ⟨hri, hg⟩⟩
  · refine h _ _ st ⟨fun _ => ?_, fun _ => rfl⟩
    rwa [List.take_of_length_le (by simp; omega)] at hri

theorem node_right_c (c : Nat → Nat) (j : Nat) {w : World} {n : NodeR} {v u : Value} {R : Value → World → Prop} (hv : NodeV (wv w) n v u) (hl : n.pairs.length ≤ 1099511627776)
    (h : ∀ b c' w', Step c [] [j] w c' w' → (b = true ↔ n.right) → R (.bool b) w') : CallV Try.prog 29 #[.agg (n.cells v u).toArray] w R := by
  obtain ⟨ov, cv, rfl⟩ := LsV.form hv.p
  obtain ⟨ou, cu, rfl⟩ := LsV.form hv.k
  have D : NodeV (view (fun _ => 0) 0 w) n (.slice ov n.pairs.length cv) (.slice ou n.kids.length cu) := by rw [view0]; exact hv
  have S := Fr.start w
  refine node_right_vc ?_
  unfold node_right_VC
  refine AllocC.col (fun _ => 0) 1 fun a c1 w1 st1 b1 _ => ?_
  replace S := S.go st1.step (by decide) (by decide); replace D := D.mono (st1.step.sub (by decide))
  have fls : ¬ n.right → R (.bool false) w1 := fun hn => h _ _ _ (S.leave c j) ⟨fun h => by simp at h, fun h => absurd h hn⟩
  (repeat (first | refine TInt.mk ?_ | refine TBool.mk ?_ | refine TStr.mk ?_ | refine TSl.mk ?_ | refine TPtr.mk ?_ | refine TAgg.mk ?_ | refine T2.mk ?_ | refine T3.mk ?_ | refine TSome.mk ?_ | refine LoadC.ad (view_sub _ _ _) _ (by assumption) rfl ?_))
  refine BS.dec (fun k => fls fun h => by unfold NodeR.right at h; omega) (fun k1 => ?_)
  (repeat (first | refine TInt.mk ?_ | refine TBool.mk ?_ | refine TStr.mk ?_ | refine TSl.mk ?_ | refine TPtr.mk ?_ | refine TAgg.mk ?_ | refine T2.mk ?_ | refine T3.mk ?_ | refine TSome.mk ?_ | refine LoadC.ad (view_sub _ _ _) _ (by assumption) rfl ?_))
  unfold node_right_K1
  refine BS.dec (fun k => fls fun h => by unfold NodeR.right at h; omega) (fun k2 => ?_)
  (repeat (first | refine TInt.mk ?_ | refine TBool.mk ?_ | refine TStr.mk ?_ | refine TSl.mk ?_ | refine TPtr.mk ?_ | refine TAgg.mk ?_ | refine T2.mk ?_ | refine T3.mk ?_ | refine TSome.mk ?_ | refine LoadC.ad (view_sub _ _ _) _ (by assumption) rfl ?_))
  refine BS.eq (fun k3 => ?_) (fun k3 => ?_)
  · (repeat (first | refine TInt.mk ?_ | refine TBool.mk ?_ | refine TStr.mk ?_ | refine TSl.mk ?_ | refine TPtr.mk ?_ | refine TAgg.mk ?_ | refine T2.mk ?_ | refine T3.mk ?_ | refine TSome.mk ?_ | refine LoadC.ad (view_sub _ _ _) _ (by assumption) rfl ?_))
    refine BS.eq (fun k4 => ?_) (fun k4 => fls fun h => by unfold NodeR.right at h; omega)
    (repeat (first | refine TInt.mk ?_ | refine TBool.mk ?_ | refine TStr.mk ?_ | refine TSl.mk ?_ | refine TPtr.mk ?_ | refine TAgg.mk ?_ | refine T2.mk ?_ | refine T3.mk ?_ | refine TSome.mk ?_ | refine LoadC.ad (view_sub _ _ _) _ (by assumption) rfl ?_))
    refine BS.dec (fun k5 => ?_) (fun k5 => fls fun h => by unfold NodeR.right at h; omega)
    (repeat (first | refine TInt.mk ?_ | refine TBool.mk ?_ | refine TStr.mk ?_ | refine TSl.mk ?_ | refine TPtr.mk ?_ | refine TAgg.mk ?_ | refine T2.mk ?_ | refine T3.mk ?_ | refine TSome.mk ?_ | refine LoadC.ad (view_sub _ _ _) _ (by assumption) rfl ?_))
    refine rising_pairs c1 2 (D.p.mono (view_sub _ _ _)) hl fun b c2 w2 st2 hb => TBool.mk ?_
    replace S := S.go st2 (by decide) (by decide)
    refine h _ _ _ (S.leave c j) (hb.trans ⟨fun hr => ⟨by omega, by omega, .inl ⟨k3, by omega, by omega, hr⟩⟩, fun hr => ?_⟩)
    rcases hr.2.2 with hr | hr
    · exact hr.2.2.2
    · exact absurd k3 hr.1
  · (repeat (first | refine TInt.mk ?_ | refine TBool.mk ?_ | refine TStr.mk ?_ | refine TSl.mk ?_ | refine TPtr.mk ?_ | refine TAgg.mk ?_ | refine T2.mk ?_ | refine T3.mk ?_ | refine TSome.mk ?_ | refine LoadC.ad (view_sub _ _ _) _ (by assumption) rfl ?_))
    refine BS.eq (fun k4 => ?_) (fun k4 => fls fun h => by unfold NodeR.right at h; omega)
    (repeat (first | refine TInt.mk ?_ | refine TBool.mk ?_ | refine TStr.mk ?_ | refine TSl.mk ?_ | refine TPtr.mk ?_ | refine TAgg.mk ?_ | refine T2.mk ?_ | refine T3.mk ?_ | refine TSome.mk ?_ | refine LoadC.ad (view_sub _ _ _) _ (by assumption) rfl ?_))
    refine BS.dec (fun k5 => ?_) (fun k5 => fls fun h => by unfold NodeR.right at h; omega)
    (repeat (first | refine TInt.mk ?_ | refine TBool.mk ?_ | refine TStr.mk ?_ | refine TSl.mk ?_ | refine TPtr.mk ?_ | refine TAgg.mk ?_ | refine T2.mk ?_ | refine T3.mk ?_ | refine TSome.mk ?_ | refine LoadC.ad (view_sub _ _ _) _ (by assumption) rfl ?_))
    refine BS.dec (fun k6 => ?_) (fun k6 => fls fun h => by unfold NodeR.right at h; omega)
    (repeat (first | refine TInt.mk ?_ | refine TBool.mk ?_ | refine TStr.mk ?_ | refine TSl.mk ?_ | refine TPtr.mk ?_ | refine TAgg.mk ?_ | refine T2.mk ?_ | refine T3.mk ?_ | refine TSome.mk ?_ | refine LoadC.ad (view_sub _ _ _) _ (by assumption) rfl ?_))
    refine rising_kids c1 2 (D.k.mono (view_sub _ _ _)) (by omega) fun b c2 w2 st2 hb => TBool.mk ?_
    replace S := S.go st2 (by decide) (by decide)
    refine h _ _ _ (S.leave c j) (hb.trans ⟨fun hr => ⟨by omega, by omega, .inr ⟨k3, by omega, by omega, by omega, hr⟩⟩, fun hr => ?_⟩)
    rcases hr.2.2 with hr | hr
    · exact absurd hr.1 k3
    · exact hr.2.2.2.2
theorem Right_c (c : Nat → Nat) (j : Nat) {w : World} {n : NodeR} {v u : Value} {R : Value → World → Prop} (hv : NodeV (wv w) n v u) (hl : n.pairs.length ≤ 1099511627776)
    (h : ∀ b c' w', Step c [] [j] w c' w' → (b = true ↔ n.right) → R (.bool b) w') : CallV Try.prog 33 #[.agg (n.cells v u).toArray] w R := by
  obtain ⟨ov, cv, rfl⟩ := LsV.form hv.p
  obtain ⟨ou, cu, rfl⟩ := LsV.form hv.k
  have D : NodeV (view (fun _ => 0) 0 w) n (.slice ov n.pairs.length cv) (.slice ou n.kids.length cu) := by rw [view0]; exact hv
  have S := Fr.start w
  refine ref07_Right_vc ?_
  unfold ref07_Right_VC
  refine AllocC.col (fun _ => 0) 1 fun a c1 w1 st1 b1 _ => ?_
  replace S := S.go st1.step (by decide) (by decide); replace D := D.mono (st1.step.sub (by decide))
  have fls : ¬ n.right → R (.bool false) w1 := fun hn => h _ _ _ (S.leave c j) ⟨fun h => by simp at h, fun h => absurd h hn⟩
  (repeat (first | refine TInt.mk ?_ | refine TBool.mk ?_ | refine TStr.mk ?_ | refine TSl.mk ?_ | refine TPtr.mk ?_ | refine TAgg.mk ?_ | refine T2.mk ?_ | refine T3.mk ?_ | refine TSome.mk ?_ | refine LoadC.ad (view_sub _ _ _) _ (by assumption) rfl ?_))
  refine BS.dec (fun k => fls fun h => by unfold NodeR.right at h; omega) (fun k1 => ?_)
  (repeat (first | refine TInt.mk ?_ | refine TBool.mk ?_ | refine TStr.mk ?_ | refine TSl.mk ?_ | refine TPtr.mk ?_ | refine TAgg.mk ?_ | refine T2.mk ?_ | refine T3.mk ?_ | refine TSome.mk ?_ | refine LoadC.ad (view_sub _ _ _) _ (by assumption) rfl ?_))
  unfold ref07_Right_K1
  refine BS.dec (fun k => fls fun h => by unfold NodeR.right at h; omega) (fun k2 => ?_)
  (repeat (first | refine TInt.mk ?_ | refine TBool.mk ?_ | refine TStr.mk ?_ | refine TSl.mk ?_ | refine TPtr.mk ?_ | refine TAgg.mk ?_ | refine T2.mk ?_ | refine T3.mk ?_ | refine TSome.mk ?_ | refine LoadC.ad (view_sub _ _ _) _ (by assumption) rfl ?_))
  refine BS.eq (fun k3 => ?_) (fun k3 => ?_)
  · (repeat (first | refine TInt.mk ?_ | refine TBool.mk ?_ | refine TStr.mk ?_ | refine TSl.mk ?_ | refine TPtr.mk ?_ | refine TAgg.mk ?_ | refine T2.mk ?_ | refine T3.mk ?_ | refine TSome.mk ?_ | refine LoadC.ad (view_sub _ _ _) _ (by assumption) rfl ?_))
    refine BS.eq (fun k4 => ?_) (fun k4 => fls fun h => by unfold NodeR.right at h; omega)
    (repeat (first | refine TInt.mk ?_ | refine TBool.mk ?_ | refine TStr.mk ?_ | refine TSl.mk ?_ | refine TPtr.mk ?_ | refine TAgg.mk ?_ | refine T2.mk ?_ | refine T3.mk ?_ | refine TSome.mk ?_ | refine LoadC.ad (view_sub _ _ _) _ (by assumption) rfl ?_))
    refine BS.dec (fun k5 => ?_) (fun k5 => fls fun h => by unfold NodeR.right at h; omega)
    (repeat (first | refine TInt.mk ?_ | refine TBool.mk ?_ | refine TStr.mk ?_ | refine TSl.mk ?_ | refine TPtr.mk ?_ | refine TAgg.mk ?_ | refine T2.mk ?_ | refine T3.mk ?_ | refine TSome.mk ?_ | refine LoadC.ad (view_sub _ _ _) _ (by assumption) rfl ?_))
    refine Rising_c c1 (D.p.mono (view_sub _ _ _)) hl fun b w2 st2 hb => TBool.mk ?_
    replace S := S.go st2 (by decide) (by decide)
    refine h _ _ _ (S.leave c j) (hb.trans ⟨fun hr => ⟨by omega, by omega, .inl ⟨k3, by omega, by omega, hr⟩⟩, fun hr => ?_⟩)
    rcases hr.2.2 with hr | hr
    · exact hr.2.2.2
    · exact absurd k3 hr.1
  · (repeat (first | refine TInt.mk ?_ | refine TBool.mk ?_ | refine TStr.mk ?_ | refine TSl.mk ?_ | refine TPtr.mk ?_ | refine TAgg.mk ?_ | refine T2.mk ?_ | refine T3.mk ?_ | refine TSome.mk ?_ | refine LoadC.ad (view_sub _ _ _) _ (by assumption) rfl ?_))
    refine BS.dec (fun k => fls fun h => by unfold NodeR.right at h; omega) (fun k4 => ?_)
    (repeat (first | refine TInt.mk ?_ | refine TBool.mk ?_ | refine TStr.mk ?_ | refine TSl.mk ?_ | refine TPtr.mk ?_ | refine TAgg.mk ?_ | refine T2.mk ?_ | refine T3.mk ?_ | refine TSome.mk ?_ | refine LoadC.ad (view_sub _ _ _) _ (by assumption) rfl ?_))
    refine BS.dec (fun k => fls fun h => by unfold NodeR.right at h; omega) (fun k5 => ?_)
    (repeat (first | refine TInt.mk ?_ | refine TBool.mk ?_ | refine TStr.mk ?_ | refine TSl.mk ?_ | refine TPtr.mk ?_ | refine TAgg.mk ?_ | refine T2.mk ?_ | refine T3.mk ?_ | refine TSome.mk ?_ | refine LoadC.ad (view_sub _ _ _) _ (by assumption) rfl ?_))
    unfold ref07_Right_K2
    refine BS.dec (fun k => fls fun h => by unfold NodeR.right at h; omega) (fun k6 => ?_)
    refine LoopI.from 1 (max 1 n.kids.length) (by omega) (fun i w' => Step c1 [] [] w1 c1 w' ∧ rise ((n.kids.map (·.first)).take i)) rfl ⟨.refl .., rise_one _ (by simp; omega)⟩ ?_
    rintro i w2 B hi1 hi ⟨st, hri⟩ back
    replace b1 := st.sub (by decide) _ _ b1
    replace S := S.go st (by decide) (by decide); replace D := D.mono (st.sub (by decide))
    (repeat (first | refine TInt.mk ?_ | refine TBool.mk ?_ | refine TStr.mk ?_ | refine TSl.mk ?_ | refine TPtr.mk ?_ | refine TAgg.mk ?_ | refine T2.mk ?_ | refine T3.mk ?_ | refine TSome.mk ?_ | refine LoadC.ad (view_sub _ _ _) _ (by assumption) rfl ?_))
    refine BS.dec (fun hlt => ?_) (fun hge => ?_)
    · refine DrewC.col c1 fun w3 st3 => ?_
      replace S := S.go st3 (by decide) (by decide); replace D := D.mono (st3.sub (by decide)); replace b1 := st3.sub (by decide) _ _ b1
      have st := st.trans st3
      (repeat (first | refine TInt.mk ?_ | refine TBool.mk ?_ | refine TStr.mk ?_ | refine TSl.mk ?_ | refine TPtr.mk ?_ | refine TAgg.mk ?_ | refine T2.mk ?_ | refine T3.mk ?_ | refine TSome.mk ?_ | refine LoadC.ad (view_sub _ _ _) _ (by assumption) rfl ?_))
      obtain ⟨x, hx⟩ := get_of_lt (l := n.kids) (i := i - 1) (by omega)
      obtain ⟨y, hy⟩ := get_of_lt (l := n.kids) (i := i) (by omega)
      obtain ⟨es, ⟨vk, rfl, r0, r1⟩, E⟩ := LsV.at (by omega) D.k hx
      obtain ⟨fs, ⟨uk, rfl, q0, q1⟩, F⟩ := LsV.at (by omega) D.k hy
      obtain ⟨o1, p1, rfl⟩ := r1.form
      obtain ⟨o2, p2, rfl⟩ := q1.form
      have ew : IntKind.wrap .i64 ((i : Int) - 1) = ((i - 1 : Nat) : Int) := by rw [wrap_i64 (by omega) (by omega)]; omega
      rw [ew]
      refine Req.bnd ⟨by omega, by omega⟩ (E.ld (k := 0) (view_sub _ _ _) rfl (TSl.mk (string_rule strU8 (r1.mono (view_sub _ _ _)) (TStr.mk ?_))))
      (repeat (first | refine TInt.mk ?_ | refine TBool.mk ?_ | refine TStr.mk ?_ | refine TSl.mk ?_ | refine TPtr.mk ?_ | refine TAgg.mk ?_ | refine T2.mk ?_ | refine T3.mk ?_ | refine TSome.mk ?_ | refine LoadC.ad (view_sub _ _ _) _ (by assumption) rfl ?_))
      refine Req.bnd ⟨by omega, by omega⟩ (F.ld (k := 0) (view_sub _ _ _) rfl (TSl.mk (string_rule strU8 (q1.mono (view_sub _ _ _)) (TStr.mk ?_))))
      rw [strLt_of]
      have hmx : (n.kids.map (·.first))[i - 1]? = some x.first := by rw [List.getElem?_map, hx]; rfl
      have hmy : (n.kids.map (·.first))[i]? = some y.first := by rw [List.getElem?_map, hy]; rfl
      have ht := rise_take hi1 hmx hmy
      refine BS.nb (fun hg => ?_) (fun hg => ?_)
      · refine h _ _ _ (S.leave c j) ⟨fun h => by simp at h, fun hr => ?_⟩
        rcases hr.2.2 with hr | hr
        · exact absurd hr.1 k3
        · have := (ht.1 (rise_of_take hr.2.2.2.2)).2
          rw [hg] at this; simp at this
      · rw [wrap_i64 (by omega) (by omega)]
        exact back _ (by omega) ⟨st, ht.2 ⟨hri, hg⟩⟩
    · rw [List.take_of_length_le (by simp; omega)] at hri
      exact h _ _ _ (S.leave c j) ⟨fun _ => ⟨by omega, by omega, .inr ⟨k3, by omega, by omega, by omega, hri⟩⟩, fun _ => rfl⟩
end Go.Proofs.Ythkboikbpbcdeaa

/-
  Nodes: copies, comparison, and what chapter 07's laws do, each once.
-/
import Derived.Test.YthkboikbpbcdeaaNode5
set_option linter.unusedVariables false
set_option linter.unusedSimpArgs false
namespace Go.Proofs.Ythkboikbpbcdeaa
open Go.Vc
attribute [local irreducible] TInt TBool TStr TPtr TSl TAgg TMap TChan T2 T3 T4 BS Req TSome TCell TByte LoadC LoadA StoreC AllocC RunV RunU CallV ExtV EqA StableC StableA StableV TCells ReadV
attribute [local irreducible] eU eT eE

theorem arrHash : ArrT Try.prog 56 32 := .of (by kernel_rfl)
theorem placesKid : placesB Try.prog 58 = some (.slice none 0 0 :: List.replicate 32 (.int .u8 0), [(0, 1), (1, 32)]) := by kernel_rfl
theorem built_kid (v : Value) (hv : v.cells = #[v]) (g : List UInt8) (hg : g.length = 32) : buildCells Try.prog 58 [(0, v), (1, .agg (bvs g).toArray)] = some (v :: bvs g).toArray := by
  unfold buildCells
  rw [built_of placesKid]
  rw [fill_cons (off := 0) (vs := [v]) rfl (by rw [hv]) (by simp)]
  rw [fill_cons (off := 1) (vs := bvs g) (by simp [hg]) rfl (by simp [hg])]
  simp [Instr.fill, hg]

theorem CopyN_c (c : Nat → Nat) (j : Nat) {w : World} {n : NodeR} {v u : Value} {R : Value → World → Prop} (hv : NodeV (wv w) n v u) (hl : n.pairs.length ≤ 1000) (hk : ∀ p ∈ n.pairs, p.1.length ≤ 8000 ∧ p.2.length ≤ 8000) (hkl : n.kids.length ≤ 300) (hkk : ∀ k ∈ n.kids, k.first.length ≤ 70000)
    (h : ∀ v u c' w', Step c [] [j] w c' w' → NodeV (view c' j w') n v u → R (.agg (n.cells v u).toArray) w') : CallV Try.prog 21 #[.agg (n.cells v u).toArray] w R := by
  obtain ⟨ov, cv, rfl⟩ := LsV.form hv.p
  obtain ⟨ou, cu, rfl⟩ := LsV.form hv.k
  have D : NodeV (view (fun _ => 0) 0 w) n (.slice ov n.pairs.length cv) (.slice ou n.kids.length cu) := by rw [view0]; exact hv
  have S := Fr.start w
  refine ref07_Copy_vc ?_
  unfold ref07_Copy_VC
  refine AllocC.col (fun _ => 0) 1 fun a1 c1 w1 st1 b1 _ => ?_
  replace S := S.go st1.step (by decide) (by decide); replace D := D.mono (st1.step.sub (by decide))
  refine AllocC.col c1 3 fun a2 c2 w2 st2 b2 _ => ?_
  replace S := S.go st2.step (by decide) (by decide); replace D := D.mono (st2.step.sub (by decide)); replace b1 := st2.step.sub (by decide) _ _ b1
  refine DrewC.col c2 fun w3 st3 => ?_
  replace S := S.go st3 (by decide) (by decide); replace D := D.mono (st3.sub (by decide)); replace b1 := st3.sub (by decide) _ _ b1; replace b2 := st3.sub (by decide) _ _ b2
  (repeat (first | refine TInt.mk ?_ | refine TBool.mk ?_ | refine TStr.mk ?_ | refine TSl.mk ?_ | refine TPtr.mk ?_ | refine TAgg.mk ?_ | refine T2.mk ?_ | refine T3.mk ?_ | refine TSome.mk ?_ | refine LoadC.ad (view_sub _ _ _) _ (by assumption) rfl ?_))
  have k1 : ∀ c' w' a3 (o9 : Option Addr) (p9 : Nat), Fr w c' w' → NodeV (view c' 0 w') n (.slice ov n.pairs.length cv) (.slice ou n.kids.length cu) → view c' 1 w' a1 = some (.cells (n.cells (.slice ov n.pairs.length cv) (.slice ou n.kids.length cu)).toArray 38 (0, 0)) → view c' 3 w' a2 = some (.cells #[.int .i64 0, .slice none 0 0, .slice none 0 0] 38 (0, 0)) →
      view c' 2 w' a3 = some (.cells #[.int .i64 n.level, .slice o9 n.pairs.length p9, .slice none 0 0] 38 (0, 0)) → PairsV (view c' 4 w') (.slice o9 n.pairs.length p9) n.pairs → ref07_Copy_K1 ⟨a1, 0, none⟩ ⟨a2, 0, none⟩ ⟨a3, 0, none⟩ w' R := by
    intro c4 w4 a3 o9 p9 S D b1 b2 b3 r9
    unfold ref07_Copy_K1
    refine LoopI.up n.kids.length (fun i w' => ∃ c' o m p, Fr w c' w' ∧ NodeV (view c' 0 w') n (.slice ov n.pairs.length cv) (.slice ou n.kids.length cu) ∧ view c' 1 w' a1 = some (.cells (n.cells (.slice ov n.pairs.length cv) (.slice ou n.kids.length cu)).toArray 38 (0, 0)) ∧ view c' 3 w' a2 = some (.cells #[.int .i64 0, .slice none 0 0, .slice none 0 0] 38 (0, 0)) ∧
      view c' 2 w' a3 = some (.cells #[.int .i64 n.level, .slice o9 n.pairs.length p9, .slice o m p] 38 (0, 0)) ∧ PairsV (view c' 4 w') (.slice o9 n.pairs.length p9) n.pairs ∧ LsO KidP 58 33 (view c' 6 w') (view c' 5 w') (.slice o m p) (n.kids.take i))
      ⟨c4, none, 0, 0, S, D, b1, b2, b3, r9, LsO.nil ..⟩ ?_
    rintro i w5 B hi ⟨c5, o, m, p, S, D, b1, b2, b3, r9, ho⟩ back
    (repeat (first | refine TInt.mk ?_ | refine TBool.mk ?_ | refine TStr.mk ?_ | refine TSl.mk ?_ | refine TPtr.mk ?_ | refine TAgg.mk ?_ | refine T2.mk ?_ | refine T3.mk ?_ | refine TSome.mk ?_ | refine LoadC.ad (view_sub _ _ _) _ (by assumption) rfl ?_))
    refine BS.dec (fun hlt => ?_) (fun hge => ?_)
    · refine DrewC.col c5 fun w6 st6 => ?_
      replace S := S.go st6 (by decide) (by decide); replace D := D.mono (st6.sub (by decide)); replace b1 := st6.sub (by decide) _ _ b1; replace b2 := st6.sub (by decide) _ _ b2; replace b3 := st6.sub (by decide) _ _ b3; replace r9 := r9.mono (st6.sub (by decide))
      replace ho := ho.mono' (fun _ _ hp => hp.mono (st6.sub (by decide))) (st6.sub (by decide))
      (repeat (first | refine TInt.mk ?_ | refine TBool.mk ?_ | refine TStr.mk ?_ | refine TSl.mk ?_ | refine TPtr.mk ?_ | refine TAgg.mk ?_ | refine T2.mk ?_ | refine T3.mk ?_ | refine TSome.mk ?_ | refine LoadC.ad (view_sub _ _ _) _ (by assumption) rfl ?_))
      obtain ⟨y, hy⟩ := get_of_lt (l := n.kids) (i := i) (by omega)
      have hyk := hkk y (List.mem_of_getElem? hy)
      obtain ⟨es, ⟨vk, rfl, hh, r1⟩, E⟩ := LsV.at (by omega) D.k hy
      obtain ⟨o1, p1, rfl⟩ := r1.form
      obtain ⟨bb, off, cs, T, fz, rfl, b9, hc⟩ := E.blk (by omega)
      have hc1 : ∀ (q : Nat) (u : Value), (bvs y.hash)[q]? = some u → cs[off + i * 33 + 1 + q]? = some u := fun q u hu => by rw [Nat.add_assoc]; exact hc (1 + q) u (by rw [Nat.add_comm]; exact hu)
      refine Req.bnd ⟨by omega, by omega⟩ (TSome.mk ?_)
      simp only [addr_add bb, Int.toNat_natCast]
      refine LoadC.at (view_sub _ _ _) b9 (hc 0 _ rfl) (TSl.mk ?_)
      (repeat (first | refine TInt.mk ?_ | refine TBool.mk ?_ | refine TStr.mk ?_ | refine TSl.mk ?_ | refine TPtr.mk ?_ | refine TAgg.mk ?_ | refine T2.mk ?_ | refine T3.mk ?_ | refine TSome.mk ?_ | refine LoadC.ad (view_sub _ _ _) _ (by assumption) rfl ?_))
      refine Req.bnd ⟨by omega, by omega⟩ ?_
      refine TSome.mk ?_
      simp only [addr_add bb]
      refine LoadA.at (view_sub _ _ _) b9 (by simp [hh]) hc1 ?_
      refine AllocC.col c5 5 fun x c7 w7 st7 b7 n7 => ?_
      have T7 : Step c5 [] [5] w6 c7 w7 := st7.fresh
      have hx := size_le_of_none n7
      refine ⟨StableC.ad (view_sub _ _ _) (T7.sub (by decide) _ _ b3) rfl, StableC.ad (view_sub _ _ _) (T7.sub (by decide) _ _ b1) rfl, StableC.at (view_sub _ _ _) (T7.sub (by decide) _ _ b9) (hc 0 _ rfl), StableC.ad (view_sub _ _ _) (T7.sub (by decide) _ _ b1) rfl, StableA.at (view_sub _ _ _) (T7.sub (by decide) _ _ b9) (by simp [hh]) hc1, ?_⟩
      refine app_bytes slU8 (OwS.some_bytes b7) ((r1.mono (T7.sub (by decide))).mono (view_sub _ _ _)) (by simp; omega) fun o8 p8 c8 w8 st8 r8 => ?_
      have T8 := Wr.step0 T7 (by decide) st8 hx
      rw [List.nil_append] at r8 ⊢
      replace S := S.go T8 (by decide) (by decide); replace D := D.mono (T8.sub (by decide)); replace b1 := T8.sub (by decide) _ _ b1; replace b2 := T8.sub (by decide) _ _ b2; replace b3 := T8.sub (by decide) _ _ b3; replace b9 := T8.sub (by decide) _ _ b9; replace r9 := r9.mono (T8.sub (by decide))
      replace ho := ho.mono' (fun _ _ hp => hp.mono (T8.sub (by decide))) (T8.sub (by decide))
      refine TSl.mk ⟨StableC.ad (view_sub _ _ _) b3 rfl, StableC.ad (view_sub _ _ _) b1 rfl, StableA.at (view_sub _ _ _) b9 (by simp [hh]) hc1, ?_⟩
      refine TCells.mk (built_kid _ rfl y.hash hh) ?_
      refine Req.mk' (by simp [hh]) ?_
      refine AllocC.col c8 7 fun z c10 w10 st10 b10 _ => ?_
      replace S := S.go st10.step (by decide) (by decide); replace D := D.mono (st10.step.sub (by decide)); replace b1 := st10.step.sub (by decide) _ _ b1; replace b2 := st10.step.sub (by decide) _ _ b2; replace b3 := st10.step.sub (by decide) _ _ b3; replace r9 := r9.mono (st10.step.sub (by decide)); replace r8 := r8.mono (st10.step.sub (by decide))
      replace ho := ho.mono' (fun _ _ hp => hp.mono (st10.step.sub (by decide))) (st10.step.sub (by decide))
      refine ⟨StableC.ad (view_sub _ _ _) b3 rfl, ?_⟩
      have htl : (n.kids.take i).length ≤ 300 := by rw [List.length_take]; omega
      refine LsO.app slKid ho (m := [y]) (LsW.one (view_sub _ _ _ _ _ b10) (by simp [hh]) ⟨_, rfl, hh, r8.rd⟩) (fun _ _ hp => hp.ones) (by simp only [List.length_singleton]; omega) (by simp only [List.length_singleton]; omega) fun o11 p11 c11 w11 st11 ho => ?_
      replace S := S.go st11.step (by decide) (by decide); replace D := D.mono (st11.step.sub (by decide)); replace b1 := st11.step.sub (by decide) _ _ b1; replace b2 := st11.step.sub (by decide) _ _ b2; replace b3 := st11.step.sub (by decide) _ _ b3; replace r9 := r9.mono (st11.step.sub (by decide))
      replace ho := ho.mono' (fun _ _ hp => hp.mono (st11.step.sub (by decide))) (Sub.refl _)
      (repeat (first | refine TInt.mk ?_ | refine TBool.mk ?_ | refine TStr.mk ?_ | refine TSl.mk ?_ | refine TPtr.mk ?_ | refine TAgg.mk ?_ | refine T2.mk ?_ | refine T3.mk ?_ | refine TSome.mk ?_))
      refine StoreC.ad b3 (by simp) fun w12 st12 _ b3 => ?_
      replace S := S.go st12.step (by decide) (by decide); replace D := D.mono (st12.step.sub (by decide)); replace b1 := st12.step.sub (by decide) _ _ b1; replace b2 := st12.step.sub (by decide) _ _ b2; replace r9 := r9.mono (st12.step.sub (by decide))
      replace ho := ho.mono' (fun _ _ hp => hp.mono (st12.step.sub (by decide))) (st12.step.sub (by decide))
      rw [wrap_i64 (by omega) (by omega)]
      have e : n.kids.take (i + 1) = n.kids.take i ++ [y] := by rw [List.take_add_one, hy]; rfl
      exact back _ (by omega) ⟨c11, o11, _, p11, S, D, b1, b2, b3, r9, by rw [e]; exact ho⟩
    · have : i = n.kids.length := by omega
      subst this
      rw [List.take_length] at ho
      have := ho.len
      subst this
      refine LoadA.all (cs := (n.cells (.slice o9 n.pairs.length p9) (.slice o n.kids.length p)).toArray) (view_sub _ _ _) b3 rfl ?_
      refine RunU.var b2 (by kernel_rfl) rfl (by simp [NodeR.cells, Value.oneCell']) fun w6 st6 b2 => ?_
      replace S := S.go st6.step (by decide) (by decide); replace r9 := r9.mono (st6.step.sub (by decide))
      replace ho := ho.mono' (fun _ _ hp => hp.mono (st6.step.sub (by decide))) (st6.step.sub (by decide))
      refine LoadA.all (view_sub _ _ _) b2 rfl ?_
      exact h (.slice o9 n.pairs.length p9) (.slice o n.kids.length p) _ _ (S.leave c j) ⟨r9.mono (S.out c j (by omega)), LsO.rd ho (fun _ _ hp => hp.mono (S.out c j (by omega))) (S.out c j (by omega))⟩
  refine ⟨?_, ?_⟩
  · refine CopyPairs_c c2 4 (D.p.mono (view_sub _ _ _)) hl hk fun v9 c4 w4 st4 r9 => ?_
    replace S := S.go st4 (by decide) (by decide); replace D := D.mono (st4.sub (by decide)); replace b1 := st4.sub (by decide) _ _ b1; replace b2 := st4.sub (by decide) _ _ b2
    obtain ⟨o9, p9, rfl⟩ := LsV.form r9
    refine TSl.mk ⟨StableC.ad (view_sub _ _ _) b1 rfl, ?_⟩
    refine AllocC.col c4 2 fun a3 c5 w5 st5 b3 _ => ?_
    replace S := S.go st5.step (by decide) (by decide); replace D := D.mono (st5.step.sub (by decide)); replace b1 := st5.step.sub (by decide) _ _ b1; replace b2 := st5.step.sub (by decide) _ _ b2; replace r9 := r9.mono (st5.step.sub (by decide))
    refine ⟨StableC.ad (view_sub _ _ _) b1 rfl, StableC.ad (view_sub _ _ _) b1 rfl, ?_⟩
    refine RunU.var b3 (by kernel_rfl) rfl (by first | (simp [Value.oneCell']; done) | (simp [Value.oneCell', OpR.cells, sv]; done) | (simp [Value.oneCell', AnsR.cells, sv]; done) | rfl) fun w6 st6 b3 => ?_
    replace S := S.go st6.step (by decide) (by decide); replace D := D.mono (st6.step.sub (by decide)); replace b1 := st6.step.sub (by decide) _ _ b1; replace b2 := st6.step.sub (by decide) _ _ b2; replace r9 := r9.mono (st6.step.sub (by decide))
    exact k1 _ _ _ _ _ S D b1 b2 b3 r9
  · refine AllocC.col c2 2 fun a3 c5 w5 st5 b3 _ => ?_
    replace S := S.go st5.step (by decide) (by decide); replace D := D.mono (st5.step.sub (by decide)); replace b1 := st5.step.sub (by decide) _ _ b1; replace b2 := st5.step.sub (by decide) _ _ b2
    refine ⟨StableC.ad (view_sub _ _ _) b1 rfl, StableC.ad (view_sub _ _ _) b1 rfl, ?_⟩
    refine CopyPairs_c c5 4 (D.p.mono (view_sub _ _ _)) hl hk fun v9 c4 w4 st4 r9 => ?_
    replace S := S.go st4 (by decide) (by decide); replace D := D.mono (st4.sub (by decide)); replace b1 := st4.sub (by decide) _ _ b1; replace b2 := st4.sub (by decide) _ _ b2; replace b3 := st4.sub (by decide) _ _ b3
    obtain ⟨o9, p9, rfl⟩ := LsV.form r9
    refine TSl.mk ⟨StableC.ad (view_sub _ _ _) b1 rfl, ?_⟩
    refine RunU.var b3 (by kernel_rfl) rfl (by first | (simp [Value.oneCell']; done) | (simp [Value.oneCell', OpR.cells, sv]; done) | (simp [Value.oneCell', AnsR.cells, sv]; done) | rfl) fun w6 st6 b3 => ?_
    replace S := S.go st6.step (by decide) (by decide); replace D := D.mono (st6.step.sub (by decide)); replace b1 := st6.step.sub (by decide) _ _ b1; replace b2 := st6.step.sub (by decide) _ _ b2; replace r9 := r9.mono (st6.step.sub (by decide))
    exact k1 _ _ _ _ _ S D b1 b2 b3 r9

theorem SameN_c (c : Nat → Nat) (j : Nat) {w : World} {n m : NodeR} {v u v' u' : Value} {R : Value → World → Prop} (hn : NodeV (wv w) n v u) (hm : NodeV (wv w) m v' u') (hl : n.pairs.length ≤ 1099511627776) (hl2 : n.kids.length ≤ 1099511627776)
    (h : ∀ c' w', Step c [] [j] w c' w' → R (.bool (decide (n = m))) w') : CallV Try.prog 24 #[.agg (n.cells v u).toArray, .agg (m.cells v' u').toArray] w R := by
  obtain ⟨ov, cv, rfl⟩ := LsV.form hn.p
  obtain ⟨ou, cu, rfl⟩ := LsV.form hn.k
  obtain ⟨pv, dv, rfl⟩ := LsV.form hm.p
  obtain ⟨pu, du, rfl⟩ := LsV.form hm.k
  have D : NodeV (view (fun _ => 0) 0 w) n (.slice ov n.pairs.length cv) (.slice ou n.kids.length cu) := by rw [view0]; exact hn
  have E : NodeV (view (fun _ => 0) 0 w) m (.slice pv m.pairs.length dv) (.slice pu m.kids.length du) := by rw [view0]; exact hm
  have S := Fr.start w
  refine ref07_Same_vc ?_
  unfold ref07_Same_VC
  refine AllocC.col (fun _ => 0) 1 fun x c1 w1 st1 b1 _ => ?_
  replace S := S.go st1.step (by decide) (by decide); replace D := D.mono (st1.step.sub (by decide)); replace E := E.mono (st1.step.sub (by decide))
  refine AllocC.col c1 2 fun y c2 w2 st2 b2 _ => ?_
  replace S := S.go st2.step (by decide) (by decide); replace D := D.mono (st2.step.sub (by decide)); replace E := E.mono (st2.step.sub (by decide)); replace b1 := st2.step.sub (by decide) _ _ b1
  have fls : ∀ {c' w'}, Fr w c' w' → n ≠ m → R (.bool false) w' := fun S hne => by have := h _ _ (S.leave c j); rwa [decide_eq_false hne] at this
  (repeat (first | refine TInt.mk ?_ | refine TBool.mk ?_ | refine TStr.mk ?_ | refine TSl.mk ?_ | refine TPtr.mk ?_ | refine TAgg.mk ?_ | refine T2.mk ?_ | refine T3.mk ?_ | refine TSome.mk ?_ | refine LoadC.ad (view_sub _ _ _) _ (by assumption) rfl ?_))
  refine BS.ne (fun e => fls S (by rintro rfl; exact e rfl)) (fun e1 => ?_)
  (repeat (first | refine TInt.mk ?_ | refine TBool.mk ?_ | refine TStr.mk ?_ | refine TSl.mk ?_ | refine TPtr.mk ?_ | refine TAgg.mk ?_ | refine T2.mk ?_ | refine T3.mk ?_ | refine TSome.mk ?_ | refine LoadC.ad (view_sub _ _ _) _ (by assumption) rfl ?_))
  refine SamePairs_c c2 (D.p.mono (view_sub _ _ _)) (E.p.mono (view_sub _ _ _)) hl fun w3 st3 => TBool.mk ?_
  replace S := S.go st3 (by decide) (by decide); replace D := D.mono (st3.sub (by decide)); replace E := E.mono (st3.sub (by decide)); replace b1 := st3.sub (by decide) _ _ b1; replace b2 := st3.sub (by decide) _ _ b2
  refine BS.ndec (fun e => fls S (by rintro rfl; exact e rfl)) (fun e2 => ?_)
  (repeat (first | refine TInt.mk ?_ | refine TBool.mk ?_ | refine TStr.mk ?_ | refine TSl.mk ?_ | refine TPtr.mk ?_ | refine TAgg.mk ?_ | refine T2.mk ?_ | refine T3.mk ?_ | refine TSome.mk ?_ | refine LoadC.ad (view_sub _ _ _) _ (by assumption) rfl ?_))
  unfold ref07_Same_K1
  refine BS.ne (fun e => fls S (by rintro rfl; exact e rfl)) (fun e3 => ?_)
  have hlen : n.kids.length = m.kids.length := by omega
  refine LoopI.up n.kids.length (fun i w' => Step c2 [] [] w3 c2 w' ∧ n.kids.take i = m.kids.take i) ⟨.refl .., by simp⟩ ?_
  rintro i w4 B hi ⟨st4, heq⟩ back
  replace S := S.go st4 (by decide) (by decide); replace D := D.mono (st4.sub (by decide)); replace E := E.mono (st4.sub (by decide)); replace b1 := st4.sub (by decide) _ _ b1; replace b2 := st4.sub (by decide) _ _ b2
  (repeat (first | refine TInt.mk ?_ | refine TBool.mk ?_ | refine TStr.mk ?_ | refine TSl.mk ?_ | refine TPtr.mk ?_ | refine TAgg.mk ?_ | refine T2.mk ?_ | refine T3.mk ?_ | refine TSome.mk ?_ | refine LoadC.ad (view_sub _ _ _) _ (by assumption) rfl ?_))
  refine BS.dec (fun hlt => ?_) (fun hge => ?_)
  · refine DrewC.col c2 fun w5 st5 => ?_
    replace S := S.go st5 (by decide) (by decide); replace D := D.mono (st5.sub (by decide)); replace E := E.mono (st5.sub (by decide)); replace b1 := st5.sub (by decide) _ _ b1; replace b2 := st5.sub (by decide) _ _ b2
    have st := st4.trans st5
    obtain ⟨s, hs⟩ := get_of_lt (l := n.kids) (i := i) (by omega)
    obtain ⟨t, ht⟩ := get_of_lt (l := m.kids) (i := i) (by omega)
    obtain ⟨es, ⟨vk, rfl, q1, a1⟩, F⟩ := LsV.at (by omega) D.k hs
    obtain ⟨fs, ⟨uk, rfl, q2, a2⟩, G⟩ := LsV.at (by omega) E.k ht
    obtain ⟨_, _, rfl⟩ := a1.form
    obtain ⟨_, _, rfl⟩ := a2.form
    have no : s ≠ t → R (.bool false) w5 := fun hne => fls S (by rintro rfl; rw [hs] at ht; exact hne (by simpa using ht))
    (repeat (first | refine TInt.mk ?_ | refine TBool.mk ?_ | refine TStr.mk ?_ | refine TSl.mk ?_ | refine TPtr.mk ?_ | refine TAgg.mk ?_ | refine T2.mk ?_ | refine T3.mk ?_ | refine TSome.mk ?_ | refine LoadC.ad (view_sub _ _ _) _ (by assumption) rfl ?_))
    refine Req.bnd ⟨by omega, by omega⟩ (F.ld (k := 0) (view_sub _ _ _) rfl (TSl.mk (string_rule strU8 (a1.mono (view_sub _ _ _)) (TStr.mk ?_))))
    (repeat (first | refine TInt.mk ?_ | refine TBool.mk ?_ | refine TStr.mk ?_ | refine TSl.mk ?_ | refine TPtr.mk ?_ | refine TAgg.mk ?_ | refine T2.mk ?_ | refine T3.mk ?_ | refine TSome.mk ?_ | refine LoadC.ad (view_sub _ _ _) _ (by assumption) rfl ?_))
    refine Req.bnd ⟨by omega, by omega⟩ (G.ld (k := 0) (view_sub _ _ _) rfl (TSl.mk (string_rule strU8 (a2.mono (view_sub _ _ _)) (TStr.mk ?_))))
    rw [strEq_of]
    refine BS.ndec (fun hne => no fun e => hne (by rw [e])) (fun g1 => ?_)
    have lda : ∀ {h0 : View} {z : KidR} {v0 : Value} {o : Option Addr} {K : Array Value → Prop}, Elt h0 o 33 i (v0 :: bvs z.hash) → Sub h0 (wv w5) → z.hash.length = 32 → K (bvs z.hash).toArray → TSome o fun a => LoadA w5 ((a.add ((i : Int).toNat * 33)).add 1) 32 K := by
      intro h0 z v0 o K F hsub hz hK
      obtain ⟨bb, off, cs, T, fz, rfl, b9, hc⟩ := F.blk (by omega)
      refine TSome.mk ?_
      rw [addr_add, addr_add, Int.toNat_natCast]
      exact LoadA.at hsub b9 (by simp [hz]) (fun q u hu => by rw [Nat.add_assoc]; exact hc (1 + q) u (by rw [Nat.add_comm]; exact hu)) hK
    (repeat (first | refine TInt.mk ?_ | refine TBool.mk ?_ | refine TStr.mk ?_ | refine TSl.mk ?_ | refine TPtr.mk ?_ | refine TAgg.mk ?_ | refine T2.mk ?_ | refine T3.mk ?_ | refine TSome.mk ?_ | refine LoadC.ad (view_sub _ _ _) _ (by assumption) rfl ?_))
    refine Req.bnd ⟨by omega, by omega⟩ (lda F (view_sub _ _ _) q1 ?_)
    (repeat (first | refine TInt.mk ?_ | refine TBool.mk ?_ | refine TStr.mk ?_ | refine TSl.mk ?_ | refine TPtr.mk ?_ | refine TAgg.mk ?_ | refine T2.mk ?_ | refine T3.mk ?_ | refine TSome.mk ?_ | refine LoadC.ad (view_sub _ _ _) _ (by assumption) rfl ?_))
    refine Req.bnd ⟨by omega, by omega⟩ (lda G (view_sub _ _ _) q2 ?_)
    refine EqA.bytes_ne arrHash (by kernel_rfl) q1 q2 ?_
    refine BS.ndec (fun hne => no fun e => hne (by rw [e])) (fun g2 => ?_)
    rw [wrap_i64 (by omega) (by omega)]
    refine back _ (by omega) ⟨st, ?_⟩
    have : s = t := by
      obtain ⟨s1, s2⟩ := s
      obtain ⟨t1, t2⟩ := t
      simp only at g1 g2
      rw [g1, g2]
    rw [List.take_add_one, List.take_add_one, heq, hs, ht, this]
  · have : i = n.kids.length := by omega
    subst this
    rw [List.take_length, hlen, List.take_length] at heq
    have := h _ _ (S.leave c j)
    have e : n = m := by
      obtain ⟨a1, a2, a3⟩ := n
      obtain ⟨b1, b2, b3⟩ := m
      simp only at e1 e2 heq
      rw [e1, e2, heq]
    rwa [decide_eq_true e] at this

theorem great7 (c : Nat → Nat) (j : Nat) {w : World} {n : NodeR} {v u : Value} {R : Value → World → Prop} (hv : NodeV (wv w) n v u)
    (hyes : ∀ c' w', Step c [] [j] w c' w' → R (.bool true) w')
    (hno : n.pairs.length ≤ 1000 → (∀ p ∈ n.pairs, p.1.length ≤ 8000 ∧ p.2.length ≤ 8000) → n.kids.length ≤ 300 → (∀ k ∈ n.kids, k.first.length ≤ 70000) → ∀ c' w', Step c [] [j] w c' w' → R (.bool false) w') :
    CallV Try.prog 20 #[.agg (n.cells v u).toArray] w R := by
  obtain ⟨ov, cv, rfl⟩ := LsV.form hv.p
  obtain ⟨ou, cu, rfl⟩ := LsV.form hv.k
  have D : NodeV (view (fun _ => 0) 0 w) n (.slice ov n.pairs.length cv) (.slice ou n.kids.length cu) := by rw [view0]; exact hv
  have S := Fr.start w
  refine law07_great_vc ?_
  unfold law07_great_VC
  refine AllocC.col (fun _ => 0) 1 fun a c1 w1 st1 b1 _ => ?_
  replace S := S.go st1.step (by decide) (by decide); replace D := D.mono (st1.step.sub (by decide))
  (repeat (first | refine TInt.mk ?_ | refine TBool.mk ?_ | refine TStr.mk ?_ | refine TSl.mk ?_ | refine TPtr.mk ?_ | refine TAgg.mk ?_ | refine T2.mk ?_ | refine T3.mk ?_ | refine TSome.mk ?_ | refine LoadC.ad (view_sub _ _ _) _ (by assumption) rfl ?_))
  refine Great_pairs c1 (D.p.mono (view_sub _ _ _)) (fun w2 st2 => TBool.mk (BS.yes rfl (hyes _ _ ((S.go st2 (by decide) (by decide)).leave c j)))) (fun hl hk w2 st2 => TBool.mk (BS.no rfl ?_))
  replace S := S.go st2 (by decide) (by decide); replace D := D.mono (st2.sub (by decide)); replace b1 := st2.sub (by decide) _ _ b1
  (repeat (first | refine TInt.mk ?_ | refine TBool.mk ?_ | refine TStr.mk ?_ | refine TSl.mk ?_ | refine TPtr.mk ?_ | refine TAgg.mk ?_ | refine T2.mk ?_ | refine T3.mk ?_ | refine TSome.mk ?_ | refine LoadC.ad (view_sub _ _ _) _ (by assumption) rfl ?_))
  unfold law07_great_K1
  refine BS.dec (fun _ => hyes _ _ (S.leave c j)) (fun g => ?_)
  (repeat (first | refine TInt.mk ?_ | refine TBool.mk ?_ | refine TStr.mk ?_ | refine TSl.mk ?_ | refine TPtr.mk ?_ | refine TAgg.mk ?_ | refine T2.mk ?_ | refine T3.mk ?_ | refine TSome.mk ?_ | refine LoadC.ad (view_sub _ _ _) _ (by assumption) rfl ?_))
  refine LoopI.up n.kids.length (fun i w' => ∃ c', Fr w c' w' ∧ NodeV (view c' 0 w') n (.slice ov n.pairs.length cv) (.slice ou n.kids.length cu) ∧ ∀ k ∈ n.kids.take i, k.first.length ≤ 70000) ⟨c1, S, D, by simp⟩ ?_
  rintro i w3 B hi ⟨c3, S, D, hk2⟩ back
  refine BS.dec (fun hlt => ?_) (fun hge => ?_)
  · obtain ⟨y, hy⟩ := get_of_lt (l := n.kids) (i := i) (by omega)
    obtain ⟨es, hkp, E⟩ := LsV.at (by omega) D.k hy
    obtain ⟨vk, rfl, hh, r1⟩ := id hkp
    obtain ⟨o1, p1, rfl⟩ := r1.form
    refine Req.bnd ⟨by omega, by omega⟩ (E.all (view_sub _ _ _) ?_)
    refine AllocC.col c3 5 fun z c4 w4 st4 b4 _ => ?_
    replace S := S.go st4.step (by decide) (by decide); replace D := D.mono (st4.step.sub (by decide))
    refine RunU.var b4 (by rw [show (Value.slice o1 y.first.length p1 :: bvs y.hash).toArray.size = 33 by simp [hh]]; kernel_rfl) (by simp [hh]) (all_of hkp.ones) fun w5 st5 b4 => ?_
    replace S := S.go st5.step (by decide) (by decide); replace D := D.mono (st5.step.sub (by decide))
    (repeat (first | refine TInt.mk ?_ | refine TBool.mk ?_ | refine TStr.mk ?_ | refine TSl.mk ?_ | refine TPtr.mk ?_ | refine TAgg.mk ?_ | refine T2.mk ?_ | refine T3.mk ?_ | refine TSome.mk ?_ | refine LoadC.ad (view_sub _ _ _) _ (by assumption) rfl ?_))
    refine BS.dec (fun _ => hyes _ _ (S.leave c j)) (fun g2 => ?_)
    rw [wrap_i64 (by omega) (by omega)]
    refine back _ (by omega) ⟨c4, S, D, fun k hkm => ?_⟩
    rw [List.take_add_one, hy, Option.toList_some, List.mem_append, List.mem_singleton] at hkm
    rcases hkm with hkm | rfl
    · exact hk2 k hkm
    · omega
  · have : i = n.kids.length := by omega
    subst this
    rw [List.take_length] at hk2
    exact hno hl hk (by omega) hk2 _ _ (S.leave c j)

theorem zero_right : NodeR.zero.right := ⟨by decide, by decide, .inl ⟨rfl, rfl, by decide, rise_nil⟩⟩
theorem zero_hs : NodeR.zero.hs := by intro k hk; simp [NodeR.zero] at hk
theorem speaks07 (c : Nat → Nat) (j : Nat) {w : World} {R : Value → World → Prop} (h : ∀ c' w', Step c [] [j] w c' w' → R (.bool true) w') : CallV Try.prog 19 #[] w R := by
  have S := Fr.start w
  have hz : ∀ (h0 : View), NodeV h0 NodeR.zero (.slice none 0 0) (.slice none 0 0) := fun h0 => ⟨LsV.nil .., LsV.nil ..⟩
  refine law07_speaks_vc ?_
  unfold law07_speaks_VC
  have hen : NodeR.zero.enc = [84, 0, 0] := by decide
  have hle : NodeR.zero.enc.length ≤ 470 := by rw [hen]; decide
  refine node_Write_c (fun _ => 0) 1 (n := NodeR.zero) (hz _) ⟨by decide, by intro p hp; simp [NodeR.zero] at hp, by intro p hp; simp [NodeR.zero] at hp⟩ fun v1 c1 w1 st1 r1 => ?_
  replace S := S.go st1 (by decide) (by decide)
  rw [wrN_yes zero_right hle] at r1 ⊢
  obtain ⟨o1, p1, rfl⟩ := r1.form
  (repeat (first | refine TInt.mk ?_ | refine TBool.mk ?_ | refine TStr.mk ?_ | refine TSl.mk ?_ | refine TPtr.mk ?_ | refine TAgg.mk ?_ | refine T2.mk ?_ | refine T3.mk ?_ | refine TSome.mk ?_))
  refine node_Read_c c1 2 (r1.rd.mono (view_sub _ _ _)) (by rw [hen]; decide) fun v2 u2 c2 w2 st2 r2 => ?_
  replace S := S.go st2 (by decide) (by decide); replace r1 := r1.mono (st2.sub (by decide))
  have er : rdN (NodeR.zero.enc, (0 : Int)).1 = (NodeR.zero, 0) := NodeR.read zero_right hle zero_hs
  rw [er] at r2 ⊢
  refine T2.mk (TAgg.mk (TInt.mk ?_))
  refine AllocC.col c2 3 fun a c3 w3 st3 b3 _ => ?_
  replace S := S.go st3.step (by decide) (by decide); replace r1 := r1.mono (st3.step.sub (by decide)); replace r2 := r2.mono (st3.step.sub (by decide))
  obtain ⟨o2, p2, rfl⟩ := LsV.form r2.p
  obtain ⟨q2, t2, rfl⟩ := LsV.form r2.k
  refine RunU.var b3 (by kernel_rfl) rfl (by simp [NodeR.cells, Value.oneCell']) fun w4 st4 b3 => ?_
  replace S := S.go st4.step (by decide) (by decide); replace r1 := r1.mono (st4.step.sub (by decide)); replace r2 := r2.mono (st4.step.sub (by decide))
  refine BS.yes rfl ?_
  refine string_rule strU8 (r1.rd.mono (view_sub _ _ _)) (TStr.mk ?_)
  rw [show (⟨#[84, 0, 0]⟩ : ByteArray) = strOf [84, 0, 0] from rfl, strEq_of, decide_eq_true hen]
  refine BS.yes rfl (BS.yes rfl ?_)
  refine LoadA.all (view_sub _ _ _) b3 rfl ?_
  refine SameN_c c3 4 (m := NodeR.zero) (r2.mono (view_sub _ _ _)) (hz _) (by decide) (by decide) fun c5 w5 st5 => TBool.mk ?_
  replace S := S.go st5 (by decide) (by decide)
  rw [decide_eq_true rfl]
  exact h _ _ (S.leave c j)
end Go.Proofs.Ythkboikbpbcdeaa

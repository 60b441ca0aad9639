/-
  Nodes: the document's reading.
-/
import Derived.Test.YthkboikbpbcdeaaNode4
set_option linter.unusedVariables false
set_option linter.unusedSimpArgs false
namespace Go.Proofs.Ythkboikbpbcdeaa
open Go.Vc
attribute [local irreducible] TInt TBool TStr TPtr TSl TAgg TMap TChan T2 T3 T4 BS Req TSome TCell TByte LoadC LoadA StoreC AllocC RunV RunU CallV ExtV EqA StableC StableA StableV TCells ReadV
attribute [local irreducible] eU eT eE

theorem REye_H {c : Nat → Nat} {i q : Nat} (j : Nat) {w : World} {a : Addr} {vB : Value} {D l : List UInt8} {R : Value → World → Prop}
    (hij : i ≠ j) (hq : q ≠ i) (hp : REye (view c i w) a vB D l) (hB : RdS (view c q w) vB 1 D.length (bvs D)) (hD : D.length ≤ 1099511627776)
    (hbad : (eH l).2.2 = 20 → ∀ v c' w', Step c [] [j] w c' w' → OwS (view c' j w') v 5 1 0 [] → R (.tuple #[v, .int .i64 20]) w')
    (h : (eH l).2.2 = 0 → ∀ v c' w', Step c [i] [j] w c' w' → REye (view c' i w') a vB D (eH l).2.1 → OwS (view c' j w') v 5 1 32 (bvs (eH l).1) → R (.tuple #[v, .int .i64 0]) w') :
    CallV Try.prog 42 #[.pointer (some a), .int .i64 32] w R := by
  obtain ⟨p, hr, hpD, rfl⟩ := hp
  have hl : (D.drop p).length = D.length - p := by simp
  refine ref_Eye_Raw j hij hq hr hB hpD hD (fun hn => by omega) (fun _ hs v c1 w1 st ho => ?_) (fun _ hs v c1 w1 st he ho => ?_)
  · exact hbad (by unfold eH; rw [if_neg (by omega)]) v c1 w1 st ho
  · have := h (by unfold eH; rw [if_pos (by omega)]) v c1 w1 st
    unfold eH at this
    rw [if_pos (by omega)] at this
    exact this ⟨p + 32, he, by omega, by rw [List.drop_drop]⟩ ho

theorem ref_ReadN_c (c : Nat → Nat) (j : Nat) {w : World} {v : Value} {l : List UInt8} {R : Value → World → Prop} (hr : RdS (wv w) v 1 l.length (bvs l)) (hl : l.length ≤ 1000000)
    (h : ∀ v u c' w', Step c [] [j] w c' w' → NodeV (view c' j w') (rdN l).1 v u → R (.tuple #[.agg ((rdN l).1.cells v u).toArray, .int .i64 (rdN l).2]) w') :
    CallV Try.prog 26 #[v] w R := by
  obtain ⟨o0, p0, rfl⟩ := hr.form
  have D : RdS (view (fun _ => 0) 0 w) (.slice o0 l.length p0) 1 l.length (bvs l) := by rw [view0]; exact hr
  have S := Fr.start w
  refine ref07_Read_vc ?_
  unfold ref07_Read_VC
  refine AllocC.col (fun _ => 0) 3 fun a c1 w1 st1 b2 _ => ?_
  replace S := S.go st1.step (by decide) (by decide); replace D := D.mono (st1.step.sub (by decide))
  refine AllocC.col c1 8 fun n4 c2 w2 st2 b4 _ => ?_
  replace S := S.go st2.step (by decide) (by decide); replace D := D.mono (st2.step.sub (by decide)); replace b2 := st2.step.sub (by decide) _ _ b2
  refine RunU.var b4 (by kernel_rfl) rfl (by first | (simp [Value.oneCell']; done) | (simp [Value.oneCell', OpR.cells, sv]; done) | (simp [Value.oneCell', AnsR.cells, sv]; done) | rfl) fun w3 st3 b4 => ?_
  replace S := S.go st3.step (by decide) (by decide); replace D := D.mono (st3.step.sub (by decide)); replace b2 := st3.step.sub (by decide) _ _ b2
  have none' : ∀ {c' w'}, Fr w c' w' → view c' 3 w' a = some (.cells #[.int .i64 0, .slice none 0 0, .slice none 0 0] 38 (0, 0)) → view c' 8 w' n4 = some (.cells #[.int .i64 0, .slice none 0 0, .slice none 0 0] 38 (0, 0)) → ¬ okN' l →
      LoadA w' ⟨n4, 0, none⟩ 3 fun cs37 => RunU Try.prog (storeVar 38 ⟨a, 0, none⟩ (.agg cs37)) w' fun w1 => LoadA w1 ⟨a, 0, none⟩ 3 fun csR => R (.tuple #[.agg csR, .int .i64 (22 : Int)]) w1 := by
    intro c' w' S b2 b4 hno
    refine LoadA.all (view_sub _ _ _) b4 rfl ?_
    refine RunU.var b2 (by kernel_rfl) rfl (by first | (simp [Value.oneCell']; done) | (simp [Value.oneCell', OpR.cells, sv]; done) | (simp [Value.oneCell', AnsR.cells, sv]; done) | rfl) fun w16 st16 b2 => ?_
    replace S := S.go st16.step (by decide) (by decide)
    refine LoadA.all (view_sub _ _ _) b2 rfl ?_
    have := h (.slice none 0 0) (.slice none 0 0) _ _ (S.leave c j)
    rw [rdN_no hno] at this
    exact this ⟨LsV.nil .., LsV.nil ..⟩
  have bad1 : ∀ {c' w'}, Fr w c' w' → view c' 3 w' a = some (.cells #[.int .i64 0, .slice none 0 0, .slice none 0 0] 38 (0, 0)) → view c' 8 w' n4 = some (.cells #[.int .i64 0, .slice none 0 0, .slice none 0 0] 38 (0, 0)) → ¬ okN' l → ref07_Read_K1 o0 l.length p0 ⟨a, 0, none⟩ ⟨n4, 0, none⟩ true w' R := by
    intro c' w' S b2 b4 hno
    unfold ref07_Read_K1
    exact BS.yes rfl (none' S b2 b4 hno)
  refine BS.dec (fun g => bad1 S b2 b4 fun hok => ?_) (fun g1 => ?_)
  · have h1 := congrArg List.length hok.2.2
    unfold NodeR.enc at h1
    simp only [List.length_cons] at h1
    omega
  refine BS.dec (fun g => bad1 S b2 b4 fun hok => absurd ((okN_iff l).1 hok).1 (by omega)) (fun g2 => ?_)
  obtain ⟨x1, x2, x3, r, rfl⟩ : ∃ x1 x2 x3 r, l = x1 :: x2 :: x3 :: r := by
    match l, g1 with
    | [], h => simp at h
    | [_], h => simp at h
    | [_, _], h => simp at h
    | x1 :: x2 :: x3 :: r, _ => exact ⟨x1, x2, x3, r, rfl⟩
  have e1 : eU 1 (x1 :: x2 :: x3 :: r) = (x1.toNat, x2 :: x3 :: r, 0) := byte_one _ _
  have e2 : eU 1 (x2 :: x3 :: r) = (x2.toNat, x3 :: r, 0) := byte_one _ _
  have e3 : eU 1 (x3 :: r) = (x3.toNat, r, 0) := byte_one _ _
  have iff1 := okN_iff (x1 :: x2 :: x3 :: r)
  rw [e1] at iff1
  have hx2 := x2.toNat_lt
  have hx3 := x3.toNat_lt
  refine Req.bnd ⟨by omega, by simp; omega⟩ (D.eltc (view_sub _ _ _) (k := 0) (u := bv x1) rfl (TInt.mk ?_))
  refine BS.ne (fun g => bad1 S b2 b4 fun hok => g (by have := (iff1.1 hok).2.2.1; omega)) (fun g3 => ?_)
  refine Req.bnd ⟨by omega, by simp; omega⟩ (D.eltc (view_sub _ _ _) (k := 1) (u := bv x2) rfl (TInt.mk ?_))
  unfold ref07_Read_K1
  have hlevel : (decN (x1 :: x2 :: x3 :: r)).1.level = (x2.toNat : Int) := by unfold decN; simp only [e1, e2]; split <;> rfl
  refine BS.dec (fun g => none' S b2 b4 fun hok => ?_) (fun g4 => ?_)
  · have := hok.1.2.1; omega
  refine Req.bnd ⟨by omega, by simp; omega⟩ (D.eltc (view_sub _ _ _) (k := 1) (u := bv x2) rfl (TInt.mk ?_))
  rw [wrap_i64 (n := ((x2.toNat : Nat) : Int)) (by omega) (by omega)]
  refine AllocC.col c2 4 fun a5 c5 w5 st5 b5 _ => ?_
  replace S := S.go st5.step (by decide) (by decide); replace D := D.mono (st5.step.sub (by decide)); replace b2 := st5.step.sub (by decide) _ _ b2; replace b4 := st5.step.sub (by decide) _ _ b4
  refine RunU.var b5 (by kernel_rfl) rfl (by first | (simp [Value.oneCell']; done) | (simp [Value.oneCell', OpR.cells, sv]; done) | (simp [Value.oneCell', AnsR.cells, sv]; done) | rfl) fun w6 st6 b5 => ?_
  replace S := S.go st6.step (by decide) (by decide); replace D := D.mono (st6.step.sub (by decide)); replace b2 := st6.step.sub (by decide) _ _ b2; replace b4 := st6.step.sub (by decide) _ _ b4
  refine AllocC.col c5 2 fun x c7 w7 st7 bx _ => ?_
  replace S := S.go st7.step (by decide) (by decide); replace D := D.mono (st7.step.sub (by decide)); replace b2 := st7.step.sub (by decide) _ _ b2; replace b4 := st7.step.sub (by decide) _ _ b4; replace b5 := st7.step.sub (by decide) _ _ b5
  have he : REye (view c7 2 w7) ⟨x, 0, none⟩ (.slice o0 (x1 :: x2 :: x3 :: r).length p0) (x1 :: x2 :: x3 :: r) r := ⟨3, ⟨x, rfl, bx⟩, by omega, rfl⟩
  have fin : ∀ c' w' v u, Fr w c' w' → RdS (view c' 0 w') (.slice o0 (x1 :: x2 :: x3 :: r).length p0) 1 (x1 :: x2 :: x3 :: r).length (bvs (x1 :: x2 :: x3 :: r)) → view c' 3 w' a = some (.cells #[.int .i64 0, .slice none 0 0, .slice none 0 0] 38 (0, 0)) → view c' 8 w' n4 = some (.cells #[.int .i64 0, .slice none 0 0, .slice none 0 0] 38 (0, 0)) →
      view c' 4 w' a5 = some (.cells ((decN (x1 :: x2 :: x3 :: r)).1.cells v u).toArray 38 (0, 0)) → NodeV (views c' [5, 6] w') (decN (x1 :: x2 :: x3 :: r)).1 v u → REye (view c' 2 w') ⟨x, 0, none⟩ (.slice o0 (x1 :: x2 :: x3 :: r).length p0) (x1 :: x2 :: x3 :: r) (decN (x1 :: x2 :: x3 :: r)).2.1 → (decN (x1 :: x2 :: x3 :: r)).2.2 = 0 →
      LoadC w' ((⟨x, 0, none⟩ : Addr).add 1) fun v111 => TInt .i64 v111 fun n111 => BS (n111 != (((x1 :: x2 :: x3 :: r).length : Nat) : Int)) (ref07_Read_K2 ⟨a, 0, none⟩ ⟨n4, 0, none⟩ (⟨a5, 0, none⟩ : Addr) true w' R) (LoadA w' (⟨a5, 0, none⟩ : Addr) 3 fun cs116 => CallV Try.prog 33 #[.agg cs116] w' fun v117 w22 => TBool v117 fun b117 => ref07_Read_K2 ⟨a, 0, none⟩ ⟨n4, 0, none⟩ (⟨a5, 0, none⟩ : Addr) (!b117) w22 R) := by
    intro c' w' v u S D b2 b4 b5 M1 he hcode
    have hmild := decN_mild (x1 :: x2 :: x3 :: r)
    obtain ⟨ov, cv, rfl⟩ := LsV.form M1.p
    obtain ⟨ou, cu, rfl⟩ := LsV.form M1.k
    obtain ⟨k, ⟨b', eb, hb'⟩, hk, hrest⟩ := he
    cases eb
    refine LoadC.ad (view_sub _ _ _) (.int .i64 (k : Nat)) hb' rfl (TInt.mk ?_)
    have k2 : ∀ (b : Bool) c' w', Fr w c' w' → view c' 3 w' a = some (.cells #[.int .i64 0, .slice none 0 0, .slice none 0 0] 38 (0, 0)) → view c' 8 w' n4 = some (.cells #[.int .i64 0, .slice none 0 0, .slice none 0 0] 38 (0, 0)) → view c' 4 w' a5 = some (.cells ((decN (x1 :: x2 :: x3 :: r)).1.cells (.slice ov (decN (x1 :: x2 :: x3 :: r)).1.pairs.length cv) (.slice ou (decN (x1 :: x2 :: x3 :: r)).1.kids.length cu)).toArray 38 (0, 0)) →
        NodeV (views c' [5, 6] w') (decN (x1 :: x2 :: x3 :: r)).1 (.slice ov (decN (x1 :: x2 :: x3 :: r)).1.pairs.length cv) (.slice ou (decN (x1 :: x2 :: x3 :: r)).1.kids.length cu) → (b = false ↔ okN' (x1 :: x2 :: x3 :: r)) → ref07_Read_K2 (⟨a, 0, none⟩ : Addr) ⟨n4, 0, none⟩ (⟨a5, 0, none⟩ : Addr) b w' R := by
      intro b c' w' S b2 b4 b5 M1 hb
      unfold ref07_Read_K2
      cases b
      · refine BS.no rfl ?_
        refine LoadA.all (view_sub _ _ _) b5 rfl ?_
        refine RunU.var b2 (by kernel_rfl) rfl (by simp [NodeR.cells, Value.oneCell']) fun w16 st16 b2 => ?_
        replace S := S.go st16.step (by decide) (by decide); replace M1 := M1.mono (st16.step.subs (by decide))
        refine LoadA.all (view_sub _ _ _) b2 rfl ?_
        have := h (.slice ov (decN (x1 :: x2 :: x3 :: r)).1.pairs.length cv) (.slice ou (decN (x1 :: x2 :: x3 :: r)).1.kids.length cu) _ _ (S.leave c j)
        rw [rdN_yes (hb.1 rfl)] at this
        exact this (M1.mono (S.outs c j (by decide)))
      · exact BS.yes rfl (none' S b2 b4 (fun hh => by simpa using hb.2 hh))
    refine BS.ne (fun hne => ?_) (fun he0 => ?_)
    · refine k2 true _ _ S b2 b4 b5 M1 ⟨fun h => by simp at h, fun hh => absurd ?_ hne⟩
      have := (iff1.1 hh).2.2.2.2.1
      rw [this] at hrest
      have := congrArg List.length hrest
      rw [List.length_drop, List.length_nil] at this
      omega
    · refine LoadA.all (view_sub _ _ _) b5 rfl ?_
      refine Right_c c' 7 (M1.mono (views_sub _ _ _)) (by have := hmild.1; omega) fun b c12 w12 st12 hb => TBool.mk ?_
      replace S := S.go st12 (by decide) (by decide); replace b2 := st12.sub (by decide) _ _ b2; replace b4 := st12.sub (by decide) _ _ b4; replace b5 := st12.sub (by decide) _ _ b5; replace M1 := M1.mono (st12.subs (by decide))
      refine k2 _ _ _ S b2 b4 b5 M1 ?_
      rw [iff1]
      have hnil : (decN (x1 :: x2 :: x3 :: r)).2.1 = [] := by rw [hrest]; exact List.drop_eq_nil_of_le (by omega)
      constructor
      · intro hf
        exact ⟨by omega, rfl, by omega, hcode, hnil, hb.1 (by simpa using hf)⟩
      · intro hh
        simpa using hb.2 hh.2.2.2.2.2
  by_cases h0 : x2.toNat = 0
  · have hd : decN (x1 :: x2 :: x3 :: r) = (⟨x2.toNat, (many eP x3.toNat r).1, []⟩, (many eP x3.toNat r).2.1, (many eP x3.toNat r).2.2) := by
      unfold decN; simp only [e1, e2, e3]; rw [if_pos h0]; simp
    refine LoopI.up x3.toNat (fun i w' => ∃ c' o n p, Fr w c' w' ∧ RdS (view c' 0 w') (.slice o0 (x1 :: x2 :: x3 :: r).length p0) 1 (x1 :: x2 :: x3 :: r).length (bvs (x1 :: x2 :: x3 :: r)) ∧ view c' 3 w' a = some (.cells #[.int .i64 0, .slice none 0 0, .slice none 0 0] 38 (0, 0)) ∧ view c' 8 w' n4 = some (.cells #[.int .i64 0, .slice none 0 0, .slice none 0 0] 38 (0, 0)) ∧
      view c' 4 w' a5 = some (.cells #[.int .i64 (x2.toNat : Nat), .slice o n p, .slice none 0 0] 38 (0, 0)) ∧ REye (view c' 2 w') ⟨x, 0, none⟩ (.slice o0 (x1 :: x2 :: x3 :: r).length p0) (x1 :: x2 :: x3 :: r) (many eP i r).2.1 ∧ LsO PairP 35 2 (view c' 6 w') (view c' 5 w') (.slice o n p) (many eP i r).1 ∧ (many eP i r).2.2 = 0)
      ⟨c7, none, 0, 0, S, D, b2, b4, b5, he, LsO.nil .., rfl⟩ ?_
    rintro i w8 B hi ⟨c8, o, n, p, S, D, b2, b4, b5, he, ho, hcode⟩ back
    have hil := many_length eP i r
    refine Req.bnd ⟨by omega, by simp; omega⟩ (D.eltc (view_sub _ _ _) (k := 2) (u := bv x3) rfl (TInt.mk ?_))
    rw [wrap_i64 (n := ((x3.toNat : Nat) : Int)) (by omega) (by omega)]
    refine BS.dec (fun hlt => ?_) (fun hge => ?_)
    · have hno : (eP (many eP i r).2.1).2.2 ≠ 0 → ¬ okN' (x1 :: x2 :: x3 :: r) := fun hne hok => by
        have h1 := (iff1.1 hok).2.2.2.1
        rw [hd] at h1
        have h2 := many_mono eP_code (show i + 1 ≤ x3.toNat by omega) r
        have h3 := eP_code (many eP i r).2.1
        simp only [many] at h1 h2
        omega
      have t1 := eT_bd (many eP i r).2.1
      have t2 := eT_bd (eT (many eP i r).2.1).2.1
      refine REye_T 5 (by omega) (by omega) he D (by omega) fun v9 c9 w9 st9 he r9 => ?_
      replace S := S.go st9 (by decide) (by decide); replace D := D.mono (st9.sub (by decide)); replace b2 := st9.sub (by decide) _ _ b2; replace b4 := st9.sub (by decide) _ _ b4; replace b5 := st9.sub (by decide) _ _ b5
      replace ho := ho.mono' (fun _ _ hp => hp.mono (st9.sub (by decide))) (st9.sub (by decide))
      obtain ⟨o9, p9, rfl⟩ := r9.form
      (repeat (first | refine TInt.mk ?_ | refine TBool.mk ?_ | refine TStr.mk ?_ | refine TSl.mk ?_ | refine TPtr.mk ?_ | refine TAgg.mk ?_ | refine T2.mk ?_ | refine T3.mk ?_ | refine TSome.mk ?_))
      refine BS.ne (fun hne => none' S b2 b4 (hno (by simp only [eP]; omega))) (fun hz1 => ?_)
      (repeat (first | refine TInt.mk ?_ | refine TBool.mk ?_ | refine TStr.mk ?_ | refine TSl.mk ?_ | refine TPtr.mk ?_ | refine TAgg.mk ?_ | refine T2.mk ?_ | refine T3.mk ?_ | refine TSome.mk ?_ | refine LoadC.ad (view_sub _ _ _) _ (by assumption) rfl ?_))
      refine BS.eq (fun _ => ?_) (fun e => absurd (by omega) e)
      refine REye_T 5 (by omega) (by omega) he D (by omega) fun v10 c10 w10 st10 he r10 => ?_
      replace S := S.go st10 (by decide) (by decide); replace D := D.mono (st10.sub (by decide)); replace b2 := st10.sub (by decide) _ _ b2; replace b4 := st10.sub (by decide) _ _ b4; replace b5 := st10.sub (by decide) _ _ b5; replace r9 := r9.mono (st10.sub (by decide))
      replace ho := ho.mono' (fun _ _ hp => hp.mono (st10.sub (by decide))) (st10.sub (by decide))
      obtain ⟨o10, p10, rfl⟩ := r10.form
      (repeat (first | refine TInt.mk ?_ | refine TBool.mk ?_ | refine TStr.mk ?_ | refine TSl.mk ?_ | refine TPtr.mk ?_ | refine TAgg.mk ?_ | refine T2.mk ?_ | refine T3.mk ?_ | refine TSome.mk ?_))
      refine BS.ne (fun hne => none' S b2 b4 (hno (by simp only [eP]; omega))) (fun hz2 => ?_)
      (repeat (first | refine TInt.mk ?_ | refine TBool.mk ?_ | refine TStr.mk ?_ | refine TSl.mk ?_ | refine TPtr.mk ?_ | refine TAgg.mk ?_ | refine T2.mk ?_ | refine T3.mk ?_ | refine TSome.mk ?_ | refine LoadC.ad (view_sub _ _ _) _ (by assumption) rfl ?_))
      refine AllocC.col c10 7 fun y c11 w11 st11 b11 _ => ?_
      replace S := S.go st11.step (by decide) (by decide); replace D := D.mono (st11.step.sub (by decide)); replace b2 := st11.step.sub (by decide) _ _ b2; replace b4 := st11.step.sub (by decide) _ _ b4; replace b5 := st11.step.sub (by decide) _ _ b5; replace r9 := r9.mono (st11.step.sub (by decide)); replace r10 := r10.mono (st11.step.sub (by decide)); replace he := he.mono (st11.step.sub (by decide))
      replace ho := ho.mono' (fun _ _ hp => hp.mono (st11.step.sub (by decide))) (st11.step.sub (by decide))
      refine LsO.app slPair ho (m := [(eP (many eP i r).2.1).1]) (LsW.one (view_sub _ _ _ _ _ b11) rfl ⟨_, _, rfl, r9.rd, r10.rd⟩) (fun _ _ hp => hp.ones) (by rw [hil]; simp; omega) (by rw [hil]; simp; omega) fun o12 p12 c12 w12 st12 ho => ?_
      replace S := S.go st12.step (by decide) (by decide); replace D := D.mono (st12.step.sub (by decide)); replace b2 := st12.step.sub (by decide) _ _ b2; replace b4 := st12.step.sub (by decide) _ _ b4; replace b5 := st12.step.sub (by decide) _ _ b5; replace he := he.mono (st12.step.sub (by decide))
      replace ho := ho.mono' (fun _ _ hp => hp.mono (st12.step.sub (by decide))) (Sub.refl _)
      (repeat (first | refine TInt.mk ?_ | refine TBool.mk ?_ | refine TStr.mk ?_ | refine TSl.mk ?_ | refine TPtr.mk ?_ | refine TAgg.mk ?_ | refine T2.mk ?_ | refine T3.mk ?_ | refine TSome.mk ?_))
      refine StoreC.ad b5 (by simp) fun w13 st13 _ b5 => ?_
      replace S := S.go st13.step (by decide) (by decide); replace D := D.mono (st13.step.sub (by decide)); replace b2 := st13.step.sub (by decide) _ _ b2; replace b4 := st13.step.sub (by decide) _ _ b4; replace he := he.mono (st13.step.sub (by decide))
      replace ho := ho.mono' (fun _ _ hp => hp.mono (st13.step.sub (by decide))) (st13.step.sub (by decide))
      rw [wrap_i64 (by omega) (by omega)]
      refine back _ (by omega) ⟨c12, o12, _, p12, S, D, b2, b4, b5, he, ho, ?_⟩
      simp only [many, eP]; omega
    · have : i = x3.toNat := by omega
      subst this
      have := ho.len
      subst this
      refine fin _ _ (.slice o (many eP x3.toNat r).1.length p) (.slice none 0 0) S D b2 b4 (by rw [hd]; exact b5) ?_ (by rw [hd]; exact he) (by rw [hd]; exact hcode)
      rw [hd]
      exact ⟨LsO.rd ho (fun _ _ hp => hp.mono (view_views (by decide))) (view_views (by decide)), LsV.nil ..⟩
  · have hd : decN (x1 :: x2 :: x3 :: r) = (⟨x2.toNat, [], (many eK x3.toNat r).1⟩, (many eK x3.toNat r).2.1, (many eK x3.toNat r).2.2) := by
      unfold decN; simp only [e1, e2, e3]; rw [if_neg h0]; simp
    refine LoopI.up x3.toNat (fun i w' => ∃ c' o n p, Fr w c' w' ∧ RdS (view c' 0 w') (.slice o0 (x1 :: x2 :: x3 :: r).length p0) 1 (x1 :: x2 :: x3 :: r).length (bvs (x1 :: x2 :: x3 :: r)) ∧ view c' 3 w' a = some (.cells #[.int .i64 0, .slice none 0 0, .slice none 0 0] 38 (0, 0)) ∧ view c' 8 w' n4 = some (.cells #[.int .i64 0, .slice none 0 0, .slice none 0 0] 38 (0, 0)) ∧
      view c' 4 w' a5 = some (.cells #[.int .i64 (x2.toNat : Nat), .slice none 0 0, .slice o n p] 38 (0, 0)) ∧ REye (view c' 2 w') ⟨x, 0, none⟩ (.slice o0 (x1 :: x2 :: x3 :: r).length p0) (x1 :: x2 :: x3 :: r) (many eK i r).2.1 ∧ LsO KidP 58 33 (view c' 6 w') (view c' 5 w') (.slice o n p) (many eK i r).1 ∧ (many eK i r).2.2 = 0)
      ⟨c7, none, 0, 0, S, D, b2, b4, b5, he, LsO.nil .., rfl⟩ ?_
    rintro i w8 B hi ⟨c8, o, n, p, S, D, b2, b4, b5, he, ho, hcode⟩ back
    have hil := many_length eK i r
    refine Req.bnd ⟨by omega, by simp; omega⟩ (D.eltc (view_sub _ _ _) (k := 2) (u := bv x3) rfl (TInt.mk ?_))
    rw [wrap_i64 (n := ((x3.toNat : Nat) : Int)) (by omega) (by omega)]
    refine BS.dec (fun hlt => ?_) (fun hge => ?_)
    · have hno : (eK (many eK i r).2.1).2.2 ≠ 0 → ¬ okN' (x1 :: x2 :: x3 :: r) := fun hne hok => by
        have h1 := (iff1.1 hok).2.2.2.1
        rw [hd] at h1
        have h2 := many_mono eK_code (show i + 1 ≤ x3.toNat by omega) r
        have h3 := eK_code (many eK i r).2.1
        simp only [many] at h1 h2
        omega
      have t1 := eT_bd (many eK i r).2.1
      have t2 := eH_code (eT (many eK i r).2.1).2.1
      refine REye_T 5 (by omega) (by omega) he D (by omega) fun v9 c9 w9 st9 he r9 => ?_
      replace S := S.go st9 (by decide) (by decide); replace D := D.mono (st9.sub (by decide)); replace b2 := st9.sub (by decide) _ _ b2; replace b4 := st9.sub (by decide) _ _ b4; replace b5 := st9.sub (by decide) _ _ b5
      replace ho := ho.mono' (fun _ _ hp => hp.mono (st9.sub (by decide))) (st9.sub (by decide))
      obtain ⟨o9, p9, rfl⟩ := r9.form
      (repeat (first | refine TInt.mk ?_ | refine TBool.mk ?_ | refine TStr.mk ?_ | refine TSl.mk ?_ | refine TPtr.mk ?_ | refine TAgg.mk ?_ | refine T2.mk ?_ | refine T3.mk ?_ | refine TSome.mk ?_))
      refine BS.ne (fun hne => none' S b2 b4 (hno (by simp only [eK]; omega))) (fun hz1 => ?_)
      (repeat (first | refine TInt.mk ?_ | refine TBool.mk ?_ | refine TStr.mk ?_ | refine TSl.mk ?_ | refine TPtr.mk ?_ | refine TAgg.mk ?_ | refine T2.mk ?_ | refine T3.mk ?_ | refine TSome.mk ?_ | refine LoadC.ad (view_sub _ _ _) _ (by assumption) rfl ?_))
      refine BS.eq (fun e => absurd (by omega) h0) (fun _ => ?_)
      refine REye_H 5 (by omega) (by omega) he D (by omega) (fun h20 v10 c10 w10 st10 r10 => ?_) (fun hz2 v10 c10 w10 st10 he r10 => ?_)
      · replace S := S.go st10 (by decide) (by decide); replace b2 := st10.sub (by decide) _ _ b2; replace b4 := st10.sub (by decide) _ _ b4
        obtain ⟨o10, p10, rfl⟩ := r10.form
        (repeat (first | refine TInt.mk ?_ | refine TBool.mk ?_ | refine TStr.mk ?_ | refine TSl.mk ?_ | refine TPtr.mk ?_ | refine TAgg.mk ?_ | refine T2.mk ?_ | refine T3.mk ?_ | refine TSome.mk ?_))
        exact BS.ne (fun hne => none' S b2 b4 (hno (by simp only [eK]; omega))) (fun hz2 => by simp at hz2)
      replace S := S.go st10 (by decide) (by decide); replace D := D.mono (st10.sub (by decide)); replace b2 := st10.sub (by decide) _ _ b2; replace b4 := st10.sub (by decide) _ _ b4; replace b5 := st10.sub (by decide) _ _ b5; replace r9 := r9.mono (st10.sub (by decide))
      replace ho := ho.mono' (fun _ _ hp => hp.mono (st10.sub (by decide))) (st10.sub (by decide))
      obtain ⟨o10, p10, rfl⟩ := r10.form
      (repeat (first | refine TInt.mk ?_ | refine TBool.mk ?_ | refine TStr.mk ?_ | refine TSl.mk ?_ | refine TPtr.mk ?_ | refine TAgg.mk ?_ | refine T2.mk ?_ | refine T3.mk ?_ | refine TSome.mk ?_))
      refine BS.ne (fun hne => absurd rfl hne) (fun _ => ?_)
      refine AllocC.col c10 1 fun a14 c11 w11 st11 b8 _ => ?_
      replace S := S.go st11.step (by decide) (by decide); replace D := D.mono (st11.step.sub (by decide)); replace b2 := st11.step.sub (by decide) _ _ b2; replace b4 := st11.step.sub (by decide) _ _ b4; replace b5 := st11.step.sub (by decide) _ _ b5; replace r9 := r9.mono (st11.step.sub (by decide)); replace r10 := r10.mono (st11.step.sub (by decide)); replace he := he.mono (st11.step.sub (by decide))
      replace ho := ho.mono' (fun _ _ hp => hp.mono (st11.step.sub (by decide))) (st11.step.sub (by decide))
      refine RunU.var b8 (by kernel_rfl) rfl (by first | (simp [Value.oneCell']; done) | (simp [Value.oneCell', OpR.cells, sv]; done) | (simp [Value.oneCell', AnsR.cells, sv]; done) | rfl) fun w12 st12 b8 => ?_
      replace S := S.go st12.step (by decide) (by decide); replace D := D.mono (st12.step.sub (by decide)); replace b2 := st12.step.sub (by decide) _ _ b2; replace b4 := st12.step.sub (by decide) _ _ b4; replace b5 := st12.step.sub (by decide) _ _ b5; replace r9 := r9.mono (st12.step.sub (by decide)); replace r10 := r10.mono (st12.step.sub (by decide)); replace he := he.mono (st12.step.sub (by decide))
      replace ho := ho.mono' (fun _ _ hp => hp.mono (st12.step.sub (by decide))) (st12.step.sub (by decide))
      have hgl : (eH (eT (many eK i r).2.1).2.1).1.length = 32 := (eH_len _).1
      generalize hg : (eH (eT (many eK i r).2.1).2.1).1 = g at r10 hgl
      refine LoopI.up 32 (fun q w' => Step c11 [1] [] w12 c11 w' ∧ view c11 1 w' a14 = some (.cells (.slice o9 (eT (many eK i r).2.1).1.length p9 :: bvs (g.take q ++ List.replicate (32 - q) 0)).toArray 58 (0, 0))) ⟨.refl .., by rw [List.take_zero, List.nil_append, Nat.sub_zero]; exact b8⟩ ?_
      rintro q w13 B2 hq ⟨st13, b8⟩ back2
      refine BS.dec (fun hlt2 => ?_) (fun hge2 => ?_)
      · obtain ⟨y, hy⟩ := get_of_lt (l := g) (i := q) (by omega)
        have r10' := r10.mono (st13.sub (by decide))
        refine Req.bnd ⟨by omega, by omega⟩ (r10'.rd.elt (view_sub _ _ _) (u := bv y) (by rw [bvs_get, hy]; rfl) (TInt.mk ?_))
        refine Req.bnd ⟨by omega, by omega⟩ ?_
        rw [addr_add, addr_add, Int.toNat_natCast, Nat.mul_one, Nat.zero_add]
        refine StoreC.col b8 (by simp; omega) fun w14 st14 st14' b8 => ?_
        rw [wrap_i64 (by omega) (by omega)]
        refine back2 _ (by omega) ⟨st13.trans st14', ?_⟩
        have e : ((Value.slice o9 (eT (many eK i r).2.1).1.length p9 :: bvs (g.take q ++ List.replicate (32 - q) 0)).toArray.setIfInBounds (1 + q) (bv y)) = (Value.slice o9 (eT (many eK i r).2.1).1.length p9 :: bvs (g.take (q + 1) ++ List.replicate (32 - (q + 1)) 0)).toArray := by
          rw [List.setIfInBounds_toArray, Nat.add_comm 1 q, List.set_cons_succ]
          congr 2
          rw [bvs_append, bvs_append, List.set_append_right _ _ (by simp; omega), List.take_add_one, hy, Option.toList_some, bvs_append]
          have : q - (bvs (g.take q)).length = 0 := by simp; omega
          rw [this, show 32 - q = (32 - (q + 1)) + 1 by omega, List.replicate_succ]
          simp [bvs]
        rw [← e]; exact b8
      · have : q = 32 := by omega
        subst this
        rw [List.take_of_length_le (by omega), Nat.sub_self, List.replicate_zero, List.append_nil] at b8
        replace S := S.go st13 (by decide) (by decide); replace D := D.mono (st13.sub (by decide)); replace b2 := st13.sub (by decide) _ _ b2; replace b4 := st13.sub (by decide) _ _ b4; replace b5 := st13.sub (by decide) _ _ b5; replace r9 := r9.mono (st13.sub (by decide)); replace he := he.mono (st13.sub (by decide))
        replace ho := ho.mono' (fun _ _ hp => hp.mono (st13.sub (by decide))) (st13.sub (by decide))
        (repeat (first | refine TInt.mk ?_ | refine TBool.mk ?_ | refine TStr.mk ?_ | refine TSl.mk ?_ | refine TPtr.mk ?_ | refine TAgg.mk ?_ | refine T2.mk ?_ | refine T3.mk ?_ | refine TSome.mk ?_ | refine LoadC.ad (view_sub _ _ _) _ (by assumption) rfl ?_))
        refine LoadA.all (view_sub _ _ _) b8 (by simp [hgl]) ?_
        refine Req.mk' (by simp [hgl]) ?_
        refine AllocC.col c11 7 fun y c14 w14 st14 b11 _ => ?_
        replace S := S.go st14.step (by decide) (by decide); replace D := D.mono (st14.step.sub (by decide)); replace b2 := st14.step.sub (by decide) _ _ b2; replace b4 := st14.step.sub (by decide) _ _ b4; replace b5 := st14.step.sub (by decide) _ _ b5; replace r9 := r9.mono (st14.step.sub (by decide)); replace he := he.mono (st14.step.sub (by decide))
        replace ho := ho.mono' (fun _ _ hp => hp.mono (st14.step.sub (by decide))) (st14.step.sub (by decide))
        refine LsO.app slKid ho (m := [(eK (many eK i r).2.1).1]) (LsW.one (view_sub _ _ _ _ _ b11) (by simp [hgl]) ⟨_, by rw [← hg]; rfl, (eH_len (eT (many eK i r).2.1).2.1).1, r9.rd⟩) (fun _ _ hp => hp.ones) (by rw [hil]; simp; omega) (by rw [hil]; simp; omega) fun o15 p15 c15 w15 st15 ho => ?_
        replace S := S.go st15.step (by decide) (by decide); replace D := D.mono (st15.step.sub (by decide)); replace b2 := st15.step.sub (by decide) _ _ b2; replace b4 := st15.step.sub (by decide) _ _ b4; replace b5 := st15.step.sub (by decide) _ _ b5; replace he := he.mono (st15.step.sub (by decide))
        replace ho := ho.mono' (fun _ _ hp => hp.mono (st15.step.sub (by decide))) (Sub.refl _)
        (repeat (first | refine TInt.mk ?_ | refine TBool.mk ?_ | refine TStr.mk ?_ | refine TSl.mk ?_ | refine TPtr.mk ?_ | refine TAgg.mk ?_ | refine T2.mk ?_ | refine T3.mk ?_ | refine TSome.mk ?_))
        refine StoreC.ad b5 (by simp) fun w16 st16 _ b5 => ?_
        replace S := S.go st16.step (by decide) (by decide); replace D := D.mono (st16.step.sub (by decide)); replace b2 := st16.step.sub (by decide) _ _ b2; replace b4 := st16.step.sub (by decide) _ _ b4; replace he := he.mono (st16.step.sub (by decide))
        replace ho := ho.mono' (fun _ _ hp => hp.mono (st16.step.sub (by decide))) (st16.step.sub (by decide))
        rw [wrap_i64 (by omega) (by omega)]
        refine back _ (by omega) ⟨c15, o15, _, p15, S, D, b2, b4, b5, he, ho, ?_⟩
        simp only [many, eK]; omega
    · have : i = x3.toNat := by omega
      subst this
      have := ho.len
      subst this
      refine fin _ _ (.slice none 0 0) (.slice o (many eK x3.toNat r).1.length p) S D b2 b4 (by rw [hd]; exact b5) ?_ (by rw [hd]; exact he) (by rw [hd]; exact hcode)
      rw [hd]
      exact ⟨LsV.nil .., LsO.rd ho (fun _ _ hp => hp.mono (view_views (by decide))) (view_views (by decide))⟩
end Go.Proofs.Ythkboikbpbcdeaa

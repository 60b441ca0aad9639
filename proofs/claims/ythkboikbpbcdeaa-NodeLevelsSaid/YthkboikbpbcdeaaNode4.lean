/-
  Nodes are read.
-/
import Derived.Test.YthkboikbpbcdeaaNode3
import Derived.Test.YthkboikbpbcdeaaSlEq
set_option linter.unusedVariables false
set_option linter.unusedSimpArgs false
namespace Go.Proofs.Ythkboikbpbcdeaa
open Go.Vc
attribute [local irreducible] TInt TBool TStr TPtr TSl TAgg TMap TChan T2 T3 T4 BS Req TSome TCell TByte LoadC LoadA StoreC AllocC RunV RunU CallV ExtV EqA StableC StableA StableV TCells ReadV
attribute [local irreducible] eU eT eE

theorem decN_mild (l : List UInt8) : NodeR.mild (decN l).1 := by
  have q3 := eU_lt 1 (eU 1 (eU 1 l).2.1).2.1
  unfold decN NodeR.mild
  split
  · refine ⟨by rw [many_length]; omega, fun p hp => ?_, by simp⟩
    have := many_good (good := fun p : PairR => p.1.length < 65536 ∧ p.2.length < 65536) (f := eP) (fun l => ⟨eT_short _, eT_short _⟩) _ _ p hp
    omega
  · refine ⟨by simp, by simp, fun k hk => ?_⟩
    have := many_good (good := fun k : KidR => k.first.length < 65536) (f := eK) (fun l => eT_short _) _ _ k hk
    omega

theorem node_Read_c (c : Nat → Nat) (j : Nat) {w : World} {v : Value} {l : List UInt8} {R : Value → World → Prop} (hr : RdS (wv w) v 1 l.length (bvs l)) (hl : l.length ≤ 1000000)
    (h : ∀ v u c' w', Step c [] [j] w c' w' → NodeV (view c' j w') (rdN l).1 v u → R (.tuple #[.agg ((rdN l).1.cells v u).toArray, .int .i64 (rdN l).2]) w') :
    CallV Try.prog 25 #[v] w R := by
  obtain ⟨o0, p0, rfl⟩ := hr.form
  have D : RdS (view (fun _ => 0) 0 w) (.slice o0 l.length p0) 1 l.length (bvs l) := by rw [view0]; exact hr
  have S := Fr.start w
  refine node_Read_vc ?_
  unfold node_Read_VC
  refine AllocC.col (fun _ => 0) 3 fun a c1 w1 st1 b2 _ => ?_
  replace S := S.go st1.step (by decide) (by decide); replace D := D.mono (st1.step.sub (by decide))
  refine NewEye c1 2 (D.mono (view_sub _ _ _)) (by omega) fun ax c2 w2 st2 he => ?_
  replace S := S.go st2 (by decide) (by decide); replace D := D.mono (st2.sub (by decide)); replace b2 := st2.sub (by decide) _ _ b2
  (repeat (first | refine TInt.mk ?_ | refine TBool.mk ?_ | refine TStr.mk ?_ | refine TSl.mk ?_ | refine TPtr.mk ?_ | refine TAgg.mk ?_ | refine T2.mk ?_ | refine T3.mk ?_ | refine TSome.mk ?_))
  have L1 := eU_len 1 l
  have L2 := eU_len 1 (eU 1 l).2.1
  have L3 := eU_len 1 (eU 1 (eU 1 l).2.1).2.1
  have q2 := eU_lt 1 (eU 1 l).2.1
  have q3 := eU_lt 1 (eU 1 (eU 1 l).2.1).2.1
  refine Eye_U he 5 (by omega) (by omega) 1 rfl (by omega) (by omega) fun c3 w3 st3 he => ?_
  replace S := S.go st3 (by decide) (by decide); replace D := D.mono (st3.sub (by decide)); replace b2 := st3.sub (by decide) _ _ b2
  (repeat (first | refine TInt.mk ?_ | refine TBool.mk ?_ | refine TStr.mk ?_ | refine TSl.mk ?_ | refine TPtr.mk ?_ | refine TAgg.mk ?_ | refine T2.mk ?_ | refine T3.mk ?_ | refine TSome.mk ?_))
  refine Eye_U he 5 (by omega) (by omega) 1 rfl (by omega) (by omega) fun c4 w4 st4 he => ?_
  replace S := S.go st4 (by decide) (by decide); replace D := D.mono (st4.sub (by decide)); replace b2 := st4.sub (by decide) _ _ b2
  (repeat (first | refine TInt.mk ?_ | refine TBool.mk ?_ | refine TStr.mk ?_ | refine TSl.mk ?_ | refine TPtr.mk ?_ | refine TAgg.mk ?_ | refine T2.mk ?_ | refine T3.mk ?_ | refine TSome.mk ?_))
  refine Eye_U he 5 (by omega) (by omega) 1 rfl (by omega) (by omega) fun c5 w5 st5 he => ?_
  replace S := S.go st5 (by decide) (by decide); replace D := D.mono (st5.sub (by decide)); replace b2 := st5.sub (by decide) _ _ b2
  (repeat (first | refine TInt.mk ?_ | refine TBool.mk ?_ | refine TStr.mk ?_ | refine TSl.mk ?_ | refine TPtr.mk ?_ | refine TAgg.mk ?_ | refine T2.mk ?_ | refine T3.mk ?_ | refine TSome.mk ?_))
  rw [wrap_i64_nat _ (by omega)]
  refine AllocC.col c5 4 fun a9 c6 w6 st6 b4 _ => ?_
  replace S := S.go st6.step (by decide) (by decide); replace D := D.mono (st6.step.sub (by decide)); replace b2 := st6.step.sub (by decide) _ _ b2; replace he := he.mono (st6.step.sub (by decide))
  refine RunU.var b4 (by kernel_rfl) rfl (by first | (simp [Value.oneCell']; done) | (simp [Value.oneCell', OpR.cells, sv]; done) | (simp [Value.oneCell', AnsR.cells, sv]; done) | rfl) fun w7 st7 b4 => ?_
  replace S := S.go st7.step (by decide) (by decide); replace D := D.mono (st7.step.sub (by decide)); replace b2 := st7.step.sub (by decide) _ _ b2; replace he := he.mono (st7.step.sub (by decide))
  have fin : ∀ c' w' v u, Fr w c' w' → RdS (view c' 0 w') (.slice o0 l.length p0) 1 l.length (bvs l) → view c' 3 w' a = some (.cells #[.int .i64 0, .slice none 0 0, .slice none 0 0] 38 (0, 0)) →
      view c' 4 w' a9 = some (.cells ((decN l).1.cells v u).toArray 38 (0, 0)) → NodeV (views c' [5, 6] w') (decN l).1 v u →
      LoadA w' ⟨a9, 0, none⟩ 3 fun cs78 => CallV Try.prog 22 #[.agg cs78] w' fun v79 w21 => T2 v79 fun v79a v79b => TSl v79a fun o79a l79a c79a => TInt .i64 v79b fun n79b => BS (n79b != (0 : Int)) (node_Read_K1 (⟨a, 0, none⟩ : Addr) (⟨a9, 0, none⟩ : Addr) true w21 R) (CallV Try.prog 40 #[.slice o79a l79a c79a, .slice o0 l.length p0] w21 fun v87 w22 => TBool v87 fun b87 => node_Read_K1 (⟨a, 0, none⟩ : Addr) (⟨a9, 0, none⟩ : Addr) (!b87) w22 R) := by
    intro c' w' v u S D b2 b4 M1
    have hmild := decN_mild l
    obtain ⟨ov, cv, rfl⟩ := LsV.form M1.p
    obtain ⟨ou, cu, rfl⟩ := LsV.form M1.k
    refine LoadA.all (view_sub _ _ _) b4 rfl ?_
    refine node_Write_c c' 7 (M1.mono (views_sub _ _ _)) hmild fun v8 c8 w8 st8 r8 => ?_
    replace S := S.go st8 (by decide) (by decide); replace D := D.mono (st8.sub (by decide)); replace b2 := st8.sub (by decide) _ _ b2; replace b4 := st8.sub (by decide) _ _ b4; replace M1 := M1.mono (st8.subs (by decide))
    obtain ⟨o8, p8, rfl⟩ := r8.form
    (repeat (first | refine TInt.mk ?_ | refine TBool.mk ?_ | refine TStr.mk ?_ | refine TSl.mk ?_ | refine TPtr.mk ?_ | refine TAgg.mk ?_ | refine T2.mk ?_ | refine T3.mk ?_ | refine TSome.mk ?_))
    have k1 : ∀ (b : Bool) c' w', Fr w c' w' → view c' 3 w' a = some (.cells #[.int .i64 0, .slice none 0 0, .slice none 0 0] 38 (0, 0)) → view c' 4 w' a9 = some (.cells ((decN l).1.cells (.slice ov (decN l).1.pairs.length cv) (.slice ou (decN l).1.kids.length cu)).toArray 38 (0, 0)) →
        NodeV (views c' [5, 6] w') (decN l).1 (.slice ov (decN l).1.pairs.length cv) (.slice ou (decN l).1.kids.length cu) → (b = false ↔ okN' l) → node_Read_K1 (⟨a, 0, none⟩ : Addr) (⟨a9, 0, none⟩ : Addr) b w' R := by
      intro b c' w' S b2 b4 M1 hb
      unfold node_Read_K1
      cases b
      · refine BS.no rfl ?_
        refine LoadA.all (view_sub _ _ _) b4 rfl ?_
        refine RunU.var b2 (by kernel_rfl) rfl (by simp [NodeR.cells, Value.oneCell']) fun w16 st16 b2 => ?_
        replace S := S.go st16.step (by decide) (by decide); replace M1 := M1.mono (st16.step.subs (by decide))
        refine LoadA.all (view_sub _ _ _) b2 rfl ?_
        have := h (.slice ov (decN l).1.pairs.length cv) (.slice ou (decN l).1.kids.length cu) _ _ (S.leave c j)
        rw [rdN_yes (hb.1 rfl)] at this
        exact this (M1.mono (S.outs c j (by decide)))
      · refine BS.yes rfl ?_
        refine RunU.var b2 (by kernel_rfl) rfl (by first | (simp [Value.oneCell']; done) | (simp [Value.oneCell', OpR.cells, sv]; done) | (simp [Value.oneCell', AnsR.cells, sv]; done) | rfl) fun w16 st16 b2 => ?_
        replace S := S.go st16.step (by decide) (by decide); replace M1 := M1.mono (st16.step.subs (by decide))
        refine LoadA.all (view_sub _ _ _) b2 rfl ?_
        have := h (.slice none 0 0) (.slice none 0 0) _ _ (S.leave c j)
        rw [rdN_no (fun hh => by simpa using hb.2 hh)] at this
        exact this ⟨LsV.nil .., LsV.nil ..⟩
    have hiff := wrN_iff (n := (decN l).1) l
    refine BS.ne (fun hne => ?_) (fun he0 => ?_)
    · exact k1 true _ _ S b2 b4 M1 ⟨fun h => by simp at h, fun hh => absurd (hiff.2 hh).1 hne⟩
    · refine Equal_bytes c8 (r8.rd.mono (view_sub _ _ _)) (D.mono (view_sub _ _ _)) ?_ fun w9 st9 => TBool.mk ?_
      · by_cases hR : (decN l).1.right
        · by_cases hl : (decN l).1.enc.length ≤ 470
          · rw [wrN_yes hR hl]; show (decN l).1.enc.length ≤ _; omega
          · rw [wrN_long hR hl]; simp
        · rw [wrN_no hR]; simp
      replace S := S.go st9 (by decide) (by decide); replace b2 := st9.sub (by decide) _ _ b2; replace b4 := st9.sub (by decide) _ _ b4; replace M1 := M1.mono (st9.subs (by decide))
      refine k1 _ _ _ S b2 b4 M1 ?_
      unfold okN'
      rw [← hiff]
      simp only [Bool.not_eq_false', decide_eq_true_eq]
      exact ⟨fun e => ⟨he0, e.symm⟩, fun e => e.2.symm⟩
  by_cases h0 : (eU 1 (eU 1 l).2.1).1 = 0
  · have hd : (decN l).1 = ⟨(eU 1 (eU 1 l).2.1).1, (many eP (eU 1 (eU 1 (eU 1 l).2.1).2.1).1 (eU 1 (eU 1 (eU 1 l).2.1).2.1).2.1).1, []⟩ := by unfold decN; rw [if_pos h0]
    refine LoopN.up (eU 1 (eU 1 (eU 1 l).2.1).2.1).1 (fun i w' => ∃ c' o n p, Fr w c' w' ∧ RdS (view c' 0 w') (.slice o0 l.length p0) 1 l.length (bvs l) ∧ view c' 3 w' a = some (.cells #[.int .i64 0, .slice none 0 0, .slice none 0 0] 38 (0, 0)) ∧
      view c' 4 w' a9 = some (.cells #[.int .i64 ((eU 1 (eU 1 l).2.1).1 : Nat), .slice o n p, .slice none 0 0] 38 (0, 0)) ∧ EyeV (view c' 2 w') ax (many eP i (eU 1 (eU 1 (eU 1 l).2.1).2.1).2.1).2.1 ∧ LsO PairP 35 2 (view c' 6 w') (view c' 5 w') (.slice o n p) (many eP i (eU 1 (eU 1 (eU 1 l).2.1).2.1).2.1).1)
      ⟨c6, none, 0, 0, S, D, b2, b4, he, LsO.nil ..⟩ ?_
    rintro i w8 B hi ⟨c8, o, n, p, S, D, b2, b4, he, ho⟩ back
    have hil := many_length eP i (eU 1 (eU 1 (eU 1 l).2.1).2.1).2.1
    have hir := many_rest eP_len i (eU 1 (eU 1 (eU 1 l).2.1).2.1).2.1
    refine BS.dec (fun hlt => ?_) (fun hge => ?_)
    · refine Eye_T he 5 (by omega) fun v9 c9 w9 st9 he r9 => ?_
      replace S := S.go st9 (by decide) (by decide); replace D := D.mono (st9.sub (by decide)); replace b2 := st9.sub (by decide) _ _ b2; replace b4 := st9.sub (by decide) _ _ b4
      replace ho := ho.mono' (fun _ _ hp => hp.mono (st9.sub (by decide))) (st9.sub (by decide))
      obtain ⟨o9, p9, rfl⟩ := r9.form
      (repeat (first | refine TInt.mk ?_ | refine TBool.mk ?_ | refine TStr.mk ?_ | refine TSl.mk ?_ | refine TPtr.mk ?_ | refine TAgg.mk ?_ | refine T2.mk ?_ | refine T3.mk ?_ | refine TSome.mk ?_))
      refine BS.eq (fun _ => ?_) (fun e => absurd (by omega) e)
      have hir2 := (eT_len (many eP i (eU 1 (eU 1 (eU 1 l).2.1).2.1).2.1).2.1).1
      refine Eye_T he 5 (by omega) fun v10 c10 w10 st10 he r10 => ?_
      replace S := S.go st10 (by decide) (by decide); replace D := D.mono (st10.sub (by decide)); replace b2 := st10.sub (by decide) _ _ b2; replace b4 := st10.sub (by decide) _ _ b4; replace r9 := r9.mono (st10.sub (by decide))
      replace ho := ho.mono' (fun _ _ hp => hp.mono (st10.sub (by decide))) (st10.sub (by decide))
      obtain ⟨o10, p10, rfl⟩ := r10.form
      (repeat (first | refine TInt.mk ?_ | refine TBool.mk ?_ | refine TStr.mk ?_ | refine TSl.mk ?_ | refine TPtr.mk ?_ | refine TAgg.mk ?_ | refine T2.mk ?_ | refine T3.mk ?_ | refine TSome.mk ?_ | refine LoadC.ad (view_sub _ _ _) _ (by assumption) rfl ?_))
      refine AllocC.col c10 7 fun y c11 w11 st11 b11 _ => ?_
      replace S := S.go st11.step (by decide) (by decide); replace D := D.mono (st11.step.sub (by decide)); replace b2 := st11.step.sub (by decide) _ _ b2; replace b4 := st11.step.sub (by decide) _ _ b4; replace r9 := r9.mono (st11.step.sub (by decide)); replace r10 := r10.mono (st11.step.sub (by decide)); replace he := he.mono (st11.step.sub (by decide))
      replace ho := ho.mono' (fun _ _ hp => hp.mono (st11.step.sub (by decide))) (st11.step.sub (by decide))
      refine LsO.app slPair ho (m := [(eP (many eP i (eU 1 (eU 1 (eU 1 l).2.1).2.1).2.1).2.1).1]) (LsW.one (view_sub _ _ _ _ _ b11) rfl ⟨_, _, rfl, r9.rd, r10.rd⟩) (fun _ _ hp => hp.ones) (by rw [hil]; simp; omega) (by rw [hil]; simp; omega) fun o12 p12 c12 w12 st12 ho => ?_
      replace S := S.go st12.step (by decide) (by decide); replace D := D.mono (st12.step.sub (by decide)); replace b2 := st12.step.sub (by decide) _ _ b2; replace b4 := st12.step.sub (by decide) _ _ b4; replace he := he.mono (st12.step.sub (by decide))
      replace ho := ho.mono' (fun _ _ hp => hp.mono (st12.step.sub (by decide))) (Sub.refl _)
      (repeat (first | refine TInt.mk ?_ | refine TBool.mk ?_ | refine TStr.mk ?_ | refine TSl.mk ?_ | refine TPtr.mk ?_ | refine TAgg.mk ?_ | refine T2.mk ?_ | refine T3.mk ?_ | refine TSome.mk ?_))
      refine StoreC.ad b4 (by simp) fun w13 st13 _ b4 => ?_
      replace S := S.go st13.step (by decide) (by decide); replace D := D.mono (st13.step.sub (by decide)); replace b2 := st13.step.sub (by decide) _ _ b2; replace he := he.mono (st13.step.sub (by decide))
      replace ho := ho.mono' (fun _ _ hp => hp.mono (st13.step.sub (by decide))) (st13.step.sub (by decide))
      rw [wrap_u64 (by omega) (by omega)]
      exact back _ (by omega) ⟨c12, o12, _, p12, S, D, b2, b4, he, ho⟩
    · have : i = (eU 1 (eU 1 (eU 1 l).2.1).2.1).1 := by omega
      subst this
      have := ho.len
      subst this
      refine fin _ _ (.slice o (many eP (eU 1 (eU 1 (eU 1 l).2.1).2.1).1 (eU 1 (eU 1 (eU 1 l).2.1).2.1).2.1).1.length p) (.slice none 0 0) S D b2 (by rw [hd]; exact b4) ?_
      rw [hd]
      exact ⟨LsO.rd ho (fun _ _ hp => hp.mono (view_views (by decide))) (view_views (by decide)), LsV.nil ..⟩
  · have hd : (decN l).1 = ⟨(eU 1 (eU 1 l).2.1).1, [], (many eK (eU 1 (eU 1 (eU 1 l).2.1).2.1).1 (eU 1 (eU 1 (eU 1 l).2.1).2.1).2.1).1⟩ := by unfold decN; rw [if_neg h0]
    refine LoopN.up (eU 1 (eU 1 (eU 1 l).2.1).2.1).1 (fun i w' => ∃ c' o n p, Fr w c' w' ∧ RdS (view c' 0 w') (.slice o0 l.length p0) 1 l.length (bvs l) ∧ view c' 3 w' a = some (.cells #[.int .i64 0, .slice none 0 0, .slice none 0 0] 38 (0, 0)) ∧
      view c' 4 w' a9 = some (.cells #[.int .i64 ((eU 1 (eU 1 l).2.1).1 : Nat), .slice none 0 0, .slice o n p] 38 (0, 0)) ∧ EyeV (view c' 2 w') ax (many eK i (eU 1 (eU 1 (eU 1 l).2.1).2.1).2.1).2.1 ∧ LsO KidP 58 33 (view c' 6 w') (view c' 5 w') (.slice o n p) (many eK i (eU 1 (eU 1 (eU 1 l).2.1).2.1).2.1).1)
      ⟨c6, none, 0, 0, S, D, b2, b4, he, LsO.nil ..⟩ ?_
    rintro i w8 B hi ⟨c8, o, n, p, S, D, b2, b4, he, ho⟩ back
    have hil := many_length eK i (eU 1 (eU 1 (eU 1 l).2.1).2.1).2.1
    have hir := many_rest eK_len i (eU 1 (eU 1 (eU 1 l).2.1).2.1).2.1
    refine BS.dec (fun hlt => ?_) (fun hge => ?_)
    · refine Eye_T he 5 (by omega) fun v9 c9 w9 st9 he r9 => ?_
      replace S := S.go st9 (by decide) (by decide); replace D := D.mono (st9.sub (by decide)); replace b2 := st9.sub (by decide) _ _ b2; replace b4 := st9.sub (by decide) _ _ b4
      replace ho := ho.mono' (fun _ _ hp => hp.mono (st9.sub (by decide))) (st9.sub (by decide))
      obtain ⟨o9, p9, rfl⟩ := r9.form
      (repeat (first | refine TInt.mk ?_ | refine TBool.mk ?_ | refine TStr.mk ?_ | refine TSl.mk ?_ | refine TPtr.mk ?_ | refine TAgg.mk ?_ | refine T2.mk ?_ | refine T3.mk ?_ | refine TSome.mk ?_))
      refine BS.eq (fun e => absurd (by omega) h0) (fun _ => ?_)
      have hir2 := (eT_len (many eK i (eU 1 (eU 1 (eU 1 l).2.1).2.1).2.1).2.1).1
      refine AllocC.col c9 8 fun a14 c10 w10 st10 b8 _ => ?_
      replace S := S.go st10.step (by decide) (by decide); replace D := D.mono (st10.step.sub (by decide)); replace b2 := st10.step.sub (by decide) _ _ b2; replace b4 := st10.step.sub (by decide) _ _ b4; replace r9 := r9.mono (st10.step.sub (by decide)); replace he := he.mono (st10.step.sub (by decide))
      replace ho := ho.mono' (fun _ _ hp => hp.mono (st10.step.sub (by decide))) (st10.step.sub (by decide))
      refine RunU.var b8 (by kernel_rfl) rfl (by first | (simp [Value.oneCell']; done) | (simp [Value.oneCell', OpR.cells, sv]; done) | (simp [Value.oneCell', AnsR.cells, sv]; done) | rfl) fun w11 st11 b8 => ?_
      replace S := S.go st11.step (by decide) (by decide); replace D := D.mono (st11.step.sub (by decide)); replace b2 := st11.step.sub (by decide) _ _ b2; replace b4 := st11.step.sub (by decide) _ _ b4; replace r9 := r9.mono (st11.step.sub (by decide)); replace he := he.mono (st11.step.sub (by decide))
      replace ho := ho.mono' (fun _ _ hp => hp.mono (st11.step.sub (by decide))) (st11.step.sub (by decide))
      have k3 : ∀ (x : Value) (g : List UInt8) c' w' (m : Nat) , (g = (eH (eT (many eK i (eU 1 (eU 1 (eU 1 l).2.1).2.1).2.1).2.1).2.1).1) → EyeV (view c' 2 w') ax (eH (eT (many eK i (eU 1 (eU 1 (eU 1 l).2.1).2.1).2.1).2.1).2.1).2.1 → Step c10 [2] [5] w11 c' w' →
          (∃ xs, RdS (wv w') x 1 m xs ∧ m ≤ 32 ∧ (∀ u ∈ xs, u.oneCell' = true) ∧ xs ++ (bvs (List.replicate 32 0)).drop m = bvs g) →
          RunV Try.prog (Builtin.copy_ #[22, 22] 3 #[.slice (slBase (some ((⟨a14, 0, none⟩ : Addr).add 1)) 32 0 1) 32 32, x]) w' fun v69 w17 => TInt .i64 v69 fun n69 => LoadC w17 ((⟨a9, 0, none⟩ : Addr).add 2) fun v71 => TSl v71 fun o71 l71 c71 => LoadA w17 (⟨a14, 0, none⟩ : Addr) 33 fun cs72 => Req (Nat.beq cs72.size 33 && (Nat.ble 1 33 && Nat.ble 33 16777216)) <| AllocC w17 (.cells cs72 58) fun a73 w18 => RunV Try.prog (Builtin.append_ #[36, 36] 36 #[.slice o71 l71 c71, .slice (some ⟨a73, 0, none⟩) 1 1]) w18 fun v74 w19 => TSl v74 fun o74 l74 c74 => StoreC w19 ((⟨a9, 0, none⟩ : Addr).add 2) (.slice o74 l74 c74) fun w20 => B [.int .u64 (IntKind.wrap .u64 ((i : Int) + (1 : Int)))] w20 := by
        intro x g c' w' m hg he st hx
        obtain ⟨xs, hxr, hm, hx1, hxs⟩ := hx
        replace S := S.go st (by decide) (by decide); replace D := D.mono (st.sub (by decide)); replace b2 := st.sub (by decide) _ _ b2; replace b4 := st.sub (by decide) _ _ b4; replace r9 := r9.mono (st.sub (by decide))
        replace b8 := st.sub (by decide) _ _ b8
        replace ho := ho.mono' (fun _ _ hp => hp.mono (st.sub (by decide))) (st.sub (by decide))
        have hgl : g.length = 32 := by rw [hg]; exact (eH_len _).1
        have hxl : xs.length = m := by obtain ⟨_, _, rfl⟩ := hxr.form; simpa using hxr.len.2.2
        refine copy_arr (cs := .slice o9 (eT (many eK i (eU 1 (eU 1 (eU 1 l).2.1).2.1).2.1).2.1).1.length p9 :: bvs (List.replicate 32 0)) Try.underlying22 (by kernel_rfl) b8 (by simp) hxr hm hx1 fun w12 st12 _ b8 => ?_
        replace S := S.go st12.step (by decide) (by decide); replace D := D.mono (st12.step.sub (by decide)); replace b2 := st12.step.sub (by decide) _ _ b2; replace b4 := st12.step.sub (by decide) _ _ b4; replace r9 := r9.mono (st12.step.sub (by decide)); replace he := he.mono (st12.step.sub (by decide))
        replace ho := ho.mono' (fun _ _ hp => hp.mono (st12.step.sub (by decide))) (st12.step.sub (by decide))
        have ecs : (Value.slice o9 (eT (many eK i (eU 1 (eU 1 (eU 1 l).2.1).2.1).2.1).2.1).1.length p9 :: bvs (List.replicate 32 0)).take 1 ++ xs ++ (Value.slice o9 (eT (many eK i (eU 1 (eU 1 (eU 1 l).2.1).2.1).2.1).2.1).1.length p9 :: bvs (List.replicate 32 0)).drop (1 + m) = Value.slice o9 (eT (many eK i (eU 1 (eU 1 (eU 1 l).2.1).2.1).2.1).2.1).1.length p9 :: bvs g := by
          rw [← hxs, Nat.add_comm 1 m, List.drop_succ_cons]; simp
        rw [ecs] at b8
        refine TInt.mk ?_
        (repeat (first | refine TInt.mk ?_ | refine TBool.mk ?_ | refine TStr.mk ?_ | refine TSl.mk ?_ | refine TPtr.mk ?_ | refine TAgg.mk ?_ | refine T2.mk ?_ | refine T3.mk ?_ | refine TSome.mk ?_ | refine LoadC.ad (view_sub _ _ _) _ (by assumption) rfl ?_))
        refine LoadA.all (view_sub _ _ _) b8 (by simp [hgl]) ?_
        refine Req.mk' (by simp [hgl]) ?_
        refine AllocC.col c' 7 fun y c13 w13 st13 b11 _ => ?_
        replace S := S.go st13.step (by decide) (by decide); replace D := D.mono (st13.step.sub (by decide)); replace b2 := st13.step.sub (by decide) _ _ b2; replace b4 := st13.step.sub (by decide) _ _ b4; replace r9 := r9.mono (st13.step.sub (by decide)); replace he := he.mono (st13.step.sub (by decide))
        replace ho := ho.mono' (fun _ _ hp => hp.mono (st13.step.sub (by decide))) (st13.step.sub (by decide))
        refine LsO.app slKid ho (m := [(eK (many eK i (eU 1 (eU 1 (eU 1 l).2.1).2.1).2.1).2.1).1]) (LsW.one (view_sub _ _ _ _ _ b11) (by simp [hgl]) ⟨_, by rw [hg]; rfl, (eH_len (eT (many eK i (eU 1 (eU 1 (eU 1 l).2.1).2.1).2.1).2.1).2.1).1, r9.rd⟩) (fun _ _ hp => hp.ones) (by rw [hil]; simp; omega) (by rw [hil]; simp; omega) fun o14 p14 c14 w14 st14 ho => ?_
        replace S := S.go st14.step (by decide) (by decide); replace D := D.mono (st14.step.sub (by decide)); replace b2 := st14.step.sub (by decide) _ _ b2; replace b4 := st14.step.sub (by decide) _ _ b4; replace he := he.mono (st14.step.sub (by decide))
        replace ho := ho.mono' (fun _ _ hp => hp.mono (st14.step.sub (by decide))) (Sub.refl _)
        (repeat (first | refine TInt.mk ?_ | refine TBool.mk ?_ | refine TStr.mk ?_ | refine TSl.mk ?_ | refine TPtr.mk ?_ | refine TAgg.mk ?_ | refine T2.mk ?_ | refine T3.mk ?_ | refine TSome.mk ?_))
        refine StoreC.ad b4 (by simp) fun w15 st15 _ b4 => ?_
        replace S := S.go st15.step (by decide) (by decide); replace D := D.mono (st15.step.sub (by decide)); replace b2 := st15.step.sub (by decide) _ _ b2; replace he := he.mono (st15.step.sub (by decide))
        replace ho := ho.mono' (fun _ _ hp => hp.mono (st15.step.sub (by decide))) (st15.step.sub (by decide))
        rw [wrap_u64 (by omega) (by omega)]
        exact back _ (by omega) ⟨c14, o14, _, p14, S, D, b2, b4, he, ho⟩
      refine Eye_Raw he 5 (by omega) (fun hn => by omega) (fun _ hs => ?_) (fun _ hs v12 c12 w12 st12 _ he r12 => ?_)
      · have e1 : eH (eT (many eK i (eU 1 (eU 1 (eU 1 l).2.1).2.1).2.1).2.1).2.1 = (List.replicate 32 0, (eT (many eK i (eU 1 (eU 1 (eU 1 l).2.1).2.1).2.1).2.1).2.1, 20) := by unfold eH; rw [if_neg (by omega)]
        (repeat (first | refine TInt.mk ?_ | refine TBool.mk ?_ | refine TStr.mk ?_ | refine TSl.mk ?_ | refine TPtr.mk ?_ | refine TAgg.mk ?_ | refine T2.mk ?_ | refine T3.mk ?_ | refine TSome.mk ?_))
        exact k3 (.slice none 0 0) (List.replicate 32 0) c10 w11 0 (by rw [e1]) (by rw [e1]; exact he) (.refl ..) ⟨[], RdS.nil .., by omega, by simp, by simp⟩
      · have e1 : eH (eT (many eK i (eU 1 (eU 1 (eU 1 l).2.1).2.1).2.1).2.1).2.1 = ((eT (many eK i (eU 1 (eU 1 (eU 1 l).2.1).2.1).2.1).2.1).2.1.take 32, (eT (many eK i (eU 1 (eU 1 (eU 1 l).2.1).2.1).2.1).2.1).2.1.drop 32, 0) := by unfold eH; rw [if_pos (by omega)]
        obtain ⟨o12, p12, rfl⟩ := r12.form
        (repeat (first | refine TInt.mk ?_ | refine TBool.mk ?_ | refine TStr.mk ?_ | refine TSl.mk ?_ | refine TPtr.mk ?_ | refine TAgg.mk ?_ | refine T2.mk ?_ | refine T3.mk ?_ | refine TSome.mk ?_))
        exact k3 _ ((eT (many eK i (eU 1 (eU 1 (eU 1 l).2.1).2.1).2.1).2.1).2.1.take 32) c12 w12 32 (by rw [e1]) (by rw [e1]; exact he) st12 ⟨_, r12.rd.mono (view_sub _ _ _), by omega, bvs_one _, by simp⟩
    · have : i = (eU 1 (eU 1 (eU 1 l).2.1).2.1).1 := by omega
      subst this
      have := ho.len
      subst this
      refine fin _ _ (.slice none 0 0) (.slice o (many eK (eU 1 (eU 1 (eU 1 l).2.1).2.1).1 (eU 1 (eU 1 (eU 1 l).2.1).2.1).2.1).1.length p) S D b2 (by rw [hd]; exact b4) ?_
      rw [hd]
      exact ⟨LsV.nil .., LsO.rd ho (fun _ _ hp => hp.mono (view_views (by decide))) (view_views (by decide))⟩
end Go.Proofs.Ythkboikbpbcdeaa

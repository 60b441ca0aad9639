/-
  Chapter 07's statements: the walks.
-/
import Derived.Test.YthkboikbpbcdeaaNode6
import Derived.Test.YthkboikbpbcdeaaArgs2
set_option linter.unusedVariables false
set_option linter.unusedSimpArgs false
namespace Go.Proofs.Ythkboikbpbcdeaa.walkNode
open Go.Vc Go.ChangeShapes Go.WideShapes Go.ChangeAt Go.RowKit
attribute [local irreducible] TInt TBool TStr TPtr TSl TAgg TMap TChan T2 T3 T4 BS Req TSome TCell TByte LoadC LoadA StoreC AllocC RunV RunU CallV ExtV EqA StableC StableA StableV TCells ReadV
attribute [local irreducible] eU eT eE
theorem fin {w : World} {c' w'} (S : Fr w c' w') : Below w.heap.size w w' := Step.below S fun _ => by simp
theorem mild_of {n : NodeR} (hl : n.pairs.length ≤ 1000) (hk : ∀ p ∈ n.pairs, p.1.length ≤ 8000 ∧ p.2.length ≤ 8000) (hkk : ∀ k ∈ n.kids, k.first.length ≤ 70000) : NodeR.mild n :=
  ⟨by omega, fun p hp => by have := hk p hp; omega, fun k hk => by have := hkk k hk; omega⟩

theorem writes (n : NodeR) (v u : Value) (w : World) (hn : NodeV (wv w) n v u) : CallV Try.prog 7 #[.agg (n.cells v u).toArray] w fun r w' => r = .bool true ∧ Below w.heap.size w w' := by
  obtain ⟨ov, cv, rfl⟩ := LsV.form hn.p
  obtain ⟨ou, cu, rfl⟩ := LsV.form hn.k
  have D : NodeV (view (fun _ => 0) 0 w) n (.slice ov n.pairs.length cv) (.slice ou n.kids.length cu) := by rw [view0]; exact hn
  have S := Fr.start w
  refine law07_NodeWrites_vc ?_
  unfold law07_NodeWrites_VC
  refine AllocC.col (fun _ => 0) 1 fun a c1 w1 st1 b1 _ => ?_
  replace S := S.go st1.step (by decide) (by decide); replace D := D.mono (st1.step.sub (by decide))
  refine speaks07 c1 3 fun c2 w2 st2 => TBool.mk (BS.no rfl ?_)
  replace S := S.go st2 (by decide) (by decide); replace D := D.mono (st2.sub (by decide)); replace b1 := st2.sub (by decide) _ _ b1
  refine LoadA.all (view_sub _ _ _) b1 rfl ?_
  refine great7 c2 3 (D.mono (view_sub _ _ _)) (fun c3 w3 st3 => TBool.mk (BS.yes rfl ⟨rfl, fin (S.go st3 (by decide) (by decide))⟩)) (fun hl hk hkl hkk c3 w3 st3 => TBool.mk (BS.no rfl ?_))
  replace S := S.go st3 (by decide) (by decide); replace D := D.mono (st3.sub (by decide)); replace b1 := st3.sub (by decide) _ _ b1
  have hm := mild_of hl hk hkk
  refine LoadA.all (view_sub _ _ _) b1 rfl ?_
  refine CopyN_c c3 4 (D.mono (view_sub _ _ _)) hl hk hkl hkk fun v4 u4 c4 w4 st4 r4 => TAgg.mk ?_
  replace S := S.go st4 (by decide) (by decide); replace D := D.mono (st4.sub (by decide)); replace b1 := st4.sub (by decide) _ _ b1
  refine AllocC.col c4 5 fun x c5 w5 st5 b5 _ => ?_
  replace S := S.go st5.step (by decide) (by decide); replace D := D.mono (st5.step.sub (by decide)); replace b1 := st5.step.sub (by decide) _ _ b1; replace r4 := r4.mono (st5.step.sub (by decide))
  obtain ⟨o4, p4, rfl⟩ := LsV.form r4.p
  obtain ⟨q4, t4, rfl⟩ := LsV.form r4.k
  refine RunU.var b5 (by kernel_rfl) rfl (by simp [NodeR.cells, Value.oneCell']) fun w6 st6 b5 => ?_
  replace S := S.go st6.step (by decide) (by decide); replace D := D.mono (st6.step.sub (by decide)); replace b1 := st6.step.sub (by decide) _ _ b1; replace r4 := r4.mono (st6.step.sub (by decide))
  refine LoadA.all (view_sub _ _ _) b5 rfl ?_
  refine node_Write_c c5 6 (r4.mono (view_sub _ _ _)) hm fun v7 c7 w7 st7 r7 => ?_
  replace S := S.go st7 (by decide) (by decide); replace D := D.mono (st7.sub (by decide)); replace b1 := st7.sub (by decide) _ _ b1; replace b5 := st7.sub (by decide) _ _ b5; replace r4 := r4.mono (st7.sub (by decide))
  obtain ⟨o7, p7, rfl⟩ := r7.form
  (repeat (first | refine TInt.mk ?_ | refine TBool.mk ?_ | refine TStr.mk ?_ | refine TSl.mk ?_ | refine TPtr.mk ?_ | refine TAgg.mk ?_ | refine T2.mk ?_ | refine T3.mk ?_ | refine TSome.mk ?_))
  refine LoadA.all (view_sub _ _ _) b1 rfl ?_
  refine ref_WriteN_c c7 6 (D.mono (view_sub _ _ _)) hm fun v8 c8 w8 st8 r8 => ?_
  replace S := S.go st8 (by decide) (by decide); replace D := D.mono (st8.sub (by decide)); replace b1 := st8.sub (by decide) _ _ b1; replace b5 := st8.sub (by decide) _ _ b5; replace r4 := r4.mono (st8.sub (by decide)); replace r7 := r7.mono (st8.sub (by decide))
  obtain ⟨o8, p8, rfl⟩ := r8.form
  (repeat (first | refine TInt.mk ?_ | refine TBool.mk ?_ | refine TStr.mk ?_ | refine TSl.mk ?_ | refine TPtr.mk ?_ | refine TAgg.mk ?_ | refine T2.mk ?_ | refine T3.mk ?_ | refine TSome.mk ?_))
  refine BS.yes (by simp) ?_
  refine string_rule strU8 (r7.rd.mono (view_sub _ _ _)) (TStr.mk ?_)
  refine string_rule strU8 (r8.rd.mono (view_sub _ _ _)) (TStr.mk ?_)
  rw [strEq_of]
  refine BS.yes (by simp) ?_
  refine LoadA.all (view_sub _ _ _) b5 rfl (LoadA.all (view_sub _ _ _) b1 rfl ?_)
  refine SameN_c c8 7 (r4.mono (view_sub _ _ _)) (D.mono (view_sub _ _ _)) (by omega) (by omega) fun c9 w9 st9 => TBool.mk ?_
  replace S := S.go st9 (by decide) (by decide)
  rw [decide_eq_true rfl]
  exact ⟨rfl, fin S⟩

theorem reads (v : Value) (l : List UInt8) (w : World) (hr : RdS (wv w) v 1 l.length (bvs l)) : CallV Try.prog 8 #[v] w fun r w' => r = .bool true ∧ Below w.heap.size w w' := by
  obtain ⟨o0, p0, rfl⟩ := hr.form
  have D : RdS (view (fun _ => 0) 0 w) (.slice o0 l.length p0) 1 l.length (bvs l) := by rw [view0]; exact hr
  have S := Fr.start w
  refine law07_NodeReads_vc ?_
  unfold law07_NodeReads_VC
  refine speaks07 (fun _ => 0) 3 fun c1 w1 st1 => TBool.mk (BS.no rfl ?_)
  replace S := S.go st1 (by decide) (by decide); replace D := D.mono (st1.sub (by decide))
  refine BS.dec (fun _ => ⟨rfl, fin S⟩) (fun hl => ?_)
  refine AllocC.col c1 2 fun x c2 w2 st2 b2 _ => ?_
  replace S := S.go st2.step (by decide) (by decide); replace D := D.mono (st2.step.sub (by decide))
  refine app_bytes slU8 (OwS.some_bytes b2) (D.mono (view_sub _ _ _)) (by simp; omega) fun o3 p3 c3 w3 st3 r3 => ?_
  replace S := S.go st3.step (by decide) (by decide); replace D := D.mono (st3.step.sub (by decide))
  rw [List.nil_append] at r3 ⊢
  (repeat (first | refine TInt.mk ?_ | refine TBool.mk ?_ | refine TStr.mk ?_ | refine TSl.mk ?_ | refine TPtr.mk ?_ | refine TAgg.mk ?_ | refine T2.mk ?_ | refine T3.mk ?_ | refine TSome.mk ?_))
  refine node_Read_c c3 4 (r3.rd.mono (view_sub _ _ _)) (by omega) fun v4 u4 c4 w4 st4 r4 => ?_
  replace S := S.go st4 (by decide) (by decide); replace D := D.mono (st4.sub (by decide)); replace r3 := r3.mono (st4.sub (by decide))
  refine T2.mk (TAgg.mk (TInt.mk ?_))
  refine AllocC.col c4 5 fun a c5 w5 st5 b5 _ => ?_
  replace S := S.go st5.step (by decide) (by decide); replace D := D.mono (st5.step.sub (by decide)); replace r3 := r3.mono (st5.step.sub (by decide)); replace r4 := r4.mono (st5.step.sub (by decide))
  obtain ⟨o4, p4, rfl⟩ := LsV.form r4.p
  obtain ⟨q4, t4, rfl⟩ := LsV.form r4.k
  refine RunU.var b5 (by kernel_rfl) (by first | (simp; done) | (simp [OpR.cells]; done) | (simp [AnsR.cells]; done) | rfl) (by simp [NodeR.cells, Value.oneCell']) fun w6 st6 b5 => ?_
  replace S := S.go st6.step (by decide) (by decide); replace D := D.mono (st6.step.sub (by decide)); replace r3 := r3.mono (st6.step.sub (by decide)); replace r4 := r4.mono (st6.step.sub (by decide))
  refine ref_ReadN_c c5 4 (D.mono (view_sub _ _ _)) (by omega) fun v7 u7 c7 w7 st7 r7 => ?_
  replace S := S.go st7 (by decide) (by decide); replace D := D.mono (st7.sub (by decide)); replace r3 := r3.mono (st7.sub (by decide)); replace r4 := r4.mono (st7.sub (by decide)); replace b5 := st7.sub (by decide) _ _ b5
  refine T2.mk (TAgg.mk (TInt.mk ?_))
  refine AllocC.col c7 6 fun a' c8 w8 st8 b8 _ => ?_
  replace S := S.go st8.step (by decide) (by decide); replace D := D.mono (st8.step.sub (by decide)); replace r3 := r3.mono (st8.step.sub (by decide)); replace r4 := r4.mono (st8.step.sub (by decide)); replace b5 := st8.step.sub (by decide) _ _ b5; replace r7 := r7.mono (st8.step.sub (by decide))
  obtain ⟨o7, p7, rfl⟩ := LsV.form r7.p
  obtain ⟨q7, t7, rfl⟩ := LsV.form r7.k
  refine RunU.var b8 (by kernel_rfl) (by first | (simp; done) | (simp [OpR.cells]; done) | (simp [AnsR.cells]; done) | rfl) (by simp [NodeR.cells, Value.oneCell']) fun w9 st9 b8 => ?_
  replace S := S.go st9.step (by decide) (by decide); replace D := D.mono (st9.step.sub (by decide)); replace r3 := r3.mono (st9.step.sub (by decide)); replace r4 := r4.mono (st9.step.sub (by decide)); replace b5 := st9.step.sub (by decide) _ _ b5; replace r7 := r7.mono (st9.step.sub (by decide))
  refine BS.ne (fun hne => absurd rfl hne) (fun _ => ?_)
  have hmild : NodeR.mild (rdN l).1 := by
    by_cases hok : okN' l
    · rw [rdN_yes hok]; exact decN_mild l
    · rw [rdN_no hok]; exact ⟨by decide, by intro p hp; simp [NodeR.zero] at hp, by intro p hp; simp [NodeR.zero] at hp⟩
  have hkl : (rdN l).1.kids.length ≤ 1099511627776 := by
    by_cases hok : okN' l
    · rw [rdN_yes hok]
      rcases hok.1.2.2 with hh | hh
      · show (decN l).1.kids.length ≤ _; omega
      · show (decN l).1.kids.length ≤ _; omega
    · rw [rdN_no hok]; decide
  refine LoadA.all (view_sub _ _ _) b5 rfl (LoadA.all (view_sub _ _ _) b8 rfl ?_)
  refine SameN_c c8 7 (r4.mono (view_sub _ _ _)) (r7.mono (view_sub _ _ _)) (Nat.le_trans hmild.1 (by omega)) hkl fun c10 w10 st10 => TBool.mk ?_
  replace S := S.go st10 (by decide) (by decide); replace D := D.mono (st10.sub (by decide)); replace r3 := r3.mono (st10.sub (by decide)); replace r4 := r4.mono (st10.sub (by decide)); replace b5 := st10.sub (by decide) _ _ b5
  refine BS.no (by simp) ?_
  refine string_rule strU8 (r3.rd.mono (view_sub _ _ _)) (TStr.mk ?_)
  refine string_rule strU8 (D.mono (view_sub _ _ _)) (TStr.mk ?_)
  rw [strEq_of]
  unfold law07_NodeReads_K1
  refine BS.no (by simp) ?_
  refine LoopI.up l.length (fun i w' => ∃ ys : List Value, Fr w c10 w' ∧ RdS (view c10 0 w') (.slice o0 l.length p0) 1 l.length (bvs l) ∧ NodeV (view c10 4 w') (rdN l).1 (.slice o4 (rdN l).1.pairs.length p4) (.slice q4 (rdN l).1.kids.length t4) ∧ view c10 5 w' a = some (.cells ((rdN l).1.cells (.slice o4 (rdN l).1.pairs.length p4) (.slice q4 (rdN l).1.kids.length t4)).toArray 38 (0, 0)) ∧
    OwS (view c10 2 w') (.slice o3 l.length p3) 5 1 l.length ys) ⟨_, S, D, r4, b5, r3⟩ ?_
  rintro i w11 B hi ⟨ys, S, D, r4, b5, ho⟩ back
  refine BS.dec (fun hlt => ?_) (fun hge => ?_)
  · refine Req.bnd ⟨by omega, hlt⟩ ?_
    rcases ho.2 with ⟨e, hn0⟩ | ⟨g, cap, cur, e, hg, hnc, hcm, hcs, htake⟩
    · omega
    · cases e
      refine TSome.mk ?_
      rw [addr_add, Int.toNat_natCast, Nat.mul_one, Nat.zero_add]
      refine StoreC.col hg (by omega) fun w12 st12 st12' hg2 => ?_
      rw [wrap_i64 (by omega) (by omega)]
      replace S := S.go st12' (by decide) (by decide); replace D := D.mono (st12'.sub (by decide)); replace r4 := r4.mono (st12'.sub (by decide)); replace b5 := st12'.sub (by decide) _ _ b5
      refine back _ (by omega) ⟨_, S, D, r4, b5, ?_, .inr ⟨g, p3, _, rfl, hg2, hnc, hcm, by simpa using hcs, rfl⟩⟩
      rw [List.length_take]; simp; omega
  · refine BS.ne (fun _ => ⟨rfl, fin S⟩) (fun he0 => ?_)
    have hok : okN' l := by
      by_cases hok : okN' l
      · exact hok
      · rw [rdN_no hok] at he0; simp at he0
    have hrd := rdN_yes hok
    refine LoadA.all (view_sub _ _ _) b5 rfl ?_
    refine node_Write_c c10 8 (r4.mono (view_sub _ _ _)) hmild fun v13 c13 w13 st13 r13 => ?_
    replace S := S.go st13 (by decide) (by decide); replace D := D.mono (st13.sub (by decide))
    have hw : wrN (rdN l).1 = (l, 0) := by rw [hrd, wrN_yes hok.1 hok.2.1, hok.2.2]
    rw [hw] at r13 ⊢
    obtain ⟨o13, p13, rfl⟩ := r13.form
    (repeat (first | refine TInt.mk ?_ | refine TBool.mk ?_ | refine TStr.mk ?_ | refine TSl.mk ?_ | refine TPtr.mk ?_ | refine TAgg.mk ?_ | refine T2.mk ?_ | refine T3.mk ?_ | refine TSome.mk ?_))
    refine BS.yes rfl ?_
    refine string_rule strU8 (r13.rd.mono (view_sub _ _ _)) (TStr.mk ?_)
    refine string_rule strU8 (D.mono (view_sub _ _ _)) (TStr.mk ?_)
    rw [strEq_of, decide_eq_true rfl]
    exact ⟨rfl, fin S⟩

theorem back (n : NodeR) (v u : Value) (k : Int) (w : World) (hn : NodeV (wv w) n v u) : CallV Try.prog 9 #[.agg (n.cells v u).toArray, .int .i64 k] w fun r w' => r = .bool true ∧ Below w.heap.size w w' := by
  obtain ⟨ov, cv, rfl⟩ := LsV.form hn.p
  obtain ⟨ou, cu, rfl⟩ := LsV.form hn.k
  have D : NodeV (view (fun _ => 0) 0 w) n (.slice ov n.pairs.length cv) (.slice ou n.kids.length cu) := by rw [view0]; exact hn
  have S := Fr.start w
  refine law07_NodeBack_vc ?_
  unfold law07_NodeBack_VC
  refine AllocC.col (fun _ => 0) 1 fun a c1 w1 st1 b1 _ => ?_
  replace S := S.go st1.step (by decide) (by decide); replace D := D.mono (st1.step.sub (by decide))
  refine speaks07 c1 3 fun c2 w2 st2 => TBool.mk (BS.no rfl ?_)
  replace S := S.go st2 (by decide) (by decide); replace D := D.mono (st2.sub (by decide)); replace b1 := st2.sub (by decide) _ _ b1
  refine LoadA.all (view_sub _ _ _) b1 rfl ?_
  refine great7 c2 3 (D.mono (view_sub _ _ _)) (fun c3 w3 st3 => TBool.mk (BS.yes rfl ⟨rfl, fin (S.go st3 (by decide) (by decide))⟩)) (fun hl hk hkl hkk c3 w3 st3 => TBool.mk (BS.no rfl ?_))
  replace S := S.go st3 (by decide) (by decide); replace D := D.mono (st3.sub (by decide)); replace b1 := st3.sub (by decide) _ _ b1
  have hm := mild_of hl hk hkk
  refine LoadA.all (view_sub _ _ _) b1 rfl ?_
  refine node_Write_c c3 4 (D.mono (view_sub _ _ _)) hm fun v4 c4 w4 st4 r4 => ?_
  replace S := S.go st4 (by decide) (by decide); replace D := D.mono (st4.sub (by decide)); replace b1 := st4.sub (by decide) _ _ b1
  obtain ⟨o4, p4, rfl⟩ := r4.form
  (repeat (first | refine TInt.mk ?_ | refine TBool.mk ?_ | refine TStr.mk ?_ | refine TSl.mk ?_ | refine TPtr.mk ?_ | refine TAgg.mk ?_ | refine T2.mk ?_ | refine T3.mk ?_ | refine TSome.mk ?_))
  by_cases hR : ¬ n.right
  · rw [wrN_no hR]
    exact BS.ne (fun _ => BS.yes rfl (BS.yes rfl ⟨rfl, fin S⟩)) (fun h => by simp at h)
  have hR := Classical.not_not.1 hR
  by_cases hen : ¬ n.enc.length ≤ 470
  · rw [wrN_long hR hen]
    exact BS.ne (fun _ => BS.yes rfl (BS.no rfl ⟨rfl, fin S⟩)) (fun h => by simp at h)
  have hen := Classical.not_not.1 hen
  rw [wrN_yes hR hen] at r4 ⊢
  refine BS.ne (fun h => absurd rfl h) (fun _ => ?_)
  have hhs : n.hs := KidsV.hs D.k
  have e3 : 3 ≤ n.enc.length := by unfold NodeR.enc; simp
  simp only at r4 ⊢
  refine node_Read_c c4 5 (r4.rd.mono (view_sub _ _ _)) (by omega) fun v5 u5 c5 w5 st5 r5 => ?_
  replace S := S.go st5 (by decide) (by decide); replace D := D.mono (st5.sub (by decide)); replace b1 := st5.sub (by decide) _ _ b1; replace r4 := r4.mono (st5.sub (by decide))
  rw [NodeR.read hR hen hhs] at r5 ⊢
  refine T2.mk (TAgg.mk (TInt.mk ?_))
  refine AllocC.col c5 6 fun x c6 w6 st6 b6 _ => ?_
  replace S := S.go st6.step (by decide) (by decide); replace D := D.mono (st6.step.sub (by decide)); replace b1 := st6.step.sub (by decide) _ _ b1; replace r4 := r4.mono (st6.step.sub (by decide)); replace r5 := r5.mono (st6.step.sub (by decide))
  obtain ⟨o5, p5, rfl⟩ := LsV.form r5.p
  obtain ⟨q5, t5, rfl⟩ := LsV.form r5.k
  refine RunU.var b6 (by kernel_rfl) rfl (by simp [NodeR.cells, Value.oneCell']) fun w7 st7 b6 => ?_
  replace S := S.go st7.step (by decide) (by decide); replace D := D.mono (st7.step.sub (by decide)); replace b1 := st7.step.sub (by decide) _ _ b1; replace r4 := r4.mono (st7.step.sub (by decide)); replace r5 := r5.mono (st7.step.sub (by decide))
  obtain ⟨m0, hm0, _⟩ := and_mask k 1023 (by omega)
  rw [show ((1023 : Nat) : Int) = 1023 from rfl] at hm0
  have hmm : Int.tmod (m0 : Int) ((n.enc.length : Nat) : Int) = ((m0 % n.enc.length : Nat) : Int) := by
    rw [Int.tmod_eq_emod_of_nonneg (by omega)]; exact (Int.natCast_emod _ _).symm
  rw [hm0, hmm]
  have hlt : m0 % n.enc.length < n.enc.length := Nat.mod_lt _ (by omega)
  generalize m0 % n.enc.length = q at hlt
  have hcap := r4.rd.len.2.1
  refine Req.ne (by omega) (Req.bndle ⟨by omega, by omega⟩ ?_)
  rw [Int.toNat_natCast]
  have htk := r4.rd.take (k := q) (by omega)
  rw [Nat.mul_one, ← bvs_take] at htk
  have hql : (n.enc.take q).length = q := by rw [List.length_take]; omega
  refine node_Read_c c6 5 (l := n.enc.take q) (by rw [hql]; exact htk.mono (view_sub _ _ _)) (by omega) fun v8 u8 c8 w8 st8 r8 => ?_
  replace S := S.go st8 (by decide) (by decide); replace D := D.mono (st8.sub (by decide)); replace b1 := st8.sub (by decide) _ _ b1; replace b6 := st8.sub (by decide) _ _ b6; replace r4 := r4.mono (st8.sub (by decide)); replace r5 := r5.mono (st8.sub (by decide))
  have hcut : ¬ okN' (n.enc.take q) := fun hok => by
    have := okN_free (y := n.enc.drop q) hok (by rw [List.take_append_drop]; exact NodeR.ok hR hen hhs)
    have := congrArg List.length this
    rw [List.length_drop, List.length_nil] at this; omega
  rw [rdN_no hcut] at r8 ⊢
  refine T2.mk (TAgg.mk (TInt.mk ?_))
  refine AllocC.col c8 7 fun y c9 w9 st9 b9 _ => ?_
  replace S := S.go st9.step (by decide) (by decide); replace D := D.mono (st9.step.sub (by decide)); replace b1 := st9.step.sub (by decide) _ _ b1; replace b6 := st9.step.sub (by decide) _ _ b6; replace r4 := r4.mono (st9.step.sub (by decide)); replace r5 := r5.mono (st9.step.sub (by decide))
  replace r8 := r8.mono (st9.step.sub (by decide))
  obtain ⟨o8, p8, rfl⟩ := LsV.form r8.p
  obtain ⟨q8, t8, rfl⟩ := LsV.form r8.k
  refine RunU.var b9 (by kernel_rfl) rfl (by simp [NodeR.cells, Value.oneCell']) fun w10 st10 b9 => ?_
  replace S := S.go st10.step (by decide) (by decide); replace D := D.mono (st10.step.sub (by decide)); replace b1 := st10.step.sub (by decide) _ _ b1; replace b6 := st10.step.sub (by decide) _ _ b6; replace r4 := r4.mono (st10.step.sub (by decide)); replace r5 := r5.mono (st10.step.sub (by decide))
  refine AllocC.col c9 2 fun z c11 w11 st11 b11 _ => ?_
  replace S := S.go st11.step (by decide) (by decide); replace D := D.mono (st11.step.sub (by decide)); replace b1 := st11.step.sub (by decide) _ _ b1; replace b6 := st11.step.sub (by decide) _ _ b6; replace r4 := r4.mono (st11.step.sub (by decide)); replace r5 := r5.mono (st11.step.sub (by decide))
  refine app_bytes slU8 (OwS.some_bytes b11) (r4.rd.mono (view_sub _ _ _)) (by simp; omega) fun o12 p12 c12 w12 st12 r12 => ?_
  replace S := S.go st12.step (by decide) (by decide); replace D := D.mono (st12.step.sub (by decide)); replace b1 := st12.step.sub (by decide) _ _ b1; replace b6 := st12.step.sub (by decide) _ _ b6; replace r5 := r5.mono (st12.step.sub (by decide))
  rw [List.nil_append] at r12 ⊢
  refine TSl.mk ?_
  refine AllocC.col c12 8 fun z2 c13 w13 st13 b13 _ => ?_
  replace S := S.go st13.step (by decide) (by decide); replace D := D.mono (st13.step.sub (by decide)); replace b1 := st13.step.sub (by decide) _ _ b1; replace b6 := st13.step.sub (by decide) _ _ b6; replace r5 := r5.mono (st13.step.sub (by decide)); replace r12 := r12.mono (st13.step.sub (by decide))
  obtain ⟨kb, hkb⟩ : ∃ kb : UInt8, IntKind.wrap .u8 k = ((kb.toNat : Nat) : Int) := ⟨UInt8.ofNat (k % 256).toNat, by rw [wrap_u8_mod]; simp; omega⟩
  rw [hkb] at b13
  refine app_bytes slU8 r12 (m := [kb]) ((RdS.block (xs := bvs [kb]) b13 rfl (Nat.le_refl _)).mono (view_sub _ _ _)) (by simp; omega) fun o14 p14 c14 w14 st14 r14 => ?_
  replace S := S.go st14.step (by decide) (by decide); replace D := D.mono (st14.step.sub (by decide)); replace b1 := st14.step.sub (by decide) _ _ b1; replace b6 := st14.step.sub (by decide) _ _ b6; replace r5 := r5.mono (st14.step.sub (by decide))
  refine TSl.mk ?_
  refine node_Read_c c14 5 (r14.rd.mono (view_sub _ _ _)) (by simp; omega) fun v15 u15 c15 w15 st15 r15 => ?_
  replace S := S.go st15 (by decide) (by decide); replace D := D.mono (st15.sub (by decide)); replace b1 := st15.sub (by decide) _ _ b1; replace b6 := st15.sub (by decide) _ _ b6; replace r5 := r5.mono (st15.sub (by decide))
  have hext : ¬ okN' (n.enc ++ [kb]) := fun hok => by
    have := okN_free (NodeR.ok hR hen hhs) hok
    simp at this
  rw [rdN_no hext] at r15 ⊢
  refine T2.mk (TAgg.mk (TInt.mk ?_))
  refine AllocC.col c15 9 fun y2 c16 w16 st16 b16 _ => ?_
  replace S := S.go st16.step (by decide) (by decide); replace D := D.mono (st16.step.sub (by decide)); replace b1 := st16.step.sub (by decide) _ _ b1; replace b6 := st16.step.sub (by decide) _ _ b6; replace r5 := r5.mono (st16.step.sub (by decide))
  replace r15 := r15.mono (st16.step.sub (by decide))
  obtain ⟨o15, p15, rfl⟩ := LsV.form r15.p
  obtain ⟨q15, t15, rfl⟩ := LsV.form r15.k
  refine RunU.var b16 (by kernel_rfl) rfl (by simp [NodeR.cells, Value.oneCell']) fun w17 st17 b16 => ?_
  replace S := S.go st17.step (by decide) (by decide); replace D := D.mono (st17.step.sub (by decide)); replace b1 := st17.step.sub (by decide) _ _ b1; replace b6 := st17.step.sub (by decide) _ _ b6; replace r5 := r5.mono (st17.step.sub (by decide))
  refine BS.yes rfl ?_
  refine LoadA.all (view_sub _ _ _) b6 rfl (LoadA.all (view_sub _ _ _) b1 rfl ?_)
  refine SameN_c c16 8 (r5.mono (view_sub _ _ _)) (D.mono (view_sub _ _ _)) (show n.pairs.length ≤ 1099511627776 by omega) (show n.kids.length ≤ 1099511627776 by omega) fun c18 w18 st18 => TBool.mk ?_
  replace S := S.go st18 (by decide) (by decide)
  rw [decide_eq_true rfl]
  exact BS.yes rfl (BS.yes rfl ⟨rfl, fin S⟩)

theorem levels (n m : NodeR) (v u v' u' : Value) (w : World) (hn : NodeV (wv w) n v u) (hm : NodeV (wv w) m v' u') : CallV Try.prog 10 #[.agg (n.cells v u).toArray, .agg (m.cells v' u').toArray] w fun r w' => r = .bool true ∧ Below w.heap.size w w' := by
  obtain ⟨ov, cv, rfl⟩ := LsV.form hn.p
  obtain ⟨ou, cu, rfl⟩ := LsV.form hn.k
  obtain ⟨pv, dv, rfl⟩ := LsV.form hm.p
  obtain ⟨pu, du, rfl⟩ := LsV.form hm.k
  have D : NodeV (view (fun _ => 0) 0 w) n (.slice ov n.pairs.length cv) (.slice ou n.kids.length cu) := by rw [view0]; exact hn
  have E : NodeV (view (fun _ => 0) 0 w) m (.slice pv m.pairs.length dv) (.slice pu m.kids.length du) := by rw [view0]; exact hm
  have S := Fr.start w
  refine law07_NodeLevels_vc ?_
  unfold law07_NodeLevels_VC
  refine AllocC.col (fun _ => 0) 1 fun x c1 w1 st1 b1 _ => ?_
  replace S := S.go st1.step (by decide) (by decide); replace D := D.mono (st1.step.sub (by decide)); replace E := E.mono (st1.step.sub (by decide))
  refine AllocC.col c1 2 fun y c2 w2 st2 b2 _ => ?_
  replace S := S.go st2.step (by decide) (by decide); replace D := D.mono (st2.step.sub (by decide)); replace E := E.mono (st2.step.sub (by decide)); replace b1 := st2.step.sub (by decide) _ _ b1
  refine speaks07 c2 3 fun c3 w3 st3 => TBool.mk (BS.no rfl ?_)
  replace S := S.go st3 (by decide) (by decide); replace D := D.mono (st3.sub (by decide)); replace E := E.mono (st3.sub (by decide)); replace b1 := st3.sub (by decide) _ _ b1; replace b2 := st3.sub (by decide) _ _ b2
  refine LoadA.all (view_sub _ _ _) b1 rfl ?_
  refine great7 c3 3 (D.mono (view_sub _ _ _)) (fun c4 w4 st4 => TBool.mk (BS.yes rfl ⟨rfl, fin (S.go st4 (by decide) (by decide))⟩)) (fun hl hk hkl hkk c4 w4 st4 => TBool.mk (BS.no rfl ?_))
  replace S := S.go st4 (by decide) (by decide); replace D := D.mono (st4.sub (by decide)); replace E := E.mono (st4.sub (by decide)); replace b1 := st4.sub (by decide) _ _ b1; replace b2 := st4.sub (by decide) _ _ b2
  refine LoadA.all (view_sub _ _ _) b2 rfl ?_
  unfold law07_NodeLevels_K1
  refine great7 c4 3 (E.mono (view_sub _ _ _)) (fun c5 w5 st5 => TBool.mk (BS.yes rfl ⟨rfl, fin (S.go st5 (by decide) (by decide))⟩)) (fun hl' hk' hkl' hkk' c5 w5 st5 => TBool.mk (BS.no rfl ?_))
  replace S := S.go st5 (by decide) (by decide); replace D := D.mono (st5.sub (by decide)); replace E := E.mono (st5.sub (by decide)); replace b1 := st5.sub (by decide) _ _ b1; replace b2 := st5.sub (by decide) _ _ b2
  refine LoadA.all (view_sub _ _ _) b1 rfl ?_
  refine node_Write_c c5 4 (D.mono (view_sub _ _ _)) (mild_of hl hk hkk) fun v6 c6 w6 st6 r6 => ?_
  replace S := S.go st6 (by decide) (by decide); replace D := D.mono (st6.sub (by decide)); replace E := E.mono (st6.sub (by decide)); replace b1 := st6.sub (by decide) _ _ b1; replace b2 := st6.sub (by decide) _ _ b2
  obtain ⟨o6, p6, rfl⟩ := r6.form
  (repeat (first | refine TInt.mk ?_ | refine TBool.mk ?_ | refine TStr.mk ?_ | refine TSl.mk ?_ | refine TPtr.mk ?_ | refine TAgg.mk ?_ | refine T2.mk ?_ | refine T3.mk ?_ | refine TSome.mk ?_))
  refine LoadA.all (view_sub _ _ _) b2 rfl ?_
  refine node_Write_c c6 4 (E.mono (view_sub _ _ _)) (mild_of hl' hk' hkk') fun v7 c7 w7 st7 r7 => ?_
  replace S := S.go st7 (by decide) (by decide); replace D := D.mono (st7.sub (by decide)); replace E := E.mono (st7.sub (by decide)); replace b1 := st7.sub (by decide) _ _ b1; replace b2 := st7.sub (by decide) _ _ b2; replace r6 := r6.mono (st7.sub (by decide))
  obtain ⟨o7, p7, rfl⟩ := r7.form
  (repeat (first | refine TInt.mk ?_ | refine TBool.mk ?_ | refine TStr.mk ?_ | refine TSl.mk ?_ | refine TPtr.mk ?_ | refine TAgg.mk ?_ | refine T2.mk ?_ | refine T3.mk ?_ | refine TSome.mk ?_))
  refine BS.ne (fun _ => ⟨rfl, fin S⟩) (fun h1 => ?_)
  unfold law07_NodeLevels_K2
  refine BS.ne (fun _ => ⟨rfl, fin S⟩) (fun h2 => ?_)
  have get : ∀ {n : NodeR}, (wrN n).2 = 0 → n.right ∧ n.enc.length ≤ 470 ∧ wrN n = (n.enc, 0) := by
    intro n h
    by_cases hR : n.right
    · by_cases hen : n.enc.length ≤ 470
      · exact ⟨hR, hen, wrN_yes hR hen⟩
      · rw [wrN_long hR hen] at h; simp at h
    · rw [wrN_no hR] at h; simp at h
  obtain ⟨a1, a2, a3⟩ := get h1
  obtain ⟨d1, d2, d3⟩ := get h2
  rw [a3] at r6 ⊢
  rw [d3] at r7 ⊢
  refine DrewC.col c7 fun w8 st8 => ?_
  replace S := S.go st8 (by decide) (by decide); replace D := D.mono (st8.sub (by decide)); replace E := E.mono (st8.sub (by decide)); replace b1 := st8.sub (by decide) _ _ b1; replace b2 := st8.sub (by decide) _ _ b2; replace r6 := r6.mono (st8.sub (by decide)); replace r7 := r7.mono (st8.sub (by decide))
  refine string_rule strU8 (r6.rd.mono (view_sub _ _ _)) (TStr.mk ?_)
  refine string_rule strU8 (r7.rd.mono (view_sub _ _ _)) (TStr.mk ?_)
  refine LoadA.all (view_sub _ _ _) b1 rfl (LoadA.all (view_sub _ _ _) b2 rfl ?_)
  refine SameN_c c7 8 (D.mono (view_sub _ _ _)) (E.mono (view_sub _ _ _)) (by omega) (by omega) fun c9 w9 st9 => TBool.mk ?_
  replace S := S.go st9 (by decide) (by decide); replace r6 := r6.mono (st9.sub (by decide)); replace r7 := r7.mono (st9.sub (by decide))
  refine ⟨StableV.string strU8 (r6.rd.mono (view_sub _ _ _)), StableV.string strU8 (r7.rd.mono (view_sub _ _ _)), ?_⟩
  rw [strEq_of]
  have : decide (n.enc = m.enc) = decide (n = m) := by
    rw [decide_eq_decide]
    exact ⟨NodeR.enc_inj a1 d1 a2 d2 (KidsV.hs hn.k) (KidsV.hs hm.k), fun e => by rw [e]⟩
  show BS (decide (n.enc = m.enc) == decide (n = m)) _ _
  rw [this, beq_self_eq_true]
  refine BS.yes rfl (BS.yes (by simp; omega) ?_)
  have e3 : 3 ≤ n.enc.length := by unfold NodeR.enc; simp
  show Value.bool (decide ((n.enc.length : Int) ≥ 3)) = .bool true ∧ _
  rw [decide_eq_true (by omega)]
  exact ⟨rfl, fin S⟩
end Go.Proofs.Ythkboikbpbcdeaa.walkNode

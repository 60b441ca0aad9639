/-
  Chapter 04's laws, walked: each returns true, whatever its arguments, and leaves what lay there.
-/
import Derived.Test.YtpblhjgpfmmafaaDoorSec3
import Derived.Test.YtpblhjgpfmmafaaDoorArgs2
set_option linter.unusedVariables false
set_option linter.unusedSimpArgs false
namespace Go.Proofs.YtpblhjgpfmmafaaDoor.walkSec
open Go.Vc Go.ChangeShapes Go.WideShapes Go.ChangeAt Go.RowKit
attribute [local irreducible] TInt TBool TStr TPtr TSl TAgg TMap TChan T2 T3 T4 BS Req TSome TCell TByte LoadC LoadA StoreC AllocC RunV RunU CallV ExtV EqA StableC StableA StableV TCells ReadV
attribute [local irreducible] DrewC

theorem fin {w : World} {c' w'} (S : Fr w c' w') : Below w.heap.size w w' := Step.below S fun _ => by simp
theorem un_zero : unP (List.replicate 512 0) = ([], 22) := unP_no fun h => by have := h.2.1; rw [List.getElem?_replicate, if_pos (by omega)] at this; simp at this
theorem rd_zero : rdS (List.replicate 512 0) = (SupR.zero, 22) := rdS_no fun h => by have := h.2.1; rw [List.getElem?_replicate, if_pos (by omega)] at this; simp at this
theorem wr_ab : wrP [97, 98] = (wrapB [97, 98], 0) := by unfold wrP; rw [if_pos (by decide)]
theorem wrap_ab : (wrapB [97, 98]).take 6 = [66, 0, 2, 97, 98, 0] := by decide +kernel
theorem speaks04 (c : Nat → Nat) (j : Nat) {w : World} {R : Value → World → Prop} (hG : GlobS (wv w)) (h : ∀ c' w', Step c [] [j] w c' w' → R (.bool true) w') : CallV Tryd.prog 18 #[] w R := by
  have G : GlobS (view (fun _ => 0) 0 w) := by rw [view0]; exact hG
  have S := Fr.start w
  refine law04_speaks_vc ?_
  unfold law04_speaks_VC
  refine AllocC.col (fun _ => 0) 2 fun a4 c2 w2 st2 b2 _ => ?_
  replace S := S.go st2.step (by decide) (by decide); replace G := G.mono (st2.step.sub (by decide))
  refine mark_col Tryd.underlying22 Tryd.underlying5 b2 fun w3 _ st3 b3 => TSl.mk ?_
  replace S := S.go st3 (by decide) (by decide); replace G := G.mono (st3.sub (by decide))
  refine Wrap_c c2 3 (l := [97, 98]) (RdS.block (xs := bvs [97, 98]) (view_sub _ _ _ _ _ b3) rfl (Nat.le_refl _)) fun v4 c4 w4 st4 r4 => ?_
  replace S := S.go st4 (by decide) (by decide); replace G := G.mono (st4.sub (by decide))
  rw [wr_ab] at r4 ⊢
  dsimp only at r4 ⊢
  obtain ⟨o4, p4, rfl⟩ := r4.form
  (repeat (first | refine TInt.mk ?_ | refine TBool.mk ?_ | refine TStr.mk ?_ | refine TSl.mk ?_ | refine TPtr.mk ?_ | refine TAgg.mk ?_ | refine T2.mk ?_ | refine T3.mk ?_ | refine TSome.mk ?_))
  refine make_col (n := 512) (l := 512) Tryd.underlying22 zU8 c4 4 (Nat.le_refl _) (by omega) (by omega) fun b5 c5 w5 st5 b5' _ => TSl.mk ?_
  replace S := S.go st5.step (by decide) (by decide); replace G := G.mono (st5.step.sub (by decide)); replace r4 := r4.mono (st5.step.sub (by decide))
  obtain ⟨Z, hZ, hZl⟩ : ∃ Z, Z = List.replicate 512 (0 : UInt8) ∧ Z.length = 512 := ⟨_, rfl, List.length_replicate⟩
  rw [made_u8, ← hZ] at b5'
  refine Unwrap_c c5 5 (l := Z) (by rw [hZl]; exact RdS.block (xs := bvs Z) (view_sub _ _ _ _ _ b5') (by simp [hZl]) (Nat.le_refl _)) (by omega) fun v6 c6 w6 st6 r6 => ?_
  replace S := S.go st6 (by decide) (by decide); replace G := G.mono (st6.sub (by decide)); replace r4 := r4.mono (st6.sub (by decide))
  rw [hZ, un_zero] at r6
  rw [hZ, un_zero]
  obtain ⟨o6, p6, rfl⟩ := r6.form
  (repeat (first | refine TInt.mk ?_ | refine TBool.mk ?_ | refine TStr.mk ?_ | refine TSl.mk ?_ | refine TPtr.mk ?_ | refine TAgg.mk ?_ | refine T2.mk ?_ | refine T3.mk ?_ | refine TSome.mk ?_))
  refine make_col (n := 512) (l := 512) Tryd.underlying22 zU8 c6 4 (Nat.le_refl _) (by omega) (by omega) fun b7 c7 w7 st7 b7' _ => TSl.mk ?_
  replace S := S.go st7.step (by decide) (by decide); replace G := G.mono (st7.step.sub (by decide)); replace r4 := r4.mono (st7.step.sub (by decide))
  rw [made_u8, ← hZ] at b7'
  refine ReadSuper_c c7 5 (l := Z) (by rw [hZl]; exact RdS.block (xs := bvs Z) (view_sub _ _ _ _ _ b7') (by simp [hZl]) (Nat.le_refl _)) (by omega) (G.mono (view_sub _ _ _)) fun c8 w8 st8 => ?_
  replace S := S.go st8 (by decide) (by decide); replace G := G.mono (st8.sub (by decide)); replace r4 := r4.mono (st8.sub (by decide))
  rw [hZ, rd_zero]
  (repeat (first | refine TInt.mk ?_ | refine TBool.mk ?_ | refine TStr.mk ?_ | refine TSl.mk ?_ | refine TPtr.mk ?_ | refine TAgg.mk ?_ | refine T2.mk ?_ | refine T3.mk ?_ | refine TSome.mk ?_))
  refine AllocC.col c8 6 fun a9 c9 w9 st9 b9 _ => ?_
  replace S := S.go st9.step (by decide) (by decide); replace r4 := r4.mono (st9.step.sub (by decide))
  refine RunU.var b9 (sup_size SupR.zero_ok) rfl (sup_all _) fun w10 st10 b10 => ?_
  replace S := S.go st10.step (by decide) (by decide); replace r4 := r4.mono (st10.step.sub (by decide))
  refine BS.yes rfl ?_
  have hl := wrapB_len (l := [97, 98]) (by decide)
  have hc := r4.rd.len.2.1
  refine BS.yes (by simp [hl]) ?_
  refine Req.bndle ⟨by omega, by omega⟩ ?_
  have r6 := r4.rd.take (k := 6) (by omega)
  rw [Nat.mul_one, ← bvs_take, wrap_ab] at r6
  refine string_rule strU8 (r6.mono (view_sub _ _ _)) (TStr.mk ?_)
  rw [show (⟨#[66, 0, 2, 97, 98, 0]⟩ : ByteArray) = strOf [66, 0, 2, 97, 98, 0] from rfl, strEq_of, decide_eq_true rfl]
  refine BS.yes rfl (BS.yes rfl ?_)
  exact h _ _ (S.leave c j)

theorem wrP_cases (l : List UInt8) : (l.length ≤ 470 ∧ wrP l = (wrapB l, 0)) ∨ (¬ l.length ≤ 470 ∧ wrP l = ([], 23)) := by
  unfold wrP
  split
  · exact .inl ⟨‹_›, rfl⟩
  · exact .inr ⟨‹_›, rfl⟩
theorem bne_self (n : Int) : (n != n) = false := by simp
theorem wraps (v u : Value) (l m : List UInt8) (w : World) (hr : RdS (wv w) v 1 l.length (bvs l)) (hq : RdS (wv w) u 1 m.length (bvs m)) (hG : GlobS (wv w)) (hl : l.length ≤ 140737488355328) (hm : m.length ≤ 140737488355328) :
    CallV Tryd.prog 7 #[v, u] w fun r w' => r = .bool true ∧ Below w.heap.size w w' := by
  obtain ⟨o0, p0, rfl⟩ := hr.form
  obtain ⟨q0, t0, rfl⟩ := hq.form
  have G : GlobS (view (fun _ => 0) 0 w) := by rw [view0]; exact hG
  have D : RdS (view (fun _ => 0) 0 w) (.slice o0 l.length p0) 1 l.length (bvs l) := by rw [view0]; exact hr
  have E : RdS (view (fun _ => 0) 0 w) (.slice q0 m.length t0) 1 m.length (bvs m) := by rw [view0]; exact hq
  have S := Fr.start w
  refine law04_SectorWraps_vc ?_
  unfold law04_SectorWraps_VC
  refine speaks04 (fun _ => 0) 9 (G.mono (view_sub _ _ _)) fun c1 w1 st1 => TBool.mk (BS.no rfl ?_)
  replace S := S.go st1 (by decide) (by decide); replace G := G.mono (st1.sub (by decide)); replace D := D.mono (st1.sub (by decide)); replace E := E.mono (st1.sub (by decide))
  refine AllocC.col c1 1 fun a2 c2 w2 st2 b2 _ => ?_
  replace S := S.go st2.step (by decide) (by decide); replace G := G.mono (st2.step.sub (by decide)); replace D := D.mono (st2.step.sub (by decide)); replace E := E.mono (st2.step.sub (by decide))
  refine app_bytes slU8 (OwS.some_bytes b2) (D.mono (view_sub _ _ _)) (by simp; omega) fun o3 p3 c3 w3 st3 r3 => TSl.mk ?_
  replace S := S.go st3.step (by decide) (by decide); replace G := G.mono (st3.step.sub (by decide)); replace D := D.mono (st3.step.sub (by decide)); replace E := E.mono (st3.step.sub (by decide))
  refine AllocC.col c3 2 fun a4 c4 w4 st4 b4 _ => ?_
  replace S := S.go st4.step (by decide) (by decide); replace G := G.mono (st4.step.sub (by decide)); replace D := D.mono (st4.step.sub (by decide)); replace E := E.mono (st4.step.sub (by decide)); replace r3 := r3.mono (st4.step.sub (by decide))
  refine app_bytes slU8 (OwS.some_bytes b4) (E.mono (view_sub _ _ _)) (by simp; omega) fun o5 p5 c5 w5 st5 r5 => TSl.mk ?_
  replace S := S.go st5.step (by decide) (by decide); replace G := G.mono (st5.step.sub (by decide)); replace D := D.mono (st5.step.sub (by decide)); replace E := E.mono (st5.step.sub (by decide)); replace r3 := r3.mono (st5.step.sub (by decide))
  rw [List.nil_append] at r3 r5 ⊢
  rw [List.nil_append] at *
  refine Wrap_c c5 3 (r3.rd.mono (view_sub _ _ _)) fun v6 c6 w6 st6 r6 => ?_
  replace S := S.go st6 (by decide) (by decide); replace G := G.mono (st6.sub (by decide)); replace D := D.mono (st6.sub (by decide)); replace E := E.mono (st6.sub (by decide)); replace r3 := r3.mono (st6.sub (by decide)); replace r5 := r5.mono (st6.sub (by decide))
  obtain ⟨o6, p6, rfl⟩ := r6.form
  (repeat (first | refine TInt.mk ?_ | refine TBool.mk ?_ | refine TStr.mk ?_ | refine TSl.mk ?_ | refine TPtr.mk ?_ | refine TAgg.mk ?_ | refine T2.mk ?_ | refine T3.mk ?_ | refine TSome.mk ?_))
  refine RefWrap_c c6 4 (D.mono (view_sub _ _ _)) fun v7 c7 w7 st7 r7 => ?_
  replace S := S.go st7 (by decide) (by decide); replace G := G.mono (st7.sub (by decide)); replace D := D.mono (st7.sub (by decide)); replace E := E.mono (st7.sub (by decide)); replace r3 := r3.mono (st7.sub (by decide)); replace r5 := r5.mono (st7.sub (by decide)); replace r6 := r6.mono (st7.sub (by decide))
  obtain ⟨o7, p7, rfl⟩ := r7.form
  (repeat (first | refine TInt.mk ?_ | refine TBool.mk ?_ | refine TStr.mk ?_ | refine TSl.mk ?_ | refine TPtr.mk ?_ | refine TAgg.mk ?_ | refine T2.mk ?_ | refine T3.mk ?_ | refine TSome.mk ?_))
  refine Unwrap_c c7 5 (r5.rd.mono (view_sub _ _ _)) hm fun v8 c8 w8 st8 r8 => ?_
  replace S := S.go st8 (by decide) (by decide); replace G := G.mono (st8.sub (by decide)); replace D := D.mono (st8.sub (by decide)); replace E := E.mono (st8.sub (by decide)); replace r3 := r3.mono (st8.sub (by decide)); replace r5 := r5.mono (st8.sub (by decide)); replace r6 := r6.mono (st8.sub (by decide)); replace r7 := r7.mono (st8.sub (by decide))
  obtain ⟨o8, p8, rfl⟩ := r8.form
  (repeat (first | refine TInt.mk ?_ | refine TBool.mk ?_ | refine TStr.mk ?_ | refine TSl.mk ?_ | refine TPtr.mk ?_ | refine TAgg.mk ?_ | refine T2.mk ?_ | refine T3.mk ?_ | refine TSome.mk ?_))
  refine RefUnwrap_c c8 6 (E.mono (view_sub _ _ _)) fun v9 c9 w9 st9 r9 => ?_
  replace S := S.go st9 (by decide) (by decide); replace G := G.mono (st9.sub (by decide)); replace D := D.mono (st9.sub (by decide)); replace E := E.mono (st9.sub (by decide)); replace r3 := r3.mono (st9.sub (by decide)); replace r5 := r5.mono (st9.sub (by decide)); replace r6 := r6.mono (st9.sub (by decide)); replace r7 := r7.mono (st9.sub (by decide)); replace r8 := r8.mono (st9.sub (by decide))
  obtain ⟨o9, p9, rfl⟩ := r9.form
  (repeat (first | refine TInt.mk ?_ | refine TBool.mk ?_ | refine TStr.mk ?_ | refine TSl.mk ?_ | refine TPtr.mk ?_ | refine TAgg.mk ?_ | refine T2.mk ?_ | refine T3.mk ?_ | refine TSome.mk ?_))
  refine BS.no (bne_self _) ?_
  refine string_rule strU8 (r6.rd.mono (view_sub _ _ _)) (TStr.mk (string_rule strU8 (r7.rd.mono (view_sub _ _ _)) (TStr.mk ?_)))
  rw [strEq_of, decide_eq_true rfl]
  refine BS.no rfl (BS.no (bne_self _) ?_)
  refine string_rule strU8 (r8.rd.mono (view_sub _ _ _)) (TStr.mk (string_rule strU8 (r9.rd.mono (view_sub _ _ _)) (TStr.mk ?_)))
  rw [strEq_of, decide_eq_true rfl]
  refine BS.no rfl ?_
  refine string_rule strU8 (r3.rd.mono (view_sub _ _ _)) (TStr.mk (string_rule strU8 (D.mono (view_sub _ _ _)) (TStr.mk ?_)))
  rw [strEq_of, decide_eq_true rfl]
  refine BS.no rfl ?_
  refine string_rule strU8 (r5.rd.mono (view_sub _ _ _)) (TStr.mk (string_rule strU8 (E.mono (view_sub _ _ _)) (TStr.mk ?_)))
  rw [strEq_of, decide_eq_true rfl]
  unfold law04_SectorWraps_K1
  refine BS.no rfl ?_
  rcases wrP_cases l with ⟨hle, hw⟩ | ⟨hle, hw⟩
  · rw [hw] at r6 ⊢
    refine BS.no rfl ?_
    refine Unwrap_c c9 7 (r6.rd.mono (view_sub _ _ _)) (by rw [wrapB_len hle]; omega) fun v10 c10 w10 st10 r10 => ?_
    replace S := S.go st10 (by decide) (by decide); replace D := D.mono (st10.sub (by decide))
    rw [unP_wrap hle] at r10 ⊢
    obtain ⟨o10, p10, rfl⟩ := r10.form
    (repeat (first | refine TInt.mk ?_ | refine TBool.mk ?_ | refine TStr.mk ?_ | refine TSl.mk ?_ | refine TPtr.mk ?_ | refine TAgg.mk ?_ | refine T2.mk ?_ | refine T3.mk ?_ | refine TSome.mk ?_))
    refine BS.yes rfl ?_
    refine string_rule strU8 (r10.rd.mono (view_sub _ _ _)) (TStr.mk (string_rule strU8 (D.mono (view_sub _ _ _)) (TStr.mk ?_)))
    rw [strEq_of, decide_eq_true rfl]
    exact ⟨rfl, fin S⟩
  · rw [hw]
    exact BS.yes rfl ⟨rfl, fin S⟩

theorem supers (s : SupR) (u : Value) (m : List UInt8) (w : World) (hs : s.ok) (hq : RdS (wv w) u 1 m.length (bvs m)) (hG : GlobS (wv w)) (hm : m.length ≤ 140737488355328) :
    CallV Tryd.prog 8 #[.agg s.cells.toArray, u] w fun r w' => r = .bool true ∧ Below w.heap.size w w' := by
  obtain ⟨q0, t0, rfl⟩ := hq.form
  have G : GlobS (view (fun _ => 0) 0 w) := by rw [view0]; exact hG
  have E : RdS (view (fun _ => 0) 0 w) (.slice q0 m.length t0) 1 m.length (bvs m) := by rw [view0]; exact hq
  have S := Fr.start w
  have hsz : s.cells.toArray.size = 37 := by simp [sup_cells_len hs]
  have hrs := rdS_okr m
  have hsr : (rdS m).1.cells.toArray.size = 37 := by simp [sup_cells_len hrs]
  refine law04_SectorSupers_vc ?_
  unfold law04_SectorSupers_VC
  refine AllocC.col (fun _ => 0) 1 fun a1 c1 w1 st1 b1 _ => ?_
  replace S := S.go st1.step (by decide) (by decide); replace G := G.mono (st1.step.sub (by decide)); replace E := E.mono (st1.step.sub (by decide))
  refine speaks04 c1 9 (G.mono (view_sub _ _ _)) fun c2 w2 st2 => TBool.mk (BS.no rfl ?_)
  replace S := S.go st2 (by decide) (by decide); replace G := G.mono (st2.sub (by decide)); replace E := E.mono (st2.sub (by decide)); replace b1 := st2.sub (by decide) _ _ b1
  refine LoadA.all (view_sub _ _ _) b1 hsz ?_
  refine Super_c c2 2 hs (G.mono (view_sub _ _ _)) fun v3 c3 w3 st3 r3 => ?_
  replace S := S.go st3 (by decide) (by decide); replace G := G.mono (st3.sub (by decide)); replace E := E.mono (st3.sub (by decide)); replace b1 := st3.sub (by decide) _ _ b1
  obtain ⟨o3, p3, rfl⟩ := r3.form
  (repeat (first | refine TInt.mk ?_ | refine TBool.mk ?_ | refine TStr.mk ?_ | refine TSl.mk ?_ | refine TPtr.mk ?_ | refine TAgg.mk ?_ | refine T2.mk ?_ | refine T3.mk ?_ | refine TSome.mk ?_))
  refine AllocC.col c3 3 fun a4 c4 w4 st4 b4 _ => ?_
  replace S := S.go st4.step (by decide) (by decide); replace G := G.mono (st4.step.sub (by decide)); replace E := E.mono (st4.step.sub (by decide)); replace b1 := st4.step.sub (by decide) _ _ b1; replace r3 := r3.mono (st4.step.sub (by decide))
  refine app_bytes slU8 (OwS.some_bytes b4) (r3.rd.mono (view_sub _ _ _)) (by rw [supB_len hs]; simp) fun o5 p5 c5 w5 st5 r5 => TSl.mk ?_
  replace S := S.go st5.step (by decide) (by decide); replace G := G.mono (st5.step.sub (by decide)); replace E := E.mono (st5.step.sub (by decide)); replace b1 := st5.step.sub (by decide) _ _ b1; replace r3 := r3.mono (st5.step.sub (by decide))
  rw [List.nil_append] at r5 ⊢
  refine ReadSuper_c c5 9 (r5.rd.mono (view_sub _ _ _)) (by rw [supB_len hs]; omega) (G.mono (view_sub _ _ _)) fun c6 w6 st6 => ?_
  replace S := S.go st6 (by decide) (by decide); replace G := G.mono (st6.sub (by decide)); replace E := E.mono (st6.sub (by decide)); replace b1 := st6.sub (by decide) _ _ b1; replace r3 := r3.mono (st6.sub (by decide))
  rw [rdS_sup hs]
  (repeat (first | refine TInt.mk ?_ | refine TBool.mk ?_ | refine TStr.mk ?_ | refine TSl.mk ?_ | refine TPtr.mk ?_ | refine TAgg.mk ?_ | refine T2.mk ?_ | refine T3.mk ?_ | refine TSome.mk ?_))
  refine AllocC.col c6 4 fun a7 c7 w7 st7 b7 _ => ?_
  replace S := S.go st7.step (by decide) (by decide); replace G := G.mono (st7.step.sub (by decide)); replace E := E.mono (st7.step.sub (by decide)); replace b1 := st7.step.sub (by decide) _ _ b1; replace r3 := r3.mono (st7.step.sub (by decide))
  refine RunU.var b7 (sup_size hs) (by rw [hsz]; rfl) (sup_all _) fun w8 st8 b7 => ?_
  replace S := S.go st8.step (by decide) (by decide); replace G := G.mono (st8.step.sub (by decide)); replace E := E.mono (st8.step.sub (by decide)); replace b1 := st8.step.sub (by decide) _ _ b1; replace r3 := r3.mono (st8.step.sub (by decide))
  refine AllocC.col c7 5 fun a9 c9 w9 st9 b9 _ => ?_
  replace S := S.go st9.step (by decide) (by decide); replace G := G.mono (st9.step.sub (by decide)); replace E := E.mono (st9.step.sub (by decide)); replace b1 := st9.step.sub (by decide) _ _ b1; replace r3 := r3.mono (st9.step.sub (by decide)); replace b7 := st9.step.sub (by decide) _ _ b7
  refine app_bytes slU8 (OwS.some_bytes b9) (E.mono (view_sub _ _ _)) (by simp; omega) fun o10 p10 c10 w10 st10 r10 => TSl.mk ?_
  replace S := S.go st10.step (by decide) (by decide); replace G := G.mono (st10.step.sub (by decide)); replace E := E.mono (st10.step.sub (by decide)); replace b1 := st10.step.sub (by decide) _ _ b1; replace r3 := r3.mono (st10.step.sub (by decide)); replace b7 := st10.step.sub (by decide) _ _ b7
  rw [List.nil_append] at r10 ⊢
  refine ReadSuper_c c10 9 (r10.rd.mono (view_sub _ _ _)) hm (G.mono (view_sub _ _ _)) fun c11 w11 st11 => ?_
  replace S := S.go st11 (by decide) (by decide); replace G := G.mono (st11.sub (by decide)); replace E := E.mono (st11.sub (by decide)); replace b1 := st11.sub (by decide) _ _ b1; replace r3 := r3.mono (st11.sub (by decide)); replace b7 := st11.sub (by decide) _ _ b7; replace r10 := r10.mono (st11.sub (by decide))
  (repeat (first | refine TInt.mk ?_ | refine TBool.mk ?_ | refine TStr.mk ?_ | refine TSl.mk ?_ | refine TPtr.mk ?_ | refine TAgg.mk ?_ | refine T2.mk ?_ | refine T3.mk ?_ | refine TSome.mk ?_))
  refine AllocC.col c11 6 fun a12 c12 w12 st12 b12 _ => ?_
  replace S := S.go st12.step (by decide) (by decide); replace G := G.mono (st12.step.sub (by decide)); replace E := E.mono (st12.step.sub (by decide)); replace b1 := st12.step.sub (by decide) _ _ b1; replace r3 := r3.mono (st12.step.sub (by decide)); replace b7 := st12.step.sub (by decide) _ _ b7; replace r10 := r10.mono (st12.step.sub (by decide))
  refine RunU.var b12 (sup_size hrs) (by rw [hsr]; rfl) (sup_all _) fun w13 st13 b12 => ?_
  replace S := S.go st13.step (by decide) (by decide); replace G := G.mono (st13.step.sub (by decide)); replace E := E.mono (st13.step.sub (by decide)); replace b1 := st13.step.sub (by decide) _ _ b1; replace r3 := r3.mono (st13.step.sub (by decide)); replace b7 := st13.step.sub (by decide) _ _ b7; replace r10 := r10.mono (st13.step.sub (by decide))
  refine RefReadSuper_c c12 9 (E.mono (view_sub _ _ _)) fun c14 w14 st14 => ?_
  replace S := S.go st14 (by decide) (by decide); replace G := G.mono (st14.sub (by decide)); replace E := E.mono (st14.sub (by decide)); replace b1 := st14.sub (by decide) _ _ b1; replace r3 := r3.mono (st14.sub (by decide)); replace b7 := st14.sub (by decide) _ _ b7; replace r10 := r10.mono (st14.sub (by decide)); replace b12 := st14.sub (by decide) _ _ b12
  (repeat (first | refine TInt.mk ?_ | refine TBool.mk ?_ | refine TStr.mk ?_ | refine TSl.mk ?_ | refine TPtr.mk ?_ | refine TAgg.mk ?_ | refine T2.mk ?_ | refine T3.mk ?_ | refine TSome.mk ?_))
  refine AllocC.col c14 7 fun a15 c15 w15 st15 b15 _ => ?_
  replace S := S.go st15.step (by decide) (by decide); replace G := G.mono (st15.step.sub (by decide)); replace E := E.mono (st15.step.sub (by decide)); replace b1 := st15.step.sub (by decide) _ _ b1; replace r3 := r3.mono (st15.step.sub (by decide)); replace b7 := st15.step.sub (by decide) _ _ b7; replace r10 := r10.mono (st15.step.sub (by decide)); replace b12 := st15.step.sub (by decide) _ _ b12
  refine RunU.var b15 (sup_size hrs) (by rw [hsr]; rfl) (sup_all _) fun w16 st16 b15 => ?_
  replace S := S.go st16.step (by decide) (by decide); replace G := G.mono (st16.step.sub (by decide)); replace E := E.mono (st16.step.sub (by decide)); replace b1 := st16.step.sub (by decide) _ _ b1; replace r3 := r3.mono (st16.step.sub (by decide)); replace b7 := st16.step.sub (by decide) _ _ b7; replace r10 := r10.mono (st16.step.sub (by decide)); replace b12 := st16.step.sub (by decide) _ _ b12
  refine DrewC.col c15 fun w17 st17 => ?_
  replace S := S.go st17 (by decide) (by decide); replace G := G.mono (st17.sub (by decide)); replace E := E.mono (st17.sub (by decide)); replace b1 := st17.sub (by decide) _ _ b1; replace r3 := r3.mono (st17.sub (by decide)); replace b7 := st17.sub (by decide) _ _ b7; replace r10 := r10.mono (st17.sub (by decide)); replace b12 := st17.sub (by decide) _ _ b12; replace b15 := st17.sub (by decide) _ _ b15
  refine string_rule strU8 (r3.rd.mono (view_sub _ _ _)) (TStr.mk ?_)
  refine LoadA.all (view_sub _ _ _) b1 hsz ?_
  refine RefSuper_c c15 8 hs fun v18 c18 w18 st18 r18 => ?_
  replace S := S.go st18 (by decide) (by decide); replace G := G.mono (st18.sub (by decide)); replace E := E.mono (st18.sub (by decide)); replace b1 := st18.sub (by decide) _ _ b1; replace r3 := r3.mono (st18.sub (by decide)); replace b7 := st18.sub (by decide) _ _ b7; replace r10 := r10.mono (st18.sub (by decide)); replace b12 := st18.sub (by decide) _ _ b12; replace b15 := st18.sub (by decide) _ _ b15
  obtain ⟨o18, p18, rfl⟩ := r18.form
  (repeat (first | refine TInt.mk ?_ | refine TBool.mk ?_ | refine TStr.mk ?_ | refine TSl.mk ?_ | refine TPtr.mk ?_ | refine TAgg.mk ?_ | refine T2.mk ?_ | refine T3.mk ?_ | refine TSome.mk ?_))
  refine ⟨StableV.string strU8 (r3.rd.mono (view_sub _ _ _)), ?_⟩
  refine string_rule strU8 (r18.rd.mono (view_sub _ _ _)) (TStr.mk ?_)
  rw [strEq_of, decide_eq_true rfl]
  refine BS.yes rfl (BS.yes rfl ?_)
  refine LoadA.all (view_sub _ _ _) b7 hsz (LoadA.all (view_sub _ _ _) b1 hsz ?_)
  refine EqA.sup hs hs (BS.yes (decide_eq_true rfl) ?_)
  refine LoadA.all (view_sub _ _ _) b12 hsr (LoadA.all (view_sub _ _ _) b15 hsr ?_)
  refine EqA.sup hrs hrs (BS.yes (decide_eq_true rfl) ?_)
  refine BS.yes (by simp) ?_
  refine string_rule strU8 (r10.rd.mono (view_sub _ _ _)) (TStr.mk (string_rule strU8 (E.mono (view_sub _ _ _)) (TStr.mk ?_)))
  rw [strEq_of, decide_eq_true rfl]
  exact ⟨rfl, fin S⟩

theorem apart (u : Value) (s : SupR) (m : List UInt8) (w : World) (hs : s.ok) (hq : RdS (wv w) u 1 m.length (bvs m)) (hG : GlobS (wv w)) :
    CallV Tryd.prog 10 #[u, .agg s.cells.toArray] w fun r w' => r = .bool true ∧ Below w.heap.size w w' := by
  obtain ⟨q0, t0, rfl⟩ := hq.form
  have G : GlobS (view (fun _ => 0) 0 w) := by rw [view0]; exact hG
  have E : RdS (view (fun _ => 0) 0 w) (.slice q0 m.length t0) 1 m.length (bvs m) := by rw [view0]; exact hq
  have S := Fr.start w
  have hsz : s.cells.toArray.size = 37 := by simp [sup_cells_len hs]
  refine law04_SectorApart_vc ?_
  unfold law04_SectorApart_VC
  refine AllocC.col (fun _ => 0) 1 fun a1 c1 w1 st1 b1 _ => ?_
  replace S := S.go st1.step (by decide) (by decide); replace G := G.mono (st1.step.sub (by decide)); replace E := E.mono (st1.step.sub (by decide))
  refine speaks04 c1 9 (G.mono (view_sub _ _ _)) fun c2 w2 st2 => TBool.mk (BS.no rfl ?_)
  replace S := S.go st2 (by decide) (by decide); replace G := G.mono (st2.sub (by decide)); replace E := E.mono (st2.sub (by decide)); replace b1 := st2.sub (by decide) _ _ b1
  refine Wrap_c c2 2 (E.mono (view_sub _ _ _)) fun v3 c3 w3 st3 r3 => ?_
  replace S := S.go st3 (by decide) (by decide); replace G := G.mono (st3.sub (by decide)); replace E := E.mono (st3.sub (by decide)); replace b1 := st3.sub (by decide) _ _ b1
  obtain ⟨o3, p3, rfl⟩ := r3.form
  (repeat (first | refine TInt.mk ?_ | refine TBool.mk ?_ | refine TStr.mk ?_ | refine TSl.mk ?_ | refine TPtr.mk ?_ | refine TAgg.mk ?_ | refine T2.mk ?_ | refine T3.mk ?_ | refine TSome.mk ?_))
  refine LoadA.all (view_sub _ _ _) b1 hsz ?_
  refine Super_c c3 3 hs (G.mono (view_sub _ _ _)) fun v4 c4 w4 st4 r4 => ?_
  replace S := S.go st4 (by decide) (by decide); replace G := G.mono (st4.sub (by decide)); replace E := E.mono (st4.sub (by decide)); replace r3 := r3.mono (st4.sub (by decide))
  obtain ⟨o4, p4, rfl⟩ := r4.form
  (repeat (first | refine TInt.mk ?_ | refine TBool.mk ?_ | refine TStr.mk ?_ | refine TSl.mk ?_ | refine TPtr.mk ?_ | refine TAgg.mk ?_ | refine T2.mk ?_ | refine T3.mk ?_ | refine TSome.mk ?_))
  refine Unwrap_c c4 9 (r4.rd.mono (view_sub _ _ _)) (by rw [supB_len hs]; omega) fun v5 c5 w5 st5 r5 => ?_
  replace S := S.go st5 (by decide) (by decide); replace G := G.mono (st5.sub (by decide)); replace E := E.mono (st5.sub (by decide)); replace r3 := r3.mono (st5.sub (by decide))
  rw [unP_no (okU_sup hs)] at r5 ⊢
  obtain ⟨o5, p5, rfl⟩ := r5.form
  (repeat (first | refine TInt.mk ?_ | refine TBool.mk ?_ | refine TStr.mk ?_ | refine TSl.mk ?_ | refine TPtr.mk ?_ | refine TAgg.mk ?_ | refine T2.mk ?_ | refine T3.mk ?_ | refine TSome.mk ?_))
  rcases wrP_cases m with ⟨hle, hw⟩ | ⟨hle, hw⟩
  · rw [hw] at r3 ⊢
    refine BS.no rfl ?_
    refine ReadSuper_c c5 9 (r3.rd.mono (view_sub _ _ _)) (by rw [wrapB_len hle]; omega) (G.mono (view_sub _ _ _)) fun c6 w6 st6 => ?_
    replace S := S.go st6 (by decide) (by decide)
    rw [rdS_no (okS_wrap hle)]
    (repeat (first | refine TInt.mk ?_ | refine TBool.mk ?_ | refine TStr.mk ?_ | refine TSl.mk ?_ | refine TPtr.mk ?_ | refine TAgg.mk ?_ | refine T2.mk ?_ | refine T3.mk ?_ | refine TSome.mk ?_))
    refine AllocC.col c6 4 fun a7 c7 w7 st7 b7 _ => ?_
    replace S := S.go st7.step (by decide) (by decide)
    refine RunU.var b7 (sup_size SupR.zero_ok) rfl (sup_all _) fun w8 st8 b7 => ?_
    replace S := S.go st8.step (by decide) (by decide)
    refine BS.yes rfl (BS.yes rfl (BS.yes (by simp [wrapB_len hle]) ?_))
    exact ⟨by simp [supB_len hs], fin S⟩
  · rw [hw]
    refine BS.yes rfl (BS.yes (by simp; omega) (BS.yes rfl ⟨rfl, fin S⟩))

theorem blocksC (c : Nat → Nat) (j : Nat) {w : World} {v u : Value} {l m : List UInt8} {R : Value → World → Prop} (hr : RdS (wv w) v 1 l.length (bvs l)) (hq : RdS (wv w) u 1 m.length (bvs m))
    (h : ∀ c' w', Step c [] [j] w c' w' → R (.bool true) w') : CallV Tryd.prog 28 #[v, u] w R := by
  obtain ⟨o0, p0, rfl⟩ := hr.form
  obtain ⟨q0, t0, rfl⟩ := hq.form
  have D : RdS (view (fun _ => 0) 0 w) (.slice o0 l.length p0) 1 l.length (bvs l) := by rw [view0]; exact hr
  have E : RdS (view (fun _ => 0) 0 w) (.slice q0 m.length t0) 1 m.length (bvs m) := by rw [view0]; exact hq
  have S := Fr.start w
  refine law04_blocks_vc ?_
  unfold law04_blocks_VC
  refine Wrap_c (fun _ => 0) 1 (D.mono (view_sub _ _ _)) fun v1 c1 w1 st1 r1 => ?_
  replace S := S.go st1 (by decide) (by decide); replace D := D.mono (st1.sub (by decide)); replace E := E.mono (st1.sub (by decide))
  obtain ⟨o1, p1, rfl⟩ := r1.form
  (repeat (first | refine TInt.mk ?_ | refine TBool.mk ?_ | refine TStr.mk ?_ | refine TSl.mk ?_ | refine TPtr.mk ?_ | refine TAgg.mk ?_ | refine T2.mk ?_ | refine T3.mk ?_ | refine TSome.mk ?_))
  refine Wrap_c c1 2 (E.mono (view_sub _ _ _)) fun v2 c2 w2 st2 r2 => ?_
  replace S := S.go st2 (by decide) (by decide); replace D := D.mono (st2.sub (by decide)); replace E := E.mono (st2.sub (by decide)); replace r1 := r1.mono (st2.sub (by decide))
  obtain ⟨o2, p2, rfl⟩ := r2.form
  (repeat (first | refine TInt.mk ?_ | refine TBool.mk ?_ | refine TStr.mk ?_ | refine TSl.mk ?_ | refine TPtr.mk ?_ | refine TAgg.mk ?_ | refine T2.mk ?_ | refine T3.mk ?_ | refine TSome.mk ?_))
  rcases wrP_cases l with ⟨hle, hw⟩ | ⟨hle, hw⟩
  · rw [hw] at r1 ⊢
    refine BS.no rfl ?_
    rcases wrP_cases m with ⟨hme, hx⟩ | ⟨hme, hx⟩
    · rw [hx] at r2 ⊢
      refine BS.no rfl ?_
      refine string_rule strU8 (r1.rd.mono (view_sub _ _ _)) (TStr.mk (string_rule strU8 (r2.rd.mono (view_sub _ _ _)) (TStr.mk ?_)))
      refine string_rule strU8 (D.mono (view_sub _ _ _)) (TStr.mk (string_rule strU8 (E.mono (view_sub _ _ _)) (TStr.mk ?_)))
      rw [strEq_of, strEq_of]
      have e : decide (wrapB l = wrapB m) = decide (l = m) := by
        rw [decide_eq_decide]
        exact ⟨wrapB_inj hle hme, fun h => by rw [h]⟩
      rw [e, show (decide (l = m) == decide (l = m)) = true by simp]
      exact h _ _ (S.leave c j)
    · rw [hx]
      exact BS.yes rfl (h _ _ (S.leave c j))
  · rw [hw]
    exact BS.yes rfl (h _ _ (S.leave c j))
theorem supersC (c : Nat → Nat) (j : Nat) {w : World} {s t : SupR} {R : Value → World → Prop} (hs : s.ok) (ht : t.ok) (hG : GlobS (wv w))
    (h : ∀ c' w', Step c [] [j] w c' w' → R (.bool true) w') : CallV Tryd.prog 27 #[.agg s.cells.toArray, .agg t.cells.toArray] w R := by
  have G : GlobS (view (fun _ => 0) 0 w) := by rw [view0]; exact hG
  have S := Fr.start w
  have hsz : s.cells.toArray.size = 37 := by simp [sup_cells_len hs]
  have htz : t.cells.toArray.size = 37 := by simp [sup_cells_len ht]
  refine law04_supers_vc ?_
  unfold law04_supers_VC
  refine AllocC.col (fun _ => 0) 1 fun a1 c1 w1 st1 b1 _ => ?_
  replace S := S.go st1.step (by decide) (by decide); replace G := G.mono (st1.step.sub (by decide))
  refine AllocC.col c1 2 fun a2 c2 w2 st2 b2 _ => ?_
  replace S := S.go st2.step (by decide) (by decide); replace G := G.mono (st2.step.sub (by decide)); replace b1 := st2.step.sub (by decide) _ _ b1
  refine DrewC.col c2 fun w3 st3 => ?_
  replace S := S.go st3 (by decide) (by decide); replace G := G.mono (st3.sub (by decide)); replace b1 := st3.sub (by decide) _ _ b1; replace b2 := st3.sub (by decide) _ _ b2
  refine LoadA.all (view_sub _ _ _) b1 hsz (LoadA.all (view_sub _ _ _) b2 htz (LoadA.all (view_sub _ _ _) b1 hsz (LoadA.all (view_sub _ _ _) b2 htz ?_)))
  refine EqA.sup hs ht ?_
  refine Super_c c2 3 hs (G.mono (view_sub _ _ _)) fun v4 c4 w4 st4 r4 => ?_
  replace S := S.go st4 (by decide) (by decide); replace G := G.mono (st4.sub (by decide)); replace b1 := st4.sub (by decide) _ _ b1; replace b2 := st4.sub (by decide) _ _ b2
  obtain ⟨o4, p4, rfl⟩ := r4.form
  refine TSl.mk ⟨StableA.all (view_sub _ _ _) b2 htz, StableA.all (view_sub _ _ _) b1 hsz, StableA.all (view_sub _ _ _) b2 htz, ?_⟩
  refine string_rule strU8 (r4.rd.mono (view_sub _ _ _)) (TStr.mk ?_)
  refine Super_c c4 4 ht (G.mono (view_sub _ _ _)) fun v5 c5 w5 st5 r5 => ?_
  replace S := S.go st5 (by decide) (by decide); replace G := G.mono (st5.sub (by decide)); replace b1 := st5.sub (by decide) _ _ b1; replace b2 := st5.sub (by decide) _ _ b2; replace r4 := r4.mono (st5.sub (by decide))
  obtain ⟨o5, p5, rfl⟩ := r5.form
  refine TSl.mk ⟨StableV.string strU8 (r4.rd.mono (view_sub _ _ _)), StableA.all (view_sub _ _ _) b1 hsz, StableA.all (view_sub _ _ _) b2 htz, ?_⟩
  refine string_rule strU8 (r5.rd.mono (view_sub _ _ _)) (TStr.mk ?_)
  rw [strEq_of]
  have e : decide (supB s = supB t) = decide (s = t) := by
    rw [decide_eq_decide]
    exact ⟨supB_inj hs ht, fun h => by rw [h]⟩
  rw [e, show (decide (s = t) == decide (s = t)) = true by simp]
  exact h _ _ (S.leave c j)
theorem unlike (s t : SupR) (v u : Value) (l m : List UInt8) (w : World) (hs : s.ok) (ht : t.ok) (hr : RdS (wv w) v 1 l.length (bvs l)) (hq : RdS (wv w) u 1 m.length (bvs m)) (hG : GlobS (wv w)) :
    CallV Tryd.prog 11 #[.agg (s.cells ++ t.cells).toArray, v, u] w fun r w' => r = .bool true ∧ Below w.heap.size w w' := by
  obtain ⟨o0, p0, rfl⟩ := hr.form
  obtain ⟨q0, t0, rfl⟩ := hq.form
  have G : GlobS (view (fun _ => 0) 0 w) := by rw [view0]; exact hG
  have D : RdS (view (fun _ => 0) 0 w) (.slice o0 l.length p0) 1 l.length (bvs l) := by rw [view0]; exact hr
  have E : RdS (view (fun _ => 0) 0 w) (.slice q0 m.length t0) 1 m.length (bvs m) := by rw [view0]; exact hq
  have S := Fr.start w
  have ls := sup_cells_len hs
  have lt := sup_cells_len ht
  refine law04_SectorUnlike_vc ?_
  unfold law04_SectorUnlike_VC
  refine AllocC.col (fun _ => 0) 1 fun a1 c1 w1 st1 b1 _ => ?_
  replace S := S.go st1.step (by decide) (by decide); replace G := G.mono (st1.step.sub (by decide)); replace D := D.mono (st1.step.sub (by decide)); replace E := E.mono (st1.step.sub (by decide))
  refine speaks04 c1 9 (G.mono (view_sub _ _ _)) fun c2 w2 st2 => TBool.mk (BS.yes rfl ?_)
  replace S := S.go st2 (by decide) (by decide); replace G := G.mono (st2.sub (by decide)); replace D := D.mono (st2.sub (by decide)); replace E := E.mono (st2.sub (by decide)); replace b1 := st2.sub (by decide) _ _ b1
  refine LoadA.part (k := 0) (view_sub _ _ _) b1 (es := s.cells) ls (fun k x hx => ?_) ?_
  · rw [List.getElem?_toArray, Nat.zero_add, List.getElem?_append_left (List.getElem?_eq_some_iff.1 hx).1]; exact hx
  refine LoadA.part (k := 37) (view_sub _ _ _) b1 (es := t.cells) lt (fun k x hx => ?_) ?_
  · rw [List.getElem?_toArray, List.getElem?_append_right (by omega), ls, Nat.add_sub_cancel_left]; exact hx
  refine supersC c2 2 hs ht (G.mono (view_sub _ _ _)) fun c3 w3 st3 => TBool.mk (BS.yes rfl ?_)
  replace S := S.go st3 (by decide) (by decide); replace D := D.mono (st3.sub (by decide)); replace E := E.mono (st3.sub (by decide))
  refine blocksC c3 3 (D.mono (view_sub _ _ _)) (E.mono (view_sub _ _ _)) fun c4 w4 st4 => TBool.mk ?_
  replace S := S.go st4 (by decide) (by decide)
  exact ⟨rfl, fin S⟩

theorem tmod_mask (n : Int) : ∃ k : Nat, Int.tmod (bitsV .and .i64 n 1023) 513 = k ∧ k ≤ 512 := by
  obtain ⟨k, e, hk⟩ := and_mask n 1023 (by omega)
  refine ⟨k % 513, ?_, by omega⟩
  rw [show (1023 : Int) = ((1023 : Nat) : Int) from rfl, e, Int.tmod_eq_emod_of_nonneg (by omega)]; omega
theorem torn (s t : SupR) (n : Int) (w : World) (hs : s.ok) (ht : t.ok) (hG : GlobS (wv w)) :
    CallV Tryd.prog 9 #[.agg s.cells.toArray, .agg t.cells.toArray, .int .i64 n] w fun r w' => r = .bool true ∧ Below w.heap.size w w' := by
  have G : GlobS (view (fun _ => 0) 0 w) := by rw [view0]; exact hG
  have S := Fr.start w
  have hsz : s.cells.toArray.size = 37 := by simp [sup_cells_len hs]
  have htz : t.cells.toArray.size = 37 := by simp [sup_cells_len ht]
  have lX := supB_len hs
  have lY := supB_len ht
  refine law04_SectorTorn_vc ?_
  unfold law04_SectorTorn_VC
  refine AllocC.col (fun _ => 0) 1 fun a1 c1 w1 st1 b1 _ => ?_
  replace S := S.go st1.step (by decide) (by decide); replace G := G.mono (st1.step.sub (by decide))
  refine AllocC.col c1 2 fun a2 c2 w2 st2 b2 _ => ?_
  replace S := S.go st2.step (by decide) (by decide); replace G := G.mono (st2.step.sub (by decide)); replace b1 := st2.step.sub (by decide) _ _ b1
  refine speaks04 c2 9 (G.mono (view_sub _ _ _)) fun c3 w3 st3 => TBool.mk (BS.no rfl ?_)
  replace S := S.go st3 (by decide) (by decide); replace G := G.mono (st3.sub (by decide)); replace b1 := st3.sub (by decide) _ _ b1; replace b2 := st3.sub (by decide) _ _ b2
  refine DrewC.col c3 fun w4 st4 => ?_
  replace S := S.go st4 (by decide) (by decide); replace G := G.mono (st4.sub (by decide)); replace b1 := st4.sub (by decide) _ _ b1; replace b2 := st4.sub (by decide) _ _ b2
  refine LoadA.all (view_sub _ _ _) b1 hsz (LoadA.all (view_sub _ _ _) b2 htz ?_)
  refine Super_c c3 3 hs (G.mono (view_sub _ _ _)) fun v5 c5 w5 st5 r5 => ?_
  replace S := S.go st5 (by decide) (by decide); replace G := G.mono (st5.sub (by decide)); replace b1 := st5.sub (by decide) _ _ b1; replace b2 := st5.sub (by decide) _ _ b2
  obtain ⟨o5, p5, rfl⟩ := r5.form
  refine TSl.mk ⟨StableA.all (view_sub _ _ _) b2 htz, ?_⟩
  refine Super_c c5 4 ht (G.mono (view_sub _ _ _)) fun v6 c6 w6 st6 r6 => ?_
  replace S := S.go st6 (by decide) (by decide); replace G := G.mono (st6.sub (by decide)); replace b1 := st6.sub (by decide) _ _ b1; replace b2 := st6.sub (by decide) _ _ b2; replace r5 := r5.mono (st6.sub (by decide))
  obtain ⟨o6, p6, rfl⟩ := r6.form
  refine TSl.mk ?_
  rw [lX] at r5 ⊢
  rw [lY] at r6 ⊢
  refine BS.no rfl ?_
  unfold law04_SectorTorn_K1
  refine BS.no rfl ?_
  refine DrewC.col c6 fun w7 st7 => ?_
  replace S := S.go st7 (by decide) (by decide); replace G := G.mono (st7.sub (by decide)); replace b1 := st7.sub (by decide) _ _ b1; replace b2 := st7.sub (by decide) _ _ b2; replace r5 := r5.mono (st7.sub (by decide)); replace r6 := r6.mono (st7.sub (by decide))
  obtain ⟨k, ek, hk⟩ := tmod_mask n
  rw [ek]
  have cap5 := r5.rd.len.2.1
  have cap6 := r6.rd.len.2.1
  refine Req.bndle ⟨by omega, by omega⟩ (Req.bndle ⟨by omega, by omega⟩ ?_)
  rw [Int.toNat_natCast]
  refine AllocC.col c6 5 fun a8 c8 w8 st8 b8 _ => ?_
  replace S := S.go st8.step (by decide) (by decide); replace G := G.mono (st8.step.sub (by decide)); replace b1 := st8.step.sub (by decide) _ _ b1; replace b2 := st8.step.sub (by decide) _ _ b2; replace r5 := r5.mono (st8.step.sub (by decide)); replace r6 := r6.mono (st8.step.sub (by decide))
  have rx := r5.rd.take (k := k) (by omega)
  rw [Nat.mul_one, ← bvs_take] at rx
  have lx : ((supB s).take k).length = k := by rw [List.length_take]; omega
  refine app_bytes slU8 (OwS.some_bytes b8) (m := (supB s).take k) (by rw [lx]; exact rx.mono (view_sub _ _ _)) (by simp; omega) fun o9 p9 c9 w9 st9 r9 => TSl.mk ?_
  replace S := S.go st9.step (by decide) (by decide); replace G := G.mono (st9.step.sub (by decide)); replace b1 := st9.step.sub (by decide) _ _ b1; replace b2 := st9.step.sub (by decide) _ _ b2; replace r6 := r6.mono (st9.step.sub (by decide))
  rw [List.nil_append] at r9 ⊢
  have ry := r6.rd.drop (k := k) (by omega)
  rw [Nat.mul_one, ← bvs_drop] at ry
  have ly : ((supB t).drop k).length = 512 - k := by rw [List.length_drop]; omega
  refine app_bytes slU8 r9 (m := (supB t).drop k) (by rw [ly]; exact ry.mono (view_sub _ _ _)) (by rw [lx, ly]; omega) fun o10 p10 c10 w10 st10 r10 => TSl.mk ?_
  replace S := S.go st10.step (by decide) (by decide); replace G := G.mono (st10.step.sub (by decide)); replace b1 := st10.step.sub (by decide) _ _ b1; replace b2 := st10.step.sub (by decide) _ _ b2
  have lm : ((supB s).take k ++ (supB t).drop k).length = 512 := by rw [List.length_append, lx, ly]; omega
  generalize (supB s).take k ++ (supB t).drop k = M at *
  refine ReadSuper_c c10 9 (r10.rd.mono (view_sub _ _ _)) (by omega) (G.mono (view_sub _ _ _)) fun c11 w11 st11 => ?_
  replace S := S.go st11 (by decide) (by decide); replace b1 := st11.sub (by decide) _ _ b1; replace b2 := st11.sub (by decide) _ _ b2; replace r10 := r10.mono (st11.sub (by decide))
  have hrs := rdS_okr M
  have hsr : (rdS M).1.cells.toArray.size = 37 := by simp [sup_cells_len hrs]
  (repeat (first | refine TInt.mk ?_ | refine TBool.mk ?_ | refine TStr.mk ?_ | refine TSl.mk ?_ | refine TPtr.mk ?_ | refine TAgg.mk ?_ | refine T2.mk ?_ | refine T3.mk ?_ | refine TSome.mk ?_))
  refine AllocC.col c11 6 fun a12 c12 w12 st12 b12 _ => ?_
  replace S := S.go st12.step (by decide) (by decide); replace b1 := st12.step.sub (by decide) _ _ b1; replace b2 := st12.step.sub (by decide) _ _ b2; replace r10 := r10.mono (st12.step.sub (by decide))
  refine RunU.var b12 (sup_size hrs) (by rw [hsr]; rfl) (sup_all _) fun w13 st13 b12 => ?_
  replace S := S.go st13.step (by decide) (by decide); replace b1 := st13.step.sub (by decide) _ _ b1; replace b2 := st13.step.sub (by decide) _ _ b2; replace r10 := r10.mono (st13.step.sub (by decide))
  rcases rdS_cases M with hM | ⟨hM, hB, hok⟩
  · rw [hM]
    exact BS.yes rfl (BS.no rfl ⟨rfl, fin S⟩)
  · rw [hM] at hrs hsr b12 ⊢
    refine BS.no rfl ?_
    refine LoadA.all (view_sub _ _ _) b12 hsr (LoadA.all (view_sub _ _ _) b1 hsz ?_)
    refine EqA.sup hok hs ?_
    refine BS.dec (fun _ => BS.yes rfl ⟨rfl, fin S⟩) (fun _ => ?_)
    refine LoadA.all (view_sub _ _ _) b12 hsr (LoadA.all (view_sub _ _ _) b2 htz ?_)
    refine EqA.sup hok ht ?_
    unfold law04_SectorTorn_K2
    refine BS.dec (fun _ => BS.yes rfl ⟨rfl, fin S⟩) (fun _ => ?_)
    refine DrewC.col c12 fun w14 st14 => ?_
    replace S := S.go st14 (by decide) (by decide); replace b12 := st14.sub (by decide) _ _ b12; replace r10 := r10.mono (st14.sub (by decide))
    refine LoadA.all (view_sub _ _ _) b12 hsr ?_
    refine string_rule strU8 (r10.rd.mono (view_sub _ _ _)) (TStr.mk ?_)
    refine RefSuper_c c12 8 hok fun v18 c18 w18 st18 r18 => ?_
    replace S := S.go st18 (by decide) (by decide); replace r10 := r10.mono (st18.sub (by decide))
    obtain ⟨o18, p18, rfl⟩ := r18.form
    refine TSl.mk ⟨StableV.string strU8 (r10.rd.mono (view_sub _ _ _)), ?_⟩
    refine string_rule strU8 (r18.rd.mono (view_sub _ _ _)) (TStr.mk ?_)
    rw [hB, strEq_of, decide_eq_true rfl]
    exact ⟨rfl, fin S⟩
end Go.Proofs.YtpblhjgpfmmafaaDoor.walkSec

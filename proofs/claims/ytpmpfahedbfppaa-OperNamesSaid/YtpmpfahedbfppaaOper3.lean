/-
  Operations: what the document's answer and the reading do, each function once.
-/
import Derived.Test.YtpmpfahedbfppaaOper2
set_option linter.unusedVariables false
set_option linter.unusedSimpArgs false
namespace Go.Proofs.Ytpmpfahedbfppaa
open Go.Vc
attribute [local irreducible] TInt TBool TStr TPtr TSl TAgg TMap TChan T2 T3 T4 BS Req TSome TCell TByte LoadC LoadA StoreC AllocC RunV RunU CallV EqA StableC StableA StableV TCells ReadV

theorem byte_u8 {n : Int} (h0 : 0 ≤ n) : IntKind.wrap .u8 n = ((byteAt n.toNat 0).toNat : Int) := by
  rw [wrap_u8_mod, byteAt_toNat]; omega

theorem CopyOp_c (c : Nat → Nat) (j : Nat) {w : World} {o : OpR} {v : Value} {R : Value → World → Prop} (hv : OpRV (wv w) o v) (hl : o.data.length ≤ 1099511627776)
    (h : ∀ v c' w', Step c [] [j] w c' w' → OwS (view c' j w') v 5 1 o.data.length (bvs o.data) → R (.agg (o.cells v).toArray) w') :
    CallV Try.prog 40 #[.agg (o.cells v).toArray] w R := by
  obtain ⟨ov, cv, rfl⟩ := RdS.form hv
  have D : RdS (view (fun _ => 0) 0 w) (.slice ov o.data.length cv) 1 o.data.length (bvs o.data) := by rw [view0]; exact hv
  have S := Fr.start w
  refine ref10_CopyOp_vc ?_
  unfold ref10_CopyOp_VC
  refine AllocC.col (fun _ => 0) 1 fun b c1 w1 st1 b1 _ => ?_
  replace S := S.go st1.step (by decide) (by decide); replace D := D.mono (st1.step.sub (by decide))
  refine AllocC.col c1 3 fun p c2 w2 st2 b2 _ => ?_
  replace S := S.go st2.step (by decide) (by decide); replace D := D.mono (st2.step.sub (by decide)); replace b1 := st2.step.sub (by decide) _ _ b1
  (repeat (first | refine TInt.mk ?_ | refine TBool.mk ?_ | refine TStr.mk ?_ | refine TSl.mk ?_ | refine TPtr.mk ?_ | refine TAgg.mk ?_ | refine T2.mk ?_ | refine T3.mk ?_ | refine TSome.mk ?_ | refine LoadC.ad (view_sub _ _ _) _ (by assumption) rfl ?_))
  refine AllocC.col c2 4 fun q c3 w3 st3 b3 _ => ?_
  replace S := S.go st3.step (by decide) (by decide); replace D := D.mono (st3.step.sub (by decide)); replace b1 := st3.step.sub (by decide) _ _ b1; replace b2 := st3.step.sub (by decide) _ _ b2
  refine RunU.var b3 (by kernel_rfl) rfl (by simp [Value.oneCell']) fun w4 st4 b3 => ?_
  replace S := S.go st4.step (by decide) (by decide); replace D := D.mono (st4.step.sub (by decide)); replace b1 := st4.step.sub (by decide) _ _ b1; replace b2 := st4.step.sub (by decide) _ _ b2
  refine AllocC.col c3 2 fun r c5 w5 st5 b5 _ => ?_
  replace S := S.go st5.step (by decide) (by decide); replace D := D.mono (st5.step.sub (by decide)); replace b1 := st5.step.sub (by decide) _ _ b1; replace b2 := st5.step.sub (by decide) _ _ b2; replace b3 := st5.step.sub (by decide) _ _ b3
  (repeat (first | refine TInt.mk ?_ | refine TBool.mk ?_ | refine TStr.mk ?_ | refine TSl.mk ?_ | refine TPtr.mk ?_ | refine TAgg.mk ?_ | refine T2.mk ?_ | refine T3.mk ?_ | refine TSome.mk ?_ | refine LoadC.ad (view_sub _ _ _) _ (by assumption) rfl ?_))
  refine app_bytes slU8 (OwS.some_bytes b5) (D.mono (view_sub _ _ _)) (by simp; omega) fun o6 p6 c6 w6 st6 ho => ?_
  replace S := S.go st6.step (by decide) (by decide); replace D := D.mono (st6.step.sub (by decide)); replace b1 := st6.step.sub (by decide) _ _ b1; replace b2 := st6.step.sub (by decide) _ _ b2; replace b3 := st6.step.sub (by decide) _ _ b3
  rw [List.nil_append] at ho ⊢
  (repeat (first | refine TInt.mk ?_ | refine TBool.mk ?_ | refine TStr.mk ?_ | refine TSl.mk ?_ | refine TPtr.mk ?_ | refine TAgg.mk ?_ | refine T2.mk ?_ | refine T3.mk ?_ | refine TSome.mk ?_))
  refine StoreC.ad b3 (by simp) fun w7 st7 _ b3 => ?_
  replace S := S.go st7.step (by decide) (by decide); replace D := D.mono (st7.step.sub (by decide)); replace b1 := st7.step.sub (by decide) _ _ b1; replace b2 := st7.step.sub (by decide) _ _ b2; replace ho := ho.mono (st7.step.sub (by decide))
  refine LoadA.all (cs := (o.cells (.slice o6 o.data.length p6)).toArray) (view_sub _ _ _) b3 rfl ?_
  refine RunU.var b2 (by kernel_rfl) rfl (by simp [OpR.cells, sv, Value.oneCell']) fun w8 st8 b2 => ?_
  replace S := S.go st8.step (by decide) (by decide); replace D := D.mono (st8.step.sub (by decide)); replace b1 := st8.step.sub (by decide) _ _ b1; replace ho := ho.mono (st8.step.sub (by decide))
  refine LoadA.all (view_sub _ _ _) b2 rfl ?_
  exact h (.slice o6 o.data.length p6) _ _ (S.leave c j) (ho.mono (S.out c j (by omega)))

theorem ref_Write_c (c : Nat → Nat) (j : Nat) {w : World} {o : OpR} {v : Value} {R : Value → World → Prop} (hv : OpRV (wv w) o v)
    (h : ∀ v c' w', Step c [] [j] w c' w' → OwS (view c' j w') v 5 1 (wrOp o).1.length (bvs (wrOp o).1) → R (.tuple #[v, .int .i64 (wrOp o).2]) w') :
    CallV Try.prog 42 #[.agg (o.cells v).toArray] w R := by
  obtain ⟨ov, cv, rfl⟩ := RdS.form hv
  have D : RdS (view (fun _ => 0) 0 w) (.slice ov o.data.length cv) 1 o.data.length (bvs o.data) := by rw [view0]; exact hv
  have S := Fr.start w
  refine ref10_Write_vc ?_
  unfold ref10_Write_VC
  refine AllocC.col (fun _ => 0) 1 fun b c1 w1 st1 b1 _ => ?_
  replace S := S.go st1.step (by decide) (by decide); replace D := D.mono (st1.step.sub (by decide))
  refine LoadA.all (view_sub _ _ _) b1 rfl ?_
  refine ref_Right c1 0 D fun c2 w2 st2 => TBool.mk ?_
  replace S := S.go st2 (by decide) (by decide); replace D := D.mono (st2.sub (by decide)); replace b1 := st2.sub (by decide) _ _ b1
  refine BS.ndec (fun hn => ?_) (fun hR => ?_)
  · refine AllocC.col c2 2 fun b c3 w3 st3 b3 _ => ?_
    replace S := S.go st3.step (by decide) (by decide); replace D := D.mono (st3.step.sub (by decide))
    have := h (.slice (some ⟨b, 0, none⟩) 0 0) _ _ (S.leave c j)
    rw [wrOp, if_neg hn] at this
    exact this ((OwS.some_bytes b3).mono (S.out c j (by omega)))
  · refine DrewC.col c2 fun w3 st3 => ?_
    replace S := S.go st3 (by decide) (by decide); replace D := D.mono (st3.sub (by decide)); replace b1 := st3.sub (by decide) _ _ b1
    (repeat (first | refine TInt.mk ?_ | refine TBool.mk ?_ | refine TStr.mk ?_ | refine TSl.mk ?_ | refine TPtr.mk ?_ | refine TAgg.mk ?_ | refine T2.mk ?_ | refine T3.mk ?_ | refine TSome.mk ?_ | refine LoadC.ad (view_sub _ _ _) _ (by assumption) rfl ?_))
    obtain ⟨q1, q2, q3, q4, q5, q6, q7, q8, q9⟩ := id hR
    have k1 : ∀ o4 n4 p4 c' w', Fr w c' w' → view c' 1 w' b = some (.cells (o.cells (.slice ov o.data.length cv)).toArray 61 (0, 0)) → RdS (view c' 0 w') (.slice ov o.data.length cv) 1 o.data.length (bvs o.data) →
        OwS (view c' 2 w') (.slice o4 n4 p4) 5 1 ([byteAt o.kind.toNat 0] ++ be o.off.toNat 2).length (bvs ([byteAt o.kind.toNat 0] ++ be o.off.toNat 2)) → ref10_Write_K1 ⟨b, 0, none⟩ o4 n4 p4 w' R := by
      intro o4 n4 p4 c4 w4 S b1 D ho
      unfold ref10_Write_K1
      (repeat (first | refine TInt.mk ?_ | refine TBool.mk ?_ | refine TStr.mk ?_ | refine TSl.mk ?_ | refine TPtr.mk ?_ | refine TAgg.mk ?_ | refine T2.mk ?_ | refine T3.mk ?_ | refine TSome.mk ?_ | refine LoadC.ad (view_sub _ _ _) _ (by assumption) rfl ?_))
      refine two_c c4 0 q7 q8 fun v5 c5 w5 st5 r5 => ?_
      replace S := S.go st5 (by decide) (by decide); replace D := D.mono (st5.sub (by decide)); replace b1 := st5.sub (by decide) _ _ b1; replace ho := ho.mono (st5.sub (by decide))
      obtain ⟨o5, p5, rfl⟩ := r5.form
      (repeat (first | refine TInt.mk ?_ | refine TBool.mk ?_ | refine TStr.mk ?_ | refine TSl.mk ?_ | refine TPtr.mk ?_ | refine TAgg.mk ?_ | refine T2.mk ?_ | refine T3.mk ?_ | refine TSome.mk ?_ | refine LoadC.ad (view_sub _ _ _) _ (by assumption) rfl ?_))
      refine app_bytes slU8 ho (r5.rd.mono (view_sub _ _ _)) (by simp) fun o6 p6 c6 w6 st6 ho => ?_
      replace S := S.go st6.step (by decide) (by decide); replace D := D.mono (st6.step.sub (by decide)); replace b1 := st6.step.sub (by decide) _ _ b1
      (repeat (first | refine TInt.mk ?_ | refine TBool.mk ?_ | refine TStr.mk ?_ | refine TSl.mk ?_ | refine TPtr.mk ?_ | refine TAgg.mk ?_ | refine T2.mk ?_ | refine T3.mk ?_ | refine TSome.mk ?_ | refine LoadC.ad (view_sub _ _ _) _ (by assumption) rfl ?_))
      refine bytes_col Try.underlying9 Try.underlying26 Try.underlying5 c6 0 fun v7 c7 w7 st7 r7 => ?_
      replace S := S.go st7 (by decide) (by decide); replace D := D.mono (st7.sub (by decide)); replace b1 := st7.sub (by decide) _ _ b1; replace ho := ho.mono (st7.sub (by decide))
      obtain ⟨o7, p7, rfl⟩ := r7.form
      (repeat (first | refine TInt.mk ?_ | refine TBool.mk ?_ | refine TStr.mk ?_ | refine TSl.mk ?_ | refine TPtr.mk ?_ | refine TAgg.mk ?_ | refine T2.mk ?_ | refine T3.mk ?_ | refine TSome.mk ?_ | refine LoadC.ad (view_sub _ _ _) _ (by assumption) rfl ?_))
      refine text_c c7 0 (r7.mono (view_sub _ _ _)) (by omega) fun v8 c8 w8 st8 r8 => ?_
      replace S := S.go st8 (by decide) (by decide); replace D := D.mono (st8.sub (by decide)); replace b1 := st8.sub (by decide) _ _ b1; replace ho := ho.mono (st8.sub (by decide))
      obtain ⟨o8, p8, rfl⟩ := r8.form
      (repeat (first | refine TInt.mk ?_ | refine TBool.mk ?_ | refine TStr.mk ?_ | refine TSl.mk ?_ | refine TPtr.mk ?_ | refine TAgg.mk ?_ | refine T2.mk ?_ | refine T3.mk ?_ | refine TSome.mk ?_ | refine LoadC.ad (view_sub _ _ _) _ (by assumption) rfl ?_))
      refine app_bytes slU8 ho (r8.rd.mono (view_sub _ _ _)) (by simp; omega) fun o9 p9 c9 w9 st9 ho => ?_
      replace S := S.go st9.step (by decide) (by decide); replace D := D.mono (st9.step.sub (by decide)); replace b1 := st9.step.sub (by decide) _ _ b1
      (repeat (first | refine TInt.mk ?_ | refine TBool.mk ?_ | refine TStr.mk ?_ | refine TSl.mk ?_ | refine TPtr.mk ?_ | refine TAgg.mk ?_ | refine T2.mk ?_ | refine T3.mk ?_ | refine TSome.mk ?_ | refine LoadC.ad (view_sub _ _ _) _ (by assumption) rfl ?_))
      refine bytes_col Try.underlying9 Try.underlying26 Try.underlying5 c9 0 fun v10 c10 w10 st10 r10 => ?_
      replace S := S.go st10 (by decide) (by decide); replace D := D.mono (st10.sub (by decide)); replace b1 := st10.sub (by decide) _ _ b1; replace ho := ho.mono (st10.sub (by decide))
      obtain ⟨o10, p10, rfl⟩ := r10.form
      (repeat (first | refine TInt.mk ?_ | refine TBool.mk ?_ | refine TStr.mk ?_ | refine TSl.mk ?_ | refine TPtr.mk ?_ | refine TAgg.mk ?_ | refine T2.mk ?_ | refine T3.mk ?_ | refine TSome.mk ?_ | refine LoadC.ad (view_sub _ _ _) _ (by assumption) rfl ?_))
      refine text_c c10 0 (r10.mono (view_sub _ _ _)) (by omega) fun v11 c11 w11 st11 r11 => ?_
      replace S := S.go st11 (by decide) (by decide); replace D := D.mono (st11.sub (by decide)); replace b1 := st11.sub (by decide) _ _ b1; replace ho := ho.mono (st11.sub (by decide))
      obtain ⟨o11, p11, rfl⟩ := r11.form
      (repeat (first | refine TInt.mk ?_ | refine TBool.mk ?_ | refine TStr.mk ?_ | refine TSl.mk ?_ | refine TPtr.mk ?_ | refine TAgg.mk ?_ | refine T2.mk ?_ | refine T3.mk ?_ | refine TSome.mk ?_ | refine LoadC.ad (view_sub _ _ _) _ (by assumption) rfl ?_))
      refine app_bytes slU8 ho (r11.rd.mono (view_sub _ _ _)) (by simp; omega) fun o12 p12 c12 w12 st12 ho => ?_
      replace S := S.go st12.step (by decide) (by decide); replace D := D.mono (st12.step.sub (by decide)); replace b1 := st12.step.sub (by decide) _ _ b1
      (repeat (first | refine TInt.mk ?_ | refine TBool.mk ?_ | refine TStr.mk ?_ | refine TSl.mk ?_ | refine TPtr.mk ?_ | refine TAgg.mk ?_ | refine T2.mk ?_ | refine T3.mk ?_ | refine TSome.mk ?_ | refine LoadC.ad (view_sub _ _ _) _ (by assumption) rfl ?_))
      refine text_c c12 0 (D.mono (view_sub _ _ _)) (by omega) fun v13 c13 w13 st13 r13 => ?_
      replace S := S.go st13 (by decide) (by decide); replace ho := ho.mono (st13.sub (by decide))
      obtain ⟨o13, p13, rfl⟩ := r13.form
      (repeat (first | refine TInt.mk ?_ | refine TBool.mk ?_ | refine TStr.mk ?_ | refine TSl.mk ?_ | refine TPtr.mk ?_ | refine TAgg.mk ?_ | refine T2.mk ?_ | refine T3.mk ?_ | refine TSome.mk ?_ | refine LoadC.ad (view_sub _ _ _) _ (by assumption) rfl ?_))
      refine app_bytes slU8 ho (r13.rd.mono (view_sub _ _ _)) (by simp; omega) fun o14 p14 c14 w14 st14 ho => ?_
      replace S := S.go st14.step (by decide) (by decide)
      (repeat (first | refine TInt.mk ?_ | refine TBool.mk ?_ | refine TStr.mk ?_ | refine TSl.mk ?_ | refine TPtr.mk ?_ | refine TAgg.mk ?_ | refine T2.mk ?_ | refine T3.mk ?_ | refine TSome.mk ?_ | refine LoadC.ad (view_sub _ _ _) _ (by assumption) rfl ?_))
      have hE : [byteAt o.kind.toNat 0] ++ be o.off.toNat 2 ++ be o.n.toNat 2 ++ txt o.path ++ txt o.to ++ txt o.data = o.enc := by unfold OpR.enc; simp [be]
      rw [hE] at ho ⊢
      have := h (.slice o14 o.enc.length p14) _ _ (S.leave c j)
      rw [wrOp, if_pos hR] at this
      exact this (ho.mono (S.out c j (by omega)))
    refine ⟨?_, ?_⟩
    · rw [byte_u8 (by omega)]
      refine AllocC.col c2 2 fun a c4 w4 st4 b4 _ => ?_
      replace S := S.go st4.step (by decide) (by decide); replace D := D.mono (st4.step.sub (by decide)); replace b1 := st4.step.sub (by decide) _ _ b1
      refine ⟨StableC.ad (view_sub _ _ _) b1 rfl, ?_⟩
      refine two_c c4 0 q5 q6 fun v5 c5 w5 st5 r5 => ?_
      replace S := S.go st5 (by decide) (by decide); replace D := D.mono (st5.sub (by decide)); replace b1 := st5.sub (by decide) _ _ b1; replace b4 := st5.sub (by decide) _ _ b4
      obtain ⟨o5, p5, rfl⟩ := r5.form
      (repeat (first | refine TInt.mk ?_ | refine TBool.mk ?_ | refine TStr.mk ?_ | refine TSl.mk ?_ | refine TPtr.mk ?_ | refine TAgg.mk ?_ | refine T2.mk ?_ | refine T3.mk ?_ | refine TSome.mk ?_))
      refine ⟨StableC.ad (view_sub _ _ _) b1 rfl, ?_⟩
      refine app_bytes slU8 (OwS.lit b4 [byteAt o.kind.toNat 0] rfl rfl (by simp [maxLen])) (r5.rd.mono (view_sub _ _ _)) (by simp) fun o6 p6 c6 w6 st6 ho => ?_
      replace S := S.go st6.step (by decide) (by decide); replace D := D.mono (st6.step.sub (by decide)); replace b1 := st6.step.sub (by decide) _ _ b1
      (repeat (first | refine TInt.mk ?_ | refine TBool.mk ?_ | refine TStr.mk ?_ | refine TSl.mk ?_ | refine TPtr.mk ?_ | refine TAgg.mk ?_ | refine T2.mk ?_ | refine T3.mk ?_ | refine TSome.mk ?_))
      exact k1 _ _ _ _ _ S b1 D ho
    · refine two_c c2 0 q5 q6 fun v5 c5 w5 st5 r5 => ?_
      replace S := S.go st5 (by decide) (by decide); replace D := D.mono (st5.sub (by decide)); replace b1 := st5.sub (by decide) _ _ b1
      obtain ⟨o5, p5, rfl⟩ := r5.form
      (repeat (first | refine TInt.mk ?_ | refine TBool.mk ?_ | refine TStr.mk ?_ | refine TSl.mk ?_ | refine TPtr.mk ?_ | refine TAgg.mk ?_ | refine T2.mk ?_ | refine T3.mk ?_ | refine TSome.mk ?_))
      refine ⟨StableC.ad (view_sub _ _ _) b1 rfl, ?_⟩
      rw [byte_u8 (by omega)]
      refine AllocC.col c5 2 fun a c4 w4 st4 b4 _ => ?_
      replace S := S.go st4.step (by decide) (by decide); replace D := D.mono (st4.step.sub (by decide)); replace b1 := st4.step.sub (by decide) _ _ b1; replace r5 := r5.mono (st4.step.sub (by decide))
      refine ⟨StableC.ad (view_sub _ _ _) b1 rfl, ?_⟩
      refine app_bytes slU8 (OwS.lit b4 [byteAt o.kind.toNat 0] rfl rfl (by simp [maxLen])) (r5.rd.mono (view_sub _ _ _)) (by simp) fun o6 p6 c6 w6 st6 ho => ?_
      replace S := S.go st6.step (by decide) (by decide); replace D := D.mono (st6.step.sub (by decide)); replace b1 := st6.step.sub (by decide) _ _ b1
      (repeat (first | refine TInt.mk ?_ | refine TBool.mk ?_ | refine TStr.mk ?_ | refine TSl.mk ?_ | refine TPtr.mk ?_ | refine TAgg.mk ?_ | refine T2.mk ?_ | refine T3.mk ?_ | refine TSome.mk ?_))
      exact k1 _ _ _ _ _ S b1 D ho
end Go.Proofs.Ytpmpfahedbfppaa

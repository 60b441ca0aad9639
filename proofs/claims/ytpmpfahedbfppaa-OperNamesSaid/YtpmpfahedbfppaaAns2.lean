/-
  Answers: copies, the document's writing, and reading, each function once.
-/
import Derived.Test.YtpmpfahedbfppaaAns1
set_option linter.unusedVariables false
set_option linter.unusedSimpArgs false
namespace Go.Proofs.Ytpmpfahedbfppaa
open Go.Vc
attribute [local irreducible] TInt TBool TStr TPtr TSl TAgg TMap TChan T2 T3 T4 BS Req TSome TCell TByte LoadC LoadA StoreC AllocC RunV RunU CallV EqA StableC StableA StableV TCells ReadV
attribute [local irreducible] eU eT eE

theorem CopyAns_c (c : Nat → Nat) (j : Nat) {w : World} {a : AnsR} {v u : Value} {R : Value → World → Prop} (hv : AnsV (wv w) a v u) (hl : a.data.length ≤ 1099511627776) (hl2 : a.names.length ≤ 1099511627776)
    (h : ∀ v u c' w', Step c [] [j] w c' w' → OwS (view c' j w') v 5 1 a.data.length (bvs a.data) → OwS (view c' j w') u 9 1 a.names.length (svs a.names) → R (.agg (a.cells v u).toArray) w') :
    CallV Try.prog 33 #[.agg (a.cells v u).toArray] w R := by
  obtain ⟨ov, cv, rfl⟩ := hv.d.form
  obtain ⟨ou, cu, rfl⟩ := hv.n.form
  have D : AnsV (view (fun _ => 0) 0 w) a (.slice ov a.data.length cv) (.slice ou a.names.length cu) := by rw [view0]; exact hv
  have S := Fr.start w
  refine ref10_Copy_vc ?_
  unfold ref10_Copy_VC
  refine AllocC.col (fun _ => 0) 1 fun b c1 w1 st1 b1 _ => ?_
  replace S := S.go st1.step (by decide) (by decide); replace D := D.mono (st1.step.sub (by decide))
  refine AllocC.col c1 4 fun r c2 w2 st2 b2 _ => ?_
  replace S := S.go st2.step (by decide) (by decide); replace D := D.mono (st2.step.sub (by decide)); replace b1 := st2.step.sub (by decide) _ _ b1
  refine DrewC.col c2 fun w3 st3 => ?_
  replace S := S.go st3 (by decide) (by decide); replace D := D.mono (st3.sub (by decide)); replace b1 := st3.sub (by decide) _ _ b1; replace b2 := st3.sub (by decide) _ _ b2
  (repeat (first | refine TInt.mk ?_ | refine TBool.mk ?_ | refine TStr.mk ?_ | refine TSl.mk ?_ | refine TPtr.mk ?_ | refine TAgg.mk ?_ | refine T2.mk ?_ | refine T3.mk ?_ | refine TSome.mk ?_ | refine LoadC.ad (view_sub _ _ _) _ (by assumption) rfl ?_))
  refine ⟨?_, ?_⟩
  · refine AllocC.col c2 2 fun x c4 w4 st4 b4 _ => ?_
    replace S := S.go st4.step (by decide) (by decide); replace D := D.mono (st4.step.sub (by decide)); replace b1 := st4.step.sub (by decide) _ _ b1; replace b2 := st4.step.sub (by decide) _ _ b2
    refine ⟨StableC.ad (view_sub _ _ _) b1 rfl, StableC.ad (view_sub _ _ _) b1 rfl, StableC.ad (view_sub _ _ _) b1 rfl, StableC.ad (view_sub _ _ _) b1 rfl, ?_⟩
    refine ⟨?_, ?_⟩
    · refine app_bytes slU8 (OwS.some_bytes b4) (D.d.mono (view_sub _ _ _)) (by simp; omega) fun o5 p5 c5 w5 st5 h1 => ?_
      replace S := S.go st5.step (by decide) (by decide); replace D := D.mono (st5.step.sub (by decide)); replace b1 := st5.step.sub (by decide) _ _ b1; replace b2 := st5.step.sub (by decide) _ _ b2
      rw [List.nil_append] at h1 ⊢
      (repeat (first | refine TInt.mk ?_ | refine TBool.mk ?_ | refine TStr.mk ?_ | refine TSl.mk ?_ | refine TPtr.mk ?_ | refine TAgg.mk ?_ | refine T2.mk ?_ | refine T3.mk ?_ | refine TSome.mk ?_))
      refine ⟨StableC.ad (view_sub _ _ _) b1 rfl, StableC.ad (view_sub _ _ _) b1 rfl, StableC.ad (view_sub _ _ _) b1 rfl, ?_⟩
      refine AllocC.col c5 3 fun y c6 w6 st6 b6 _ => ?_
      replace S := S.go st6.step (by decide) (by decide); replace D := D.mono (st6.step.sub (by decide)); replace b1 := st6.step.sub (by decide) _ _ b1; replace b2 := st6.step.sub (by decide) _ _ b2; replace h1 := h1.mono (st6.step.sub (by decide))
      refine ⟨StableC.ad (view_sub _ _ _) b1 rfl, StableC.ad (view_sub _ _ _) b1 rfl, StableC.ad (view_sub _ _ _) b1 rfl, StableC.ad (view_sub _ _ _) b1 rfl, ?_⟩
      refine app_strs slStr (OwS.some_strs b6) (D.n.mono (view_sub _ _ _)) (by simp; omega) fun o7 p7 c7 w7 st7 h2 => ?_
      replace S := S.go st7.step (by decide) (by decide); replace D := D.mono (st7.step.sub (by decide)); replace b1 := st7.step.sub (by decide) _ _ b1; replace b2 := st7.step.sub (by decide) _ _ b2; replace h1 := h1.mono (st7.step.sub (by decide))
      rw [List.nil_append] at h2 ⊢
      (repeat (first | refine TInt.mk ?_ | refine TBool.mk ?_ | refine TStr.mk ?_ | refine TSl.mk ?_ | refine TPtr.mk ?_ | refine TAgg.mk ?_ | refine T2.mk ?_ | refine T3.mk ?_ | refine TSome.mk ?_))
      refine ⟨StableC.ad (view_sub _ _ _) b1 rfl, StableC.ad (view_sub _ _ _) b1 rfl, ?_⟩
      refine RunU.var b2 (by kernel_rfl) rfl (by first | (simp [Value.oneCell']; done) | (simp [Value.oneCell', OpR.cells, sv]; done) | (simp [Value.oneCell', AnsR.cells, sv]; done) | rfl) fun w9 st9 b2 => ?_
      replace S := S.go st9.step (by decide) (by decide); replace D := D.mono (st9.step.sub (by decide)); replace h1 := h1.mono (st9.step.sub (by decide)); replace h2 := h2.mono (st9.step.sub (by decide))
      refine LoadA.all (view_sub _ _ _) b2 rfl ?_
      exact h (.slice o5 a.data.length p5) (.slice o7 a.names.length p7) _ _ (S.leave c j) (h1.mono (S.out c j (by omega))) (h2.mono (S.out c j (by omega)))
    · refine AllocC.col c4 3 fun y c6 w6 st6 b6 _ => ?_
      replace S := S.go st6.step (by decide) (by decide); replace D := D.mono (st6.step.sub (by decide)); replace b1 := st6.step.sub (by decide) _ _ b1; replace b2 := st6.step.sub (by decide) _ _ b2; replace b4 := st6.step.sub (by decide) _ _ b4
      refine ⟨StableC.ad (view_sub _ _ _) b1 rfl, StableC.ad (view_sub _ _ _) b1 rfl, StableC.ad (view_sub _ _ _) b1 rfl, StableC.ad (view_sub _ _ _) b1 rfl, ?_⟩
      refine app_bytes slU8 (OwS.some_bytes b4) (D.d.mono (view_sub _ _ _)) (by simp; omega) fun o5 p5 c5 w5 st5 h1 => ?_
      replace S := S.go st5.step (by decide) (by decide); replace D := D.mono (st5.step.sub (by decide)); replace b1 := st5.step.sub (by decide) _ _ b1; replace b2 := st5.step.sub (by decide) _ _ b2; replace b6 := st5.step.sub (by decide) _ _ b6
      rw [List.nil_append] at h1 ⊢
      (repeat (first | refine TInt.mk ?_ | refine TBool.mk ?_ | refine TStr.mk ?_ | refine TSl.mk ?_ | refine TPtr.mk ?_ | refine TAgg.mk ?_ | refine T2.mk ?_ | refine T3.mk ?_ | refine TSome.mk ?_))
      refine ⟨StableC.ad (view_sub _ _ _) b1 rfl, StableC.ad (view_sub _ _ _) b1 rfl, StableC.ad (view_sub _ _ _) b1 rfl, ?_⟩
      refine app_strs slStr (OwS.some_strs b6) (D.n.mono (view_sub _ _ _)) (by simp; omega) fun o7 p7 c7 w7 st7 h2 => ?_
      replace S := S.go st7.step (by decide) (by decide); replace D := D.mono (st7.step.sub (by decide)); replace b1 := st7.step.sub (by decide) _ _ b1; replace b2 := st7.step.sub (by decide) _ _ b2; replace h1 := h1.mono (st7.step.sub (by decide))
      rw [List.nil_append] at h2 ⊢
      (repeat (first | refine TInt.mk ?_ | refine TBool.mk ?_ | refine TStr.mk ?_ | refine TSl.mk ?_ | refine TPtr.mk ?_ | refine TAgg.mk ?_ | refine T2.mk ?_ | refine T3.mk ?_ | refine TSome.mk ?_))
      refine ⟨StableC.ad (view_sub _ _ _) b1 rfl, StableC.ad (view_sub _ _ _) b1 rfl, ?_⟩
      refine RunU.var b2 (by kernel_rfl) rfl (by first | (simp [Value.oneCell']; done) | (simp [Value.oneCell', OpR.cells, sv]; done) | (simp [Value.oneCell', AnsR.cells, sv]; done) | rfl) fun w9 st9 b2 => ?_
      replace S := S.go st9.step (by decide) (by decide); replace D := D.mono (st9.step.sub (by decide)); replace h1 := h1.mono (st9.step.sub (by decide)); replace h2 := h2.mono (st9.step.sub (by decide))
      refine LoadA.all (view_sub _ _ _) b2 rfl ?_
      exact h (.slice o5 a.data.length p5) (.slice o7 a.names.length p7) _ _ (S.leave c j) (h1.mono (S.out c j (by omega))) (h2.mono (S.out c j (by omega)))
  · refine AllocC.col c2 3 fun y c6 w6 st6 b6 _ => ?_
    replace S := S.go st6.step (by decide) (by decide); replace D := D.mono (st6.step.sub (by decide)); replace b1 := st6.step.sub (by decide) _ _ b1; replace b2 := st6.step.sub (by decide) _ _ b2
    refine ⟨StableC.ad (view_sub _ _ _) b1 rfl, StableC.ad (view_sub _ _ _) b1 rfl, StableC.ad (view_sub _ _ _) b1 rfl, StableC.ad (view_sub _ _ _) b1 rfl, ?_⟩
    refine AllocC.col c6 2 fun x c4 w4 st4 b4 _ => ?_
    replace S := S.go st4.step (by decide) (by decide); replace D := D.mono (st4.step.sub (by decide)); replace b1 := st4.step.sub (by decide) _ _ b1; replace b2 := st4.step.sub (by decide) _ _ b2; replace b6 := st4.step.sub (by decide) _ _ b6
    refine ⟨StableC.ad (view_sub _ _ _) b1 rfl, StableC.ad (view_sub _ _ _) b1 rfl, StableC.ad (view_sub _ _ _) b1 rfl, StableC.ad (view_sub _ _ _) b1 rfl, ?_⟩
    refine app_bytes slU8 (OwS.some_bytes b4) (D.d.mono (view_sub _ _ _)) (by simp; omega) fun o5 p5 c5 w5 st5 h1 => ?_
    replace S := S.go st5.step (by decide) (by decide); replace D := D.mono (st5.step.sub (by decide)); replace b1 := st5.step.sub (by decide) _ _ b1; replace b2 := st5.step.sub (by decide) _ _ b2; replace b6 := st5.step.sub (by decide) _ _ b6
    rw [List.nil_append] at h1 ⊢
    (repeat (first | refine TInt.mk ?_ | refine TBool.mk ?_ | refine TStr.mk ?_ | refine TSl.mk ?_ | refine TPtr.mk ?_ | refine TAgg.mk ?_ | refine T2.mk ?_ | refine T3.mk ?_ | refine TSome.mk ?_))
    refine ⟨StableC.ad (view_sub _ _ _) b1 rfl, StableC.ad (view_sub _ _ _) b1 rfl, StableC.ad (view_sub _ _ _) b1 rfl, ?_⟩
    refine app_strs slStr (OwS.some_strs b6) (D.n.mono (view_sub _ _ _)) (by simp; omega) fun o7 p7 c7 w7 st7 h2 => ?_
    replace S := S.go st7.step (by decide) (by decide); replace D := D.mono (st7.step.sub (by decide)); replace b1 := st7.step.sub (by decide) _ _ b1; replace b2 := st7.step.sub (by decide) _ _ b2; replace h1 := h1.mono (st7.step.sub (by decide))
    rw [List.nil_append] at h2 ⊢
    (repeat (first | refine TInt.mk ?_ | refine TBool.mk ?_ | refine TStr.mk ?_ | refine TSl.mk ?_ | refine TPtr.mk ?_ | refine TAgg.mk ?_ | refine T2.mk ?_ | refine T3.mk ?_ | refine TSome.mk ?_))
    refine ⟨StableC.ad (view_sub _ _ _) b1 rfl, StableC.ad (view_sub _ _ _) b1 rfl, ?_⟩
    refine RunU.var b2 (by kernel_rfl) rfl (by first | (simp [Value.oneCell']; done) | (simp [Value.oneCell', OpR.cells, sv]; done) | (simp [Value.oneCell', AnsR.cells, sv]; done) | rfl) fun w9 st9 b2 => ?_
    replace S := S.go st9.step (by decide) (by decide); replace D := D.mono (st9.step.sub (by decide)); replace h1 := h1.mono (st9.step.sub (by decide)); replace h2 := h2.mono (st9.step.sub (by decide))
    refine LoadA.all (view_sub _ _ _) b2 rfl ?_
    exact h (.slice o5 a.data.length p5) (.slice o7 a.names.length p7) _ _ (S.leave c j) (h1.mono (S.out c j (by omega))) (h2.mono (S.out c j (by omega)))

theorem ref_WriteAnswer_c (c : Nat → Nat) (j : Nat) {w : World} {a : AnsR} {v u : Value} {R : Value → World → Prop} (hv : AnsV (wv w) a v u)
    (h : ∀ v c' w', Step c [] [j] w c' w' → OwS (view c' j w') v 5 1 (wrAns a).1.length (bvs (wrAns a).1) → R (.tuple #[v, .int .i64 (wrAns a).2]) w') :
    CallV Try.prog 35 #[.agg (a.cells v u).toArray] w R := by
  obtain ⟨ov, cv, rfl⟩ := hv.d.form
  obtain ⟨ou, cu, rfl⟩ := hv.n.form
  have D : AnsV (view (fun _ => 0) 0 w) a (.slice ov a.data.length cv) (.slice ou a.names.length cu) := by rw [view0]; exact hv
  have S := Fr.start w
  refine ref10_WriteAnswer_vc ?_
  unfold ref10_WriteAnswer_VC
  refine AllocC.col (fun _ => 0) 1 fun b c1 w1 st1 b1 _ => ?_
  replace S := S.go st1.step (by decide) (by decide); replace D := D.mono (st1.step.sub (by decide))
  refine LoadA.all (view_sub _ _ _) b1 rfl ?_
  refine RightAnswer_c c1 0 ⟨D.d.mono (view_sub _ _ _), D.n.mono (view_sub _ _ _)⟩ fun c2 w2 st2 => TBool.mk ?_
  replace S := S.go st2 (by decide) (by decide); replace D := D.mono (st2.sub (by decide)); replace b1 := st2.sub (by decide) _ _ b1
  refine BS.ndec (fun hn => ?_) (fun hR => ?_)
  · refine AllocC.col c2 2 fun b c3 w3 st3 b3 _ => ?_
    replace S := S.go st3.step (by decide) (by decide); replace D := D.mono (st3.step.sub (by decide))
    have := h (.slice (some ⟨b, 0, none⟩) 0 0) _ _ (S.leave c j)
    rw [wrAns, if_neg hn] at this
    exact this ((OwS.some_bytes b3).mono (S.out c j (by omega)))
  obtain ⟨q1, q2, q3, q4, q5, q6, q7⟩ := id hR
  have hle := AnsR.enc_len hR
  refine DrewC.col c2 fun w3 st3 => ?_
  replace S := S.go st3 (by decide) (by decide); replace D := D.mono (st3.sub (by decide)); replace b1 := st3.sub (by decide) _ _ b1
  (repeat (first | refine TInt.mk ?_ | refine TBool.mk ?_ | refine TStr.mk ?_ | refine TSl.mk ?_ | refine TPtr.mk ?_ | refine TAgg.mk ?_ | refine T2.mk ?_ | refine T3.mk ?_ | refine TSome.mk ?_ | refine LoadC.ad (view_sub _ _ _) _ (by assumption) rfl ?_))
  refine two_c c2 2 q1 q2 fun v4 c4 w4 st4 ho => ?_
  replace S := S.go st4 (by decide) (by decide); replace D := D.mono (st4.sub (by decide)); replace b1 := st4.sub (by decide) _ _ b1
  obtain ⟨o4, p4, rfl⟩ := ho.form
  (repeat (first | refine TInt.mk ?_ | refine TBool.mk ?_ | refine TStr.mk ?_ | refine TSl.mk ?_ | refine TPtr.mk ?_ | refine TAgg.mk ?_ | refine T2.mk ?_ | refine T3.mk ?_ | refine TSome.mk ?_))
  refine ⟨StableC.ad (view_sub _ _ _) b1 rfl, ?_⟩
  refine two_c c4 0 q3 q4 fun v5 c5 w5 st5 r5 => ?_
  replace S := S.go st5 (by decide) (by decide); replace D := D.mono (st5.sub (by decide)); replace b1 := st5.sub (by decide) _ _ b1; replace ho := ho.mono (st5.sub (by decide))
  obtain ⟨o5, p5, rfl⟩ := r5.form
  (repeat (first | refine TInt.mk ?_ | refine TBool.mk ?_ | refine TStr.mk ?_ | refine TSl.mk ?_ | refine TPtr.mk ?_ | refine TAgg.mk ?_ | refine T2.mk ?_ | refine T3.mk ?_ | refine TSome.mk ?_))
  refine app_bytes slU8 ho (r5.rd.mono (view_sub _ _ _)) (by simp) fun o6 p6 c6 w6 st6 ho => ?_
  replace S := S.go st6.step (by decide) (by decide); replace D := D.mono (st6.step.sub (by decide)); replace b1 := st6.step.sub (by decide) _ _ b1
  (repeat (first | refine TInt.mk ?_ | refine TBool.mk ?_ | refine TStr.mk ?_ | refine TSl.mk ?_ | refine TPtr.mk ?_ | refine TAgg.mk ?_ | refine T2.mk ?_ | refine T3.mk ?_ | refine TSome.mk ?_))
  refine DrewC.col c6 fun w7 st7 => ?_
  replace S := S.go st7 (by decide) (by decide); replace D := D.mono (st7.sub (by decide)); replace b1 := st7.sub (by decide) _ _ b1; replace ho := ho.mono (st7.sub (by decide))
  (repeat (first | refine TInt.mk ?_ | refine TBool.mk ?_ | refine TStr.mk ?_ | refine TSl.mk ?_ | refine TPtr.mk ?_ | refine TAgg.mk ?_ | refine T2.mk ?_ | refine T3.mk ?_ | refine TSome.mk ?_ | refine LoadC.ad (view_sub _ _ _) _ (by assumption) rfl ?_))
  generalize hb : be a.code.toNat 2 ++ be a.n.toNat 2 = B at ho ⊢
  have hB : B.length = 4 := by rw [← hb]; simp
  have hE : a.enc = B ++ txt a.data ++ [byteAt a.names.length 0] ++ a.names.flatMap txt := by rw [← hb]; unfold AnsR.enc; simp [be]
  have k1 : ∀ o4 n4 p4 c' w', Fr w c' w' → view c' 1 w' b = some (.cells (a.cells (.slice ov a.data.length cv) (.slice ou a.names.length cu)).toArray 64 (0, 0)) → AnsV (view c' 0 w') a (.slice ov a.data.length cv) (.slice ou a.names.length cu) →
      OwS (view c' 2 w') (.slice o4 n4 p4) 5 1 (B ++ txt a.data ++ [byteAt a.names.length 0]).length (bvs (B ++ txt a.data ++ [byteAt a.names.length 0])) → ref10_WriteAnswer_K1 ⟨b, 0, none⟩ o4 n4 p4 w' R := by
    intro o4 n4 p4 c8 w8 S b1 D ho
    unfold ref10_WriteAnswer_K1
    refine LoopSI.up a.names.length (fun i o l p w' => ∃ c', Fr w c' w' ∧ view c' 1 w' b = some (.cells (a.cells (.slice ov a.data.length cv) (.slice ou a.names.length cu)).toArray 64 (0, 0)) ∧ AnsV (view c' 0 w') a (.slice ov a.data.length cv) (.slice ou a.names.length cu) ∧
      OwS (view c' 2 w') (.slice o l p) 5 1 (B ++ txt a.data ++ [byteAt a.names.length 0] ++ (a.names.take i).flatMap txt).length (bvs (B ++ txt a.data ++ [byteAt a.names.length 0] ++ (a.names.take i).flatMap txt))) ⟨c8, S, b1, D, by simpa using ho⟩ ?_
    rintro i o l p w9 B' hi ⟨c9, S, b1, D, ho⟩ back
    (repeat (first | refine TInt.mk ?_ | refine TBool.mk ?_ | refine TStr.mk ?_ | refine TSl.mk ?_ | refine TPtr.mk ?_ | refine TAgg.mk ?_ | refine T2.mk ?_ | refine T3.mk ?_ | refine TSome.mk ?_ | refine LoadC.ad (view_sub _ _ _) _ (by assumption) rfl ?_))
    refine BS.dec (fun hlt => ?_) (fun hge => ?_)
    · obtain ⟨s, hs⟩ := get_of_lt (l := a.names) (i := i) (by omega)
      have hs8 := q7 s (List.mem_of_getElem? hs)
      unfold okName at hs8
      (repeat (first | refine TInt.mk ?_ | refine TBool.mk ?_ | refine TStr.mk ?_ | refine TSl.mk ?_ | refine TPtr.mk ?_ | refine TAgg.mk ?_ | refine T2.mk ?_ | refine T3.mk ?_ | refine TSome.mk ?_ | refine LoadC.ad (view_sub _ _ _) _ (by assumption) rfl ?_))
      refine Req.bnd ⟨by omega, hlt⟩ (D.n.elt (view_sub _ _ _) (u := sv s) (by rw [svs_get, hs]; rfl) (TStr.mk ?_))
      refine bytes_col Try.underlying9 Try.underlying26 Try.underlying5 c9 0 fun v10 c10 w10 st10 r10 => ?_
      replace S := S.go st10 (by decide) (by decide); replace D := D.mono (st10.sub (by decide)); replace b1 := st10.sub (by decide) _ _ b1; replace ho := ho.mono (st10.sub (by decide))
      obtain ⟨o10, p10, rfl⟩ := r10.form
      (repeat (first | refine TInt.mk ?_ | refine TBool.mk ?_ | refine TStr.mk ?_ | refine TSl.mk ?_ | refine TPtr.mk ?_ | refine TAgg.mk ?_ | refine T2.mk ?_ | refine T3.mk ?_ | refine TSome.mk ?_))
      refine text_c c10 0 (r10.mono (view_sub _ _ _)) (by omega) fun v11 c11 w11 st11 r11 => ?_
      replace S := S.go st11 (by decide) (by decide); replace D := D.mono (st11.sub (by decide)); replace b1 := st11.sub (by decide) _ _ b1; replace ho := ho.mono (st11.sub (by decide))
      obtain ⟨o11, p11, rfl⟩ := r11.form
      (repeat (first | refine TInt.mk ?_ | refine TBool.mk ?_ | refine TStr.mk ?_ | refine TSl.mk ?_ | refine TPtr.mk ?_ | refine TAgg.mk ?_ | refine T2.mk ?_ | refine T3.mk ?_ | refine TSome.mk ?_))
      refine app_bytes slU8 ho (r11.rd.mono (view_sub _ _ _)) ?_ fun o12 p12 c12 w12 st12 ho => ?_
      · have h1 : (a.names.take i).flatMap txt ++ (a.names.drop i).flatMap txt = a.names.flatMap txt := by rw [← List.flatMap_append, List.take_append_drop]
        have h2 := congrArg List.length h1
        have h3 := congrArg List.length hE
        rw [List.length_append] at h2 h3 ⊢
        rw [txt_length]
        omega
      replace S := S.go st12.step (by decide) (by decide); replace D := D.mono (st12.step.sub (by decide)); replace b1 := st12.step.sub (by decide) _ _ b1
      (repeat (first | refine TInt.mk ?_ | refine TBool.mk ?_ | refine TStr.mk ?_ | refine TSl.mk ?_ | refine TPtr.mk ?_ | refine TAgg.mk ?_ | refine T2.mk ?_ | refine T3.mk ?_ | refine TSome.mk ?_))
      rw [wrap_i64 (by omega) (by omega)]
      refine back _ _ _ _ (by omega) ⟨c12, S, b1, D, ?_⟩
      have e : B ++ txt a.data ++ [byteAt a.names.length 0] ++ (a.names.take (i + 1)).flatMap txt = B ++ txt a.data ++ [byteAt a.names.length 0] ++ (a.names.take i).flatMap txt ++ txt s := by
        rw [List.take_add_one, hs, Option.toList_some, List.flatMap_append]; simp
      rw [e]; exact ho
    · have : i = a.names.length := by omega
      subst this
      rw [List.take_length, ← hE] at ho
      have := ho.len.1
      subst this
      have := h (.slice o a.enc.length p) _ _ (S.leave c j)
      rw [wrAns, if_pos hR] at this
      exact this (ho.mono (S.out c j (by omega)))
  have eb : IntKind.wrap .u8 ((a.names.length : Nat) : Int) = ((byteAt a.names.length 0).toNat : Int) := by rw [byte_u8 (by omega)]; rfl
  rw [eb]
  refine ⟨?_, ?_⟩
  · refine text_c c6 0 (D.d.mono (view_sub _ _ _)) (by omega) fun v8 c8 w8 st8 r8 => ?_
    replace S := S.go st8 (by decide) (by decide); replace D := D.mono (st8.sub (by decide)); replace b1 := st8.sub (by decide) _ _ b1; replace ho := ho.mono (st8.sub (by decide))
    obtain ⟨o8, p8, rfl⟩ := r8.form
    (repeat (first | refine TInt.mk ?_ | refine TBool.mk ?_ | refine TStr.mk ?_ | refine TSl.mk ?_ | refine TPtr.mk ?_ | refine TAgg.mk ?_ | refine T2.mk ?_ | refine T3.mk ?_ | refine TSome.mk ?_))
    refine ⟨StableC.ad (view_sub _ _ _) b1 rfl, ?_, ?_⟩
    · refine app_bytes slU8 ho (r8.rd.mono (view_sub _ _ _)) (by rw [txt_length]; omega) fun o9 p9 c9 w9 st9 ho => ?_
      replace S := S.go st9.step (by decide) (by decide); replace D := D.mono (st9.step.sub (by decide)); replace b1 := st9.step.sub (by decide) _ _ b1
      (repeat (first | refine TInt.mk ?_ | refine TBool.mk ?_ | refine TStr.mk ?_ | refine TSl.mk ?_ | refine TPtr.mk ?_ | refine TAgg.mk ?_ | refine T2.mk ?_ | refine T3.mk ?_ | refine TSome.mk ?_))
      refine ⟨StableC.ad (view_sub _ _ _) b1 rfl, ?_⟩
      refine AllocC.col c9 3 fun y c10 w10 st10 b10 _ => ?_
      replace S := S.go st10.step (by decide) (by decide); replace D := D.mono (st10.step.sub (by decide)); replace b1 := st10.step.sub (by decide) _ _ b1; replace ho := ho.mono (st10.step.sub (by decide))
      refine ⟨StableC.ad (view_sub _ _ _) b1 rfl, ?_⟩
      refine app_bytes slU8 ho ((OwS.lit b10 [byteAt a.names.length 0] rfl rfl (by simp [maxLen])).rd.mono (view_sub _ _ _)) (by simp; omega) fun o11 p11 c11 w11 st11 ho => ?_
      replace S := S.go st11.step (by decide) (by decide); replace D := D.mono (st11.step.sub (by decide)); replace b1 := st11.step.sub (by decide) _ _ b1
      (repeat (first | refine TInt.mk ?_ | refine TBool.mk ?_ | refine TStr.mk ?_ | refine TSl.mk ?_ | refine TPtr.mk ?_ | refine TAgg.mk ?_ | refine T2.mk ?_ | refine T3.mk ?_ | refine TSome.mk ?_))
      exact k1 _ _ _ _ _ S b1 D ho
    · refine AllocC.col c8 3 fun y c10 w10 st10 b10 _ => ?_
      replace S := S.go st10.step (by decide) (by decide); replace D := D.mono (st10.step.sub (by decide)); replace b1 := st10.step.sub (by decide) _ _ b1; replace ho := ho.mono (st10.step.sub (by decide)); replace r8 := r8.mono (st10.step.sub (by decide))
      refine ⟨StableC.ad (view_sub _ _ _) b1 rfl, ?_⟩
      refine app_bytes slU8 ho (r8.rd.mono (view_sub _ _ _)) (by rw [txt_length]; omega) fun o9 p9 c9 w9 st9 ho => ?_
      replace S := S.go st9.step (by decide) (by decide); replace D := D.mono (st9.step.sub (by decide)); replace b1 := st9.step.sub (by decide) _ _ b1; replace b10 := st9.step.sub (by decide) _ _ b10
      (repeat (first | refine TInt.mk ?_ | refine TBool.mk ?_ | refine TStr.mk ?_ | refine TSl.mk ?_ | refine TPtr.mk ?_ | refine TAgg.mk ?_ | refine T2.mk ?_ | refine T3.mk ?_ | refine TSome.mk ?_))
      refine ⟨StableC.ad (view_sub _ _ _) b1 rfl, ?_⟩
      refine app_bytes slU8 ho ((OwS.lit b10 [byteAt a.names.length 0] rfl rfl (by simp [maxLen])).rd.mono (view_sub _ _ _)) (by simp; omega) fun o11 p11 c11 w11 st11 ho => ?_
      replace S := S.go st11.step (by decide) (by decide); replace D := D.mono (st11.step.sub (by decide)); replace b1 := st11.step.sub (by decide) _ _ b1
      (repeat (first | refine TInt.mk ?_ | refine TBool.mk ?_ | refine TStr.mk ?_ | refine TSl.mk ?_ | refine TPtr.mk ?_ | refine TAgg.mk ?_ | refine T2.mk ?_ | refine T3.mk ?_ | refine TSome.mk ?_))
      exact k1 _ _ _ _ _ S b1 D ho
  · refine AllocC.col c6 3 fun y c10 w10 st10 b10 _ => ?_
    replace S := S.go st10.step (by decide) (by decide); replace D := D.mono (st10.step.sub (by decide)); replace b1 := st10.step.sub (by decide) _ _ b1; replace ho := ho.mono (st10.step.sub (by decide))
    refine ⟨StableC.ad (view_sub _ _ _) b1 rfl, ?_⟩
    refine text_c c10 0 (D.d.mono (view_sub _ _ _)) (by omega) fun v8 c8 w8 st8 r8 => ?_
    replace S := S.go st8 (by decide) (by decide); replace D := D.mono (st8.sub (by decide)); replace b1 := st8.sub (by decide) _ _ b1; replace ho := ho.mono (st8.sub (by decide)); replace b10 := st8.sub (by decide) _ _ b10
    obtain ⟨o8, p8, rfl⟩ := r8.form
    (repeat (first | refine TInt.mk ?_ | refine TBool.mk ?_ | refine TStr.mk ?_ | refine TSl.mk ?_ | refine TPtr.mk ?_ | refine TAgg.mk ?_ | refine T2.mk ?_ | refine T3.mk ?_ | refine TSome.mk ?_))
    refine ⟨StableC.ad (view_sub _ _ _) b1 rfl, ?_⟩
    refine app_bytes slU8 ho (r8.rd.mono (view_sub _ _ _)) (by rw [txt_length]; omega) fun o9 p9 c9 w9 st9 ho => ?_
    replace S := S.go st9.step (by decide) (by decide); replace D := D.mono (st9.step.sub (by decide)); replace b1 := st9.step.sub (by decide) _ _ b1; replace b10 := st9.step.sub (by decide) _ _ b10
    (repeat (first | refine TInt.mk ?_ | refine TBool.mk ?_ | refine TStr.mk ?_ | refine TSl.mk ?_ | refine TPtr.mk ?_ | refine TAgg.mk ?_ | refine T2.mk ?_ | refine T3.mk ?_ | refine TSome.mk ?_))
    refine ⟨StableC.ad (view_sub _ _ _) b1 rfl, ?_⟩
    refine app_bytes slU8 ho ((OwS.lit b10 [byteAt a.names.length 0] rfl rfl (by simp [maxLen])).rd.mono (view_sub _ _ _)) (by simp; omega) fun o11 p11 c11 w11 st11 ho => ?_
    replace S := S.go st11.step (by decide) (by decide); replace D := D.mono (st11.step.sub (by decide)); replace b1 := st11.step.sub (by decide) _ _ b1
    (repeat (first | refine TInt.mk ?_ | refine TBool.mk ?_ | refine TStr.mk ?_ | refine TSl.mk ?_ | refine TPtr.mk ?_ | refine TAgg.mk ?_ | refine T2.mk ?_ | refine T3.mk ?_ | refine TSome.mk ?_))
    exact k1 _ _ _ _ _ S b1 D ho
end Go.Proofs.Ytpmpfahedbfppaa

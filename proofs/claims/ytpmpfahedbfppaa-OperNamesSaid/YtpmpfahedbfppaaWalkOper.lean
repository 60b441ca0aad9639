/-
  Chapter 10's statements: the walks.
-/
import Derived.Test.YtpmpfahedbfppaaL10
import Derived.Test.YtpmpfahedbfppaaArgs2
set_option linter.unusedVariables false
set_option linter.unusedSimpArgs false
namespace Go.Proofs.Ytpmpfahedbfppaa.walkOper
open Go.Vc Go.ChangeShapes Go.WideShapes Go.ChangeAt Go.RowKit
attribute [local irreducible] TInt TBool TStr TPtr TSl TAgg TMap TChan T2 T3 T4 BS Req TSome TCell TByte LoadC LoadA StoreC AllocC RunV RunU CallV EqA StableC StableA StableV TCells ReadV
attribute [local irreducible] eU eT eE

theorem names (w : World) : CallV Try.prog 8 #[] w fun r w' => r = .bool true ∧ Below w.heap.size w w' := by
  refine law10_OperNames_vc ?_
  unfold law10_OperNames_VC
  refine speaks10 (fun _ => 0) 1 fun c1 w1 st => TBool.mk (BS.no rfl ⟨rfl, st.below fun _ => by simp⟩)

theorem apart (o p : OpR) (a b : AnsR) (v u va ua vb ub : Value) (w : World) (ho : OpRV (wv w) o v) (hp : OpRV (wv w) p u) (ha : AnsV (wv w) a va ua) (hb : AnsV (wv w) b vb ub) :
    CallV Try.prog 9 #[.agg (o.cells v ++ a.cells va ua).toArray, .agg (p.cells u ++ b.cells vb ub).toArray] w fun r w' => r = .bool true ∧ Below w.heap.size w w' := by
  have D : OpRV (view (fun _ => 0) 0 w) o v := by rw [view0]; exact ho
  have E : OpRV (view (fun _ => 0) 0 w) p u := by rw [view0]; exact hp
  have F : AnsV (view (fun _ => 0) 0 w) a va ua := by rw [view0]; exact ha
  have G : AnsV (view (fun _ => 0) 0 w) b vb ub := by rw [view0]; exact hb
  have S := Fr.start w
  refine law10_OperApart_vc ?_
  unfold law10_OperApart_VC
  refine AllocC.col (fun _ => 0) 1 fun x c1 w1 st1 b1 _ => ?_
  replace D := RdS.mono D (st1.step.sub (by decide))
  replace E := RdS.mono E (st1.step.sub (by decide))
  replace S := S.go st1.step (by decide) (by decide); replace F := F.mono (st1.step.sub (by decide)); replace G := G.mono (st1.step.sub (by decide))
  refine AllocC.col c1 2 fun y c2 w2 st2 b2 _ => ?_
  replace D := RdS.mono D (st2.step.sub (by decide))
  replace E := RdS.mono E (st2.step.sub (by decide))
  replace S := S.go st2.step (by decide) (by decide); replace F := F.mono (st2.step.sub (by decide)); replace G := G.mono (st2.step.sub (by decide)); replace b1 := st2.step.sub (by decide) _ _ b1
  refine speaks10 c2 3 fun c3 w3 st3 => TBool.mk (BS.yes rfl ?_)
  replace D := RdS.mono D (st3.sub (by decide))
  replace E := RdS.mono E (st3.sub (by decide))
  replace S := S.go st3 (by decide) (by decide); replace F := F.mono (st3.sub (by decide)); replace G := G.mono (st3.sub (by decide)); replace b1 := st3.sub (by decide) _ _ b1; replace b2 := st3.sub (by decide) _ _ b2
  have part : ∀ {c : Nat → Nat} {i : Nat} {w : World} {b T : Nat} (xs es : List Value) (n : Nat) {C : Array Value → Prop}, view c i w b = some (.cells (xs ++ es).toArray T (0, 0)) → es.length = n → C es.toArray → LoadA w ((⟨b, 0, none⟩ : Addr).add xs.length) n C := by
    intro c i w b T xs es n C hb hn hC
    rw [addr_add, Nat.zero_add]
    exact LoadA.at (view_sub c i w) hb hn (fun k u hu => by rw [List.getElem?_toArray, List.getElem?_append_right (by omega), Nat.add_sub_cancel_left]; exact hu) hC
  have part0 : ∀ {c : Nat → Nat} {i : Nat} {w : World} {b T : Nat} (xs es : List Value) (n : Nat) {C : Array Value → Prop}, view c i w b = some (.cells (xs ++ es).toArray T (0, 0)) → xs.length = n → C xs.toArray → LoadA w ((⟨b, 0, none⟩ : Addr).add 0) n C := by
    intro c i w b T xs es n C hb hn hC
    rw [addr_add, Nat.zero_add]
    exact LoadA.at (view_sub c i w) hb hn (fun k u hu => by rw [Nat.zero_add]; have := lt_of_get hu; simpa [List.getElem?_append_left this] using hu) hC
  refine part0 (o.cells v) (a.cells va ua) 6 b1 rfl (part0 (p.cells u) (b.cells vb ub) 6 b2 rfl ?_)
  refine apart_c c3 3 (D.mono (view_sub _ _ _)) (E.mono (view_sub _ _ _)) fun c4 w4 st4 => TBool.mk (BS.yes rfl ?_)
  replace S := S.go st4 (by decide) (by decide); replace F := F.mono (st4.sub (by decide)); replace G := G.mono (st4.sub (by decide)); replace b1 := st4.sub (by decide) _ _ b1; replace b2 := st4.sub (by decide) _ _ b2
  refine part (o.cells v) (a.cells va ua) 4 b1 rfl (part (p.cells u) (b.cells vb ub) 4 b2 rfl ?_)
  refine answers_c c4 3 (F.mono (view_sub _ _ _)) (G.mono (view_sub _ _ _)) fun c5 w5 st5 => TBool.mk ?_
  replace S := S.go st5 (by decide) (by decide); replace F := F.mono (st5.sub (by decide)); replace G := G.mono (st5.sub (by decide))
  exact ⟨rfl, Step.below S fun _ => by simp⟩

theorem writes (o : OpR) (v v1 : Value) (raw : List UInt8) (w : World) (ho : OpRV (wv w) o v) (hr : RdS (wv w) v1 1 raw.length (bvs raw)) :
    CallV Try.prog 11 #[.agg (o.cells v).toArray, v1] w fun r w' => r = .bool true ∧ Below w.heap.size w w' := by
  obtain ⟨ov, cv, rfl⟩ := RdS.form ho
  obtain ⟨or, cr, rfl⟩ := hr.form
  have D : RdS (view (fun _ => 0) 0 w) (.slice ov o.data.length cv) 1 o.data.length (bvs o.data) := by rw [view0]; exact ho
  have E : RdS (view (fun _ => 0) 0 w) (.slice or raw.length cr) 1 raw.length (bvs raw) := by rw [view0]; exact hr
  have S := Fr.start w
  have fin : ∀ {c' w'}, Fr w c' w' → Below w.heap.size w w' := fun S => Step.below S fun _ => by simp
  refine law10_OperWrites_vc ?_
  unfold law10_OperWrites_VC
  refine AllocC.col (fun _ => 0) 1 fun x c1 w1 st1 b1 _ => ?_
  replace S := S.go st1.step (by decide) (by decide); replace D := D.mono (st1.step.sub (by decide)); replace E := E.mono (st1.step.sub (by decide))
  refine speaks10 c1 3 fun c2 w2 st2 => TBool.mk (BS.no rfl ?_)
  replace S := S.go st2 (by decide) (by decide); replace D := D.mono (st2.sub (by decide)); replace E := E.mono (st2.sub (by decide)); replace b1 := st2.sub (by decide) _ _ b1
  refine LoadA.all (view_sub _ _ _) b1 rfl ?_
  refine Great_c c2 3 D fun c3 w3 st3 => TBool.mk ?_
  replace S := S.go st3 (by decide) (by decide); replace D := D.mono (st3.sub (by decide)); replace E := E.mono (st3.sub (by decide)); replace b1 := st3.sub (by decide) _ _ b1
  refine BS.dec (fun _ => ⟨rfl, fin S⟩) (fun g1 => ?_)
  unfold law10_OperWrites_K1
  refine BS.dec (fun _ => ⟨rfl, fin S⟩) (fun g2 => ?_)
  refine LoadA.all (view_sub _ _ _) b1 rfl ?_
  refine CopyOp_c c3 3 (D.mono (view_sub _ _ _)) (by omega) fun v4 c4 w4 st4 r4 => TAgg.mk ?_
  replace S := S.go st4 (by decide) (by decide); replace D := D.mono (st4.sub (by decide)); replace E := E.mono (st4.sub (by decide)); replace b1 := st4.sub (by decide) _ _ b1
  refine AllocC.col c4 4 fun y c5 w5 st5 b5 _ => ?_
  replace S := S.go st5.step (by decide) (by decide); replace D := D.mono (st5.step.sub (by decide)); replace E := E.mono (st5.step.sub (by decide)); replace b1 := st5.step.sub (by decide) _ _ b1; replace r4 := r4.mono (st5.step.sub (by decide))
  refine app_bytes slU8 (OwS.some_bytes b5) (E.mono (view_sub _ _ _)) (by simp; omega) fun o6 p6 c6 w6 st6 r6 => ?_
  replace S := S.go st6.step (by decide) (by decide); replace D := D.mono (st6.step.sub (by decide)); replace E := E.mono (st6.step.sub (by decide)); replace b1 := st6.step.sub (by decide) _ _ b1; replace r4 := r4.mono (st6.step.sub (by decide))
  rw [List.nil_append] at r6 ⊢
  (repeat (first | refine TInt.mk ?_ | refine TBool.mk ?_ | refine TStr.mk ?_ | refine TSl.mk ?_ | refine TPtr.mk ?_ | refine TAgg.mk ?_ | refine T2.mk ?_ | refine T3.mk ?_ | refine TSome.mk ?_))
  refine AllocC.col c6 5 fun y7 c7 w7 st7 b7 _ => ?_
  replace S := S.go st7.step (by decide) (by decide); replace D := D.mono (st7.step.sub (by decide)); replace E := E.mono (st7.step.sub (by decide)); replace b1 := st7.step.sub (by decide) _ _ b1; replace r4 := r4.mono (st7.step.sub (by decide)); replace r6 := r6.mono (st7.step.sub (by decide))
  obtain ⟨o4, p4, rfl⟩ := r4.form
  refine RunU.var b7 (by kernel_rfl) (by first | (simp; done) | (simp [OpR.cells]; done) | (simp [AnsR.cells]; done) | rfl) (by first | (simp [Value.oneCell']; done) | (simp [Value.oneCell', OpR.cells, sv]; done) | (simp [Value.oneCell', AnsR.cells, sv]; done) | rfl) fun w8 st8 b7 => ?_
  replace S := S.go st8.step (by decide) (by decide); replace D := D.mono (st8.step.sub (by decide)); replace E := E.mono (st8.step.sub (by decide)); replace b1 := st8.step.sub (by decide) _ _ b1; replace r4 := r4.mono (st8.step.sub (by decide)); replace r6 := r6.mono (st8.step.sub (by decide))
  refine LoadA.all (view_sub _ _ _) b7 rfl ?_
  refine oper_Write_c c7 6 (r4.rd.mono (view_sub _ _ _)) fun v9 c9 w9 st9 r9 => ?_
  replace S := S.go st9 (by decide) (by decide); replace D := D.mono (st9.sub (by decide)); replace E := E.mono (st9.sub (by decide)); replace b1 := st9.sub (by decide) _ _ b1; replace b7 := st9.sub (by decide) _ _ b7; replace r4 := r4.mono (st9.sub (by decide)); replace r6 := r6.mono (st9.sub (by decide))
  obtain ⟨o9, p9, rfl⟩ := r9.form
  (repeat (first | refine TInt.mk ?_ | refine TBool.mk ?_ | refine TStr.mk ?_ | refine TSl.mk ?_ | refine TPtr.mk ?_ | refine TAgg.mk ?_ | refine T2.mk ?_ | refine T3.mk ?_ | refine TSome.mk ?_))
  refine LoadA.all (view_sub _ _ _) b1 rfl ?_
  refine ref_Write_c c9 6 (D.mono (view_sub _ _ _)) fun v10 c10 w10 st10 r10 => ?_
  replace S := S.go st10 (by decide) (by decide); replace D := D.mono (st10.sub (by decide)); replace E := E.mono (st10.sub (by decide)); replace b1 := st10.sub (by decide) _ _ b1; replace b7 := st10.sub (by decide) _ _ b7; replace r4 := r4.mono (st10.sub (by decide)); replace r6 := r6.mono (st10.sub (by decide)); replace r9 := r9.mono (st10.sub (by decide))
  obtain ⟨o10, p10, rfl⟩ := r10.form
  (repeat (first | refine TInt.mk ?_ | refine TBool.mk ?_ | refine TStr.mk ?_ | refine TSl.mk ?_ | refine TPtr.mk ?_ | refine TAgg.mk ?_ | refine T2.mk ?_ | refine T3.mk ?_ | refine TSome.mk ?_))
  refine oper_Read_c c10 6 (r6.rd.mono (view_sub _ _ _)) (by omega) fun v11 c11 w11 st11 r11 => ?_
  replace S := S.go st11 (by decide) (by decide); replace D := D.mono (st11.sub (by decide)); replace E := E.mono (st11.sub (by decide)); replace b1 := st11.sub (by decide) _ _ b1; replace b7 := st11.sub (by decide) _ _ b7; replace r4 := r4.mono (st11.sub (by decide)); replace r6 := r6.mono (st11.sub (by decide)); replace r9 := r9.mono (st11.sub (by decide)); replace r10 := r10.mono (st11.sub (by decide))
  refine T2.mk (TAgg.mk (TInt.mk ?_))
  refine AllocC.col c11 7 fun y12 c12 w12 st12 b12 _ => ?_
  replace S := S.go st12.step (by decide) (by decide); replace D := D.mono (st12.step.sub (by decide)); replace E := E.mono (st12.step.sub (by decide)); replace b1 := st12.step.sub (by decide) _ _ b1; replace b7 := st12.step.sub (by decide) _ _ b7; replace r4 := r4.mono (st12.step.sub (by decide)); replace r6 := r6.mono (st12.step.sub (by decide)); replace r9 := r9.mono (st12.step.sub (by decide)); replace r10 := r10.mono (st12.step.sub (by decide))
  replace r11 := RdS.mono r11 (st12.step.sub (by decide))
  obtain ⟨o11, p11, rfl⟩ := RdS.form r11
  refine RunU.var b12 (by kernel_rfl) (by first | (simp; done) | (simp [OpR.cells]; done) | (simp [AnsR.cells]; done) | rfl) (by first | (simp [Value.oneCell']; done) | (simp [Value.oneCell', OpR.cells, sv]; done) | (simp [Value.oneCell', AnsR.cells, sv]; done) | rfl) fun w13 st13 b12 => ?_
  replace S := S.go st13.step (by decide) (by decide); replace D := D.mono (st13.step.sub (by decide)); replace E := E.mono (st13.step.sub (by decide)); replace b1 := st13.step.sub (by decide) _ _ b1; replace b7 := st13.step.sub (by decide) _ _ b7; replace r4 := r4.mono (st13.step.sub (by decide)); replace r6 := r6.mono (st13.step.sub (by decide)); replace r9 := r9.mono (st13.step.sub (by decide)); replace r10 := r10.mono (st13.step.sub (by decide))
  replace r11 := RdS.mono r11 (st13.step.sub (by decide))
  refine ref_Read_c c12 6 (E.mono (view_sub _ _ _)) (by omega) fun v14 c14 w14 st14 r14 => ?_
  replace S := S.go st14 (by decide) (by decide); replace D := D.mono (st14.sub (by decide)); replace E := E.mono (st14.sub (by decide)); replace b1 := st14.sub (by decide) _ _ b1; replace b7 := st14.sub (by decide) _ _ b7; replace b12 := st14.sub (by decide) _ _ b12; replace r4 := r4.mono (st14.sub (by decide)); replace r6 := r6.mono (st14.sub (by decide)); replace r9 := r9.mono (st14.sub (by decide)); replace r10 := r10.mono (st14.sub (by decide)); replace r11 := r11.mono (st14.sub (by decide))
  refine T2.mk (TAgg.mk (TInt.mk ?_))
  refine AllocC.col c14 8 fun y15 c15 w15 st15 b15 _ => ?_
  replace S := S.go st15.step (by decide) (by decide); replace D := D.mono (st15.step.sub (by decide)); replace E := E.mono (st15.step.sub (by decide)); replace b1 := st15.step.sub (by decide) _ _ b1; replace b7 := st15.step.sub (by decide) _ _ b7; replace b12 := st15.step.sub (by decide) _ _ b12; replace r4 := r4.mono (st15.step.sub (by decide)); replace r6 := r6.mono (st15.step.sub (by decide)); replace r9 := r9.mono (st15.step.sub (by decide)); replace r10 := r10.mono (st15.step.sub (by decide)); replace r11 := r11.mono (st15.step.sub (by decide))
  replace r14 := RdS.mono r14 (st15.step.sub (by decide))
  obtain ⟨o14, p14, rfl⟩ := RdS.form r14
  refine RunU.var b15 (by kernel_rfl) (by first | (simp; done) | (simp [OpR.cells]; done) | (simp [AnsR.cells]; done) | rfl) (by first | (simp [Value.oneCell']; done) | (simp [Value.oneCell', OpR.cells, sv]; done) | (simp [Value.oneCell', AnsR.cells, sv]; done) | rfl) fun w16 st16 b15 => ?_
  replace S := S.go st16.step (by decide) (by decide); replace D := D.mono (st16.step.sub (by decide)); replace E := E.mono (st16.step.sub (by decide)); replace b1 := st16.step.sub (by decide) _ _ b1; replace b7 := st16.step.sub (by decide) _ _ b7; replace b12 := st16.step.sub (by decide) _ _ b12; replace r4 := r4.mono (st16.step.sub (by decide)); replace r6 := r6.mono (st16.step.sub (by decide)); replace r9 := r9.mono (st16.step.sub (by decide)); replace r10 := r10.mono (st16.step.sub (by decide)); replace r11 := r11.mono (st16.step.sub (by decide))
  replace r14 := RdS.mono r14 (st16.step.sub (by decide))
  refine BS.ne (fun hne => absurd rfl hne) (fun _ => ?_)
  refine string_rule strU8 (r9.rd.mono (view_sub _ _ _)) (TStr.mk ?_)
  refine string_rule strU8 (r10.rd.mono (view_sub _ _ _)) (TStr.mk ?_)
  rw [strEq_of]
  refine BS.no (by simp) ?_
  refine BS.ne (fun hne => absurd rfl hne) (fun _ => ?_)
  refine LoadA.all (view_sub _ _ _) b12 rfl (LoadA.all (view_sub _ _ _) b15 rfl ?_)
  refine SameOp_c c15 9 r11 r14 fun c17 w17 st17 => TBool.mk ?_
  replace S := S.go st17 (by decide) (by decide); replace D := D.mono (st17.sub (by decide)); replace E := E.mono (st17.sub (by decide)); replace b1 := st17.sub (by decide) _ _ b1; replace b7 := st17.sub (by decide) _ _ b7; replace r4 := r4.mono (st17.sub (by decide)); replace r6 := r6.mono (st17.sub (by decide)); replace r9 := r9.mono (st17.sub (by decide))
  refine BS.no (by simp) ?_
  refine LoadA.all (view_sub _ _ _) b7 rfl (LoadA.all (view_sub _ _ _) b1 rfl ?_)
  refine SameOp_c c17 9 r4.rd D fun c18 w18 st18 => TBool.mk ?_
  replace S := S.go st18 (by decide) (by decide); replace D := D.mono (st18.sub (by decide)); replace E := E.mono (st18.sub (by decide)); replace b1 := st18.sub (by decide) _ _ b1; replace r6 := r6.mono (st18.sub (by decide)); replace r9 := r9.mono (st18.sub (by decide))
  refine BS.no (by simp) ?_
  refine string_rule strU8 (r6.rd.mono (view_sub _ _ _)) (TStr.mk ?_)
  refine string_rule strU8 (E.mono (view_sub _ _ _)) (TStr.mk ?_)
  rw [strEq_of]
  unfold law10_OperWrites_K2
  refine BS.no (by simp) ?_
  refine BS.ne (fun _ => ⟨rfl, fin S⟩) (fun he => ?_)
  have h1 : o.right := by unfold wrOp at he; split at he <;> simp_all
  have hle := OpR.enc_len h1
  have e9 : (wrOp o).1 = o.enc := by rw [wrOp, if_pos h1]
  rw [e9] at r9 ⊢
  refine oper_Read_c c18 6 (r9.rd.mono (view_sub _ _ _)) (by omega) fun v19 c19 w19 st19 r19 => ?_
  replace S := S.go st19 (by decide) (by decide); replace D := D.mono (st19.sub (by decide)); replace b1 := st19.sub (by decide) _ _ b1
  have e19 : rdOp o.enc = (o, 0) := by unfold rdOp; rw [OpR.read h1]
  rw [e19] at r19 ⊢
  refine T2.mk (TAgg.mk (TInt.mk ?_))
  refine AllocC.col c19 7 fun y20 c20 w20 st20 b20 _ => ?_
  replace S := S.go st20.step (by decide) (by decide); replace D := D.mono (st20.step.sub (by decide)); replace b1 := st20.step.sub (by decide) _ _ b1
  replace r19 := RdS.mono r19 (st20.step.sub (by decide))
  obtain ⟨o19, p19, rfl⟩ := RdS.form r19
  refine RunU.var b20 (by kernel_rfl) (by first | (simp; done) | (simp [OpR.cells]; done) | (simp [AnsR.cells]; done) | rfl) (by first | (simp [Value.oneCell']; done) | (simp [Value.oneCell', OpR.cells, sv]; done) | (simp [Value.oneCell', AnsR.cells, sv]; done) | rfl) fun w21 st21 b20 => ?_
  replace S := S.go st21.step (by decide) (by decide); replace D := D.mono (st21.step.sub (by decide)); replace b1 := st21.step.sub (by decide) _ _ b1
  replace r19 := RdS.mono r19 (st21.step.sub (by decide))
  refine BS.yes (by simp) ?_
  refine LoadA.all (view_sub _ _ _) b20 rfl (LoadA.all (view_sub _ _ _) b1 rfl ?_)
  refine SameOp_c c20 9 r19 D fun c22 w22 st22 => TBool.mk ?_
  replace S := S.go st22 (by decide) (by decide)
  rw [decide_eq_true rfl]
  exact ⟨rfl, fin S⟩

theorem answers (a : AnsR) (v u v1 : Value) (raw : List UInt8) (w : World) (ho : AnsV (wv w) a v u) (hr : RdS (wv w) v1 1 raw.length (bvs raw)) :
    CallV Try.prog 10 #[.agg (a.cells v u).toArray, v1] w fun r w' => r = .bool true ∧ Below w.heap.size w w' := by
  obtain ⟨ov, cv, rfl⟩ := ho.d.form
  obtain ⟨ou, cu, rfl⟩ := ho.n.form
  obtain ⟨or, cr, rfl⟩ := hr.form
  have D : AnsV (view (fun _ => 0) 0 w) a (.slice ov a.data.length cv) (.slice ou a.names.length cu) := by rw [view0]; exact ho
  have E : RdS (view (fun _ => 0) 0 w) (.slice or raw.length cr) 1 raw.length (bvs raw) := by rw [view0]; exact hr
  have S := Fr.start w
  have fin : ∀ {c' w'}, Fr w c' w' → Below w.heap.size w w' := fun S => Step.below S fun _ => by simp
  refine law10_OperAnswers_vc ?_
  unfold law10_OperAnswers_VC
  refine AllocC.col (fun _ => 0) 1 fun x c1 w1 st1 b1 _ => ?_
  replace S := S.go st1.step (by decide) (by decide); replace D := D.mono (st1.step.sub (by decide)); replace E := E.mono (st1.step.sub (by decide))
  refine speaks10 c1 3 fun c2 w2 st2 => TBool.mk (BS.no rfl ?_)
  replace S := S.go st2 (by decide) (by decide); replace D := D.mono (st2.sub (by decide)); replace E := E.mono (st2.sub (by decide)); replace b1 := st2.sub (by decide) _ _ b1
  (repeat (first | refine TInt.mk ?_ | refine TBool.mk ?_ | refine TStr.mk ?_ | refine TSl.mk ?_ | refine TPtr.mk ?_ | refine TAgg.mk ?_ | refine T2.mk ?_ | refine T3.mk ?_ | refine TSome.mk ?_ | refine LoadC.ad (view_sub _ _ _) _ (by assumption) rfl ?_))
  refine BS.dec (fun _ => ⟨rfl, fin S⟩) (fun g1 => ?_)
  (repeat (first | refine TInt.mk ?_ | refine TBool.mk ?_ | refine TStr.mk ?_ | refine TSl.mk ?_ | refine TPtr.mk ?_ | refine TAgg.mk ?_ | refine T2.mk ?_ | refine T3.mk ?_ | refine TSome.mk ?_ | refine LoadC.ad (view_sub _ _ _) _ (by assumption) rfl ?_))
  refine BS.dec (fun _ => ⟨rfl, fin S⟩) (fun g2 => ?_)
  unfold law10_OperAnswers_K1
  refine BS.dec (fun _ => ⟨rfl, fin S⟩) (fun g3 => ?_)
  refine LoadA.all (view_sub _ _ _) b1 rfl ?_
  refine CopyAns_c c2 3 (D.mono (view_sub _ _ _)) (by omega) (by omega) fun v4 u4 c4 w4 st4 r4 s4 => TAgg.mk ?_
  replace S := S.go st4 (by decide) (by decide); replace D := D.mono (st4.sub (by decide)); replace E := E.mono (st4.sub (by decide)); replace b1 := st4.sub (by decide) _ _ b1
  refine AllocC.col c4 4 fun y c5 w5 st5 b5 _ => ?_
  replace S := S.go st5.step (by decide) (by decide); replace D := D.mono (st5.step.sub (by decide)); replace E := E.mono (st5.step.sub (by decide)); replace b1 := st5.step.sub (by decide) _ _ b1; replace r4 := r4.mono (st5.step.sub (by decide)); replace s4 := s4.mono (st5.step.sub (by decide))
  refine app_bytes slU8 (OwS.some_bytes b5) (E.mono (view_sub _ _ _)) (by simp; omega) fun o6 p6 c6 w6 st6 r6 => ?_
  replace S := S.go st6.step (by decide) (by decide); replace D := D.mono (st6.step.sub (by decide)); replace E := E.mono (st6.step.sub (by decide)); replace b1 := st6.step.sub (by decide) _ _ b1; replace r4 := r4.mono (st6.step.sub (by decide)); replace s4 := s4.mono (st6.step.sub (by decide))
  rw [List.nil_append] at r6 ⊢
  (repeat (first | refine TInt.mk ?_ | refine TBool.mk ?_ | refine TStr.mk ?_ | refine TSl.mk ?_ | refine TPtr.mk ?_ | refine TAgg.mk ?_ | refine T2.mk ?_ | refine T3.mk ?_ | refine TSome.mk ?_))
  refine AllocC.col c6 5 fun y7 c7 w7 st7 b7 _ => ?_
  replace S := S.go st7.step (by decide) (by decide); replace D := D.mono (st7.step.sub (by decide)); replace E := E.mono (st7.step.sub (by decide)); replace b1 := st7.step.sub (by decide) _ _ b1; replace r4 := r4.mono (st7.step.sub (by decide)); replace s4 := s4.mono (st7.step.sub (by decide)); replace r6 := r6.mono (st7.step.sub (by decide))
  obtain ⟨o4, p4, rfl⟩ := r4.form
  obtain ⟨q4, t4, rfl⟩ := s4.form
  refine RunU.var b7 (by kernel_rfl) (by first | (simp; done) | (simp [OpR.cells]; done) | (simp [AnsR.cells]; done) | rfl) (by first | (simp [Value.oneCell']; done) | (simp [Value.oneCell', OpR.cells, sv]; done) | (simp [Value.oneCell', AnsR.cells, sv]; done) | rfl) fun w8 st8 b7 => ?_
  replace S := S.go st8.step (by decide) (by decide); replace D := D.mono (st8.step.sub (by decide)); replace E := E.mono (st8.step.sub (by decide)); replace b1 := st8.step.sub (by decide) _ _ b1; replace r4 := r4.mono (st8.step.sub (by decide)); replace s4 := s4.mono (st8.step.sub (by decide)); replace r6 := r6.mono (st8.step.sub (by decide))
  refine LoadA.all (view_sub _ _ _) b7 rfl ?_
  refine WriteAnswer_c c7 6 ⟨r4.rd.mono (view_sub _ _ _), s4.rd.mono (view_sub _ _ _)⟩ fun v9 c9 w9 st9 r9 => ?_
  replace S := S.go st9 (by decide) (by decide); replace D := D.mono (st9.sub (by decide)); replace E := E.mono (st9.sub (by decide)); replace b1 := st9.sub (by decide) _ _ b1; replace b7 := st9.sub (by decide) _ _ b7; replace r4 := r4.mono (st9.sub (by decide)); replace s4 := s4.mono (st9.sub (by decide)); replace r6 := r6.mono (st9.sub (by decide))
  obtain ⟨o9, p9, rfl⟩ := r9.form
  (repeat (first | refine TInt.mk ?_ | refine TBool.mk ?_ | refine TStr.mk ?_ | refine TSl.mk ?_ | refine TPtr.mk ?_ | refine TAgg.mk ?_ | refine T2.mk ?_ | refine T3.mk ?_ | refine TSome.mk ?_))
  refine LoadA.all (view_sub _ _ _) b1 rfl ?_
  refine ref_WriteAnswer_c c9 6 (D.mono (view_sub _ _ _)) fun v10 c10 w10 st10 r10 => ?_
  replace S := S.go st10 (by decide) (by decide); replace D := D.mono (st10.sub (by decide)); replace E := E.mono (st10.sub (by decide)); replace b1 := st10.sub (by decide) _ _ b1; replace b7 := st10.sub (by decide) _ _ b7; replace r4 := r4.mono (st10.sub (by decide)); replace s4 := s4.mono (st10.sub (by decide)); replace r6 := r6.mono (st10.sub (by decide)); replace r9 := r9.mono (st10.sub (by decide))
  obtain ⟨o10, p10, rfl⟩ := r10.form
  (repeat (first | refine TInt.mk ?_ | refine TBool.mk ?_ | refine TStr.mk ?_ | refine TSl.mk ?_ | refine TPtr.mk ?_ | refine TAgg.mk ?_ | refine T2.mk ?_ | refine T3.mk ?_ | refine TSome.mk ?_))
  refine oper_ReadAnswer_c c10 6 (r6.rd.mono (view_sub _ _ _)) (by omega) fun v11 u11 c11 w11 st11 r11 => ?_
  replace S := S.go st11 (by decide) (by decide); replace D := D.mono (st11.sub (by decide)); replace E := E.mono (st11.sub (by decide)); replace b1 := st11.sub (by decide) _ _ b1; replace b7 := st11.sub (by decide) _ _ b7; replace r4 := r4.mono (st11.sub (by decide)); replace s4 := s4.mono (st11.sub (by decide)); replace r6 := r6.mono (st11.sub (by decide)); replace r9 := r9.mono (st11.sub (by decide)); replace r10 := r10.mono (st11.sub (by decide))
  refine T2.mk (TAgg.mk (TInt.mk ?_))
  refine AllocC.col c11 7 fun y12 c12 w12 st12 b12 _ => ?_
  replace S := S.go st12.step (by decide) (by decide); replace D := D.mono (st12.step.sub (by decide)); replace E := E.mono (st12.step.sub (by decide)); replace b1 := st12.step.sub (by decide) _ _ b1; replace b7 := st12.step.sub (by decide) _ _ b7; replace r4 := r4.mono (st12.step.sub (by decide)); replace s4 := s4.mono (st12.step.sub (by decide)); replace r6 := r6.mono (st12.step.sub (by decide)); replace r9 := r9.mono (st12.step.sub (by decide)); replace r10 := r10.mono (st12.step.sub (by decide)); replace r11 := r11.mono (st12.step.sub (by decide))
  obtain ⟨o11, p11, rfl⟩ := r11.d.form
  obtain ⟨q11, t11, rfl⟩ := r11.n.form
  refine RunU.var b12 (by kernel_rfl) (by first | (simp; done) | (simp [OpR.cells]; done) | (simp [AnsR.cells]; done) | rfl) (by first | (simp [Value.oneCell']; done) | (simp [Value.oneCell', OpR.cells, sv]; done) | (simp [Value.oneCell', AnsR.cells, sv]; done) | rfl) fun w13 st13 b12 => ?_
  replace S := S.go st13.step (by decide) (by decide); replace D := D.mono (st13.step.sub (by decide)); replace E := E.mono (st13.step.sub (by decide)); replace b1 := st13.step.sub (by decide) _ _ b1; replace b7 := st13.step.sub (by decide) _ _ b7; replace r4 := r4.mono (st13.step.sub (by decide)); replace s4 := s4.mono (st13.step.sub (by decide)); replace r6 := r6.mono (st13.step.sub (by decide)); replace r9 := r9.mono (st13.step.sub (by decide)); replace r10 := r10.mono (st13.step.sub (by decide)); replace r11 := r11.mono (st13.step.sub (by decide))
  refine ref_ReadAnswer_c c12 6 (E.mono (view_sub _ _ _)) (by omega) fun v14 u14 c14 w14 st14 r14 => ?_
  replace S := S.go st14 (by decide) (by decide); replace D := D.mono (st14.sub (by decide)); replace E := E.mono (st14.sub (by decide)); replace b1 := st14.sub (by decide) _ _ b1; replace b7 := st14.sub (by decide) _ _ b7; replace b12 := st14.sub (by decide) _ _ b12; replace r4 := r4.mono (st14.sub (by decide)); replace s4 := s4.mono (st14.sub (by decide)); replace r6 := r6.mono (st14.sub (by decide)); replace r9 := r9.mono (st14.sub (by decide)); replace r10 := r10.mono (st14.sub (by decide)); replace r11 := r11.mono (st14.sub (by decide))
  refine T2.mk (TAgg.mk (TInt.mk ?_))
  refine AllocC.col c14 8 fun y15 c15 w15 st15 b15 _ => ?_
  replace S := S.go st15.step (by decide) (by decide); replace D := D.mono (st15.step.sub (by decide)); replace E := E.mono (st15.step.sub (by decide)); replace b1 := st15.step.sub (by decide) _ _ b1; replace b7 := st15.step.sub (by decide) _ _ b7; replace b12 := st15.step.sub (by decide) _ _ b12; replace r4 := r4.mono (st15.step.sub (by decide)); replace s4 := s4.mono (st15.step.sub (by decide)); replace r6 := r6.mono (st15.step.sub (by decide)); replace r9 := r9.mono (st15.step.sub (by decide)); replace r10 := r10.mono (st15.step.sub (by decide)); replace r11 := r11.mono (st15.step.sub (by decide)); replace r14 := r14.mono (st15.step.sub (by decide))
  obtain ⟨o14, p14, rfl⟩ := r14.d.form
  obtain ⟨q14, t14, rfl⟩ := r14.n.form
  refine RunU.var b15 (by kernel_rfl) (by first | (simp; done) | (simp [OpR.cells]; done) | (simp [AnsR.cells]; done) | rfl) (by first | (simp [Value.oneCell']; done) | (simp [Value.oneCell', OpR.cells, sv]; done) | (simp [Value.oneCell', AnsR.cells, sv]; done) | rfl) fun w16 st16 b15 => ?_
  replace S := S.go st16.step (by decide) (by decide); replace D := D.mono (st16.step.sub (by decide)); replace E := E.mono (st16.step.sub (by decide)); replace b1 := st16.step.sub (by decide) _ _ b1; replace b7 := st16.step.sub (by decide) _ _ b7; replace b12 := st16.step.sub (by decide) _ _ b12; replace r4 := r4.mono (st16.step.sub (by decide)); replace s4 := s4.mono (st16.step.sub (by decide)); replace r6 := r6.mono (st16.step.sub (by decide)); replace r9 := r9.mono (st16.step.sub (by decide)); replace r10 := r10.mono (st16.step.sub (by decide)); replace r11 := r11.mono (st16.step.sub (by decide)); replace r14 := r14.mono (st16.step.sub (by decide))
  refine BS.ne (fun hne => absurd rfl hne) (fun _ => ?_)
  refine string_rule strU8 (r9.rd.mono (view_sub _ _ _)) (TStr.mk ?_)
  refine string_rule strU8 (r10.rd.mono (view_sub _ _ _)) (TStr.mk ?_)
  rw [strEq_of]
  refine BS.no (by simp) ?_
  refine BS.ne (fun hne => absurd rfl hne) (fun _ => ?_)
  have hnl : (rdAns raw).1.names.length ≤ 1099511627776 := by
    unfold rdAns; split
    · rename_i h; exact Nat.le_trans h.1.2.2.2.2.2.1 (by omega)
    · simp [AnsR.zero]
  refine LoadA.all (view_sub _ _ _) b12 rfl (LoadA.all (view_sub _ _ _) b15 rfl ?_)
  refine SameAns_c c15 9 (r11.mono (view_sub _ _ _)) (r14.mono (view_sub _ _ _)) hnl fun c17 w17 st17 => TBool.mk ?_
  replace S := S.go st17 (by decide) (by decide); replace D := D.mono (st17.sub (by decide)); replace E := E.mono (st17.sub (by decide)); replace b1 := st17.sub (by decide) _ _ b1; replace b7 := st17.sub (by decide) _ _ b7; replace r4 := r4.mono (st17.sub (by decide)); replace s4 := s4.mono (st17.sub (by decide)); replace r6 := r6.mono (st17.sub (by decide)); replace r9 := r9.mono (st17.sub (by decide))
  refine BS.no (by simp) ?_
  refine LoadA.all (view_sub _ _ _) b7 rfl (LoadA.all (view_sub _ _ _) b1 rfl ?_)
  refine SameAns_c c17 9 ⟨r4.rd.mono (view_sub _ _ _), s4.rd.mono (view_sub _ _ _)⟩ (D.mono (view_sub _ _ _)) (by omega) fun c18 w18 st18 => TBool.mk ?_
  replace S := S.go st18 (by decide) (by decide); replace D := D.mono (st18.sub (by decide)); replace E := E.mono (st18.sub (by decide)); replace b1 := st18.sub (by decide) _ _ b1; replace r6 := r6.mono (st18.sub (by decide)); replace r9 := r9.mono (st18.sub (by decide))
  refine BS.no (by simp) ?_
  refine string_rule strU8 (r6.rd.mono (view_sub _ _ _)) (TStr.mk ?_)
  refine string_rule strU8 (E.mono (view_sub _ _ _)) (TStr.mk ?_)
  rw [strEq_of]
  unfold law10_OperAnswers_K2
  refine BS.no (by simp) ?_
  refine BS.ne (fun _ => ⟨rfl, fin S⟩) (fun he => ?_)
  have h1 : a.right := by unfold wrAns at he; split at he <;> simp_all
  have hle := AnsR.enc_len h1
  have e9 : (wrAns a).1 = a.enc := by rw [wrAns, if_pos h1]
  rw [e9] at r9 ⊢
  refine oper_ReadAnswer_c c18 6 (r9.rd.mono (view_sub _ _ _)) (by omega) fun v19 u19 c19 w19 st19 r19 => ?_
  replace S := S.go st19 (by decide) (by decide); replace D := D.mono (st19.sub (by decide)); replace b1 := st19.sub (by decide) _ _ b1
  rw [AnsR.read h1] at r19 ⊢
  refine T2.mk (TAgg.mk (TInt.mk ?_))
  refine AllocC.col c19 7 fun y20 c20 w20 st20 b20 _ => ?_
  replace S := S.go st20.step (by decide) (by decide); replace D := D.mono (st20.step.sub (by decide)); replace b1 := st20.step.sub (by decide) _ _ b1; replace r19 := r19.mono (st20.step.sub (by decide))
  obtain ⟨o19, p19, rfl⟩ := r19.d.form
  obtain ⟨q19, t19, rfl⟩ := r19.n.form
  refine RunU.var b20 (by kernel_rfl) (by first | (simp; done) | (simp [OpR.cells]; done) | (simp [AnsR.cells]; done) | rfl) (by first | (simp [Value.oneCell']; done) | (simp [Value.oneCell', OpR.cells, sv]; done) | (simp [Value.oneCell', AnsR.cells, sv]; done) | rfl) fun w21 st21 b20 => ?_
  replace S := S.go st21.step (by decide) (by decide); replace D := D.mono (st21.step.sub (by decide)); replace b1 := st21.step.sub (by decide) _ _ b1; replace r19 := r19.mono (st21.step.sub (by decide))
  refine BS.yes (by simp) ?_
  refine LoadA.all (view_sub _ _ _) b20 rfl (LoadA.all (view_sub _ _ _) b1 rfl ?_)
  refine SameAns_c c20 9 (r19.mono (view_sub _ _ _)) (D.mono (view_sub _ _ _)) (show a.names.length ≤ 1099511627776 by omega) fun c22 w22 st22 => TBool.mk ?_
  replace S := S.go st22 (by decide) (by decide)
  rw [decide_eq_true rfl]
  exact ⟨rfl, fin S⟩
end Go.Proofs.Ytpmpfahedbfppaa.walkOper

/-
  Chapter 10's laws: what they do, each once.
-/
import Derived.Test.YtpmpfahedbfppaaAns3
set_option linter.unusedVariables false
set_option linter.unusedSimpArgs false
namespace Go.Proofs.Ytpmpfahedbfppaa
open Go.Vc
attribute [local irreducible] TInt TBool TStr TPtr TSl TAgg TMap TChan T2 T3 T4 BS Req TSome TCell TByte LoadC LoadA StoreC AllocC RunV RunU CallV EqA StableC StableA StableV TCells ReadV
attribute [local irreducible] eU eT eE

theorem speaks10 (c : Nat → Nat) (j : Nat) {w : World} {R : Value → World → Prop} (h : ∀ c' w', Step c [] [j] w c' w' → R (.bool true) w') : CallV Try.prog 30 #[] w R := by
  refine law10_speaks_vc ?_
  unfold law10_speaks_VC
  refine WriteAnswer_c c j (a := AnsR.zero) (v := .slice none 0 0) (u := .slice none 0 0) ⟨RdS.none_bytes .., RdS.none_strs ..⟩ fun v c1 w1 st ho => ?_
  obtain ⟨o, p, rfl⟩ := ho.form
  refine T2.mk (TSl.mk (TInt.mk (BS.yes (by decide) ?_)))
  refine string_rule strU8 (ho.rd.mono (view_sub _ _ _)) (TStr.mk ?_)
  have := h _ _ st
  rw [show (⟨#[0, 0, 0, 0, 0, 0, 0]⟩ : ByteArray) = strOf [0, 0, 0, 0, 0, 0, 0] from rfl, strEq_of, decide_eq_true (by decide)]
  exact this

theorem apart_c (c : Nat → Nat) (j : Nat) {w : World} {o p : OpR} {v u : Value} {R : Value → World → Prop} (hv : OpRV (wv w) o v) (hu : OpRV (wv w) p u) (h : ∀ c' w', Step c [] [j] w c' w' → R (.bool true) w') :
    CallV Try.prog 31 #[.agg (o.cells v).toArray, .agg (p.cells u).toArray] w R := by
  obtain ⟨ov, cv, rfl⟩ := RdS.form hv
  obtain ⟨ou, cu, rfl⟩ := RdS.form hu
  have D : RdS (view (fun _ => 0) 0 w) (.slice ov o.data.length cv) 1 o.data.length (bvs o.data) := by rw [view0]; exact hv
  have E : RdS (view (fun _ => 0) 0 w) (.slice ou p.data.length cu) 1 p.data.length (bvs p.data) := by rw [view0]; exact hu
  have S := Fr.start w
  refine law10_apart_vc ?_
  unfold law10_apart_VC
  refine AllocC.col (fun _ => 0) 1 fun x c1 w1 st1 b1 _ => ?_
  replace S := S.go st1.step (by decide) (by decide); replace D := D.mono (st1.step.sub (by decide)); replace E := E.mono (st1.step.sub (by decide))
  refine AllocC.col c1 2 fun y c2 w2 st2 b2 _ => ?_
  replace S := S.go st2.step (by decide) (by decide); replace D := D.mono (st2.step.sub (by decide)); replace E := E.mono (st2.step.sub (by decide)); replace b1 := st2.step.sub (by decide) _ _ b1
  refine LoadA.all (view_sub _ _ _) b1 rfl ?_
  refine Great_c c2 3 D fun c3 w3 st3 => TBool.mk ?_
  replace S := S.go st3 (by decide) (by decide); replace D := D.mono (st3.sub (by decide)); replace E := E.mono (st3.sub (by decide)); replace b1 := st3.sub (by decide) _ _ b1; replace b2 := st3.sub (by decide) _ _ b2
  refine BS.dec (fun _ => h _ _ (S.leave c j)) (fun g1 => ?_)
  refine LoadA.all (view_sub _ _ _) b2 rfl ?_
  refine Great_c c3 3 E fun c4 w4 st4 => TBool.mk ?_
  replace S := S.go st4 (by decide) (by decide); replace D := D.mono (st4.sub (by decide)); replace E := E.mono (st4.sub (by decide)); replace b1 := st4.sub (by decide) _ _ b1; replace b2 := st4.sub (by decide) _ _ b2
  unfold law10_apart_K1
  refine BS.dec (fun _ => h _ _ (S.leave c j)) (fun g2 => ?_)
  refine LoadA.all (view_sub _ _ _) b1 rfl ?_
  refine oper_Write_c c4 3 (D.mono (view_sub _ _ _)) fun v5 c5 w5 st5 r5 => ?_
  replace S := S.go st5 (by decide) (by decide); replace D := D.mono (st5.sub (by decide)); replace E := E.mono (st5.sub (by decide)); replace b1 := st5.sub (by decide) _ _ b1; replace b2 := st5.sub (by decide) _ _ b2
  obtain ⟨o5, p5, rfl⟩ := r5.form
  (repeat (first | refine TInt.mk ?_ | refine TBool.mk ?_ | refine TStr.mk ?_ | refine TSl.mk ?_ | refine TPtr.mk ?_ | refine TAgg.mk ?_ | refine T2.mk ?_ | refine T3.mk ?_ | refine TSome.mk ?_))
  refine LoadA.all (view_sub _ _ _) b2 rfl ?_
  refine oper_Write_c c5 3 (E.mono (view_sub _ _ _)) fun v6 c6 w6 st6 r6 => ?_
  replace S := S.go st6 (by decide) (by decide); replace D := D.mono (st6.sub (by decide)); replace E := E.mono (st6.sub (by decide)); replace b1 := st6.sub (by decide) _ _ b1; replace b2 := st6.sub (by decide) _ _ b2; replace r5 := r5.mono (st6.sub (by decide))
  obtain ⟨o6, p6, rfl⟩ := r6.form
  (repeat (first | refine TInt.mk ?_ | refine TBool.mk ?_ | refine TStr.mk ?_ | refine TSl.mk ?_ | refine TPtr.mk ?_ | refine TAgg.mk ?_ | refine T2.mk ?_ | refine T3.mk ?_ | refine TSome.mk ?_))
  refine DrewC.col c6 fun w7 st7 => ?_
  replace S := S.go st7 (by decide) (by decide); replace D := D.mono (st7.sub (by decide)); replace E := E.mono (st7.sub (by decide)); replace b1 := st7.sub (by decide) _ _ b1; replace b2 := st7.sub (by decide) _ _ b2; replace r5 := r5.mono (st7.sub (by decide)); replace r6 := r6.mono (st7.sub (by decide))
  refine BS.ne (fun _ => h _ _ (S.leave c j)) (fun e1 => ?_)
  refine BS.ne (fun _ => h _ _ (S.leave c j)) (fun e2 => ?_)
  have h1 : o.right := by unfold wrOp at e1; split at e1 <;> simp_all
  have h2 : p.right := by unfold wrOp at e2; split at e2 <;> simp_all
  refine string_rule strU8 (r5.rd.mono (view_sub _ _ _)) (TStr.mk ?_)
  refine string_rule strU8 (r6.rd.mono (view_sub _ _ _)) (TStr.mk ?_)
  refine LoadA.all (view_sub _ _ _) b1 rfl (LoadA.all (view_sub _ _ _) b2 rfl ?_)
  refine SameOp_c c6 4 D E fun c8 w8 st8 => TBool.mk ?_
  replace S := S.go st8 (by decide) (by decide); replace r5 := r5.mono (st8.sub (by decide)); replace r6 := r6.mono (st8.sub (by decide))
  refine ⟨StableV.string strU8 (r5.rd.mono (view_sub _ _ _)), StableV.string strU8 (r6.rd.mono (view_sub _ _ _)), ?_⟩
  rw [strEq_of]
  have : decide ((wrOp o).1 = (wrOp p).1) = decide (o = p) := by
    rw [decide_eq_decide, wrOp, wrOp, if_pos h1, if_pos h2]
    exact ⟨OpR.enc_inj h1 h2, fun e => by rw [e]⟩
  rw [this, beq_self_eq_true]
  exact h _ _ (S.leave c j)

theorem answers_c (c : Nat → Nat) (j : Nat) {w : World} {a b : AnsR} {v u v' u' : Value} {R : Value → World → Prop} (ha : AnsV (wv w) a v u) (hb : AnsV (wv w) b v' u') (h : ∀ c' w', Step c [] [j] w c' w' → R (.bool true) w') :
    CallV Try.prog 32 #[.agg (a.cells v u).toArray, .agg (b.cells v' u').toArray] w R := by
  obtain ⟨ov, cv, rfl⟩ := ha.d.form
  obtain ⟨ou, cu, rfl⟩ := ha.n.form
  obtain ⟨pv, dv, rfl⟩ := hb.d.form
  obtain ⟨pu, du, rfl⟩ := hb.n.form
  have D : AnsV (view (fun _ => 0) 0 w) a (.slice ov a.data.length cv) (.slice ou a.names.length cu) := by rw [view0]; exact ha
  have E : AnsV (view (fun _ => 0) 0 w) b (.slice pv b.data.length dv) (.slice pu b.names.length du) := by rw [view0]; exact hb
  have S := Fr.start w
  refine law10_answers_vc ?_
  unfold law10_answers_VC
  refine AllocC.col (fun _ => 0) 1 fun x c1 w1 st1 b1 _ => ?_
  replace S := S.go st1.step (by decide) (by decide); replace D := D.mono (st1.step.sub (by decide)); replace E := E.mono (st1.step.sub (by decide))
  refine AllocC.col c1 2 fun y c2 w2 st2 b2 _ => ?_
  replace S := S.go st2.step (by decide) (by decide); replace D := D.mono (st2.step.sub (by decide)); replace E := E.mono (st2.step.sub (by decide)); replace b1 := st2.step.sub (by decide) _ _ b1
  (repeat (first | refine TInt.mk ?_ | refine TBool.mk ?_ | refine TStr.mk ?_ | refine TSl.mk ?_ | refine TPtr.mk ?_ | refine TAgg.mk ?_ | refine T2.mk ?_ | refine T3.mk ?_ | refine TSome.mk ?_ | refine LoadC.ad (view_sub _ _ _) _ (by assumption) rfl ?_))
  refine BS.dec (fun _ => h _ _ (S.leave c j)) (fun g1 => ?_)
  (repeat (first | refine TInt.mk ?_ | refine TBool.mk ?_ | refine TStr.mk ?_ | refine TSl.mk ?_ | refine TPtr.mk ?_ | refine TAgg.mk ?_ | refine T2.mk ?_ | refine T3.mk ?_ | refine TSome.mk ?_ | refine LoadC.ad (view_sub _ _ _) _ (by assumption) rfl ?_))
  refine BS.dec (fun _ => h _ _ (S.leave c j)) (fun g2 => ?_)
  (repeat (first | refine TInt.mk ?_ | refine TBool.mk ?_ | refine TStr.mk ?_ | refine TSl.mk ?_ | refine TPtr.mk ?_ | refine TAgg.mk ?_ | refine T2.mk ?_ | refine T3.mk ?_ | refine TSome.mk ?_ | refine LoadC.ad (view_sub _ _ _) _ (by assumption) rfl ?_))
  refine BS.dec (fun _ => h _ _ (S.leave c j)) (fun g3 => ?_)
  (repeat (first | refine TInt.mk ?_ | refine TBool.mk ?_ | refine TStr.mk ?_ | refine TSl.mk ?_ | refine TPtr.mk ?_ | refine TAgg.mk ?_ | refine T2.mk ?_ | refine T3.mk ?_ | refine TSome.mk ?_ | refine LoadC.ad (view_sub _ _ _) _ (by assumption) rfl ?_))
  unfold law10_answers_K1
  refine BS.dec (fun _ => h _ _ (S.leave c j)) (fun g4 => ?_)
  refine LoadA.all (view_sub _ _ _) b1 rfl ?_
  refine WriteAnswer_c c2 3 (D.mono (view_sub _ _ _)) fun v5 c5 w5 st5 r5 => ?_
  replace S := S.go st5 (by decide) (by decide); replace D := D.mono (st5.sub (by decide)); replace E := E.mono (st5.sub (by decide)); replace b1 := st5.sub (by decide) _ _ b1; replace b2 := st5.sub (by decide) _ _ b2
  obtain ⟨o5, p5, rfl⟩ := r5.form
  (repeat (first | refine TInt.mk ?_ | refine TBool.mk ?_ | refine TStr.mk ?_ | refine TSl.mk ?_ | refine TPtr.mk ?_ | refine TAgg.mk ?_ | refine T2.mk ?_ | refine T3.mk ?_ | refine TSome.mk ?_))
  refine LoadA.all (view_sub _ _ _) b2 rfl ?_
  refine WriteAnswer_c c5 3 (E.mono (view_sub _ _ _)) fun v6 c6 w6 st6 r6 => ?_
  replace S := S.go st6 (by decide) (by decide); replace D := D.mono (st6.sub (by decide)); replace E := E.mono (st6.sub (by decide)); replace b1 := st6.sub (by decide) _ _ b1; replace b2 := st6.sub (by decide) _ _ b2; replace r5 := r5.mono (st6.sub (by decide))
  obtain ⟨o6, p6, rfl⟩ := r6.form
  (repeat (first | refine TInt.mk ?_ | refine TBool.mk ?_ | refine TStr.mk ?_ | refine TSl.mk ?_ | refine TPtr.mk ?_ | refine TAgg.mk ?_ | refine T2.mk ?_ | refine T3.mk ?_ | refine TSome.mk ?_))
  refine DrewC.col c6 fun w7 st7 => ?_
  replace S := S.go st7 (by decide) (by decide); replace D := D.mono (st7.sub (by decide)); replace E := E.mono (st7.sub (by decide)); replace b1 := st7.sub (by decide) _ _ b1; replace b2 := st7.sub (by decide) _ _ b2; replace r5 := r5.mono (st7.sub (by decide)); replace r6 := r6.mono (st7.sub (by decide))
  refine BS.ne (fun _ => h _ _ (S.leave c j)) (fun e1 => ?_)
  refine BS.ne (fun _ => h _ _ (S.leave c j)) (fun e2 => ?_)
  have h1 : a.right := by unfold wrAns at e1; split at e1 <;> simp_all
  have h2 : b.right := by unfold wrAns at e2; split at e2 <;> simp_all
  refine string_rule strU8 (r5.rd.mono (view_sub _ _ _)) (TStr.mk ?_)
  refine string_rule strU8 (r6.rd.mono (view_sub _ _ _)) (TStr.mk ?_)
  refine LoadA.all (view_sub _ _ _) b1 rfl (LoadA.all (view_sub _ _ _) b2 rfl ?_)
  refine SameAns_c c6 4 (D.mono (view_sub _ _ _)) (E.mono (view_sub _ _ _)) (by omega) fun c8 w8 st8 => TBool.mk ?_
  replace S := S.go st8 (by decide) (by decide); replace r5 := r5.mono (st8.sub (by decide)); replace r6 := r6.mono (st8.sub (by decide))
  refine ⟨StableV.string strU8 (r5.rd.mono (view_sub _ _ _)), StableV.string strU8 (r6.rd.mono (view_sub _ _ _)), ?_⟩
  rw [strEq_of]
  have : decide ((wrAns a).1 = (wrAns b).1) = decide (a = b) := by
    rw [decide_eq_decide, wrAns, wrAns, if_pos h1, if_pos h2]
    exact ⟨AnsR.enc_inj h1 h2, fun e => by rw [e]⟩
  rw [this, beq_self_eq_true]
  exact h _ _ (S.leave c j)
end Go.Proofs.Ytpmpfahedbfppaa

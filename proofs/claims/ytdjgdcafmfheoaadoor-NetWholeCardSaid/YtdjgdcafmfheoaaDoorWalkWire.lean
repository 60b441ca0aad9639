/-
  Chapter 19's laws, walked: each returns true, whatever its arguments, and leaves what lay there.
-/
import Derived.Test.YtdjgdcafmfheoaaDoorArgX
set_option linter.unusedVariables false
set_option linter.unusedSimpArgs false
namespace Go.Proofs.YtdjgdcafmfheoaaDoor
open Go.Vc
attribute [local irreducible] TInt TBool TStr TPtr TSl TAgg TMap TChan T2 T3 T4 BS Req TSome TCell TByte LoadC LoadA StoreC AllocC RunV RunU CallV ExtV EqA StableC StableA StableV TCells ReadV
attribute [local irreducible] eU eT eE
attribute [local irreducible] DrewC eH many rdM wrM eHb rdOp rdAns
theorem Check_c (c : Nat → Nat) (j : Nat) {w : World} {m : MsgR} {v va ua vh vb : Value} {R : Value → World → Prop} (hm : MsgV (wv w) m v va ua vh vb) (hok : m.ok) (hG : GlobS (wv w))
    (h : ∀ c' w', Step c [] [j] w c' w' → R (.int .i64 (wrM m).2) w') : CallV Tryd.prog 21 #[.agg (m.cells v va ua vh vb).toArray] w R := by
  have M : MsgV (view (fun _ => 0) 0 w) m v va ua vh vb := by rw [view0]; exact hm
  have G : GlobS (view (fun _ => 0) 0 w) := by rw [view0]; exact hG
  have S := Fr.start w
  refine wire_Check_vc ?_
  unfold wire_Check_VC
  refine AllocC.col (fun _ => 0) 1 fun a1 c1 w1 st1 b1 _ => ?_
  replace S := S.go st1.step (by decide) (by decide); replace M := M.mono (st1.step.sub (by decide)); replace G := G.mono (st1.step.sub (by decide))
  refine LoadA.all (view_sub _ _ _) b1 (msg_sz hok) ?_
  refine wire_Write_c c1 2 (M.mono (view_sub _ _ _)) hok (G.mono (view_sub _ _ _)) fun v2 c2 w2 st2 r2 => T2.mk ?_
  replace S := S.go st2 (by decide) (by decide)
  obtain ⟨o2, p2, rfl⟩ := r2.form
  exact TSl.mk (TInt.mk (h _ _ (S.leave c j)))
theorem rdM_ok (l : List UInt8) : (rdM l).1.ok ∧ (rdM l).1.fair := by
  by_cases h : (decM l).right ∧ (decM l).enc = l
  · rw [rdM_yes h]; exact ⟨decM_ok l, decM_fair l⟩
  · rw [rdM_no h]; exact ⟨zero_ok, zero_mild.fair⟩
theorem wrM_cases (m : MsgR) : (¬ m.right ∧ wrM m = ([], 1)) ∨ (m.right ∧ wrM m = (m.enc, 0)) := by
  by_cases h : m.right
  · exact .inr ⟨h, wrM_yes h⟩
  · exact .inl ⟨h, wrM_no h⟩
def m7 : MsgR := ⟨7, 0, 0, 0, 0, 0, 0, List.replicate 32 0, 0, 0, OpR.zero, AnsR.zero, [], []⟩
theorem m7_ok : m7.ok := by unfold MsgR.ok m7; simp
theorem m7_right : m7.right := by unfold MsgR.right m7; simp
theorem m7_len : m7.enc.length = 91 := by
  rw [(take_body (m := m7)).1]
  unfold MsgR.body MsgR.opB MsgR.ansB m7
  simp
theorem MsgV.zero (h : View) : MsgV h MsgR.zero nilV nilV nilV nilV nilV := ⟨RdS.none_bytes .., ⟨RdS.none_bytes .., RdS.none_strs ..⟩, LsV.nil .., LsV.nil ..⟩
theorem wrap_u8_some (n : Int) : ∃ x : UInt8, IntKind.wrap .u8 n = ((x.toNat : Nat) : Int) := by
  refine ⟨UInt8.ofNat (n % 256).toNat, ?_⟩
  rw [wrap_u8_mod, UInt8.toNat_ofNat']
  have h1 : 0 ≤ n % 256 := Int.emod_nonneg _ (by omega)
  have h2 : n % 256 < 256 := Int.emod_lt_of_pos _ (by omega)
  simp only [Nat.reducePow]; omega
theorem bne_same (n : Int) : (n != n) = false := by simp
end Go.Proofs.YtdjgdcafmfheoaaDoor
namespace Go.Proofs.YtdjgdcafmfheoaaDoor.walkWire
open Go.Vc Go.ChangeShapes Go.WideShapes Go.ChangeAt Go.RowKit
attribute [local irreducible] TInt TBool TStr TPtr TSl TAgg TMap TChan T2 T3 T4 BS Req TSome TCell TByte LoadC LoadA StoreC AllocC RunV RunU CallV ExtV EqA StableC StableA StableV TCells ReadV
attribute [local irreducible] eU eT eE
attribute [local irreducible] DrewC eH many rdM wrM eHb rdOp rdAns
theorem fin {w : World} {c' w'} (S : Fr w c' w') : Below w.heap.size w w' := Step.below S fun _ => by simp
theorem speaks19 (c : Nat → Nat) (j : Nat) {w : World} {R : Value → World → Prop} (hG : GlobS (wv w)) (h : ∀ c' w', Step c [] [j] w c' w' → R (.bool true) w') : CallV Tryd.prog 14 #[] w R := by
  refine law19_speaks_vc ?_
  unfold law19_speaks_VC
  refine wire_Write_c (m := m7) (v := nilV) (va := nilV) (ua := nilV) (vh := nilV) (vb := nilV) c j ⟨RdS.none_bytes .., ⟨RdS.none_bytes .., RdS.none_strs ..⟩, LsV.nil .., LsV.nil ..⟩ m7_ok hG fun v1 c1 w1 st1 r1 => T2.mk ?_
  obtain ⟨o1, p1, rfl⟩ := r1.form
  rw [wrM_yes m7_right]
  refine TSl.mk (TInt.mk (BS.yes rfl ?_))
  have : ((((m7.enc, (0 : Int)).1.length : Nat) : Int) == 91) = true := by show (((m7.enc.length : Nat) : Int) == 91) = true; rw [m7_len]; rfl
  rw [this]
  exact h _ _ st1

theorem names (w : World) (hG : GlobS (wv w)) : CallV Tryd.prog 3 #[] w fun r w' => r = .bool true ∧ Below w.heap.size w w' := by
  refine law19_WireNames_vc ?_
  unfold law19_WireNames_VC
  have S := Fr.start w
  refine speaks19 (fun _ => 0) 9 hG fun c1 w1 st1 => TBool.mk (BS.no rfl ?_)
  replace S := S.go st1 (by decide) (by decide)
  exact ⟨rfl, fin S⟩

theorem writes (m : MsgR) (v va ua vh vb : Value) (w : World) (hm : MsgV (wv w) m v va ua vh vb) (hok : m.ok) (hG : GlobS (wv w)) :
    CallV Tryd.prog 7 #[.agg (m.cells v va ua vh vb).toArray] w fun r w' => r = .bool true ∧ Below w.heap.size w w' := by
  have M : MsgV (view (fun _ => 0) 0 w) m v va ua vh vb := by rw [view0]; exact hm
  have G : GlobS (view (fun _ => 0) 0 w) := by rw [view0]; exact hG
  have S := Fr.start w
  refine law19_WireWrites_vc ?_
  unfold law19_WireWrites_VC
  refine AllocC.col (fun _ => 0) 1 fun a1 c1 w1 st1 b1 _ => ?_
  replace S := S.go st1.step (by decide) (by decide); replace M := M.mono (st1.step.sub (by decide)); replace G := G.mono (st1.step.sub (by decide))
  refine speaks19 c1 9 (G.mono (view_sub _ _ _)) fun c2 w2 st2 => TBool.mk (BS.no rfl ?_)
  replace S := S.go st2 (by decide) (by decide); replace M := M.mono (st2.sub (by decide)); replace G := G.mono (st2.sub (by decide)); replace b1 := st2.sub (by decide) _ _ b1
  refine LoadA.all (view_sub _ _ _) b1 (msg_sz hok) ?_
  refine Great19_c c2 9 (M.mono (view_sub _ _ _)) hok fun b c3 w3 st3 hb => TBool.mk ?_
  replace S := S.go st3 (by decide) (by decide); replace M := M.mono (st3.sub (by decide)); replace G := G.mono (st3.sub (by decide)); replace b1 := st3.sub (by decide) _ _ b1
  refine BS.mk (fun _ => ⟨rfl, fin S⟩) (fun hf => ?_)
  have hmild := hb hf
  refine LoadA.all (view_sub _ _ _) b1 (msg_sz hok) ?_
  refine wire_Write_c c3 2 (M.mono (view_sub _ _ _)) hok (G.mono (view_sub _ _ _)) fun v4 c4 w4 st4 r4 => T2.mk ?_
  replace S := S.go st4 (by decide) (by decide); replace M := M.mono (st4.sub (by decide)); replace G := G.mono (st4.sub (by decide)); replace b1 := st4.sub (by decide) _ _ b1
  obtain ⟨o4, p4, rfl⟩ := r4.form
  refine TSl.mk (TInt.mk ?_)
  refine LoadA.all (view_sub _ _ _) b1 (msg_sz hok) ?_
  refine Write19_c c4 3 (M.mono (view_sub _ _ _)) hok hmild.fair fun v5 c5 w5 st5 r5 => T2.mk ?_
  replace S := S.go st5 (by decide) (by decide); replace M := M.mono (st5.sub (by decide)); replace G := G.mono (st5.sub (by decide)); replace b1 := st5.sub (by decide) _ _ b1; replace r4 := r4.mono (st5.sub (by decide))
  obtain ⟨o5, p5, rfl⟩ := r5.form
  refine TSl.mk (TInt.mk (BS.no (bne_same _) ?_))
  refine string_rule strU8 (r4.rd.mono (view_sub _ _ _)) (TStr.mk (string_rule strU8 (r5.rd.mono (view_sub _ _ _)) (TStr.mk ?_)))
  rw [strEq_of, decide_eq_true rfl]
  refine BS.no rfl ?_
  refine LoadA.all (view_sub _ _ _) b1 (msg_sz hok) ?_
  refine Check_c c5 9 (M.mono (view_sub _ _ _)) hok (G.mono (view_sub _ _ _)) fun c6 w6 st6 => TInt.mk ?_
  replace S := S.go st6 (by decide) (by decide); replace M := M.mono (st6.sub (by decide)); replace G := G.mono (st6.sub (by decide)); replace b1 := st6.sub (by decide) _ _ b1; replace r4 := r4.mono (st6.sub (by decide))
  unfold law19_WireWrites_K1
  refine BS.no (bne_same _) ?_
  rcases wrM_cases m with ⟨hr, e⟩ | ⟨hr, e⟩
  · rw [e]
    exact BS.ne (fun _ => ⟨rfl, fin S⟩) (fun e => by simp at e)
  · rw [e] at r4 ⊢
    have hle := enc_le hr hok
    refine BS.ne (fun h => absurd rfl h) (fun _ => ?_)
    refine wire_Read_c c6 4 (l := m.enc) (r4.rd.mono (view_sub _ _ _)) (by omega) (G.mono (view_sub _ _ _)) fun x xa ya xh xb c7 w7 st7 N => T2.mk ?_
    rw [rdM_enc hr hok] at N ⊢
    replace S := S.go st7 (by decide) (by decide); replace M := M.mono (st7.sub (by decide)); replace G := G.mono (st7.sub (by decide)); replace b1 := st7.sub (by decide) _ _ b1
    refine TAgg.mk (TInt.mk ?_)
    refine AllocC.col c7 5 fun a8 c8 w8 st8 b8 _ => ?_
    replace S := S.go st8.step (by decide) (by decide); replace M := M.mono (st8.step.sub (by decide)); replace G := G.mono (st8.step.sub (by decide)); replace b1 := st8.step.sub (by decide) _ _ b1; replace N := N.mono (st8.step.sub (by decide))
    refine RunU.msg b8 rfl N hok fun w9 st9 b8 => ?_
    replace S := S.go st9.step (by decide) (by decide); replace M := M.mono (st9.step.sub (by decide)); replace G := G.mono (st9.step.sub (by decide)); replace b1 := st9.step.sub (by decide) _ _ b1; replace N := N.mono (st9.step.sub (by decide))
    refine BS.yes rfl ?_
    refine LoadA.all (view_sub _ _ _) b8 (msg_sz hok) (LoadA.all (view_sub _ _ _) b1 (msg_sz hok) ?_)
    refine Same19_c c8 9 (N.mono (view_sub _ _ _)) (M.mono (view_sub _ _ _)) hok hok hmild.fair fun b c10 w10 st10 hb => TBool.mk ?_
    replace S := S.go st10 (by decide) (by decide)
    rw [hb.2 rfl]
    exact ⟨rfl, fin S⟩

theorem reads (u : Value) (l : List UInt8) (w : World) (hr : RdS (wv w) u 1 l.length (bvs l)) (hG : GlobS (wv w)) :
    CallV Tryd.prog 5 #[u] w fun r w' => r = .bool true ∧ Below w.heap.size w w' := by
  obtain ⟨o0, p0, rfl⟩ := hr.form
  have D : RdS (view (fun _ => 0) 0 w) (.slice o0 l.length p0) 1 l.length (bvs l) := by rw [view0]; exact hr
  have G : GlobS (view (fun _ => 0) 0 w) := by rw [view0]; exact hG
  have S := Fr.start w
  refine law19_WireReads_vc ?_
  unfold law19_WireReads_VC
  refine speaks19 (fun _ => 0) 9 (G.mono (view_sub _ _ _)) fun c1 w1 st1 => TBool.mk (BS.no rfl ?_)
  replace S := S.go st1 (by decide) (by decide); replace D := D.mono (st1.sub (by decide)); replace G := G.mono (st1.sub (by decide))
  refine BS.dec (fun _ => ⟨rfl, fin S⟩) (fun hlen => ?_)
  have hl : l.length ≤ 40000 := by omega
  refine AllocC.col c1 1 fun a2 c2 w2 st2 b2 _ => ?_
  replace S := S.go st2.step (by decide) (by decide); replace D := D.mono (st2.step.sub (by decide)); replace G := G.mono (st2.step.sub (by decide))
  refine app_bytes slU8 (OwS.some_bytes b2) (D.mono (view_sub _ _ _)) (by simp; omega) fun o3 p3 c3 w3 st3 r3 => TSl.mk ?_
  replace S := S.go st3.step (by decide) (by decide); replace D := D.mono (st3.step.sub (by decide)); replace G := G.mono (st3.step.sub (by decide))
  rw [List.nil_append] at r3 ⊢
  refine wire_Read_c c3 2 (r3.rd.mono (view_sub _ _ _)) (by omega) (G.mono (view_sub _ _ _)) fun x xa ya xh xb c4 w4 st4 M => T2.mk ?_
  replace S := S.go st4 (by decide) (by decide); replace D := D.mono (st4.sub (by decide)); replace G := G.mono (st4.sub (by decide)); replace r3 := r3.mono (st4.sub (by decide))
  obtain ⟨hok, hfair⟩ := rdM_ok l
  refine TAgg.mk (TInt.mk ?_)
  refine AllocC.col c4 3 fun a5 c5 w5 st5 b5 _ => ?_
  replace S := S.go st5.step (by decide) (by decide); replace D := D.mono (st5.step.sub (by decide)); replace G := G.mono (st5.step.sub (by decide)); replace r3 := r3.mono (st5.step.sub (by decide)); replace M := M.mono (st5.step.sub (by decide))
  refine RunU.msg b5 rfl M hok fun w6 st6 b5 => ?_
  replace S := S.go st6.step (by decide) (by decide); replace D := D.mono (st6.step.sub (by decide)); replace G := G.mono (st6.step.sub (by decide)); replace r3 := r3.mono (st6.step.sub (by decide)); replace M := M.mono (st6.step.sub (by decide))
  refine Read19_c c5 4 (D.mono (view_sub _ _ _)) (by omega) fun y ya za yh yb c7 w7 st7 N => T2.mk ?_
  replace S := S.go st7 (by decide) (by decide); replace D := D.mono (st7.sub (by decide)); replace G := G.mono (st7.sub (by decide)); replace r3 := r3.mono (st7.sub (by decide)); replace M := M.mono (st7.sub (by decide)); replace b5 := st7.sub (by decide) _ _ b5
  refine TAgg.mk (TInt.mk ?_)
  refine AllocC.col c7 5 fun a8 c8 w8 st8 b8 _ => ?_
  replace S := S.go st8.step (by decide) (by decide); replace D := D.mono (st8.step.sub (by decide)); replace G := G.mono (st8.step.sub (by decide)); replace r3 := r3.mono (st8.step.sub (by decide)); replace M := M.mono (st8.step.sub (by decide)); replace N := N.mono (st8.step.sub (by decide)); replace b5 := st8.step.sub (by decide) _ _ b5
  refine RunU.msg b8 rfl N hok fun w9 st9 b8 => ?_
  replace S := S.go st9.step (by decide) (by decide); replace D := D.mono (st9.step.sub (by decide)); replace G := G.mono (st9.step.sub (by decide)); replace r3 := r3.mono (st9.step.sub (by decide)); replace M := M.mono (st9.step.sub (by decide)); replace N := N.mono (st9.step.sub (by decide)); replace b5 := st9.step.sub (by decide) _ _ b5
  refine BS.no (bne_same _) ?_
  refine LoadA.all (view_sub _ _ _) b5 (msg_sz hok) (LoadA.all (view_sub _ _ _) b8 (msg_sz hok) ?_)
  refine Same19_c c8 9 (M.mono (view_sub _ _ _)) (N.mono (view_sub _ _ _)) hok hok hfair fun b c10 w10 st10 hb => TBool.mk ?_
  replace S := S.go st10 (by decide) (by decide); replace D := D.mono (st10.sub (by decide)); replace G := G.mono (st10.sub (by decide)); replace r3 := r3.mono (st10.sub (by decide)); replace M := M.mono (st10.sub (by decide)); replace b5 := st10.sub (by decide) _ _ b5
  rw [hb.2 rfl]
  refine BS.no rfl ?_
  refine string_rule strU8 (r3.rd.mono (view_sub _ _ _)) (TStr.mk (string_rule strU8 (D.mono (view_sub _ _ _)) (TStr.mk ?_)))
  rw [strEq_of, decide_eq_true rfl]
  unfold law19_WireReads_K1
  refine BS.no rfl ?_
  rcases rdM_cases l with e | ⟨e0, hr, _, henc⟩
  · rw [e]
    exact BS.ne (fun _ => ⟨rfl, fin S⟩) (fun e => by simp at e)
  · rw [e0]
    refine BS.ne (fun h => absurd rfl h) (fun _ => ?_)
    refine LoadA.all (view_sub _ _ _) b5 (msg_sz hok) ?_
    refine wire_Write_c c10 6 (M.mono (view_sub _ _ _)) hok (G.mono (view_sub _ _ _)) fun v11 c11 w11 st11 r11 => T2.mk ?_
    replace S := S.go st11 (by decide) (by decide); replace D := D.mono (st11.sub (by decide))
    rw [wrM_yes hr, henc] at r11
    rw [wrM_yes hr]
    obtain ⟨o11, p11, rfl⟩ := r11.form
    refine TSl.mk (TInt.mk (BS.yes rfl ?_))
    refine string_rule strU8 (r11.rd.mono (view_sub _ _ _)) (TStr.mk (string_rule strU8 (D.mono (view_sub _ _ _)) (TStr.mk ?_)))
    rw [strEq_of, decide_eq_true rfl]
    exact ⟨rfl, fin S⟩

set_option maxHeartbeats 1000000 in
theorem heads (m n : MsgR) (v va ua vh vb v' va' ua' vh' vb' : Value) (w : World) (hm : MsgV (wv w) m v va ua vh vb) (hn : MsgV (wv w) n v' va' ua' vh' vb') (hok : m.ok) (hok' : n.ok) (hG : GlobS (wv w)) :
    CallV Tryd.prog 4 #[.agg (m.cells v va ua vh vb).toArray, .agg (n.cells v' va' ua' vh' vb').toArray] w fun r w' => r = .bool true ∧ Below w.heap.size w w' := by
  have M : MsgV (view (fun _ => 0) 0 w) m v va ua vh vb := by rw [view0]; exact hm
  have N : MsgV (view (fun _ => 0) 0 w) n v' va' ua' vh' vb' := by rw [view0]; exact hn
  have G : GlobS (view (fun _ => 0) 0 w) := by rw [view0]; exact hG
  have S := Fr.start w
  refine law19_WireHeads_vc ?_
  unfold law19_WireHeads_VC
  refine AllocC.col (fun _ => 0) 1 fun a1 c1 w1 st1 b1 _ => ?_
  replace S := S.go st1.step (by decide) (by decide); replace M := M.mono (st1.step.sub (by decide)); replace N := N.mono (st1.step.sub (by decide)); replace G := G.mono (st1.step.sub (by decide))
  refine AllocC.col c1 2 fun a2 c2 w2 st2 b2 _ => ?_
  replace S := S.go st2.step (by decide) (by decide); replace M := M.mono (st2.step.sub (by decide)); replace N := N.mono (st2.step.sub (by decide)); replace G := G.mono (st2.step.sub (by decide)); replace b1 := st2.step.sub (by decide) _ _ b1
  refine speaks19 c2 9 (G.mono (view_sub _ _ _)) fun c3 w3 st3 => TBool.mk (BS.no rfl ?_)
  replace S := S.go st3 (by decide) (by decide); replace M := M.mono (st3.sub (by decide)); replace N := N.mono (st3.sub (by decide)); replace G := G.mono (st3.sub (by decide)); replace b1 := st3.sub (by decide) _ _ b1; replace b2 := st3.sub (by decide) _ _ b2
  refine LoadA.all (view_sub _ _ _) b1 (msg_sz hok) ?_
  refine Great19_c c3 9 (M.mono (view_sub _ _ _)) hok fun b c4 w4 st4 hb => TBool.mk ?_
  replace S := S.go st4 (by decide) (by decide); replace M := M.mono (st4.sub (by decide)); replace N := N.mono (st4.sub (by decide)); replace G := G.mono (st4.sub (by decide)); replace b1 := st4.sub (by decide) _ _ b1; replace b2 := st4.sub (by decide) _ _ b2
  refine BS.mk (fun _ => ⟨rfl, fin S⟩) (fun hf => ?_)
  have hmild := hb hf
  refine LoadA.all (view_sub _ _ _) b2 (msg_sz hok') ?_
  refine Great19_c c4 9 (N.mono (view_sub _ _ _)) hok' fun b c5 w5 st5 hb => TBool.mk ?_
  replace S := S.go st5 (by decide) (by decide); replace M := M.mono (st5.sub (by decide)); replace N := N.mono (st5.sub (by decide)); replace G := G.mono (st5.sub (by decide)); replace b1 := st5.sub (by decide) _ _ b1; replace b2 := st5.sub (by decide) _ _ b2
  unfold law19_WireHeads_K1
  refine BS.mk (fun _ => ⟨rfl, fin S⟩) (fun hf => ?_)
  refine LoadA.all (view_sub _ _ _) b1 (msg_sz hok) ?_
  refine wire_Write_c c5 3 (M.mono (view_sub _ _ _)) hok (G.mono (view_sub _ _ _)) fun v6 c6 w6 st6 r6 => T2.mk ?_
  replace S := S.go st6 (by decide) (by decide); replace M := M.mono (st6.sub (by decide)); replace N := N.mono (st6.sub (by decide)); replace G := G.mono (st6.sub (by decide)); replace b1 := st6.sub (by decide) _ _ b1; replace b2 := st6.sub (by decide) _ _ b2
  obtain ⟨o6, p6, rfl⟩ := r6.form
  refine TSl.mk (TInt.mk ?_)
  refine LoadA.all (view_sub _ _ _) b2 (msg_sz hok') ?_
  refine wire_Write_c c6 4 (N.mono (view_sub _ _ _)) hok' (G.mono (view_sub _ _ _)) fun v7 c7 w7 st7 r7 => T2.mk ?_
  replace S := S.go st7 (by decide) (by decide); replace M := M.mono (st7.sub (by decide)); replace N := N.mono (st7.sub (by decide)); replace G := G.mono (st7.sub (by decide)); replace b1 := st7.sub (by decide) _ _ b1; replace b2 := st7.sub (by decide) _ _ b2; replace r6 := r6.mono (st7.sub (by decide))
  obtain ⟨o7, p7, rfl⟩ := r7.form
  refine TSl.mk (TInt.mk ?_)
  rcases wrM_cases m with ⟨hr, e⟩ | ⟨hr, e⟩
  · rw [e]
    exact BS.ne (fun _ => ⟨rfl, fin S⟩) (fun e => by simp at e)
  rw [e] at r6 ⊢
  refine BS.ne (fun h => absurd rfl h) (fun _ => ?_)
  unfold law19_WireHeads_K2
  rcases wrM_cases n with ⟨hr', e'⟩ | ⟨hr', e'⟩
  · rw [e']
    exact BS.ne (fun _ => ⟨rfl, fin S⟩) (fun e => by simp at e)
  rw [e'] at r7 ⊢
  refine BS.ne (fun h => absurd rfl h) (fun _ => ?_)
  have h83 := body_len m hok
  have htb := (take_body (m := m)).1
  refine DrewC.col c7 fun w8 st8 => ?_
  replace S := S.go st8 (by decide) (by decide); replace M := M.mono (st8.sub (by decide)); replace N := N.mono (st8.sub (by decide)); replace b1 := st8.sub (by decide) _ _ b1; replace b2 := st8.sub (by decide) _ _ b2; replace r6 := r6.mono (st8.sub (by decide)); replace r7 := r7.mono (st8.sub (by decide))
  refine BS.dec (fun _ => ?_) (fun h => absurd (show ((m.enc.length : Nat) : Int) ≥ 91 by omega) h)
  have D := r6.rd
  have hget : ∀ k x, (MsgR.bytes1 m)[k]? = some x → (bvs m.enc)[k]? = some (bv x) := fun k x hx => by
    have e : m.enc = MsgR.bytes1 m ++ (m.enc.drop 4) := by
      have : m.enc.take 4 = MsgR.bytes1 m := by
        show (m.body ++ _).take 4 = _
        unfold MsgR.body MsgR.bytes1
        simp
      rw [← this, List.take_append_drop]
    rw [bvs_get, e, List.getElem?_append_left (lt_of_get hx), hx]; rfl
  have g0 : (bvs m.enc)[0]? = some (bv 3) := hget 0 3 rfl
  have g1 : (bvs m.enc)[1]? = some (bv (byteAt m.kind.toNat 0)) := hget 1 _ rfl
  have g2 : (bvs m.enc)[2]? = some (bv (byteAt m.fr.toNat 0)) := hget 2 _ rfl
  have g3 : (bvs m.enc)[3]? = some (bv (byteAt m.to.toNat 0)) := hget 3 _ rfl
  obtain ⟨q1, q2, q3, q4, q5, q6, _⟩ := id hr
  have by1 : ∀ n : Int, 0 ≤ n → n ≤ 255 → IntKind.wrap .i64 (((byteAt n.toNat 0).toNat : Nat) : Int) = n := fun n h0 h1 => by
    rw [byteAt_toNat, wrap_i64 (by omega) (by omega)]; omega
  refine Req.bnd ⟨by omega, by omega⟩ (D.eltc (k := 0) (view_sub _ _ _) g0 (TInt.mk ?_))
  refine BS.yes rfl ?_
  refine Req.bnd ⟨by omega, by omega⟩ (D.eltc (k := 1) (view_sub _ _ _) g1 (TInt.mk ?_))
  refine LoadC.ad (view_sub _ _ _) _ b1 rfl (TInt.mk ?_)
  rw [by1 _ (by omega) (by omega)]
  refine BS.yes (by simp) ?_
  refine Req.bnd ⟨by omega, by omega⟩ (D.eltc (k := 2) (view_sub _ _ _) g2 (TInt.mk ?_))
  refine LoadC.ad (view_sub _ _ _) _ b1 rfl (TInt.mk ?_)
  rw [by1 _ (by omega) (by omega)]
  refine BS.yes (by simp) ?_
  refine Req.bnd ⟨by omega, by omega⟩ (D.eltc (k := 3) (view_sub _ _ _) g3 (TInt.mk ?_))
  refine LoadC.ad (view_sub _ _ _) _ b1 rfl (TInt.mk ?_)
  rw [by1 _ (by omega) (by omega)]
  refine BS.yes (by simp) ?_
  refine string_rule strU8 (r6.rd.mono (view_sub _ _ _)) (TStr.mk (string_rule strU8 (r7.rd.mono (view_sub _ _ _)) (TStr.mk ?_)))
  refine LoadA.all (view_sub _ _ _) b1 (msg_sz hok) (LoadA.all (view_sub _ _ _) b2 (msg_sz hok') ?_)
  refine Same19_c c7 9 (M.mono (view_sub _ _ _)) (N.mono (view_sub _ _ _)) hok hok' hmild.fair fun b c9 w9 st9 hb => TBool.mk ?_
  replace S := S.go st9 (by decide) (by decide); replace r6 := r6.mono (st9.sub (by decide)); replace r7 := r7.mono (st9.sub (by decide))
  have hdec : strEq (strOf m.enc) (strOf n.enc) = b := by
    rw [strEq_of]
    by_cases hmn : m = n
    · subst hmn
      rw [hb.2 rfl]; simp
    · have h1 : ¬ m.enc = n.enc := fun e => hmn (enc_inj hr hok hr' hok' e)
      have h2 : b = false := by
        cases hbb : b
        · rfl
        · exact absurd (hb.1 hbb) hmn
      rw [h2]; exact decide_eq_false h1
  refine ⟨StableV.string strU8 (r6.rd.mono (view_sub _ _ _)), StableV.string strU8 (r7.rd.mono (view_sub _ _ _)), ?_, fin S⟩
  show Value.bool (strEq (strOf m.enc) (strOf n.enc) == b) = Value.bool true
  rw [hdec]; simp

set_option maxHeartbeats 1000000 in
theorem cuts (m : MsgR) (v va ua vh vb : Value) (k : Int) (w : World) (hm : MsgV (wv w) m v va ua vh vb) (hok : m.ok) (hG : GlobS (wv w)) :
    CallV Tryd.prog 6 #[.agg (m.cells v va ua vh vb).toArray, .int .i64 k] w fun r w' => r = .bool true ∧ Below w.heap.size w w' := by
  have M : MsgV (view (fun _ => 0) 0 w) m v va ua vh vb := by rw [view0]; exact hm
  have G : GlobS (view (fun _ => 0) 0 w) := by rw [view0]; exact hG
  have S := Fr.start w
  refine law19_WireCuts_vc ?_
  unfold law19_WireCuts_VC
  refine AllocC.col (fun _ => 0) 1 fun a1 c1 w1 st1 b1 _ => ?_
  replace S := S.go st1.step (by decide) (by decide); replace M := M.mono (st1.step.sub (by decide)); replace G := G.mono (st1.step.sub (by decide))
  refine speaks19 c1 9 (G.mono (view_sub _ _ _)) fun c2 w2 st2 => TBool.mk (BS.no rfl ?_)
  replace S := S.go st2 (by decide) (by decide); replace M := M.mono (st2.sub (by decide)); replace G := G.mono (st2.sub (by decide)); replace b1 := st2.sub (by decide) _ _ b1
  refine LoadA.all (view_sub _ _ _) b1 (msg_sz hok) ?_
  refine Great19_c c2 9 (M.mono (view_sub _ _ _)) hok fun b c3 w3 st3 hb => TBool.mk ?_
  replace S := S.go st3 (by decide) (by decide); replace M := M.mono (st3.sub (by decide)); replace G := G.mono (st3.sub (by decide)); replace b1 := st3.sub (by decide) _ _ b1
  refine BS.mk (fun _ => ⟨rfl, fin S⟩) (fun hf => ?_)
  have hmild := hb hf
  refine LoadA.all (view_sub _ _ _) b1 (msg_sz hok) ?_
  refine wire_Write_c c3 2 (M.mono (view_sub _ _ _)) hok (G.mono (view_sub _ _ _)) fun v4 c4 w4 st4 r4 => T2.mk ?_
  replace S := S.go st4 (by decide) (by decide); replace M := M.mono (st4.sub (by decide)); replace G := G.mono (st4.sub (by decide)); replace b1 := st4.sub (by decide) _ _ b1
  obtain ⟨o4, p4, rfl⟩ := r4.form
  refine TSl.mk (TInt.mk ?_)
  rcases wrM_cases m with ⟨hr, e⟩ | ⟨hr, e⟩
  · rw [e]
    exact BS.ne (fun _ => ⟨rfl, fin S⟩) (fun e => by simp at e)
  rw [e] at r4 ⊢
  refine BS.ne (fun h => absurd rfl h) (fun _ => ?_)
  have h83 := body_len m hok
  have htb := (take_body (m := m)).1
  have hle := enc_le hr hok
  have r4 : OwS (view c4 2 w4) (.slice o4 m.enc.length p4) 5 1 m.enc.length (bvs m.enc) := r4
  show Req (!decide (((m.enc.length : Nat) : Int) = 0)) _
  refine Req.ne (by omega) ?_
  obtain ⟨q, hq, hq2⟩ := and_mask k 65535 (by omega)
  have hn : Int.tmod (bitsV .and .i64 k (65535 : Int)) ((m.enc.length : Nat) : Int) = ((q % m.enc.length : Nat) : Int) := by
    rw [show (65535 : Int) = ((65535 : Nat) : Int) from rfl, hq, Int.tmod_eq_emod_of_nonneg (by omega)]; rfl
  have hlt : q % m.enc.length < m.enc.length := Nat.mod_lt _ (by omega)
  generalize q % m.enc.length = n at hn hlt
  show Req (bndle (Int.tmod (bitsV .and .i64 k (65535 : Int)) ((m.enc.length : Nat) : Int)) p4) _
  rw [hn]
  have hcap := r4.rd.len.2.1
  refine Req.bndle ⟨by omega, by omega⟩ ?_
  rw [Int.toNat_natCast]
  have rt := r4.rd.take (k := n) (by omega)
  rw [Nat.mul_one, ← bvs_take] at rt
  have hnl : (m.enc.take n).length = n := by rw [List.length_take]; omega
  refine wire_Read_c c4 3 (l := m.enc.take n) (by rw [hnl]; exact rt.mono (view_sub _ _ _)) (by omega) (G.mono (view_sub _ _ _)) fun x xa ya xh xb c5 w5 st5 X => T2.mk ?_
  replace S := S.go st5 (by decide) (by decide); replace M := M.mono (st5.sub (by decide)); replace G := G.mono (st5.sub (by decide)); replace b1 := st5.sub (by decide) _ _ b1; replace r4 := r4.mono (st5.sub (by decide))
  obtain ⟨xok, xfair⟩ := rdM_ok (m.enc.take n)
  refine TAgg.mk (TInt.mk ?_)
  refine AllocC.col c5 4 fun a6 c6 w6 st6 b6 _ => ?_
  replace S := S.go st6.step (by decide) (by decide); replace M := M.mono (st6.step.sub (by decide)); replace G := G.mono (st6.step.sub (by decide)); replace b1 := st6.step.sub (by decide) _ _ b1; replace r4 := r4.mono (st6.step.sub (by decide)); replace X := X.mono (st6.step.sub (by decide))
  refine RunU.msg b6 rfl X xok fun w7 st7 b6 => ?_
  replace S := S.go st7.step (by decide) (by decide); replace M := M.mono (st7.step.sub (by decide)); replace G := G.mono (st7.step.sub (by decide)); replace b1 := st7.step.sub (by decide) _ _ b1; replace r4 := r4.mono (st7.step.sub (by decide)); replace X := X.mono (st7.step.sub (by decide))
  refine AllocC.col c6 5 fun a8 c8 w8 st8 b8 _ => ?_
  replace S := S.go st8.step (by decide) (by decide); replace M := M.mono (st8.step.sub (by decide)); replace G := G.mono (st8.step.sub (by decide)); replace b1 := st8.step.sub (by decide) _ _ b1; replace r4 := r4.mono (st8.step.sub (by decide)); replace X := X.mono (st8.step.sub (by decide)); replace b6 := st8.step.sub (by decide) _ _ b6
  refine app_bytes slU8 (OwS.some_bytes b8) (r4.rd.mono (view_sub _ _ _)) (by simp; omega) fun o9 p9 c9 w9 st9 r9 => TSl.mk ?_
  replace S := S.go st9.step (by decide) (by decide); replace M := M.mono (st9.step.sub (by decide)); replace G := G.mono (st9.step.sub (by decide)); replace b1 := st9.step.sub (by decide) _ _ b1; replace X := X.mono (st9.step.sub (by decide)); replace b6 := st9.step.sub (by decide) _ _ b6
  rw [List.nil_append] at r9 ⊢
  obtain ⟨z, hz⟩ := wrap_u8_some k
  rw [hz]
  refine AllocC.col c9 9 fun a10 c10 w10 st10 b10 _ => ?_
  replace S := S.go st10.step (by decide) (by decide); replace M := M.mono (st10.step.sub (by decide)); replace G := G.mono (st10.step.sub (by decide)); replace b1 := st10.step.sub (by decide) _ _ b1; replace X := X.mono (st10.step.sub (by decide)); replace b6 := st10.step.sub (by decide) _ _ b6; replace r9 := r9.mono (st10.step.sub (by decide))
  refine app_bytes slU8 r9 (m := [z]) ((RdS.block (xs := bvs [z]) b10 rfl (Nat.le_refl _)).mono (view_sub _ _ _)) (by simp; omega) fun o11 p11 c11 w11 st11 r11 => TSl.mk ?_
  replace S := S.go st11.step (by decide) (by decide); replace M := M.mono (st11.step.sub (by decide)); replace G := G.mono (st11.step.sub (by decide)); replace b1 := st11.step.sub (by decide) _ _ b1; replace X := X.mono (st11.step.sub (by decide)); replace b6 := st11.step.sub (by decide) _ _ b6
  refine wire_Read_c c11 6 (l := m.enc ++ [z]) (r11.rd.mono (view_sub _ _ _)) (by simp; omega) (G.mono (view_sub _ _ _)) fun y ya za yh yb c12 w12 st12 Y => T2.mk ?_
  replace S := S.go st12 (by decide) (by decide); replace M := M.mono (st12.sub (by decide)); replace b1 := st12.sub (by decide) _ _ b1; replace X := X.mono (st12.sub (by decide)); replace b6 := st12.sub (by decide) _ _ b6
  obtain ⟨yok, yfair⟩ := rdM_ok (m.enc ++ [z])
  refine TAgg.mk (TInt.mk ?_)
  refine AllocC.col c12 7 fun a13 c13 w13 st13 b13 _ => ?_
  replace S := S.go st13.step (by decide) (by decide); replace M := M.mono (st13.step.sub (by decide)); replace b1 := st13.step.sub (by decide) _ _ b1; replace X := X.mono (st13.step.sub (by decide)); replace b6 := st13.step.sub (by decide) _ _ b6; replace Y := Y.mono (st13.step.sub (by decide))
  refine RunU.msg b13 rfl Y yok fun w14 st14 b13 => ?_
  replace S := S.go st14.step (by decide) (by decide); replace M := M.mono (st14.step.sub (by decide)); replace b1 := st14.step.sub (by decide) _ _ b1; replace X := X.mono (st14.step.sub (by decide)); replace b6 := st14.step.sub (by decide) _ _ b6; replace Y := Y.mono (st14.step.sub (by decide))
  have hzero : MsgR.zero ≠ m := fun e => by rw [← e] at hr; exact absurd hr.1 (by decide)
  have hx : (rdM (m.enc.take n)).1 ≠ m := by
    rcases rdM_cases (m.enc.take n) with h | ⟨_, _, _, h⟩
    · rw [h]; exact hzero
    · intro e; rw [e] at h
      have := congrArg List.length h; omega
  have hy : (rdM (m.enc ++ [z])).1 ≠ m := by
    rcases rdM_cases (m.enc ++ [z]) with h | ⟨_, _, _, h⟩
    · rw [h]; exact hzero
    · intro e; rw [e] at h
      have := congrArg List.length h; simp at this
  have k1 : ∀ b : Bool, (b = false → rdM (m.enc.take n) = (MsgR.zero, 22) ∧ rdM (m.enc ++ [z]) = (MsgR.zero, 22)) → law19_WireCuts_K1 (⟨a1, 0, none⟩ : Addr) (⟨a6, 0, none⟩ : Addr) (rdM (m.enc.take n)).2 (⟨a13, 0, none⟩ : Addr) (rdM (m.enc ++ [z])).2 b w14 fun r w' => r = .bool true ∧ Below w.heap.size w w' := by
    intro b hb
    unfold law19_WireCuts_K1
    refine BS.mk (fun _ => ?_) (fun hf => ?_)
    · refine LoadA.all (view_sub _ _ _) b6 (msg_sz xok) (LoadA.all (view_sub _ _ _) b1 (msg_sz hok) ?_)
      refine Same19_c c13 9 (X.mono (view_sub _ _ _)) (M.mono (view_sub _ _ _)) xok hok xfair fun b c15 w15 st15 hb => TBool.mk ?_
      replace S := S.go st15 (by decide) (by decide); replace M := M.mono (st15.sub (by decide)); replace b1 := st15.sub (by decide) _ _ b1; replace Y := Y.mono (st15.sub (by decide)); replace b13 := st15.sub (by decide) _ _ b13
      refine BS.nb (fun _ => ?_) (fun e => absurd (hb.1 e) hx)
      refine LoadA.all (view_sub _ _ _) b13 (msg_sz yok) (LoadA.all (view_sub _ _ _) b1 (msg_sz hok) ?_)
      refine Same19_c c15 9 (Y.mono (view_sub _ _ _)) (M.mono (view_sub _ _ _)) yok hok yfair fun b c16 w16 st16 hb => TBool.mk ?_
      replace S := S.go st16 (by decide) (by decide)
      have : b = false := by
        cases hbb : b
        · rfl
        · exact absurd (hb.1 hbb) hy
      rw [this]; exact ⟨rfl, fin S⟩
    · obtain ⟨h1, h2⟩ := hb hf
      rw [h1] at X xok xfair b6
      rw [h2] at Y yok yfair b13
      rw [h1, h2]
      refine BS.yes rfl (BS.yes rfl ?_)
      refine LoadA.all (view_sub _ _ _) b6 (msg_sz xok) ?_
      refine Same19_c c13 9 (n := MsgR.zero) (v' := nilV) (va' := nilV) (ua' := nilV) (vh' := nilV) (vb' := nilV) (X.mono (view_sub _ _ _)) (MsgV.zero _) xok zero_ok xfair fun b c15 w15 st15 hb => TBool.mk ?_
      replace S := S.go st15 (by decide) (by decide); replace Y := Y.mono (st15.sub (by decide)); replace b13 := st15.sub (by decide) _ _ b13
      refine BS.mk (fun _ => ?_) (fun e => by rw [hb.2 rfl] at e; simp at e)
      refine LoadA.all (view_sub _ _ _) b13 (msg_sz yok) ?_
      refine Same19_c c15 9 (n := MsgR.zero) (v' := nilV) (va' := nilV) (ua' := nilV) (vh' := nilV) (vb' := nilV) (Y.mono (view_sub _ _ _)) (MsgV.zero _) yok zero_ok yfair fun b c16 w16 st16 hb => TBool.mk ?_
      replace S := S.go st16 (by decide) (by decide)
      rw [hb.2 rfl]; exact ⟨rfl, fin S⟩
  refine BS.eq (fun _ => k1 true (fun e => by simp at e)) (fun hx0 => ?_)
  by_cases hy0 : (rdM (m.enc ++ [z])).2 = 0
  · rw [show ((rdM (m.enc ++ [z])).2 == 0) = true by simp [hy0]]
    exact k1 true (fun e => by simp at e)
  · rw [show ((rdM (m.enc ++ [z])).2 == 0) = false by simp [hy0]]
    refine k1 false fun _ => ⟨?_, ?_⟩
    · rcases rdM_cases (m.enc.take n) with h | ⟨h, _⟩
      · exact h
      · exact absurd h hx0
    · rcases rdM_cases (m.enc ++ [z]) with h | ⟨h, _⟩
      · exact h
      · exact absurd h hy0
end Go.Proofs.YtdjgdcafmfheoaaDoor.walkWire

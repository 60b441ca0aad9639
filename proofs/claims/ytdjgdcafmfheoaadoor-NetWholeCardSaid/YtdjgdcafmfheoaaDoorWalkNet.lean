/-
  Chapter 24's laws, walked: the example, what is taken from the front.
-/
import Derived.Test.YtdjgdcafmfheoaaDoorNet2
set_option linter.unusedVariables false
set_option linter.unusedSimpArgs false
namespace Go.Vc
open Go
def mV (k : Int) (v : Nat) : MsgR := ⟨k, 0, 0, v, 0, 0, 0, List.replicate 32 0, 0, 0, OpR.zero, AnsR.zero, [], []⟩
theorem mV_ok {k : Int} {v : Nat} (h : v < 18446744073709551616) : (mV k v).ok := by unfold MsgR.ok mV; simp; exact h
theorem mV_right {k : Int} {v : Nat} (h : 3 ≤ k ∧ k ≤ 8) : (mV k v).right := by
  obtain ⟨h1, h2⟩ := h
  unfold MsgR.right mV
  simp
  exact ⟨by omega, by omega, by omega, by omega⟩
def u64P (_ : View) (n : Nat) (es : List Value) : Prop := es = [u64v n] ∧ n < 18446744073709551616
theorem u64_go {c c' : Nat → Nat} {w w' : World} {W N : List Nat} {v : Value} {l : List Nat} (t : LsV u64P 1 (view c 0 w) v l) (st : Step c W N w c' w') (h0 : 0 ∉ W) : LsV u64P 1 (view c' 0 w') v l :=
  LsV.mono' (P := u64P) (h := view c 0 w) (h' := view c' 0 w') (fun a es hp => hp) t (st.sub h0)
end Go.Vc
namespace Go.Proofs.YtdjgdcafmfheoaaDoor
open Go.Vc
attribute [local irreducible] TInt TBool TStr TPtr TSl TAgg TMap TChan T2 T3 T4 BS Req TSome TCell TByte LoadC LoadA StoreC AllocC RunV RunU CallV ExtV EqA StableC StableA StableV TCells ReadV
attribute [local irreducible] eU eT eE
attribute [local irreducible] DrewC eH many rdM wrM eHb rdOp rdAns
theorem mVV (h : View) (k : Int) (v : Nat) : MsgV h (mV k v) nilV nilV nilV nilV nilV := ⟨RdS.none_bytes .., ⟨RdS.none_bytes .., RdS.none_strs ..⟩, LsV.nil .., LsV.nil ..⟩
theorem inK_lt {j : Nat} {L : List MsgR} : inK (j : Int) L ↔ j < L.length := by unfold inK; omega
theorem peekK_at {j : Nat} {L : List MsgR} {m : MsgR} (h : L[j]? = some m) : peekK (j : Int) L = m := by
  unfold peekK; rw [if_pos (inK_lt.2 (lt_of_get h)), Int.toNat_natCast, h]; rfl
theorem dropK_at {j : Nat} {L : List MsgR} (h : j < L.length) : dropK (j : Int) L = L.eraseIdx j := by
  unfold dropK; rw [if_pos (inK_lt.2 h), Int.toNat_natCast]
theorem sendK_yes {m : MsgR} {L : List MsgR} (h : m.right) (hL : L.length < 4000) : sendK m L = (L ++ [m], 0) := by
  unfold sendK; rw [if_pos h, if_pos hL]
end Go.Proofs.YtdjgdcafmfheoaaDoor
namespace Go.Proofs.YtdjgdcafmfheoaaDoor.walkNet
open Go.Vc Go.ChangeShapes Go.WideShapes Go.ChangeAt Go.RowKit
attribute [local irreducible] TInt TBool TStr TPtr TSl TAgg TMap TChan T2 T3 T4 BS Req TSome TCell TByte LoadC LoadA StoreC AllocC RunV RunU CallV ExtV EqA StableC StableA StableV TCells ReadV
attribute [local irreducible] eU eT eE
attribute [local irreducible] DrewC eH many rdM wrM eHb rdOp rdAns
theorem fin {w : World} {c' w'} (S : Fx w c' w') : Below w.heap.size w w' := Step.below S fun _ => by simp
theorem speaks24 (c0 : Nat → Nat) {w : World} {R : Value → World → Prop} (hG : GlobS (wv w)) (h : ∀ c' w', Step c0 [] [0, 1, 2, 3, 4, 5, 6, 7, 8, 9, 20, 21, 22, 23, 24, 25, 26] w c' w' → R (.bool true) w') : CallV Tryd.prog 22 #[] w R := by
  have G : GlobS (view (fun _ => 0) 0 w) := by rw [view0]; exact hG
  have S := Fx.start w
  have o1 : (mV 4 1).ok := mV_ok (by omega)
  have o2 : (mV 4 2).ok := mV_ok (by omega)
  refine law24_speaks_vc ?_
  unfold law24_speaks_VC
  refine New_n (fun _ => 0) 1 2 3 fun a c1 w1 st1 N => TPtr.mk (BS.no rfl ?_)
  replace S := S.go st1 (by decide) (by decide); replace G := G.mono (st1.sub (by decide))
  refine AllocC.col c1 6 fun a2 c2 w2 st2 b6 _ => ?_
  replace N := N.go st2.fresh (by decide)
  replace S := S.go st2.step (by decide) (by decide); replace G := G.mono (st2.step.sub (by decide))
  refine AllocC.col c2 7 fun a3 c3 w3 st3 b7 _ => ?_
  replace N := N.go st3.fresh (by decide); replace b6 := st3.fresh.sub (by decide) _ _ b6
  replace S := S.go st3.step (by decide) (by decide); replace G := G.mono (st3.step.sub (by decide))
  refine RunU.msg (m := mV 4 1) (v := nilV) (va := nilV) (ua := nilV) (vh := nilV) (vb := nilV) b6 rfl (mVV (wv w3) _ _) o1 fun w4 st4 b6 => ?_
  replace N := N.go st4.step (by decide); replace b7 := st4.step.sub (by decide) _ _ b7
  replace S := S.go st4.step (by decide) (by decide); replace G := G.mono (st4.step.sub (by decide))
  refine RunU.msg (m := mV 4 2) (v := nilV) (va := nilV) (ua := nilV) (vh := nilV) (vb := nilV) b7 rfl (mVV (wv w4) _ _) o2 fun w5 st5 b7 => ?_
  replace N := N.go st5.step (by decide); replace b6 := st5.step.sub (by decide) _ _ b6
  replace S := S.go st5.step (by decide) (by decide); replace G := G.mono (st5.step.sub (by decide))
  refine LoadA.all (view_sub _ _ _) b6 (msg_sz o1) ?_
  refine Send_n 8 (by decide) (by decide) (by decide) N (mVV (wv w5) 4 1) o1 (G.mono (view_sub _ _ _)) fun c6 w6 st6 N => ?_
  replace b7 := st6.sub (by decide) _ _ b7
  replace S := S.go st6 (by decide) (by decide); replace G := G.mono (st6.sub (by decide))
  rw [sendK_yes (mV_right (by omega)) (by simp)] at N ⊢
  refine TInt.mk ?_
  refine LoadA.all (view_sub _ _ _) b7 (msg_sz o2) ?_
  refine Send_n 8 (by decide) (by decide) (by decide) N (mVV (wv w6) 4 2) o2 (G.mono (view_sub _ _ _)) fun c7 w7 st7 N => ?_
  replace S := S.go st7 (by decide) (by decide); replace G := G.mono (st7.sub (by decide))
  rw [sendK_yes (mV_right (by omega)) (by simp)] at N ⊢
  refine TInt.mk ?_
  replace N : NetV c7 1 2 3 w7 a [mV 4 1, mV 4 2] := N
  refine Copy_n 8 (by decide) (by decide) (by decide) N fun c8 w8 st8 N => ?_
  replace S := S.go st8 (by decide) (by decide); replace G := G.mono (st8.sub (by decide))
  have hc : copyK 0 [mV 4 1, mV 4 2] := by unfold copyK inK; simp
  have p0 : peekK 0 [mV 4 1, mV 4 2] = mV 4 1 := peekK_at (j := 0) rfl
  rw [if_pos hc, p0] at N
  rw [decide_eq_true hc]
  refine TBool.mk ?_
  replace N : NetV c8 1 2 3 w8 a [mV 4 1, mV 4 2, mV 4 1] := N
  have ok3 : ∀ m ∈ [mV 4 1, mV 4 2, mV 4 1], m.ok := by
    intro m hm; simp at hm; rcases hm with rfl | rfl | rfl
    · exact o1
    · exact o2
    · exact o1
  refine Take_n 8 9 20 21 22 (by decide) N (by simp) (G.mono (view_sub _ _ _)) ok3 fun x xa ya xh xb c9 w9 st9 N M => ?_
  replace S := S.go st9 (by decide) (by decide); replace G := G.mono (st9.sub (by decide))
  have p1 : peekK 0 [mV 4 1, mV 4 2, mV 4 1] = mV 4 1 := peekK_at (j := 0) rfl
  have q1 : dropK 0 [mV 4 1, mV 4 2, mV 4 1] = [mV 4 2, mV 4 1] := dropK_at (j := 0) (by simp)
  have i1 : decide (inK 0 [mV 4 1, mV 4 2, mV 4 1]) = true := by unfold inK; simp
  rw [q1] at N
  rw [p1] at M ⊢
  rw [i1]
  refine T2.mk (TAgg.mk (TBool.mk ?_))
  refine AllocC.col c9 6 fun a5 c10 w10 st10 b6 _ => ?_
  replace N := N.go st10.fresh (by decide); replace M := M.mono (st10.fresh.sub (by decide))
  replace S := S.go st10.step (by decide) (by decide); replace G := G.mono (st10.step.sub (by decide))
  refine RunU.msg b6 rfl M o1 fun w11 st11 b6 => ?_
  replace N := N.go st11.step (by decide)
  replace S := S.go st11.step (by decide) (by decide); replace G := G.mono (st11.step.sub (by decide))
  refine Peek_n 8 9 20 (by decide) (by decide) (by decide) N (G.mono (view_sub _ _ _)) fun y ya' yb yh yc c12 w12 st12 N M => ?_
  replace b6 := st12.sub (by decide) _ _ b6
  replace S := S.go st12 (by decide) (by decide); replace G := G.mono (st12.sub (by decide))
  have p2 : peekK 0 [mV 4 2, mV 4 1] = mV 4 2 := peekK_at (j := 0) rfl
  rw [p2] at M ⊢
  refine T2.mk (TAgg.mk (TBool.mk ?_))
  refine AllocC.col c12 7 fun a7 c13 w13 st13 b7 _ => ?_
  replace N := N.go st13.fresh (by decide); replace M := M.mono (st13.fresh.sub (by decide)); replace b6 := st13.fresh.sub (by decide) _ _ b6
  replace S := S.go st13.step (by decide) (by decide); replace G := G.mono (st13.step.sub (by decide))
  refine RunU.msg b7 rfl M o2 fun w14 st14 b7 => ?_
  replace N := N.go st14.step (by decide); replace b6 := st14.step.sub (by decide) _ _ b6
  replace S := S.go st14.step (by decide) (by decide); replace G := G.mono (st14.step.sub (by decide))
  refine Peek_n 8 9 20 (by decide) (by decide) (by decide) N (G.mono (view_sub _ _ _)) fun z za zb zh zc c15 w15 st15 N M => ?_
  replace b6 := st15.sub (by decide) _ _ b6; replace b7 := st15.sub (by decide) _ _ b7
  replace S := S.go st15 (by decide) (by decide); replace G := G.mono (st15.sub (by decide))
  have p3 : peekK 1 [mV 4 2, mV 4 1] = mV 4 1 := peekK_at (j := 1) rfl
  rw [p3] at M ⊢
  refine T2.mk (TAgg.mk (TBool.mk ?_))
  refine AllocC.col c15 8 fun a9 c16 w16 st16 b8 _ => ?_
  replace N := N.go st16.fresh (by decide); replace M := M.mono (st16.fresh.sub (by decide)); replace b6 := st16.fresh.sub (by decide) _ _ b6; replace b7 := st16.fresh.sub (by decide) _ _ b7
  replace S := S.go st16.step (by decide) (by decide); replace G := G.mono (st16.step.sub (by decide))
  refine RunU.msg b8 rfl M o1 fun w17 st17 b8 => ?_
  replace N := N.go st17.step (by decide); replace b6 := st17.step.sub (by decide) _ _ b6; replace b7 := st17.step.sub (by decide) _ _ b7
  replace S := S.go st17.step (by decide) (by decide); replace G := G.mono (st17.step.sub (by decide))
  refine BS.yes rfl (BS.yes rfl ?_)
  refine LoadC.ad (view_sub _ _ _) (.int .u64 1) b6 rfl (TInt.mk (BS.yes rfl ?_))
  refine LoadC.ad (view_sub _ _ _) (.int .u64 2) b7 rfl (TInt.mk (BS.yes rfl ?_))
  refine LoadC.ad (view_sub _ _ _) (.int .u64 1) b8 rfl (TInt.mk (BS.yes rfl ?_))
  refine Len_n N (TInt.mk ?_)
  exact h _ _ (S.leave c0)

theorem first (l : List Nat) (o0 : Option Addr) (p0 : Nat) (w : World) (hT : LsV u64P 1 (wv w) (.slice o0 l.length p0) l) (hG : GlobS (wv w)) :
    CallV Tryd.prog 10 #[.slice o0 l.length p0] w fun r w' => r = .bool true ∧ Below w.heap.size w w' := by
  have G : GlobS (view (fun _ => 0) 0 w) := by rw [view0]; exact hG
  have t0 : LsV u64P 1 (view (fun _ => 0) 0 w) (.slice o0 l.length p0) l := by rw [view0]; exact hT
  have S := Fx.start w
  refine law24_NetFirst_vc ?_
  unfold law24_NetFirst_VC
  refine speaks24 (fun _ => 0) (G.mono (view_sub _ _ _)) fun c1 w1 st1 => TBool.mk (BS.no rfl ?_)
  replace t0 := u64_go t0 st1 (by decide)
  replace S := S.go st1 (by decide) (by decide); replace G := G.mono (st1.sub (by decide))
  refine New_n c1 1 2 3 fun a c2 w2 st2 N => TPtr.mk (BS.no rfl ?_)
  replace t0 := u64_go t0 st2 (by decide)
  replace S := S.go st2 (by decide) (by decide); replace G := G.mono (st2.sub (by decide))
  unfold law24_NetFirst_K1
  refine BS.dec (fun _ => ⟨rfl, fin S⟩) (fun hl => ?_)
  refine LoopI.up l.length (fun i w' => ∃ c', Fx w c' w' ∧ GlobS (view c' 0 w') ∧ LsV u64P 1 (view c' 0 w') (.slice o0 l.length p0) l ∧ NetV c' 1 2 3 w' a ((l.take i).map (mV 5))) ⟨c2, S, G, t0, by rw [List.take_zero]; exact N⟩ ?_
  clear S G t0 N
  rintro i w3 B hi ⟨c3, S, G, t0, N⟩ back
  refine BS.dec (fun hlt => ?_) (fun _ => ?_)
  · obtain ⟨v, hv⟩ := get_of_lt (l := l) (i := i) (by omega)
    obtain ⟨es, ⟨rfl, hv64⟩, E⟩ := LsV.at (by omega) t0 hv
    refine Req.bnd ⟨by omega, by omega⟩ (E.ld0 (view_sub _ _ _) rfl (TInt.mk ?_))
    refine Send_n (m := mV 5 v) (v := nilV) (va := nilV) (ua := nilV) (vh := nilV) (vb := nilV) 8 (by decide) (by decide) (by decide) N (mVV (wv w3) 5 v) (mV_ok hv64) (G.mono (view_sub _ _ _)) fun c4 w4 st4 N => ?_
    replace t0 := u64_go t0 st4 (by decide)
    replace S := S.go st4 (by decide) (by decide); replace G := G.mono (st4.sub (by decide))
    rw [sendK_yes (mV_right (by omega)) (by simp; omega)] at N ⊢
    refine TInt.mk (BS.no rfl ?_)
    rw [wrap_i64 (by omega) (by omega)]
    refine back _ (by omega) ⟨c4, S, G, t0, ?_⟩
    rw [List.take_add_one, hv, List.map_append]; exact N
  have : i = l.length := by omega
  subst this
  rw [List.take_length] at N
  clear back B
  refine LoopI.up l.length (fun i w' => ∃ c', Fx w c' w' ∧ GlobS (view c' 0 w') ∧ LsV u64P 1 (view c' 0 w') (.slice o0 l.length p0) l ∧ NetV c' 1 2 3 w' a ((l.drop i).map (mV 5)) ∧ ∀ v ∈ l.drop i, v < 18446744073709551616) ⟨c3, S, G, t0, by rw [List.drop_zero]; exact N, ?_⟩ ?_
  · intro v hv
    rw [List.drop_zero] at hv
    obtain ⟨k, hk⟩ := List.getElem?_of_mem hv
    obtain ⟨es, ⟨_, h64⟩, _⟩ := LsV.at (by omega) t0 hk
    exact h64
  clear S G t0 N
  rintro i w5 B hi ⟨c5, S, G, t0, N, hr⟩ back
  refine BS.dec (fun hlt => ?_) (fun _ => ⟨rfl, fin S⟩)
  obtain ⟨v, hv⟩ := get_of_lt (l := l) (i := i) (by omega)
  obtain ⟨es, ⟨rfl, hv64⟩, E⟩ := LsV.at (by omega) t0 hv
  refine Req.bnd ⟨by omega, by omega⟩ (E.ld0 (view_sub _ _ _) rfl (TInt.mk ?_))
  have hd : l.drop i = v :: l.drop (i + 1) := by
    have := List.drop_eq_getElem_cons (l := l) (i := i) (by omega)
    rw [this]; congr 1
    rw [List.getElem?_eq_getElem (by omega)] at hv
    simpa using hv
  have hpk : peekK 0 ((l.drop i).map (mV 5)) = mV 5 v := peekK_at (j := 0) (by rw [hd]; rfl)
  have hin : inK 0 ((l.drop i).map (mV 5)) := by unfold inK; rw [hd]; simp <;> omega
  have hdr : dropK 0 ((l.drop i).map (mV 5)) = (l.drop (i + 1)).map (mV 5) := by
    rw [show (0 : Int) = ((0 : Nat) : Int) from rfl, dropK_at (by rw [hd]; simp), hd]; rfl
  refine Peek_n 8 9 20 (by decide) (by decide) (by decide) N (G.mono (view_sub _ _ _)) fun x xa xb xh xc c6 w6 st6 N M => ?_
  replace t0 := u64_go t0 st6 (by decide)
  replace S := S.go st6 (by decide) (by decide); replace G := G.mono (st6.sub (by decide))
  rw [hpk] at M ⊢
  rw [decide_eq_true hin]
  refine T2.mk (TAgg.mk (TBool.mk ?_))
  refine AllocC.col c6 6 fun a8 c7 w7 st7 b6 _ => ?_
  replace N := N.go st7.fresh (by decide); replace M := M.mono (st7.fresh.sub (by decide))
  replace t0 := u64_go t0 st7.fresh (by decide)
  replace S := S.go st7.step (by decide) (by decide); replace G := G.mono (st7.step.sub (by decide))
  refine RunU.msg b6 rfl M (mV_ok hv64) fun w8 st8 b6 => ?_
  replace N := N.go st8.step (by decide)
  replace t0 := u64_go t0 st8.step (by decide)
  replace S := S.go st8.step (by decide) (by decide); replace G := G.mono (st8.step.sub (by decide))
  refine Take_n 8 9 20 21 22 (by decide) N (by simp; omega) (G.mono (view_sub _ _ _)) (fun m hm => by
    obtain ⟨u, hu, rfl⟩ := List.mem_map.1 hm
    exact mV_ok (hr u hu)) fun y ya yb yh yc c9 w9 st9 N M => ?_
  replace b6 := st9.sub (by decide) _ _ b6
  replace t0 := u64_go t0 st9 (by decide)
  replace S := S.go st9 (by decide) (by decide); replace G := G.mono (st9.sub (by decide))
  rw [hpk] at M ⊢
  rw [decide_eq_true hin]
  rw [hdr] at N
  refine T2.mk (TAgg.mk (TBool.mk ?_))
  refine AllocC.col c9 7 fun a10 c10 w10 st10 b7 _ => ?_
  replace N := N.go st10.fresh (by decide); replace M := M.mono (st10.fresh.sub (by decide)); replace b6 := st10.fresh.sub (by decide) _ _ b6
  replace t0 := u64_go t0 st10.fresh (by decide)
  replace S := S.go st10.step (by decide) (by decide); replace G := G.mono (st10.step.sub (by decide))
  refine RunU.msg b7 rfl M (mV_ok hv64) fun w11 st11 b7 => ?_
  replace N := N.go st11.step (by decide); replace b6 := st11.step.sub (by decide) _ _ b6
  replace t0 := u64_go t0 st11.step (by decide)
  replace S := S.go st11.step (by decide) (by decide); replace G := G.mono (st11.step.sub (by decide))
  refine BS.no rfl (BS.no rfl ?_)
  refine LoadC.ad (view_sub _ _ _) (.int .u64 v) b7 rfl (TInt.mk (BS.no (bne_same _) ?_))
  refine LoadC.ad (view_sub _ _ _) (.int .u64 v) b6 rfl (TInt.mk (BS.no (bne_same _) ?_))
  refine Len_n N (TInt.mk ?_)
  unfold law24_NetFirst_K2
  have hlen : ((((l.drop (i + 1)).map (mV 5)).length : Nat) : Int) = (l.length : Int) - 1 - i := by rw [List.length_map, List.length_drop]; omega
  rw [hlen, wrap_i64 (n := (l.length : Int) - 1) (by omega) (by omega), wrap_i64 (n := (l.length : Int) - 1 - i) (by omega) (by omega)]
  refine BS.no (bne_same _) ?_
  rw [wrap_i64 (by omega) (by omega)]
  exact back _ (by omega) ⟨c10, S, G, t0, N, fun u hu => hr u (by rw [hd]; exact List.mem_cons_of_mem _ hu)⟩
end Go.Proofs.YtdjgdcafmfheoaaDoor.walkNet

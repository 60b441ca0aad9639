/-
  Chapter 24's first law, walked: each call of a script.
-/
import Derived.Test.YtdjgdcafmfheoaaDoorWalkNet
set_option linter.unusedVariables false
set_option linter.unusedSimpArgs false
namespace Go.Vc
open Go
structure NOpR where
  kind : Int
  k : Int
  m : MsgR
def NOpR.cells (x : NOpR) (v va ua vh vb : Value) : List Value := [.int .i64 x.kind, .int .i64 x.k] ++ x.m.cells v va ua vh vb
end Go.Vc
namespace Go.Proofs.YtdjgdcafmfheoaaDoor
open Go.Vc
attribute [local irreducible] TInt TBool TStr TPtr TSl TAgg TMap TChan T2 T3 T4 BS Req TSome TCell TByte LoadC LoadA StoreC AllocC RunV RunU CallV ExtV EqA StableC StableA StableV TCells ReadV
attribute [local irreducible] eU eT eE
attribute [local irreducible] DrewC eH many rdM wrM eHb rdOp rdAns
def NopQ (h : View) (x : NOpR) (es : List Value) : Prop := ∃ v va ua vh vb, es = x.cells v va ua vh vb ∧ MsgV h x.m v va ua vh vb ∧ x.m.ok
theorem NopQ.mono {h h' : View} {x : NOpR} {es : List Value} (H : NopQ h x es) (hs : Sub h h') : NopQ h' x es := by
  obtain ⟨v, va, ua, vh, vb, e, M, ok⟩ := H; exact ⟨v, va, ua, vh, vb, e, M.mono hs, ok⟩
section
variable {x : NOpR} {v va ua vh vb : Value}
theorem nop_len (hok : x.m.ok) : (x.cells v va ua vh vb).length = 55 := by
  unfold NOpR.cells
  rw [List.length_append, msg_get hok.2.2.2.2.2.1]; rfl
theorem nop_msg : ∀ (j : Nat) (u : Value), (x.m.cells v va ua vh vb)[j]? = some u → (x.cells v va ua vh vb).toArray[2 + j]? = some u := by
  intro j u hu
  rw [List.getElem?_toArray]
  unfold NOpR.cells
  rw [List.getElem?_append_right (by simp), show 2 + j - ([.int .i64 x.kind, .int .i64 x.k] : List Value).length = j by simp]; exact hu
theorem nop_one {h : View} (M : MsgV h x.m v va ua vh vb) : (x.cells v va ua vh vb).toArray.all (·.oneCell') = true := by
  rw [Array.all_eq_true']; intro u hu
  have hu : u ∈ x.cells v va ua vh vb := by simpa using hu
  unfold NOpR.cells at hu
  rw [List.mem_append] at hu
  rcases hu with hu | hu
  · simp at hu; rcases hu with rfl | rfl <;> rfl
  · exact msg_one M u hu
end
theorem peek_good {n : Int} {L : List MsgR} (h : ∀ m ∈ L, m.right ∧ m.ok) : (peekK n L).ok ∧ (peekK n L).fair := by
  unfold peekK
  split
  · rename_i hin
    obtain ⟨g0, g1⟩ := hin
    obtain ⟨m, hm⟩ := get_of_lt (l := L) (i := n.toNat) (by omega)
    rw [hm]
    obtain ⟨h1, h2⟩ := h m (List.mem_of_getElem? hm)
    exact ⟨h2, h1.mild.fair⟩
  · exact ⟨zero_ok, zero_mild.fair⟩
theorem NetV.all {c : Nat → Nat} {i k d : Nat} {w : World} {a : Addr} {L : List MsgR} (H : NetV c i k d w a L) : ∀ m ∈ L, m.right ∧ m.ok := by
  obtain ⟨_, _, _, _, _, h⟩ := H; exact h
theorem drop_len {n : Int} {L : List MsgR} : (dropK n L).length ≤ L.length := by
  unfold dropK; split
  · rw [List.length_eraseIdx]; split <;> omega
  · exact Nat.le_refl _
theorem send_len {m : MsgR} {L : List MsgR} : (sendK m L).1.length ≤ L.length + 1 := by
  unfold sendK; split
  · split
    · simp
    · simp
  · simp
end Go.Proofs.YtdjgdcafmfheoaaDoor
namespace Go.Proofs.YtdjgdcafmfheoaaDoor.walkNet
open Go.Vc Go.ChangeShapes Go.WideShapes Go.ChangeAt Go.RowKit
attribute [local irreducible] TInt TBool TStr TPtr TSl TAgg TMap TChan T2 T3 T4 BS Req TSome TCell TByte LoadC LoadA StoreC AllocC RunV RunU CallV ExtV EqA StableC StableA StableV TCells ReadV
attribute [local irreducible] eU eT eE
attribute [local irreducible] DrewC eH many rdM wrM eHb rdOp rdAns
theorem plays (l : List NOpR) (o0 : Option Addr) (p0 : Nat) (w : World) (hT : LsV NopQ 55 (wv w) (.slice o0 l.length p0) l) (hG : GlobS (wv w)) :
    CallV Tryd.prog 8 #[.slice o0 l.length p0] w fun r w' => r = .bool true ∧ Below w.heap.size w w' := by
  have G : GlobS (view (fun _ => 0) 0 w) := by rw [view0]; exact hG
  have t1 : LsV NopQ 55 (view (fun _ => 0) 0 w) (.slice o0 l.length p0) l := by rw [view0]; exact hT
  have S := Fx.start w
  refine law24_NetPlays_vc ?_
  unfold law24_NetPlays_VC
  refine speaks24 (fun _ => 0) (G.mono (view_sub _ _ _)) fun c1 w1 st1 => TBool.mk (BS.no rfl ?_)
  replace t1 := t1.mono' (fun _ _ hp => hp.mono (st1.sub (by decide))) (st1.sub (by decide))
  replace S := S.go st1 (by decide) (by decide); replace G := G.mono (st1.sub (by decide))
  refine BS.dec (fun _ => ⟨rfl, fin S⟩) (fun hl => ?_)
  refine New_n c1 1 2 3 fun a c2 w2 st2 N => TPtr.mk ?_
  replace t1 := t1.mono' (fun _ _ hp => hp.mono (st2.sub (by decide))) (st2.sub (by decide))
  replace S := S.go st2 (by decide) (by decide); replace G := G.mono (st2.sub (by decide))
  refine AllocC.col c2 4 fun a4 c3 w3 st3 b4 _ => ?_
  replace t1 := t1.mono' (fun _ _ hp => hp.mono (st3.fresh.sub (by decide))) (st3.fresh.sub (by decide)); replace N := N.go st3.fresh (by decide)
  replace S := S.go st3.step (by decide) (by decide); replace G := G.mono (st3.step.sub (by decide))
  have U : RfV c3 4 5 0 w3 ⟨a4, 0, none⟩ [] := ⟨a4, _, rfl, b4, LsO.nil ..⟩
  refine BS.no rfl ?_
  refine LoopI.up l.length (fun i w' => ∃ (L : List MsgR) (c' : Nat → Nat), L.length ≤ i ∧ Fx w c' w' ∧ GlobS (view c' 0 w') ∧ LsV NopQ 55 (view c' 0 w') (.slice o0 l.length p0) l ∧ NetV c' 1 2 3 w' a L ∧ RfV c' 4 5 0 w' ⟨a4, 0, none⟩ L) ⟨[], c3, Nat.zero_le _, S, G, t1, N, U⟩ ?_
  clear S G t1 N U b4
  rintro i w4 B hi ⟨L, c4, hL, S, G, t1, N, U⟩ back
  refine BS.dec (fun hlt => ?_) (fun _ => ⟨rfl, fin S⟩)
  obtain ⟨x, hx⟩ := get_of_lt (l := l) (i := i) (by omega)
  obtain ⟨es, ⟨v, va, ua, vh, vb, rfl, M, ok⟩, E1⟩ := LsV.at (by omega) t1 hx
  have sz := nop_len (x := x) (v := v) (va := va) (ua := ua) (vh := vh) (vb := vb) ok
  have szA : (x.cells v va ua vh vb).toArray.size = 55 := by rw [List.size_toArray, sz]
  have ms : (x.m.cells v va ua vh vb).length = 53 := by have := msg_sz ok (v := v) (va := va) (ua := ua) (vh := vh) (vb := vb); simpa using this
  refine Req.bnd ⟨by omega, by omega⟩ (E1.all (view_sub _ _ _) ?_)
  clear E1
  refine AllocC.col c4 8 fun a6 c5 w5 st5 b8 _ => ?_
  replace t1 := t1.mono' (fun _ _ hp => hp.mono (st5.fresh.sub (by decide))) (st5.fresh.sub (by decide)); replace N := N.go st5.fresh (by decide); replace U := U.go st5.fresh (by decide); replace M := M.mono (st5.fresh.sub (by decide))
  replace S := S.go st5.step (by decide) (by decide); replace G := G.mono (st5.step.sub (by decide))
  refine RunU.var b8 (by rw [szA]; kernel_rfl) (by rw [szA]; rfl) (nop_one M) fun w6 st6 b8 => ?_
  replace t1 := t1.mono' (fun _ _ hp => hp.mono (st6.step.sub (by decide))) (st6.step.sub (by decide)); replace N := N.go st6.step (by decide); replace U := U.go st6.step (by decide)
  replace M := M.mono (st6.step.sub (i := 0) (by decide))
  replace S := S.go st6.step (by decide) (by decide); replace G := G.mono (st6.step.sub (by decide))
  refine LoadA.part (view_sub _ _ _) (k := 2) (n := 53) (es := x.m.cells v va ua vh vb) b8 ms nop_msg ?_
  refine Great19_c c5 9 (M.mono (view_sub _ _ _)) ok fun b c7 w7 st7 hb => TBool.mk ?_
  replace t1 := t1.mono' (fun _ _ hp => hp.mono (st7.sub (by decide))) (st7.sub (by decide)); replace N := N.go st7 (by decide); replace U := U.go st7 (by decide); replace M := M.mono (st7.sub (by decide)); replace b8 := st7.sub (by decide) _ _ b8
  replace S := S.go st7 (by decide) (by decide); replace G := G.mono (st7.sub (by decide))
  refine BS.mk (fun _ => ⟨rfl, fin S⟩) (fun hf => ?_)
  have hmild := hb hf
  have k2 : ∀ (L : List MsgR) c' w', L.length ≤ i + 1 → view c' 8 w' a6 = some (.cells (x.cells v va ua vh vb).toArray 60 (0, 0)) → Fx w c' w' ∧ GlobS (view c' 0 w') ∧ LsV NopQ 55 (view c' 0 w') (.slice o0 l.length p0) l ∧ NetV c' 1 2 3 w' a L ∧ RfV c' 4 5 0 w' ⟨a4, 0, none⟩ L → law24_NetPlays_K2 (some a) ⟨a4, 0, none⟩ ⟨a6, 0, none⟩ o0 l.length p0 (l.length : Int) (i : Int) B w' (fun r w' => r = .bool true ∧ Below w.heap.size w w') := by
    clear S G t1 N U M b8 hL
    rintro L c8 w8 hL b8 ⟨S, G, t1, N, U⟩
    have hgood := peek_good (n := x.k) N.all
    obtain ⟨pok, pfair⟩ := hgood
    unfold law24_NetPlays_K2
    refine LoadC.ad (view_sub _ _ _) (.int .i64 x.k) b8 rfl (TInt.mk ?_)
    refine Peek_n 9 20 21 (by decide) (by decide) (by decide) N (G.mono (view_sub _ _ _)) fun y ya yb yh yc c9 w9 st9 N Y => ?_
    replace t1 := t1.mono' (fun _ _ hp => hp.mono (st9.sub (by decide))) (st9.sub (by decide)); replace U := U.go st9 (by decide); replace b8 := st9.sub (by decide) _ _ b8
    replace S := S.go st9 (by decide) (by decide); replace G := G.mono (st9.sub (by decide))
    refine T2.mk (TAgg.mk (TBool.mk ?_))
    refine AllocC.col c9 6 fun a13 c10 w10 st10 b6 _ => ?_
    replace t1 := t1.mono' (fun _ _ hp => hp.mono (st10.fresh.sub (by decide))) (st10.fresh.sub (by decide)); replace N := N.go st10.fresh (by decide); replace U := U.go st10.fresh (by decide); replace b8 := st10.fresh.sub (by decide) _ _ b8; replace Y := Y.mono (st10.fresh.sub (by decide))
    replace S := S.go st10.step (by decide) (by decide); replace G := G.mono (st10.step.sub (by decide))
    refine RunU.msg b6 rfl Y pok fun w11 st11 b6 => ?_
    replace t1 := t1.mono' (fun _ _ hp => hp.mono (st11.step.sub (by decide))) (st11.step.sub (by decide)); replace N := N.go st11.step (by decide); replace U := U.go st11.step (by decide); replace b8 := st11.step.sub (by decide) _ _ b8; replace Y := Y.mono (st11.step.sub (by decide))
    replace S := S.go st11.step (by decide) (by decide); replace G := G.mono (st11.step.sub (by decide))
    refine DrewC.col c10 fun w12 st12 => ?_
    replace t1 := t1.mono' (fun _ _ hp => hp.mono (st12.sub (by decide))) (st12.sub (by decide)); replace N := N.go st12 (by decide); replace U := U.go st12 (by decide); replace b8 := st12.sub (by decide) _ _ b8; replace Y := Y.mono (st12.sub (by decide)); replace b6 := st12.sub (by decide) _ _ b6
    replace S := S.go st12 (by decide) (by decide); replace G := G.mono (st12.sub (by decide))
    refine LoadC.ad (view_sub _ _ _) (.int .i64 x.k) b8 rfl (TInt.mk ?_)
    refine Has_r U (TBool.mk (BS.no (by simp) ?_))
    have U2 := U
    obtain ⟨bu, vu, eu, hbu, hlu⟩ := U2
    cases eu
    obtain ⟨ou, pu, rfl⟩ := hlu.form
    refine BS.dec (fun hin => ?_) (fun hin => ?_)
    · obtain ⟨g0, g1⟩ := id hin
      obtain ⟨j, hj⟩ : ∃ j : Nat, x.k = (j : Int) := ⟨x.k.toNat, by omega⟩
      obtain ⟨m, hm⟩ := get_of_lt (l := L) (i := j) (by omega)
      obtain ⟨es, ⟨z, za, zb, zh, zc, rfl, Z, zok⟩, E⟩ := LsO.at' (by omega) hlu hm
      have hpk : peekK x.k L = m := by rw [hj]; exact peekK_at hm
      refine LoadA.all (view_sub _ _ _) b6 (msg_sz pok) ?_
      refine LoadC.ad (view_sub _ _ _) _ hbu rfl (TSl.mk ?_)
      refine LoadC.ad (view_sub _ _ _) (.int .i64 x.k) b8 rfl (TInt.mk ?_)
      rw [hj]
      refine Req.bnd ⟨by omega, by omega⟩ (E.all (view_sub _ _ _) ?_)
      rw [← hj]
      refine Same19_c c10 9 (Y.mono (view_sub _ _ _)) (Z.mono (view_sub _ _ _)) pok zok pfair fun sb c13 w13 st13 hsb => TBool.mk ?_
      replace t1 := t1.mono' (fun _ _ hp => hp.mono (st13.sub (by decide))) (st13.sub (by decide)); replace N := N.go st13 (by decide); replace U := U.go st13 (by decide)
      replace S := S.go st13 (by decide) (by decide); replace G := G.mono (st13.sub (by decide))
      replace hbu := st13.sub (by decide) _ _ hbu
      rw [hsb.2 hpk]
      refine BS.no rfl (BS.no (by simp [hin]) ?_)
      refine LoadC.ad (view_sub _ _ _) _ hbu rfl (TSl.mk ?_)
      refine Len_n N (TInt.mk ⟨StableC.ad (view_sub _ _ _) hbu rfl, BS.no (bne_same _) ?_⟩)
      rw [wrap_i64 (by omega) (by omega)]
      exact back _ (by omega) ⟨L, c13, hL, S, G, t1, N, U⟩
    · have hpk : peekK x.k L = MsgR.zero := by unfold peekK; rw [if_neg hin]
      refine BS.yes (by simp [hin]) ?_
      refine LoadA.all (view_sub _ _ _) b6 (msg_sz pok) ?_
      refine Same19_c (n := MsgR.zero) (v' := nilV) (va' := nilV) (ua' := nilV) (vh' := nilV) (vb' := nilV) c10 9 (Y.mono (view_sub _ _ _)) (MsgV.zero _) pok zero_ok pfair fun sb c13 w13 st13 hsb => TBool.mk ?_
      replace t1 := t1.mono' (fun _ _ hp => hp.mono (st13.sub (by decide))) (st13.sub (by decide)); replace N := N.go st13 (by decide); replace U := U.go st13 (by decide)
      replace S := S.go st13 (by decide) (by decide); replace G := G.mono (st13.sub (by decide))
      replace hbu := st13.sub (by decide) _ _ hbu
      rw [hsb.2 hpk]
      refine BS.no rfl ?_
      refine LoadC.ad (view_sub _ _ _) _ hbu rfl (TSl.mk ?_)
      refine Len_n N (TInt.mk ⟨StableC.ad (view_sub _ _ _) hbu rfl, BS.no (bne_same _) ?_⟩)
      rw [wrap_i64 (by omega) (by omega)]
      exact back _ (by omega) ⟨L, c13, hL, S, G, t1, N, U⟩
  obtain ⟨pok, pfair⟩ := peek_good (n := x.k) N.all
  have okL : ∀ m ∈ L, m.ok := fun m hm => (N.all m hm).2
  have dl := drop_len (n := x.k) (L := L)
  refine LoadC.ad (view_sub _ _ _) (.int .i64 x.kind) b8 rfl (TInt.mk ?_)
  refine BS.mk (fun _ => ?_) (fun _ => BS.mk (fun _ => ?_) (fun _ => BS.mk (fun _ => ?_) (fun _ => ?_)))
  · refine LoadC.ad (view_sub _ _ _) (.int .i64 x.k) b8 rfl (TInt.mk ?_)
    refine Take_n 9 20 21 22 23 (by decide) N (by omega) (G.mono (view_sub _ _ _)) okL fun y ya yb yh yc c8 w8 st8 N Y => ?_
    replace t1 := t1.mono' (fun _ _ hp => hp.mono (st8.sub (by decide))) (st8.sub (by decide)); replace U := U.go st8 (by decide); replace b8 := st8.sub (by decide) _ _ b8
    replace S := S.go st8 (by decide) (by decide); replace G := G.mono (st8.sub (by decide))
    refine T2.mk (TAgg.mk (TBool.mk ?_))
    refine AllocC.col c8 6 fun a7 c9 w9 st9 b6 _ => ?_
    replace t1 := t1.mono' (fun _ _ hp => hp.mono (st9.fresh.sub (by decide))) (st9.fresh.sub (by decide)); replace N := N.go st9.fresh (by decide); replace U := U.go st9.fresh (by decide); replace b8 := st9.fresh.sub (by decide) _ _ b8; replace Y := Y.mono (st9.fresh.sub (by decide))
    replace S := S.go st9.step (by decide) (by decide); replace G := G.mono (st9.step.sub (by decide))
    refine RunU.msg b6 rfl Y pok fun w10 st10 b6 => ?_
    replace t1 := t1.mono' (fun _ _ hp => hp.mono (st10.step.sub (by decide))) (st10.step.sub (by decide)); replace N := N.go st10.step (by decide); replace U := U.go st10.step (by decide); replace b8 := st10.step.sub (by decide) _ _ b8; replace Y := Y.mono (st10.step.sub (by decide))
    replace S := S.go st10.step (by decide) (by decide); replace G := G.mono (st10.step.sub (by decide))
    refine LoadC.ad (view_sub _ _ _) (.int .i64 x.k) b8 rfl (TInt.mk ?_)
    refine Take_r 9 22 (by decide) U (by omega) fun z za zb zh zc c11 w11 st11 U Z => ?_
    replace t1 := t1.mono' (fun _ _ hp => hp.mono (st11.sub (by decide))) (st11.sub (by decide)); replace N := N.go st11 (by decide); replace b8 := st11.sub (by decide) _ _ b8; replace b6 := st11.sub (by decide) _ _ b6; replace Y := Y.mono (st11.sub (by decide))
    replace S := S.go st11 (by decide) (by decide); replace G := G.mono (st11.sub (by decide))
    refine T2.mk (TAgg.mk (TBool.mk ?_))
    refine AllocC.col c11 7 fun a9 c12 w12 st12 b7 _ => ?_
    replace t1 := t1.mono' (fun _ _ hp => hp.mono (st12.fresh.sub (by decide))) (st12.fresh.sub (by decide)); replace N := N.go st12.fresh (by decide); replace U := U.go st12.fresh (by decide); replace b8 := st12.fresh.sub (by decide) _ _ b8; replace b6 := st12.fresh.sub (by decide) _ _ b6; replace Y := Y.mono (st12.fresh.sub (by decide)); replace Z := Z.mono (st12.fresh.sub (by decide))
    replace S := S.go st12.step (by decide) (by decide); replace G := G.mono (st12.step.sub (by decide))
    refine RunU.msg b7 rfl Z pok fun w13 st13 b7 => ?_
    replace t1 := t1.mono' (fun _ _ hp => hp.mono (st13.step.sub (by decide))) (st13.step.sub (by decide)); replace N := N.go st13.step (by decide); replace U := U.go st13.step (by decide); replace b8 := st13.step.sub (by decide) _ _ b8; replace b6 := st13.step.sub (by decide) _ _ b6; replace Y := Y.mono (st13.step.sub (by decide))
    replace Z := Z.mono (st13.step.sub (i := 0) (by decide))
    replace S := S.go st13.step (by decide) (by decide); replace G := G.mono (st13.step.sub (by decide))
    refine BS.no (by simp) ?_
    refine LoadA.all (view_sub _ _ _) b6 (msg_sz pok) (LoadA.all (view_sub _ _ _) b7 (msg_sz pok) ?_)
    refine Same19_c c12 9 (Y.mono (view_sub _ _ _)) (Z.mono (view_sub _ _ _)) pok pok pfair fun sb c14 w14 st14 hsb => TBool.mk ?_
    replace t1 := t1.mono' (fun _ _ hp => hp.mono (st14.sub (by decide))) (st14.sub (by decide)); replace N := N.go st14 (by decide); replace U := U.go st14 (by decide); replace b8 := st14.sub (by decide) _ _ b8
    replace S := S.go st14 (by decide) (by decide); replace G := G.mono (st14.sub (by decide))
    rw [hsb.2 rfl]
    unfold law24_NetPlays_K1
    exact BS.no rfl (k2 _ _ _ (by omega) b8 ⟨S, G, t1, N, U⟩)
  · refine LoadC.ad (view_sub _ _ _) (.int .i64 x.k) b8 rfl (TInt.mk ?_)
    refine Take_r 9 22 (by decide) U (by omega) fun z za zb zh zc c11 w11 st11 U Z => ?_
    replace t1 := t1.mono' (fun _ _ hp => hp.mono (st11.sub (by decide))) (st11.sub (by decide)); replace N := N.go st11 (by decide); replace b8 := st11.sub (by decide) _ _ b8
    replace S := S.go st11 (by decide) (by decide); replace G := G.mono (st11.sub (by decide))
    refine T2.mk (TAgg.mk (TBool.mk ?_))
    refine AllocC.col c11 7 fun a9 c12 w12 st12 b7 _ => ?_
    replace t1 := t1.mono' (fun _ _ hp => hp.mono (st12.fresh.sub (by decide))) (st12.fresh.sub (by decide)); replace N := N.go st12.fresh (by decide); replace U := U.go st12.fresh (by decide); replace b8 := st12.fresh.sub (by decide) _ _ b8; replace Z := Z.mono (st12.fresh.sub (by decide))
    replace S := S.go st12.step (by decide) (by decide); replace G := G.mono (st12.step.sub (by decide))
    refine RunU.msg b7 rfl Z pok fun w13 st13 b7 => ?_
    replace t1 := t1.mono' (fun _ _ hp => hp.mono (st13.step.sub (by decide))) (st13.step.sub (by decide)); replace N := N.go st13.step (by decide); replace U := U.go st13.step (by decide); replace b8 := st13.step.sub (by decide) _ _ b8
    replace S := S.go st13.step (by decide) (by decide); replace G := G.mono (st13.step.sub (by decide))
    refine LoadC.ad (view_sub _ _ _) (.int .i64 x.k) b8 rfl (TInt.mk ?_)
    refine Drop_n (by decide) (by decide) (by decide) N (by omega) fun w14 st14 N => TBool.mk ?_
    replace t1 := t1.mono' (fun _ _ hp => hp.mono (st14.sub (by decide))) (st14.sub (by decide)); replace U := U.go st14 (by decide); replace b8 := st14.sub (by decide) _ _ b8
    replace S := S.go st14 (by decide) (by decide); replace G := G.mono (st14.sub (by decide))
    exact BS.no (by simp) (k2 _ _ _ (by omega) b8 ⟨S, G, t1, N, U⟩)
  · refine DrewC.col c7 fun w8 st8 => ?_
    replace t1 := t1.mono' (fun _ _ hp => hp.mono (st8.sub (by decide))) (st8.sub (by decide)); replace N := N.go st8 (by decide); replace U := U.go st8 (by decide); replace b8 := st8.sub (by decide) _ _ b8
    replace S := S.go st8 (by decide) (by decide); replace G := G.mono (st8.sub (by decide))
    refine LoadC.ad (view_sub _ _ _) (.int .i64 x.k) b8 rfl (TInt.mk ?_)
    refine LoadC.ad (view_sub _ _ _) (.int .i64 x.k) b8 rfl (TInt.mk ?_)
    refine Copy_n 9 (by decide) (by decide) (by decide) N fun c9 w9 st9 N => TBool.mk ?_
    replace t1 := t1.mono' (fun _ _ hp => hp.mono (st9.sub (by decide))) (st9.sub (by decide)); replace U := U.go st9 (by decide); replace b8 := st9.sub (by decide) _ _ b8
    replace S := S.go st9 (by decide) (by decide); replace G := G.mono (st9.sub (by decide))
    refine ⟨StableC.ad (view_sub _ _ _) b8 rfl, ?_⟩
    refine Copy_r 9 (by decide) U fun c10 w10 st10 U => TBool.mk ?_
    replace t1 := t1.mono' (fun _ _ hp => hp.mono (st10.sub (by decide))) (st10.sub (by decide)); replace N := N.go st10 (by decide); replace b8 := st10.sub (by decide) _ _ b8
    replace S := S.go st10 (by decide) (by decide); replace G := G.mono (st10.sub (by decide))
    refine BS.no (by simp) (k2 _ _ _ ?_ b8 ⟨S, G, t1, N, U⟩)
    split
    · simp; omega
    · omega
  · refine DrewC.col c7 fun w8 st8 => ?_
    replace t1 := t1.mono' (fun _ _ hp => hp.mono (st8.sub (by decide))) (st8.sub (by decide)); replace N := N.go st8 (by decide); replace U := U.go st8 (by decide); replace b8 := st8.sub (by decide) _ _ b8; replace M := M.mono (st8.sub (by decide))
    replace S := S.go st8 (by decide) (by decide); replace G := G.mono (st8.sub (by decide))
    refine LoadA.part (view_sub _ _ _) (k := 2) (n := 53) (es := x.m.cells v va ua vh vb) b8 ms nop_msg ?_
    refine LoadA.part (view_sub _ _ _) (k := 2) (n := 53) (es := x.m.cells v va ua vh vb) b8 ms nop_msg ?_
    refine Send_n 9 (by decide) (by decide) (by decide) N (M.mono (view_sub _ _ _)) ok (G.mono (view_sub _ _ _)) fun c9 w9 st9 N => TInt.mk ?_
    replace t1 := t1.mono' (fun _ _ hp => hp.mono (st9.sub (by decide))) (st9.sub (by decide)); replace U := U.go st9 (by decide); replace b8 := st9.sub (by decide) _ _ b8; replace M := M.mono (st9.sub (by decide))
    replace S := S.go st9 (by decide) (by decide); replace G := G.mono (st9.sub (by decide))
    refine ⟨StableA.part (view_sub _ _ _) b8 ms nop_msg, ?_⟩
    refine Send_r 9 (by decide) U M ok hmild.fair fun c10 w10 st10 U => TInt.mk ?_
    replace t1 := t1.mono' (fun _ _ hp => hp.mono (st10.sub (by decide))) (st10.sub (by decide)); replace N := N.go st10 (by decide); replace b8 := st10.sub (by decide) _ _ b8
    replace S := S.go st10 (by decide) (by decide); replace G := G.mono (st10.sub (by decide))
    have := send_len (m := x.m) (L := L)
    exact BS.no (bne_same _) (k2 _ _ _ (by omega) b8 ⟨S, G, t1, N, U⟩)
end Go.Proofs.YtdjgdcafmfheoaaDoor.walkNet

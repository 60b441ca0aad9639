/-
  Chapter 24's second law, walked: what is sent comes as it was sent.
-/
import Derived.Test.YtdjgdcafmfheoaaDoorArgN
set_option linter.unusedVariables false
set_option linter.unusedSimpArgs false
namespace Go.Vc
open Go
def jv (x : Int) : Value := .int .i64 x
def jvs (l : List Int) : List Value := l.map jv
theorem LoopI.cnt {w : World} (n : Nat) (Inv : Nat → World → Prop) {F : (List Value → World → Prop) → Int → World → Prop} (h0 : Inv n w)
    (hs : ∀ i w1 B, Inv i w1 → (∀ j w2, j < i → Inv j w2 → B [.int .i64 (j : Int)] w2) → F B (i : Int) w1) : LoopI (n : Int) w F := by
  refine ⟨fun vs w' => ∃ i : Nat, vs = [.int .i64 i] ∧ Inv i w', fun vs _ => (headI vs).toNat, ⟨n, rfl, h0⟩, ?_⟩
  rintro _ w1 _ ⟨i, e, hI⟩
  obtain rfl : _ = (i : Int) := by simpa using e
  refine hs i w1 _ hI fun j w2 hlt hI2 => ⟨⟨j, rfl, hI2⟩, ?_⟩
  show ((j : Int)).toNat < ((i : Int)).toNat
  omega
end Go.Vc
namespace Go.Proofs.YtdjgdcafmfheoaaDoor
open Go.Vc
theorem peek_mem {n : Int} {L : List MsgR} (h : inK n L) : peekK n L ∈ L := by
  obtain ⟨g0, g1⟩ := id h
  obtain ⟨m, hm⟩ := get_of_lt (l := L) (i := n.toNat) (by omega)
  unfold peekK; rw [if_pos h, hm]; exact List.mem_of_getElem? hm
theorem drop_mem {n : Int} {L : List MsgR} {m : MsgR} (h : m ∈ dropK n L) : m ∈ L := by
  unfold dropK at h; split at h
  · exact List.mem_of_mem_eraseIdx h
  · exact h
theorem drop_in {n : Int} {L : List MsgR} (h : inK n L) : ((dropK n L).length : Int) = (L.length : Int) - 1 := by
  obtain ⟨g0, g1⟩ := id h
  unfold dropK; rw [if_pos h, List.length_eraseIdx_of_lt (by omega)]; omega
end Go.Proofs.YtdjgdcafmfheoaaDoor
namespace Go.Proofs.YtdjgdcafmfheoaaDoor.walkNet
open Go.Vc Go.ChangeShapes Go.WideShapes Go.ChangeAt Go.RowKit
attribute [local irreducible] TInt TBool TStr TPtr TSl TAgg TMap TChan T2 T3 T4 BS Req TSome TCell TByte LoadC LoadA StoreC AllocC RunV RunU CallV ExtV EqA StableC StableA StableV TCells ReadV
attribute [local irreducible] eU eT eE
attribute [local irreducible] DrewC eH many rdM wrM eHb rdOp rdAns
theorem whole (l : List MsgR) (cs ds : List Int) (o0 o1 o2 : Option Addr) (p0 p1 p2 : Nat) (w : World) (hT : LsV MsgP 53 (wv w) (.slice o0 l.length p0) l) (hC : RdS (wv w) (.slice o1 cs.length p1) 1 cs.length (jvs cs)) (hD : RdS (wv w) (.slice o2 ds.length p2) 1 ds.length (jvs ds)) (hG : GlobS (wv w)) :
    CallV Tryd.prog 9 #[.slice o0 l.length p0, .slice o1 cs.length p1, .slice o2 ds.length p2] w fun r w' => r = .bool true ∧ Below w.heap.size w w' := by
  have G : GlobS (view (fun _ => 0) 0 w) := by rw [view0]; exact hG
  have t1 : LsV MsgP 53 (view (fun _ => 0) 0 w) (.slice o0 l.length p0) l := by rw [view0]; exact hT
  have X : RdS (view (fun _ => 0) 0 w) (.slice o1 cs.length p1) 1 cs.length (jvs cs) := by rw [view0]; exact hC
  have Y : RdS (view (fun _ => 0) 0 w) (.slice o2 ds.length p2) 1 ds.length (jvs ds) := by rw [view0]; exact hD
  have S := Fx.start w
  refine law24_NetWhole_vc ?_
  unfold law24_NetWhole_VC
  refine speaks24 (fun _ => 0) (G.mono (view_sub _ _ _)) fun c1 w1 st1 => TBool.mk (BS.no rfl ?_)
  replace t1 := t1.mono' (fun _ _ hp => hp.mono (st1.sub (by decide))) (st1.sub (by decide)); replace X := X.mono (st1.sub (by decide)); replace Y := Y.mono (st1.sub (by decide))
  replace S := S.go st1 (by decide) (by decide); replace G := G.mono (st1.sub (by decide))
  refine BS.dec (fun _ => ⟨rfl, fin S⟩) (fun hl => ?_)
  refine BS.dec (fun _ => ⟨rfl, fin S⟩) (fun hc => ?_)
  unfold law24_NetWhole_K1
  refine BS.dec (fun _ => ⟨rfl, fin S⟩) (fun hd => ?_)
  refine New_n c1 1 2 3 fun a c2 w2 st2 N => TPtr.mk (BS.no rfl ?_)
  replace t1 := t1.mono' (fun _ _ hp => hp.mono (st2.sub (by decide))) (st2.sub (by decide)); replace X := X.mono (st2.sub (by decide)); replace Y := Y.mono (st2.sub (by decide))
  replace S := S.go st2 (by decide) (by decide); replace G := G.mono (st2.sub (by decide))
  refine AllocC.col c2 4 fun a4 c3 w3 st3 b4 _ => ?_
  replace t1 := t1.mono' (fun _ _ hp => hp.mono (st3.fresh.sub (by decide))) (st3.fresh.sub (by decide)); replace N := N.go st3.fresh (by decide); replace X := X.mono (st3.fresh.sub (by decide)); replace Y := Y.mono (st3.fresh.sub (by decide))
  replace S := S.go st3.step (by decide) (by decide); replace G := G.mono (st3.step.sub (by decide))
  refine LoopSI.up l.length (fun i oS q pS w' => ∃ (sent L : List MsgR) (c' : Nat → Nat), q = sent.length ∧ L = sent ∧ L.length ≤ i ∧ LsV MsgP 53 (view c' 0 w') (.slice o0 l.length p0) l ∧ RdS (view c' 0 w') (.slice o1 cs.length p1) 1 cs.length (jvs cs) ∧ RdS (view c' 0 w') (.slice o2 ds.length p2) 1 ds.length (jvs ds) ∧ Fx w c' w' ∧ GlobS (view c' 0 w') ∧ NetV c' 1 2 3 w' a L ∧ LsO MsgP 38 53 (view c' 4 w') (view c' 0 w') (.slice oS sent.length pS) sent) ⟨[], [], c3, rfl, rfl, Nat.zero_le _, t1, X, Y, S, G, N, LsO.empty b4⟩ ?_
  clear S G t1 N X Y b4
  rintro i oS _ pS w4 B hi ⟨_, sent, c4, rfl, rfl, hlen, t1, X, Y, S, G, N, T⟩ back
  refine BS.dec (fun hlt => ?_) (fun _ => ?_)
  · obtain ⟨m, hm⟩ := get_of_lt (l := l) (i := i) (by omega)
    obtain ⟨es, ⟨v, va, ua, vh, vb, rfl, M, ok⟩, E1⟩ := LsV.at (by omega) t1 hm
    refine Req.bnd ⟨by omega, by omega⟩ (E1.all (view_sub _ _ _) ?_)
    clear E1
    refine AllocC.col c4 8 fun a6 c5 w5 st5 b8 _ => ?_
    replace t1 := t1.mono' (fun _ _ hp => hp.mono (st5.fresh.sub (by decide))) (st5.fresh.sub (by decide)); replace N := N.go st5.fresh (by decide); replace M := M.mono (st5.fresh.sub (by decide)); replace X := X.mono (st5.fresh.sub (by decide)); replace Y := Y.mono (st5.fresh.sub (by decide))
    replace T := T.mono' (fun _ _ hp => hp.mono (st5.fresh.sub (by decide))) (st5.fresh.sub (by decide))
    replace S := S.go st5.step (by decide) (by decide); replace G := G.mono (st5.step.sub (by decide))
    refine RunU.msg b8 rfl M ok fun w6 st6 b8 => ?_
    replace t1 := t1.mono' (fun _ _ hp => hp.mono (st6.step.sub (by decide))) (st6.step.sub (by decide)); replace N := N.go st6.step (by decide); replace X := X.mono (st6.step.sub (by decide)); replace Y := Y.mono (st6.step.sub (by decide))
    replace M := M.mono (st6.step.sub (i := 0) (by decide))
    replace T := T.mono' (fun _ _ hp => hp.mono (st6.step.sub (by decide))) (st6.step.sub (by decide))
    replace S := S.go st6.step (by decide) (by decide); replace G := G.mono (st6.step.sub (by decide))
    refine LoadA.all (view_sub _ _ _) b8 (msg_sz ok) ?_
    refine Great19_c c5 9 (M.mono (view_sub _ _ _)) ok fun b c7 w7 st7 hb => TBool.mk ?_
    replace t1 := t1.mono' (fun _ _ hp => hp.mono (st7.sub (by decide))) (st7.sub (by decide)); replace N := N.go st7 (by decide); replace M := M.mono (st7.sub (by decide)); replace b8 := st7.sub (by decide) _ _ b8; replace X := X.mono (st7.sub (by decide)); replace Y := Y.mono (st7.sub (by decide))
    replace T := T.mono' (fun _ _ hp => hp.mono (st7.sub (by decide))) (st7.sub (by decide))
    replace S := S.go st7 (by decide) (by decide); replace G := G.mono (st7.sub (by decide))
    refine BS.mk (fun _ => ⟨rfl, fin S⟩) (fun hf => ?_)
    refine LoadA.all (view_sub _ _ _) b8 (msg_sz ok) ?_
    refine Send_n 9 (by decide) (by decide) (by decide) N (M.mono (view_sub _ _ _)) ok (G.mono (view_sub _ _ _)) fun c8 w8 st8 N => TInt.mk ?_
    replace t1 := t1.mono' (fun _ _ hp => hp.mono (st8.sub (by decide))) (st8.sub (by decide)); replace M := M.mono (st8.sub (by decide)); replace b8 := st8.sub (by decide) _ _ b8; replace X := X.mono (st8.sub (by decide)); replace Y := Y.mono (st8.sub (by decide))
    replace T := T.mono' (fun _ _ hp => hp.mono (st8.sub (by decide))) (st8.sub (by decide))
    replace S := S.go st8 (by decide) (by decide); replace G := G.mono (st8.sub (by decide))
    by_cases hr : m.right
    · rw [sendK_yes hr (by omega)] at N ⊢
      refine BS.yes rfl ?_
      refine LoadA.all (view_sub _ _ _) b8 (msg_sz ok) ?_
      refine Req.mk' (by rw [msg_sz ok]; rfl) ?_
      refine AllocC.col c8 6 fun a9 c9 w9 st9 b6 _ => ?_
      replace t1 := t1.mono' (fun _ _ hp => hp.mono (st9.fresh.sub (by decide))) (st9.fresh.sub (by decide)); replace N := N.go st9.fresh (by decide); replace M := M.mono (st9.fresh.sub (by decide)); replace X := X.mono (st9.fresh.sub (by decide)); replace Y := Y.mono (st9.fresh.sub (by decide))
      replace T := T.mono' (fun _ _ hp => hp.mono (st9.fresh.sub (by decide))) (st9.fresh.sub (by decide))
      replace S := S.go st9.step (by decide) (by decide); replace G := G.mono (st9.step.sub (by decide))
      refine app_one T b6 M ok (by omega) fun o10 p10 c10 w10 st10 T => TSl.mk ?_
      replace t1 := t1.mono' (fun _ _ hp => hp.mono (st10.step.sub (by decide))) (st10.step.sub (by decide)); replace N := N.go st10.step (by decide); replace X := X.mono (st10.step.sub (by decide)); replace Y := Y.mono (st10.step.sub (by decide))
      replace T := T.mono' (fun _ _ hp => hp.mono (st10.step.sub (by decide))) (fun _ _ h => h)
      replace S := S.go st10.step (by decide) (by decide); replace G := G.mono (st10.step.sub (by decide))
      rw [wrap_i64 (by omega) (by omega)]
      exact back _ _ _ _ (by omega) ⟨sent ++ [m], _, c10, rfl, rfl, by simp; omega, t1, X, Y, S, G, N, T⟩
    · have e : sendK m sent = (sent, 1) := by unfold sendK; rw [if_neg hr]
      rw [e] at N ⊢
      refine BS.no rfl ?_
      rw [wrap_i64 (by omega) (by omega)]
      exact back _ _ _ _ (by omega) ⟨sent, _, c8, rfl, rfl, by omega, t1, X, Y, S, G, N, T⟩
  have hs20 : sent.length ≤ 20 := by omega
  clear back B hi t1
  refine LoopNI.up cs.length (fun i x w' => ∃ (L : List MsgR) (c' : Nat → Nat), x = (L.length : Int) ∧ L.length ≤ 20 + i ∧ (∀ m ∈ L, m ∈ sent) ∧ RdS (view c' 0 w') (.slice o1 cs.length p1) 1 cs.length (jvs cs) ∧ RdS (view c' 0 w') (.slice o2 ds.length p2) 1 ds.length (jvs ds) ∧ Fx w c' w' ∧ GlobS (view c' 0 w') ∧ NetV c' 1 2 3 w' a L ∧ LsO MsgP 38 53 (view c' 4 w') (view c' 0 w') (.slice oS sent.length pS) sent) ⟨sent, c4, rfl, by omega, fun m hm => hm, X, Y, S, G, N, T⟩ ?_
  clear S G N T X Y
  rintro i _ w5 B hi ⟨L, c5, rfl, hlen, hsub, X, Y, S, G, N, T⟩ back
  refine BS.dec (fun hlt => ?_) (fun _ => ?_)
  · obtain ⟨k, hk⟩ := get_of_lt (l := cs) (i := i) (by omega)
    refine Req.bnd ⟨by omega, by omega⟩ (RdS.elt (view_sub _ _ _) X (u := .int .i64 k) (by simp [jvs, jv, hk]) (TInt.mk ?_))
    refine Copy_n 9 (by decide) (by decide) (by decide) N fun c6 w6 st6 N => TBool.mk ?_
    replace X := X.mono (st6.sub (by decide)); replace Y := Y.mono (st6.sub (by decide))
    replace T := T.mono' (fun _ _ hp => hp.mono (st6.sub (by decide))) (st6.sub (by decide))
    replace S := S.go st6 (by decide) (by decide); replace G := G.mono (st6.sub (by decide))
    by_cases hck : copyK k L
    · rw [if_pos hck] at N
      rw [decide_eq_true hck]
      refine BS.yes rfl ?_
      rw [wrap_i64 (by omega) (by omega), wrap_i64 (by omega) (by omega)]
      refine back _ _ (by omega) ⟨_, c6, by simp, by simp; omega, fun m hm => ?_, X, Y, S, G, N, T⟩
      rcases List.mem_append.1 hm with hm | hm
      · exact hsub m hm
      · rw [List.mem_singleton] at hm; subst hm; exact hsub _ (peek_mem hck.1)
    · rw [if_neg hck] at N
      rw [decide_eq_false hck]
      refine BS.no rfl ?_
      rw [wrap_i64 (by omega) (by omega)]
      exact back _ _ (by omega) ⟨L, c6, rfl, by omega, hsub, X, Y, S, G, N, T⟩
  have hL40 : L.length ≤ 40 := by omega
  clear back B hi hlen X
  refine LoopNI.up ds.length (fun i x w' => ∃ (L : List MsgR) (c' : Nat → Nat), x = (L.length : Int) ∧ L.length ≤ 40 ∧ (∀ m ∈ L, m ∈ sent) ∧ RdS (view c' 0 w') (.slice o2 ds.length p2) 1 ds.length (jvs ds) ∧ Fx w c' w' ∧ GlobS (view c' 0 w') ∧ NetV c' 1 2 3 w' a L ∧ LsO MsgP 38 53 (view c' 4 w') (view c' 0 w') (.slice oS sent.length pS) sent) ⟨L, c5, rfl, hL40, hsub, Y, S, G, N, T⟩ ?_
  clear S G N T Y hL40 hsub L
  rintro i _ w5 B hi ⟨L, c5, rfl, hlen, hsub, Y, S, G, N, T⟩ back
  refine BS.dec (fun hlt => ?_) (fun _ => ?_)
  · obtain ⟨k, hk⟩ := get_of_lt (l := ds) (i := i) (by omega)
    refine Req.bnd ⟨by omega, by omega⟩ (RdS.elt (view_sub _ _ _) Y (u := .int .i64 k) (by simp [jvs, jv, hk]) (TInt.mk ?_))
    refine Drop_n (by decide) (by decide) (by decide) N (by omega) fun w6 st6 N => TBool.mk ?_
    replace Y := Y.mono (st6.sub (by decide))
    replace T := T.mono' (fun _ _ hp => hp.mono (st6.sub (by decide))) (st6.sub (by decide))
    replace S := S.go st6 (by decide) (by decide); replace G := G.mono (st6.sub (by decide))
    by_cases hin : inK k L
    · rw [decide_eq_true hin]
      refine BS.yes rfl ?_
      have hdl := drop_in hin
      rw [wrap_i64 (by omega) (by omega), wrap_i64 (by omega) (by omega)]
      exact back _ _ (by omega) ⟨_, c5, by omega, by omega, fun m hm => hsub m (drop_mem hm), Y, S, G, N, T⟩
    · have e : dropK k L = L := by unfold dropK; rw [if_neg hin]
      rw [e] at N
      rw [decide_eq_false hin]
      refine BS.no rfl ?_
      rw [wrap_i64 (by omega) (by omega)]
      exact back _ _ (by omega) ⟨L, c5, rfl, by omega, hsub, Y, S, G, N, T⟩
  clear back B hi Y
  refine Len_n N (TInt.mk (BS.no (bne_same _) ?_))
  refine LoopI.cnt L.length (fun j w' => ∃ (L : List MsgR) (c' : Nat → Nat), L.length = j ∧ L.length ≤ 40 ∧ (∀ m ∈ L, m ∈ sent) ∧ Fx w c' w' ∧ GlobS (view c' 0 w') ∧ NetV c' 1 2 3 w' a L ∧ LsO MsgP 38 53 (view c' 4 w') (view c' 0 w') (.slice oS sent.length pS) sent) ⟨L, c5, rfl, hlen, hsub, S, G, N, T⟩ ?_
  clear S G N T hlen hsub L
  rintro j w6 B ⟨L, c6, rfl, hlen, hsub, S, G, N, T⟩ back
  have okL : ∀ m ∈ L, m.ok := fun m hm => (N.all m hm).2
  refine Len_n N (TInt.mk ?_)
  refine BS.dec (fun hpos => ?_) (fun hz => ?_)
  · refine Len_n N (TInt.mk ?_)
    rw [wrap_i64 (n := (L.length : Int) - 1) (by omega) (by omega)]
    have hin : inK ((L.length : Int) - 1) L := ⟨by omega, by omega⟩
    obtain ⟨pok, pfair⟩ := peek_good (n := (L.length : Int) - 1) N.all
    have pm := hsub _ (peek_mem hin)
    have hdl := drop_in hin
    have hsub' : ∀ m ∈ dropK ((L.length : Int) - 1) L, m ∈ sent := fun m hm => hsub m (drop_mem hm)
    refine Take_n 9 20 21 22 23 (by decide) N (by omega) (G.mono (view_sub _ _ _)) okL fun y ya yb yh yc c7 w7 st7 N M => ?_
    replace T := T.mono' (fun _ _ hp => hp.mono (st7.sub (by decide))) (st7.sub (by decide))
    replace S := S.go st7 (by decide) (by decide); replace G := G.mono (st7.sub (by decide))
    rw [decide_eq_true hin]
    generalize peekK ((L.length : Int) - 1) L = m at M pok pfair pm
    generalize dropK ((L.length : Int) - 1) L = L' at N hdl hsub'
    refine T2.mk (TAgg.mk (TBool.mk ?_))
    refine AllocC.col c7 6 fun a8 c8 w8 st8 b6 _ => ?_
    replace N := N.go st8.fresh (by decide); replace M := M.mono (st8.fresh.sub (by decide))
    replace T := T.mono' (fun _ _ hp => hp.mono (st8.fresh.sub (by decide))) (st8.fresh.sub (by decide))
    replace S := S.go st8.step (by decide) (by decide); replace G := G.mono (st8.step.sub (by decide))
    refine RunU.msg b6 rfl M pok fun w9 st9 b6 => ?_
    replace N := N.go st9.step (by decide); replace M := M.mono (st9.step.sub (by decide))
    replace T := T.mono' (fun _ _ hp => hp.mono (st9.step.sub (by decide))) (st9.step.sub (by decide))
    replace S := S.go st9.step (by decide) (by decide); replace G := G.mono (st9.step.sub (by decide))
    refine ⟨fun vs w' => ∃ (i : Nat) (b : Bool) (c' : Nat → Nat), vs = [.bool b, .int .i64 (i : Int)] ∧ i ≤ sent.length ∧ (b = true ↔ m ∈ sent.take i) ∧ Fx w c' w' ∧ GlobS (view c' 0 w') ∧ NetV c' 1 2 3 w' a L' ∧ LsO MsgP 38 53 (view c' 4 w') (view c' 0 w') (.slice oS sent.length pS) sent ∧
      view c' 6 w' a8 = some (.cells (m.cells y ya yb yh yc).toArray 38 (0, 0)) ∧ MsgV (view c' 21 w') m y ya yb yh yc, fun vs _ => ((sent.length : Int) - nextI vs).toNat, ⟨0, false, c8, rfl, Nat.zero_le _, by simp, S, G, N, T, b6, M⟩, ?_⟩
    clear S G N T b6 M
    rintro _ w10 b18 n18 ⟨i, b, c10, e, hi, hb, S, G, N, T, b6, M⟩
    simp only [List.cons.injEq, Value.int.injEq, Value.bool.injEq, true_and, and_true] at e
    obtain ⟨rfl, rfl⟩ := e
    refine BS.dec (fun hlt => ?_) (fun hge => ?_)
    · obtain ⟨z, hz⟩ := get_of_lt (l := sent) (i := i) (by omega)
      obtain ⟨es, ⟨v, va, ua, vh, vb, rfl, Z, zok⟩, E⟩ := LsO.at' (by omega) T hz
      refine Req.bnd ⟨by omega, by omega⟩ (E.all (view_sub _ _ _) ?_)
      clear E
      refine AllocC.col c10 7 fun a11 c11 w11 st11 b7 _ => ?_
      replace N := N.go st11.fresh (by decide); replace M := M.mono (st11.fresh.sub (by decide)); replace Z := Z.mono (st11.fresh.sub (by decide)); replace b6 := st11.fresh.sub (by decide) _ _ b6
      replace T := T.mono' (fun _ _ hp => hp.mono (st11.fresh.sub (by decide))) (st11.fresh.sub (by decide))
      replace S := S.go st11.step (by decide) (by decide); replace G := G.mono (st11.step.sub (by decide))
      refine RunU.msg b7 rfl Z zok fun w12 st12 b7 => ?_
      replace N := N.go st12.step (by decide); replace M := M.mono (st12.step.sub (by decide)); replace b6 := st12.step.sub (by decide) _ _ b6
      replace Z := Z.mono (st12.step.sub (i := 0) (by decide))
      replace T := T.mono' (fun _ _ hp => hp.mono (st12.step.sub (by decide))) (st12.step.sub (by decide))
      replace S := S.go st12.step (by decide) (by decide); replace G := G.mono (st12.step.sub (by decide))
      have tk : ∀ x, x ∈ sent.take (i + 1) ↔ x ∈ sent.take i ∨ x = z := fun x => by rw [List.take_add_one, hz]; simp
      have ms : ((sent.length : Int) - ((i : Int) + 1)).toNat < ((sent.length : Int) - (i : Int)).toNat := by omega
      rw [wrap_i64 (by omega) (by omega)]
      refine BS.mk (fun hb1 => ?_) (fun hb0 => ?_)
      · exact ⟨⟨i + 1, true, c11, by simp, by omega, by rw [tk]; simp [hb.1 hb1], S, G, N, T, b6, M⟩, ms⟩
      · refine LoadA.all (view_sub _ _ _) b6 (msg_sz pok) (LoadA.all (view_sub _ _ _) b7 (msg_sz zok) ?_)
        refine Same19_c c11 9 (M.mono (view_sub _ _ _)) (Z.mono (view_sub _ _ _)) pok zok pfair fun sb c13 w13 st13 hsb => TBool.mk ?_
        replace N := N.go st13 (by decide); replace M := M.mono (st13.sub (by decide)); replace b6 := st13.sub (by decide) _ _ b6
        replace T := T.mono' (fun _ _ hp => hp.mono (st13.sub (by decide))) (st13.sub (by decide))
        replace S := S.go st13 (by decide) (by decide); replace G := G.mono (st13.sub (by decide))
        refine ⟨⟨i + 1, sb, c13, by simp, by omega, ?_, S, G, N, T, b6, M⟩, ms⟩
        rw [tk, hsb]
        constructor
        · exact fun h => .inr h
        · rintro (h | h)
          · rw [hb.2 h] at hb0; simp at hb0
          · exact h
    · have : i = sent.length := by omega
      subst this
      rw [List.take_length] at hb
      refine BS.no rfl (BS.no (by rw [hb.2 pm]; rfl) ?_)
      refine Len_n N (TInt.mk ?_)
      have e : (L.length : Int) - 1 = (L'.length : Int) := by omega
      rw [e]
      refine BS.no (bne_same _) ?_
      exact back L'.length _ (by omega) ⟨L', c10, rfl, by omega, hsub', S, G, N, T⟩
  · have hz0 : L = [] := List.eq_nil_of_length_eq_zero (by omega)
    subst hz0
    have hno : ¬ inK 0 ([] : List MsgR) := by unfold inK; simp
    obtain ⟨pok, _⟩ := peek_good (n := 0) N.all
    refine Take_n 9 20 21 22 23 (by decide) N (by omega) (G.mono (view_sub _ _ _)) okL fun y ya yb yh yc c7 w7 st7 N M => ?_
    replace S := S.go st7 (by decide) (by decide); replace G := G.mono (st7.sub (by decide))
    rw [decide_eq_false hno]
    refine T2.mk (TAgg.mk (TBool.mk ?_))
    refine AllocC.col c7 6 fun a8 c8 w8 st8 b6 _ => ?_
    replace M := M.mono (st8.fresh.sub (by decide))
    replace S := S.go st8.step (by decide) (by decide); replace G := G.mono (st8.step.sub (by decide))
    refine RunU.msg b6 rfl M pok fun w9 st9 b6 => ?_
    replace S := S.go st9.step (by decide) (by decide); replace G := G.mono (st9.step.sub (by decide))
    exact ⟨rfl, fin S⟩
end Go.Proofs.YtdjgdcafmfheoaaDoor.walkNet

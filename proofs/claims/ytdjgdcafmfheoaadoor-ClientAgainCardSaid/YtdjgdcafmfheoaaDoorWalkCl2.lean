/-
  Chapter 25's first law, walked: each call of a script.
-/
import Derived.Test.YtdjgdcafmfheoaaDoorWalkCl
set_option linter.unusedVariables false
set_option linter.unusedSimpArgs false
namespace Go.Vc
open Go
theorem OwS.put {c : Nat → Nat} {i : Nat} {w : World} {o : Option Addr} {n p : Nat} {T : Nat} {ys : List Value} (ho : OwS (view c i w) (.slice o n p) T 1 n ys) {k : Nat} (hk : k < n) {u : Value} {C : World → Prop}
    (h : ∀ w' ys', Step c [i] [] w c w' → OwS (view c i w') (.slice o n p) T 1 n ys' → C w') : TSome o fun a => StoreC w (a.add ((k : Int).toNat * 1)) u C := by
  rcases ho.2 with ⟨e, hn0⟩ | ⟨g, cap, cur, e, hg, hnc, hcm, hcs, htake⟩
  · omega
  · cases e
    refine TSome.mk ?_
    rw [addr_add, Int.toNat_natCast, Nat.mul_one, Nat.zero_add]
    refine StoreC.col hg (by omega) fun w2 _ st2 hg2 => ?_
    refine h _ _ st2 ⟨?_, .inr ⟨g, p, _, rfl, hg2, hnc, hcm, by simpa using hcs, rfl⟩⟩
    rw [List.length_take]; simp; omega
structure StR where
  kind : Int
  n : Int
  op : OpR
  m : MsgR
def StR.cells (x : StR) (v mv va ua vh vb : Value) : List Value := [.int .i64 x.kind, .int .i64 x.n] ++ (x.op.cells v ++ x.m.cells mv va ua vh vb)
theorem call64 {s : ClR} {o : OpR} (h : s.waits = true → s.op.data.length ≤ 64) : (clCall s o).1.waits = true → (clCall s o).1.op.data.length ≤ 64 := by
  unfold clCall
  split
  · exact h
  · split
    · rename_i hr; exact fun _ => hr.2.2.2.2.2.2.2.2
    · exact h
theorem take64 {s : ClR} {m : MsgR} (h : s.waits = true → s.op.data.length ≤ 64) : (clTake s m).1.waits = true → (clTake s m).1.op.data.length ≤ 64 := by
  unfold clTake
  split
  · intro h; simp at h
  · exact h
theorem take_names {s : ClR} {m : MsgR} (h : m.mild) : (clTake s m).2.1.names.length ≤ 1099511627776 := by
  unfold clTake
  split
  · have := h.2.1; show m.ans.names.length ≤ _; omega
  · show AnsR.zero.names.length ≤ _; unfold AnsR.zero; simp
end Go.Vc
namespace Go.Proofs.YtdjgdcafmfheoaaDoor
open Go.Vc
attribute [local irreducible] TInt TBool TStr TPtr TSl TAgg TMap TChan T2 T3 T4 BS Req TSome TCell TByte LoadC LoadA StoreC AllocC RunV RunU CallV ExtV EqA StableC StableA StableV TCells ReadV
attribute [local irreducible] eU eT eE
attribute [local irreducible] DrewC eH many rdM wrM eHb rdOp rdAns
def StQ (h : View) (x : StR) (es : List Value) : Prop := ∃ v mv va ua vh vb, es = x.cells v mv va ua vh vb ∧ OpRV h x.op v ∧ MsgV h x.m mv va ua vh vb ∧ x.m.ok
theorem StQ.mono {h h' : View} {x : StR} {es : List Value} (H : StQ h x es) (hs : Sub h h') : StQ h' x es := by
  obtain ⟨v, mv, va, ua, vh, vb, e, hv, M, ok⟩ := H; exact ⟨v, mv, va, ua, vh, vb, e, RdS.mono hv hs, M.mono hs, ok⟩
section
variable {x : StR} {v mv va ua vh vb : Value}
theorem st_len (hok : x.m.ok) : (x.cells v mv va ua vh vb).length = 61 := by
  unfold StR.cells
  rw [List.length_append, List.length_append, msg_get hok.2.2.2.2.2.1]; rfl
theorem st_op : ∀ (j : Nat) (u : Value), (x.op.cells v)[j]? = some u → (x.cells v mv va ua vh vb).toArray[2 + j]? = some u := by
  intro j u hu
  have := lt_of_get hu
  rw [List.getElem?_toArray]
  unfold StR.cells
  rw [List.getElem?_append_right (by simp), show 2 + j - ([.int .i64 x.kind, .int .i64 x.n] : List Value).length = j by simp, List.getElem?_append_left this]; exact hu
theorem st_msg : ∀ (j : Nat) (u : Value), (x.m.cells mv va ua vh vb)[j]? = some u → (x.cells v mv va ua vh vb).toArray[8 + j]? = some u := by
  intro j u hu
  rw [List.getElem?_toArray]
  unfold StR.cells
  rw [List.getElem?_append_right (by simp; omega), List.getElem?_append_right (by simp [OpR.cells]; omega)]
  rw [← hu]; congr 1; simp [OpR.cells]; omega
theorem st_one {h : View} (hv : OpRV h x.op v) (M : MsgV h x.m mv va ua vh vb) : (x.cells v mv va ua vh vb).toArray.all (·.oneCell') = true := by
  rw [Array.all_eq_true']; intro u hu
  have hu : u ∈ x.cells v mv va ua vh vb := by simpa using hu
  unfold StR.cells at hu
  rw [List.mem_append, List.mem_append] at hu
  rcases hu with hu | hu | hu
  · simp at hu; rcases hu with rfl | rfl <;> rfl
  · exact (op_one hv).2 u hu
  · exact msg_one M u hu
end
theorem ask20w {i : Nat} (h : i < 7) : ∀ x ∈ [20 + i], x ∈ [1, 2, 3, 4, 5, 6, 7, 8, 9, 20, 21, 22, 23, 24, 25, 26] := by
  intro x hx; rw [List.mem_singleton] at hx; subst hx
  match i, h with
  | 0, _ | 1, _ | 2, _ | 3, _ | 4, _ | 5, _ | 6, _ => decide
/-- a list whose first k messages' data may have turned -/
def AskW (k : Nat) (s : ClR) (c : Nat → Nat) (w : World) (_ : View) (p : Nat × MsgR) (es : List Value) : Prop :=
  p.2 = askMsg s p.1 ∧ ∃ v, es = (askMsg s p.1).cells v nilV nilV nilV nilV ∧ (∃ o q, v = .slice o s.op.data.length q) ∧ (k ≤ p.1 → OwS (view c (20 + p.1) w) v 5 1 s.op.data.length (bvs s.op.data))
theorem AskW.mono {k k' : Nat} {s : ClR} {c c' : Nat → Nat} {w w' : World} {g g' : View} {p : Nat × MsgR} {es : List Value} (h : AskW k s c w g p es) (hk : k ≤ k') (hs : k' ≤ p.1 → Sub (view c (20 + p.1) w) (view c' (20 + p.1) w')) : AskW k' s c' w' g' p es := by
  obtain ⟨e, v, h1, h2, h3⟩ := h; exact ⟨e, v, h1, h2, fun hp => (h3 (by omega)).mono (hs hp)⟩
end Go.Proofs.YtdjgdcafmfheoaaDoor
namespace Go.Proofs.YtdjgdcafmfheoaaDoor.walkCl
open Go.Vc Go.ChangeShapes Go.WideShapes Go.ChangeAt Go.RowKit
attribute [local irreducible] TInt TBool TStr TPtr TSl TAgg TMap TChan T2 T3 T4 BS Req TSome TCell TByte LoadC LoadA StoreC AllocC RunV RunU CallV ExtV EqA StableC StableA StableV TCells ReadV
attribute [local irreducible] eU eT eE
attribute [local irreducible] DrewC eH many rdM wrM eHb rdOp rdAns
theorem plays (n : Int) (l : List StR) (o1 : Option Addr) (p1 : Nat) (w : World) (hT : LsV StQ 61 (wv w) (.slice o1 l.length p1) l) (hG : GlobS (wv w)) :
    CallV Tryd.prog 11 #[.int .i64 n, .slice o1 l.length p1] w fun r w' => r = .bool true ∧ Below w.heap.size w w' := by
  have G : GlobS (view (fun _ => 0) 0 w) := by rw [view0]; exact hG
  have t1 : LsV StQ 61 (view (fun _ => 0) 0 w) (.slice o1 l.length p1) l := by rw [view0]; exact hT
  have S := Fx.start w
  refine law25_ClientPlays_vc ?_
  unfold law25_ClientPlays_VC
  refine speaks25 (fun _ => 0) (G.mono (view_sub _ _ _)) fun c1 w1 st1 => TBool.mk (BS.no rfl ?_)
  replace t1 := t1.mono' (fun _ _ hp => hp.mono (st1.sub (by decide))) (st1.sub (by decide))
  replace S := S.go st1 (by decide) (by decide); replace G := G.mono (st1.sub (by decide))
  refine BS.dec (fun _ => ⟨rfl, fin S⟩) (fun hl => ?_)
  refine New_cl c1 1 (fun hb => ?_) (fun hok a c2 w2 st2 H => ?_)
  · refine T2.mk (TPtr.mk (TInt.mk ?_))
    have k1 : law25_ClientPlays_K1 n o1 l.length p1 none 260 true w1 (fun r w' => r = .bool true ∧ Below w.heap.size w w') := by
      unfold law25_ClientPlays_K1
      refine BS.yes rfl (BS.yes rfl (BS.yes rfl (BS.dec (fun _ => ⟨rfl, fin S⟩) (fun h => ⟨?_, fin S⟩))))
      rw [decide_eq_true (by omega)]
    exact BS.dec (fun _ => k1) (fun h1 => BS.dec (fun _ => k1) (fun h2 => absurd ⟨by omega, by omega⟩ hb))
  replace t1 := t1.mono' (fun _ _ hp => hp.mono (st2.sub (by decide))) (st2.sub (by decide))
  replace S := S.go st2 (by decide) (by decide); replace G := G.mono (st2.sub (by decide))
  refine T2.mk (TPtr.mk (TInt.mk ?_))
  refine BS.dec (fun h => absurd h (by omega)) (fun _ => BS.dec (fun h => absurd h (by omega)) (fun _ => ?_))
  unfold law25_ClientPlays_K1
  refine BS.no rfl ?_
  replace H := H (view c2 2 w2)
  refine AllocC.col c2 3 fun a7 c3 w3 st3 b7 _ => ?_
  replace t1 := t1.mono' (fun _ _ hp => hp.mono (st3.fresh.sub (by decide))) (st3.fresh.sub (by decide)); replace H := H.go st3.fresh (by decide) (by decide)
  replace S := S.go st3.step (by decide) (by decide); replace G := G.mono (st3.step.sub (by decide))
  have K : ClV 77 (view c3 3 w3) (view c3 0 w3) ⟨a7, 0, none⟩ ⟨n, 0, OpR.zero, false⟩ := ⟨a7, nilV, rfl, b7, RdS.none_bytes .., by show 0 < 18446744073709551616; omega⟩
  refine LoopI.up l.length (fun _ w' => ∃ (s : ClR) (c' : Nat → Nat), Fx w c' w' ∧ GlobS (view c' 0 w') ∧ LsV StQ 61 (view c' 0 w') (.slice o1 l.length p1) l ∧ ClV 140 (view c' 1 w') (view c' 2 w') a s ∧ ClV 77 (view c' 3 w') (view c' 0 w') ⟨a7, 0, none⟩ s ∧ (s.waits = true → s.op.data.length ≤ 64)) ⟨⟨n, 0, OpR.zero, false⟩, c3, S, G, t1, H, K, fun h => by simp at h⟩ ?_
  clear S G t1 H K b7
  rintro i w4 B hi ⟨s, c4, S, G, t1, H, K, h64⟩ back
  refine BS.dec (fun hlt => ?_) (fun _ => ⟨rfl, fin S⟩)
  obtain ⟨x, hx⟩ := get_of_lt (l := l) (i := i) (by omega)
  obtain ⟨es, ⟨v, mv, va, ua, vh, vb, rfl, hv, M, ok⟩, E1⟩ := LsV.at (by omega) t1 hx
  have sz := st_len (x := x) (v := v) (mv := mv) (va := va) (ua := ua) (vh := vh) (vb := vb) ok
  have szA : (x.cells v mv va ua vh vb).toArray.size = 61 := by rw [List.size_toArray, sz]
  refine Req.bnd ⟨by omega, by omega⟩ (E1.all (view_sub _ _ _) ?_)
  clear E1
  refine AllocC.col c4 8 fun a9 c5 w5 st5 b8 _ => ?_
  replace t1 := t1.mono' (fun _ _ hp => hp.mono (st5.fresh.sub (by decide))) (st5.fresh.sub (by decide)); replace H := H.go st5.fresh (by decide) (by decide); replace K := K.go st5.fresh (by decide) (by decide); replace M := M.mono (st5.fresh.sub (by decide))
  replace hv := RdS.mono hv (st5.fresh.sub (i := 0) (by decide))
  replace S := S.go st5.step (by decide) (by decide); replace G := G.mono (st5.step.sub (by decide))
  refine RunU.var b8 (by rw [szA]; kernel_rfl) (by rw [szA]; rfl) (st_one hv M) fun w6 st6 b8 => ?_
  replace t1 := t1.mono' (fun _ _ hp => hp.mono (st6.step.sub (by decide))) (st6.step.sub (by decide)); replace H := H.go st6.step (by decide) (by decide); replace K := K.go st6.step (by decide) (by decide)
  replace M := M.mono (st6.step.sub (i := 0) (by decide))
  replace hv := RdS.mono hv (st6.step.sub (i := 0) (by decide))
  replace S := S.go st6.step (by decide) (by decide); replace G := G.mono (st6.step.sub (by decide))
  have k4 : ∀ (s : ClR) c' w', Fx w c' w' ∧ GlobS (view c' 0 w') ∧ LsV StQ 61 (view c' 0 w') (.slice o1 l.length p1) l ∧ ClV 140 (view c' 1 w') (view c' 2 w') a s ∧ ClV 77 (view c' 3 w') (view c' 0 w') ⟨a7, 0, none⟩ s ∧ (s.waits = true → s.op.data.length ≤ 64) → law25_ClientPlays_K4 (some a) ⟨a7, 0, none⟩ o1 l.length p1 (l.length : Int) (i : Int) B w' (fun r w' => r = .bool true ∧ Below w.heap.size w w') := by
    clear S G t1 H K h64 M hv b8
    rintro s c7 w7 ⟨S, G, t1, H, K, h64⟩
    unfold law25_ClientPlays_K4
    refine DrewC.col c7 fun w8 st8 => ?_
    replace t1 := t1.mono' (fun _ _ hp => hp.mono (st8.sub (by decide))) (st8.sub (by decide)); replace H := H.go st8 (by decide) (by decide); replace K := K.go st8 (by decide) (by decide)
    replace S := S.go st8 (by decide) (by decide); replace G := G.mono (st8.sub (by decide))
    obtain ⟨b, u, e, hb, hd, hn⟩ := K
    cases e
    refine LoadC.ad (view_sub _ _ _) (.bool s.waits) hb rfl (TBool.mk ?_)
    refine Waiting_c H (view_sub _ _ _) (TBool.mk ⟨StableC.ad (view_sub _ _ _) hb rfl, ?_⟩)
    refine BS.no (by simp) ?_
    rw [wrap_i64 (by omega) (by omega)]
    exact back _ (by omega) ⟨s, c7, S, G, t1, H, ⟨a7, u, rfl, hb, hd, hn⟩, h64⟩
  refine LoadA.part (view_sub _ _ _) (k := 8) (n := 53) (es := x.m.cells mv va ua vh vb) b8 (by have := msg_sz ok (v := mv) (va := va) (ua := ua) (vh := vh) (vb := vb); simpa using this) st_msg ?_
  refine Great19_c c5 9 (M.mono (view_sub _ _ _)) ok fun b c7 w7 st7 hb => TBool.mk ?_
  replace t1 := t1.mono' (fun _ _ hp => hp.mono (st7.sub (by decide))) (st7.sub (by decide)); replace H := H.go st7 (by decide) (by decide); replace K := K.go st7 (by decide) (by decide); replace M := M.mono (st7.sub (by decide)); replace b8 := st7.sub (by decide) _ _ b8
  replace hv := RdS.mono hv (st7.sub (i := 0) (by decide))
  replace S := S.go st7 (by decide) (by decide); replace G := G.mono (st7.sub (by decide))
  refine BS.mk (fun _ => ⟨rfl, fin S⟩) (fun hf => ?_)
  have hmild := hb hf
  refine LoadA.part (view_sub _ _ _) (k := 2) (n := 6) (es := x.op.cells v) b8 rfl st_op ?_
  refine Great_c c7 9 (h0 := view c7 0 w7) hv fun c8 w8 st8 => TBool.mk ?_
  replace t1 := t1.mono' (fun _ _ hp => hp.mono (st8.sub (by decide))) (st8.sub (by decide)); replace H := H.go st8 (by decide) (by decide); replace K := K.go st8 (by decide) (by decide); replace M := M.mono (st8.sub (by decide)); replace b8 := st8.sub (by decide) _ _ b8
  replace hv := RdS.mono hv (st8.sub (i := 0) (by decide))
  replace S := S.go st8 (by decide) (by decide); replace G := G.mono (st8.sub (by decide))
  unfold law25_ClientPlays_K2
  refine BS.dec (fun _ => ⟨rfl, fin S⟩) (fun hgr => ?_)
  refine LoadC.ad (view_sub _ _ _) (.int .i64 x.kind) b8 rfl (TInt.mk ?_)
  refine BS.mk (fun _ => ?_) (fun _ => BS.mk (fun _ => ?_) (fun _ => ?_))
  · -- a call
    refine LoadA.part (view_sub _ _ _) (k := 2) (n := 6) (es := x.op.cells v) b8 rfl st_op ?_
    refine CopyOp_c c8 6 (RdS.mono hv (view_sub _ _ _)) (by omega) fun v9 c9 w9 st9 ho => TAgg.mk ?_
    replace t1 := t1.mono' (fun _ _ hp => hp.mono (st9.sub (by decide))) (st9.sub (by decide)); replace H := H.go st9 (by decide) (by decide); replace K := K.go st9 (by decide) (by decide); replace b8 := st9.sub (by decide) _ _ b8
    replace hv := RdS.mono hv (st9.sub (i := 0) (by decide))
    replace S := S.go st9 (by decide) (by decide); replace G := G.mono (st9.sub (by decide))
    refine AllocC.col c9 7 fun a10 c10 w10 st10 b7 _ => ?_
    replace t1 := t1.mono' (fun _ _ hp => hp.mono (st10.fresh.sub (by decide))) (st10.fresh.sub (by decide)); replace H := H.go st10.fresh (by decide) (by decide); replace K := K.go st10.fresh (by decide) (by decide); replace b8 := st10.fresh.sub (by decide) _ _ b8; replace ho := ho.mono (st10.fresh.sub (by decide))
    replace hv := RdS.mono hv (st10.fresh.sub (i := 0) (by decide))
    replace S := S.go st10.step (by decide) (by decide); replace G := G.mono (st10.step.sub (by decide))
    refine RunU.var b7 (by kernel_rfl) rfl (by rw [Array.all_eq_true']; intro u hu; exact (op_one ho.rd (o := x.op)).2 u (by simpa using hu)) fun w11 st11 b7 => ?_
    replace t1 := t1.mono' (fun _ _ hp => hp.mono (st11.step.sub (by decide))) (st11.step.sub (by decide)); replace H := H.go st11.step (by decide) (by decide); replace K := K.go st11.step (by decide) (by decide); replace b8 := st11.step.sub (by decide) _ _ b8; replace ho := ho.mono (st11.step.sub (by decide))
    replace hv := RdS.mono hv (st11.step.sub (i := 0) (by decide))
    replace S := S.go st11.step (by decide) (by decide); replace G := G.mono (st11.step.sub (by decide))
    obtain ⟨oc, pc, rfl⟩ := ho.form
    refine LoadA.all (view_sub _ _ _) b7 rfl ?_
    refine Call_cl (i := 1) (k := 2) (t := 9) (by decide) (by decide) (by decide) H (ho.rd.mono (view_sub _ _ _)) fun c12 w12 st12 H => ?_
    replace t1 := t1.mono' (fun _ _ hp => hp.mono (st12.sub (by decide))) (st12.sub (by decide)); replace K := K.go st12 (by decide) (by decide); replace b8 := st12.sub (by decide) _ _ b8; replace b7 := st12.sub (by decide) _ _ b7; replace ho := ho.mono (st12.sub (by decide))
    replace hv := RdS.mono hv (st12.sub (i := 0) (by decide))
    replace S := S.go st12 (by decide) (by decide); replace G := G.mono (st12.sub (by decide))
    refine T2.mk (TInt.mk (TInt.mk ?_))
    refine LoadA.part (view_sub _ _ _) (k := 2) (n := 6) (es := x.op.cells v) b8 rfl st_op ?_
    refine Call_rf (i := 3) (q := 0) (t := 9) (by decide) (by decide) K hv fun c13 w13 st13 K => ?_
    replace t1 := t1.mono' (fun _ _ hp => hp.mono (st13.sub (by decide))) (st13.sub (by decide)); replace H := H.go st13 (by decide) (by decide); replace b7 := st13.sub (by decide) _ _ b7; replace ho := ho.mono (st13.sub (by decide))
    replace S := S.go st13 (by decide) (by decide); replace G := G.mono (st13.sub (by decide))
    refine T2.mk (TInt.mk (TInt.mk (BS.no (bne_same _) ?_)))
    rw [bne_same]
    unfold law25_ClientPlays_K3
    refine BS.no rfl ?_
    refine LoadC.ad (view_sub _ _ _) (.slice oc x.op.data.length pc) b7 rfl (TSl.mk ?_)
    have h64' := call64 (o := x.op) h64
    generalize (clCall s x.op).1 = s' at H K h64'
    refine LoopI.up x.op.data.length (fun _ w' => ∃ (s : ClR) (c' : Nat → Nat) (ys : List Value), view c' 7 w' a10 = some (.cells (x.op.cells (.slice oc x.op.data.length pc)).toArray 28 (0, 0)) ∧ OwS (view c' 6 w') (.slice oc x.op.data.length pc) 5 1 x.op.data.length ys ∧ Fx w c' w' ∧ GlobS (view c' 0 w') ∧ LsV StQ 61 (view c' 0 w') (.slice o1 l.length p1) l ∧ ClV 140 (view c' 1 w') (view c' 2 w') a s ∧ ClV 77 (view c' 3 w') (view c' 0 w') ⟨a7, 0, none⟩ s ∧ (s.waits = true → s.op.data.length ≤ 64)) ⟨s', c13, _, b7, ho, S, G, t1, H, K, h64'⟩ ?_
    clear S G t1 H K h64 h64' b7 ho b8 hv M
    rintro j w14 B2 hj ⟨s, c14, ys, b7, ho, S, G, t1, H, K, h64⟩ back2
    refine BS.dec (fun hlj => ?_) (fun _ => k4 s c14 w14 ⟨S, G, t1, H, K, h64⟩)
    refine LoadC.ad (view_sub _ _ _) (.slice oc x.op.data.length pc) b7 rfl (TSl.mk ?_)
    refine Req.bnd ⟨by omega, by omega⟩ (ho.put (by omega) fun w15 ys' st15 ho => ?_)
    replace t1 := t1.mono' (fun _ _ hp => hp.mono (st15.sub (by decide))) (st15.sub (by decide)); replace H := H.go st15 (by decide) (by decide); replace K := K.go st15 (by decide) (by decide); replace b7 := st15.sub (by decide) _ _ b7
    replace S := S.go st15 (by decide) (by decide); replace G := G.mono (st15.sub (by decide))
    rw [wrap_i64 (by omega) (by omega)]
    exact back2 _ (by omega) ⟨s, c14, ys', b7, ho, S, G, t1, H, K, h64⟩
  · -- what is asked
    refine DrewC.col c8 fun w9 st9 => ?_
    replace t1 := t1.mono' (fun _ _ hp => hp.mono (st9.sub (by decide))) (st9.sub (by decide)); replace H := H.go st9 (by decide) (by decide); replace K := K.go st9 (by decide) (by decide); replace b8 := st9.sub (by decide) _ _ b8
    replace S := S.go st9 (by decide) (by decide); replace G := G.mono (st9.sub (by decide))
    refine LoadC.ad (view_sub _ _ _) (.int .i64 x.n) b8 rfl (TInt.mk ?_)
    refine LoadC.ad (view_sub _ _ _) (.int .i64 x.n) b8 rfl (TInt.mk ?_)
    refine Ask_cl c8 H.all h64 fun v10 c10 w10 st10 L1 => ?_
    replace t1 := t1.mono' (fun _ _ hp => hp.mono (st10.sub (by decide))) (st10.sub (by decide)); replace H := H.go st10 (by decide) (by decide); replace K := K.go st10 (by decide) (by decide); replace b8 := st10.sub (by decide) _ _ b8
    replace S := S.go st10 (by decide) (by decide); replace G := G.mono (st10.sub (by decide))
    obtain ⟨oL, pL, rfl⟩ := L1.form
    refine TSl.mk ⟨StableC.ad (view_sub _ _ _) b8 rfl, ?_⟩
    refine Ask_rf c10 3 0 K fun v11 vd c11 w11 st11 hvd k1 => ?_
    replace t1 := t1.mono' (fun _ _ hp => hp.mono (st11.sub (by decide))) (st11.sub (by decide)); replace H := H.go st11 (by decide) (by decide); replace K := K.go st11 (by decide) (by decide); replace L1 := AskL.go L1 st11 (by decide) (fun i => by simp <;> omega)
    replace S := S.go st11 (by decide) (by decide); replace G := G.mono (st11.sub (by decide))
    obtain ⟨oM, pM, rfl⟩ := k1.form
    refine TSl.mk (BS.no (bne_same _) ?_)
    have hn : s.number < 18446744073709551616 := by obtain ⟨_, _, _, _, _, h⟩ := K; exact h
    have L1 := L1.map (Q := AskW 0 s c11 w11) (g' := wv w11) (fun p es hp => by
      obtain ⟨e, v, h1, h2⟩ := hp
      exact ⟨e, v, h1, h2.form, fun _ => h2⟩) (fun _ _ h => h)
    have k1 := k1.map (Q := AskQ s vd) (g' := wv w11) (fun p es hp => hp) (fun _ _ h => h)
    generalize wv w11 = g at L1 k1
    clear b8 hv M
    refine LoopI.up (askL s x.n).length (fun j w' => ∃ c', (Fx w c' w' ∧ GlobS (view c' 0 w') ∧ LsV StQ 61 (view c' 0 w') (.slice o1 l.length p1) l ∧ ClV 140 (view c' 1 w') (view c' 2 w') a s ∧ ClV 77 (view c' 3 w') (view c' 0 w') ⟨a7, 0, none⟩ s ∧ (s.waits = true → s.op.data.length ≤ 64)) ∧ RdS (view c' 0 w') vd 1 s.op.data.length (bvs s.op.data) ∧ LsO (AskW j s c' w') 38 53 (view c' 4 w') g (.slice oL (askL s x.n).length pL) (askL s x.n) ∧
      LsO (AskQ s vd) 38 53 (view c' 5 w') g (.slice oM (askL s x.n).length pM) (askL s x.n)) ⟨c11, ⟨S, G, t1, H, K, h64⟩, hvd, L1, k1⟩ ?_
    clear S G t1 H K L1 k1 hvd
    rintro j w12 B2 hj ⟨c12, ⟨S, G, t1, H, K, _⟩, hvd, L1, k1⟩ back2
    refine BS.dec (fun hlj => ?_) (fun _ => k4 s c12 w12 ⟨S, G, t1, H, K, h64⟩)
    refine DrewC.col c12 fun w13 st13 => ?_
    replace t1 := t1.mono' (fun _ _ hp => hp.mono (st13.sub (by decide))) (st13.sub (by decide)); replace H := H.go st13 (by decide) (by decide); replace K := K.go st13 (by decide) (by decide); replace hvd := hvd.mono (st13.sub (by decide)); replace k1 := k1.mono' (fun _ _ hp => hp) (st13.sub (by decide))
    replace S := S.go st13 (by decide) (by decide); replace G := G.mono (st13.sub (by decide))
    replace L1 := L1.map (Q := AskW j s c12 w13) (g' := g) (fun _ _ hp => hp.mono (Nat.le_refl _) (fun _ => st13.sub (by simp))) (st13.sub (by decide))
    obtain ⟨p, hp⟩ := get_of_lt (l := askL s x.n) (i := j) (by omega)
    have hpj : p = (j, askMsg s j) ∧ j < 7 := by
      cases hw : s.waits
      · rw [askL_no hw] at hp; simp at hp
      · rw [askL_yes hw] at hp
        have := upL_get hp
        have h7 := askN_le x.n
        exact ⟨this.1, by omega⟩
    obtain ⟨rfl, hj7⟩ := hpj
    obtain ⟨es1, ⟨_, v1, rfl, ⟨ov, qv, rfl⟩, hv1⟩, F1⟩ := LsO.at' (by omega) L1 hp
    replace hv1 := hv1 (Nat.le_refl j)
    obtain ⟨es2, ⟨_, he2⟩, F2⟩ := LsO.at' (by omega) k1 hp
    replace he2 : es2 = (askMsg s j).cells vd nilV nilV nilV nilV := he2
    subst he2
    refine Req.bnd ⟨by omega, by omega⟩ (F1.all (view_sub _ _ _) (Req.bnd ⟨by omega, by omega⟩ (F2.all (view_sub _ _ _) ?_)))
    refine Same19_c c12 9 (askV (hv1.rd.mono (view_sub _ _ _))) (askV (hvd.mono (view_sub _ _ _))) (askMsg_ok hn j) (askMsg_ok hn j) (askMsg_fair s j) fun b c14 w14 st14 hb => TBool.mk ?_
    replace t1 := t1.mono' (fun _ _ hp => hp.mono (st14.sub (by decide))) (st14.sub (by decide)); replace H := H.go st14 (by decide) (by decide); replace K := K.go st14 (by decide) (by decide); replace hvd := hvd.mono (st14.sub (by decide)); replace k1 := k1.mono' (fun _ _ hp => hp) (st14.sub (by decide))
    replace S := S.go st14 (by decide) (by decide); replace G := G.mono (st14.sub (by decide))
    replace L1 := L1.map (Q := AskW j s c14 w14) (g' := g) (fun _ _ hp => hp.mono (Nat.le_refl _) (fun _ => st14.sub (by simp))) (st14.sub (by decide))
    replace F1 := F1.mono (st14.sub (by decide))
    replace hv1 := hv1.mono (st14.sub (by simp))
    rw [hb.2 rfl]
    refine BS.no rfl ?_
    have gt := (msg_gets (m := askMsg s j) (v := .slice ov s.op.data.length qv) (va := nilV) (ua := nilV) (vh := nilV) (vb := nilV) (askMsg_ok hn j).2.2.2.2.2.1).p41 5 _ rfl
    rw [List.getElem?_toArray] at gt
    refine Req.bnd ⟨by omega, by omega⟩ (F1.ld3 (by omega) (view_sub _ _ _) (j := 39) (m := 2) (n := 5) gt (TSl.mk ?_))
    have L1 := L1.map (Q := AskW (j + 1) s c14 w14) (g' := g) (fun _ _ hp => hp.mono (by omega) (fun _ _ _ h => h)) (fun _ _ h => h)
    refine LoopI.up s.op.data.length (fun k w' => ∃ (c' : Nat → Nat) (ys : List Value), (Fx w c' w' ∧ GlobS (view c' 0 w') ∧ LsV StQ 61 (view c' 0 w') (.slice o1 l.length p1) l ∧ ClV 140 (view c' 1 w') (view c' 2 w') a s ∧ ClV 77 (view c' 3 w') (view c' 0 w') ⟨a7, 0, none⟩ s ∧ (s.waits = true → s.op.data.length ≤ 64)) ∧ OwS (view c' (20 + j) w') (.slice ov s.op.data.length qv) 5 1 s.op.data.length ys ∧ Elt (view c' 4 w') oL 53 j ((askMsg s j).cells (.slice ov s.op.data.length qv) nilV nilV nilV nilV) ∧ RdS (view c' 0 w') vd 1 s.op.data.length (bvs s.op.data) ∧ LsO (AskW (j + 1) s c' w') 38 53 (view c' 4 w') g (.slice oL (askL s x.n).length pL) (askL s x.n) ∧
      LsO (AskQ s vd) 38 53 (view c' 5 w') g (.slice oM (askL s x.n).length pM) (askL s x.n)) ⟨c14, _, ⟨S, G, t1, H, K, h64⟩, hv1, F1, hvd, L1, k1⟩ ?_
    clear S G t1 H K L1 k1 hvd hv1 F1 F2
    have h7 : (askL s x.n).length ≤ 7 := by
      cases hw : s.waits
      · rw [askL_no hw]; simp
      · rw [askL_yes hw, upL_length]; exact askN_le _
    rintro k w15 B3 hk ⟨c15, ys, ⟨S, G, t1, H, K, _⟩, hv1, F1, hvd, L1, k1⟩ back3
    refine BS.dec (fun hlk => ?_) (fun _ => ?_)
    · refine Req.bnd ⟨by omega, by omega⟩ (F1.ld3 (by omega) (view_sub _ _ _) (j := 39) (m := 2) (n := 5) gt (TSl.mk ?_))
      refine Req.bnd ⟨by omega, by omega⟩ (hv1.put (by omega) fun w16 ys' st16 hv1 => ?_)
      have hz : ∀ i, i < 10 → i ∉ [20 + j] := fun i hi => by rw [List.mem_singleton]; omega
      replace S := S.go st16 (ask20w hj7) (by simp)
      replace G := G.mono (st16.sub (hz 0 (by omega)))
      replace t1 := t1.mono' (fun _ _ hp => hp.mono (st16.sub (hz 0 (by omega)))) (st16.sub (hz 0 (by omega)))
      replace H := H.go st16 (hz 1 (by omega)) (hz 2 (by omega))
      replace K := K.go st16 (hz 3 (by omega)) (hz 0 (by omega))
      replace hvd := hvd.mono (st16.sub (hz 0 (by omega)))
      replace F1 := F1.mono (st16.sub (hz 4 (by omega)))
      replace L1 := L1.map (Q := AskW (j + 1) s c15 w16) (g' := g) (fun p _ hp => hp.mono (Nat.le_refl _) (fun hlt => st16.sub (by rw [List.mem_singleton]; omega))) (st16.sub (hz 4 (by omega)))
      replace k1 := k1.map (Q := AskQ s vd) (g' := g) (fun _ _ hp => hp) (st16.sub (hz 5 (by omega)))
      have hk64 : s.op.data.length ≤ 9223372036854775807 := by
        have := hv1.2
        rcases this with ⟨_, h0⟩ | ⟨_, cap, _, _, _, h1, h2, _⟩
        · omega
        · simp only [maxLen] at h2; omega
      rw [wrap_i64 (by omega) (by omega)]
      exact back3 _ (by omega) ⟨c15, ys', ⟨S, G, t1, H, K, h64⟩, hv1, F1, hvd, L1, k1⟩
    · rw [wrap_i64 (by omega) (by omega)]
      exact back2 _ (by omega) ⟨c15, ⟨S, G, t1, H, K, h64⟩, hvd, L1, k1⟩
  · -- a message
    refine LoadA.part (view_sub _ _ _) (k := 8) (n := 53) (es := x.m.cells mv va ua vh vb) b8 (by have := msg_sz ok (v := mv) (va := va) (ua := ua) (vh := vh) (vb := vb); simpa using this) st_msg ?_
    refine Take_cl 1 2 0 4 5 6 7 (by decide) H M ok (G.mono (view_sub _ _ _)) fun y z c9 w9 st9 H A => ?_
    replace t1 := t1.mono' (fun _ _ hp => hp.mono (st9.sub (by decide))) (st9.sub (by decide)); replace K := K.go st9 (by decide) (by decide); replace M := M.mono (st9.sub (by decide)); replace b8 := st9.sub (by decide) _ _ b8
    replace S := S.go st9 (by decide) (by decide); replace G := G.mono (st9.sub (by decide))
    refine T2.mk (TAgg.mk (TBool.mk ?_))
    refine AllocC.col c9 9 fun a10 c10 w10 st10 b9 _ => ?_
    replace t1 := t1.mono' (fun _ _ hp => hp.mono (st10.fresh.sub (by decide))) (st10.fresh.sub (by decide)); replace H := H.go st10.fresh (by decide) (by decide); replace K := K.go st10.fresh (by decide) (by decide); replace M := M.mono (st10.fresh.sub (by decide)); replace b8 := st10.fresh.sub (by decide) _ _ b8; replace A := A.mono (st10.fresh.sub (by decide))
    replace S := S.go st10.step (by decide) (by decide); replace G := G.mono (st10.step.sub (by decide))
    refine RunU.var b9 (by kernel_rfl) rfl (ans_all A) fun w11 st11 b9 => ?_
    replace t1 := t1.mono' (fun _ _ hp => hp.mono (st11.step.sub (by decide))) (st11.step.sub (by decide)); replace H := H.go st11.step (by decide) (by decide); replace K := K.go st11.step (by decide) (by decide); replace b8 := st11.step.sub (by decide) _ _ b8; replace A := A.mono (st11.step.sub (by decide))
    replace M := M.mono (st11.step.sub (i := 0) (by decide))
    replace S := S.go st11.step (by decide) (by decide); replace G := G.mono (st11.step.sub (by decide))
    refine LoadA.part (view_sub _ _ _) (k := 8) (n := 53) (es := x.m.cells mv va ua vh vb) b8 (by have := msg_sz ok (v := mv) (va := va) (ua := ua) (vh := vh) (vb := vb); simpa using this) st_msg ?_
    refine Take_rf 3 0 0 4 5 (by decide) (by decide) K M ok hmild.fair fun y' z' c12 w12 st12 K A' => ?_
    replace t1 := t1.mono' (fun _ _ hp => hp.mono (st12.sub (by decide))) (st12.sub (by decide)); replace H := H.go st12 (by decide) (by decide); replace b9 := st12.sub (by decide) _ _ b9; replace A := A.mono (st12.sub (by decide))
    replace S := S.go st12 (by decide) (by decide); replace G := G.mono (st12.sub (by decide))
    refine T2.mk (TAgg.mk (TBool.mk ?_))
    refine AllocC.col c12 4 fun a13 c13 w13 st13 b4 _ => ?_
    replace t1 := t1.mono' (fun _ _ hp => hp.mono (st13.fresh.sub (by decide))) (st13.fresh.sub (by decide)); replace H := H.go st13.fresh (by decide) (by decide); replace K := K.go st13.fresh (by decide) (by decide); replace b9 := st13.fresh.sub (by decide) _ _ b9; replace A := A.mono (st13.fresh.sub (by decide)); replace A' := A'.mono (st13.fresh.sub (by decide))
    replace S := S.go st13.step (by decide) (by decide); replace G := G.mono (st13.step.sub (by decide))
    refine RunU.var b4 (by kernel_rfl) rfl (ans_all A') fun w14 st14 b4 => ?_
    replace t1 := t1.mono' (fun _ _ hp => hp.mono (st14.step.sub (by decide))) (st14.step.sub (by decide)); replace H := H.go st14.step (by decide) (by decide); replace K := K.go st14.step (by decide) (by decide); replace b9 := st14.step.sub (by decide) _ _ b9; replace A := A.mono (st14.step.sub (by decide)); replace A' := A'.mono (st14.step.sub (by decide))
    replace S := S.go st14.step (by decide) (by decide); replace G := G.mono (st14.step.sub (by decide))
    refine BS.no (by simp) ?_
    refine LoadA.all (view_sub _ _ _) b9 rfl (LoadA.all (view_sub _ _ _) b4 rfl ?_)
    refine SameAns_c c13 5 (A.mono (view_sub _ _ _)) (A'.mono (view_sub _ _ _)) (take_names hmild) fun c15 w15 st15 => TBool.mk ?_
    replace t1 := t1.mono' (fun _ _ hp => hp.mono (st15.sub (by decide))) (st15.sub (by decide)); replace H := H.go st15 (by decide) (by decide); replace K := K.go st15 (by decide) (by decide)
    replace S := S.go st15 (by decide) (by decide); replace G := G.mono (st15.sub (by decide))
    refine BS.no (by simp) ?_
    exact k4 _ _ _ ⟨S, G, t1, H, K, take64 h64⟩
end Go.Proofs.YtdjgdcafmfheoaaDoor.walkCl

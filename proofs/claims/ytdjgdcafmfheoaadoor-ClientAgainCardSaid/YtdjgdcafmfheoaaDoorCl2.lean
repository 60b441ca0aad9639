/-
  Clients: what is asked.
-/
import Derived.Test.YtdjgdcafmfheoaaDoorCl1
set_option linter.unusedVariables false
set_option linter.unusedSimpArgs false
namespace Go.Vc
open Go
/-- what was there has colour 0; a function's own has colours 1 to 9 and 20 to 26 -/
abbrev Fx (w0 : World) (c : Nat → Nat) (w : World) : Prop := Step (fun _ => 0) [1, 2, 3, 4, 5, 6, 7, 8, 9, 20, 21, 22, 23, 24, 25, 26] [0, 1, 2, 3, 4, 5, 6, 7, 8, 9, 20, 21, 22, 23, 24, 25, 26] w0 c w
theorem Fx.start (w : World) : Fx w (fun _ => 0) w := .refl ..
theorem Fx.go {w0 : World} {c c' : Nat → Nat} {w w' : World} {W N : List Nat} (S : Fx w0 c w) (st : Step c W N w c' w') (hW : ∀ x ∈ W, x ∈ [1, 2, 3, 4, 5, 6, 7, 8, 9, 20, 21, 22, 23, 24, 25, 26]) (hN : ∀ x ∈ N, x ∈ [0, 1, 2, 3, 4, 5, 6, 7, 8, 9, 20, 21, 22, 23, 24, 25, 26]) : Fx w0 c' w' :=
  S.trans (st.weak hW hN)
def extc (c0 : Nat → Nat) (n : Nat) (c : Nat → Nat) : Nat → Nat := fun b => if b < n then c0 b else c b
theorem extc_old {c0 c : Nat → Nat} {n b : Nat} (h : b < n) : extc c0 n c b = c0 b := by simp [extc, h]
theorem extc_new {c0 c : Nat → Nat} {n b : Nat} (h : n ≤ b) : extc c0 n c b = c b := by simp [extc, Nat.not_lt.2 h]
theorem Fx.leave {w0 : World} {c : Nat → Nat} {w : World} (S : Fx w0 c w) (c0 : Nat → Nat) : Step c0 [] [0, 1, 2, 3, 4, 5, 6, 7, 8, 9, 20, 21, 22, 23, 24, 25, 26] w0 (extc c0 w0.heap.size c) w :=
  ⟨S.os, S.tape, S.output, S.size, fun b hb => extc_old hb, fun b h1 h2 => by rw [extc_new h1]; exact S.new b h1 h2, fun b hb _ => S.keep b hb (by simp)⟩
theorem Fx.out {w0 : World} {c : Nat → Nat} {w : World} (S : Fx w0 c w) (c0 : Nat → Nat) {k : Nat} (hk : k ≠ 0) : Sub (view c k w) (view (extc c0 w0.heap.size c) k w) := fun b o hb => by
  obtain ⟨hc, ho⟩ := view_out hb
  refine view_in ?_ ho
  rcases Nat.lt_or_ge b w0.heap.size with h | h
  · exact absurd ((S.col b h).symm.trans hc) (fun e => hk e.symm)
  · rw [extc_new h]; exact hc
theorem LsO.map {α : Type} {P Q : View → α → List Value → Prop} {T z : Nat} {h g h' g' : View} {v : Value} {l : List α} (hl : LsO P T z h g v l) (hPQ : ∀ a es, P g a es → Q g' a es) (hs : Sub h h') : LsO Q T z h' g' v l := by
  obtain ⟨xs, hr, hx⟩ := hl
  exact ⟨xs, hr.mono hs, fun i a hi => hPQ _ _ (hx i a hi)⟩
def askMsg (s : ClR) (i : Nat) : MsgR := ⟨1, IntKind.wrap .i64 (100 + s.id), (i : Int), 0, 0, 0, 0, List.replicate 32 0, s.id, s.number, s.op, AnsR.zero, [], []⟩
theorem askMsg_ok {s : ClR} (h : s.number < 18446744073709551616) (i : Nat) : (askMsg s i).ok := by
  unfold MsgR.ok askMsg; simp; exact h
theorem askMsg_fair (s : ClR) (i : Nat) : (askMsg s i).fair := by
  unfold MsgR.fair askMsg AnsR.zero; simp
def askN (n : Int) : Nat := (min n 7).toNat
def askL (s : ClR) (n : Int) : List (Nat × MsgR) := if s.waits = true then (List.range (askN n)).map (fun i => (i, askMsg s i)) else []
def upL (s : ClR) (i : Nat) : List (Nat × MsgR) := (List.range i).map (fun i => (i, askMsg s i))
theorem upL_succ (s : ClR) (i : Nat) : upL s (i + 1) = upL s i ++ [(i, askMsg s i)] := by unfold upL; rw [List.range_succ, List.map_append]; rfl
theorem upL_length (s : ClR) (i : Nat) : (upL s i).length = i := by unfold upL; simp
theorem askN_le (n : Int) : askN n ≤ 7 := by unfold askN; omega
theorem askL_yes {s : ClR} (h : s.waits = true) (n : Int) : askL s n = upL s (askN n) := by unfold askL upL; rw [if_pos h]
theorem askL_no {s : ClR} (h : s.waits = false) (n : Int) : askL s n = [] := by unfold askL; rw [if_neg (by simp [h])]
theorem upL_get {s : ClR} {i k : Nat} {p : Nat × MsgR} (h : (upL s i)[k]? = some p) : p = (k, askMsg s k) ∧ k < i := by
  unfold upL at h
  rw [List.getElem?_map] at h
  have hk : k < i := by
    rcases Nat.lt_or_ge k i with h' | h'
    · exact h'
    · rw [List.getElem?_eq_none (by simpa using h')] at h; simp at h
  rw [List.getElem?_range hk] at h
  simp at h
  exact ⟨h.symm, hk⟩
section
variable {k f t : Int} {ns : List Nat} {hd : List UInt8} {cl : Int} {nm : Nat} {oc ac : List Value} {vh vb : Value}
theorem mcl_call {cl' : Int} {nm' : Nat} {oc' : List Value} (h4 : ns.length = 4) (h32 : hd.length = 32) (h6 : oc.length = 6) (h6' : oc'.length = 6) :
    (mcl k f t ns hd cl nm oc ac vh vb).take 39 ++ (.int .i64 cl' :: u64v nm' :: oc') ++ (mcl k f t ns hd cl nm oc ac vh vb).drop (39 + (Value.int .i64 cl' :: u64v nm' :: oc').length) = mcl k f t ns hd cl' nm' oc' ac vh vb := by
  unfold mcl
  have e : ∀ (x y : Value) (z : List Value), ([.int .i64 k, .int .i64 f, .int .i64 t] : List Value) ++ (ns.map u64v ++ (bvs hd ++ (x :: y :: (z ++ (ac ++ [vh, vb]))))) =
      (([.int .i64 k, .int .i64 f, .int .i64 t] : List Value) ++ ns.map u64v ++ bvs hd) ++ (x :: y :: z) ++ (ac ++ [vh, vb]) := fun x y z => by simp
  rw [e, e]
  exact part_at (by simp [h4, h32]) (by simp [h6, h6'])
theorem mcl_data {x : List Value} {v v' : Value} (h4 : ns.length = 4) (h32 : hd.length = 32) (h5 : x.length = 5) : (mcl k f t ns hd cl nm (x ++ [v]) ac vh vb).set 46 v' = mcl k f t ns hd cl nm (x ++ [v']) ac vh vb := by
  unfold mcl
  have e : ∀ z : Value, ([.int .i64 k, .int .i64 f, .int .i64 t] : List Value) ++ (ns.map u64v ++ (bvs hd ++ (.int .i64 cl :: u64v nm :: ((x ++ [z]) ++ (ac ++ [vh, vb]))))) =
      (([.int .i64 k, .int .i64 f, .int .i64 t] : List Value) ++ ns.map u64v ++ bvs hd ++ [.int .i64 cl, u64v nm] ++ x) ++ z :: (ac ++ [vh, vb]) := fun z => by simp
  rw [e, e]
  exact set_at (by simp [h4, h32, h5])
end
end Go.Vc
namespace Go.Proofs.YtdjgdcafmfheoaaDoor
open Go.Vc
attribute [local irreducible] TInt TBool TStr TPtr TSl TAgg TMap TChan T2 T3 T4 BS Req TSome TCell TByte LoadC LoadA StoreC AllocC RunV RunU CallV ExtV EqA StableC StableA StableV TCells ReadV
attribute [local irreducible] eU eT eE
attribute [local irreducible] DrewC eH many rdM wrM eHb rdOp rdAns
theorem slMsg : SlT Tryd.prog 56 38 53 296 := .of (by kernel_rfl)
/-- the i-th message of a list: its data has colour 20 + i -/
def AskP (s : ClR) (c : Nat → Nat) (w : World) (_ : View) (p : Nat × MsgR) (es : List Value) : Prop :=
  p.2 = askMsg s p.1 ∧ ∃ v, es = (askMsg s p.1).cells v nilV nilV nilV nilV ∧ OwS (view c (20 + p.1) w) v 5 1 s.op.data.length (bvs s.op.data)
theorem AskP.mono {s : ClR} {c c' : Nat → Nat} {w w' : World} {g g' : View} {p : Nat × MsgR} {es : List Value} (h : AskP s c w g p es) (hs : Sub (view c (20 + p.1) w) (view c' (20 + p.1) w')) : AskP s c' w' g' p es := by
  obtain ⟨e, v, h1, h2⟩ := h; exact ⟨e, v, h1, h2.mono hs⟩
theorem askV {s : ClR} {i : Nat} {h : View} {v : Value} (hv : RdS h v 1 s.op.data.length (bvs s.op.data)) : MsgV h (askMsg s i) v nilV nilV nilV nilV := ⟨hv, ⟨RdS.none_bytes .., RdS.none_strs ..⟩, LsV.nil .., LsV.nil ..⟩
theorem askP_one {s : ClR} {c : Nat → Nat} {w : World} {g : View} (p : Nat × MsgR) (es : List Value) (h : AskP s c w g p es) : ∀ u ∈ es, u.oneCell' = true := by
  obtain ⟨_, v, rfl, hv⟩ := h
  exact msg_one (askV hv.rd)
theorem built_ask {s : ClR} {i : Nat} {v : Value} {es : List Value} (he : es = .int .i64 s.id :: u64v s.number :: s.op.cells v) :
    buildCells Tryd.prog 38 [(0, .int .i64 1), (1, .int .i64 (IntKind.wrap .i64 (100 + s.id))), (2, .int .i64 (i : Int)), (8, .agg es.toArray)] = some ((askMsg s i).cells v nilV nilV nilV nilV).toArray := by
  subst he
  unfold buildCells
  rw [built_of placesMsg]
  have e : MsgR.zero.cells nilV nilV nilV nilV nilV = mcl 0 0 0 [0, 0, 0, 0] (List.replicate 32 0) 0 0 zopL zanL nilV nilV := mcl_msg MsgR.zero nilV nilV nilV nilV nilV
  have z32 : (List.replicate 32 (0 : UInt8)).length = 32 := by simp
  have ln : ∀ (k f t : Int), (mcl k f t [0, 0, 0, 0] (List.replicate 32 0) 0 0 zopL zanL nilV nilV).length = 53 := fun k f t => mcl_len rfl z32 rfl rfl
  rw [e]
  rw [fill_one (off := 0) rfl rfl (by rw [ln]; omega), show (mcl 0 0 0 [0, 0, 0, 0] (List.replicate 32 0) 0 0 zopL zanL nilV nilV).set 0 (.int .i64 1) = mcl 1 0 0 [0, 0, 0, 0] (List.replicate 32 0) 0 0 zopL zanL nilV nilV from rfl]
  rw [fill_one (off := 1) rfl rfl (by rw [ln]; omega), show (mcl 1 0 0 [0, 0, 0, 0] (List.replicate 32 0) 0 0 zopL zanL nilV nilV).set 1 (.int .i64 (IntKind.wrap .i64 (100 + s.id))) = mcl 1 (IntKind.wrap .i64 (100 + s.id)) 0 [0, 0, 0, 0] (List.replicate 32 0) 0 0 zopL zanL nilV nilV from rfl]
  rw [fill_one (off := 2) rfl rfl (by rw [ln]; omega), show (mcl 1 (IntKind.wrap .i64 (100 + s.id)) 0 [0, 0, 0, 0] (List.replicate 32 0) 0 0 zopL zanL nilV nilV).set 2 (.int .i64 (i : Int)) = mcl 1 (IntKind.wrap .i64 (100 + s.id)) i [0, 0, 0, 0] (List.replicate 32 0) 0 0 zopL zanL nilV nilV from rfl]
  rw [fill_cons (off := 39) (vs := .int .i64 s.id :: u64v s.number :: s.op.cells v) rfl rfl (by rw [ln]; simp [OpR.cells]), mcl_call rfl z32 rfl rfl]
  rw [mcl_msg]; rfl
theorem ask_set {s : ClR} {i : Nat} {v v' : Value} : ((askMsg s i).cells v nilV nilV nilV nilV).set 46 v' = (askMsg s i).cells v' nilV nilV nilV nilV := by
  rw [mcl_msg, mcl_msg]
  have h32 : (askMsg s i).head.length = 32 := by unfold askMsg; simp
  exact mcl_data (x := [.int .i64 s.op.kind, sv s.op.path, sv s.op.to, .int .i64 s.op.off, .int .i64 s.op.n]) rfl h32 rfl
theorem ask20 {i : Nat} (h : i < 7) : ∀ x ∈ [20 + i], x ∈ [0, 1, 2, 3, 4, 5, 6, 7, 8, 9, 20, 21, 22, 23, 24, 25, 26] := by
  intro x hx; rw [List.mem_singleton] at hx; subst hx
  match i, h with
  | 0, _ | 1, _ | 2, _ | 3, _ | 4, _ | 5, _ | 6, _ => decide
theorem ClR.part {s : ClR} {v : Value} : ∀ (j : Nat) (u : Value), (.int .i64 s.id :: u64v s.number :: s.op.cells v : List Value)[j]? = some u → (s.cells v).toArray[0 + j]? = some u := by
  intro j u hu
  rw [Nat.zero_add, List.getElem?_toArray]
  unfold ClR.cells
  have := lt_of_get hu
  have e : (.int .i64 s.id :: u64v s.number :: (s.op.cells v ++ [.bool s.waits]) : List Value) = (.int .i64 s.id :: u64v s.number :: s.op.cells v) ++ [.bool s.waits] := rfl
  rw [e, List.getElem?_append_left this]; exact hu
theorem Ask_cl (c0 : Nat → Nat) {w : World} {a : Addr} {s : ClR} {n : Int} {R : Value → World → Prop} (hH : ClV 140 (wv w) (wv w) a s) (hd64 : s.waits = true → s.op.data.length ≤ 64)
    (h : ∀ v c' w', Step c0 [] [0, 1, 2, 3, 4, 5, 6, 7, 8, 9, 20, 21, 22, 23, 24, 25, 26] w c' w' → LsO (AskP s c' w') 38 53 (view c' 4 w') (wv w') v (askL s n) → R v w') :
    CallV Tryd.prog 40 #[.pointer (some a), .int .i64 n] w R := by
  have S := Fx.start w
  have H : ClV 140 (view (fun _ => 0) 0 w) (view (fun _ => 0) 0 w) a s := by rw [view0]; exact hH
  obtain ⟨b, v', rfl, hb, hd, hn⟩ := H
  obtain ⟨od, pd, rfl⟩ := RdS.form hd
  refine client_Client_Ask_vc ?_
  unfold client_Client_Ask_VC
  refine LoadC.ad (view_sub _ _ _) _ hb rfl (TBool.mk ?_)
  refine BS.nb (fun hw => ?_) (fun hw => ?_)
  · refine h _ _ w (Step.refl c0 [] _ w) ?_
    rw [askL_no hw]; exact LsO.nil ..
  have hd64 := hd64 hw
  refine LoopSI.up (askN n) (fun i o l p w' => ∃ c', Fx w c' w' ∧ view c' 0 w' b = some (.cells (s.cells (.slice od s.op.data.length pd)).toArray 140 (0, 0)) ∧ RdS (view c' 0 w') (.slice od s.op.data.length pd) 1 s.op.data.length (bvs s.op.data) ∧ LsO (AskP s c' w') 38 53 (view c' 4 w') (wv w') (.slice o l p) (upL s i)) ⟨_, S, hb, hd, LsO.nil ..⟩ ?_
  clear S hb hd
  rintro i o l p w1 B hi ⟨c1, S, hb, hd, hL⟩ back
  have hi7 := askN_le n
  refine BS.dec (fun hlt => ?_) (fun hge => ?_)
  · have hlt : i < askN n := by unfold askN; omega
    refine DrewC.col c1 fun w2 st2 => ?_
    replace S := S.go st2 (by decide) (by decide)
    replace hb := st2.sub (by decide) _ _ hb
    replace hd := hd.mono (st2.sub (by decide))
    replace hL := hL.map (g' := wv w2) (fun _ _ hp => hp.mono (g' := wv w2) (st2.sub (by simp))) (st2.sub (by decide))
    simp only [add_add]
    refine LoadC.ad (view_sub _ _ _) (.int .i64 s.id) hb rfl (TInt.mk ?_)
    refine LoadA.part (view_sub _ _ _) (k := 0) (n := 8) (es := .int .i64 s.id :: u64v s.number :: s.op.cells (.slice od s.op.data.length pd)) hb rfl ClR.part ?_
    refine TCells.mk (built_ask rfl) ?_
    refine AllocC.col c1 6 fun a6 c3 w3 st3 b6 _ => ?_
    replace S := S.go st3.step (by decide) (by decide)
    replace hb := st3.fresh.sub (by decide) _ _ hb
    replace hd := hd.mono (st3.fresh.sub (by decide))
    replace hL := hL.map (g' := wv w3) (fun _ _ hp => hp.mono (g' := wv w3) (st3.fresh.sub (by simp))) (st3.fresh.sub (by decide))
    refine ⟨StableC.ad (view_sub _ _ _) hb rfl, StableA.part (view_sub _ _ _) hb rfl ClR.part, ?_⟩
    refine RunU.msg b6 rfl (askV hd) (askMsg_ok hn i) fun w4 st4 b6 => ?_
    replace S := S.go st4.step (by decide) (by decide)
    replace hb := st4.step.sub (by decide) _ _ hb
    replace hd := hd.mono (st4.step.sub (by decide))
    replace hL := hL.map (g' := wv w4) (fun _ _ hp => hp.mono (g' := wv w4) (st4.step.sub (by simp; omega))) (st4.step.sub (by decide))
    have g := msg_gets (m := askMsg s i) (v := .slice od s.op.data.length pd) (va := nilV) (ua := nilV) (vh := nilV) (vb := nilV) (askMsg_ok hn i).2.2.2.2.2.1
    refine LoadC.ad (view_sub _ _ _) (.slice od s.op.data.length pd) b6 (g.p41 5 _ rfl) (TSl.mk ?_)
    refine BClone_c c3 (20 + i) (hd.mono (view_sub _ _ _)) (by omega) fun v5 c5 w5 st5 r5 => ?_
    replace S := S.go st5 (by decide) (ask20 (by omega))
    replace hb := st5.sub (by decide) _ _ hb
    replace hd := hd.mono (st5.sub (by decide))
    replace b6 := st5.sub (by decide) _ _ b6
    replace hL := hL.map (g' := wv w5) (fun _ _ hp => hp.mono (g' := wv w5) (st5.sub (by simp))) (st5.sub (by decide))
    obtain ⟨o5, p5, rfl⟩ := r5.form
    refine TSl.mk ?_
    refine StoreC.ad b6 (by rw [msg_sz (askMsg_ok hn i)]; omega) fun w6 _ st6 b6 => ?_
    replace S := S.go st6 (by decide) (by decide)
    replace hb := st6.sub (by decide) _ _ hb
    replace hd := hd.mono (st6.sub (by decide))
    replace r5 := r5.mono (st6.sub (by simp; omega))
    replace hL := hL.map (g' := wv w6) (fun _ _ hp => hp.mono (g' := wv w6) (st6.sub (by simp; omega))) (st6.sub (by decide))
    rw [List.setIfInBounds_toArray, ask_set] at b6
    refine LoadA.all (view_sub _ _ _) b6 (msg_sz (askMsg_ok hn i)) ?_
    refine Req.mk' (by rw [msg_sz (askMsg_ok hn i)]; rfl) ?_
    refine AllocC.col c5 7 fun a7 c7 w7 st7 b7 _ => ?_
    replace S := S.go st7.step (by decide) (by decide)
    replace hb := st7.fresh.sub (by decide) _ _ hb
    replace hd := hd.mono (st7.fresh.sub (by decide))
    replace r5 := r5.mono (st7.fresh.sub (by simp))
    replace hL := hL.map (g' := wv w7) (fun _ _ hp => hp.mono (g' := wv w7) (st7.fresh.sub (by simp))) (st7.fresh.sub (by decide))
    obtain rfl := hL.len
    have hlen := upL_length s i
    have hone : AskP s c7 w7 (wv w7) (i, askMsg s i) ((askMsg s i).cells (.slice o5 s.op.data.length p5) nilV nilV nilV nilV) := ⟨rfl, _, rfl, r5⟩
    refine LsO.app slMsg hL (m := [(i, askMsg s i)]) (LsW.one (view_sub _ _ _ _ _ b7) (by have := msg_sz (askMsg_ok hn i) (v := .slice o5 s.op.data.length p5) (va := nilV) (ua := nilV) (vh := nilV) (vb := nilV); simpa using this) hone) askP_one (by simp; omega) (by simp; omega) fun o8 p8 c8 w8 st8 hL => TSl.mk ?_
    replace S := S.go st8.step (by decide) (by decide)
    replace hb := st8.step.sub (by decide) _ _ hb
    replace hd := hd.mono (st8.step.sub (by decide))
    replace hL := hL.map (g' := wv w8) (fun _ _ hp => hp.mono (g' := wv w8) (st8.step.sub (by simp; omega))) (fun _ _ h => h)
    rw [wrap_i64 (by omega) (by omega)]
    exact back _ _ _ _ (by omega) ⟨c8, S, hb, hd, by rw [upL_succ]; exact hL⟩
  · have : i = askN n := by unfold askN at hi ⊢; omega
    subst this
    have := h (.slice o l p) _ _ (S.leave c0)
    rw [askL_yes hw] at this
    exact this (hL.map (g' := wv w1) (fun _ _ hp => hp.mono (g' := wv w1) (S.out c0 (by omega))) (S.out c0 (by omega)))
/-- a message of the document's list: its data is the client's -/
def AskQ (s : ClR) (v : Value) (_ : View) (p : Nat × MsgR) (es : List Value) : Prop :=
  p.2 = askMsg s p.1 ∧ es = (askMsg s p.1).cells v nilV nilV nilV nilV
theorem placesCall : placesB Tryd.prog 30 = some (.int .i64 0 :: u64v 0 :: OpR.zero.cells nilV, [(0, 1), (1, 1), (2, 6)]) := by kernel_rfl
theorem built_call {s : ClR} {v : Value} : buildCells Tryd.prog 30 [(0, .int .i64 s.id), (1, .int .u64 (s.number : Int)), (2, .agg (s.op.cells v).toArray)] = some (.int .i64 s.id :: u64v s.number :: s.op.cells v : List Value).toArray := by
  unfold buildCells
  rw [built_of placesCall]
  rw [fill_one (off := 0) rfl rfl (by simp [OpR.cells])]
  rw [fill_one (off := 1) rfl rfl (by simp [OpR.cells])]
  rw [fill_cons (off := 2) (vs := s.op.cells v) rfl rfl (by simp [OpR.cells])]
  rfl
theorem ClR.part2 {s : ClR} {v : Value} : ∀ (j : Nat) (u : Value), (s.op.cells v)[j]? = some u → (s.cells v).toArray[2 + j]? = some u := by
  intro j u hu
  have := ClR.part (s := s) (v := v) (2 + j) u (by rw [show 2 + j = j + 2 by omega]; exact hu)
  rw [Nat.zero_add] at this; exact this
theorem Ask_rf (c0 : Nat → Nat) (j q : Nat) {w : World} {a : Addr} {s : ClR} {n : Int} {R : Value → World → Prop} (H : ClV 77 (view c0 j w) (view c0 q w) a s)
    (h : ∀ v vd c' w', Step c0 [] [0, 1, 2, 3, 4, 5, 6, 7, 8, 9, 20, 21, 22, 23, 24, 25, 26] w c' w' → RdS (view c' q w') vd 1 s.op.data.length (bvs s.op.data) → LsO (AskQ s vd) 38 53 (view c' 5 w') (wv w') v (askL s n) → R v w') :
    CallV Tryd.prog 41 #[.pointer (some a), .int .i64 n] w R := by
  obtain ⟨b, v', rfl, hb0, hd0, hn⟩ := H
  obtain ⟨od, pd, rfl⟩ := RdS.form hd0
  have S := Fx.start w
  have hb : view (fun _ => 0) 0 w b = some (.cells (s.cells (.slice od s.op.data.length pd)).toArray 77 (0, 0)) := by rw [view0]; exact view_sub _ _ _ _ _ hb0
  have hd : RdS (view (fun _ => 0) 0 w) (.slice od s.op.data.length pd) 1 s.op.data.length (bvs s.op.data) := by rw [view0]; exact hd0.mono (view_sub _ _ _)
  refine ref25_Client_Ask_vc ?_
  unfold ref25_Client_Ask_VC
  refine AllocC.col (fun _ => 0) 5 fun a7 c1 w1 st1 b7 hnew => ?_
  replace S := S.go st1.step (by decide) (by decide)
  replace hb := st1.fresh.sub (by decide) _ _ hb
  replace hd := hd.mono (st1.fresh.sub (by decide))
  refine LoopSI.up (askN n) (fun i o l p w' => ∃ c', Fx w c' w' ∧ view c' 0 w' b = some (.cells (s.cells (.slice od s.op.data.length pd)).toArray 77 (0, 0)) ∧ RdS (view c' 0 w') (.slice od s.op.data.length pd) 1 s.op.data.length (bvs s.op.data) ∧ (i = 0 ∨ s.waits = true) ∧ LsO (AskQ s (.slice od s.op.data.length pd)) 38 53 (view c' 5 w') (wv w') (.slice o l p) (upL s i)) ⟨_, S, hb, hd, .inl rfl, LsO.empty b7⟩ ?_
  clear S hb hd b7
  rintro k o l p w2 B hi ⟨c2, S, hb, hd, hw0, hL⟩ back
  have hi7 := askN_le n
  have fin : k = askN n ∨ (k = 0 ∧ s.waits = false) → R (.slice o l p) w2 := by
    intro hk
    have := h (.slice o l p) (.slice od s.op.data.length pd) _ _ (S.leave c0) (hd0.mono ((S.leave c0).sub (by simp)))
    replace hL := hL.map (Q := AskQ s (.slice od s.op.data.length pd)) (g' := wv w2) (fun _ _ hp => hp) (S.out c0 (by omega))
    rcases hk with hk | ⟨hk, hw⟩
    · subst hk
      cases hw : s.waits
      · rcases hw0 with h0 | h0
        · rw [askL_no hw] at this; rw [h0] at hL; exact this hL
        · rw [hw] at h0; simp at h0
      · rw [askL_yes hw] at this; exact this hL
    · subst hk; rw [askL_no hw] at this; exact this hL
  refine BS.dec (fun hlt => ?_) (fun hge => fin (.inl (by unfold askN at hi ⊢; omega)))
  refine BS.dec (fun hl7 => ?_) (fun hge => fin (.inl (by unfold askN at hi ⊢; omega)))
  have hlt : k < askN n := by unfold askN; omega
  refine LoadC.ad (view_sub _ _ _) _ hb rfl (TBool.mk ?_)
  unfold ref25_Client_Ask_K1
  refine BS.mk (fun hw => ?_) (fun hw => by
    rcases hw0 with h0 | h0
    · exact fin (.inr ⟨h0, hw⟩)
    · rw [h0] at hw; simp at hw)
  refine DrewC.col c2 fun w3 st3 => ?_
  replace S := S.go st3 (by decide) (by decide)
  replace hb := st3.sub (by decide) _ _ hb
  replace hd := hd.mono (st3.sub (by decide))
  replace hL := hL.map (Q := AskQ s (.slice od s.op.data.length pd)) (g' := wv w3) (fun _ _ hp => hp) (st3.sub (by decide))
  refine LoadC.ad (view_sub _ _ _) (.int .i64 s.id) hb rfl (TInt.mk ?_)
  refine LoadC.ad (view_sub _ _ _) (.int .i64 s.id) hb rfl (TInt.mk ?_)
  refine LoadC.ad (view_sub _ _ _) (.int .u64 (s.number : Int)) hb rfl (TInt.mk ?_)
  refine LoadA.part (view_sub _ _ _) (k := 2) (n := 6) (es := s.op.cells (.slice od s.op.data.length pd)) hb rfl ClR.part2 ?_
  refine TCells.mk built_call (TCells.mk (built_ask rfl) ?_)
  refine Req.mk' (by rw [msg_sz (askMsg_ok hn k)]; rfl) ?_
  refine AllocC.col c2 7 fun a4 c4 w4 st4 b4 hnew4 => ?_
  replace S := S.go st4.step (by decide) (by decide)
  replace hb := st4.fresh.sub (by decide) _ _ hb
  replace hd := hd.mono (st4.fresh.sub (by decide))
  replace hL := hL.map (Q := AskQ s (.slice od s.op.data.length pd)) (g' := wv w4) (fun _ _ hp => hp) (st4.fresh.sub (by decide))
  obtain rfl := hL.len
  have hlen := upL_length s k
  have hone : AskQ s (.slice od s.op.data.length pd) (wv w4) (k, askMsg s k) ((askMsg s k).cells (.slice od s.op.data.length pd) nilV nilV nilV nilV) := ⟨rfl, rfl⟩
  refine LsO.app slMsg hL (m := [(k, askMsg s k)]) (LsW.one (view_sub _ _ _ _ _ b4) (by have := msg_sz (askMsg_ok hn k) (v := .slice od s.op.data.length pd) (va := nilV) (ua := nilV) (vh := nilV) (vb := nilV); simpa using this) hone) (fun _ es hp => by
    have hp2 : es = (askMsg s _).cells _ nilV nilV nilV nilV := hp.2
    subst hp2; exact msg_one (askV hd)) (by simp; omega) (by simp; omega) fun o8 p8 c8 w8 st8 hL => TSl.mk ?_
  replace S := S.go st8.step (by decide) (by decide)
  replace hb := st8.step.sub (by decide) _ _ hb
  replace hd := hd.mono (st8.step.sub (by decide))
  replace hL := hL.map (Q := AskQ s (.slice od s.op.data.length pd)) (g' := wv w8) (fun _ _ hp => hp) (fun _ _ h => h)
  rw [wrap_i64 (by omega) (by omega)]
  exact back _ _ _ _ (by omega) ⟨c8, S, hb, hd, .inr hw, by rw [upL_succ]; exact hL⟩
end Go.Proofs.YtdjgdcafmfheoaaDoor

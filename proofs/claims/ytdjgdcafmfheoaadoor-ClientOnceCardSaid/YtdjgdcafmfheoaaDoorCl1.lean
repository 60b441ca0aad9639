/-
  Clients: how they lie; calls and takes, each function once.
-/
import Derived.Test.YtdjgdcafmfheoaaDoorGenCl
import Derived.Test.YtdjgdcafmfheoaaDoorWalkWire
set_option linter.unusedVariables false
set_option linter.unusedSimpArgs false
namespace Go.Vc
open Go
structure ClR where
  id : Int
  number : Nat
  op : OpR
  waits : Bool
def ClR.cells (s : ClR) (v : Value) : List Value := .int .i64 s.id :: u64v s.number :: (s.op.cells v ++ [.bool s.waits])
def clCall (s : ClR) (o : OpR) : ClR × Nat × Int :=
  if s.waits = true then (s, 0, 261) else if o.right then (⟨s.id, (s.number + 1) % 18446744073709551616, o, true⟩, (s.number + 1) % 18446744073709551616, 0) else (s, 0, 1)
instance (m : MsgR) : Decidable m.right := by unfold MsgR.right; infer_instance
def clHit (s : ClR) (m : MsgR) : Prop := s.waits = true ∧ m.right ∧ m.kind = 2 ∧ m.client = s.id ∧ m.number = s.number
instance (s : ClR) (m : MsgR) : Decidable (clHit s m) := by unfold clHit; infer_instance
def clTake (s : ClR) (m : MsgR) : ClR × AnsR × Bool := if clHit s m then (⟨s.id, s.number, s.op, false⟩, m.ans, true) else (s, AnsR.zero, false)
theorem clTake_no {s : ClR} {m : MsgR} (h : ¬ clHit s m) : clTake s m = (s, AnsR.zero, false) := by unfold clTake; rw [if_neg h]
theorem clTake_yes {s : ClR} {m : MsgR} (h : clHit s m) : clTake s m = (⟨s.id, s.number, s.op, false⟩, m.ans, true) := by unfold clTake; rw [if_pos h]
/-- a client: its cells in h, its operation's data in g -/
def ClV (T : Nat) (h g : View) (a : Addr) (s : ClR) : Prop := ∃ b v, a = ⟨b, 0, none⟩ ∧ h b = some (.cells (s.cells v).toArray T (0, 0)) ∧ RdS g v 1 s.op.data.length (bvs s.op.data) ∧ s.number < 18446744073709551616
theorem ClV.mono {T : Nat} {h g h' g' : View} {a : Addr} {s : ClR} (H : ClV T h g a s) (hs : Sub h h') (gs : Sub g g') : ClV T h' g' a s := by
  obtain ⟨b, v, e, hb, hv, hn⟩ := H; exact ⟨b, v, e, hs _ _ hb, hv.mono gs, hn⟩
theorem wrap_next (n : Nat) : IntKind.wrap .u64 ((n : Int) + 1) = (((n + 1) % 18446744073709551616 : Nat) : Int) := by rw [wrap_u64_mod]; omega
end Go.Vc
namespace Go.Proofs.YtdjgdcafmfheoaaDoor
open Go.Vc
attribute [local irreducible] TInt TBool TStr TPtr TSl TAgg TMap TChan T2 T3 T4 BS Req TSome TCell TByte LoadC LoadA StoreC AllocC RunV RunU CallV ExtV EqA StableC StableA StableV TCells ReadV
attribute [local irreducible] eU eT eE
attribute [local irreducible] DrewC eH many rdM wrM eHb rdOp rdAns
/-- bytes.Clone -/
theorem BClone_c (c : Nat → Nat) (i : Nat) {w : World} {v : Value} {l : List UInt8} {R : Value → World → Prop} (hr : RdS (wv w) v 1 l.length (bvs l)) (hn : l.length ≤ 140737488355328)
    (h : ∀ v' c' w', Step c [] [i] w c' w' → OwS (view c' i w') v' 5 1 l.length (bvs l) → R v' w') : CallV Tryd.prog 80 #[v] w R := by
  obtain ⟨o, cp, rfl⟩ := hr.form
  refine bytes_Clone_vc ?_
  unfold bytes_Clone_VC
  refine BS.mk (fun ho => ?_) (fun ho => ?_)
  · have : o = none := by simpa using ho
    subst this
    have hl : l = [] := by
      obtain ⟨o, cp, e, _, hl, hx⟩ := hr
      cases e
      rcases hx with h | ⟨b, off, cs, T, fz, e', _⟩
      · simpa [bvs] using h
      · simp at e'
    subst hl
    exact h _ c w (.refl ..) (OwS.none_bytes ..)
  · refine AllocC.col c i fun b c1 w1 h1 hb hnew => ?_
    refine app_bytes slU8 (OwS.some_bytes hb) (hr.mono h1.fresh.wv) (by simpa using hn) fun o2 p2 c2 w2 h2 ho2 => TSl.mk ?_
    rw [List.nil_append] at ho2 ⊢
    exact h _ c2 w2 (h2.stepNew h1.fresh (by simp) fun b' e => by simp [Value.ownBlock] at e; exact e ▸ size_le_of_none hnew) ho2
/-- slices.Clone of texts -/
theorem SClone_c (c : Nat → Nat) (i : Nat) {w : World} {v : Value} {l : List (List UInt8)} {R : Value → World → Prop} (hr : RdS (wv w) v 1 l.length (svs l)) (hn : l.length ≤ 8796093022208)
    (h : ∀ v' c' w', Step c [] [i] w c' w' → OwS (view c' i w') v' 9 1 l.length (svs l) → R v' w') : CallV Tryd.prog 82 #[v] w R := by
  obtain ⟨o, cp, rfl⟩ := hr.form
  refine slices_Clone_string_string_vc ?_
  unfold slices_Clone_string_string_VC
  refine BS.mk (fun ho => ?_) (fun ho => ?_)
  · have : o = none := by simpa using ho
    subst this
    have hl : l = [] := by
      obtain ⟨o, cp, e, _, hl, hx⟩ := hr
      cases e
      rcases hx with h | ⟨b, off, cs, T, fz, e', _⟩
      · simpa [svs] using h
      · simp at e'
    subst hl
    exact h _ c w (.refl ..) (OwS.none_strs ..)
  · refine AllocC.col c i fun b c1 w1 h1 hb hnew => ?_
    refine app_strs slStr (OwS.some_strs hb) (hr.mono h1.fresh.wv) (by simpa using hn) fun o2 p2 c2 w2 h2 ho2 => TSl.mk ?_
    rw [List.nil_append] at ho2 ⊢
    exact h _ c2 w2 (h2.stepNew h1.fresh (by simp) fun b' e => by simp [Value.ownBlock] at e; exact e ▸ size_le_of_none hnew) ho2
theorem New_cl (c : Nat → Nat) (i : Nat) {w : World} {n : Int} {R : Value → World → Prop}
    (hbad : ¬ (0 ≤ n ∧ n < 4) → R (.tuple #[.pointer none, .int .i64 260]) w)
    (h : 0 ≤ n ∧ n < 4 → ∀ a c' w', Step c [] [i] w c' w' → (∀ g, ClV 140 (view c' i w') g a ⟨n, 0, OpR.zero, false⟩) → R (.tuple #[.pointer (some a), .int .i64 0]) w') : CallV Tryd.prog 35 #[.int .i64 n] w R := by
  refine client_New_vc ?_
  unfold client_New_VC
  refine BS.dec (fun h1 => hbad (by omega)) (fun h1 => ?_)
  unfold client_New_K1
  refine BS.dec (fun h2 => hbad (by omega)) (fun h2 => ?_)
  refine AllocC.col c i fun b c1 w1 st1 hb _ => ?_
  exact h (by omega) _ c1 w1 st1.fresh fun g => ⟨b, .slice none 0 0, rfl, hb, RdS.none_bytes .., by show 0 < 18446744073709551616; omega⟩
theorem Waiting_c {h g : View} {w : World} {a : Addr} {s : ClR} {R : Value → World → Prop} (H : ClV 140 h g a s) (hs : Sub h (wv w)) (hR : R (.bool s.waits) w) : CallV Tryd.prog 45 #[.pointer (some a)] w R := by
  obtain ⟨b, v, rfl, hb, hv, hn⟩ := H
  refine client_Client_Waiting_vc ?_
  unfold client_Client_Waiting_VC
  exact LoadC.ad hs _ hb rfl (TBool.mk hR)

theorem Call_cl {c : Nat → Nat} {i k t : Nat} {w : World} {a : Addr} {s : ClR} {o : OpR} {v : Value} {R : Value → World → Prop} (hik : i ≠ k) (hit : i ≠ t) (hkt : k ≠ t) (H : ClV 140 (view c i w) (view c k w) a s) (hv : OpRV (wv w) o v)
    (h : ∀ c' w', Step c [i] [k, t] w c' w' → ClV 140 (view c' i w') (view c' k w') a (clCall s o).1 → R (.tuple #[.int .u64 ((clCall s o).2.1 : Nat), .int .i64 (clCall s o).2.2]) w') :
    CallV Tryd.prog 38 #[.pointer (some a), .agg (o.cells v).toArray] w R := by
  obtain ⟨b, v', rfl, hb, hd, hn⟩ := H
  obtain ⟨ov, pv, rfl⟩ := RdS.form hv
  refine client_Client_Call_vc ?_
  unfold client_Client_Call_VC
  refine AllocC.col c t fun a3 c1 w1 st1 b3 hnew => ?_
  have hsz : w.heap.size ≤ a3 := size_le_of_none hnew
  have st : Step c [i] [k, t] w c1 w1 := st1.fresh.weak (by simp) (by simp)
  replace hv : OpRV (wv w1) o (.slice ov o.data.length pv) := RdS.mono hv st1.fresh.wv
  replace hb := st1.fresh.sub (by simp) _ _ hb
  replace hd := hd.mono (st1.fresh.sub (by simp))
  refine LoadC.ad (view_sub _ _ _) _ hb rfl (TBool.mk ?_)
  refine BS.mk (fun hw => ?_) (fun hw => ?_)
  · have := h c1 w1 st
    unfold clCall at this
    rw [if_pos hw] at this
    exact this ⟨b, v', rfl, hb, hd, hn⟩
  refine LoadA.all (view_sub _ _ _) b3 rfl ?_
  refine oper_Write_c c1 t hv fun v2 c2 w2 st2 r2 => T2.mk ?_
  obtain ⟨o2, p2, rfl⟩ := r2.form
  refine TSl.mk (TInt.mk ?_)
  replace st := st.trans (st2.weak (by simp) (by simp))
  replace hv : OpRV (wv w2) o (.slice ov o.data.length pv) := RdS.mono hv st2.wv
  replace hb := st2.sub (by simp) _ _ hb
  replace hd := hd.mono (st2.sub (by simp))
  replace b3 := st2.sub (by simp) _ _ b3
  by_cases hr : o.right
  · have e : wrOp o = (o.enc, 0) := by unfold wrOp; rw [if_pos hr]
    rw [e]
    refine BS.ne (fun e => absurd rfl e) (fun _ => ?_)
    refine LoadC.ad (view_sub _ _ _) _ b3 rfl (TSl.mk ?_)
    have h64 := hr.2.2.2.2.2.2.2.2
    refine BClone_c c2 k hv (by omega) fun v3 c3 w3 st3 r3 => ?_
    obtain ⟨o3, p3, rfl⟩ := r3.form
    refine TSl.mk ?_
    replace st := st.trans (st3.weak (by simp) (by simp))
    replace hb := st3.sub (by simp) _ _ hb
    replace b3 := st3.sub (by simp) _ _ b3
    refine StoreC.ad b3 (by simp [OpR.cells]) fun w4 st4 _ b3 => ?_
    replace st := st.wr_new st4 hsz
    replace hb := st4.step.sub (by simp; omega) _ _ hb
    replace r3 := r3.mono (st4.step.sub (by simp; omega))
    rw [List.setIfInBounds_toArray] at b3
    have b3 : view c3 t w4 a3 = some (.cells (o.cells (.slice o3 o.data.length p3)).toArray 28 (0, 0)) := b3
    simp only [add_add]
    refine LoadC.ad (view_sub _ _ _) _ hb rfl (TInt.mk ?_)
    rw [wrap_next]
    have hw0 : s.waits = false := hw
    have h1 := h
    refine StoreC.ad hb (by simp [ClR.cells, OpR.cells]) fun w5 _ st5 hb => ?_
    replace st := st.trans (st5.weak (by simp) (by simp))
    replace b3 := st5.sub (by simp; omega) _ _ b3
    replace r3 := r3.mono (st5.sub (by simp; omega))
    rw [List.setIfInBounds_toArray] at hb
    have hb : view c3 i w5 b = some (.cells (ClR.cells ⟨s.id, (s.number + 1) % 18446744073709551616, s.op, s.waits⟩ v').toArray 140 (0, 0)) := hb
    refine LoadA.all (view_sub _ _ _) b3 rfl ?_
    refine RunU.part (k := 0 + 2) (es := o.cells (.slice o3 o.data.length p3)) hb (by kernel_rfl) (by simp [ClR.cells, OpR.cells]) (op_one r3.rd).2 fun w6 _ st6 hb => ?_
    replace st := st.trans (st6.weak (by simp) (by simp))
    replace r3 := r3.mono (st6.sub (by simp; omega))
    have hb : view c3 i w6 b = some (.cells (ClR.cells ⟨s.id, (s.number + 1) % 18446744073709551616, o, s.waits⟩ (.slice o3 o.data.length p3)).toArray 140 (0, 0)) := hb
    refine StoreC.ad hb (by simp [ClR.cells, OpR.cells]) fun w7 _ st7 hb => ?_
    replace st := st.trans (st7.weak (by simp) (by simp))
    replace r3 := r3.mono (st7.sub (by simp; omega))
    rw [List.setIfInBounds_toArray] at hb
    have hb : view c3 i w7 b = some (.cells (ClR.cells ⟨s.id, (s.number + 1) % 18446744073709551616, o, true⟩ (.slice o3 o.data.length p3)).toArray 140 (0, 0)) := hb
    refine LoadC.ad (view_sub _ _ _) _ hb rfl (TInt.mk ?_)
    have := h c3 w7 st
    unfold clCall at this
    rw [if_neg (by simp [hw0]), if_pos hr] at this
    exact this ⟨b, _, rfl, hb, r3.rd, Nat.mod_lt _ (by omega)⟩
  · have e : wrOp o = ([], 1) := by unfold wrOp; rw [if_neg hr]
    rw [e]
    refine BS.ne (fun _ => ?_) (fun e => by simp at e)
    have := h c2 w2 st
    unfold clCall at this
    rw [if_neg (by simp [show s.waits = false from hw]), if_neg hr] at this
    exact this ⟨b, v', rfl, hb, hd, hn⟩

theorem Call_rf {c : Nat → Nat} {i q t : Nat} {w : World} {a : Addr} {s : ClR} {o : OpR} {v : Value} {R : Value → World → Prop} (hiq : q ≠ i) (hit : i ≠ t) (H : ClV 77 (view c i w) (view c q w) a s) (hv : OpRV (view c q w) o v)
    (h : ∀ c' w', Step c [i] [t] w c' w' → ClV 77 (view c' i w') (view c' q w') a (clCall s o).1 → R (.tuple #[.int .u64 ((clCall s o).2.1 : Nat), .int .i64 (clCall s o).2.2]) w') :
    CallV Tryd.prog 39 #[.pointer (some a), .agg (o.cells v).toArray] w R := by
  obtain ⟨b, v', rfl, hb, hd, hn⟩ := H
  obtain ⟨ov, pv, rfl⟩ := RdS.form hv
  refine ref25_Client_Call_vc ?_
  unfold ref25_Client_Call_VC
  refine AllocC.col c t fun a3 c1 w1 st1 b3 _ => ?_
  have st : Step c [i] [t] w c1 w1 := st1.fresh.weak (by simp) (by simp)
  replace hv : OpRV (view c1 q w1) o (.slice ov o.data.length pv) := RdS.mono hv (st1.fresh.sub (by simp))
  replace hb := st1.fresh.sub (by simp) _ _ hb
  replace hd := hd.mono (st1.fresh.sub (by simp))
  refine LoadC.ad (view_sub _ _ _) _ hb rfl (TBool.mk ?_)
  refine BS.mk (fun hw => ?_) (fun hw => ?_)
  · have := h c1 w1 st
    unfold clCall at this
    rw [if_pos hw] at this
    exact this ⟨b, v', rfl, hb, hd, hn⟩
  refine LoadA.all (view_sub _ _ _) b3 rfl ?_
  refine ref_Right c1 t hv fun c2 w2 st2 => TBool.mk ?_
  replace st := st.trans (st2.weak (by simp) (by simp))
  replace hv : OpRV (view c2 q w2) o (.slice ov o.data.length pv) := RdS.mono hv (st2.sub (by simp))
  replace hb := st2.sub (by simp) _ _ hb
  replace hd := hd.mono (st2.sub (by simp))
  replace b3 := st2.sub (by simp) _ _ b3
  refine BS.ndec (fun hr => ?_) (fun hr => ?_)
  · have := h c2 w2 st
    unfold clCall at this
    rw [if_neg (by simp [show s.waits = false from hw]), if_neg hr] at this
    exact this ⟨b, v', rfl, hb, hd, hn⟩
  refine LoadC.ad (view_sub _ _ _) _ hb rfl (TInt.mk ?_)
  rw [wrap_next]
  refine StoreC.ad hb (by simp [ClR.cells, OpR.cells]) fun w5 _ st5 hb => ?_
  replace st := st.trans (st5.weak (by simp) (by simp))
  replace b3 := st5.sub (by simp; omega) _ _ b3
  replace hv : OpRV (view c2 q w5) o (.slice ov o.data.length pv) := RdS.mono hv (st5.sub (by simp; omega))
  rw [List.setIfInBounds_toArray] at hb
  have hb : view c2 i w5 b = some (.cells (ClR.cells ⟨s.id, (s.number + 1) % 18446744073709551616, s.op, s.waits⟩ v').toArray 77 (0, 0)) := hb
  refine LoadA.all (view_sub _ _ _) b3 rfl ?_
  refine RunU.part (k := 2) (es := o.cells (.slice ov o.data.length pv)) hb (by kernel_rfl) (by simp [ClR.cells, OpR.cells]) (op_one hv).2 fun w6 _ st6 hb => ?_
  replace st := st.trans (st6.weak (by simp) (by simp))
  replace hv : OpRV (view c2 q w6) o (.slice ov o.data.length pv) := RdS.mono hv (st6.sub (by simp; omega))
  have hb : view c2 i w6 b = some (.cells (ClR.cells ⟨s.id, (s.number + 1) % 18446744073709551616, o, s.waits⟩ (.slice ov o.data.length pv)).toArray 77 (0, 0)) := hb
  refine StoreC.ad hb (by simp [ClR.cells, OpR.cells]) fun w7 _ st7 hb => ?_
  replace st := st.trans (st7.weak (by simp) (by simp))
  replace hv : OpRV (view c2 q w7) o (.slice ov o.data.length pv) := RdS.mono hv (st7.sub (by simp; omega))
  rw [List.setIfInBounds_toArray] at hb
  have hb : view c2 i w7 b = some (.cells (ClR.cells ⟨s.id, (s.number + 1) % 18446744073709551616, o, true⟩ (.slice ov o.data.length pv)).toArray 77 (0, 0)) := hb
  refine LoadC.ad (view_sub _ _ _) _ hb rfl (TInt.mk ?_)
  have := h c2 w7 st
  unfold clCall at this
  rw [if_neg (by simp [show s.waits = false from hw]), if_pos hr] at this
  exact this ⟨b, _, rfl, hb, hv, Nat.mod_lt _ (by omega)⟩

theorem take_ans {m : MsgR} (hr : m.right) (hk : m.kind = 2) : m.ans.data.length ≤ 64 ∧ m.ans.names.length ≤ 6 := by
  unfold MsgR.right at hr
  obtain ⟨_, _, _, _, _, _, _, _, _, hr⟩ := hr
  rw [if_neg (by omega), if_pos hk] at hr
  obtain ⟨_, _, _, _, h⟩ := hr
  exact ⟨h.2.2.2.2.1, h.2.2.2.2.2.1⟩
theorem Take_cl {c : Nat → Nat} (i k z t r q u : Nat) {w : World} {a : Addr} {s : ClR} {m : MsgR} {v va ua vh vb : Value} {R : Value → World → Prop} (hh : [i, k, z, t, r, q, u].Nodup) (H : ClV 140 (view c i w) (view c k w) a s) (hm : MsgV (view c z w) m v va ua vh vb) (hok : m.ok) (hG : GlobS (wv w))
    (h : ∀ x y c' w', Step c [i] [t, r, q, u] w c' w' → ClV 140 (view c' i w') (view c' k w') a (clTake s m).1 → AnsV (view c' u w') (clTake s m).2.1 x y → R (.tuple #[.agg ((clTake s m).2.1.cells x y).toArray, .bool (clTake s m).2.2]) w') :
    CallV Tryd.prog 42 #[.pointer (some a), .agg (m.cells v va ua vh vb).toArray] w R := by
  simp only [List.nodup_cons, List.mem_cons, List.not_mem_nil, or_false, not_or, List.nodup_nil, not_false_eq_true, and_true] at hh
  obtain ⟨⟨n1, n2, n3, n4, n5, n6⟩, ⟨n7, n8, n9, nA, nB⟩, ⟨nC, nD, nE, nF⟩, ⟨nG, nH, nI⟩, ⟨nJ, nK⟩, nL⟩ := hh
  have ki : k ∉ [i] := by rw [List.mem_singleton]; exact Ne.symm n1
  have zi : z ∉ [i] := by rw [List.mem_singleton]; exact Ne.symm n2
  have ti : t ∉ [i] := by rw [List.mem_singleton]; exact Ne.symm n3
  have ri : r ∉ [i] := by rw [List.mem_singleton]; exact Ne.symm n4
  have ir : i ∉ [r] := by rw [List.mem_singleton]; exact n4
  have iq : i ∉ [q] := by rw [List.mem_singleton]; exact n5
  have rq : r ∉ [q] := by rw [List.mem_singleton]; exact nJ
  have uq : u ∉ [q] := by rw [List.mem_singleton]; exact Ne.symm nL
  have ur : u ∉ [r] := by rw [List.mem_singleton]; exact Ne.symm nK
  clear n1 n2 n3 n4 n5 n6 n7 n8 n9 nA nB nC nD nE nF nG nH nI nJ nK nL
  obtain ⟨b, v', rfl, hb, hd, hn⟩ := H
  obtain ⟨ova, pva, rfl⟩ := RdS.form hm.ans.d
  obtain ⟨oua, pua, rfl⟩ := RdS.form hm.ans.n
  have g := msg_gets (m := m) (v := v) (va := .slice ova m.ans.data.length pva) (ua := .slice oua m.ans.names.length pua) (vh := vh) (vb := vb) hok.2.2.2.2.2.1
  refine client_Client_Take_vc ?_
  unfold client_Client_Take_VC
  refine AllocC.col c t fun a3 c1 w1 st1 b3 hnew3 => ?_
  refine AllocC.col c1 r fun a4 c2 w2 st2 b4 hnew4 => ?_
  replace b3 := st2.fresh.sub (by simp) _ _ b3
  have sz4 : w.heap.size ≤ a4 := Nat.le_trans st1.fresh.size (size_le_of_none hnew4)
  have st : Step c [i] [t, r, q, u] w c2 w2 := (st1.fresh.weak (by simp) (by simp)).trans (st2.fresh.weak (by simp) (by simp))
  refine DrewC.col c2 fun w3 st3 => ?_
  replace st := st.trans (st3.weak (by simp) (by simp))
  replace b3 := st3.sub (by simp) _ _ b3
  replace b4 := st3.sub (by simp) _ _ b4
  have hb0 := hb
  replace hb := st3.sub (by simp) _ _ (st2.fresh.sub (by simp) _ _ (st1.fresh.sub (by simp) _ _ hb))
  have no : ∀ c' w' old, Step c [i] [t, r, q, u] w c' w' → view c' i w' b = some (.cells (s.cells v').toArray 140 (0, 0)) → view c' r w' a4 = some (.cells old 34 (0, 0)) → old.size = 4 → ¬ clHit s m → client_Client_Take_K1 ⟨b, 0, none⟩ ⟨a3, 0, none⟩ ⟨a4, 0, none⟩ true w' R := by
    intro c' w' old st hb b4 hold hno
    unfold client_Client_Take_K1
    refine BS.yes rfl ?_
    refine RunU.var b4 (by kernel_rfl) (by simpa using hold) (by first | (simp [Value.oneCell']; done) | (simp [Value.oneCell', OpR.cells, sv]; done) | (simp [Value.oneCell', AnsR.cells, sv]; done) | rfl) fun w6 hW b4 => ?_
    refine LoadA.all (view_sub _ _ _) b4 rfl ?_
    have st' := st.wr_new hW sz4
    have := h nilV nilV c' w6 st'
    rw [clTake_no hno] at this
    exact this ⟨b, v', rfl, hW.step.sub ir _ _ hb, hd.mono (st'.sub ki), hn⟩ ⟨RdS.none_bytes .., RdS.none_strs ..⟩
  refine LoadC.ad (view_sub _ _ _) _ hb rfl (TBool.mk ?_)
  refine BS.nb (fun hw => no _ _ _ st hb b4 rfl (fun hc => by rw [hc.1] at hw; simp at hw)) (fun hw => ?_)
  refine LoadA.all (view_sub _ _ _) b3 (msg_sz hok) ?_
  have hm3 : MsgV (view c2 z w3) m v (.slice ova m.ans.data.length pva) (.slice oua m.ans.names.length pua) vh vb := hm.mono (st.sub zi)
  refine Check_c c2 t (hm3.mono (view_sub _ _ _)) hok (hG.mono ((st1.fresh.wv.trans st2.fresh.wv).trans st3.wv)) fun c4 w4 st4 => TInt.mk ?_
  replace st := st.trans (st4.weak (by simp) (by simp))
  replace b3 := st4.sub (by simp) _ _ b3
  replace b4 := st4.sub (by simp) _ _ b4
  replace hb := st4.sub (by simp) _ _ hb
  rcases wrM_cases m with ⟨hr, e⟩ | ⟨hr, e⟩
  · rw [e]
    exact BS.ne (fun _ => no _ _ _ st hb b4 rfl (fun hc => hr hc.2.1)) (fun e => by simp at e)
  rw [e]
  refine BS.ne (fun e => absurd rfl e) (fun _ => ?_)
  refine LoadC.ad (view_sub _ _ _) (.int .i64 m.kind) b3 rfl (TInt.mk ?_)
  refine BS.ne (fun hk => no _ _ _ st hb b4 rfl (fun hc => hk hc.2.2.1)) (fun hk => ?_)
  simp only [add_add]
  refine LoadC.ad (view_sub _ _ _) _ b3 g.g39 (TInt.mk ?_)
  refine LoadC.ad (view_sub _ _ _) _ hb rfl (TInt.mk ?_)
  refine BS.ne (fun hk => no _ _ _ st hb b4 rfl (fun hc => hk hc.2.2.2.1)) (fun hcl => ?_)
  refine LoadC.ad (view_sub _ _ _) _ b3 g.g40 (TInt.mk ?_)
  refine LoadC.ad (view_sub _ _ _) _ hb rfl (TInt.mk ?_)
  by_cases hnum : m.number ≠ s.number
  · have : (((m.number : Nat) : Int) != ((s.number : Nat) : Int)) = true := by simp; omega
    rw [this]
    exact no _ _ _ st hb b4 rfl (fun hc => hnum hc.2.2.2.2)
  have hnum : m.number = s.number := Decidable.not_not.1 hnum
  have : (((m.number : Nat) : Int) != ((s.number : Nat) : Int)) = false := by rw [hnum]; simp
  rw [this]
  have hit : clHit s m := ⟨hw, hr, hk, hcl, hnum⟩
  obtain ⟨hl1, hl2⟩ := take_ans hr hk
  unfold client_Client_Take_K1
  refine BS.no rfl ?_
  refine StoreC.ad hb (by simp [ClR.cells, OpR.cells]) fun w5 _ st5 hb => ?_
  replace st := st.trans (st5.weak (by simp) (by simp))
  replace b3 := st5.sub ti _ _ b3
  replace b4 := st5.sub ri _ _ b4
  rw [List.setIfInBounds_toArray] at hb
  have hb : view c4 i w5 b = some (.cells (ClR.cells ⟨s.id, s.number, s.op, false⟩ v').toArray 140 (0, 0)) := hb
  refine LoadA.part (view_sub _ _ _) (k := 47) (n := 4) (es := m.ans.cells (.slice ova m.ans.data.length pva) (.slice oua m.ans.names.length pua)) b3 rfl g.p47 ?_
  refine AllocC.col c4 q fun a6 c6 w6 st6 b6 hnew6 => ?_
  have sz6 : w.heap.size ≤ a6 := Nat.le_trans st.size (size_le_of_none hnew6)
  replace st := st.trans (st6.fresh.weak (by simp) (by simp))
  replace b4 := st6.fresh.sub (by simp) _ _ b4
  replace hb := st6.fresh.sub (by simp) _ _ hb
  have hA := hm.ans.mono (st.sub zi)
  obtain ⟨_, hao⟩ := ans_one hA.d hA.n (a := m.ans)
  refine RunU.var b6 (by kernel_rfl) rfl (by rw [Array.all_eq_true']; intro x hx; exact hao x (by simpa using hx)) fun w7 hW7 b6 => ?_
  replace b4 := hW7.step.sub rq _ _ b4
  replace hb := hW7.step.sub iq _ _ hb
  replace st := st.wr_new hW7 sz6
  refine DrewC.col c6 fun w8 st8 => ?_
  replace st := st.trans (st8.weak (by simp) (by simp))
  replace b4 := st8.sub (by simp) _ _ b4
  replace b6 := st8.sub (by simp) _ _ b6
  replace hb := st8.sub (by simp) _ _ hb
  refine LoadC.ad (view_sub _ _ _) (.slice ova m.ans.data.length pva) b6 rfl (TSl.mk ?_)
  refine LoadC.ad (view_sub _ _ _) (.slice oua m.ans.names.length pua) b6 rfl (TSl.mk ?_)
  refine BClone_c c6 u ((hm.ans.d.mono (st.sub zi)).mono (view_sub _ _ _)) (by omega) fun v9 c9 w9 st9 r9 => ?_
  obtain ⟨o9, p9, rfl⟩ := r9.form
  refine TSl.mk ?_
  replace st := st.trans (st9.weak (by simp) (by simp))
  replace b4 := st9.sub (by simp) _ _ b4
  replace b6 := st9.sub (by simp) _ _ b6
  replace hb := st9.sub (by simp) _ _ hb
  refine ⟨StableC.ad (view_sub _ _ _) b6 rfl, ?_⟩
  refine SClone_c c9 u ((hm.ans.n.mono (st.sub zi)).mono (view_sub _ _ _)) (by omega) fun v10 c10 w10 st10 r10 => ?_
  obtain ⟨o10, p10, rfl⟩ := r10.form
  refine TSl.mk ?_
  replace st := st.trans (st10.weak (by simp) (by simp))
  replace b4 := st10.sub (by simp) _ _ b4
  replace b6 := st10.sub (by simp) _ _ b6
  replace hb := st10.sub (by simp) _ _ hb
  replace r9 := r9.rd.mono (st10.sub (by simp))
  replace r10 := r10.rd
  refine StoreC.ad b6 (by simp [AnsR.cells]) fun w11 hW11 st11 b6 => ?_
  rw [List.setIfInBounds_toArray] at b6
  replace b4 := st11.sub rq _ _ b4
  replace hb := st11.sub iq _ _ hb
  replace r9 := r9.mono (st11.sub uq)
  replace r10 := r10.mono (st11.sub uq)
  replace st := st.wr_new hW11 sz6
  refine StoreC.ad b6 (by simp [AnsR.cells]) fun w12 hW12 st12 b6 => ?_
  rw [List.setIfInBounds_toArray] at b6
  replace b4 := st12.sub rq _ _ b4
  replace hb := st12.sub iq _ _ hb
  replace r9 := r9.mono (st12.sub uq)
  replace r10 := r10.mono (st12.sub uq)
  replace st := st.wr_new hW12 sz6
  have b6 : view c10 q w12 a6 = some (.cells (m.ans.cells (.slice o9 m.ans.data.length p9) (.slice o10 m.ans.names.length p10)).toArray 34 (0, 0)) := b6
  refine LoadA.all (view_sub _ _ _) b6 rfl ?_
  obtain ⟨_, hao⟩ := ans_one r9 r10 (a := m.ans)
  refine RunU.var b4 (by kernel_rfl) rfl (by rw [Array.all_eq_true']; intro x hx; exact hao x (by simpa using hx)) fun w13 hW13 b4 => ?_
  replace hb := hW13.step.sub ir _ _ hb
  replace r9 := r9.mono (hW13.step.sub ur)
  replace r10 := r10.mono (hW13.step.sub ur)
  replace st := st.wr_new hW13 sz4
  refine LoadA.all (view_sub _ _ _) b4 rfl ?_
  have := h (.slice o9 m.ans.data.length p9) (.slice o10 m.ans.names.length p10) c10 w13 st
  rw [clTake_yes hit] at this
  exact this ⟨b, v', rfl, hb, hd.mono (st.sub ki), hn⟩ ⟨r9, r10⟩

theorem Take_rf {c : Nat → Nat} (i k z t r : Nat) {w : World} {a : Addr} {s : ClR} {m : MsgR} {v va ua vh vb : Value} {R : Value → World → Prop} (hh : [i, z, t, r].Nodup) (hk : k ≠ i) (H : ClV 77 (view c i w) (view c k w) a s) (hm : MsgV (view c z w) m v va ua vh vb) (hok : m.ok) (hf : m.fair)
    (h : ∀ x y c' w', Step c [i] [t, r] w c' w' → ClV 77 (view c' i w') (view c' k w') a (clTake s m).1 → AnsV (view c' z w') (clTake s m).2.1 x y → R (.tuple #[.agg ((clTake s m).2.1.cells x y).toArray, .bool (clTake s m).2.2]) w') :
    CallV Tryd.prog 43 #[.pointer (some a), .agg (m.cells v va ua vh vb).toArray] w R := by
  simp only [List.nodup_cons, List.mem_cons, List.not_mem_nil, or_false, not_or, List.nodup_nil, not_false_eq_true, and_true] at hh
  obtain ⟨⟨n1, n2, n3⟩, ⟨n4, n5⟩, n6⟩ := hh
  have ki : k ∉ [i] := by rw [List.mem_singleton]; exact hk
  have zi : z ∉ [i] := by rw [List.mem_singleton]; exact Ne.symm n1
  have ti : t ∉ [i] := by rw [List.mem_singleton]; exact Ne.symm n2
  have ri : r ∉ [i] := by rw [List.mem_singleton]; exact Ne.symm n3
  have ir : i ∉ [r] := by rw [List.mem_singleton]; exact n3
  clear n1 n2 n3 n4 n5 n6
  obtain ⟨b, v', rfl, hb, hd, hn⟩ := H
  have g := msg_gets (m := m) (v := v) (va := va) (ua := ua) (vh := vh) (vb := vb) hok.2.2.2.2.2.1
  refine ref25_Client_Take_vc ?_
  unfold ref25_Client_Take_VC
  refine AllocC.col c t fun a3 c1 w1 st1 b3 hnew3 => ?_
  refine AllocC.col c1 r fun a4 c2 w2 st2 b4 hnew4 => ?_
  replace b3 := st2.fresh.sub (by simp) _ _ b3
  have sz4 : w.heap.size ≤ a4 := Nat.le_trans st1.fresh.size (size_le_of_none hnew4)
  have st : Step c [i] [t, r] w c2 w2 := (st1.fresh.weak (by simp) (by simp)).trans (st2.fresh.weak (by simp) (by simp))
  refine DrewC.col c2 fun w3 st3 => ?_
  replace st := st.trans (st3.weak (by simp) (by simp))
  replace b3 := st3.sub (by simp) _ _ b3
  replace b4 := st3.sub (by simp) _ _ b4
  replace hb := st3.sub (by simp) _ _ (st2.fresh.sub (by simp) _ _ (st1.fresh.sub (by simp) _ _ hb))
  have no : ∀ c' w' old, Step c [i] [t, r] w c' w' → view c' i w' b = some (.cells (s.cells v').toArray 77 (0, 0)) → view c' r w' a4 = some (.cells old 34 (0, 0)) → old.size = 4 → ¬ clHit s m → ref25_Client_Take_K1 ⟨b, 0, none⟩ ⟨a3, 0, none⟩ ⟨a4, 0, none⟩ true w' R := by
    intro c' w' old st hb b4 hold hno
    unfold ref25_Client_Take_K1
    refine BS.yes rfl ?_
    refine RunU.var b4 (by kernel_rfl) (by simpa using hold) (by first | (simp [Value.oneCell']; done) | (simp [Value.oneCell', OpR.cells, sv]; done) | (simp [Value.oneCell', AnsR.cells, sv]; done) | rfl) fun w6 hW b4 => ?_
    refine LoadA.all (view_sub _ _ _) b4 rfl ?_
    have st' := st.wr_new hW sz4
    have := h nilV nilV c' w6 st'
    rw [clTake_no hno] at this
    exact this ⟨b, v', rfl, hW.step.sub ir _ _ hb, hd.mono (st'.sub ki), hn⟩ ⟨RdS.none_bytes .., RdS.none_strs ..⟩
  refine LoadC.ad (view_sub _ _ _) _ hb rfl (TBool.mk ?_)
  refine BS.nb (fun hw => no _ _ _ st hb b4 rfl (fun hc => by rw [hc.1] at hw; simp at hw)) (fun hw => ?_)
  refine LoadC.ad (view_sub _ _ _) (.int .i64 m.kind) b3 rfl (TInt.mk ?_)
  refine BS.ne (fun hk => no _ _ _ st hb b4 rfl (fun hc => hk hc.2.2.1)) (fun hk => ?_)
  refine LoadA.all (view_sub _ _ _) b3 (msg_sz hok) ?_
  refine Right19_c c2 t ((hm.mono (st.sub zi)).mono (view_sub _ _ _)) hok hf fun rb c4 w4 st4 hrb => TBool.mk ?_
  replace st := st.trans (st4.weak (by simp) (by simp))
  replace b3 := st4.sub (by simp) _ _ b3
  replace b4 := st4.sub (by simp) _ _ b4
  replace hb := st4.sub (by simp) _ _ hb
  refine BS.nb (fun hf => no _ _ _ st hb b4 rfl (fun hc => by rw [hrb.2 hc.2.1] at hf; simp at hf)) (fun hrr => ?_)
  have hr := hrb.1 hrr
  simp only [add_add]
  refine LoadC.ad (view_sub _ _ _) _ b3 g.g39 (TInt.mk ?_)
  refine LoadC.ad (view_sub _ _ _) _ hb rfl (TInt.mk ?_)
  refine BS.ne (fun hk => no _ _ _ st hb b4 rfl (fun hc => hk hc.2.2.2.1)) (fun hcl => ?_)
  refine LoadC.ad (view_sub _ _ _) _ b3 g.g40 (TInt.mk ?_)
  refine LoadC.ad (view_sub _ _ _) _ hb rfl (TInt.mk ?_)
  by_cases hnum : m.number ≠ s.number
  · have : (((m.number : Nat) : Int) != ((s.number : Nat) : Int)) = true := by simp; omega
    rw [this]
    exact no _ _ _ st hb b4 rfl (fun hc => hnum hc.2.2.2.2)
  have hnum : m.number = s.number := Decidable.not_not.1 hnum
  have : (((m.number : Nat) : Int) != ((s.number : Nat) : Int)) = false := by rw [hnum]; simp
  rw [this]
  have hit : clHit s m := ⟨hw, hr, hk, hcl, hnum⟩
  unfold ref25_Client_Take_K1
  refine BS.no rfl ?_
  refine StoreC.ad hb (by simp [ClR.cells, OpR.cells]) fun w5 _ st5 hb => ?_
  replace st := st.trans (st5.weak (by simp) (by simp))
  replace b3 := st5.sub ti _ _ b3
  replace b4 := st5.sub ri _ _ b4
  rw [List.setIfInBounds_toArray] at hb
  have hb : view c4 i w5 b = some (.cells (ClR.cells ⟨s.id, s.number, s.op, false⟩ v').toArray 77 (0, 0)) := hb
  refine LoadA.part (view_sub _ _ _) (k := 47) (n := 4) (es := m.ans.cells va ua) b3 rfl g.p47 ?_
  have hA := hm.ans.mono (st.sub zi)
  obtain ⟨_, hao⟩ := ans_one hA.d hA.n (a := m.ans)
  refine RunU.var b4 (by kernel_rfl) rfl (by rw [Array.all_eq_true']; intro x hx; exact hao x (by simpa using hx)) fun w7 hW7 b4 => ?_
  replace hb := hW7.step.sub ir _ _ hb
  replace st := st.wr_new hW7 sz4
  refine LoadA.all (view_sub _ _ _) b4 rfl ?_
  have := h va ua c4 w7 st
  rw [clTake_yes hit] at this
  exact this ⟨b, v', rfl, hb, hd.mono (st.sub ki), hn⟩ (hm.ans.mono (st.sub zi))
end Go.Proofs.YtdjgdcafmfheoaaDoor

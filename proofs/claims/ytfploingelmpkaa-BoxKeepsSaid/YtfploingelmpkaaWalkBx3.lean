/-
  Chapter 22's second law, walked: what waits stays.
-/
import Derived.Test.YtfploingelmpkaaArgB
set_option linter.unusedVariables false
set_option linter.unusedSimpArgs false
namespace Go.Vc
open Go
/-- rows stay as long as they are -/
def SzSub (h h' : View) : Prop := ∀ b cs T, h b = some (.cells cs T (0, 0)) → ∃ cs' : Array Value, cs'.size = cs.size ∧ h' b = some (.cells cs' T (0, 0))
theorem SzSub.of {h h' : View} (hs : Sub h h') : SzSub h h' := fun b cs T hb => ⟨cs, rfl, hs _ _ hb⟩
/-- a slice that may be written -/
def WbS (h : View) (v : Value) (T z n : Nat) : Prop := ∃ o p, v = .slice o n p ∧ (n = 0 ∨ ∃ g cur, o = some ⟨g, 0, none⟩ ∧ h g = some (.cells cur T (0, 0)) ∧ n * z ≤ cur.size)
theorem WbS.of {h : View} {v : Value} {T z n : Nat} {xs : List Value} (ho : OwS h v T z n xs) : WbS h v T z n := by
  rcases ho.2 with ⟨rfl, rfl⟩ | ⟨g, cap, cur, rfl, hg, hn, _, hs, _⟩
  · exact ⟨none, 0, rfl, .inl rfl⟩
  · exact ⟨_, cap, rfl, .inr ⟨g, cur, rfl, hg, by rw [hs]; exact Nat.mul_le_mul_right _ hn⟩⟩
theorem WbS.mono {h h' : View} {v : Value} {T z n : Nat} (H : WbS h v T z n) (hs : SzSub h h') : WbS h' v T z n := by
  obtain ⟨o, p, e, hr⟩ := H
  refine ⟨o, p, e, hr.imp id ?_⟩
  rintro ⟨g, cur, e', hg, hn⟩
  obtain ⟨cs', hsz, hb⟩ := hs _ _ _ hg
  exact ⟨g, cs', e', hb, by rw [hsz]; exact hn⟩
theorem WbS.go {c c' : Nat → Nat} {i : Nat} {w w' : World} {W N : List Nat} {v : Value} {T z n : Nat} (H : WbS (view c i w) v T z n) (st : Step c W N w c' w') (hi : i ∉ W) : WbS (view c' i w') v T z n := H.mono (.of (st.sub hi))
theorem WbS.put {c : Nat → Nat} {i : Nat} {w : World} {o : Option Addr} {p T z n : Nat} (H : WbS (view c i w) (.slice o n p) T z n) {k j : Nat} (hk : k < n) (hj : j < z) {u : Value} {C : World → Prop}
    (h : ∀ w', Step c [i] [] w c w' → SzSub (view c i w) (view c i w') → C w') : TSome o fun a => StoreC w ((a.add ((k : Int).toNat * z)).add j) u C := by
  obtain ⟨o', p', e, hr⟩ := H
  cases e
  rcases hr with rfl | ⟨g, cur, rfl, hg, hn⟩
  · omega
  refine TSome.mk ?_
  rw [addr_add, addr_add, Nat.zero_add, Int.toNat_natCast]
  have h2 : (k + 1) * z ≤ n * z := Nat.mul_le_mul_right _ hk
  rw [Nat.succ_mul] at h2
  refine StoreC.col hg (by omega) fun w' hW st hb => h w' st fun b cs T' hb' => ?_
  by_cases hbg : g = b
  · subst hbg
    rw [hg] at hb'
    simp only [Option.some.injEq, Obj.cells.injEq] at hb'
    obtain ⟨rfl, rfl, _⟩ := hb'
    exact ⟨_, by simp, hb⟩
  · exact ⟨cs, rfl, hW.old _ _ hb' (by simpa using hbg)⟩
theorem WbS.put1 {c : Nat → Nat} {i : Nat} {w : World} {o : Option Addr} {p T n : Nat} (H : WbS (view c i w) (.slice o n p) T 1 n) {k : Nat} (hk : k < n) {u : Value} {C : World → Prop}
    (h : ∀ w', Step c [i] [] w c w' → SzSub (view c i w) (view c i w') → C w') : TSome o fun a => StoreC w (a.add ((k : Int).toNat * 1)) u C := by
  have := WbS.put H (k := k) (j := 0) hk (by omega) (u := u) (C := C) h
  obtain ⟨a, e, hs⟩ := TSome_out this
  subst e
  refine TSome.mk ?_
  have e1 : ∀ (a : Addr) (m : Nat), (a.add m).add 0 = a.add m := fun a m => by unfold Addr.add; simp
  rw [e1] at hs; exact hs
theorem WbS.len {h : View} {o : Option Addr} {l p T z n : Nat} (H : WbS h (.slice o l p) T z n) : l = n := by
  obtain ⟨o', p', e, _⟩ := H; cases e; rfl
def OwnB (T : Nat) (h : View) (b : List UInt8) (es : List Value) : Prop := ∃ v, es = [v] ∧ OwS h v T 1 b.length (bvs b)
theorem OwnB.mono {T : Nat} {h h' : View} {b : List UInt8} {es : List Value} (H : OwnB T h b es) (hs : Sub h h') : OwnB T h' b es := by
  obtain ⟨v, e, ho⟩ := H; exact ⟨v, e, ho.mono hs⟩
theorem OwnB.ones {T : Nat} {h : View} {b : List UInt8} {es : List Value} (H : OwnB T h b es) : ∀ u ∈ es, u.oneCell' = true := by
  obtain ⟨v, rfl, ho⟩ := H
  obtain ⟨o, c, rfl⟩ := ho.form
  intro u hu; simp at hu; subst hu; rfl
end Go.Vc
namespace Go.Proofs.Ytfploingelmpkaa.walkBx
open Go.Vc Go.ChangeShapes Go.WideShapes Go.ChangeAt Go.RowKit
attribute [local irreducible] TInt TBool TStr TPtr TSl TAgg TMap TChan T2 T3 T4 BS Req TSome TCell TByte LoadC LoadA StoreC AllocC RunV RunU CallV ExtV EqA StableC StableA StableV TCells ReadV
attribute [local irreducible] DrewC
theorem keeps (m : MsgR) (v va ua vh vb : Value) (x : Int) (w : World) (hm : MsgV (wv w) m v va ua vh vb) (hok : m.ok) :
    CallV Try.prog 3 #[.agg (m.cells v va ua vh vb).toArray, .int .u8 x] w fun r w' => r = .bool true ∧ Below w.heap.size w w' := by
  have h32 := hok.2.2.2.2.2.1
  obtain ⟨ov, pv, rfl⟩ := RdS.form hm.op
  obtain ⟨oa, pa, rfl⟩ := hm.ans.d.form
  obtain ⟨ou, pu, rfl⟩ := hm.ans.n.form
  obtain ⟨oh, ph, rfl⟩ := LsV.form hm.hs
  obtain ⟨ob, pb, rfl⟩ := LsV.form hm.bs
  have M : MsgV (view (fun _ => 0) 0 w) m (.slice ov m.op.data.length pv) (.slice oa m.ans.data.length pa) (.slice ou m.ans.names.length pu) (.slice oh m.hashes.length ph) (.slice ob m.blocks.length pb) := by rw [view0]; exact hm
  have S := Fx.start w
  refine law22_BoxKeeps_vc ?_
  unfold law22_BoxKeeps_VC
  refine AllocC.col (fun _ => 0) 6 fun a2 c1 w1 st1 b6 _ => ?_
  replace M := M.mono (st1.fresh.sub (by decide))
  replace S := S.go st1.step (by decide) (by decide)
  refine speaks22 c1 fun c2 w2 st2 => TBool.mk (BS.no rfl ?_)
  replace M := M.mono (st2.sub (by decide)); replace b6 := st2.sub (by decide) _ _ b6
  replace S := S.go st2 (by decide) (by decide)
  refine LoadA.all (view_sub _ _ _) b6 (msg_sz hok) ?_
  refine Great19_c c2 9 (M.mono (view_sub _ _ _)) hok fun b c3 w3 st3 hb => TBool.mk ?_
  replace M := M.mono (st3.sub (by decide)); replace b6 := st3.sub (by decide) _ _ b6
  replace S := S.go st3 (by decide) (by decide)
  refine BS.mk (fun _ => ⟨rfl, fin S⟩) (fun hf => ?_)
  have hmild := hb hf
  obtain ⟨n1, n2, n3, n4, n5, _, _, n6⟩ := id hmild
  clear hb hf
  refine New_b c3 1 2 (fun hn => absurd ⟨by omega, by omega⟩ hn) fun _ a c4 w4 st4 N => T2.mk (TPtr.mk (TInt.mk (BS.no rfl ?_)))
  replace M := M.mono (st4.sub (by decide)); replace b6 := st4.sub (by decide) _ _ b6
  replace S := S.go st4 (by decide) (by decide)
  refine LoadA.all (view_sub _ _ _) b6 (msg_sz hok) ?_
  refine AllocC.col c4 7 fun a7 c5 w5 st5 b7 _ => ?_
  replace M := M.mono (st5.fresh.sub (by decide)); replace b6 := st5.fresh.sub (by decide) _ _ b6
  replace N := N.go st5.fresh ⟨by simp, by simp⟩
  replace S := S.go st5.step (by decide) (by decide)
  refine RunU.msg b7 rfl M hok fun w6 st6 b7 => ?_
  replace M := M.mono (st6.step.sub (i := 0) (by decide))
  replace b6 := st6.step.sub (by decide) _ _ b6
  replace N := N.go st6.step ⟨by simp, by simp⟩
  replace S := S.go st6.step (by decide) (by decide)
  -- the operation's data
  refine AllocC.col c5 20 fun a28 c7 w7 st7 b20 _ => ?_
  replace M := M.mono (st7.fresh.sub (by decide)); replace b6 := st7.fresh.sub (by decide) _ _ b6; replace b7 := st7.fresh.sub (by decide) _ _ b7
  replace N := N.go st7.fresh ⟨by simp, by simp⟩
  replace S := S.go st7.step (by decide) (by decide)
  simp only [add_add]
  refine LoadC.ad (view_sub _ _ _) _ b6 (get46 h32) (TSl.mk ?_)
  refine app_bytes slU8 (OwS.some_bytes b20) (RdS.mono M.op (view_sub _ _ _)) (by simp; omega) fun o33 p33 c8 w8 st8 r20 => TSl.mk ?_
  clear b20
  rw [List.nil_append] at r20 ⊢
  replace M := M.mono (st8.step.sub (by decide)); replace b6 := st8.step.sub (by decide) _ _ b6; replace b7 := st8.step.sub (by decide) _ _ b7
  replace N := N.go st8.step ⟨by simp, by simp⟩
  replace S := S.go st8.step (by decide) (by decide)
  refine StoreC.ad b7 (by rw [(msg_gets h32).sz]; omega) fun w9 _ st9 b7 => ?_
  replace M := M.mono (st9.sub (by decide)); replace b6 := st9.sub (by decide) _ _ b6; replace r20 := r20.mono (st9.sub (by decide))
  replace N := N.go st9 ⟨by simp, by simp⟩
  replace S := S.go st9 (by decide) (by decide)
  rw [set46 h32] at b7
  -- the names
  refine AllocC.col c8 21 fun a37 c10 w10 st10 b21 _ => ?_
  replace M := M.mono (st10.fresh.sub (by decide)); replace b6 := st10.fresh.sub (by decide) _ _ b6; replace b7 := st10.fresh.sub (by decide) _ _ b7; replace r20 := r20.mono (st10.fresh.sub (by decide))
  replace N := N.go st10.fresh ⟨by simp, by simp⟩
  replace S := S.go st10.step (by decide) (by decide)
  refine LoadC.ad (view_sub _ _ _) _ b6 (msg_gets h32).g50 (TSl.mk ?_)
  refine app_strs slStr (OwS.some_strs b21) (M.ans.n.mono (view_sub _ _ _)) (by simp; omega) fun o41 p41 c11 w11 st11 r21 => TSl.mk ?_
  clear b21
  rw [List.nil_append] at r21 ⊢
  replace M := M.mono (st11.step.sub (by decide)); replace b6 := st11.step.sub (by decide) _ _ b6; replace b7 := st11.step.sub (by decide) _ _ b7; replace r20 := r20.mono (st11.step.sub (by decide))
  replace N := N.go st11.step ⟨by simp, by simp⟩
  replace S := S.go st11.step (by decide) (by decide)
  refine StoreC.ad b7 (by rw [(msg_gets h32).sz]; omega) fun w12 _ st12 b7 => ?_
  replace M := M.mono (st12.sub (by decide)); replace b6 := st12.sub (by decide) _ _ b6; replace r20 := r20.mono (st12.sub (by decide)); replace r21 := r21.mono (st12.sub (by decide))
  replace N := N.go st12 ⟨by simp, by simp⟩
  replace S := S.go st12 (by decide) (by decide)
  rw [set50 h32] at b7
  -- the digests
  refine AllocC.col c11 22 fun a44 c13 w13 st13 b22 _ => ?_
  replace M := M.mono (st13.fresh.sub (by decide)); replace b6 := st13.fresh.sub (by decide) _ _ b6; replace b7 := st13.fresh.sub (by decide) _ _ b7; replace r20 := r20.mono (st13.fresh.sub (by decide)); replace r21 := r21.mono (st13.fresh.sub (by decide))
  replace N := N.go st13.fresh ⟨by simp, by simp⟩
  replace S := S.go st13.step (by decide) (by decide)
  refine LoadC.ad (view_sub _ _ _) _ b6 (msg_gets h32).g51 (TSl.mk ?_)
  refine LsO.app slHash (LsO.empty (g := wv w13) (P := HashP) b22) (M.hs.toW (view_sub _ _ _) fun _ _ hp => hp) (fun a es hp => by rw [hp.1]; exact bvs_one _) (by simp; omega) (by simp; omega) fun o47 p47 c14 w14 st14 r22 => TSl.mk ?_
  clear b22
  rw [List.nil_append] at r22 ⊢
  replace M := M.mono (st14.step.sub (by decide)); replace b6 := st14.step.sub (by decide) _ _ b6; replace b7 := st14.step.sub (by decide) _ _ b7; replace r20 := r20.mono (st14.step.sub (by decide)); replace r21 := r21.mono (st14.step.sub (by decide))
  replace N := N.go st14.step ⟨by simp, by simp⟩
  replace S := S.go st14.step (by decide) (by decide)
  refine StoreC.ad b7 (by rw [(msg_gets h32).sz]; omega) fun w15 _ st15 b7 => ?_
  replace M := M.mono (st15.sub (by decide)); replace b6 := st15.sub (by decide) _ _ b6; replace r20 := r20.mono (st15.sub (by decide)); replace r21 := r21.mono (st15.sub (by decide))
  replace r22 := r22.mono' (fun _ _ hp => hp) (st15.sub (by decide))
  replace N := N.go st15 ⟨by simp, by simp⟩
  replace S := S.go st15 (by decide) (by decide)
  rw [set51 h32] at b7
  -- the blocks
  refine AllocC.col c14 23 fun a49 c16 w16 st16 b23 _ => ?_
  replace M := M.mono (st16.fresh.sub (by decide)); replace b6 := st16.fresh.sub (by decide) _ _ b6; replace b7 := st16.fresh.sub (by decide) _ _ b7; replace r20 := r20.mono (st16.fresh.sub (by decide)); replace r21 := r21.mono (st16.fresh.sub (by decide))
  replace r22 := r22.mono' (fun _ _ hp => hp) (st16.fresh.sub (by decide))
  replace N := N.go st16.fresh ⟨by simp, by simp⟩
  replace S := S.go st16.step (by decide) (by decide)
  refine StoreC.ad b7 (by rw [(msg_gets h32).sz]; omega) fun w17 _ st17 b7 => ?_
  replace M := M.mono (st17.sub (by decide)); replace b6 := st17.sub (by decide) _ _ b6; replace r20 := r20.mono (st17.sub (by decide)); replace r21 := r21.mono (st17.sub (by decide)); replace b23 := st17.sub (by decide) _ _ b23
  replace r22 := r22.mono' (fun _ _ hp => hp) (st17.sub (by decide))
  replace N := N.go st17 ⟨by simp, by simp⟩
  replace S := S.go st17 (by decide) (by decide)
  rw [set52 h32] at b7
  refine LoadC.ad (view_sub _ _ _) _ b6 (msg_gets h32).g52 (TSl.mk ?_)
  replace N : BoxV c16 1 2 w17 a 2 [] := N
  refine LoopI.up m.blocks.length (fun i w' => ∃ (c' : Nat → Nat) (oB : Option Addr) (qB pB : Nat), i = qB ∧ Fx w c' w' ∧ BoxV c' 1 2 w' a 2 [] ∧ MsgV (view c' 0 w') m (.slice ov m.op.data.length pv) (.slice oa m.ans.data.length pa) (.slice ou m.ans.names.length pu) (.slice oh m.hashes.length ph) (.slice ob m.blocks.length pb) ∧ view c' 6 w' a2 = some (.cells (m.cells (.slice ov m.op.data.length pv) (.slice oa m.ans.data.length pa) (.slice ou m.ans.names.length pu) (.slice oh m.hashes.length ph) (.slice ob m.blocks.length pb)).toArray 37 (0, 0)) ∧ view c' 7 w' a7 = some (.cells (m.cells (.slice o33 m.op.data.length p33) (.slice oa m.ans.data.length pa) (.slice o41 m.ans.names.length p41) (.slice o47 m.hashes.length p47) (.slice oB qB pB)).toArray 37 (0, 0)) ∧ (OwS (view c' 20 w') (.slice o33 m.op.data.length p33) 5 1 m.op.data.length (bvs m.op.data) ∧ OwS (view c' 21 w') (.slice o41 m.ans.names.length p41) 9 1 m.ans.names.length (svs m.ans.names) ∧ LsO HashP 24 32 (view c' 22 w') (fun _ => none) (.slice o47 m.hashes.length p47) m.hashes) ∧ LsO (OwnB 5) 25 1 (view c' 23 w') (view c' 24 w') (.slice oB qB pB) (m.blocks.take i))
    ⟨c16, _, 0, 0, rfl, S, N, M, b6, b7, ⟨r20, r21, r22⟩, by rw [List.take_zero]; exact LsO.empty b23⟩ ?_
  clear S N M b6 b7 r20 r21 r22 b23
  rintro i w18 B hi ⟨c18, oB, _, pB, rfl, S, N, M, b6, b7, ⟨r20, r21, r22⟩, T⟩ back
  refine BS.dec (fun hlt => ?_) (fun hge => ?_)
  · obtain ⟨b, hb⟩ := get_of_lt (l := m.blocks) (i := i) (by omega)
    have hbl : b.length ≤ 40000 := n5 b (List.mem_of_getElem? hb)
    obtain ⟨es, ⟨vs, rfl, rs⟩, E⟩ := LsV.at (by omega) M.bs hb
    obtain ⟨os, ps, rfl⟩ := rs.form
    refine Req.bnd ⟨by omega, by omega⟩ (E.ld0 (view_sub _ _ _) rfl (TSl.mk ?_))
    clear E
    refine DrewC.col c18 fun w19 st19 => ?_
    replace M := M.mono (st19.sub (by decide)); replace b6 := st19.sub (by decide) _ _ b6; replace b7 := st19.sub (by decide) _ _ b7; replace r20 := r20.mono (st19.sub (by decide)); replace r21 := r21.mono (st19.sub (by decide))
    replace rs := rs.mono (st19.sub (i := 0) (by decide))
    replace r22 := r22.mono' (fun _ _ hp => hp) (st19.sub (by decide))
    replace T := T.mono' (fun _ _ hp => hp.mono (st19.sub (by decide))) (st19.sub (by decide))
    replace N := N.go st19 ⟨by simp, by simp⟩
    replace S := S.go st19 (by decide) (by decide)
    refine LoadC.ad (view_sub _ _ _) _ b7 (msg_gets h32).g52 (TSl.mk ?_)
    refine AllocC.col c18 24 fun a60 c20 w20 st20 b24 hnew => ?_
    replace M := M.mono (st20.fresh.sub (by decide)); replace b6 := st20.fresh.sub (by decide) _ _ b6; replace b7 := st20.fresh.sub (by decide) _ _ b7; replace r20 := r20.mono (st20.fresh.sub (by decide)); replace r21 := r21.mono (st20.fresh.sub (by decide))
    replace rs := rs.mono (st20.fresh.sub (i := 0) (by decide))
    replace r22 := r22.mono' (fun _ _ hp => hp) (st20.fresh.sub (by decide))
    replace T := T.mono' (fun _ _ hp => hp.mono (st20.but_new hnew)) (st20.fresh.sub (by decide))
    replace N := N.go st20.fresh ⟨by simp, by simp⟩
    replace S := S.go st20.step (by decide) (by decide)
    refine ⟨StableC.ad (view_sub _ _ _) b7 (msg_gets h32).g52, ?_⟩
    refine app_bytes slU8 (OwS.some_bytes b24) (rs.mono (view_sub _ _ _)) (by simp; omega) fun o62 p62 c21 w21 st21 r24 => TSl.mk ?_
    clear b24
    have hW : Wr c20 24 w20 c21 w21 (some a60) := by simpa [Value.ownBlock] using st21
    rw [List.nil_append] at r24 ⊢
    replace M := M.mono (st21.step.sub (by decide)); replace b6 := st21.step.sub (by decide) _ _ b6; replace b7 := st21.step.sub (by decide) _ _ b7; replace r20 := r20.mono (st21.step.sub (by decide)); replace r21 := r21.mono (st21.step.sub (by decide))
    replace r22 := r22.mono' (fun _ _ hp => hp) (st21.step.sub (by decide))
    replace T := T.mono' (fun _ _ hp => hp.mono (hW.but.trans (but_sub _ _))) (st21.step.sub (by decide))
    replace N := N.go st21.step ⟨by simp, by simp⟩
    replace S := S.go st21.step (by decide) (by decide)
    refine ⟨StableC.ad (view_sub _ _ _) b7 (msg_gets h32).g52, ?_⟩
    refine AllocC.col c21 8 fun a63 c22 w22 st22 b8 _ => ?_
    replace M := M.mono (st22.fresh.sub (by decide)); replace b6 := st22.fresh.sub (by decide) _ _ b6; replace b7 := st22.fresh.sub (by decide) _ _ b7; replace r20 := r20.mono (st22.fresh.sub (by decide)); replace r21 := r21.mono (st22.fresh.sub (by decide)); replace r24 := r24.mono (st22.fresh.sub (by decide))
    replace r22 := r22.mono' (fun _ _ hp => hp) (st22.fresh.sub (by decide))
    replace T := T.mono' (fun _ _ hp => hp.mono (st22.fresh.sub (by decide))) (st22.fresh.sub (by decide))
    replace N := N.go st22.fresh ⟨by simp, by simp⟩
    replace S := S.go st22.step (by decide) (by decide)
    refine ⟨StableC.ad (view_sub _ _ _) b7 (msg_gets h32).g52, ?_⟩
    have one : LsW (OwnB 5) 1 (wv w22) (view c22 24 w22) (.slice (some ⟨a63, 0, none⟩) 1 1) [b] := LsW.one (view_sub _ _ _ _ _ b8) rfl ⟨_, rfl, r24⟩
    have hle := T.len
    have hti : (m.blocks.take i).length = i := by rw [List.length_take]; omega
    refine LsO.app slBls T one (fun _ _ hp => hp.ones) (by rw [hti]; simp; omega) (by rw [hti]; simp; omega) fun o64 p64 c23 w23 st23 T => TSl.mk ?_
    replace M := M.mono (st23.step.sub (by decide)); replace b6 := st23.step.sub (by decide) _ _ b6; replace b7 := st23.step.sub (by decide) _ _ b7; replace r20 := r20.mono (st23.step.sub (by decide)); replace r21 := r21.mono (st23.step.sub (by decide))
    replace r22 := r22.mono' (fun _ _ hp => hp) (st23.step.sub (by decide))
    replace T := T.mono' (fun _ _ hp => hp.mono (st23.step.sub (by decide))) (fun _ _ h => h)
    replace N := N.go st23.step ⟨by simp, by simp⟩
    replace S := S.go st23.step (by decide) (by decide)
    refine StoreC.ad b7 (by rw [(msg_gets h32).sz]; omega) fun w24 _ st24 b7 => ?_
    replace M := M.mono (st24.sub (by decide)); replace b6 := st24.sub (by decide) _ _ b6; replace r20 := r20.mono (st24.sub (by decide)); replace r21 := r21.mono (st24.sub (by decide))
    replace r22 := r22.mono' (fun _ _ hp => hp) (st24.sub (by decide))
    replace T := T.mono' (fun _ _ hp => hp.mono (st24.sub (by decide))) (st24.sub (by decide))
    replace N := N.go st24 ⟨by simp, by simp⟩
    replace S := S.go st24 (by decide) (by decide)
    rw [set52 h32] at b7
    have ht : m.blocks.take (i + 1) = m.blocks.take i ++ [b] := by rw [List.take_add_one, hb]; rfl
    rw [wrap_i64 (by omega) (by omega)]
    refine back _ (by omega) ⟨c23, o64, _, p64, ?_, S, N, M, b6, b7, ⟨r20, r21, r22⟩, ?_⟩
    · rw [List.length_append, hti]; rfl
    · rw [ht]; exact T
  have : i = m.blocks.length := by omega
  subst this
  clear back B hi hge
  rw [List.take_length] at T
  obtain ⟨xs, ho, hx⟩ := T
  replace hx : ∀ (j : Nat) (b : List UInt8), m.blocks[j]? = some b → ∃ u, xs[j]? = some u ∧ OwS (view c18 24 w18) u 5 1 b.length (bvs b) := fun j b hj => by
    obtain ⟨u, e, ho⟩ := hx j b hj
    rw [slot_one] at e
    cases hq : xs[j]? with
    | none => rw [hq] at e; simp at e
    | some u' => rw [hq] at e; simp at e; subst e; exact ⟨u', rfl, ho⟩
  refine LoadA.all (view_sub _ _ _) b7 (msg_gets h32).sz ?_
  have MF : MsgV (wv w18) m (.slice o33 m.op.data.length p33) (.slice oa m.ans.data.length pa) (.slice o41 m.ans.names.length p41) (.slice o47 m.hashes.length p47) (.slice oB m.blocks.length pB) := by
    refine ⟨r20.rd.mono (view_sub _ _ _), ⟨M.ans.d.mono (view_sub _ _ _), r21.rd.mono (view_sub _ _ _)⟩, r22.rd (fun _ _ hp => hp) (view_sub _ _ _), xs, ho.rd.mono (view_sub _ _ _), fun j b hj => ?_⟩
    obtain ⟨u, h1, h2⟩ := hx j b hj
    rw [slot_one, h1]
    exact ⟨u, rfl, h2.rd.mono (view_sub _ _ _)⟩
  refine Put_b 8 (by decide) N MF hok hmild fun c25 w25 st25 N => ?_
  replace M := M.mono (st25.sub (by decide)); replace b6 := st25.sub (by decide) _ _ b6; replace b7 := st25.sub (by decide) _ _ b7; replace r20 := r20.mono (st25.sub (by decide)); replace r21 := r21.mono (st25.sub (by decide)); replace ho := ho.mono (st25.sub (by decide))
  replace r22 := r22.mono' (fun _ _ hp => hp) (st25.sub (by decide))
  replace hx : ∀ (j : Nat) (b : List UInt8), m.blocks[j]? = some b → 0 ≤ j → ∃ u, xs[j]? = some u ∧ WbS (view c25 24 w25) u 5 1 b.length := fun j b hj _ => by
    obtain ⟨u, h1, h2⟩ := hx j b hj; exact ⟨u, h1, WbS.of (h2.mono (st25.sub (by decide)))⟩
  replace S := S.go st25 (by decide) (by decide)
  rw [if_pos (by simp)] at N
  rw [if_pos (by simp)]
  replace N : BoxV c25 1 2 w25 a 2 [m] := N
  have K20 := WbS.of r20
  have K21 := WbS.of r21
  have K22 : WbS (view c25 22 w25) (.slice o47 m.hashes.length p47) 24 32 m.hashes.length := by obtain ⟨ys, hy, _⟩ := r22; exact WbS.of hy
  clear r20 r21 r22 MF
  refine TInt.mk (BS.no rfl ?_)
  refine LoadC.ad (view_sub _ _ _) _ b7 (msg_gets h32).g52 (TSl.mk ?_)
  -- the blocks are written over
  refine LoopI.up m.blocks.length (fun i w' => ∃ (c' : Nat → Nat) (qB : Nat) (xs : List Value), qB = m.blocks.length ∧ (Fx w c' w' ∧ BoxV c' 1 2 w' a 2 [m] ∧ MsgV (view c' 0 w') m (.slice ov m.op.data.length pv) (.slice oa m.ans.data.length pa) (.slice ou m.ans.names.length pu) (.slice oh m.hashes.length ph) (.slice ob m.blocks.length pb) ∧ view c' 6 w' a2 = some (.cells (m.cells (.slice ov m.op.data.length pv) (.slice oa m.ans.data.length pa) (.slice ou m.ans.names.length pu) (.slice oh m.hashes.length ph) (.slice ob m.blocks.length pb)).toArray 37 (0, 0)) ∧ view c' 7 w' a7 = some (.cells (m.cells (.slice o33 m.op.data.length p33) (.slice oa m.ans.data.length pa) (.slice o41 m.ans.names.length p41) (.slice o47 m.hashes.length p47) (.slice oB qB pB)).toArray 37 (0, 0)) ∧ WbS (view c' 20 w') (.slice o33 m.op.data.length p33) 5 1 m.op.data.length ∧ WbS (view c' 21 w') (.slice o41 m.ans.names.length p41) 9 1 m.ans.names.length ∧ WbS (view c' 22 w') (.slice o47 m.hashes.length p47) 24 32 m.hashes.length) ∧ OwS (view c' 23 w') (.slice oB qB pB) 25 1 m.blocks.length xs ∧ ∀ (j : Nat) (b : List UInt8), m.blocks[j]? = some b → i ≤ j → ∃ u, xs[j]? = some u ∧ WbS (view c' 24 w') u 5 1 b.length)
    ⟨c25, _, xs, rfl, ⟨S, N, M, b6, b7, K20, K21, K22⟩, ho, hx⟩ ?_
  clear S N M b6 b7 K20 K21 K22 ho hx xs
  rintro i w26 B hi ⟨c26, _, xs, rfl, ⟨S, N, M, b6, b7, K20, K21, K22⟩, ho, hx⟩ back
  refine BS.dec (fun hlt => ?_) (fun hge => ?_)
  · obtain ⟨b, hb⟩ := get_of_lt (l := m.blocks) (i := i) (by omega)
    obtain ⟨u, hu, hwb⟩ := hx i b hb (Nat.le_refl _)
    obtain ⟨os, ps, rfl, _⟩ := id hwb
    refine LoadC.ad (view_sub _ _ _) _ b7 (msg_gets h32).g52 (TSl.mk ?_)
    refine Req.bnd ⟨by omega, by omega⟩ (RdS.elt (view_sub c26 23 w26) ho.rd hu (TSl.mk ?_))
    have hbl : b.length ≤ 40000 := n5 b (List.mem_of_getElem? hb)
    refine LoopI.up b.length (fun k w' => ∃ (c' : Nat → Nat) (qB : Nat), qB = m.blocks.length ∧ (Fx w c' w' ∧ BoxV c' 1 2 w' a 2 [m] ∧ MsgV (view c' 0 w') m (.slice ov m.op.data.length pv) (.slice oa m.ans.data.length pa) (.slice ou m.ans.names.length pu) (.slice oh m.hashes.length ph) (.slice ob m.blocks.length pb) ∧ view c' 6 w' a2 = some (.cells (m.cells (.slice ov m.op.data.length pv) (.slice oa m.ans.data.length pa) (.slice ou m.ans.names.length pu) (.slice oh m.hashes.length ph) (.slice ob m.blocks.length pb)).toArray 37 (0, 0)) ∧ view c' 7 w' a7 = some (.cells (m.cells (.slice o33 m.op.data.length p33) (.slice oa m.ans.data.length pa) (.slice o41 m.ans.names.length p41) (.slice o47 m.hashes.length p47) (.slice oB qB pB)).toArray 37 (0, 0)) ∧ WbS (view c' 20 w') (.slice o33 m.op.data.length p33) 5 1 m.op.data.length ∧ WbS (view c' 21 w') (.slice o41 m.ans.names.length p41) 9 1 m.ans.names.length ∧ WbS (view c' 22 w') (.slice o47 m.hashes.length p47) 24 32 m.hashes.length) ∧ OwS (view c' 23 w') (.slice oB qB pB) 25 1 m.blocks.length xs ∧ ∀ (j : Nat) (b : List UInt8), m.blocks[j]? = some b → i ≤ j → ∃ u, xs[j]? = some u ∧ WbS (view c' 24 w') u 5 1 b.length)
      ⟨c26, _, rfl, ⟨S, N, M, b6, b7, K20, K21, K22⟩, ho, hx⟩ ?_
    clear S N M b6 b7 K20 K21 K22 ho hx hwb
    rintro k w27 B3 hk ⟨c27, _, rfl, ⟨S, N, M, b6, b7, K20, K21, K22⟩, ho, hx⟩ back3
    refine BS.dec (fun hlt3 => ?_) (fun hge3 => ?_)
    · obtain ⟨u', hu', hwb⟩ := hx i b hb (Nat.le_refl _)
      rw [hu] at hu'
      cases hu'
      refine LoadC.ad (view_sub _ _ _) _ b7 (msg_gets h32).g52 (TSl.mk ?_)
      refine Req.bnd ⟨by omega, by omega⟩ (RdS.elt (view_sub c27 23 w27) ho.rd hu (TSl.mk ?_))
      refine Req.bnd ⟨by omega, by omega⟩ (hwb.put1 (by omega) fun w28 st28 sz => ?_)
      replace M := M.mono (st28.sub (by decide)); replace b6 := st28.sub (by decide) _ _ b6; replace b7 := st28.sub (by decide) _ _ b7; replace ho := ho.mono (st28.sub (by decide))
      replace N := N.go st28 ⟨by simp, by simp⟩
      replace S := S.go st28 (by decide) (by decide)
      rw [wrap_i64 (by omega) (by omega)]
      exact back3 _ (by omega) ⟨c27, _, rfl, ⟨S, N, M, b6, b7, K20.go st28 (by decide), K21.go st28 (by decide), K22.go st28 (by decide)⟩, ho, fun j b hj hij => by
        obtain ⟨u, h1, h2⟩ := hx j b hj hij; exact ⟨u, h1, h2.mono sz⟩⟩
    · refine LoadC.ad (view_sub _ _ _) _ b7 (msg_gets h32).g52 (TSl.mk ?_)
      refine Req.bnd ⟨by omega, by omega⟩ (ho.put1 (by omega) fun w29 st29 _ ho => ?_)
      replace M := M.mono (st29.sub (by decide)); replace b6 := st29.sub (by decide) _ _ b6; replace b7 := st29.sub (by decide) _ _ b7
      replace N := N.go st29 ⟨by simp, by simp⟩
      replace S := S.go st29 (by decide) (by decide)
      rw [wrap_i64 (by omega) (by omega)]
      exact back _ (by omega) ⟨c27, _, _, rfl, ⟨S, N, M, b6, b7, K20.go st29 (by decide), K21.go st29 (by decide), K22.go st29 (by decide)⟩, ho, fun j b hj hij => by
        obtain ⟨u, h1, h2⟩ := hx j b hj (by omega)
        exact ⟨u, by rw [List.getElem?_set_ne (by omega)]; exact h1, h2.go st29 (by decide)⟩⟩
  clear back B hi hge ho hx
  refine LoadC.ad (view_sub _ _ _) _ b7 (msg_gets h32).g51 (TSl.mk ?_)
  have b7' : ∃ qB, ∃ c' w', view c' 7 w' a7 = some (.cells (m.cells (.slice o33 m.op.data.length p33) (.slice oa m.ans.data.length pa) (.slice o41 m.ans.names.length p41) (.slice o47 m.hashes.length p47) (.slice oB qB pB)).toArray 37 (0, 0)) := ⟨_, c26, w26, b7⟩
  refine LoopI.up m.hashes.length (fun i w' => ∃ (c' : Nat → Nat) (qB : Nat), Fx w c' w' ∧ BoxV c' 1 2 w' a 2 [m] ∧ MsgV (view c' 0 w') m (.slice ov m.op.data.length pv) (.slice oa m.ans.data.length pa) (.slice ou m.ans.names.length pu) (.slice oh m.hashes.length ph) (.slice ob m.blocks.length pb) ∧ view c' 6 w' a2 = some (.cells (m.cells (.slice ov m.op.data.length pv) (.slice oa m.ans.data.length pa) (.slice ou m.ans.names.length pu) (.slice oh m.hashes.length ph) (.slice ob m.blocks.length pb)).toArray 37 (0, 0)) ∧ view c' 7 w' a7 = some (.cells (m.cells (.slice o33 m.op.data.length p33) (.slice oa m.ans.data.length pa) (.slice o41 m.ans.names.length p41) (.slice o47 m.hashes.length p47) (.slice oB qB pB)).toArray 37 (0, 0)) ∧ WbS (view c' 20 w') (.slice o33 m.op.data.length p33) 5 1 m.op.data.length ∧ WbS (view c' 21 w') (.slice o41 m.ans.names.length p41) 9 1 m.ans.names.length ∧ WbS (view c' 22 w') (.slice o47 m.hashes.length p47) 24 32 m.hashes.length) ⟨c26, _, S, N, M, b6, b7, K20, K21, K22⟩ ?_
  clear S N M b6 b7 K20 K21 K22
  rintro i w30 B hi ⟨c30, qB, S, N, M, b6, b7, K20, K21, K22⟩ back
  refine BS.dec (fun hlt => ?_) (fun hge => ?_)
  · refine LoadC.ad (view_sub _ _ _) _ b7 (msg_gets h32).g51 (TSl.mk ?_)
    refine Req.bnd ⟨by omega, by omega⟩ (K22.put (by omega) (by omega) fun w31 st31 sz => ?_)
    replace M := M.mono (st31.sub (by decide)); replace b6 := st31.sub (by decide) _ _ b6; replace b7 := st31.sub (by decide) _ _ b7
    replace N := N.go st31 ⟨by simp, by simp⟩
    replace S := S.go st31 (by decide) (by decide)
    rw [wrap_i64 (by omega) (by omega)]
    exact back _ (by omega) ⟨c30, qB, S, N, M, b6, b7, K20.go st31 (by decide), K21.go st31 (by decide), K22.mono sz⟩
  clear back B hi hge
  refine LoadC.ad (view_sub _ _ _) _ b7 (get46 h32) (TSl.mk ?_)
  refine LoopI.up m.op.data.length (fun i w' => ∃ (c' : Nat → Nat) (qB : Nat), Fx w c' w' ∧ BoxV c' 1 2 w' a 2 [m] ∧ MsgV (view c' 0 w') m (.slice ov m.op.data.length pv) (.slice oa m.ans.data.length pa) (.slice ou m.ans.names.length pu) (.slice oh m.hashes.length ph) (.slice ob m.blocks.length pb) ∧ view c' 6 w' a2 = some (.cells (m.cells (.slice ov m.op.data.length pv) (.slice oa m.ans.data.length pa) (.slice ou m.ans.names.length pu) (.slice oh m.hashes.length ph) (.slice ob m.blocks.length pb)).toArray 37 (0, 0)) ∧ view c' 7 w' a7 = some (.cells (m.cells (.slice o33 m.op.data.length p33) (.slice oa m.ans.data.length pa) (.slice o41 m.ans.names.length p41) (.slice o47 m.hashes.length p47) (.slice oB qB pB)).toArray 37 (0, 0)) ∧ WbS (view c' 20 w') (.slice o33 m.op.data.length p33) 5 1 m.op.data.length ∧ WbS (view c' 21 w') (.slice o41 m.ans.names.length p41) 9 1 m.ans.names.length ∧ WbS (view c' 22 w') (.slice o47 m.hashes.length p47) 24 32 m.hashes.length) ⟨c30, _, S, N, M, b6, b7, K20, K21, K22⟩ ?_
  clear S N M b6 b7 K20 K21 K22
  rintro i w32 B hi ⟨c32, qB, S, N, M, b6, b7, K20, K21, K22⟩ back
  refine BS.dec (fun hlt => ?_) (fun hge => ?_)
  · refine LoadC.ad (view_sub _ _ _) _ b7 (get46 h32) (TSl.mk ?_)
    refine Req.bnd ⟨by omega, by omega⟩ (K20.put1 (by omega) fun w33 st33 sz => ?_)
    replace M := M.mono (st33.sub (by decide)); replace b6 := st33.sub (by decide) _ _ b6; replace b7 := st33.sub (by decide) _ _ b7
    replace N := N.go st33 ⟨by simp, by simp⟩
    replace S := S.go st33 (by decide) (by decide)
    rw [wrap_i64 (by omega) (by omega)]
    exact back _ (by omega) ⟨c32, qB, S, N, M, b6, b7, K20.mono sz, K21.go st33 (by decide), K22.go st33 (by decide)⟩
  clear back B hi hge
  refine LoadC.ad (view_sub _ _ _) _ b7 (msg_gets h32).g50 (TSl.mk ?_)
  refine LoopI.up m.ans.names.length (fun i w' => ∃ (c' : Nat → Nat) (qB : Nat), Fx w c' w' ∧ BoxV c' 1 2 w' a 2 [m] ∧ MsgV (view c' 0 w') m (.slice ov m.op.data.length pv) (.slice oa m.ans.data.length pa) (.slice ou m.ans.names.length pu) (.slice oh m.hashes.length ph) (.slice ob m.blocks.length pb) ∧ view c' 6 w' a2 = some (.cells (m.cells (.slice ov m.op.data.length pv) (.slice oa m.ans.data.length pa) (.slice ou m.ans.names.length pu) (.slice oh m.hashes.length ph) (.slice ob m.blocks.length pb)).toArray 37 (0, 0)) ∧ view c' 7 w' a7 = some (.cells (m.cells (.slice o33 m.op.data.length p33) (.slice oa m.ans.data.length pa) (.slice o41 m.ans.names.length p41) (.slice o47 m.hashes.length p47) (.slice oB qB pB)).toArray 37 (0, 0)) ∧ WbS (view c' 20 w') (.slice o33 m.op.data.length p33) 5 1 m.op.data.length ∧ WbS (view c' 21 w') (.slice o41 m.ans.names.length p41) 9 1 m.ans.names.length ∧ WbS (view c' 22 w') (.slice o47 m.hashes.length p47) 24 32 m.hashes.length) ⟨c32, _, S, N, M, b6, b7, K20, K21, K22⟩ ?_
  clear S N M b6 b7 K20 K21 K22
  rintro i w34 B hi ⟨c34, qB, S, N, M, b6, b7, K20, K21, K22⟩ back
  refine BS.dec (fun hlt => ?_) (fun hge => ?_)
  · refine LoadC.ad (view_sub _ _ _) _ b7 (msg_gets h32).g50 (TSl.mk ?_)
    refine Req.bnd ⟨by omega, by omega⟩ (K21.put1 (by omega) fun w35 st35 sz => ?_)
    replace M := M.mono (st35.sub (by decide)); replace b6 := st35.sub (by decide) _ _ b6; replace b7 := st35.sub (by decide) _ _ b7
    replace N := N.go st35 ⟨by simp, by simp⟩
    replace S := S.go st35 (by decide) (by decide)
    rw [wrap_i64 (by omega) (by omega)]
    exact back _ (by omega) ⟨c34, qB, S, N, M, b6, b7, K20.go st35 (by decide), K21.mono sz, K22.go st35 (by decide)⟩
  clear back B hi hge K20 K21 K22 b7
  refine Take_b 8 9 (by decide) N fun y ya yb yh yc c36 w36 st36 N Y yok => ?_
  replace M := M.mono (st36.sub (by decide)); replace b6 := st36.sub (by decide) _ _ b6
  replace S := S.go st36 (by decide) (by decide)
  replace N : BoxV c36 1 2 w36 a 2 [] := N
  replace Y : MsgV (view c36 2 w36) m y ya yb yh yc := Y
  refine T2.mk (TAgg.mk (TBool.mk ?_))
  refine AllocC.col c36 25 fun a15 c37 w37 st37 b25 _ => ?_
  replace M := M.mono (st37.fresh.sub (by decide)); replace b6 := st37.fresh.sub (by decide) _ _ b6; replace Y := Y.mono (st37.fresh.sub (by decide))
  replace N := N.go st37.fresh ⟨by simp, by simp⟩
  replace S := S.go st37.step (by decide) (by decide)
  refine RunU.msg b25 rfl Y hok fun w38 st38 b25 => ?_
  replace M := M.mono (st38.step.sub (by decide)); replace b6 := st38.step.sub (by decide) _ _ b6; replace Y := Y.mono (st38.step.sub (by decide))
  replace N := N.go st38.step ⟨by simp, by simp⟩
  replace S := S.go st38.step (by decide) (by decide)
  refine BS.yes rfl ?_
  refine LoadA.all (view_sub _ _ _) b25 (msg_sz hok) (LoadA.all (view_sub _ _ _) b6 (msg_sz hok) ?_)
  refine Same19_c c37 9 (Y.mono (view_sub _ _ _)) (M.mono (view_sub _ _ _)) hok hok hmild.fair fun sb c39 w39 st39 hsb => TBool.mk ?_
  replace N := N.go st39 ⟨by simp, by simp⟩
  replace S := S.go st39 (by decide) (by decide)
  rw [hsb.2 rfl]
  refine BS.yes rfl (Len_b N (TInt.mk ?_))
  exact ⟨rfl, fin S⟩
end Go.Proofs.Ytfploingelmpkaa.walkBx

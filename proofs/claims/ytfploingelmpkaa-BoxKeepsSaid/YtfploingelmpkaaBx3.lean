/-
  Copies of messages.
-/
import Derived.Test.YtfploingelmpkaaBx2
set_option linter.unusedVariables false
set_option linter.unusedSimpArgs false
namespace Go.Vc
open Go
theorem slot_one (xs : List Value) (i : Nat) : (xs.drop (i * 1)).take 1 = xs[i]?.toList := by
  rw [Nat.mul_one]
  cases h : xs[i]? with
  | none => rw [List.getElem?_eq_none_iff] at h; rw [List.drop_eq_nil_of_le h]; rfl
  | some u =>
    have := List.drop_eq_getElem_cons (lt_of_get h)
    rw [this, List.take_succ_cons, List.take_zero]
    rw [List.getElem?_eq_getElem (lt_of_get h)] at h
    simp at h; rw [h]; rfl
theorem LsV.isnil {α : Type} {P : View → α → List Value → Prop} {z : Nat} (hz : 0 < z) {h : View} {o : Option Addr} {n c : Nat} {l : List α} (hl : LsV P z h (.slice o n c) l) (ho : o.isNone = true) : l = [] := by
  obtain ⟨xs, hr, hx⟩ := hl
  obtain ⟨_, _, hlen⟩ := hr.len
  obtain ⟨o', c', e, _, _, hx2⟩ := hr
  cases e
  rcases hx2 with h | ⟨b, off, cs, T, fz, e', _⟩
  · subst h
    have : l.length * z = 0 := by simpa using hlen.symm
    rcases Nat.mul_eq_zero.1 this with h | h
    · exact List.eq_nil_of_length_eq_zero h
    · omega
  · subst e'; simp at ho
end Go.Vc
namespace Go.Proofs.Ytfploingelmpkaa
open Go.Vc
attribute [local irreducible] TInt TBool TStr TPtr TSl TAgg TMap TChan T2 T3 T4 BS Req TSome TCell TByte LoadC LoadA StoreC AllocC RunV RunU CallV ExtV EqA StableC StableA StableV TCells ReadV
attribute [local irreducible] DrewC
/-- slices.Clone of digests -/
theorem HClone_c (c : Nat → Nat) (i : Nat) {w : World} {v : Value} {l : List (List UInt8)} {R : Value → World → Prop} (hl : LsV HashP 32 (wv w) v l) (hn : l.length ≤ 1000000)
    (h : ∀ v' c' w', Step c [] [i] w c' w' → LsV HashP 32 (view c' i w') v' l → R v' w') : CallV Try.prog 23 #[v] w R := by
  obtain ⟨o, cp, rfl⟩ := hl.form
  refine slices_Clone_api_Hash_api_Hash_vc ?_
  unfold slices_Clone_api_Hash_api_Hash_VC
  refine BS.mk (fun ho => ?_) (fun ho => ?_)
  · have := LsV.isnil (by omega) hl ho
    subst this
    exact h _ c w (.refl ..) (LsV.nil ..)
  · refine AllocC.col c i fun b c1 w1 h1 hb hnew => ?_
    refine LsO.app slHash (LsO.empty (g := wv w1) (P := HashP) hb) (hl.toW h1.fresh.wv fun _ _ hp => hp) (fun a es hp => by rw [hp.1]; exact bvs_one _) (by simp; omega) (by simp; omega) fun o2 p2 c2 w2 h2 ho2 => TSl.mk ?_
    rw [List.nil_append] at ho2 ⊢
    exact h _ c2 w2 (h2.stepNew h1.fresh (by simp) fun b' e => by simp [Value.ownBlock] at e; exact e ▸ size_le_of_none hnew) (ho2.rd (fun _ _ hp => hp) (fun _ _ h => h))
/-- slices.Clone of slices: the row alone is new -/
theorem LClone_c (c : Nat → Nat) (i : Nat) {w : World} {g : View} {v : Value} {l : List (List UInt8)} {R : Value → World → Prop} (hl : BlsV g v l) (hg : Sub g (wv w)) (hn : l.length ≤ 1000000)
    (h : ∀ v' c' w', Step c [] [i] w c' w' → LsO BytesP 25 1 (view c' i w') g v' l → R v' w') : CallV Try.prog 24 #[v] w R := by
  obtain ⟨o, cp, rfl⟩ := LsV.form hl
  refine slices_Clone_byte_byte_vc ?_
  unfold slices_Clone_byte_byte_VC
  refine BS.mk (fun ho => ?_) (fun ho => ?_)
  · have := LsV.isnil (by omega) hl ho
    subst this
    exact h _ c w (.refl ..) (LsO.nil ..)
  · refine AllocC.col c i fun b c1 w1 h1 hb hnew => ?_
    refine LsO.app slBls (LsO.empty (g := g) (P := BytesP) hb) (LsV.toW hl (hg.trans h1.fresh.wv) fun _ _ hp => hp) (fun a es hp => hp.ones) (by simp; omega) (by simp; omega) fun o2 p2 c2 w2 h2 ho2 => TSl.mk ?_
    rw [List.nil_append] at ho2 ⊢
    exact h _ c2 w2 (h2.stepNew h1.fresh (by simp) fun b' e => by simp [Value.ownBlock] at e; exact e ▸ size_le_of_none hnew) ho2
section
variable {m : MsgR} {v va ua vh vb x : Value}
def mfr (m : MsgR) : List Value := [.int .i64 m.kind, .int .i64 m.fr, .int .i64 m.to, u64v m.view, u64v m.normal, u64v m.gen, u64v m.commit] ++ (bvs m.head ++ [.int .i64 m.client, u64v m.number])
theorem mfr_len (h32 : m.head.length = 32) : (mfr m).length = 41 := by simp [mfr, h32]
theorem cells_fr : m.cells v va ua vh vb = mfr m ++ ([.int .i64 m.op.kind, sv m.op.path, sv m.op.to, .int .i64 m.op.off, .int .i64 m.op.n, v, .int .i64 m.ans.code, .int .i64 m.ans.n, va, ua, vh, vb]) := by
  unfold MsgR.cells mfr OpR.cells AnsR.cells; simp
theorem fr_set (h32 : m.head.length = 32) {l : List Value} {k : Nat} : (mfr m ++ l).set (41 + k) x = mfr m ++ l.set k x := by
  rw [List.set_append_right _ _ (by rw [mfr_len h32]; omega), mfr_len h32, Nat.add_sub_cancel_left]
theorem set46 (h32 : m.head.length = 32) : (m.cells v va ua vh vb).toArray.setIfInBounds 46 x = (m.cells x va ua vh vb).toArray := by
  rw [List.setIfInBounds_toArray, cells_fr, cells_fr, show 46 = 41 + 5 from rfl, fr_set h32]; rfl
theorem set49 (h32 : m.head.length = 32) : (m.cells v va ua vh vb).toArray.setIfInBounds 49 x = (m.cells v x ua vh vb).toArray := by
  rw [List.setIfInBounds_toArray, cells_fr, cells_fr, show 49 = 41 + 8 from rfl, fr_set h32]; rfl
theorem set50 (h32 : m.head.length = 32) : (m.cells v va ua vh vb).toArray.setIfInBounds 50 x = (m.cells v va x vh vb).toArray := by
  rw [List.setIfInBounds_toArray, cells_fr, cells_fr, show 50 = 41 + 9 from rfl, fr_set h32]; rfl
theorem set51 (h32 : m.head.length = 32) : (m.cells v va ua vh vb).toArray.setIfInBounds 51 x = (m.cells v va ua x vb).toArray := by
  rw [List.setIfInBounds_toArray, cells_fr, cells_fr, show 51 = 41 + 10 from rfl, fr_set h32]; rfl
theorem set52 (h32 : m.head.length = 32) : (m.cells v va ua vh vb).toArray.setIfInBounds 52 x = (m.cells v va ua vh x).toArray := by
  rw [List.setIfInBounds_toArray, cells_fr, cells_fr, show 52 = 41 + 11 from rfl, fr_set h32]; rfl
theorem get46 (h32 : m.head.length = 32) : (m.cells v va ua vh vb).toArray[46]? = some v := by
  rw [List.getElem?_toArray, cells_fr, List.getElem?_append_right (by rw [mfr_len h32]; omega), mfr_len h32]; rfl
end
theorem copied_c (c : Nat → Nat) (d : Nat) {w : World} {m : MsgR} {v va ua vh vb : Value} {R : Value → World → Prop} (hm : MsgV (wv w) m v va ua vh vb) (hok : m.ok) (hM : m.mild)
    (h : ∀ v' va' ua' vh' vb' c' w', Step c [] [d] w c' w' → MsgV (view c' d w') m v' va' ua' vh' vb' → R (.agg (m.cells v' va' ua' vh' vb').toArray) w') : CallV Try.prog 17 #[.agg (m.cells v va ua vh vb).toArray] w R := by
  have h32 := hok.2.2.2.2.2.1
  obtain ⟨n1, n2, n3, n4, n5, _, _, n6⟩ := hM
  obtain ⟨ov, pv, rfl⟩ := RdS.form hm.op
  obtain ⟨oa, pa, rfl⟩ := hm.ans.d.form
  obtain ⟨ou, pu, rfl⟩ := hm.ans.n.form
  obtain ⟨oh, ph, rfl⟩ := LsV.form hm.hs
  obtain ⟨ob, pb, rfl⟩ := LsV.form hm.bs
  have M : MsgV (view (fun _ => 0) 0 w) m (.slice ov m.op.data.length pv) (.slice oa m.ans.data.length pa) (.slice ou m.ans.names.length pu) (.slice oh m.hashes.length ph) (.slice ob m.blocks.length pb) := by rw [view0]; exact hm
  have S := Fr.start w
  refine box_copied_vc ?_
  unfold box_copied_VC
  refine AllocC.col (fun _ => 0) 1 fun a1 c1 w1 st1 b1 _ => ?_
  replace S := S.go st1.step (by decide) (by decide); replace M := M.mono (st1.step.sub (by decide))
  refine AllocC.col c1 2 fun a2 c2 w2 st2 b2 _ => ?_
  replace S := S.go st2.step (by decide) (by decide); replace M := M.mono (st2.step.sub (by decide)); replace b1 := st2.step.sub (by decide) _ _ b1
  refine DrewC.col c2 fun w3 st3 => ?_
  replace S := S.go st3 (by decide) (by decide); replace M := M.mono (st3.sub (by decide)); replace b1 := st3.sub (by decide) _ _ b1; replace b2 := st3.sub (by decide) _ _ b2
  simp only [add_add]
  refine LoadC.ad (view_sub _ _ _) _ b1 (get46 h32) (TSl.mk ?_)
  refine LoadC.ad (view_sub _ _ _) _ b1 (msg_gets h32).g49 (TSl.mk ?_)
  refine BClone_c c2 4 (RdS.mono M.op (view_sub _ _ _)) (by omega) fun v9 c4 w4 st4 r9 => ?_
  obtain ⟨o9, p9, rfl⟩ := r9.form
  replace r9 := r9.rd
  replace S := S.go st4 (by decide) (by decide); replace M := M.mono (st4.sub (by decide)); replace b1 := st4.sub (by decide) _ _ b1; replace b2 := st4.sub (by decide) _ _ b2
  refine TSl.mk ⟨StableC.ad (view_sub _ _ _) b1 (msg_gets h32).g49, ?_⟩
  refine BClone_c c4 4 (M.ans.d.mono (view_sub _ _ _)) (by omega) fun v13 c5 w5 st5 r13 => ?_
  obtain ⟨o13, p13, rfl⟩ := r13.form
  replace r13 := r13.rd
  replace S := S.go st5 (by decide) (by decide); replace M := M.mono (st5.sub (by decide)); replace b1 := st5.sub (by decide) _ _ b1; replace b2 := st5.sub (by decide) _ _ b2
  replace r9 := r9.mono (st5.sub (by decide))
  refine TSl.mk ?_
  refine StoreC.ad b1 (by rw [(msg_gets h32).sz]; omega) fun w6 _ st6 b1 => ?_
  replace S := S.go st6 (by decide) (by decide); replace M := M.mono (st6.sub (by decide)); replace b2 := st6.sub (by decide) _ _ b2
  replace r9 := r9.mono (st6.sub (by decide))
  replace r13 := r13.mono (st6.sub (by decide))
  rw [set46 h32] at b1
  refine StoreC.ad b1 (by rw [(msg_gets h32).sz]; omega) fun w7 _ st7 b1 => ?_
  replace S := S.go st7 (by decide) (by decide); replace M := M.mono (st7.sub (by decide)); replace b2 := st7.sub (by decide) _ _ b2
  replace r9 := r9.mono (st7.sub (by decide))
  replace r13 := r13.mono (st7.sub (by decide))
  rw [set49 h32] at b1
  refine DrewC.col c5 fun w8 st8 => ?_
  replace S := S.go st8 (by decide) (by decide); replace M := M.mono (st8.sub (by decide)); replace b1 := st8.sub (by decide) _ _ b1; replace b2 := st8.sub (by decide) _ _ b2
  replace r9 := r9.mono (st8.sub (by decide))
  replace r13 := r13.mono (st8.sub (by decide))
  refine LoadC.ad (view_sub _ _ _) _ b1 (msg_gets h32).g50 (TSl.mk ?_)
  refine LoadC.ad (view_sub _ _ _) _ b1 (msg_gets h32).g51 (TSl.mk ?_)
  refine LoadC.ad (view_sub _ _ _) _ b1 (msg_gets h32).g52 (TSl.mk ?_)
  refine SClone_c c5 4 (M.ans.n.mono (view_sub _ _ _)) (by omega) fun v22 c9 w9 st9 r22 => ?_
  obtain ⟨o22, p22, rfl⟩ := r22.form
  replace r22 := r22.rd
  replace S := S.go st9 (by decide) (by decide); replace M := M.mono (st9.sub (by decide)); replace b1 := st9.sub (by decide) _ _ b1; replace b2 := st9.sub (by decide) _ _ b2
  replace r9 := r9.mono (st9.sub (by decide))
  replace r13 := r13.mono (st9.sub (by decide))
  refine TSl.mk ⟨StableC.ad (view_sub _ _ _) b1 (msg_gets h32).g51, StableC.ad (view_sub _ _ _) b1 (msg_gets h32).g52, ?_⟩
  refine HClone_c c9 4 (M.mono (view_sub _ _ _)).hs (by omega) fun v25 c10 w10 st10 r25 => ?_
  obtain ⟨o25, p25, rfl⟩ := LsV.form r25
  replace S := S.go st10 (by decide) (by decide); replace M := M.mono (st10.sub (by decide)); replace b1 := st10.sub (by decide) _ _ b1; replace b2 := st10.sub (by decide) _ _ b2
  replace r9 := r9.mono (st10.sub (by decide))
  replace r13 := r13.mono (st10.sub (by decide))
  replace r22 := r22.mono (st10.sub (by decide))
  refine TSl.mk ⟨StableC.ad (view_sub _ _ _) b1 (msg_gets h32).g52, ?_⟩
  have Q : MsgV (view c10 4 w10) (MsgR.mk m.kind m.fr m.to m.view m.normal m.gen m.commit m.head m.client m.number m.op m.ans m.hashes []) (.slice o9 m.op.data.length p9) (.slice o13 m.ans.data.length p13) (.slice o22 m.ans.names.length p22) (.slice o25 m.hashes.length p25) nilV := ⟨r9, ⟨r13, r22⟩, r25, LsV.nil ..⟩
  clear r9 r13 r22 r25
  refine LClone_c c10 3 M.bs (view_sub _ _ _) (by omega) fun v28 c11 w11 st11 r28 => ?_
  obtain ⟨o28, p28, rfl⟩ := r28.form
  replace r28 := r28.mono' (fun _ _ hp => hp.mono (st11.sub (by decide))) (fun _ _ h => h)
  replace S := S.go st11 (by decide) (by decide); replace M := M.mono (st11.sub (by decide)); replace b1 := st11.sub (by decide) _ _ b1; replace b2 := st11.sub (by decide) _ _ b2; replace Q := Q.mono (st11.sub (by decide))
  refine TSl.mk ?_
  refine StoreC.ad b1 (by rw [(msg_gets h32).sz]; omega) fun w12 _ st12 b1 => ?_
  replace S := S.go st12 (by decide) (by decide); replace M := M.mono (st12.sub (by decide)); replace b2 := st12.sub (by decide) _ _ b2; replace Q := Q.mono (st12.sub (by decide))
  replace r28 := r28.mono' (fun _ _ hp => hp.mono (st12.sub (by decide))) (st12.sub (by decide))
  rw [set50 h32] at b1
  refine StoreC.ad b1 (by rw [(msg_gets h32).sz]; omega) fun w13 _ st13 b1 => ?_
  replace S := S.go st13 (by decide) (by decide); replace M := M.mono (st13.sub (by decide)); replace b2 := st13.sub (by decide) _ _ b2; replace Q := Q.mono (st13.sub (by decide))
  replace r28 := r28.mono' (fun _ _ hp => hp.mono (st13.sub (by decide))) (st13.sub (by decide))
  rw [set51 h32] at b1
  refine StoreC.ad b1 (by rw [(msg_gets h32).sz]; omega) fun w14 _ st14 b1 => ?_
  replace S := S.go st14 (by decide) (by decide); replace M := M.mono (st14.sub (by decide)); replace b2 := st14.sub (by decide) _ _ b2; replace Q := Q.mono (st14.sub (by decide))
  replace r28 := r28.mono' (fun _ _ hp => hp.mono (st14.sub (by decide))) (st14.sub (by decide))
  rw [set52 h32] at b1
  refine LoadC.ad (view_sub _ _ _) _ b1 (msg_gets h32).g52 (TSl.mk ?_)
  obtain ⟨xs0, ho, hx0⟩ := r28
  refine LoopI.up m.blocks.length (fun i w' => ∃ (c' : Nat → Nat) (xs : List Value), Fr w c' w' ∧ view c' 1 w' a1 = some (.cells (m.cells (.slice o9 m.op.data.length p9) (.slice o13 m.ans.data.length p13) (.slice o22 m.ans.names.length p22) (.slice o25 m.hashes.length p25) (.slice o28 m.blocks.length p28)).toArray 37 (0, 0)) ∧ (∃ old, old.size = 53 ∧ view c' 2 w' a2 = some (.cells old 37 (0, 0))) ∧ MsgV (view c' 4 w') (MsgR.mk m.kind m.fr m.to m.view m.normal m.gen m.commit m.head m.client m.number m.op m.ans m.hashes []) (.slice o9 m.op.data.length p9) (.slice o13 m.ans.data.length p13) (.slice o22 m.ans.names.length p22) (.slice o25 m.hashes.length p25) nilV ∧
      OwS (view c' 3 w') (.slice o28 m.blocks.length p28) 25 1 m.blocks.length xs ∧ ∀ (j : Nat) (b : List UInt8), m.blocks[j]? = some b → ∃ u, xs[j]? = some u ∧ RdS (view c' (if j < i then 4 else 0) w') u 1 b.length (bvs b)) ?_ ?_
  · refine ⟨c11, xs0, S, b1, ⟨_, rfl, b2⟩, Q, ho, fun j b hj => ?_⟩
    have := hx0 j b hj
    rw [slot_one] at this
    obtain ⟨u, e, hr⟩ := this
    refine ⟨u, ?_, by rw [if_neg (by omega)]; exact hr⟩
    cases hq : xs0[j]? with
    | none => rw [hq] at e; simp at e
    | some u' => rw [hq] at e; simpa using e
  clear S M b1 b2 Q ho hx0
  rintro i w15 B hi ⟨c15, xs, S, b1, ⟨old, hold, b2⟩, Q, ho, hx⟩ back
  refine BS.dec (fun hlt => ?_) (fun hge => ?_)
  · obtain ⟨b, hb⟩ := get_of_lt (l := m.blocks) (i := i) (by omega)
    obtain ⟨u, hu, hr⟩ := hx i b hb
    rw [if_neg (by omega)] at hr
    obtain ⟨ou, pu, rfl⟩ := hr.form
    have hbl : b.length ≤ 40000 := n5 b (List.mem_of_getElem? hb)
    refine Req.bnd ⟨by omega, by omega⟩ (RdS.elt (view_sub c15 3 w15) ho.rd hu (TSl.mk ?_))
    refine DrewC.col c15 fun w16 st16 => ?_
    replace S := S.go st16 (by decide) (by decide); replace b1 := st16.sub (by decide) _ _ b1; replace b2 := st16.sub (by decide) _ _ b2; replace Q := Q.mono (st16.sub (by decide)); replace ho := ho.mono (st16.sub (by decide)); replace hr := hr.mono (st16.sub (by decide))
    replace hx : ∀ (j : Nat) (b : List UInt8), m.blocks[j]? = some b → ∃ u, xs[j]? = some u ∧ RdS (view c15 (if j < i then 4 else 0) w16) u 1 b.length (bvs b) := fun j b hj => by
      obtain ⟨u, h1, h2⟩ := hx j b hj; exact ⟨u, h1, h2.mono (st16.sub (by simp))⟩
    refine LoadC.ad (view_sub _ _ _) _ b1 (msg_gets h32).g52 (TSl.mk ?_)
    refine BClone_c c15 4 (hr.mono (view_sub _ _ _)) (by omega) fun v17 c17 w17 st17 r17 => ?_
    obtain ⟨o17, p17, rfl⟩ := r17.form
    replace r17 := r17.rd
    replace S := S.go st17 (by decide) (by decide); replace b1 := st17.sub (by decide) _ _ b1; replace b2 := st17.sub (by decide) _ _ b2; replace Q := Q.mono (st17.sub (by decide)); replace ho := ho.mono (st17.sub (by decide))
    replace hx : ∀ (j : Nat) (b : List UInt8), m.blocks[j]? = some b → ∃ u, xs[j]? = some u ∧ RdS (view c17 (if j < i then 4 else 0) w17) u 1 b.length (bvs b) := fun j b hj => by
      obtain ⟨u, h1, h2⟩ := hx j b hj; exact ⟨u, h1, h2.mono (st17.sub (by simp))⟩
    refine TSl.mk ⟨StableC.ad (view_sub _ _ _) b1 (msg_gets h32).g52, ?_⟩
    refine Req.bnd ⟨by omega, by omega⟩ (ho.put1 (by omega) fun w18 st18 _ ho => ?_)
    replace S := S.go st18 (by decide) (by decide); replace b1 := st18.sub (by decide) _ _ b1; replace b2 := st18.sub (by decide) _ _ b2; replace Q := Q.mono (st18.sub (by decide))
    replace r17 := r17.mono (st18.sub (by decide))
    rw [wrap_i64 (by omega) (by omega)]
    refine back _ (by omega) ⟨c17, _, S, b1, ⟨old, hold, b2⟩, Q, ho, fun j b' hj => ?_⟩
    by_cases hji : j = i
    · subst hji
      rw [hb] at hj
      obtain rfl : b = b' := by simpa using hj
      refine ⟨_, List.getElem?_set_self (lt_of_get hu), ?_⟩
      rw [if_pos (by omega)]; exact r17
    · obtain ⟨u, h1, h2⟩ := hx j b' hj
      refine ⟨u, by rw [List.getElem?_set_ne (Ne.symm hji)]; exact h1, ?_⟩
      have e : (if j < i + 1 then 4 else 0) = (if j < i then 4 else 0) := by
        by_cases hj2 : j < i
        · rw [if_pos hj2, if_pos (by omega)]
        · rw [if_neg hj2, if_neg (by omega)]
      rw [e]
      refine h2.mono (st18.sub ?_)
      by_cases hj2 : j < i
      · rw [if_pos hj2]; decide
      · rw [if_neg hj2]; decide
  · have : i = m.blocks.length := by omega
    subst this
    have MF : MsgV (views c15 [3, 4] w15) m (.slice o9 m.op.data.length p9) (.slice o13 m.ans.data.length p13) (.slice o22 m.ans.names.length p22) (.slice o25 m.hashes.length p25) (.slice o28 m.blocks.length p28) := by
      have Q' := Q.mono (view_views (L := [3, 4]) (by decide))
      refine ⟨Q'.op, Q'.ans, Q'.hs, xs, ho.rd.mono (view_views (by decide)), fun j b hj => ?_⟩
      obtain ⟨u, h1, h2⟩ := hx j b hj
      rw [if_pos (lt_of_get hj)] at h2
      rw [slot_one, h1]
      exact ⟨u, rfl, h2.mono (view_views (by decide))⟩
    refine LoadA.all (view_sub _ _ _) b1 (msg_gets h32).sz ?_
    refine RunU.msg b2 hold MF hok fun w19 st19 b2 => ?_
    replace MF := MF.mono (st19.step.subs (by decide))
    replace S := S.go st19.step (by decide) (by decide)
    refine LoadA.all (view_sub _ _ _) b2 (msg_gets h32).sz ?_
    exact h _ _ _ _ _ _ _ (S.leave c d) (MF.mono (S.outs c d (by decide)))
end Go.Proofs.Ytfploingelmpkaa

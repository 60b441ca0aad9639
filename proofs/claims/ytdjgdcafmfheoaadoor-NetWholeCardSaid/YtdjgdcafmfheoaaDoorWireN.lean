/-
  Several texts in one: Msg6, Msg7, Msg8, Msg9, MsgA, MsgB, MsgC.
-/
import Derived.Test.YtdjgdcafmfheoaaDoorWireM
set_option linter.unusedVariables false
set_option linter.unusedSimpArgs false
namespace Go.Vc
open Go
/-- no more than is looked at -/
def MsgR.mild (m : MsgR) : Prop := m.ans.data.length ≤ 1000 ∧ m.ans.names.length ≤ 100 ∧ m.hashes.length ≤ 100 ∧ m.blocks.length ≤ 5000 ∧ (∀ b ∈ m.blocks, b.length ≤ 40000) ∧ m.op.path.length ≤ 400 ∧ m.op.to.length ≤ 400 ∧ m.op.data.length ≤ 400
theorem MsgR.right.mild {m : MsgR} (h : m.right) : m.mild := by
  obtain ⟨h1, h2, h3, h4, h5, h6, h7, h8, h9, h10⟩ := h
  have hop : m.op.path.length ≤ 400 ∧ m.op.to.length ≤ 400 ∧ m.op.data.length ≤ 400 ∧ m.ans.data.length ≤ 1000 ∧ m.ans.names.length ≤ 100 := by
    by_cases k1 : m.kind = 1
    · rw [if_pos k1] at h10
      have := h10.2.2.2.1
      unfold OpR.right at this
      rw [h10.2.2.2.2]
      simp [AnsR.zero]; omega
    · rw [if_neg k1] at h10
      by_cases k2 : m.kind = 2
      · rw [if_pos k2] at h10
        have := h10.2.2.2.2
        unfold AnsR.right at this
        rw [h10.2.2.2.1]
        simp [OpR.zero]; omega
      · rw [if_neg k2] at h10
        rw [h10.2.2.1, h10.2.2.2]
        simp [OpR.zero, AnsR.zero]
  exact ⟨hop.2.2.2.1, hop.2.2.2.2, by omega, by omega, fun b hb => by have := h9 b hb; omega, hop.1, hop.2.1, hop.2.2.1⟩
/-- no more than can be counted -/
def MsgR.fair (m : MsgR) : Prop := m.ans.names.length ≤ 1099511627776 ∧ m.hashes.length ≤ 1099511627776 ∧ m.blocks.length ≤ 1099511627776
theorem MsgR.mild.fair {m : MsgR} (h : m.mild) : m.fair := ⟨by have := h.2.1; omega, by have := h.2.2.1; omega, by have := h.2.2.2.1; omega⟩
theorem decM_fair (l : List UInt8) : (decM l).fair := by
  have h1 := decM_blocks l
  refine ⟨?_, by omega, by omega⟩
  rw [decM_ans]
  rcases rdAns_cases (qa l).1 with h | ⟨_, h, _⟩
  · rw [h]; simp [AnsR.zero]
  · have := h.2.2.2.2.2.1; omega
theorem zero_mild : MsgR.zero.mild := by unfold MsgR.mild MsgR.zero OpR.zero AnsR.zero; simp
theorem zero_ok : MsgR.zero.ok := by unfold MsgR.ok MsgR.zero; simp
end Go.Vc
namespace Go.Proofs.YtdjgdcafmfheoaaDoor
open Go.Vc
attribute [local irreducible] TInt TBool TStr TPtr TSl TAgg TMap TChan T2 T3 T4 BS Req TSome TCell TByte LoadC LoadA StoreC AllocC RunV RunU CallV ExtV EqA StableC StableA StableV TCells ReadV
attribute [local irreducible] eU eT eE
attribute [local irreducible] DrewC eH many rdM wrM

theorem arrHash : ArrT Tryd.prog 25 32 := .of (by kernel_rfl)
structure MsgGet (m : MsgR) (v va ua vh vb : Value) : Prop where
  g39 : (m.cells v va ua vh vb).toArray[39]? = some (.int .i64 m.client)
  g40 : (m.cells v va ua vh vb).toArray[40]? = some (u64v m.number)
  g49 : (m.cells v va ua vh vb).toArray[49]? = some va
  g50 : (m.cells v va ua vh vb).toArray[50]? = some ua
  g51 : (m.cells v va ua vh vb).toArray[51]? = some vh
  g52 : (m.cells v va ua vh vb).toArray[52]? = some vb
  p41 : ∀ (j : Nat) (u : Value), (m.op.cells v)[j]? = some u → (m.cells v va ua vh vb).toArray[41 + j]? = some u
  p47 : ∀ (j : Nat) (u : Value), (m.ans.cells va ua)[j]? = some u → (m.cells v va ua vh vb).toArray[47 + j]? = some u
  p7 : ∀ (j : Nat) (u : Value), (bvs m.head)[j]? = some u → (m.cells v va ua vh vb).toArray[7 + j]? = some u
  sz : (m.cells v va ua vh vb).toArray.size = 53
theorem msg_gets {m : MsgR} {v va ua vh vb : Value} (h32 : m.head.length = 32) : MsgGet m v va ua vh vb := by
  obtain ⟨q1, q2⟩ := msg_part (m := m) (v := v) (va := va) (ua := ua) (vh := vh) (vb := vb) h32
  have e39 := part_get q1
  have e47 := part_get q2
  have h5 := mcl_get51 (k := m.kind) (f := m.fr) (t := m.to) (ns := [m.view, m.normal, m.gen, m.commit]) (hd := m.head) (cl := m.client) (nm := m.number) (oc := m.op.cells v) (ac := m.ans.cells va ua) (vh := vh) (vb := vb) rfl h32 rfl rfl
  rw [← mcl_msg] at h5
  refine ⟨e39 0 _ rfl, e39 1 _ rfl, e47 2 _ rfl, e47 3 _ rfl, h5.1, h5.2, fun j u hu => ?_, e47, fun j u hu => msg_headcells h32 j u hu, by rw [List.size_toArray, msg_get h32]⟩
  have := e39 (2 + j) u (by rw [← hu, Nat.add_comm]; rfl)
  rw [← Nat.add_assoc] at this; exact this
theorem eight_c (c : Nat → Nat) (j : Nat) {w : World} {n : Nat} {R : Value → World → Prop} (hn : n < 18446744073709551616)
    (h : ∀ v c' w', Step c [] [j] w c' w' → OwS (view c' j w') v 5 1 (be n 8).length (bvs (be n 8)) → R v w') : CallV Tryd.prog 74 #[.int .u64 n] w R := by
  refine ref19_eight_vc ?_
  unfold ref19_eight_VC
  refine ref_Uint c j hn (fun hb => absurd ⟨by omega, by omega, by simpa using hn⟩ hb) fun _ v c1 w1 st ho => T2.mk ?_
  obtain ⟨o, p, rfl⟩ := ho.form
  refine TSl.mk (TInt.mk (h _ c1 w1 st ?_))
  rw [be_length]; exact ho
theorem text19_c (c : Nat → Nat) (j : Nat) {w : World} {v : Value} {l : List UInt8} {R : Value → World → Prop} (hr : RdS (wv w) v 1 l.length (bvs l)) (hl : l.length < 65536)
    (h : ∀ v c' w', Step c [] [j] w c' w' → OwS (view c' j w') v 5 1 (txt l).length (bvs (txt l)) → R v w') : CallV Tryd.prog 77 #[v] w R := by
  obtain ⟨o, cp, rfl⟩ := hr.form
  refine ref19_text_vc ?_
  unfold ref19_text_VC
  refine ref_T c j hr (by omega) fun v2 c2 w2 st2 ho2 => ?_
  rw [if_pos hl] at ho2
  obtain ⟨o2, cp2, rfl⟩ := ho2.form
  exact T2.mk (TSl.mk (TInt.mk (h _ c2 w2 st2 ho2)))
theorem number19_c {w : World} {o : Option Addr} {p : Nat} {l : List UInt8} {at' : Nat} {R : Value → World → Prop} (hr : RdS (wv w) (.slice o l.length p) 1 l.length (bvs l)) (hl : l.length ≤ 1000000) (ha : at' + 8 ≤ l.length)
    (h : R (.int .u64 (num ((l.drop at').take 8))) w) {n : Int} (hn : n = at') : CallV Tryd.prog 65 #[.slice o l.length p, .int .i64 n] w R := by
  subst hn
  refine ref19_number_vc ?_
  unfold ref19_number_VC
  have hc := hr.len.2.1
  rw [wrap_i64 (by omega) (by omega)]
  refine Req.bndle ⟨by omega, by omega⟩ (Req.bndle ⟨by omega, by omega⟩ ?_)
  have hm := hr.mid (k := at') (m := 8) (by omega)
  rw [Nat.mul_one, Nat.mul_one, ← bvs_drop, ← bvs_take] at hm
  have e : (((at' : Int) + 8).toNat) = at' + 8 := by omega
  rw [e, Int.toNat_natCast]
  have hl8 : ((l.drop at').take 8).length = 8 := by rw [List.length_take, List.length_drop]; omega
  refine ref_Number (l := (l.drop at').take 8) (by rw [hl8]; exact hm) (by omega) (TInt.mk h)

/-- digests, compared -/
theorem SameH_c (c : Nat → Nat) {w : World} {v u : Value} {l m : List (List UInt8)} {R : Value → World → Prop} (h1 : LsV HashP 32 (wv w) v l) (h2 : LsV HashP 32 (wv w) u m) (hl : l.length ≤ 1099511627776)
    (h : ∀ w', Step c [] [] w c w' → R (.bool (decide (l = m))) w') : CallV Tryd.prog 56 #[v, u] w R := by
  obtain ⟨o1, cp1, rfl⟩ := LsV.form h1
  obtain ⟨o2, cp2, rfl⟩ := LsV.form h2
  refine ref05_Same_vc ?_
  unfold ref05_Same_VC
  refine BS.ne (fun hne => ?_) (fun he => ?_)
  · have := h w (.refl ..)
    rwa [decide_eq_false (by rintro rfl; exact hne rfl)] at this
  · have hlen : l.length = m.length := by omega
    refine LoopI.up l.length (fun i w' => Step c [] [] w c w' ∧ l.take i = m.take i) ⟨.refl .., by simp⟩ ?_
    rintro i w1 B hi ⟨S, heq⟩ back
    refine BS.dec (fun hlt => ?_) (fun hge => ?_)
    · obtain ⟨x, hx⟩ := get_of_lt (l := l) (i := i) (by omega)
      obtain ⟨y, hy⟩ := get_of_lt (l := m) (i := i) (by omega)
      refine DrewC.col c fun w2 st2 => ?_
      have S := S.trans st2
      have hs : Sub (wv w) (wv w2) := S.wv
      obtain ⟨es, ⟨rfl, hx32⟩, E⟩ := LsV.at (by omega) h1 hx
      obtain ⟨fs, ⟨rfl, hy32⟩, F⟩ := LsV.at (by omega) h2 hy
      refine Req.bnd ⟨by omega, hlt⟩ (E.all hs (Req.bnd ⟨by omega, by omega⟩ (F.all hs ?_)))
      refine EqA.bytes_ne arrHash (by kernel_rfl) hx32 hy32 ?_
      refine BS.ndec (fun hxy => ?_) (fun hxy => ?_)
      · have := h w2 S
        rwa [decide_eq_false (by rintro rfl; rw [hx] at hy; simp at hy; exact hxy hy)] at this
      · rw [wrap_i64 (by omega) (by omega)]
        refine back _ (by omega) ⟨S, ?_⟩
        rw [List.take_add_one, List.take_add_one, heq, hx, hy, hxy]
    · have : i = l.length := by omega
      subst this
      have := h w1 S
      rw [List.take_length, hlen, List.take_length] at heq
      rwa [decide_eq_true heq] at this

theorem hash19_c (c : Nat → Nat) (j : Nat) {w : World} {v : Value} {l : List UInt8} {R : Value → World → Prop} (hr : RdS (wv w) v 1 l.length (bvs l)) (hl : l.length ≤ 32)
    (h : ∀ c' w', Step c [] [j] w c' w' → R (.agg (bvs (l ++ List.replicate (32 - l.length) 0)).toArray) w') : CallV Tryd.prog 66 #[v] w R := by
  obtain ⟨o0, p0, rfl⟩ := hr.form
  have D : RdS (view (fun _ => 0) 0 w) (.slice o0 l.length p0) 1 l.length (bvs l) := by rw [view0]; exact hr
  have S := Fr.start w
  refine ref19_hash_vc ?_
  unfold ref19_hash_VC
  refine AllocC.col (fun _ => 0) 1 fun a2 c1 w1 st1 b2 _ => ?_
  replace S := S.go st1.step (by decide) (by decide); replace D := D.mono (st1.step.sub (by decide))
  refine AllocC.col c1 2 fun a3 c2 w2 st2 b3 _ => ?_
  replace S := S.go st2.step (by decide) (by decide); replace D := D.mono (st2.step.sub (by decide)); replace b2 := st2.step.sub (by decide) _ _ b2
  refine RunU.var b3 (by kernel_rfl) rfl (by kernel_rfl) fun w3 st3 b3 => ?_
  replace S := S.go st3.step (by decide) (by decide); replace D := D.mono (st3.step.sub (by decide)); replace b2 := st3.step.sub (by decide) _ _ b2
  have b3 : view c2 2 w3 a3 = some (.cells (bvs (List.replicate 32 0)).toArray 25 (0, 0)) := b3
  have hA : (l ++ List.replicate (32 - l.length) 0).length = (List.replicate 32 (0 : UInt8)).length := by simp; omega
  have hA2 : (l ++ List.replicate (32 - l.length) 0).length = 32 := by simp; omega
  have fin : ∀ {w'}, Fr w c2 w' → view c2 1 w' a2 = some (.cells (bvs (List.replicate 32 0)).toArray 25 (0, 0)) → view c2 2 w' a3 = some (.cells (bvs (l ++ List.replicate (32 - l.length) 0)).toArray 25 (0, 0)) →
      LoadA w' (⟨a3, 0, none⟩ : Addr) 32 fun cs22 => RunU Tryd.prog (storeVar 25 (⟨a2, 0, none⟩ : Addr) (.agg cs22)) w' fun w2 => LoadA w2 (⟨a2, 0, none⟩ : Addr) 32 fun csR => R (.agg csR) w2 := fun {w'} S b2 b3 => by
    refine LoadA.all (view_sub _ _ _) b3 (by rw [List.size_toArray, bvs_length, hA2]) ?_
    refine RunU.var b2 (hash_size hA2) (by rw [List.size_toArray, List.size_toArray, bvs_length, bvs_length, hA]) (bvs_all _) fun w9 st9 b2 => ?_
    replace S := S.go st9.step (by decide) (by decide)
    refine LoadA.all (view_sub _ _ _) b2 (by rw [List.size_toArray, bvs_length, hA2]) ?_
    exact h _ _ (S.leave c j)
  refine LoopI.up l.length (fun i w' => Fr w c2 w' ∧ RdS (view c2 0 w') (.slice o0 l.length p0) 1 l.length (bvs l) ∧ view c2 1 w' a2 = some (.cells (bvs (List.replicate 32 0)).toArray 25 (0, 0)) ∧
    view c2 2 w' a3 = some (.cells (bvs (upto (l ++ List.replicate (32 - l.length) 0) (List.replicate 32 0) i)).toArray 25 (0, 0))) ⟨S, D, b2, by rw [upto_zero]; exact b3⟩ ?_
  clear S D b2 b3
  rintro i w4 B hi ⟨S, D, b2, b3⟩ back
  have full : i = l.length → upto (l ++ List.replicate (32 - l.length) 0) (List.replicate 32 0) i = l ++ List.replicate (32 - l.length) 0 := by
    rintro rfl
    unfold upto
    rw [List.take_left, List.drop_replicate]
  have hul : (upto (l ++ List.replicate (32 - l.length) 0) (List.replicate 32 0) i).length = 32 := by rw [upto_length hA]; simp
  refine BS.dec (fun hlt => ?_) (fun hge => ?_)
  · unfold ref19_hash_K1
    refine BS.dec (fun hil => ?_) (fun hil => ?_)
    · obtain ⟨x, hx⟩ := get_of_lt (l := l) (i := i) (by omega)
      refine Req.bnd ⟨by omega, by omega⟩ ?_
      refine RdS.elt (view_sub _ _ _) D (by rw [bvs_get, hx]; rfl) (TInt.mk (Req.bnd ⟨by omega, by omega⟩ ?_))
      rw [Int.toNat_natCast, Nat.mul_one]
      refine StoreC.ad b3 (by rw [List.size_toArray, bvs_length, hul]; omega) fun w5 st5 _ b3 => ?_
      replace S := S.go st5.step (by decide) (by decide); replace D := D.mono (st5.step.sub (by decide)); replace b2 := st5.step.sub (by decide) _ _ b2
      rw [wrap_i64 (by omega) (by omega)]
      refine back _ (by omega) ⟨S, D, b2, ?_⟩
      rw [List.setIfInBounds_toArray] at b3
      have e : (bvs (upto (l ++ List.replicate (32 - l.length) 0) (List.replicate 32 0) i)).set i (.int .u8 (x.toNat : Int)) = bvs (upto (l ++ List.replicate (32 - l.length) 0) (List.replicate 32 0) (i + 1)) := by
        rw [← upto_set hA (x := x) (by rw [List.getElem?_append_left (by omega)]; exact hx)]
        unfold bvs
        rw [List.map_set]; rfl
      rw [e] at b3
      exact b3
    · rw [full (by omega)] at b3
      exact fin S b2 b3
  · unfold ref19_hash_K1
    rw [full (by omega)] at b3
    exact BS.no rfl (fin S b2 b3)
end Go.Proofs.YtdjgdcafmfheoaaDoor
set_option linter.unusedVariables false
set_option linter.unusedSimpArgs false
namespace Go.Proofs.YtdjgdcafmfheoaaDoor
open Go.Vc
attribute [local irreducible] TInt TBool TStr TPtr TSl TAgg TMap TChan T2 T3 T4 BS Req TSome TCell TByte LoadC LoadA StoreC AllocC RunV RunU CallV ExtV EqA StableC StableA StableV TCells ReadV
attribute [local irreducible] eU eT eE
attribute [local irreducible] DrewC eH many rdM wrM

theorem Right19_c (c : Nat → Nat) (j : Nat) {w : World} {m : MsgR} {v va ua vh vb : Value} {R : Value → World → Prop} (hm : MsgV (wv w) m v va ua vh vb) (hok : m.ok) (hd : m.fair)
    (h : ∀ b c' w', Step c [] [j] w c' w' → (b = true ↔ m.right) → R (.bool b) w') : CallV Tryd.prog 73 #[.agg (m.cells v va ua vh vb).toArray] w R := by
  have h32 := hok.2.2.2.2.2.1
  obtain ⟨oh, ph, rfl⟩ := LsV.form hm.hs
  obtain ⟨ob, pb, rfl⟩ := LsV.form hm.bs
  have M : MsgV (view (fun _ => 0) 0 w) m v va ua (.slice oh m.hashes.length ph) (.slice ob m.blocks.length pb) := by rw [view0]; exact hm
  have S := Fr.start w
  have g := msg_gets (m := m) (v := v) (va := va) (ua := ua) (vh := .slice oh m.hashes.length ph) (vb := .slice ob m.blocks.length pb) h32
  obtain ⟨d1, d2, d3⟩ := hd
  refine ref19_Right_vc ?_
  unfold ref19_Right_VC
  refine AllocC.col (fun _ => 0) 1 fun a1 c1 w1 st1 b1 _ => ?_
  replace S := S.go st1.step (by decide) (by decide); replace M := M.mono (st1.step.sub (by decide))
  have fls : ∀ {c' w'}, Fr w c' w' → ¬ m.right → R (.bool false) w' := fun S hn => h false _ _ (S.leave c j) ⟨fun e => by simp at e, fun e => absurd e hn⟩
  refine LoadC.ad (view_sub _ _ _) _ b1 rfl (TInt.mk ?_)
  refine BS.dec (fun k => fls S fun h => by have := h.1; omega) (fun k1 => ?_)
  refine LoadC.ad (view_sub _ _ _) _ b1 rfl (TInt.mk ?_)
  refine BS.dec (fun k => fls S fun h => by have := h.2.1; omega) (fun k2 => ?_)
  refine LoadC.ad (view_sub _ _ _) _ b1 rfl (TInt.mk ?_)
  refine BS.dec (fun k => fls S fun h => by have := h.2.2.1; omega) (fun k3 => ?_)
  refine LoadC.ad (view_sub _ _ _) _ b1 rfl (TInt.mk ?_)
  refine BS.dec (fun k => fls S fun h => by have := h.2.2.2.1; omega) (fun k4 => ?_)
  refine LoadC.ad (view_sub _ _ _) _ b1 rfl (TInt.mk ?_)
  refine BS.dec (fun k => fls S fun h => by have := h.2.2.2.2.1; omega) (fun k5 => ?_)
  refine LoadC.ad (view_sub _ _ _) _ b1 rfl (TInt.mk ?_)
  refine BS.dec (fun k => fls S fun h => by have := h.2.2.2.2.2.1; omega) (fun k6 => ?_)
  refine LoadC.ad (view_sub _ _ _) _ b1 g.g51 (TSl.mk ?_)
  refine BS.dec (fun k => fls S fun h => by have := h.2.2.2.2.2.2.1; omega) (fun k7 => ?_)
  refine LoadC.ad (view_sub _ _ _) _ b1 g.g52 (TSl.mk ?_)
  unfold ref19_Right_K1
  refine BS.dec (fun k => fls S fun h => by have := h.2.2.2.2.2.2.2.1; omega) (fun k8 => ?_)
  refine LoopI.up m.blocks.length (fun i w' => w1 = w' ∧ ∀ b ∈ m.blocks.take i, b.length ≤ 470) ⟨rfl, by simp⟩ ?_
  rintro i _ B hi ⟨rfl, hb⟩ back
  refine LoadC.ad (view_sub _ _ _) _ b1 g.g52 (TSl.mk ?_)
  refine BS.dec (fun hlt => ?_) (fun hge => ?_)
  · obtain ⟨s, hs⟩ := get_of_lt (l := m.blocks) (i := i) (by omega)
    obtain ⟨es, ⟨vs, rfl, rs⟩, E⟩ := LsV.at (by omega) M.bs hs
    obtain ⟨os, ps, rfl⟩ := rs.form
    refine LoadC.ad (view_sub _ _ _) _ b1 g.g52 (TSl.mk ?_)
    refine Req.bnd ⟨by omega, hlt⟩ (E.ld0 (view_sub _ _ _) rfl (TSl.mk ?_))
    refine BS.dec (fun hbig => fls S fun h => ?_) (fun hsm => ?_)
    · have := h.2.2.2.2.2.2.2.2.1 s (List.mem_of_getElem? hs); omega
    · rw [wrap_i64 (by omega) (by omega)]
      refine back _ (by omega) ⟨rfl, fun x hx => ?_⟩
      rw [List.take_add_one, hs] at hx
      simp only [Option.toList_some, List.mem_append, List.mem_singleton] at hx
      rcases hx with hx | rfl
      · exact hb x hx
      · omega
  · have hi2 : i = m.blocks.length := by omega
    subst hi2
    rw [List.take_length] at hb
    clear back B hi hge
    have hpre : m.right ↔ (if m.kind = 1 then 0 ≤ m.client ∧ m.client ≤ 3 ∧ 0 < m.number ∧ m.op.right ∧ m.ans = AnsR.zero
        else if m.kind = 2 then 0 ≤ m.client ∧ m.client ≤ 3 ∧ 0 < m.number ∧ m.op = OpR.zero ∧ m.ans.right
        else m.client = 0 ∧ m.number = 0 ∧ m.op = OpR.zero ∧ m.ans = AnsR.zero) :=
      ⟨fun h => h.2.2.2.2.2.2.2.2.2, fun h => ⟨by omega, by omega, by omega, by omega, by omega, by omega, by omega, by omega, hb, h⟩⟩
    have tail : ∀ b4 : Bool, (b4 = true ↔ (0 ≤ m.client ∧ m.client ≤ 3 ∧ 0 < m.number)) → ref19_Right_K2 (⟨a1, 0, none⟩ : Addr) b4 w1 R := fun b4 hb4 => by
      unfold ref19_Right_K2
      refine DrewC.col c1 fun w2 st2 => ?_
      replace S := S.go st2 (by decide) (by decide); replace M := M.mono (st2.sub (by decide)); replace b1 := st2.sub (by decide) _ _ b1
      rw [add_add]
      refine LoadA.part (k := 41) (view_sub _ _ _) b1 (es := m.op.cells v) rfl g.p41 ?_
      refine LoadA.part (k := 47) (view_sub _ _ _) b1 (es := m.ans.cells va ua) rfl g.p47 ?_
      refine SameOp_c c1 3 (q := 0) (r := 0) (p := OpR.zero) (u := nilV) M.op (RdS.none_bytes ..) fun c3 w3 st3 => TBool.mk ?_
      replace S := S.go st3 (by decide) (by decide); replace M := M.mono (st3.sub (by decide)); replace b1 := st3.sub (by decide) _ _ b1
      refine ⟨StableA.part (k := 47) (view_sub _ _ _) b1 rfl g.p47, ?_⟩
      refine SameAns_c c3 3 (b := AnsR.zero) (v' := nilV) (u' := nilV) (M.ans.mono (view_sub _ _ _)) ⟨RdS.none_bytes .., RdS.none_strs ..⟩ (by omega) fun c4 w4 st4 => TBool.mk ?_
      replace S := S.go st4 (by decide) (by decide); replace M := M.mono (st4.sub (by decide)); replace b1 := st4.sub (by decide) _ _ b1
      unfold ref19_Right_K3
      refine LoadC.ad (view_sub _ _ _) _ b1 rfl (TInt.mk ?_)
      unfold ref19_Right_K4
      refine BS.eq (fun q1 => ?_) (fun q1 => ?_)
      · rw [if_pos q1] at hpre
        refine BS.mk (fun hc => ?_) (fun hc => fls S fun h => by have h := hpre.1 h; have := hb4.2 ⟨h.1, h.2.1, h.2.2.1⟩; rw [hc] at this; simp at this)
        rw [add_add]
        refine LoadA.part (k := 41) (view_sub _ _ _) b1 (es := m.op.cells v) rfl g.p41 ?_
        refine ref_Right c4 3 M.op fun c5 w5 st5 => TBool.mk ?_
        replace S := S.go st5 (by decide) (by decide)
        refine BS.dec (fun ho => ?_) (fun ho => fls S fun h => ho (hpre.1 h).2.2.2.1)
        refine h _ _ _ (S.leave c j) ?_
        rw [hpre, decide_eq_true_iff]
        have := hb4.1 hc
        exact ⟨fun e => ⟨this.1, this.2.1, this.2.2, ho, e⟩, fun e => e.2.2.2.2⟩
      · rw [if_neg q1] at hpre
        unfold ref19_Right_K5
        refine LoadC.ad (view_sub _ _ _) _ b1 rfl (TInt.mk ?_)
        unfold ref19_Right_K6
        refine BS.eq (fun q2 => ?_) (fun q2 => ?_)
        · rw [if_pos q2] at hpre
          refine BS.mk (fun hc => ?_) (fun hc => fls S fun h => by have h := hpre.1 h; have := hb4.2 ⟨h.1, h.2.1, h.2.2.1⟩; rw [hc] at this; simp at this)
          refine BS.dec (fun ho => ?_) (fun ho => fls S fun h => ho (hpre.1 h).2.2.2.1)
          refine LoadA.part (k := 47) (view_sub _ _ _) b1 (es := m.ans.cells va ua) rfl g.p47 ?_
          refine RightAnswer_c c4 3 (M.ans.mono (view_sub _ _ _)) fun c5 w5 st5 => TBool.mk ?_
          replace S := S.go st5 (by decide) (by decide)
          refine h _ _ _ (S.leave c j) ?_
          rw [hpre, decide_eq_true_iff]
          have := hb4.1 hc
          exact ⟨fun e => ⟨this.1, this.2.1, this.2.2, ho, e⟩, fun e => e.2.2.2.2⟩
        · rw [if_neg q2] at hpre
          unfold ref19_Right_K7
          rw [add_add, add_add]
          refine LoadC.ad (view_sub _ _ _) _ b1 g.g39 (TInt.mk ?_)
          refine BS.eq (fun z0 => ?_) (fun z0 => fls S fun h => z0 (hpre.1 h).1)
          refine LoadC.ad (view_sub _ _ _) _ b1 g.g40 (TInt.mk ?_)
          refine BS.eq (fun z1 => ?_) (fun z1 => fls S fun h => z1 (by have := (hpre.1 h).2.1; omega))
          refine BS.dec (fun ho => ?_) (fun ho => fls S fun h => ho (hpre.1 h).2.2.1)
          refine h _ _ _ (S.leave c j) ?_
          rw [hpre, decide_eq_true_iff]
          exact ⟨fun e => ⟨z0, by omega, ho, e⟩, fun e => e.2.2.2⟩
    rw [add_add, add_add]
    refine LoadC.ad (view_sub _ _ _) _ b1 g.g39 (TInt.mk ?_)
    refine BS.dec (fun g0 => ?_) (fun g0 => tail false ⟨fun e => by simp at e, fun e => by omega⟩)
    refine LoadC.ad (view_sub _ _ _) _ b1 g.g39 (TInt.mk ?_)
    refine BS.dec (fun g1 => ?_) (fun g1 => tail false ⟨fun e => by simp at e, fun e => by omega⟩)
    refine LoadC.ad (view_sub _ _ _) _ b1 g.g40 (TInt.mk ?_)
    exact tail _ ⟨fun e => ⟨g0, g1, by have := of_decide_eq_true e; omega⟩, fun e => decide_eq_true (by omega)⟩

theorem Same19_c (c : Nat → Nat) (j : Nat) {w : World} {m n : MsgR} {v va ua vh vb v' va' ua' vh' vb' : Value} {R : Value → World → Prop} (hm : MsgV (wv w) m v va ua vh vb) (hn : MsgV (wv w) n v' va' ua' vh' vb') (hok : m.ok) (hok' : n.ok) (hd : m.fair)
    (h : ∀ b c' w', Step c [] [j] w c' w' → (b = true ↔ m = n) → R (.bool b) w') : CallV Tryd.prog 17 #[.agg (m.cells v va ua vh vb).toArray, .agg (n.cells v' va' ua' vh' vb').toArray] w R := by
  have h32 := hok.2.2.2.2.2.1
  have h32' := hok'.2.2.2.2.2.1
  obtain ⟨oh, ph, rfl⟩ := LsV.form hm.hs
  obtain ⟨ob, pb, rfl⟩ := LsV.form hm.bs
  obtain ⟨oh', ph', rfl⟩ := LsV.form hn.hs
  obtain ⟨ob', pb', rfl⟩ := LsV.form hn.bs
  have M : MsgV (view (fun _ => 0) 0 w) m v va ua (.slice oh m.hashes.length ph) (.slice ob m.blocks.length pb) := by rw [view0]; exact hm
  have N : MsgV (view (fun _ => 0) 0 w) n v' va' ua' (.slice oh' n.hashes.length ph') (.slice ob' n.blocks.length pb') := by rw [view0]; exact hn
  have S := Fr.start w
  have g := msg_gets (m := m) (v := v) (va := va) (ua := ua) (vh := .slice oh m.hashes.length ph) (vb := .slice ob m.blocks.length pb) h32
  have g' := msg_gets (m := n) (v := v') (va := va') (ua := ua') (vh := .slice oh' n.hashes.length ph') (vb := .slice ob' n.blocks.length pb') h32'
  obtain ⟨d1, d2, d3⟩ := hd
  refine ref19_Same_vc ?_
  unfold ref19_Same_VC
  refine AllocC.col (fun _ => 0) 1 fun a1 c1 w1 st1 b1 _ => ?_
  replace S := S.go st1.step (by decide) (by decide); replace M := M.mono (st1.step.sub (by decide)); replace N := N.mono (st1.step.sub (by decide))
  refine AllocC.col c1 2 fun a2 c2 w2 st2 b2 _ => ?_
  replace S := S.go st2.step (by decide) (by decide); replace M := M.mono (st2.step.sub (by decide)); replace N := N.mono (st2.step.sub (by decide)); replace b1 := st2.step.sub (by decide) _ _ b1
  have fls : ∀ {c' w'}, Fr w c' w' → m ≠ n → R (.bool false) w' := fun S hn => h false _ _ (S.leave c j) ⟨fun e => by simp at e, fun e => absurd e hn⟩
  refine LoadC.ad (view_sub _ _ _) _ b1 rfl (TInt.mk (LoadC.ad (view_sub _ _ _) _ b2 rfl (TInt.mk ?_)))
  refine BS.ne (fun k => fls S fun e => k (by rw [e])) (fun e1 => ?_)
  refine LoadC.ad (view_sub _ _ _) _ b1 rfl (TInt.mk (LoadC.ad (view_sub _ _ _) _ b2 rfl (TInt.mk ?_)))
  refine BS.ne (fun k => fls S fun e => k (by rw [e])) (fun e2 => ?_)
  refine LoadC.ad (view_sub _ _ _) _ b1 rfl (TInt.mk (LoadC.ad (view_sub _ _ _) _ b2 rfl (TInt.mk ?_)))
  refine BS.ne (fun k => fls S fun e => k (by rw [e])) (fun e3 => ?_)
  refine LoadC.ad (view_sub _ _ _) _ b1 rfl (TInt.mk (LoadC.ad (view_sub _ _ _) _ b2 rfl (TInt.mk ?_)))
  refine BS.ne (fun k => fls S fun e => k (by rw [e])) (fun e4 => ?_)
  refine LoadC.ad (view_sub _ _ _) _ b1 rfl (TInt.mk (LoadC.ad (view_sub _ _ _) _ b2 rfl (TInt.mk ?_)))
  refine BS.ne (fun k => fls S fun e => k (by rw [e])) (fun e5 => ?_)
  refine LoadC.ad (view_sub _ _ _) _ b1 rfl (TInt.mk (LoadC.ad (view_sub _ _ _) _ b2 rfl (TInt.mk ?_)))
  refine BS.ne (fun k => fls S fun e => k (by rw [e])) (fun e6 => ?_)
  refine LoadC.ad (view_sub _ _ _) _ b1 rfl (TInt.mk (LoadC.ad (view_sub _ _ _) _ b2 rfl (TInt.mk ?_)))
  refine BS.ne (fun k => fls S fun e => k (by rw [e])) (fun e7 => ?_)
  refine LoadA.part (k := 7) (view_sub _ _ _) b1 (es := bvs m.head) (by simp [h32]) g.p7 (LoadA.part (k := 7) (view_sub _ _ _) b2 (es := bvs n.head) (by simp [h32']) g'.p7 ?_)
  refine EqA.bytes_ne arrHash (by kernel_rfl) h32 h32' ?_
  unfold ref19_Same_K1
  refine BS.ndec (fun k => fls S fun e => k (by rw [e])) (fun e8 => ?_)
  simp only [add_add]
  refine LoadC.ad (view_sub _ _ _) _ b1 g.g39 (TInt.mk (LoadC.ad (view_sub _ _ _) _ b2 g'.g39 (TInt.mk ?_)))
  refine BS.ne (fun k => fls S fun e => k (by rw [e])) (fun e9 => ?_)
  refine LoadC.ad (view_sub _ _ _) _ b1 g.g40 (TInt.mk (LoadC.ad (view_sub _ _ _) _ b2 g'.g40 (TInt.mk ?_)))
  refine BS.ne (fun k => fls S fun e => k (by rw [e])) (fun e10 => ?_)
  refine LoadA.part (k := 41) (view_sub _ _ _) b1 (es := m.op.cells v) rfl g.p41 (LoadA.part (k := 41) (view_sub _ _ _) b2 (es := n.op.cells v') rfl g'.p41 ?_)
  refine SameOp_c c2 3 (q := 0) (r := 0) M.op N.op fun c3 w3 st3 => TBool.mk ?_
  replace S := S.go st3 (by decide) (by decide); replace M := M.mono (st3.sub (by decide)); replace N := N.mono (st3.sub (by decide)); replace b1 := st3.sub (by decide) _ _ b1; replace b2 := st3.sub (by decide) _ _ b2
  refine BS.ndec (fun k => fls S fun e => k (by rw [e])) (fun e11 => ?_)
  refine LoadA.part (k := 47) (view_sub _ _ _) b1 (es := m.ans.cells va ua) rfl g.p47 (LoadA.part (k := 47) (view_sub _ _ _) b2 (es := n.ans.cells va' ua') rfl g'.p47 ?_)
  refine SameAns_c c3 3 (M.ans.mono (view_sub _ _ _)) (N.ans.mono (view_sub _ _ _)) (by omega) fun c4 w4 st4 => TBool.mk ?_
  replace S := S.go st4 (by decide) (by decide); replace M := M.mono (st4.sub (by decide)); replace N := N.mono (st4.sub (by decide)); replace b1 := st4.sub (by decide) _ _ b1; replace b2 := st4.sub (by decide) _ _ b2
  refine BS.ndec (fun k => fls S fun e => k (by rw [e])) (fun e12 => ?_)
  refine LoadC.ad (view_sub _ _ _) _ b1 g.g51 (TSl.mk (LoadC.ad (view_sub _ _ _) _ b2 g'.g51 (TSl.mk ?_)))
  refine SameH_c c4 (M.mono (view_sub _ _ _)).hs (N.mono (view_sub _ _ _)).hs (by omega) fun w5 st5 => TBool.mk ?_
  replace S := S.go st5 (by decide) (by decide); replace M := M.mono (st5.sub (by decide)); replace N := N.mono (st5.sub (by decide)); replace b1 := st5.sub (by decide) _ _ b1; replace b2 := st5.sub (by decide) _ _ b2
  refine BS.ndec (fun k => fls S fun e => k (by rw [e])) (fun e13 => ?_)
  refine LoadC.ad (view_sub _ _ _) _ b1 g.g52 (TSl.mk (LoadC.ad (view_sub _ _ _) _ b2 g'.g52 (TSl.mk ?_)))
  unfold ref19_Same_K2
  refine BS.ne (fun k => fls S fun e => k (by rw [e])) (fun e14 => ?_)
  have hlen : m.blocks.length = n.blocks.length := by omega
  refine LoopI.up m.blocks.length (fun i w' => Fr w c4 w' ∧ MsgV (view c4 0 w') m v va ua (.slice oh m.hashes.length ph) (.slice ob m.blocks.length pb) ∧ MsgV (view c4 0 w') n v' va' ua' (.slice oh' n.hashes.length ph') (.slice ob' n.blocks.length pb') ∧
    view c4 1 w' a1 = some (.cells (m.cells v va ua (.slice oh m.hashes.length ph) (.slice ob m.blocks.length pb)).toArray 38 (0, 0)) ∧ view c4 2 w' a2 = some (.cells (n.cells v' va' ua' (.slice oh' n.hashes.length ph') (.slice ob' n.blocks.length pb')).toArray 38 (0, 0)) ∧ m.blocks.take i = n.blocks.take i) ⟨S, M, N, b1, b2, by simp⟩ ?_
  clear S M N b1 b2
  rintro i w6 B hi ⟨S, M, N, b1, b2, heq⟩ back
  refine LoadC.ad (view_sub _ _ _) _ b1 g.g52 (TSl.mk ?_)
  refine BS.dec (fun hlt => ?_) (fun hge => ?_)
  · obtain ⟨s, hs⟩ := get_of_lt (l := m.blocks) (i := i) (by omega)
    obtain ⟨t, ht⟩ := get_of_lt (l := n.blocks) (i := i) (by omega)
    refine DrewC.col c4 fun w7 st7 => ?_
    replace S := S.go st7 (by decide) (by decide); replace M := M.mono (st7.sub (by decide)); replace N := N.mono (st7.sub (by decide)); replace b1 := st7.sub (by decide) _ _ b1; replace b2 := st7.sub (by decide) _ _ b2
    obtain ⟨es, ⟨vs, rfl, rs⟩, E⟩ := LsV.at (by omega) M.bs hs
    obtain ⟨os, ps, rfl⟩ := rs.form
    obtain ⟨fs, ⟨us, rfl, qs⟩, F⟩ := LsV.at (by omega) N.bs ht
    obtain ⟨ot, pt, rfl⟩ := qs.form
    refine LoadC.ad (view_sub _ _ _) _ b1 g.g52 (TSl.mk ?_)
    refine Req.bnd ⟨by omega, hlt⟩ (E.ld0 (view_sub _ _ _) rfl (TSl.mk ?_))
    refine string_rule strU8 (rs.mono (view_sub _ _ _)) (TStr.mk ?_)
    refine LoadC.ad (view_sub _ _ _) _ b2 g'.g52 (TSl.mk ?_)
    refine Req.bnd ⟨by omega, by omega⟩ (F.ld0 (view_sub _ _ _) rfl (TSl.mk ?_))
    refine string_rule strU8 (qs.mono (view_sub _ _ _)) (TStr.mk ?_)
    rw [strEq_of]
    refine BS.ndec (fun k => fls S fun e => k ?_) (fun e15 => ?_)
    · rw [e] at hs; rw [hs] at ht; simpa using ht
    · rw [wrap_i64 (by omega) (by omega)]
      refine back _ (by omega) ⟨S, M, N, b1, b2, ?_⟩
      rw [List.take_add_one, List.take_add_one, heq, hs, ht, e15]
  · have : i = m.blocks.length := by omega
    subst this
    rw [List.take_length, hlen, List.take_length] at heq
    refine h true _ _ (S.leave c j) ⟨fun _ => ?_, fun _ => rfl⟩
    obtain ⟨kind, fr, to, view, normal, gen, commit, head, client, number, op, ans, hashes, blocks⟩ := m
    obtain ⟨kind', fr', to', view', normal', gen', commit', head', client', number', op', ans', hashes', blocks'⟩ := n
    simp only at e1 e2 e3 e4 e5 e6 e7 e8 e9 e10 e11 e12 e13 heq
    simp only [MsgR.mk.injEq]
    exact ⟨e1, e2, e3, by omega, by omega, by omega, by omega, e8, e9, by omega, e11, e12, e13, heq⟩

/-- 'Great' says no: there is no more than is looked at -/
theorem Great19_c (c : Nat → Nat) (j : Nat) {w : World} {m : MsgR} {v va ua vh vb : Value} {R : Value → World → Prop} (hm : MsgV (wv w) m v va ua vh vb) (hok : m.ok)
    (h : ∀ b c' w', Step c [] [j] w c' w' → (b = false → m.mild) → R (.bool b) w') : CallV Tryd.prog 15 #[.agg (m.cells v va ua vh vb).toArray] w R := by
  have h32 := hok.2.2.2.2.2.1
  obtain ⟨oh, ph, rfl⟩ := LsV.form hm.hs
  obtain ⟨ob, pb, rfl⟩ := LsV.form hm.bs
  obtain ⟨oa, pa, rfl⟩ := hm.ans.d.form
  obtain ⟨ou, pu, rfl⟩ := hm.ans.n.form
  have M : MsgV (view (fun _ => 0) 0 w) m v (.slice oa m.ans.data.length pa) (.slice ou m.ans.names.length pu) (.slice oh m.hashes.length ph) (.slice ob m.blocks.length pb) := by rw [view0]; exact hm
  have S := Fr.start w
  have g := msg_gets (m := m) (v := v) (va := .slice oa m.ans.data.length pa) (ua := .slice ou m.ans.names.length pu) (vh := .slice oh m.hashes.length ph) (vb := .slice ob m.blocks.length pb) h32
  refine ref19_Great_vc ?_
  unfold ref19_Great_VC
  refine AllocC.col (fun _ => 0) 1 fun a1 c1 w1 st1 b1 _ => ?_
  replace S := S.go st1.step (by decide) (by decide); replace M := M.mono (st1.step.sub (by decide))
  have tru : ∀ {c' w'}, Fr w c' w' → R (.bool true) w' := fun S => h true _ _ (S.leave c j) (fun e => by simp at e)
  simp only [add_add]
  refine LoadC.ad (view_sub _ _ _) _ b1 g.g49 (TSl.mk ?_)
  refine BS.dec (fun k => tru S) (fun k1 => ?_)
  refine LoadC.ad (view_sub _ _ _) _ b1 g.g50 (TSl.mk ?_)
  refine BS.dec (fun k => tru S) (fun k2 => ?_)
  refine LoadC.ad (view_sub _ _ _) _ b1 g.g51 (TSl.mk ?_)
  unfold ref19_Great_K1
  refine BS.dec (fun k => tru S) (fun k3 => ?_)
  simp only [add_add]
  refine LoadC.ad (view_sub _ _ _) _ b1 g.g49 (TSl.mk ?_)
  refine LoadC.ad (view_sub _ _ _) _ b1 g.g50 (TSl.mk ?_)
  refine LoadC.ad (view_sub _ _ _) _ b1 g.g51 (TSl.mk ?_)
  rw [wrap_i64 (n := 10 * ((m.ans.names.length : Nat) : Int)) (by omega) (by omega), wrap_i64 (n := 32 * ((m.hashes.length : Nat) : Int)) (by omega) (by omega), wrap_i64 (n := ((m.ans.data.length : Nat) : Int) + 10 * ((m.ans.names.length : Nat) : Int)) (by omega) (by omega), wrap_i64 (by omega) (by omega)]
  have last : ∀ (x : Int) (i : Nat), (x > 40000 ∨ (i = m.blocks.length ∧ (10 : Int) * i ≤ x ∧ ∀ b ∈ m.blocks.take i, b.length ≤ 40000)) → ref19_Great_K3 (⟨a1, 0, none⟩ : Addr) x w1 R := fun x i hx => by
    unfold ref19_Great_K3
    refine BS.dec (fun k => tru S) (fun k4 => ?_)
    rw [add_add]
    refine LoadA.part (k := 41) (view_sub _ _ _) b1 (es := m.op.cells v) rfl g.p41 ?_
    refine Great_c c1 3 M.op fun c2 w2 st2 => TBool.mk ?_
    replace S := S.go st2 (by decide) (by decide)
    refine h _ _ _ (S.leave c j) fun e => ?_
    have e := of_decide_eq_false e
    rcases hx with hx | ⟨rfl, hx, hb⟩
    · omega
    · rw [List.take_length] at hb
      exact ⟨by omega, by omega, by omega, by omega, hb, by omega, by omega, by omega⟩
  refine LoopNI.up m.blocks.length (fun i x w' => w1 = w' ∧ (10 : Int) * i ≤ x ∧ x ≤ 100000 ∧ ∀ b ∈ m.blocks.take i, b.length ≤ 40000) ⟨rfl, by omega, by omega, by simp⟩ ?_
  rintro i x _ B hi ⟨rfl, hx, hx2, hb⟩ back
  refine LoadC.ad (view_sub _ _ _) _ b1 g.g52 (TSl.mk ?_)
  refine BS.dec (fun hlt => ?_) (fun hge => last x i (.inr ⟨by omega, hx, hb⟩))
  unfold ref19_Great_K2
  refine BS.dec (fun hle => ?_) (fun hgt => last x i (.inl (by omega)))
  obtain ⟨s, hs⟩ := get_of_lt (l := m.blocks) (i := i) (by omega)
  obtain ⟨es, ⟨vs, rfl, rs⟩, E⟩ := LsV.at (by omega) M.bs hs
  obtain ⟨os, ps, rfl⟩ := rs.form
  refine LoadC.ad (view_sub _ _ _) _ b1 g.g52 (TSl.mk ?_)
  refine Req.bnd ⟨by omega, hlt⟩ (E.ld0 (view_sub _ _ _) rfl (TSl.mk ?_))
  refine BS.dec (fun k => tru S) (fun k4 => ?_)
  refine LoadC.ad (view_sub _ _ _) _ b1 g.g52 (TSl.mk ?_)
  refine Req.bnd ⟨by omega, hlt⟩ (E.ld0 (view_sub _ _ _) rfl (TSl.mk ?_))
  have hn : (i : Int) ≤ 100000 := by omega
  rw [wrap_i64 (n := ((s.length : Nat) : Int) + 10) (by omega) (by omega), wrap_i64 (n := x + _) (by omega) (by omega), wrap_i64 (n := (i : Int) + 1) (by omega) (by omega)]
  refine back _ _ (by omega) ⟨rfl, by omega, by omega, fun y hy => ?_⟩
  rw [List.take_add_one, hs] at hy
  simp only [Option.toList_some, List.mem_append, List.mem_singleton] at hy
  rcases hy with hy | rfl
  · exact hb y hy
  · omega
end Go.Proofs.YtdjgdcafmfheoaaDoor
set_option linter.unusedVariables false
set_option linter.unusedSimpArgs false
namespace Go.Vc
open Go
theorem right_bytes {m : MsgR} (h : m.right) : (wrOp m.op).1 = m.opB ∧ (m.kind = 2 → (wrAns m.ans).1 = m.ansB) ∧ (m.kind ≠ 2 → m.ansB = []) ∧ m.opB.length ≤ 1000 ∧ m.ansB.length ≤ 1000 ∧ 0 ≤ m.client ∧ m.client < 4 := by
  obtain ⟨h1, h2, h3, h4, h5, h6, h7, h8, h9, h10⟩ := h
  unfold MsgR.opB MsgR.ansB
  have zn : ¬ OpR.zero.right := fun h => absurd h.1 (by decide)
  by_cases k1 : m.kind = 1
  · rw [if_pos k1] at h10 ⊢
    have := OpR.enc_len h10.2.2.2.1
    unfold wrOp
    rw [if_pos h10.2.2.2.1, if_neg (by omega)]
    refine ⟨rfl, fun h => by omega, fun _ => rfl, by omega, by simp, by omega, by omega⟩
  · rw [if_neg k1] at h10 ⊢
    by_cases k2 : m.kind = 2
    · rw [if_pos k2] at h10 ⊢
      have := AnsR.enc_len h10.2.2.2.2
      unfold wrOp wrAns
      rw [h10.2.2.2.1, if_neg zn, if_pos h10.2.2.2.2]
      exact ⟨rfl, fun _ => rfl, fun h => absurd k2 h, by simp, by omega, by omega, by omega⟩
    · rw [if_neg k2] at h10 ⊢
      unfold wrOp
      rw [h10.2.2.1, if_neg zn]
      exact ⟨rfl, fun h => absurd h k2, fun _ => rfl, by simp, by simp, by omega, by omega⟩
theorem wrM_yes {m : MsgR} (h : m.right) : wrM m = (m.enc, 0) := by unfold wrM; rw [if_pos h]
theorem wrM_no {m : MsgR} (h : ¬ m.right) : wrM m = ([], 1) := by unfold wrM; rw [if_neg h]
end Go.Vc
namespace Go.Proofs.YtdjgdcafmfheoaaDoor
open Go.Vc
attribute [local irreducible] TInt TBool TStr TPtr TSl TAgg TMap TChan T2 T3 T4 BS Req TSome TCell TByte LoadC LoadA StoreC AllocC RunV RunU CallV ExtV EqA StableC StableA StableV TCells ReadV
attribute [local irreducible] eU eT eE
attribute [local irreducible] DrewC eH many rdM wrM

set_option maxHeartbeats 1000000
theorem Write19_K2 (c : Nat → Nat) (j : Nat) {w : World} {m : MsgR} {v va ua : Value} {oh ob : Option Addr} {ph pb : Nat} {a1 : Nat} {c' : Nat → Nat} {w' : World} {B : List UInt8} {o4 o5 o7 : Option Addr} {k4 p5 p7 : Nat} {R : Value → World → Prop} (hok : m.ok) (hr : m.right)
    (h : ∀ v c' w', Step c [] [j] w c' w' → OwS (view c' j w') v 5 1 (wrM m).1.length (bvs (wrM m).1) → R (.tuple #[v, .int .i64 (wrM m).2]) w')
    (S : Fr w c' w') (M : MsgV (view c' 0 w') m v va ua (.slice oh m.hashes.length ph) (.slice ob m.blocks.length pb)) (b1 : view c' 1 w' a1 = some (.cells (m.cells v va ua (.slice oh m.hashes.length ph) (.slice ob m.blocks.length pb)).toArray 38 (0, 0)))
    (ho : OwS (view c' 2 w') (.slice o4 B.length k4) 5 1 B.length (bvs B)) (hl : B.length ≤ 100) (r5 : RdS (view c' 4 w') (.slice o5 m.opB.length p5) 1 m.opB.length (bvs m.opB)) (r7 : RdS (view c' 5 w') (.slice o7 m.ansB.length p7) 1 m.ansB.length (bvs m.ansB))
    (hB : m.body = B ++ (txt m.opB ++ (txt m.ansB ++ (be m.hashes.length 1 ++ (m.hashes.flatten ++ (be m.blocks.length 1 ++ m.blocks.flatMap txt)))))) :
    ref19_Write_K2 (⟨a1, 0, none⟩ : Addr) o4 B.length k4 o5 m.opB.length p5 o7 m.ansB.length p7 w' R := by
  obtain ⟨ry1, ry2, ry3, ry4, ry5, ry6, ry7⟩ := right_bytes hr
  have h32 := hok.2.2.2.2.2.1
  have hle := enc_le hr hok
  have htb := (take_body (m := m)).1
  obtain ⟨q1, q2, q3, q4, q5, q6, q7, q8, q9, q10⟩ := id hr
  have g := msg_gets (m := m) (v := v) (va := va) (ua := ua) (vh := .slice oh m.hashes.length ph) (vb := .slice ob m.blocks.length pb) h32
  unfold ref19_Write_K2
  refine text19_c c' 3 (r5.mono (view_sub _ _ _)) (by omega) fun v1 c1 w1 st1 r1 => ?_
  replace S := S.go st1 (by decide) (by decide); replace M := M.mono (st1.sub (by decide)); replace b1 := st1.sub (by decide) _ _ b1; replace ho := ho.mono (st1.sub (by decide)); replace r7 := r7.mono (st1.sub (by decide))
  obtain ⟨o1, p1, rfl⟩ := r1.form
  refine TSl.mk ?_
  refine app_bytes slU8 ho (r1.rd.mono (view_sub _ _ _)) (by simp; omega) fun o2 p2 c2 w2 st2 ho => TSl.mk ?_
  replace S := S.go st2.step (by decide) (by decide); replace M := M.mono (st2.step.sub (by decide)); replace b1 := st2.step.sub (by decide) _ _ b1; replace r7 := r7.mono (st2.step.sub (by decide))
  refine text19_c c2 3 (r7.mono (view_sub _ _ _)) (by omega) fun v3 c3 w3 st3 r3 => ?_
  replace S := S.go st3 (by decide) (by decide); replace M := M.mono (st3.sub (by decide)); replace b1 := st3.sub (by decide) _ _ b1; replace ho := ho.mono (st3.sub (by decide))
  obtain ⟨o3, p3, rfl⟩ := r3.form
  refine TSl.mk ?_
  refine app_bytes slU8 ho (r3.rd.mono (view_sub _ _ _)) (by simp; omega) fun o4 p4 c4 w4 st4 ho => TSl.mk ?_
  replace S := S.go st4.step (by decide) (by decide); replace M := M.mono (st4.step.sub (by decide)); replace b1 := st4.step.sub (by decide) _ _ b1
  refine LoadC.ad (view_sub _ _ _) _ b1 g.g51 (TSl.mk ?_)
  have byte_len : ∀ n : Nat, n ≤ 255 → IntKind.wrap .u8 ((n : Nat) : Int) = ((byteAt n 0).toNat : Int) := fun n hn => by rw [wrap_u8 (by omega) (by omega), byteAt_toNat]; omega
  rw [byte_len _ (by omega)]
  refine AllocC.col c4 3 fun a5 c5 w5 st5 b5 _ => ?_
  replace S := S.go st5.step (by decide) (by decide); replace M := M.mono (st5.step.sub (by decide)); replace b1 := st5.step.sub (by decide) _ _ b1; replace ho := ho.mono (st5.step.sub (by decide))
  refine app_bytes slU8 ho (m := be m.hashes.length 1) ((RdS.block (xs := bvs (be m.hashes.length 1)) b5 rfl (Nat.le_refl _)).mono (view_sub _ _ _)) (by simp; omega) fun o6 p6 c6 w6 st6 ho => TSl.mk ?_
  replace S := S.go st6.step (by decide) (by decide); replace M := M.mono (st6.step.sub (by decide)); replace b1 := st6.step.sub (by decide) _ _ b1
  generalize hB1 : B ++ txt m.opB ++ txt m.ansB ++ be m.hashes.length 1 = B1 at ho
  have l1 : B1.length ≤ 3000 := by rw [← hB1]; simp; omega
  refine LoopSI.up m.hashes.length (fun i o l p w' => ∃ c', Fr w c' w' ∧ MsgV (view c' 0 w') m v va ua (.slice oh m.hashes.length ph) (.slice ob m.blocks.length pb) ∧ view c' 1 w' a1 = some (.cells (m.cells v va ua (.slice oh m.hashes.length ph) (.slice ob m.blocks.length pb)).toArray 38 (0, 0)) ∧ OwS (view c' 2 w') (.slice o l p) 5 1 (B1 ++ (m.hashes.take i).flatten).length (bvs (B1 ++ (m.hashes.take i).flatten))) ⟨c6, S, M, b1, by simpa using ho⟩ ?_
  clear S M b1 ho
  rintro i o l p w7 Bk hi ⟨c7, S, M, b1, ho⟩ back
  have hfl := flat_hash hok.2.2.2.2.2.2 i
  refine LoadC.ad (view_sub _ _ _) _ b1 g.g51 (TSl.mk ?_)
  refine BS.dec (fun hlt => ?_) (fun hge => ?_)
  · obtain ⟨s, hs⟩ := get_of_lt (l := m.hashes) (i := i) (by omega)
    refine LoadC.ad (view_sub _ _ _) _ b1 g.g51 (TSl.mk ?_)
    refine Req.bnd ⟨by omega, hlt⟩ ?_
    obtain ⟨es, ⟨rfl, hs32⟩, E⟩ := LsV.at (by omega) M.hs hs
    obtain ⟨bb, off, cs, T, fz, rfl, hb, hc⟩ := E.blk (by omega)
    refine TSome.mk ?_
    have := ho.len.1
    subst this
    rw [slBase_whole, addr_add, Int.toNat_natCast]
    refine app_bytes slU8 ho (m := s) (by rw [hs32]; exact RdS.at' (view_sub _ _ _ _ _ hb) (by simp [hs32]) hc) (by rw [List.length_append]; omega) fun o8 p8 c8 w8 st8 ho => TSl.mk ?_
    replace S := S.go st8.step (by decide) (by decide); replace M := M.mono (st8.step.sub (by decide)); replace b1 := st8.step.sub (by decide) _ _ b1
    rw [wrap_i64 (by omega) (by omega)]
    refine back _ _ _ _ (by omega) ⟨c8, S, M, b1, ?_⟩
    rw [List.take_add_one, hs, Option.toList_some, List.flatten_append, List.flatten_singleton, ← List.append_assoc]; exact ho
  · have : i = m.hashes.length := by omega
    subst this
    have := ho.len.1
    subst this
    clear back Bk hi hge
    rw [List.take_length] at ho hfl
    generalize hB2 : B1 ++ m.hashes.flatten = B2 at ho
    rw [List.take_length, hB2]
    have l2 : B2.length ≤ 4000 := by rw [← hB2, List.length_append]; omega
    refine LoadC.ad (view_sub _ _ _) _ b1 g.g52 (TSl.mk ?_)
    rw [byte_len _ (by omega)]
    refine AllocC.col c7 3 fun a8 c8 w8 st8 b8 _ => ?_
    replace S := S.go st8.step (by decide) (by decide); replace M := M.mono (st8.step.sub (by decide)); replace b1 := st8.step.sub (by decide) _ _ b1; replace ho := ho.mono (st8.step.sub (by decide))
    refine app_bytes slU8 ho (m := be m.blocks.length 1) ((RdS.block (xs := bvs (be m.blocks.length 1)) b8 rfl (Nat.le_refl _)).mono (view_sub _ _ _)) (by simp; omega) fun o9 p9 c9 w9 st9 ho => TSl.mk ?_
    replace S := S.go st9.step (by decide) (by decide); replace M := M.mono (st9.step.sub (by decide)); replace b1 := st9.step.sub (by decide) _ _ b1
    generalize hB3 : B2 ++ be m.blocks.length 1 = B3 at ho
    have l3 : B3.length ≤ 4001 := by rw [← hB3, List.length_append, be_length]; omega
    refine LoopSI.up m.blocks.length (fun i o l p w' => ∃ c', Fr w c' w' ∧ MsgV (view c' 0 w') m v va ua (.slice oh m.hashes.length ph) (.slice ob m.blocks.length pb) ∧ view c' 1 w' a1 = some (.cells (m.cells v va ua (.slice oh m.hashes.length ph) (.slice ob m.blocks.length pb)).toArray 38 (0, 0)) ∧ OwS (view c' 2 w') (.slice o l p) 5 1 (B3 ++ (m.blocks.take i).flatMap txt).length (bvs (B3 ++ (m.blocks.take i).flatMap txt))) ⟨c9, S, M, b1, by simpa using ho⟩ ?_
    clear S M b1 ho
    rintro i o l p w10 Bk hi ⟨c10, S, M, b1, ho⟩ back
    have hfl := flat_txt q9 i
    refine LoadC.ad (view_sub _ _ _) _ b1 g.g52 (TSl.mk ?_)
    have := ho.len.1
    subst this
    refine BS.dec (fun hlt => ?_) (fun hge => ?_)
    · obtain ⟨s, hs⟩ := get_of_lt (l := m.blocks) (i := i) (by omega)
      have hs470 := q9 s (List.mem_of_getElem? hs)
      refine LoadC.ad (view_sub _ _ _) _ b1 g.g52 (TSl.mk ?_)
      obtain ⟨es, ⟨vs, rfl, rs⟩, E⟩ := LsV.at (by omega) M.bs hs
      obtain ⟨os, ps, rfl⟩ := rs.form
      refine Req.bnd ⟨by omega, hlt⟩ (E.ld0 (view_sub _ _ _) rfl (TSl.mk ?_))
      refine text19_c c10 3 (rs.mono (view_sub _ _ _)) (by omega) fun v11 c11 w11 st11 r11 => ?_
      replace S := S.go st11 (by decide) (by decide); replace M := M.mono (st11.sub (by decide)); replace b1 := st11.sub (by decide) _ _ b1; replace ho := ho.mono (st11.sub (by decide))
      obtain ⟨o11, p11, rfl⟩ := r11.form
      refine TSl.mk ?_
      refine app_bytes slU8 ho (r11.rd.mono (view_sub _ _ _)) (by rw [List.length_append, txt_length]; omega) fun o12 p12 c12 w12 st12 ho => TSl.mk ?_
      replace S := S.go st12.step (by decide) (by decide); replace M := M.mono (st12.step.sub (by decide)); replace b1 := st12.step.sub (by decide) _ _ b1
      rw [wrap_i64 (by omega) (by omega)]
      refine back _ _ _ _ (by omega) ⟨c12, S, M, b1, ?_⟩
      rw [List.take_add_one, hs, Option.toList_some, List.flatMap_append, ← List.append_assoc]; simpa using ho
    · have : i = m.blocks.length := by omega
      subst this
      clear back Bk hi hge
      have hbody : B3 ++ (m.blocks.take m.blocks.length).flatMap txt = m.body := by
        rw [hB, ← hB3, ← hB2, ← hB1, List.take_length]; simp
      rw [hbody] at ho ⊢
      refine Ref_Sha_c c10 3 (ho.rd.mono (view_sub _ _ _)) (by omega) fun c13 w13 st13 => TAgg.mk ?_
      replace S := S.go st13 (by decide) (by decide); replace ho := ho.mono (st13.sub (by decide))
      refine AllocC.col c13 6 fun a14 c14 w14 st14 b14 _ => ?_
      replace S := S.go st14.step (by decide) (by decide); replace ho := ho.mono (st14.step.sub (by decide))
      refine RunU.var b14 (hash_size (shaB_length _)) (by simp) (bvs_all _) fun w15 st15 b15 => ?_
      replace S := S.go st15.step (by decide) (by decide); replace ho := ho.mono (st15.step.sub (by decide))
      rw [slBase_whole]
      have r15 := (RdS.block (xs := bvs (shaB m.body)) b15 (n := 32) (z := 1) (by simp) (Nat.le_refl _)).short (m := 8) (by omega)
      rw [Nat.mul_one, ← bvs_take] at r15
      have l8 : ((shaB m.body).take 8).length = 8 := by rw [List.length_take, shaB_length]; omega
      refine app_bytes slU8 ho (m := (shaB m.body).take 8) (by rw [l8]; exact r15.mono (view_sub _ _ _)) (by omega) fun o16 p16 c16 w16 st16 ho => TSl.mk ?_
      replace S := S.go st16.step (by decide) (by decide)
      have e : m.body ++ (shaB m.body).take 8 = m.enc := rfl
      rw [e] at ho ⊢
      have := h (.slice o16 m.enc.length p16) _ _ (S.leave c j)
      rw [wrM_yes hr] at this
      exact this (ho.mono (S.out c j (by omega)))

theorem Write19_K1 (c : Nat → Nat) (j : Nat) {w : World} {m : MsgR} {v va ua : Value} {oh ob : Option Addr} {ph pb : Nat} {a1 : Nat} {c' : Nat → Nat} {w' : World} {B : List UInt8} {o4 : Option Addr} {k4 : Nat} {R : Value → World → Prop} (hok : m.ok) (hr : m.right)
    (h : ∀ v c' w', Step c [] [j] w c' w' → OwS (view c' j w') v 5 1 (wrM m).1.length (bvs (wrM m).1) → R (.tuple #[v, .int .i64 (wrM m).2]) w')
    (S : Fr w c' w') (M : MsgV (view c' 0 w') m v va ua (.slice oh m.hashes.length ph) (.slice ob m.blocks.length pb)) (b1 : view c' 1 w' a1 = some (.cells (m.cells v va ua (.slice oh m.hashes.length ph) (.slice ob m.blocks.length pb)).toArray 38 (0, 0)))
    (ho : OwS (view c' 2 w') (.slice o4 B.length k4) 5 1 B.length (bvs B)) (hl : B.length ≤ 90)
    (hB : m.body = B ++ (be m.number 8 ++ (txt m.opB ++ (txt m.ansB ++ (be m.hashes.length 1 ++ (m.hashes.flatten ++ (be m.blocks.length 1 ++ m.blocks.flatMap txt))))))) :
    ref19_Write_K1 (⟨a1, 0, none⟩ : Addr) o4 B.length k4 w' R := by
  obtain ⟨ry1, ry2, ry3, ry4, ry5, ry6, ry7⟩ := right_bytes hr
  have h32 := hok.2.2.2.2.2.1
  have g := msg_gets (m := m) (v := v) (va := va) (ua := ua) (vh := .slice oh m.hashes.length ph) (vb := .slice ob m.blocks.length pb) h32
  unfold ref19_Write_K1
  rw [add_add, add_add]
  refine LoadC.ad (view_sub _ _ _) _ b1 g.g40 (TInt.mk ?_)
  refine eight_c c' 3 hok.2.2.2.2.1 fun v1 c1 w1 st1 r1 => ?_
  replace S := S.go st1 (by decide) (by decide); replace M := M.mono (st1.sub (by decide)); replace b1 := st1.sub (by decide) _ _ b1; replace ho := ho.mono (st1.sub (by decide))
  obtain ⟨o1, p1, rfl⟩ := r1.form
  refine TSl.mk ?_
  refine app_bytes slU8 ho (r1.rd.mono (view_sub _ _ _)) (by simp; omega) fun o2 p2 c2 w2 st2 ho => TSl.mk ?_
  replace S := S.go st2.step (by decide) (by decide); replace M := M.mono (st2.step.sub (by decide)); replace b1 := st2.step.sub (by decide) _ _ b1
  refine LoadA.part (k := 41) (view_sub _ _ _) b1 (es := m.op.cells v) rfl g.p41 ?_
  refine ref_Write_c c2 4 (RdS.mono M.op (view_sub _ _ _)) fun v3 c3 w3 st3 r3 => T2.mk ?_
  replace S := S.go st3 (by decide) (by decide); replace M := M.mono (st3.sub (by decide)); replace b1 := st3.sub (by decide) _ _ b1; replace ho := ho.mono (st3.sub (by decide))
  rw [ry1] at r3
  obtain ⟨o3, p3, rfl⟩ := r3.form
  refine TSl.mk (TInt.mk ?_)
  refine AllocC.col c3 5 fun a4 c4 w4 st4 b4 _ => ?_
  replace S := S.go st4.step (by decide) (by decide); replace M := M.mono (st4.step.sub (by decide)); replace b1 := st4.step.sub (by decide) _ _ b1; replace ho := ho.mono (st4.step.sub (by decide)); replace r3 := r3.mono (st4.step.sub (by decide))
  refine LoadC.ad (view_sub _ _ _) _ b1 rfl (TInt.mk ?_)
  have hB' : m.body = (B ++ be m.number 8) ++ (txt m.opB ++ (txt m.ansB ++ (be m.hashes.length 1 ++ (m.hashes.flatten ++ (be m.blocks.length 1 ++ m.blocks.flatMap txt))))) := by rw [hB]; simp
  refine BS.eq (fun k2 => ?_) (fun k2 => ?_)
  · refine LoadA.part (k := 47) (view_sub _ _ _) b1 (es := m.ans.cells va ua) rfl g.p47 ?_
    refine ref_WriteAnswer_c c4 5 (M.ans.mono (view_sub _ _ _)) fun v5 c5 w5 st5 r5 => T2.mk ?_
    replace S := S.go st5 (by decide) (by decide); replace M := M.mono (st5.sub (by decide)); replace b1 := st5.sub (by decide) _ _ b1; replace ho := ho.mono (st5.sub (by decide)); replace r3 := r3.mono (st5.sub (by decide))
    rw [ry2 k2] at r5
    obtain ⟨o5, p5, rfl⟩ := r5.form
    refine TSl.mk (TInt.mk ?_)
    exact Write19_K2 c j hok hr h S M b1 ho (by simp; omega) r3.rd r5.rd hB'
  · have r5 : OwS (view c4 5 w4) (.slice (some ⟨a4, 0, none⟩) 0 0) 5 1 ([] : List UInt8).length (bvs []) := OwS.some_bytes b4
    have e := ry3 k2
    have := Write19_K2 c j hok hr h S M b1 ho (by simp; omega) r3.rd (o7 := some ⟨a4, 0, none⟩) (p7 := 0) (by rw [e]; exact r5.rd) hB'
    rw [e] at this
    exact this

theorem Write19_c (c : Nat → Nat) (j : Nat) {w : World} {m : MsgR} {v va ua vh vb : Value} {R : Value → World → Prop} (hm : MsgV (wv w) m v va ua vh vb) (hok : m.ok) (hd : m.fair)
    (h : ∀ v c' w', Step c [] [j] w c' w' → OwS (view c' j w') v 5 1 (wrM m).1.length (bvs (wrM m).1) → R (.tuple #[v, .int .i64 (wrM m).2]) w') : CallV Tryd.prog 20 #[.agg (m.cells v va ua vh vb).toArray] w R := by
  have h32 := hok.2.2.2.2.2.1
  obtain ⟨oh, ph, rfl⟩ := LsV.form hm.hs
  obtain ⟨ob, pb, rfl⟩ := LsV.form hm.bs
  have M : MsgV (view (fun _ => 0) 0 w) m v va ua (.slice oh m.hashes.length ph) (.slice ob m.blocks.length pb) := by rw [view0]; exact hm
  have S := Fr.start w
  have g := msg_gets (m := m) (v := v) (va := va) (ua := ua) (vh := .slice oh m.hashes.length ph) (vb := .slice ob m.blocks.length pb) h32
  refine ref19_Write_vc ?_
  unfold ref19_Write_VC
  refine AllocC.col (fun _ => 0) 1 fun a1 c1 w1 st1 b1 _ => ?_
  replace S := S.go st1.step (by decide) (by decide); replace M := M.mono (st1.step.sub (by decide))
  refine LoadA.all (view_sub _ _ _) b1 g.sz ?_
  refine Right19_c c1 3 (M.mono (view_sub _ _ _)) hok hd fun b c2 w2 st2 hb => TBool.mk ?_
  replace S := S.go st2 (by decide) (by decide); replace M := M.mono (st2.sub (by decide)); replace b1 := st2.sub (by decide) _ _ b1
  refine BS.nb (fun hf => ?_) (fun ht => ?_)
  · refine AllocC.col c2 2 fun a3 c3 w3 st3 b3 _ => ?_
    replace S := S.go st3.step (by decide) (by decide)
    have := h (.slice (some ⟨a3, 0, none⟩) 0 0) _ _ (S.leave c j)
    rw [wrM_no (fun e => by rw [hb.2 e] at hf; simp at hf)] at this
    exact this ((OwS.some_bytes b3).mono (S.out c j (by omega)))
  · have hr := hb.1 ht
    obtain ⟨q1, q2, q3, q4, q5, q6, q7, q8, q9, q10⟩ := id hr
    obtain ⟨ry1, ry2, ry3, ry4, ry5, ry6, ry7⟩ := right_bytes hr
    refine LoadC.ad (view_sub _ _ _) _ b1 rfl (TInt.mk (LoadC.ad (view_sub _ _ _) _ b1 rfl (TInt.mk (LoadC.ad (view_sub _ _ _) _ b1 rfl (TInt.mk ?_)))))
    rw [Go.Proofs.YtdjgdcafmfheoaaDoor.byte_of (by omega) (by omega), Go.Proofs.YtdjgdcafmfheoaaDoor.byte_of (by omega) (by omega), Go.Proofs.YtdjgdcafmfheoaaDoor.byte_of (by omega) (by omega)]
    refine AllocC.col c2 2 fun a3 c3 w3 st3 b3 _ => ?_
    replace S := S.go st3.step (by decide) (by decide); replace M := M.mono (st3.step.sub (by decide)); replace b1 := st3.step.sub (by decide) _ _ b1
    have ho : OwS (view c3 2 w3) (.slice (some ⟨a3, 0, none⟩) 4 4) 5 1 (MsgR.bytes1 m).length (bvs (MsgR.bytes1 m)) := OwS.lit b3 _ rfl rfl (by simp [maxLen])
    refine DrewC.col c3 fun w4 st4 => ?_
    replace S := S.go st4 (by decide) (by decide); replace M := M.mono (st4.sub (by decide)); replace b1 := st4.sub (by decide) _ _ b1; replace ho := ho.mono (st4.sub (by decide))
    obtain ⟨n1, n2, n3, n4, n5, _⟩ := id hok
    refine LoadC.ad (view_sub _ _ _) _ b1 rfl (TInt.mk (LoadC.ad (view_sub _ _ _) _ b1 rfl (TInt.mk (LoadC.ad (view_sub _ _ _) _ b1 rfl (TInt.mk (LoadC.ad (view_sub _ _ _) _ b1 rfl (TInt.mk ?_)))))))
    have sc : ∀ {c' w'} (k : Nat) (u : Value), view c' 1 w' a1 = some (.cells (m.cells v va ua (.slice oh m.hashes.length ph) (.slice ob m.blocks.length pb)).toArray 38 (0, 0)) → (m.cells v va ua (.slice oh m.hashes.length ph) (.slice ob m.blocks.length pb)).toArray[k]? = some u → StableC w' ((⟨a1, 0, none⟩ : Addr).add k) u := fun k u b1 hu => StableC.ad (view_sub _ _ _) b1 hu
    refine eight_c c3 3 n1 fun v5 c5 w5 st5 r5 => ?_
    replace S := S.go st5 (by decide) (by decide); replace M := M.mono (st5.sub (by decide)); replace b1 := st5.sub (by decide) _ _ b1; replace ho := ho.mono (st5.sub (by decide))
    obtain ⟨o5, p5, rfl⟩ := r5.form
    refine TSl.mk ⟨sc 4 _ b1 rfl, sc 5 _ b1 rfl, sc 6 _ b1 rfl, ?_⟩
    refine app_bytes slU8 ho (r5.rd.mono (view_sub _ _ _)) (by simp [MsgR.bytes1]) fun o6 p6 c6 w6 st6 ho => TSl.mk ⟨?_, ?_, ?_, ?_⟩
    · exact sc 4 _ (st6.step.sub (by decide) _ _ b1) rfl
    · exact sc 5 _ (st6.step.sub (by decide) _ _ b1) rfl
    · exact sc 6 _ (st6.step.sub (by decide) _ _ b1) rfl
    replace S := S.go st6.step (by decide) (by decide); replace M := M.mono (st6.step.sub (by decide)); replace b1 := st6.step.sub (by decide) _ _ b1
    refine eight_c c6 3 n2 fun v7 c7 w7 st7 r7 => ?_
    replace S := S.go st7 (by decide) (by decide); replace M := M.mono (st7.sub (by decide)); replace b1 := st7.sub (by decide) _ _ b1; replace ho := ho.mono (st7.sub (by decide))
    obtain ⟨o7, p7, rfl⟩ := r7.form
    refine TSl.mk ⟨sc 5 _ b1 rfl, sc 6 _ b1 rfl, ?_⟩
    refine app_bytes slU8 ho (r7.rd.mono (view_sub _ _ _)) (by simp [MsgR.bytes1]) fun o8 p8 c8 w8 st8 ho => TSl.mk ⟨?_, ?_, ?_⟩
    · exact sc 5 _ (st8.step.sub (by decide) _ _ b1) rfl
    · exact sc 6 _ (st8.step.sub (by decide) _ _ b1) rfl
    replace S := S.go st8.step (by decide) (by decide); replace M := M.mono (st8.step.sub (by decide)); replace b1 := st8.step.sub (by decide) _ _ b1
    refine eight_c c8 3 n3 fun v9 c9 w9 st9 r9 => ?_
    replace S := S.go st9 (by decide) (by decide); replace M := M.mono (st9.sub (by decide)); replace b1 := st9.sub (by decide) _ _ b1; replace ho := ho.mono (st9.sub (by decide))
    obtain ⟨o9, p9, rfl⟩ := r9.form
    refine TSl.mk ⟨sc 6 _ b1 rfl, ?_⟩
    refine app_bytes slU8 ho (r9.rd.mono (view_sub _ _ _)) (by simp [MsgR.bytes1]) fun o10 p10 c10 w10 st10 ho => TSl.mk ⟨?_, ?_⟩
    · exact sc 6 _ (st10.step.sub (by decide) _ _ b1) rfl
    replace S := S.go st10.step (by decide) (by decide); replace M := M.mono (st10.step.sub (by decide)); replace b1 := st10.step.sub (by decide) _ _ b1
    refine eight_c c10 3 n4 fun v11 c11 w11 st11 r11 => ?_
    replace S := S.go st11 (by decide) (by decide); replace M := M.mono (st11.sub (by decide)); replace b1 := st11.sub (by decide) _ _ b1; replace ho := ho.mono (st11.sub (by decide))
    obtain ⟨o11, p11, rfl⟩ := r11.form
    refine TSl.mk ?_
    refine app_bytes slU8 ho (r11.rd.mono (view_sub _ _ _)) (by simp [MsgR.bytes1]) fun o12 p12 c12 w12 st12 ho => TSl.mk ?_
    replace S := S.go st12.step (by decide) (by decide); replace M := M.mono (st12.step.sub (by decide)); replace b1 := st12.step.sub (by decide) _ _ b1
    generalize hB1 : MsgR.bytes1 m ++ be m.view 8 ++ be m.normal 8 ++ be m.gen 8 ++ be m.commit 8 = B1 at ho
    have l1 : B1.length = 36 := by rw [← hB1]; simp [MsgR.bytes1]
    refine DrewC.col c12 fun w13 st13 => ?_
    replace S := S.go st13 (by decide) (by decide); replace M := M.mono (st13.sub (by decide)); replace b1 := st13.sub (by decide) _ _ b1; replace ho := ho.mono (st13.sub (by decide))
    rw [add_add]
    refine LoadC.ad (view_sub _ _ _) _ b1 g.g39 (TInt.mk ?_)
    rw [Go.Proofs.YtdjgdcafmfheoaaDoor.byte_of (by omega) (by omega)]
    have hd7 : ∀ {c' w'}, view c' 1 w' a1 = some (.cells (m.cells v va ua (.slice oh m.hashes.length ph) (.slice ob m.blocks.length pb)).toArray 38 (0, 0)) → RdS (wv w') (.slice (slBase (some ((⟨a1, 0, none⟩ : Addr).add 7)) 32 0 1) 32 32) 1 m.head.length (bvs m.head) := fun b1 => by
      rw [h32]; exact (RdS.arr b1 (by simp [h32]) g.p7).mono (view_sub _ _ _)
    have hB : m.body = (B1 ++ m.head ++ be m.client.toNat 1) ++ (be m.number 8 ++ (txt m.opB ++ (txt m.ansB ++ (be m.hashes.length 1 ++ (m.hashes.flatten ++ (be m.blocks.length 1 ++ m.blocks.flatMap txt)))))) := by
      rw [← hB1]; unfold MsgR.body MsgR.bytes1; simp
    refine ⟨?_, ?_⟩
    · refine app_bytes slU8 ho (hd7 b1) (by omega) fun o14 p14 c14 w14 st14 ho => TSl.mk ⟨?_, ?_⟩
      · exact sc 39 _ (st14.step.sub (by decide) _ _ b1) g.g39
      replace S := S.go st14.step (by decide) (by decide); replace M := M.mono (st14.step.sub (by decide)); replace b1 := st14.step.sub (by decide) _ _ b1
      refine AllocC.col c14 3 fun a15 c15 w15 st15 b15 _ => ?_
      replace S := S.go st15.step (by decide) (by decide); replace M := M.mono (st15.step.sub (by decide)); replace b1 := st15.step.sub (by decide) _ _ b1; replace ho := ho.mono (st15.step.sub (by decide))
      refine app_bytes slU8 ho (m := be m.client.toNat 1) ((RdS.block (xs := bvs (be m.client.toNat 1)) b15 rfl (Nat.le_refl _)).mono (view_sub _ _ _)) (by simp; omega) fun o16 p16 c16 w16 st16 ho => TSl.mk ?_
      replace S := S.go st16.step (by decide) (by decide); replace M := M.mono (st16.step.sub (by decide)); replace b1 := st16.step.sub (by decide) _ _ b1
      exact Write19_K1 c j hok hr h S M b1 ho (by simp; omega) hB
    · refine AllocC.col c12 3 fun a15 c15 w15 st15 b15 _ => ?_
      replace S := S.go st15.step (by decide) (by decide); replace M := M.mono (st15.step.sub (by decide)); replace b1 := st15.step.sub (by decide) _ _ b1; replace ho := ho.mono (st15.step.sub (by decide))
      refine app_bytes slU8 ho (hd7 b1) (by omega) fun o14 p14 c14 w14 st14 ho => TSl.mk ⟨?_, ?_⟩
      · exact sc 39 _ (st14.step.sub (by decide) _ _ b1) g.g39
      replace S := S.go st14.step (by decide) (by decide); replace M := M.mono (st14.step.sub (by decide)); replace b1 := st14.step.sub (by decide) _ _ b1; replace b15 := st14.step.sub (by decide) _ _ b15
      refine app_bytes slU8 ho (m := be m.client.toNat 1) ((RdS.block (xs := bvs (be m.client.toNat 1)) b15 rfl (Nat.le_refl _)).mono (view_sub _ _ _)) (by simp; omega) fun o16 p16 c16 w16 st16 ho => TSl.mk ?_
      replace S := S.go st16.step (by decide) (by decide); replace M := M.mono (st16.step.sub (by decide)); replace b1 := st16.step.sub (by decide) _ _ b1
      exact Write19_K1 c j hok hr h S M b1 ho (by simp; omega) hB
end Go.Proofs.YtdjgdcafmfheoaaDoor
set_option linter.unusedVariables false
set_option linter.unusedSimpArgs false
namespace Go.Vc
open Go
def dB (l : List UInt8) : List UInt8 := l.take (l.length - 8)
theorem dB_len (l : List UInt8) : (dB l).length = l.length - 8 := by unfold dB; rw [List.length_take]; omega
def eHb (l : List UInt8) : List UInt8 := if 32 ≤ l.length then l.take 32 else []
theorem eHb_eq (l : List UInt8) : eHb l ++ List.replicate (32 - (eHb l).length) 0 = (eH l).1 ∧ (eHb l).length ≤ 32 := by
  unfold eHb eH
  by_cases h : 32 ≤ l.length
  · rw [if_pos h, if_pos h]
    have : (l.take 32).length = 32 := by rw [List.length_take]; omega
    rw [this]; simp
  · rw [if_neg h, if_neg h]; simp
end Go.Vc
namespace Go.Proofs.YtdjgdcafmfheoaaDoor
open Go.Vc
attribute [local irreducible] TInt TBool TStr TPtr TSl TAgg TMap TChan T2 T3 T4 BS Req TSome TCell TByte LoadC LoadA StoreC AllocC RunV RunU CallV ExtV EqA StableC StableA StableV TCells ReadV
attribute [local irreducible] eU eT eE
attribute [local irreducible] DrewC eH many rdM wrM
theorem placesMsg : placesB Tryd.prog 38 = some (MsgR.zero.cells nilV nilV nilV nilV nilV, [(0, 1), (1, 1), (2, 1), (3, 1), (4, 1), (5, 1), (6, 1), (7, 32), (39, 8), (47, 4), (51, 1), (52, 1)]) := by kernel_rfl
theorem fill_one {place : Nat → Option (Nat × Nat)} {cells : List Value} {i : Nat} {v : Value} {rest : List (Nat × Value)} {off : Nat} (hp : place i = some (off, 1)) (hv : v.cells = #[v]) (hl : off < cells.length) :
    Instr.fill place cells.toArray ((i, v) :: rest) = Instr.fill place (cells.set off v).toArray rest := by
  rw [fill_cons (off := off) (vs := [v]) hp hv (show off + 1 ≤ _ by omega)]
  congr 2
  rw [List.set_eq_take_append_cons_drop, if_pos hl]; simp
theorem built_msg (k f t : Int) (a b c d : Nat) (g : List UInt8) (hg : g.length = 32) :
    buildCells Tryd.prog 38 [(0, .int .i64 k), (1, .int .i64 f), (2, .int .i64 t), (3, .int .u64 (a : Int)), (4, .int .u64 (b : Int)), (5, .int .u64 (c : Int)), (6, .int .u64 (d : Int)), (7, .agg (bvs g).toArray)] = some (mcl k f t [a, b, c, d] g 0 0 zopL zanL nilV nilV).toArray := by
  unfold buildCells
  rw [built_of placesMsg]
  have e : MsgR.zero.cells nilV nilV nilV nilV nilV = mcl 0 0 0 [0, 0, 0, 0] (List.replicate 32 0) 0 0 zopL zanL nilV nilV := mcl_msg MsgR.zero nilV nilV nilV nilV nilV
  have z32 : (List.replicate 32 (0 : UInt8)).length = 32 := by simp
  have ln : ∀ (k f t : Int) (a b c d : Nat), (mcl k f t [a, b, c, d] (List.replicate 32 0) 0 0 zopL zanL nilV nilV).length = 53 := fun k f t a b c d => mcl_len rfl z32 rfl rfl
  rw [e]
  rw [fill_one (off := 0) rfl rfl (by rw [ln]; omega), show (mcl 0 0 0 [0, 0, 0, 0] (List.replicate 32 0) 0 0 zopL zanL nilV nilV).set 0 (.int .i64 k) = mcl k 0 0 [0, 0, 0, 0] (List.replicate 32 0) 0 0 zopL zanL nilV nilV from rfl]
  rw [fill_one (off := 1) rfl rfl (by rw [ln]; omega), show (mcl k 0 0 [0, 0, 0, 0] (List.replicate 32 0) 0 0 zopL zanL nilV nilV).set 1 (.int .i64 f) = mcl k f 0 [0, 0, 0, 0] (List.replicate 32 0) 0 0 zopL zanL nilV nilV from rfl]
  rw [fill_one (off := 2) rfl rfl (by rw [ln]; omega), show (mcl k f 0 [0, 0, 0, 0] (List.replicate 32 0) 0 0 zopL zanL nilV nilV).set 2 (.int .i64 t) = mcl k f t [0, 0, 0, 0] (List.replicate 32 0) 0 0 zopL zanL nilV nilV from rfl]
  rw [fill_one (off := 3) rfl rfl (by rw [ln]; omega), show (mcl k f t [0, 0, 0, 0] (List.replicate 32 0) 0 0 zopL zanL nilV nilV).set 3 (.int .u64 (a : Int)) = mcl k f t [a, 0, 0, 0] (List.replicate 32 0) 0 0 zopL zanL nilV nilV from rfl]
  rw [fill_one (off := 4) rfl rfl (by rw [ln]; omega), show (mcl k f t [a, 0, 0, 0] (List.replicate 32 0) 0 0 zopL zanL nilV nilV).set 4 (.int .u64 (b : Int)) = mcl k f t [a, b, 0, 0] (List.replicate 32 0) 0 0 zopL zanL nilV nilV from rfl]
  rw [fill_one (off := 5) rfl rfl (by rw [ln]; omega), show (mcl k f t [a, b, 0, 0] (List.replicate 32 0) 0 0 zopL zanL nilV nilV).set 5 (.int .u64 (c : Int)) = mcl k f t [a, b, c, 0] (List.replicate 32 0) 0 0 zopL zanL nilV nilV from rfl]
  rw [fill_one (off := 6) rfl rfl (by rw [ln]; omega), show (mcl k f t [a, b, c, 0] (List.replicate 32 0) 0 0 zopL zanL nilV nilV).set 6 (.int .u64 (d : Int)) = mcl k f t [a, b, c, d] (List.replicate 32 0) 0 0 zopL zanL nilV nilV from rfl]
  rw [fill_cons (off := 7) (vs := bvs g) (by rw [bvs_length, hg]; rfl) rfl (by rw [bvs_length, hg, ln]; omega), mcl_head rfl z32 hg]
  rfl
theorem REye_H {c : Nat → Nat} {i q : Nat} (j : Nat) {w : World} {a : Addr} {vB : Value} {D l : List UInt8} {R : Value → World → Prop}
    (hij : i ≠ j) (hq : q ≠ i) (hp : REye (view c i w) a vB D l) (hB : RdS (view c q w) vB 1 D.length (bvs D)) (hD : D.length ≤ 1099511627776)
    (h : ∀ v c' w', Step c [i] [j] w c' w' → REye (view c' i w') a vB D (eH l).2.1 → OwS (view c' j w') v 5 1 (eHb l).length (bvs (eHb l)) → R (.tuple #[v, .int .i64 (eH l).2.2]) w') :
    CallV Tryd.prog 71 #[.pointer (some a), .int .i64 32] w R := by
  obtain ⟨p, hr, hpD, rfl⟩ := hp
  have hl : (D.drop p).length = D.length - p := by simp
  refine ref_Eye_Raw j hij hq hr hB hpD hD (fun hn => by omega) (fun _ hs v c1 w1 st ho => ?_) (fun _ hs v c1 w1 st he ho => ?_)
  · have := h v c1 w1 (st.weak (by simp) (by simp))
    rw [eH_no (by omega), show eHb (D.drop p) = [] by unfold eHb; rw [if_neg (by omega)]] at this
    exact this ⟨p, hr.mono (st.sub (by simp)), hpD, rfl⟩ ho
  · have := h v c1 w1 st
    have e : eHb (D.drop p) = (D.drop p).take 32 := by unfold eHb; rw [if_pos (by omega)]
    rw [eH_yes (by omega), e] at this
    have l32 : ((D.drop p).take 32).length = 32 := by rw [List.length_take]; omega
    refine this ⟨p + 32, he, by omega, by rw [List.drop_drop]⟩ ?_
    rw [l32]; exact ho
/-- what stays put while the document reads a message -/
structure RfI (w : World) (o0 : Option Addr) (p0 : Nat) (l : List UInt8) (a2 a4 : Nat) (vB : Value) (c' : Nat → Nat) (w' : World) : Prop where
  S : Fr w c' w'
  D : RdS (view c' 0 w') (.slice o0 l.length p0) 1 l.length (bvs l)
  B : RdS (view c' 0 w') vB 1 (dB l).length (bvs (dB l))
  b2 : view c' 3 w' a2 = some (.cells (MsgR.zero.cells nilV nilV nilV nilV nilV).toArray 38 (0, 0))
  b4 : view c' 1 w' a4 = some (.cells (MsgR.zero.cells nilV nilV nilV nilV nilV).toArray 38 (0, 0))
section
variable {w : World} {o0 : Option Addr} {p0 : Nat} {l : List UInt8} {a2 a4 : Nat} {vB : Value} {c' : Nat → Nat} {w' : World}
theorem RfI.go (H : RfI w o0 p0 l a2 a4 vB c' w') {c'' : Nat → Nat} {w'' : World} {W N : List Nat} (st : Step c' W N w' c'' w'') (hW : ∀ x ∈ W, x ∈ [2, 4, 5, 6, 7, 8, 9]) (hN : ∀ x ∈ N, x ∈ [0, 1, 2, 3, 4, 5, 6, 7, 8, 9]) : RfI w o0 p0 l a2 a4 vB c'' w'' := by
  have h0 : 0 ∉ W := fun hx => by have := hW 0 hx; simp at this
  have h1 : 1 ∉ W := fun hx => by have := hW 1 hx; simp at this
  have h3 : 3 ∉ W := fun hx => by have := hW 3 hx; simp at this
  refine ⟨H.S.go st (fun x hx => ?_) hN, H.D.mono (st.sub h0), H.B.mono (st.sub h0), st.sub h3 _ _ H.b2, st.sub h1 _ _ H.b4⟩
  have := hW x hx; simp at this ⊢; omega
end
def RdOk (c : Nat → Nat) (j : Nat) (w : World) (l : List UInt8) (R : Value → World → Prop) : Prop :=
  ∀ v va ua vh vb c' w', Step c [] [j] w c' w' → MsgV (view c' j w') (rdM l).1 v va ua vh vb → R (.tuple #[.agg ((rdM l).1.cells v va ua vh vb).toArray, .int .i64 (rdM l).2]) w'
section
variable {w : World} {o0 : Option Addr} {p0 : Nat} {l : List UInt8} {a2 a4 a6 : Nat} {vB : Value} {c' : Nat → Nat} {w' : World} {R : Value → World → Prop} {c : Nat → Nat} {j : Nat}
theorem Rf_no (h : RdOk c j w l R) (H : RfI w o0 p0 l a2 a4 vB c' w') (hn : ¬ okD l) :
    LoadA w' (⟨a4, 0, none⟩ : Addr) 53 fun cs33 => RunU Tryd.prog (storeVar 38 (⟨a2, 0, none⟩ : Addr) (.agg cs33)) w' fun w1 => LoadA w1 (⟨a2, 0, none⟩ : Addr) 53 fun csR => R (.tuple #[.agg csR, .int .i64 (22 : Int)]) w1 := by
  obtain ⟨S, D, B, b2, b4⟩ := H
  refine LoadA.all (view_sub _ _ _) b4 rfl ?_
  refine RunU.var b2 (by kernel_rfl) rfl (by kernel_rfl) fun w16 st16 b2 => ?_
  replace S := S.go st16.step (by decide) (by decide)
  refine LoadA.all (view_sub _ _ _) b2 rfl ?_
  have := h nilV nilV nilV nilV nilV _ _ (S.leave c j)
  rw [rdM_no (fun hh => hn ((okD_iff l).2 hh))] at this
  exact this ⟨RdS.none_bytes .., ⟨RdS.none_bytes .., RdS.none_strs ..⟩, LsV.nil .., LsV.nil ..⟩
variable {ax : Addr} {rest : List UInt8} {n : Int}
theorem Rf_F11 (h : RdOk c j w l R) (H : RfI w o0 p0 l a2 a4 vB c' w') (hn : ¬ okD l) (h0 : 0 < n) :
    ref19_Read_K11 (⟨a2, 0, none⟩ : Addr) (⟨a4, 0, none⟩ : Addr) (⟨a6, 0, none⟩ : Addr) ax n w' R := by
  unfold ref19_Read_K11
  exact BS.ne (fun _ => Rf_no h H hn) (fun e => by omega)
theorem Rf_F9 (h : RdOk c j w l R) (hl : l.length ≤ 1000000) (H : RfI w o0 p0 l a2 a4 vB c' w') (he : REye (view c' 2 w') ax vB (dB l) rest) (hn : ¬ okD l) (h0 : 0 < n) (h1 : n ≤ 1000) :
    ref19_Read_K9 (⟨a2, 0, none⟩ : Addr) (⟨a4, 0, none⟩ : Addr) (⟨a6, 0, none⟩ : Addr) ax n w' R := by
  unfold ref19_Read_K9
  have hb := dB_len l
  refine REye_U 5 (by omega) (show (0 : Nat) ≠ 2 by omega) he H.B (by omega) 1 rfl (by omega) (by omega) fun c1 w1 st1 he => T2.mk (TInt.mk (TInt.mk ?_))
  replace H := H.go st1 (by decide) (by decide)
  have hc := eU_bd 1 rest
  rw [wrap_i64 (by omega) (by omega)]
  refine LoopNI.up 0 (fun i x w' => w1 = w' ∧ 0 < x) ⟨rfl, by omega⟩ ?_
  rintro i x w2 B hi ⟨rfl, hx⟩ back
  refine BS.dec (fun _ => ?_) (fun _ => Rf_F11 h H hn hx)
  unfold ref19_Read_K10
  refine BS.eq (fun e => by omega) (fun _ => Rf_F11 h H hn hx)
theorem Rf_F7 (h : RdOk c j w l R) (hl : l.length ≤ 1000000) (H : RfI w o0 p0 l a2 a4 vB c' w') (he : REye (view c' 2 w') ax vB (dB l) rest) (hn : ¬ okD l) (h0 : 0 < n) (h1 : n ≤ 500) :
    ref19_Read_K7 (⟨a2, 0, none⟩ : Addr) (⟨a4, 0, none⟩ : Addr) (⟨a6, 0, none⟩ : Addr) ax n w' R := by
  unfold ref19_Read_K7
  have hb := dB_len l
  refine REye_U 5 (by omega) (show (0 : Nat) ≠ 2 by omega) he H.B (by omega) 1 rfl (by omega) (by omega) fun c1 w1 st1 he => T2.mk (TInt.mk (TInt.mk ?_))
  replace H := H.go st1 (by decide) (by decide)
  have hc := eU_bd 1 rest
  rw [wrap_i64 (by omega) (by omega)]
  refine LoopNI.up 0 (fun i x w' => w1 = w' ∧ 0 < x ∧ x ≤ 1000) ⟨rfl, by omega, by omega⟩ ?_
  rintro i x w2 B hi ⟨rfl, hx, hx2⟩ back
  refine BS.dec (fun _ => ?_) (fun _ => Rf_F9 h hl H he hn hx hx2)
  unfold ref19_Read_K8
  refine BS.eq (fun e => by omega) (fun _ => Rf_F9 h hl H he hn hx hx2)
theorem Rf_F4 (h : RdOk c j w l R) (hl : l.length ≤ 1000000) (H : RfI w o0 p0 l a2 a4 vB c' w') (he : REye (view c' 2 w') ax vB (dB l) rest) (hn : ¬ okD l) (h0 : 0 < n) (h1 : n ≤ 500) {o : Option Addr} {k k' : Nat} :
    ref19_Read_K4 (⟨a2, 0, none⟩ : Addr) (⟨a4, 0, none⟩ : Addr) (⟨a6, 0, none⟩ : Addr) ax n o k k' w' R := by
  unfold ref19_Read_K4
  exact BS.eq (fun e => by omega) (fun _ => Rf_F7 h hl H he hn h0 h1)
end
end Go.Proofs.YtdjgdcafmfheoaaDoor
set_option linter.unusedVariables false
set_option linter.unusedSimpArgs false
namespace Go.Proofs.YtdjgdcafmfheoaaDoor
open Go.Vc
attribute [local irreducible] TInt TBool TStr TPtr TSl TAgg TMap TChan T2 T3 T4 BS Req TSome TCell TByte LoadC LoadA StoreC AllocC RunV RunU CallV ExtV EqA StableC StableA StableV TCells ReadV
attribute [local irreducible] eU eT eE
attribute [local irreducible] DrewC eH many rdM wrM eHb

set_option maxHeartbeats 1000000
section
variable {w : World} {o0 : Option Addr} {p0 : Nat} {l : List UInt8} {a2 a4 a6 : Nat} {vB : Value} {c' : Nat → Nat} {w' : World} {R : Value → World → Prop} {c : Nat → Nat} {j : Nat}
variable {ax : Addr} {vo xo yo oh ob : Option Addr} {vp xp yp ph pb : Nat}
theorem Rf_G11 (h : RdOk c j w l R) (hl : l.length ≤ 1000000) (H : RfI w o0 p0 l a2 a4 vB c' w') (he : REye (view c' 2 w') ax vB (dB l) (qB (dB l)).2.1)
    (b6 : view c' 4 w' a6 = some (.cells (mcl ((qk (dB l)).1 : Nat) ((qf (dB l)).1 : Nat) ((qt (dB l)).1 : Nat) (qn (dB l)).1 (qh (dB l)).1 ((qc (dB l)).1 : Nat) (qm (dB l)).1 ((rdOp (qo (dB l)).1).1.cells (.slice vo (rdOp (qo (dB l)).1).1.data.length vp)) ((rdAns (qa (dB l)).1).1.cells (.slice xo (rdAns (qa (dB l)).1).1.data.length xp) (.slice yo (rdAns (qa (dB l)).1).1.names.length yp)) (.slice oh (qH (dB l)).1.length ph) (.slice ob (qB (dB l)).1.length pb)).toArray 38 (0, 0)))
    (r6 : RdS (view c' 6 w') (.slice vo (rdOp (qo (dB l)).1).1.data.length vp) 1 (rdOp (qo (dB l)).1).1.data.length (bvs (rdOp (qo (dB l)).1).1.data)) (d6 : AnsV (view c' 6 w') (rdAns (qa (dB l)).1).1 (.slice xo (rdAns (qa (dB l)).1).1.data.length xp) (.slice yo (rdAns (qa (dB l)).1).1.names.length yp)) (k8 : LsO HashP 25 32 (view c' 8 w') (view c' 5 w') (.slice oh (qH (dB l)).1.length ph) (qH (dB l)).1)
    (t9 : LsO BytesP 26 1 (view c' 9 w') (view c' 7 w') (.slice ob (qB (dB l)).1.length pb) (qB (dB l)).1)
    (hbl : (qH (dB l)).1.length ≤ 255 ∧ (qB (dB l)).1.length ≤ 255)
    (hall : (qB (dB l)).2.1 = [] → (decM (dB l)).right → okD l) (hnot : ¬ ((qB (dB l)).2.1 = [] ∧ (decM (dB l)).right) → ¬ okD l) :
    ref19_Read_K11 (⟨a2, 0, none⟩ : Addr) (⟨a4, 0, none⟩ : Addr) (⟨a6, 0, none⟩ : Addr) ax 0 w' R := by
  have hok := decM_ok (dB l); have h32 : (qh (dB l)).1.length = 32 := hok.2.2.2.2.2.1; have h4 : (qn (dB l)).1.length = 4 := many_length _ _ _; have hb := dB_len l
  unfold ref19_Read_K11
  refine BS.ne (fun e => absurd rfl e) (fun _ => ?_)
  refine REye_E he H.B fun w1 st1 => TInt.mk ?_
  replace H := H.go st1 (by decide) (by decide); replace b6 := st1.sub (by decide) _ _ b6; replace r6 := r6.mono (st1.sub (by decide)); replace d6 := d6.mono (st1.sub (by decide)); replace k8 := k8.mono' (fun _ _ hp => hp) (st1.sub (by decide)); replace t9 := t9.mono' (fun _ _ hp => hp.mono (st1.sub (by decide))) (st1.sub (by decide))
  refine BS.ne (fun hne => ?_) (fun he0 => ?_)
  · unfold ref19_Read_K12
    exact BS.yes rfl (Rf_no h H (hnot fun hh => hne (by rw [hh.1, eE_nil])))
  have hnil := eE_ok he0
  have e4 : (qn (dB l)).1 = [(decM (dB l)).view, (decM (dB l)).normal, (decM (dB l)).gen, (decM (dB l)).commit] := four_of h4
  have hcells : mcl ((qk (dB l)).1 : Nat) ((qf (dB l)).1 : Nat) ((qt (dB l)).1 : Nat) (qn (dB l)).1 (qh (dB l)).1 ((qc (dB l)).1 : Nat) (qm (dB l)).1 ((rdOp (qo (dB l)).1).1.cells (.slice vo (rdOp (qo (dB l)).1).1.data.length vp)) ((rdAns (qa (dB l)).1).1.cells (.slice xo (rdAns (qa (dB l)).1).1.data.length xp) (.slice yo (rdAns (qa (dB l)).1).1.names.length yp)) (.slice oh (qH (dB l)).1.length ph) (.slice ob (qB (dB l)).1.length pb) = (decM (dB l)).cells (.slice vo (rdOp (qo (dB l)).1).1.data.length vp) (.slice xo (rdAns (qa (dB l)).1).1.data.length xp) (.slice yo (rdAns (qa (dB l)).1).1.names.length yp) (.slice oh (qH (dB l)).1.length ph) (.slice ob (qB (dB l)).1.length pb) := by
    rw [mcl_msg, decM_op, decM_ans, ← e4]; rfl
  rw [hcells] at b6
  have M1 : MsgV (views c' [6, 7, 8, 9] w1) (decM (dB l)) (.slice vo (rdOp (qo (dB l)).1).1.data.length vp) (.slice xo (rdAns (qa (dB l)).1).1.data.length xp) (.slice yo (rdAns (qa (dB l)).1).1.names.length yp) (.slice oh (qH (dB l)).1.length ph) (.slice ob (qB (dB l)).1.length pb) := by
    refine ⟨?_, ?_, ?_, ?_⟩
    · unfold OpRV
      rw [decM_op]; exact r6.mono (view_views (by decide))
    · rw [decM_ans]; exact d6.mono (view_views (by decide))
    · exact LsO.rd k8 (fun _ _ hp => hp) (view_views (by decide))
    · exact LsO.rd t9 (fun _ _ hp => hp.mono (view_views (by decide))) (view_views (by decide))
  have g := msg_gets (m := decM (dB l)) (v := .slice vo (rdOp (qo (dB l)).1).1.data.length vp) (va := .slice xo (rdAns (qa (dB l)).1).1.data.length xp) (ua := .slice yo (rdAns (qa (dB l)).1).1.names.length yp) (vh := .slice oh (qH (dB l)).1.length ph) (vb := .slice ob (qB (dB l)).1.length pb) h32
  refine LoadA.all (view_sub _ _ _) b6 g.sz ?_
  refine Right19_c c' 5 (M1.mono (views_sub _ _ _)) hok (decM_fair _) fun b c2 w2 st2 hb2 => TBool.mk ?_
  replace H := H.go st2 (by decide) (by decide); replace b6 := st2.sub (by decide) _ _ b6; replace M1 := M1.mono (st2.subs (by decide))
  unfold ref19_Read_K12
  refine BS.nb (fun hf => ?_) (fun ht => ?_)
  · exact Rf_no h H (hnot fun hh => by rw [hb2.2 hh.2] at hf; simp at hf)
  · have hok1 := hall hnil (hb2.1 ht)
    have hsame := okD_same hok1
    have hi := (okD_iff l).1 hok1
    refine LoadA.all (view_sub _ _ _) b6 g.sz ?_
    obtain ⟨S, D, B, b2, b4⟩ := H
    have hone : ((decM (dB l)).cells (.slice vo (rdOp (qo (dB l)).1).1.data.length vp) (.slice xo (rdAns (qa (dB l)).1).1.data.length xp) (.slice yo (rdAns (qa (dB l)).1).1.names.length yp) (.slice oh (qH (dB l)).1.length ph) (.slice ob (qB (dB l)).1.length pb)).toArray.all (·.oneCell') = true := by
      rw [Array.all_eq_true']
      intro u hu
      rw [mcl_msg] at hu
      exact mcl_one (op_one M1.op).2 (ans_one M1.ans.d M1.ans.n).2 rfl rfl u (by simpa using hu)
    refine RunU.var b2 (by rw [g.sz]; kernel_rfl) (by rw [g.sz]; rfl) hone fun w16 st16 b2 => ?_
    replace S := S.go st16.step (by decide) (by decide); replace M1 := M1.mono (st16.step.subs (by decide))
    refine LoadA.all (view_sub _ _ _) b2 g.sz ?_
    have := h (.slice vo (rdOp (qo (dB l)).1).1.data.length vp) (.slice xo (rdAns (qa (dB l)).1).1.data.length xp) (.slice yo (rdAns (qa (dB l)).1).1.names.length yp) (.slice oh (qH (dB l)).1.length ph) (.slice ob (qB (dB l)).1.length pb) _ _ (S.leave c j)
    rw [rdM_yes hi] at this
    have hsame : decM (dB l) = decM l := hsame
    rw [← hsame] at this
    exact this (M1.mono (S.outs c j (by decide)))

theorem Rf_G9 (h : RdOk c j w l R) (hl : l.length ≤ 1000000) (H : RfI w o0 p0 l a2 a4 vB c' w') (he : REye (view c' 2 w') ax vB (dB l) (qH (dB l)).2.1)
    (b6 : view c' 4 w' a6 = some (.cells (mcl ((qk (dB l)).1 : Nat) ((qf (dB l)).1 : Nat) ((qt (dB l)).1 : Nat) (qn (dB l)).1 (qh (dB l)).1 ((qc (dB l)).1 : Nat) (qm (dB l)).1 ((rdOp (qo (dB l)).1).1.cells (.slice vo (rdOp (qo (dB l)).1).1.data.length vp)) ((rdAns (qa (dB l)).1).1.cells (.slice xo (rdAns (qa (dB l)).1).1.data.length xp) (.slice yo (rdAns (qa (dB l)).1).1.names.length yp)) (.slice oh (qH (dB l)).1.length ph) nilV).toArray 38 (0, 0)))
    (r6 : RdS (view c' 6 w') (.slice vo (rdOp (qo (dB l)).1).1.data.length vp) 1 (rdOp (qo (dB l)).1).1.data.length (bvs (rdOp (qo (dB l)).1).1.data)) (d6 : AnsV (view c' 6 w') (rdAns (qa (dB l)).1).1 (.slice xo (rdAns (qa (dB l)).1).1.data.length xp) (.slice yo (rdAns (qa (dB l)).1).1.names.length yp)) (k8 : LsO HashP 25 32 (view c' 8 w') (view c' 5 w') (.slice oh (qH (dB l)).1.length ph) (qH (dB l)).1)
    (hall : (qy (dB l)).2.2 = 0 → (qB (dB l)).2.2 = 0 → (qB (dB l)).2.1 = [] → (decM (dB l)).right → okD l) (hnot : ¬ ((qy (dB l)).2.2 = 0 ∧ (qB (dB l)).2.2 = 0 ∧ (qB (dB l)).2.1 = [] ∧ (decM (dB l)).right) → ¬ okD l) :
    ref19_Read_K9 (⟨a2, 0, none⟩ : Addr) (⟨a4, 0, none⟩ : Addr) (⟨a6, 0, none⟩ : Addr) ax 0 w' R := by
  have hok := decM_ok (dB l); have h32 : (qh (dB l)).1.length = 32 := hok.2.2.2.2.2.1; have h4 : (qn (dB l)).1.length = 4 := many_length _ _ _; have hb := dB_len l
  have h6 : ((rdOp (qo (dB l)).1).1.cells (.slice vo (rdOp (qo (dB l)).1).1.data.length vp)).length = 6 := rfl
  have ha : ((rdAns (qa (dB l)).1).1.cells (.slice xo (rdAns (qa (dB l)).1).1.data.length xp) (.slice yo (rdAns (qa (dB l)).1).1.names.length yp)).length = 4 := rfl
  have hy : (qy (dB l)).1 < 256 ^ 1 := eU_lt 1 _
  have hyc : (qy (dB l)).2.2 = 0 ∨ (qy (dB l)).2.2 = 20 := eU_code 1 _
  have hbl := decM_blocks (dB l)
  unfold ref19_Read_K9
  refine REye_U 5 (by omega) (show (0 : Nat) ≠ 2 by omega) he H.B (by omega) 1 rfl (by omega) (by omega) fun c1 w1 st1 he => T2.mk (TInt.mk (TInt.mk ?_))
  replace H := H.go st1 (by decide) (by decide); replace b6 := st1.sub (by decide) _ _ b6; replace r6 := r6.mono (st1.sub (by decide)); replace d6 := d6.mono (st1.sub (by decide)); replace k8 := k8.mono' (fun _ _ hp => hp) (st1.sub (by decide))
  replace he : REye (view c1 2 w1) ax vB (dB l) (qy (dB l)).2.1 := he
  rw [show (eU 1 (qH (dB l)).2.1).2.2 = (qy (dB l)).2.2 from rfl, show (eU 1 (qH (dB l)).2.1).1 = (qy (dB l)).1 from rfl, wrap_i64_nat _ (by omega), wrap_i64 (by omega) (by omega), Int.zero_add]
  by_cases hy0 : (qy (dB l)).2.2 = 0
  · rw [hy0]
    refine LoopNI.up (qy (dB l)).1 (fun i x w' => ∃ c' o n p, RfI w o0 p0 l a2 a4 vB c' w' ∧ REye (view c' 2 w') ax vB (dB l) (many eT i (qy (dB l)).2.1).2.1 ∧ view c' 4 w' a6 = some (.cells (mcl ((qk (dB l)).1 : Nat) ((qf (dB l)).1 : Nat) ((qt (dB l)).1 : Nat) (qn (dB l)).1 (qh (dB l)).1 ((qc (dB l)).1 : Nat) (qm (dB l)).1 ((rdOp (qo (dB l)).1).1.cells (.slice vo (rdOp (qo (dB l)).1).1.data.length vp)) ((rdAns (qa (dB l)).1).1.cells (.slice xo (rdAns (qa (dB l)).1).1.data.length xp) (.slice yo (rdAns (qa (dB l)).1).1.names.length yp)) (.slice oh (qH (dB l)).1.length ph) (.slice o n p)).toArray 38 (0, 0)) ∧
      RdS (view c' 6 w') (.slice vo (rdOp (qo (dB l)).1).1.data.length vp) 1 (rdOp (qo (dB l)).1).1.data.length (bvs (rdOp (qo (dB l)).1).1.data) ∧ AnsV (view c' 6 w') (rdAns (qa (dB l)).1).1 (.slice xo (rdAns (qa (dB l)).1).1.data.length xp) (.slice yo (rdAns (qa (dB l)).1).1.names.length yp) ∧ LsO HashP 25 32 (view c' 8 w') (view c' 5 w') (.slice oh (qH (dB l)).1.length ph) (qH (dB l)).1 ∧ LsO BytesP 26 1 (view c' 9 w') (view c' 7 w') (.slice o n p) (many eT i (qy (dB l)).2.1).1 ∧
      x = (many eT i (qy (dB l)).2.1).2.2 ∧ x ≤ 20) ⟨c1, none, 0, 0, H, by rw [many_zero]; exact he, b6, r6, d6, k8.hash, by rw [many_zero]; exact LsO.nil .., by rw [many_zero], by omega⟩ ?_
    clear H he b6 r6 d6 k8
    rintro i x w2 B hi ⟨c2, o, n, p, H, he, b6, r6, d6, k8, t9, rfl, hx20⟩ back
    have hx0 := many_code eT_nn i (qy (dB l)).2.1
    have hmono := many_mono eT_nn hi (qy (dB l)).2.1
    have hil := many_length eT i (qy (dB l)).2.1
    have bad : (many eT i (qy (dB l)).2.1).2.2 ≠ 0 → ¬ okD l := fun hne => hnot fun hh => by
      have : (many eT (qy (dB l)).1 (qy (dB l)).2.1).2.2 = 0 := hh.2.1
      omega
    refine BS.dec (fun hlt => ?_) (fun hge => ?_)
    · unfold ref19_Read_K10
      refine BS.eq (fun hz => ?_) (fun hz => Rf_F11 h H (bad hz) (by omega))
      refine REye_T 7 (by omega) (show (0 : Nat) ≠ 2 by omega) he H.B (by omega) fun v3 c3 w3 st3 he r3 => T2.mk ?_
      replace H := H.go st3 (by decide) (by decide); replace b6 := st3.sub (by decide) _ _ b6; replace r6 := r6.mono (st3.sub (by decide)); replace d6 := d6.mono (st3.sub (by decide)); replace k8 := k8.mono' (fun _ _ hp => hp) (st3.sub (by decide)); replace t9 := t9.mono' (fun _ _ hp => hp.mono (st3.sub (by decide))) (st3.sub (by decide))
      obtain ⟨o3, p3, rfl⟩ := r3.form
      refine TSl.mk (TInt.mk ?_)
      have hec := eT_code (many eT i (qy (dB l)).2.1).2.1
      refine LoadC.ad (view_sub _ _ _) _ b6 (mcl_get51 h4 h32 h6 ha).2 (TSl.mk ?_)
      refine AllocC.col c3 5 fun y c4 w4 st4 b4 _ => ?_
      replace H := H.go st4.step (by decide) (by decide); replace b6 := st4.step.sub (by decide) _ _ b6; replace r6 := r6.mono (st4.step.sub (by decide)); replace d6 := d6.mono (st4.step.sub (by decide)); replace k8 := k8.mono' (fun _ _ hp => hp) (st4.step.sub (by decide)); replace t9 := t9.mono' (fun _ _ hp => hp.mono (st4.step.sub (by decide))) (st4.step.sub (by decide)); replace r3 := r3.mono (st4.step.sub (by decide)); replace he := he.mono (st4.step.sub (by decide))
      refine LsO.app slBls t9 (m := [(eT (many eT i (qy (dB l)).2.1).2.1).1]) (LsW.one (view_sub _ _ _ _ _ b4) rfl ⟨_, rfl, r3.rd⟩) (fun _ _ hp => hp.ones) (by rw [hil]; simp; omega) (by rw [hil]; simp; omega) fun o5 p5 c5 w5 st5 t9 => TSl.mk ?_
      replace H := H.go st5.step (by decide) (by decide); replace b6 := st5.step.sub (by decide) _ _ b6; replace r6 := r6.mono (st5.step.sub (by decide)); replace d6 := d6.mono (st5.step.sub (by decide)); replace k8 := k8.mono' (fun _ _ hp => hp) (st5.step.sub (by decide)); replace he := he.mono (st5.step.sub (by decide))
      replace t9 := t9.mono' (fun _ _ hp => hp.mono (st5.step.sub (by decide))) (Sub.refl _)
      refine StoreC.ad b6 (by rw [List.size_toArray, mcl_len h4 h32 h6 ha]; omega) fun w6 st6 _ b6 => ?_
      replace H := H.go st6.step (by decide) (by decide); replace r6 := r6.mono (st6.step.sub (by decide)); replace d6 := d6.mono (st6.step.sub (by decide)); replace k8 := k8.mono' (fun _ _ hp => hp) (st6.step.sub (by decide)); replace t9 := t9.mono' (fun _ _ hp => hp.mono (st6.step.sub (by decide))) (st6.step.sub (by decide)); replace he := he.mono (st6.step.sub (by decide))
      rw [List.setIfInBounds_toArray, mcl_bs h4 h32 h6 ha] at b6
      rw [wrap_i64 (by omega) (by omega), wrap_i64 (by omega) (by omega)]
      exact back _ _ (by omega) (by rw [many_succ]; exact ⟨c5, o5, _, p5, H, he, b6, r6, d6, k8.hash, t9, rfl, by omega⟩)
    · have hi2 : i = (qy (dB l)).1 := by omega
      subst hi2
      have hn := t9.len
      subst hn
      replace he : REye (view c2 2 w2) ax vB (dB l) (qB (dB l)).2.1 := he
      by_cases hz : (many eT (qy (dB l)).1 (qy (dB l)).2.1).2.2 = 0
      · rw [hz]
        have hz : (qB (dB l)).2.2 = 0 := hz
        exact Rf_G11 h hl H he b6 r6 d6 k8 t9 ⟨hbl.2, hbl.1⟩ (hall hy0 hz) (fun hn => hnot fun hh => hn hh.2.2)
      · exact Rf_F11 h H (bad hz) (by omega)
  · have hx : (qy (dB l)).2.2 = 20 := by omega
    rw [hx]
    refine LoopNI.up 0 (fun i x w' => w1 = w' ∧ x = 20) ⟨rfl, rfl⟩ ?_
    rintro i x w2 B hi ⟨rfl, rfl⟩ back
    have hn : ¬ okD l := hnot fun hh => hy0 hh.1
    refine BS.dec (fun _ => ?_) (fun _ => Rf_F11 h H hn (by omega))
    unfold ref19_Read_K10
    exact BS.eq (fun e => by omega) (fun _ => Rf_F11 h H hn (by omega))
end
end Go.Proofs.YtdjgdcafmfheoaaDoor
set_option linter.unusedVariables false
set_option linter.unusedSimpArgs false
namespace Go.Vc
open Go
attribute [local irreducible] eU eT eE eH many rdOp rdAns shaB
def okOp (l : List UInt8) : Prop := (qo (dB l)).1 ≠ [] → (rdOp (qo (dB l)).1).2 = 0
def okAn (l : List UInt8) : Prop := (qa (dB l)).1 ≠ [] ∨ (qk (dB l)).1 = 2 → (rdAns (qa (dB l)).1).2 = 0 ∧ (qk (dB l)).1 = 2
def okT (l : List UInt8) : Prop := (qx (dB l)).2.2 = 0 ∧ (qH (dB l)).2.2 = 0 ∧ (qy (dB l)).2.2 = 0 ∧ (qB (dB l)).2.2 = 0 ∧ (qB (dB l)).2.1 = [] ∧ (decM (dB l)).right
theorem okD_def (l : List UInt8) : okD l ↔ (91 ≤ l.length ∧ l[0]? = some 3 ∧ (shaB (dB l)).take 8 = l.drop (l.length - 8) ∧ (qo (dB l)).2.2 = 0 ∧ (qa (dB l)).2.2 = 0 ∧ okOp l ∧ okAn l ∧ okT l) := by unfold okD okOp okAn okT dB; exact Iff.rfl
theorem take_same {l : List UInt8} {k n : Nat} (h : k + n ≤ l.length - 8) : ((dB l).drop k).take n = (l.drop k).take n := by
  unfold dB
  rw [List.drop_take, List.take_take, Nat.min_eq_left (by omega)]
theorem num_at {l : List UInt8} {k : Nat} {x : UInt8} (h : l[k]? = some x) : num ((l.drop k).take 1) = x.toNat := by
  have hk := lt_of_get h
  have : (l.drop k).take 1 = [x] := by
    rw [List.drop_eq_getElem_cons hk]
    rw [List.getElem?_eq_getElem hk] at h
    simp at h; simp [h]
  rw [this]; simp [num]
theorem rdOp_code (l : List UInt8) : (rdOp l).2 = 0 ∨ (rdOp l).2 = 22 := by
  rcases rdOp_cases l with h | h
  · rw [h]; exact .inr rfl
  · exact .inl h.1
theorem rdAns_code (l : List UInt8) : (rdAns l).2 = 0 ∨ (rdAns l).2 = 22 := by
  rcases rdAns_cases l with h | h
  · rw [h]; exact .inr rfl
  · exact .inl h.1
end Go.Vc
namespace Go.Proofs.YtdjgdcafmfheoaaDoor
open Go.Vc
attribute [local irreducible] TInt TBool TStr TPtr TSl TAgg TMap TChan T2 T3 T4 BS Req TSome TCell TByte LoadC LoadA StoreC AllocC RunV RunU CallV ExtV EqA StableC StableA StableV TCells ReadV
attribute [local irreducible] eU eT eE
attribute [local irreducible] DrewC eH many rdM wrM eHb rdOp rdAns

set_option maxHeartbeats 1000000
section
variable {w : World} {o0 : Option Addr} {p0 : Nat} {l : List UInt8} {a2 a4 a6 : Nat} {vB : Value} {c' : Nat → Nat} {w' : World} {R : Value → World → Prop} {c : Nat → Nat} {j : Nat}
variable {ax : Addr}
theorem Rf_G7 {vo xo yo : Option Addr} {vp xp yp : Nat} (h : RdOk c j w l R) (hl : l.length ≤ 1000000) (H : RfI w o0 p0 l a2 a4 vB c' w') (he : REye (view c' 2 w') ax vB (dB l) (qa (dB l)).2.1)
    (b6 : view c' 4 w' a6 = some (.cells (mcl ((qk (dB l)).1 : Nat) ((qf (dB l)).1 : Nat) ((qt (dB l)).1 : Nat) (qn (dB l)).1 (qh (dB l)).1 ((qc (dB l)).1 : Nat) (qm (dB l)).1 ((rdOp (qo (dB l)).1).1.cells (.slice vo (rdOp (qo (dB l)).1).1.data.length vp)) ((rdAns (qa (dB l)).1).1.cells (.slice xo (rdAns (qa (dB l)).1).1.data.length xp) (.slice yo (rdAns (qa (dB l)).1).1.names.length yp)) nilV nilV).toArray 38 (0, 0)))
    (r6 : RdS (view c' 6 w') (.slice vo (rdOp (qo (dB l)).1).1.data.length vp) 1 (rdOp (qo (dB l)).1).1.data.length (bvs (rdOp (qo (dB l)).1).1.data)) (d6 : AnsV (view c' 6 w') (rdAns (qa (dB l)).1).1 (.slice xo (rdAns (qa (dB l)).1).1.data.length xp) (.slice yo (rdAns (qa (dB l)).1).1.names.length yp)) (hi : okD l ↔ okT l) :
    ref19_Read_K7 (⟨a2, 0, none⟩ : Addr) (⟨a4, 0, none⟩ : Addr) (⟨a6, 0, none⟩ : Addr) ax 0 w' R := by
  have hok := decM_ok (dB l); have h32 : (qh (dB l)).1.length = 32 := hok.2.2.2.2.2.1; have h4 : (qn (dB l)).1.length = 4 := many_length _ _ _; have hb := dB_len l
  have h6 : ((rdOp (qo (dB l)).1).1.cells (.slice vo (rdOp (qo (dB l)).1).1.data.length vp)).length = 6 := rfl
  have ha : ((rdAns (qa (dB l)).1).1.cells (.slice xo (rdAns (qa (dB l)).1).1.data.length xp) (.slice yo (rdAns (qa (dB l)).1).1.names.length yp)).length = 4 := rfl
  have hy : (qx (dB l)).1 < 256 ^ 1 := eU_lt 1 _
  have hyc : (qx (dB l)).2.2 = 0 ∨ (qx (dB l)).2.2 = 20 := eU_code 1 _
  unfold ref19_Read_K7
  refine REye_U 5 (by omega) (show (0 : Nat) ≠ 2 by omega) he H.B (by omega) 1 rfl (by omega) (by omega) fun c1 w1 st1 he => T2.mk (TInt.mk (TInt.mk ?_))
  replace H := H.go st1 (by decide) (by decide); replace b6 := st1.sub (by decide) _ _ b6; replace r6 := r6.mono (st1.sub (by decide)); replace d6 := d6.mono (st1.sub (by decide))
  replace he : REye (view c1 2 w1) ax vB (dB l) (qx (dB l)).2.1 := he
  rw [show (eU 1 (qa (dB l)).2.1).2.2 = (qx (dB l)).2.2 from rfl, show (eU 1 (qa (dB l)).2.1).1 = (qx (dB l)).1 from rfl, wrap_i64_nat _ (by omega), wrap_i64 (by omega) (by omega), Int.zero_add]
  by_cases hy0 : (qx (dB l)).2.2 = 0
  · rw [hy0]
    refine LoopNI.up (qx (dB l)).1 (fun i x w' => ∃ c' o n p, RfI w o0 p0 l a2 a4 vB c' w' ∧ REye (view c' 2 w') ax vB (dB l) (many eH i (qx (dB l)).2.1).2.1 ∧ view c' 4 w' a6 = some (.cells (mcl ((qk (dB l)).1 : Nat) ((qf (dB l)).1 : Nat) ((qt (dB l)).1 : Nat) (qn (dB l)).1 (qh (dB l)).1 ((qc (dB l)).1 : Nat) (qm (dB l)).1 ((rdOp (qo (dB l)).1).1.cells (.slice vo (rdOp (qo (dB l)).1).1.data.length vp)) ((rdAns (qa (dB l)).1).1.cells (.slice xo (rdAns (qa (dB l)).1).1.data.length xp) (.slice yo (rdAns (qa (dB l)).1).1.names.length yp)) (.slice o n p) nilV).toArray 38 (0, 0)) ∧
      RdS (view c' 6 w') (.slice vo (rdOp (qo (dB l)).1).1.data.length vp) 1 (rdOp (qo (dB l)).1).1.data.length (bvs (rdOp (qo (dB l)).1).1.data) ∧ AnsV (view c' 6 w') (rdAns (qa (dB l)).1).1 (.slice xo (rdAns (qa (dB l)).1).1.data.length xp) (.slice yo (rdAns (qa (dB l)).1).1.names.length yp) ∧ LsO HashP 25 32 (view c' 8 w') (view c' 5 w') (.slice o n p) (many eH i (qx (dB l)).2.1).1 ∧
      x = (many eH i (qx (dB l)).2.1).2.2 ∧ x ≤ 20) ⟨c1, none, 0, 0, H, by rw [many_zero]; exact he, b6, r6, d6, by rw [many_zero]; exact LsO.nil .., by rw [many_zero], by omega⟩ ?_
    clear H he b6 r6 d6
    rintro i x w2 B hi2 ⟨c2, o, n, p, H, he, b6, r6, d6, k8, rfl, hx20⟩ back
    have hx0 := many_code eH_nn i (qx (dB l)).2.1
    have hmono := many_mono eH_nn hi2 (qx (dB l)).2.1
    have hil := many_length eH i (qx (dB l)).2.1
    have bad : (many eH i (qx (dB l)).2.1).2.2 ≠ 0 → ¬ okD l := fun hne hh => by
      have : (many eH (qx (dB l)).1 (qx (dB l)).2.1).2.2 = 0 := (hi.1 hh).2.1
      omega
    refine BS.dec (fun hlt => ?_) (fun hge => ?_)
    · unfold ref19_Read_K8
      refine BS.eq (fun hz => ?_) (fun hz => Rf_F9 h hl H he (bad hz) (by omega) (by omega))
      refine REye_H 5 (by omega) (show (0 : Nat) ≠ 2 by omega) he H.B (by omega) fun v3 c3 w3 st3 he r3 => T2.mk ?_
      replace H := H.go st3 (by decide) (by decide); replace b6 := st3.sub (by decide) _ _ b6; replace r6 := r6.mono (st3.sub (by decide)); replace d6 := d6.mono (st3.sub (by decide)); replace k8 := k8.mono' (fun _ _ hp => hp) (st3.sub (by decide))
      obtain ⟨o3, p3, rfl⟩ := r3.form
      refine TSl.mk (TInt.mk ?_)
      have hec := eH_code (many eH i (qx (dB l)).2.1).2.1
      obtain ⟨heq, hle⟩ := eHb_eq (many eH i (qx (dB l)).2.1).2.1
      have hg : (eH (many eH i (qx (dB l)).2.1).2.1).1.length = 32 := (eH_len _).1
      refine DrewC.col c3 fun w4 st4 => ?_
      replace H := H.go st4 (by decide) (by decide); replace b6 := st4.sub (by decide) _ _ b6; replace r6 := r6.mono (st4.sub (by decide)); replace d6 := d6.mono (st4.sub (by decide)); replace k8 := k8.mono' (fun _ _ hp => hp) (st4.sub (by decide)); replace he := he.mono (st4.sub (by decide)); replace r3 := r3.mono (st4.sub (by decide))
      refine LoadC.ad (view_sub _ _ _) _ b6 (mcl_get51 h4 h32 h6 ha).1 (TSl.mk ?_)
      refine hash19_c c3 5 (r3.rd.mono (view_sub _ _ _)) hle fun c5 w5 st5 => TAgg.mk ?_
      rw [heq]
      replace H := H.go st5 (by decide) (by decide); replace b6 := st5.sub (by decide) _ _ b6; replace r6 := r6.mono (st5.sub (by decide)); replace d6 := d6.mono (st5.sub (by decide)); replace k8 := k8.mono' (fun _ _ hp => hp) (st5.sub (by decide)); replace he := he.mono (st5.sub (by decide))
      refine ⟨StableC.ad (view_sub _ _ _) b6 (mcl_get51 h4 h32 h6 ha).1, Req.mk' (by simp [hg]) ?_⟩
      refine AllocC.col c5 5 fun y c6 w6 st6 b8 _ => ?_
      replace H := H.go st6.step (by decide) (by decide); replace b6 := st6.step.sub (by decide) _ _ b6; replace r6 := r6.mono (st6.step.sub (by decide)); replace d6 := d6.mono (st6.step.sub (by decide)); replace k8 := k8.mono' (fun _ _ hp => hp) (st6.step.sub (by decide)); replace he := he.mono (st6.step.sub (by decide))
      refine ⟨StableC.ad (view_sub _ _ _) b6 (mcl_get51 h4 h32 h6 ha).1, ?_⟩
      refine LsO.app slHash k8 (m := [(eH (many eH i (qx (dB l)).2.1).2.1).1]) (LsW.one (view_sub _ _ _ _ _ b8) (by simp [hg]) ⟨rfl, hg⟩) (fun a es hp => by rw [hp.1]; exact bvs_one _) (by rw [hil]; simp; omega) (by rw [hil]; simp; omega) fun o7 p7 c7 w7 st7 k8 => TSl.mk ?_
      replace H := H.go st7.step (by decide) (by decide); replace b6 := st7.step.sub (by decide) _ _ b6; replace r6 := r6.mono (st7.step.sub (by decide)); replace d6 := d6.mono (st7.step.sub (by decide)); replace he := he.mono (st7.step.sub (by decide))
      refine StoreC.ad b6 (by rw [List.size_toArray, mcl_len h4 h32 h6 ha]; omega) fun w8 st8 _ b6 => ?_
      replace H := H.go st8.step (by decide) (by decide); replace r6 := r6.mono (st8.step.sub (by decide)); replace d6 := d6.mono (st8.step.sub (by decide)); replace k8 := k8.mono' (fun _ _ hp => hp) (st8.step.sub (by decide)); replace he := he.mono (st8.step.sub (by decide))
      rw [List.setIfInBounds_toArray, mcl_hs h4 h32 h6 ha] at b6
      rw [wrap_i64 (by omega) (by omega), wrap_i64 (by omega) (by omega)]
      exact back _ _ (by omega) (by rw [many_succ]; exact ⟨c7, o7, _, p7, H, he, b6, r6, d6, k8.hash, rfl, by omega⟩)
    · have hi3 : i = (qx (dB l)).1 := by omega
      subst hi3
      have hn := k8.len
      subst hn
      replace he : REye (view c2 2 w2) ax vB (dB l) (qH (dB l)).2.1 := he
      by_cases hz : (many eH (qx (dB l)).1 (qx (dB l)).2.1).2.2 = 0
      · rw [hz]
        have hz : (qH (dB l)).2.2 = 0 := hz
        exact Rf_G9 h hl H he b6 r6 d6 k8.hash (fun q1 q2 q3 q4 => hi.2 ⟨hy0, hz, q1, q2, q3, q4⟩) (fun hn hh => hn (hi.1 hh).2.2)
      · exact Rf_F9 h hl H he (bad hz) (by omega) (by omega)
  · have hx : (qx (dB l)).2.2 = 20 := by omega
    rw [hx]
    refine LoopNI.up 0 (fun i x w' => w1 = w' ∧ x = 20) ⟨rfl, rfl⟩ ?_
    rintro i x w2 B _ ⟨rfl, rfl⟩ back
    have hn : ¬ okD l := fun hh => hy0 (hi.1 hh).1
    refine BS.dec (fun _ => ?_) (fun _ => Rf_F9 h hl H he hn (by omega) (by omega))
    unfold ref19_Read_K8
    exact BS.eq (fun e => by omega) (fun _ => Rf_F9 h hl H he hn (by omega) (by omega))

theorem Rf_G4 {vo ot : Option Addr} {vp pt : Nat} (h : RdOk c j w l R) (hl : l.length ≤ 1000000) (H : RfI w o0 p0 l a2 a4 vB c' w') (he : REye (view c' 2 w') ax vB (dB l) (qa (dB l)).2.1)
    (b6 : view c' 4 w' a6 = some (.cells (mcl ((qk (dB l)).1 : Nat) ((qf (dB l)).1 : Nat) ((qt (dB l)).1 : Nat) (qn (dB l)).1 (qh (dB l)).1 ((qc (dB l)).1 : Nat) (qm (dB l)).1 ((rdOp (qo (dB l)).1).1.cells (.slice vo (rdOp (qo (dB l)).1).1.data.length vp)) zanL nilV nilV).toArray 38 (0, 0)))
    (r6 : RdS (view c' 6 w') (.slice vo (rdOp (qo (dB l)).1).1.data.length vp) 1 (rdOp (qo (dB l)).1).1.data.length (bvs (rdOp (qo (dB l)).1).1.data)) (rt : RdS (view c' 5 w') (.slice ot (qa (dB l)).1.length pt) 1 (qa (dB l)).1.length (bvs (qa (dB l)).1)) (hi : okD l ↔ (okAn l ∧ okT l)) :
    ref19_Read_K4 (⟨a2, 0, none⟩ : Addr) (⟨a4, 0, none⟩ : Addr) (⟨a6, 0, none⟩ : Addr) ax 0 ot (qa (dB l)).1.length pt w' R := by
  have hok := decM_ok (dB l); have h32 : (qh (dB l)).1.length = 32 := hok.2.2.2.2.2.1; have h4 : (qn (dB l)).1.length = 4 := many_length _ _ _; have hb := dB_len l
  have h6 : ((rdOp (qo (dB l)).1).1.cells (.slice vo (rdOp (qo (dB l)).1).1.data.length vp)).length = 6 := rfl
  have ha1 : (qa (dB l)).1.length ≤ (dB l).length := Nat.le_trans (eT_len _).2 (q_len (dB l)).2.2.2.2.2.2.2.2.1
  have hk : (qk (dB l)).1 < 256 ^ 1 := eU_lt 1 _
  unfold ref19_Read_K4
  have yes : ((qa (dB l)).1 ≠ [] ∨ (qk (dB l)).1 = 2) → ref19_Read_K5 (⟨a2, 0, none⟩ : Addr) (⟨a4, 0, none⟩ : Addr) (⟨a6, 0, none⟩ : Addr) ax 0 ot (qa (dB l)).1.length pt true w' R := fun hc => by
    unfold ref19_Read_K5
    refine BS.yes rfl ?_
    refine ref_ReadAnswer_c c' 6 (l := (qa (dB l)).1) (rt.mono (view_sub _ _ _)) (by omega) fun va ua c1 w1 st1 d6 => T2.mk (TAgg.mk (TInt.mk ?_))
    replace H := H.go st1 (by decide) (by decide); replace b6 := st1.sub (by decide) _ _ b6; replace r6 := r6.mono (st1.sub (by decide)); replace he := he.mono (st1.sub (by decide))
    obtain ⟨xo, xp, rfl⟩ := RdS.form d6.d
    obtain ⟨yo, yp, rfl⟩ := RdS.form d6.n
    obtain ⟨al, ao⟩ := ans_one (a := (rdAns (qa (dB l)).1).1) d6.d d6.n
    refine AllocC.col c1 5 fun a14 c2 w2 st2 b8 _ => ?_
    replace H := H.go st2.step (by decide) (by decide); replace b6 := st2.step.sub (by decide) _ _ b6; replace r6 := r6.mono (st2.step.sub (by decide)); replace he := he.mono (st2.step.sub (by decide)); replace d6 := d6.mono (st2.step.sub (by decide))
    refine RunU.var b8 (by rw [List.size_toArray, al]; kernel_rfl) (by rw [List.size_toArray, List.size_toArray, al]; rfl) (by rw [Array.all_eq_true']; intro u hu; exact ao u (by simpa using hu)) fun w3 st3 b8 => ?_
    replace H := H.go st3.step (by decide) (by decide); replace b6 := st3.step.sub (by decide) _ _ b6; replace r6 := r6.mono (st3.step.sub (by decide)); replace he := he.mono (st3.step.sub (by decide)); replace d6 := d6.mono (st3.step.sub (by decide))
    unfold ref19_Read_K6
    refine LoadA.all (view_sub _ _ _) b8 (by rw [List.size_toArray, al]) ?_
    refine RunU.part b6 (by rw [al]; kernel_rfl) (by rw [mcl_len h4 h32 h6 rfl, al]; omega) ao fun w4 st4 _ b6 => ?_
    replace H := H.go st4.step (by decide) (by decide); replace r6 := r6.mono (st4.step.sub (by decide)); replace d6 := d6.mono (st4.step.sub (by decide)); replace he := he.mono (st4.step.sub (by decide))
    rw [mcl_ans h4 h32 h6 rfl al] at b6
    refine LoadC.ad (view_sub _ _ _) _ b6 rfl (TInt.mk ?_)
    have hcode := rdAns_code (qa (dB l)).1
    rw [wrap_i64 (n := 0 + (rdAns (qa (dB l)).1).2) (by omega) (by omega), Int.zero_add]
    refine BS.ne (fun hk2 => ?_) (fun hk2 => ?_)
    · rw [wrap_i64 (by omega) (by omega)]
      exact Rf_F7 h hl H he (fun hh => hk2 (by have := ((hi.1 hh).1 hc).2; omega)) (by omega) (by omega)
    · by_cases hz : (rdAns (qa (dB l)).1).2 = 0
      · rw [hz]
        exact Rf_G7 h hl H he b6 r6 d6 ⟨fun hh => (hi.1 hh).2, fun hh => hi.2 ⟨fun _ => ⟨hz, by omega⟩, hh⟩⟩
      · exact Rf_F7 h hl H he (fun hh => hz ((hi.1 hh).1 hc).1) (by omega) (by omega)
  refine BS.eq (fun _ => ?_) (fun e => absurd rfl e)
  refine BS.dec (fun hlen => yes (.inl fun e => by rw [e] at hlen; simp at hlen)) (fun hlen => ?_)
  have hnil : (qa (dB l)).1 = [] := List.eq_nil_of_length_eq_zero (by omega)
  refine LoadC.ad (view_sub _ _ _) _ b6 rfl (TInt.mk ?_)
  by_cases hk2 : (qk (dB l)).1 = 2
  · have : ((((qk (dB l)).1 : Nat) : Int) == 2) = true := by rw [hk2]; rfl
    rw [this]; exact yes (.inr hk2)
  · have : ((((qk (dB l)).1 : Nat) : Int) == 2) = false := by simp; omega
    rw [this]
    unfold ref19_Read_K5
    refine BS.no rfl ?_
    have ez : (rdAns (qa (dB l)).1).1 = AnsR.zero := by rw [hnil, rdAns_nil]
    refine Rf_G7 (xo := none) (yo := none) (xp := 0) (yp := 0) h hl H he (by rw [ez]; exact b6) r6 (by rw [ez]; exact ⟨RdS.none_bytes .., RdS.none_strs ..⟩) ⟨fun hh => (hi.1 hh).2, fun hh => hi.2 ⟨fun hc => ?_, hh⟩⟩
    rcases hc with hc | hc
    · exact absurd hnil hc
    · exact absurd hc hk2

theorem Rf_G3 {ot op : Option Addr} {pt pp : Nat} (h : RdOk c j w l R) (hl : l.length ≤ 1000000) (H : RfI w o0 p0 l a2 a4 vB c' w') (he : REye (view c' 2 w') ax vB (dB l) (qa (dB l)).2.1)
    (b6 : view c' 4 w' a6 = some (.cells (mcl ((qk (dB l)).1 : Nat) ((qf (dB l)).1 : Nat) ((qt (dB l)).1 : Nat) (qn (dB l)).1 (qh (dB l)).1 ((qc (dB l)).1 : Nat) (qm (dB l)).1 zopL zanL nilV nilV).toArray 38 (0, 0)))
    (rp : RdS (view c' 5 w') (.slice op (qo (dB l)).1.length pp) 1 (qo (dB l)).1.length (bvs (qo (dB l)).1))
    (rt : RdS (view c' 5 w') (.slice ot (qa (dB l)).1.length pt) 1 (qa (dB l)).1.length (bvs (qa (dB l)).1)) (hi : okD l ↔ (okOp l ∧ okAn l ∧ okT l)) :
    ref19_Read_K3 (⟨a2, 0, none⟩ : Addr) (⟨a4, 0, none⟩ : Addr) (⟨a6, 0, none⟩ : Addr) ax op (qo (dB l)).1.length pp 0 ot (qa (dB l)).1.length pt (decide ((((qo (dB l)).1.length : Nat) : Int) > 0)) w' R := by
  have hok := decM_ok (dB l); have h32 : (qh (dB l)).1.length = 32 := hok.2.2.2.2.2.1; have h4 : (qn (dB l)).1.length = 4 := many_length _ _ _; have hb := dB_len l
  have ho1 : (qo (dB l)).1.length ≤ (dB l).length := Nat.le_trans (eT_len _).2 (q_len (dB l)).2.2.2.2.2.2.2.1
  unfold ref19_Read_K3
  refine BS.dec (fun hlen => ?_) (fun hlen => ?_)
  · have hne : (qo (dB l)).1 ≠ [] := fun e => by rw [e] at hlen; simp at hlen
    refine ref_Read_c c' 6 (l := (qo (dB l)).1) (rp.mono (view_sub _ _ _)) (by omega) fun vo c1 w1 st1 r6 => T2.mk (TAgg.mk (TInt.mk ?_))
    replace H := H.go st1 (by decide) (by decide); replace b6 := st1.sub (by decide) _ _ b6; replace rt := rt.mono (st1.sub (by decide)); replace he := he.mono (st1.sub (by decide))
    obtain ⟨vo, vp, rfl⟩ := RdS.form r6
    obtain ⟨ol, oo⟩ := op_one (o := (rdOp (qo (dB l)).1).1) r6
    refine AllocC.col c1 7 fun a12 c2 w2 st2 b8 _ => ?_
    replace H := H.go st2.step (by decide) (by decide); replace b6 := st2.step.sub (by decide) _ _ b6; replace rt := rt.mono (st2.step.sub (by decide)); replace he := he.mono (st2.step.sub (by decide))
    replace r6 := RdS.mono r6 (st2.step.sub (by decide))
    refine RunU.var b8 (by rw [List.size_toArray, ol]; kernel_rfl) (by rw [List.size_toArray, List.size_toArray, ol]; rfl) (by rw [Array.all_eq_true']; intro u hu; exact oo u (by simpa using hu)) fun w3 st3 b8 => ?_
    replace H := H.go st3.step (by decide) (by decide); replace b6 := st3.step.sub (by decide) _ _ b6; replace rt := rt.mono (st3.step.sub (by decide)); replace he := he.mono (st3.step.sub (by decide)); replace r6 := r6.mono (st3.step.sub (by decide))
    refine LoadA.all (view_sub _ _ _) b8 (by rw [List.size_toArray, ol]) ?_
    rw [add_add]
    refine RunU.part b6 (by rw [ol]; kernel_rfl) (by rw [mcl_len h4 h32 rfl rfl, ol]; omega) oo fun w4 st4 _ b6 => ?_
    replace H := H.go st4.step (by decide) (by decide); replace r6 := r6.mono (st4.step.sub (by decide)); replace rt := rt.mono (st4.step.sub (by decide)); replace he := he.mono (st4.step.sub (by decide))
    rw [mcl_op h4 h32 rfl ol] at b6
    have hcode := rdOp_code (qo (dB l)).1
    rw [wrap_i64 (by omega) (by omega), Int.zero_add]
    by_cases hz : (rdOp (qo (dB l)).1).2 = 0
    · rw [hz]
      exact Rf_G4 h hl H he b6 r6 rt ⟨fun hh => (hi.1 hh).2, fun hh => hi.2 ⟨fun _ => hz, hh⟩⟩
    · exact Rf_F4 h hl H he (fun hh => hz ((hi.1 hh).1 hne)) (by omega) (by omega)
  · have hnil : (qo (dB l)).1 = [] := List.eq_nil_of_length_eq_zero (by omega)
    have ez : (rdOp (qo (dB l)).1).1 = OpR.zero := by rw [hnil, rdOp_nil]
    exact Rf_G4 (vo := none) (vp := 0) h hl H he (by rw [ez]; exact b6) (by rw [ez]; exact RdS.none_bytes ..) rt ⟨fun hh => (hi.1 hh).2, fun hh => hi.2 ⟨fun hc => absurd hnil hc, hh⟩⟩
end
end Go.Proofs.YtdjgdcafmfheoaaDoor
set_option linter.unusedVariables false
set_option linter.unusedSimpArgs false
namespace Go.Proofs.YtdjgdcafmfheoaaDoor
open Go.Vc
attribute [local irreducible] TInt TBool TStr TPtr TSl TAgg TMap TChan T2 T3 T4 BS Req TSome TCell TByte LoadC LoadA StoreC AllocC RunV RunU CallV ExtV EqA StableC StableA StableV TCells ReadV
attribute [local irreducible] eU eT eE
attribute [local irreducible] DrewC eH many rdM wrM eHb rdOp rdAns

set_option maxHeartbeats 1000000
section
variable {w : World} {o0 : Option Addr} {p0 : Nat} {l : List UInt8} {a2 a4 a6 : Nat} {c' : Nat → Nat} {w' : World} {R : Value → World → Prop} {c : Nat → Nat} {j : Nat}
theorem Rf_K2 (h : RdOk c j w l R) (hl : l.length ≤ 1000000) (h91 : 91 ≤ l.length) (H : RfI w o0 p0 l a2 a4 (.slice (slBase o0 p0 0 1) (l.length - 8) p0) c' w')
    (b6 : view c' 4 w' a6 = some (.cells (mcl ((qk (dB l)).1 : Nat) ((qf (dB l)).1 : Nat) ((qt (dB l)).1 : Nat) (qn (dB l)).1 (qh (dB l)).1 0 0 zopL zanL nilV nilV).toArray 38 (0, 0)))
    (hi : okD l ↔ ((qo (dB l)).2.2 = 0 ∧ (qa (dB l)).2.2 = 0 ∧ okOp l ∧ okAn l ∧ okT l)) :
    ref19_Read_K2 o0 l.length p0 (⟨a2, 0, none⟩ : Addr) (⟨a4, 0, none⟩ : Addr) (⟨a6, 0, none⟩ : Addr) w' R := by
  have hok := decM_ok (dB l); have h32 : (qh (dB l)).1.length = 32 := hok.2.2.2.2.2.1; have h4 : (qn (dB l)).1.length = 4 := many_length _ _ _; have hb := dB_len l
  obtain ⟨f0, f1, f2, f3, f4, f5, f6, f7, n0, n1, n2, n3, n4, n5, n6, n7, n8⟩ := front (dB l) (by omega)
  have hcap := H.D.len.2.1
  unfold ref19_Read_K2
  obtain ⟨x, hx⟩ := get_of_lt (l := l) (i := 68) (by omega)
  refine Req.bnd ⟨by omega, by omega⟩ (H.D.eltc (k := 68) (view_sub _ _ _) (u := bv x) (by rw [bvs_get, hx]; rfl) (TInt.mk ?_))
  have hxl := x.toNat_lt
  have ex : (qc (dB l)).1 = x.toNat := by rw [n6, take_same (by omega), num_at hx]
  rw [wrap_i64_nat _ (by omega), ← ex, add_add, add_add]
  refine StoreC.ad b6 (by rw [List.size_toArray, mcl_len h4 h32 rfl rfl]; omega) fun w1 st1 _ b6 => ?_
  replace H := H.go st1.step (by decide) (by decide)
  rw [List.setIfInBounds_toArray, mcl_client h4 h32] at b6
  refine number19_c (at' := 69) (H.D.mono (view_sub _ _ _)) hl (by omega) (TInt.mk ?_) rfl
  rw [← take_same (l := l) (k := 69) (n := 8) (by omega), ← n7]
  refine StoreC.ad b6 (by rw [List.size_toArray, mcl_len h4 h32 rfl rfl]; omega) fun w2 st2 _ b6 => ?_
  replace H := H.go st2.step (by decide) (by decide)
  rw [List.setIfInBounds_toArray, show (Value.int IntKind.u64 ↑(qm (dB l)).1) = u64v (qm (dB l)).1 from rfl, mcl_number h4 h32] at b6
  have e8 : IntKind.wrap .i64 (((l.length : Nat) : Int) - 8) = ((l.length - 8 : Nat) : Int) := by rw [wrap_i64 (by omega) (by omega)]; omega
  rw [e8]
  refine Req.bndle ⟨by omega, by omega⟩ ?_
  rw [Int.toNat_natCast]
  refine AllocC.col c' 2 fun ax c3 w3 st3 bx _ => ?_
  replace H := H.go st3.step (by decide) (by decide); replace b6 := st3.step.sub (by decide) _ _ b6
  have he : REye (view c3 2 w3) ⟨ax, 0, none⟩ (.slice (slBase o0 p0 0 1) (l.length - 8) p0) (dB l) (qm (dB l)).2.1 := ⟨77, ⟨ax, rfl, bx⟩, by omega, n8⟩
  refine REye_T 5 (by omega) (show (0 : Nat) ≠ 2 by omega) he H.B (by omega) fun v4 c4 w4 st4 he r4 => T2.mk ?_
  replace H := H.go st4 (by decide) (by decide); replace b6 := st4.sub (by decide) _ _ b6
  replace he : REye (view c4 2 w4) ⟨ax, 0, none⟩ (.slice (slBase o0 p0 0 1) (l.length - 8) p0) (dB l) (qo (dB l)).2.1 := he
  replace r4 : OwS (view c4 5 w4) v4 5 1 (qo (dB l)).1.length (bvs (qo (dB l)).1) := r4
  obtain ⟨o4, p4, rfl⟩ := r4.form
  refine TSl.mk (TInt.mk ?_)
  refine REye_T 5 (by omega) (show (0 : Nat) ≠ 2 by omega) he H.B (by omega) fun v5 c5 w5 st5 he r5 => T2.mk ?_
  replace H := H.go st5 (by decide) (by decide); replace b6 := st5.sub (by decide) _ _ b6; replace r4 := r4.mono (st5.sub (by decide))
  replace he : REye (view c5 2 w5) ⟨ax, 0, none⟩ (.slice (slBase o0 p0 0 1) (l.length - 8) p0) (dB l) (qa (dB l)).2.1 := he
  replace r5 : OwS (view c5 5 w5) v5 5 1 (qa (dB l)).1.length (bvs (qa (dB l)).1) := r5
  obtain ⟨o5, p5, rfl⟩ := r5.form
  refine TSl.mk (TInt.mk ?_)
  rw [show (eT (qm (dB l)).2.1).2.2 = (qo (dB l)).2.2 from rfl, show (eT (qo (dB l)).2.1).2.2 = (qa (dB l)).2.2 from rfl]
  have ho : (qo (dB l)).2.2 = 0 ∨ (qo (dB l)).2.2 = 20 := eT_code _
  have ha : (qa (dB l)).2.2 = 0 ∨ (qa (dB l)).2.2 = 20 := eT_code _
  rw [wrap_i64 (by omega) (by omega)]
  refine BS.eq (fun hz => ?_) (fun hz => ?_)
  · have h1 : (qo (dB l)).2.2 = 0 := by omega
    have h2 : (qa (dB l)).2.2 = 0 := by omega
    rw [hz]
    exact Rf_G3 h hl H he b6 r4.rd r5.rd ⟨fun hh => (hi.1 hh).2.2, fun hh => hi.2 ⟨h1, h2, hh⟩⟩
  · exact Rf_F4 h hl H he (fun hh => hz (by have := hi.1 hh; omega)) (by omega) (by omega)

theorem Rf_K1 (h : RdOk c j w l R) (hl : l.length ≤ 1000000) (h91 : 91 ≤ l.length) (h3 : l[0]? = some 3) (H : RfI w o0 p0 l a2 a4 (.slice (slBase o0 p0 0 1) (l.length - 8) p0) c' w') :
    ref19_Read_K1 o0 l.length p0 (⟨a2, 0, none⟩ : Addr) (⟨a4, 0, none⟩ : Addr) false w' R := by
  have hok := decM_ok (dB l); have h32 : (qh (dB l)).1.length = 32 := hok.2.2.2.2.2.1; have h4 : (qn (dB l)).1.length = 4 := many_length _ _ _; have hb := dB_len l
  obtain ⟨f0, f1, f2, f3, f4, f5, f6, f7, n0, n1, n2, n3, n4, n5, n6, n7, n8⟩ := front (dB l) (by omega)
  have hcap := H.D.len.2.1
  unfold ref19_Read_K1
  refine BS.no rfl ?_
  have e8 : IntKind.wrap .i64 (((l.length : Nat) : Int) - 8) = ((l.length - 8 : Nat) : Int) := by rw [wrap_i64 (by omega) (by omega)]; omega
  rw [e8]
  refine Req.bndle ⟨by omega, by omega⟩ ?_
  rw [Int.toNat_natCast]
  have hB := H.B
  rw [hb] at hB
  refine Ref_Sha_c c' 5 (l := dB l) (by rw [hb]; exact hB.mono (view_sub _ _ _)) (by omega) fun c1 w1 st1 => TAgg.mk ?_
  replace H := H.go st1 (by decide) (by decide)
  refine AllocC.col c1 5 fun a5 c2 w2 st2 b5 _ => ?_
  replace H := H.go st2.step (by decide) (by decide)
  refine RunU.var b5 (hash_size (shaB_length _)) (by simp) (bvs_all _) fun w3 st3 b5 => ?_
  replace H := H.go st3.step (by decide) (by decide)
  refine DrewC.col c2 fun w4 st4 => ?_
  replace H := H.go st4 (by decide) (by decide); replace b5 := st4.sub (by decide) _ _ b5
  rw [slBase_whole]
  have r5 := (RdS.block (xs := bvs (shaB (dB l))) b5 (n := 32) (z := 1) (by simp) (Nat.le_refl _)).short (m := 8) (by omega)
  rw [Nat.mul_one, ← bvs_take] at r5
  refine string_rule strU8 (r5.mono (view_sub _ _ _)) (TStr.mk ?_)
  refine Req.bndle ⟨by omega, by omega⟩ ?_
  have rd := H.D.drop (k := l.length - 8) (by omega)
  rw [Nat.mul_one, ← bvs_drop] at rd
  refine string_rule strU8 (rd.mono (view_sub _ _ _)) (TStr.mk ?_)
  rw [strEq_of]
  refine BS.ndec (fun hne => Rf_no h H fun hh => hne ((okD_def l).1 hh).2.2.1) (fun heq => ?_)
  refine DrewC.col c2 fun w5 st5 => ?_
  replace H := H.go st5 (by decide) (by decide)
  have hi : okD l ↔ ((qo (dB l)).2.2 = 0 ∧ (qa (dB l)).2.2 = 0 ∧ okOp l ∧ okAn l ∧ okT l) := ⟨fun hh => ((okD_def l).1 hh).2.2.2, fun hh => (okD_def l).2 ⟨h91, h3, heq, hh⟩⟩
  clear heq rd r5 b5 hB st1 st2 st3 st4 st5
  obtain ⟨x1, hx1⟩ := get_of_lt (l := l) (i := 1) (by omega)
  obtain ⟨x2, hx2⟩ := get_of_lt (l := l) (i := 2) (by omega)
  obtain ⟨x3, hx3⟩ := get_of_lt (l := l) (i := 3) (by omega)
  obtain ⟨bb, off, cs, T, fz, eo, hbb, hcs⟩ := H.D.base (fun e => by have h0 := congrArg List.length e; rw [bvs_length, List.length_nil] at h0; omega)
  have b8 : view c2 0 w5 bb = some (.cells cs T fz) := hbb
  have g1 := hcs 1 (bv x1) (by rw [bvs_get, hx1]; rfl)
  have g2 := hcs 2 (bv x2) (by rw [bvs_get, hx2]; rfl)
  have g3 := hcs 3 (bv x3) (by rw [bvs_get, hx3]; rfl)
  have ld : ∀ (w' : World) (c' : Nat → Nat) (k : Nat) (u : Value) (C : Value → Prop), view c' 0 w' bb = some (.cells cs T fz) → cs[off + k]? = some u → C u → LoadC w' ((⟨bb, off, none⟩ : Addr).add k) C := by
    intro w' c' k u C b8 hu hC
    rw [addr_add]; exact LoadC.at (view_sub _ _ _) b8 hu hC
  have sc : ∀ {w' : World} {c' : Nat → Nat} {k : Nat} (u : Value), view c' 0 w' bb = some (.cells cs T fz) → cs[off + k]? = some u → StableC w' ((⟨bb, off, none⟩ : Addr).add k) u := by
    intro w' c' k u b8 hu
    rw [addr_add]; exact StableC.at (view_sub _ _ _) b8 hu
  rw [eo]
  refine Req.bnd ⟨by omega, by omega⟩ (TSome.mk (ld _ _ _ _ _ b8 g1 (TInt.mk ?_)))
  refine Req.bnd ⟨by omega, by omega⟩ (TSome.mk (ld _ _ _ _ _ b8 g2 (TInt.mk ?_)))
  refine Req.bnd ⟨by omega, by omega⟩ (TSome.mk (ld _ _ _ _ _ b8 g3 (TInt.mk ?_)))
  refine Req.bndle ⟨by omega, by omega⟩ ?_
  rw [← eo]
  have q1 := x1.toNat_lt
  have q2 := x2.toNat_lt
  have q3 := x3.toNat_lt
  have e1 : (qk (dB l)).1 = x1.toNat := by rw [n1, take_same (by omega), num_at hx1]
  have e2 : (qf (dB l)).1 = x2.toNat := by rw [n2, take_same (by omega), num_at hx2]
  have e3 : (qt (dB l)).1 = x3.toNat := by rw [n3, take_same (by omega), num_at hx3]
  rw [wrap_i64_nat _ (by omega), wrap_i64_nat _ (by omega), wrap_i64_nat _ (by omega), ← e1, ← e2, ← e3]
  have u1 : Value.int .u8 (((qk (dB l)).1 : Nat) : Int) = bv x1 := by rw [e1]; rfl
  have u2 : Value.int .u8 (((qf (dB l)).1 : Nat) : Int) = bv x2 := by rw [e2]; rfl
  have u3 : Value.int .u8 (((qt (dB l)).1 : Nat) : Int) = bv x3 := by rw [e3]; rfl
  rw [← u1] at g1
  rw [← u2] at g2
  rw [← u3] at g3
  have num8 : ∀ {c' w'} {K : Value → World → Prop} (k : Nat), RfI w o0 p0 l a2 a4 (.slice (slBase o0 p0 0 1) (l.length - 8) p0) c' w' → k + 8 ≤ l.length - 8 → (K (.int .u64 ((num (((dB l).drop k).take 8) : Nat) : Int)) w') → ∀ {n : Int}, n = k → CallV Tryd.prog 65 #[.slice o0 l.length p0, .int .i64 n] w' K := fun k H hk hK n hn =>
    number19_c (at' := k) (H.D.mono (view_sub _ _ _)) hl (by omega) (by rw [← take_same hk]; exact hK) hn
  have e36 : ((dB l).drop 36).take 32 = (l.drop 36).take 32 := take_same (by omega)
  have hash : ∀ {c' w'} {K : Value → World → Prop}, RfI w o0 p0 l a2 a4 (.slice (slBase o0 p0 0 1) (l.length - 8) p0) c' w' → (∀ c'' w'', Step c' [] [5] w' c'' w'' → K (.agg (bvs (qh (dB l)).1).toArray) w'') → CallV Tryd.prog 66 #[.slice (slBase o0 p0 36 1) 32 (p0 - 36)] w' K := fun {c' w' K} H hK => by
    have hm := H.D.mid (k := 36) (m := 32) (by omega)
    rw [Nat.mul_one, Nat.mul_one, ← bvs_drop, ← bvs_take, ← e36, ← n5] at hm
    refine hash19_c c' 5 (l := (qh (dB l)).1) (by rw [h32]; exact hm.mono (view_sub _ _ _)) (by omega) fun c'' w'' st => ?_
    rw [h32, Nat.sub_self, List.replicate_zero, List.append_nil]
    exact hK c'' w'' st
  have fin : ∀ {c' w' a6 TT}, RfI w o0 p0 l a2 a4 (.slice (slBase o0 p0 0 1) (l.length - 8) p0) c' w' → view c' 4 w' a6 = some (.cells TT 38 (0, 0)) → TT.size = 53 →
      RunU Tryd.prog (storeVar 38 (⟨a6, 0, none⟩ : Addr) (.agg (mcl ((qk (dB l)).1 : Nat) ((qf (dB l)).1 : Nat) ((qt (dB l)).1 : Nat) (qn (dB l)).1 (qh (dB l)).1 0 0 zopL zanL nilV nilV).toArray)) w' fun w' => ref19_Read_K2 o0 l.length p0 (⟨a2, 0, none⟩ : Addr) (⟨a4, 0, none⟩ : Addr) (⟨a6, 0, none⟩ : Addr) w' R := fun {c' w' a6 TT} H b6 hT => by
    refine RunU.var b6 (by rw [List.size_toArray, mcl_len h4 h32 rfl rfl]; kernel_rfl) (by rw [hT, List.size_toArray, mcl_len h4 h32 rfl rfl]) ?_ fun w9 st9 b6 => ?_
    · rw [Array.all_eq_true']
      intro u hu
      exact mcl_one zop_one zan_one rfl rfl u (by simpa using hu)
    · replace H := H.go st9.step (by decide) (by decide)
      exact Rf_K2 h hl h91 H b6 hi
  have built := built_msg ((qk (dB l)).1 : Nat) ((qf (dB l)).1 : Nat) ((qt (dB l)).1 : Nat) (num (((dB l).drop 4).take 8)) (num (((dB l).drop 12).take 8)) (num (((dB l).drop 20).take 8)) (num (((dB l).drop 28).take 8)) (qh (dB l)).1 h32
  rw [← n4] at built
  refine ⟨?_, ?_⟩
  · refine num8 4 H (by omega) (TInt.mk ⟨sc _ b8 g1, sc _ b8 g2, sc _ b8 g3, ?_, ?_⟩) rfl
    · refine num8 12 H (by omega) (TInt.mk ⟨sc _ b8 g1, sc _ b8 g2, sc _ b8 g3, ?_, ?_⟩) rfl
      · refine num8 20 H (by omega) (TInt.mk ⟨sc _ b8 g1, sc _ b8 g2, sc _ b8 g3, ?_, ?_⟩) rfl
        · refine num8 28 H (by omega) (TInt.mk ⟨sc _ b8 g1, sc _ b8 g2, sc _ b8 g3, ?_, ?_⟩) rfl
          · refine hash H fun c6 w6 st6 => TAgg.mk ?_
            replace H := H.go st6 (by decide) (by decide); replace b8 := st6.sub (by decide) _ _ b8
            refine ⟨sc _ b8 g1, sc _ b8 g2, sc _ b8 g3, TCells.mk built ?_⟩
            refine AllocC.col c6 4 fun a6 c7 w7 st7 b6 _ => ?_
            replace H := H.go st7.step (by decide) (by decide); replace b8 := st7.step.sub (by decide) _ _ b8
            exact ⟨sc _ b8 g1, sc _ b8 g2, sc _ b8 g3, fin H b6 rfl⟩
          · refine AllocC.col c2 4 fun a6 c7 w7 st7 b6 _ => ?_
            replace H := H.go st7.step (by decide) (by decide); replace b8 := st7.step.sub (by decide) _ _ b8
            refine ⟨sc _ b8 g1, sc _ b8 g2, sc _ b8 g3, ?_⟩
            refine hash H fun c6 w6 st6 => TAgg.mk ?_
            replace H := H.go st6 (by decide) (by decide); replace b8 := st6.sub (by decide) _ _ b8; replace b6 := st6.sub (by decide) _ _ b6
            exact ⟨sc _ b8 g1, sc _ b8 g2, sc _ b8 g3, TCells.mk built (fin H b6 rfl)⟩
        · refine AllocC.col c2 4 fun a6 c7 w7 st7 b6 _ => ?_
          replace H := H.go st7.step (by decide) (by decide); replace b8 := st7.step.sub (by decide) _ _ b8
          refine ⟨sc _ b8 g1, sc _ b8 g2, sc _ b8 g3, ?_⟩
          refine num8 28 H (by omega) (TInt.mk ⟨sc _ b8 g1, sc _ b8 g2, sc _ b8 g3, ?_⟩) rfl
          refine hash H fun c6 w6 st6 => TAgg.mk ?_
          replace H := H.go st6 (by decide) (by decide); replace b8 := st6.sub (by decide) _ _ b8; replace b6 := st6.sub (by decide) _ _ b6
          exact ⟨sc _ b8 g1, sc _ b8 g2, sc _ b8 g3, TCells.mk built (fin H b6 rfl)⟩
      · refine AllocC.col c2 4 fun a6 c7 w7 st7 b6 _ => ?_
        replace H := H.go st7.step (by decide) (by decide); replace b8 := st7.step.sub (by decide) _ _ b8
        refine ⟨sc _ b8 g1, sc _ b8 g2, sc _ b8 g3, ?_⟩
        refine num8 20 H (by omega) (TInt.mk ⟨sc _ b8 g1, sc _ b8 g2, sc _ b8 g3, ?_⟩) rfl
        refine num8 28 H (by omega) (TInt.mk ⟨sc _ b8 g1, sc _ b8 g2, sc _ b8 g3, ?_⟩) rfl
        refine hash H fun c6 w6 st6 => TAgg.mk ?_
        replace H := H.go st6 (by decide) (by decide); replace b8 := st6.sub (by decide) _ _ b8; replace b6 := st6.sub (by decide) _ _ b6
        exact ⟨sc _ b8 g1, sc _ b8 g2, sc _ b8 g3, TCells.mk built (fin H b6 rfl)⟩
    · refine AllocC.col c2 4 fun a6 c7 w7 st7 b6 _ => ?_
      replace H := H.go st7.step (by decide) (by decide); replace b8 := st7.step.sub (by decide) _ _ b8
      refine ⟨sc _ b8 g1, sc _ b8 g2, sc _ b8 g3, ?_⟩
      refine num8 12 H (by omega) (TInt.mk ⟨sc _ b8 g1, sc _ b8 g2, sc _ b8 g3, ?_⟩) rfl
      refine num8 20 H (by omega) (TInt.mk ⟨sc _ b8 g1, sc _ b8 g2, sc _ b8 g3, ?_⟩) rfl
      refine num8 28 H (by omega) (TInt.mk ⟨sc _ b8 g1, sc _ b8 g2, sc _ b8 g3, ?_⟩) rfl
      refine hash H fun c6 w6 st6 => TAgg.mk ?_
      replace H := H.go st6 (by decide) (by decide); replace b8 := st6.sub (by decide) _ _ b8; replace b6 := st6.sub (by decide) _ _ b6
      exact ⟨sc _ b8 g1, sc _ b8 g2, sc _ b8 g3, TCells.mk built (fin H b6 rfl)⟩
  · refine AllocC.col c2 4 fun a6 c7 w7 st7 b6 _ => ?_
    replace H := H.go st7.step (by decide) (by decide); replace b8 := st7.step.sub (by decide) _ _ b8
    refine ⟨sc _ b8 g1, sc _ b8 g2, sc _ b8 g3, ?_⟩
    refine num8 4 H (by omega) (TInt.mk ⟨sc _ b8 g1, sc _ b8 g2, sc _ b8 g3, ?_⟩) rfl
    refine num8 12 H (by omega) (TInt.mk ⟨sc _ b8 g1, sc _ b8 g2, sc _ b8 g3, ?_⟩) rfl
    refine num8 20 H (by omega) (TInt.mk ⟨sc _ b8 g1, sc _ b8 g2, sc _ b8 g3, ?_⟩) rfl
    refine num8 28 H (by omega) (TInt.mk ⟨sc _ b8 g1, sc _ b8 g2, sc _ b8 g3, ?_⟩) rfl
    refine hash H fun c6 w6 st6 => TAgg.mk ?_
    replace H := H.go st6 (by decide) (by decide); replace b8 := st6.sub (by decide) _ _ b8; replace b6 := st6.sub (by decide) _ _ b6
    exact ⟨sc _ b8 g1, sc _ b8 g2, sc _ b8 g3, TCells.mk built (fin H b6 rfl)⟩
end

theorem Read19_c (c : Nat → Nat) (j : Nat) {w : World} {v : Value} {l : List UInt8} {R : Value → World → Prop} (hr : RdS (wv w) v 1 l.length (bvs l)) (hl : l.length ≤ 1000000) (h : RdOk c j w l R) :
    CallV Tryd.prog 19 #[v] w R := by
  obtain ⟨o0, p0, rfl⟩ := hr.form
  have D : RdS (view (fun _ => 0) 0 w) (.slice o0 l.length p0) 1 l.length (bvs l) := by rw [view0]; exact hr
  have S := Fr.start w
  refine ref19_Read_vc ?_
  unfold ref19_Read_VC
  refine AllocC.col (fun _ => 0) 3 fun a2 c1 w1 st1 b2 _ => ?_
  replace S := S.go st1.step (by decide) (by decide); replace D := D.mono (st1.step.sub (by decide))
  have b2 : view c1 3 w1 a2 = some (.cells (MsgR.zero.cells nilV nilV nilV nilV nilV).toArray 38 (0, 0)) := b2
  refine AllocC.col c1 1 fun a4 c2 w2 st2 b4 _ => ?_
  replace S := S.go st2.step (by decide) (by decide); replace D := D.mono (st2.step.sub (by decide)); replace b2 := st2.step.sub (by decide) _ _ b2
  refine RunU.var b4 (by kernel_rfl) rfl (by kernel_rfl) fun w3 st3 b4 => ?_
  replace S := S.go st3.step (by decide) (by decide); replace D := D.mono (st3.step.sub (by decide)); replace b2 := st3.step.sub (by decide) _ _ b2
  have b4 : view c2 1 w3 a4 = some (.cells (MsgR.zero.cells nilV nilV nilV nilV nilV).toArray 38 (0, 0)) := b4
  have hbl := dB_len l
  have B : RdS (view c2 0 w3) (.slice (slBase o0 p0 0 1) (l.length - 8) p0) 1 (dB l).length (bvs (dB l)) := by
    have := D.take (k := l.length - 8) (by omega)
    rw [Nat.mul_one, ← bvs_take] at this
    rw [hbl]; exact this
  have H : RfI w o0 p0 l a2 a4 (.slice (slBase o0 p0 0 1) (l.length - 8) p0) c2 w3 := ⟨S, D, B, b2, b4⟩
  refine BS.dec (fun hs => ?_) (fun hs => ?_)
  · unfold ref19_Read_K1
    exact BS.yes rfl (Rf_no h H fun hh => by have := ((okD_def l).1 hh).1; omega)
  · obtain ⟨x, hx⟩ := get_of_lt (l := l) (i := 0) (by omega)
    refine Req.bnd ⟨by omega, by omega⟩ (D.eltc (k := 0) (view_sub _ _ _) (u := bv x) (by rw [bvs_get, hx]; rfl) (TInt.mk ?_))
    by_cases h3 : x = 3
    · subst h3
      exact Rf_K1 h hl (by omega) hx H
    · have : (((x.toNat : Nat) : Int) != 3) = true := by
        simp only [bne_iff_ne, ne_eq]
        intro e
        exact h3 (UInt8.toNat_inj.1 (by rw [show (3 : UInt8).toNat = 3 from rfl]; omega))
      rw [this]
      unfold ref19_Read_K1
      exact BS.yes rfl (Rf_no h H fun hh => h3 (by have := ((okD_def l).1 hh).2.1; rw [hx] at this; simpa using this))
end Go.Proofs.YtdjgdcafmfheoaaDoor

/-
  Boxes: the document's list; the example; what comes in order.
-/
import Derived.Test.YtfploingelmpkaaBx4
set_option linter.unusedVariables false
set_option linter.unusedSimpArgs false
namespace Go.Vc
open Go
section
variable {α : Type} {P : View → α → List Value → Prop}
/-- a row of one's own that may begin anywhere in its block -/
def LsZ (P : View → α → List Value → Prop) (T z : Nat) (h h' : View) (v : Value) (l : List α) : Prop := ∃ xs, OwZ h v T z l.length xs ∧ ∀ (i : Nat) (a : α), l[i]? = some a → P h' a ((xs.drop (i * z)).take z)
theorem LsZ.mono' {T z : Nat} {h g h' g' : View} {v : Value} {l : List α} (hP : ∀ a es, P g a es → P g' a es) (hl : LsZ P T z h g v l) (hs : Sub h h') : LsZ P T z h' g' v l := by
  obtain ⟨xs, hr, hx⟩ := hl
  exact ⟨xs, hr.mono hs, fun i a hi => hP _ _ (hx i a hi)⟩
theorem LsZ.form {T z : Nat} {h g : View} {v : Value} {l : List α} (hl : LsZ P T z h g v l) : ∃ o c, v = .slice o l.length c := by
  obtain ⟨xs, hr, hx⟩ := hl; exact hr.form
theorem LsZ.len {T z : Nat} {h g : View} {o : Option Addr} {n c : Nat} {l : List α} (hl : LsZ P T z h g (.slice o n c) l) : n = l.length ∧ l.length ≤ c := by
  obtain ⟨xs, hr, hx⟩ := hl; exact ⟨hr.len.1, hr.len.2.1⟩
theorem LsZ.nil (T z : Nat) (h g : View) : LsZ P T z h g (.slice none 0 0) ([] : List α) := ⟨[], OwZ.of (OwS.nil ..), fun i a h => by simp at h⟩
theorem LsZ.at {T z : Nat} (hz : 0 < z) {h g : View} {o : Option Addr} {n c : Nat} {l : List α} (hl : LsZ P T z h g (.slice o n c) l) {i : Nat} {a : α} (hi : l[i]? = some a) : ∃ es, P g a es ∧ Elt h o z i es := by
  obtain ⟨xs, hr, hx⟩ := hl
  exact LsV.at (P := fun _ => P g) hz ⟨xs, hr.rd, hx⟩ hi
theorem LsZ.drop {T z : Nat} {h g : View} {o : Option Addr} {n c : Nat} {l : List α} (hl : LsZ P T z h g (.slice o n c) l) {k : Nat} (hk : k ≤ l.length) : LsZ P T z h g (.slice (slBase o c k z) (n - k) (c - k)) (l.drop k) := by
  obtain ⟨xs, hr, hx⟩ := hl
  refine ⟨_, by rw [List.length_drop]; exact hr.drop hk, fun i a hi => ?_⟩
  rw [slot_drop]
  exact hx _ a (by rw [List.getElem?_drop] at hi; exact hi)
theorem LsZ.app {Pr : Program} {t e z by' ty : Nat} (hT : SlT Pr t e z by') {c : Nat → Nat} {i : Nat} {g : View} {w : World} {s x : Value} {l m : List α} (hl : LsZ P e z (view c i w) g s l) (hr : LsW P z (wv w) g x m) (hm0 : 0 < m.length)
    (h1 : ∀ a es, P g a es → ∀ u ∈ es, u.oneCell' = true) (hb : (l.length + m.length) * by' ≤ 140737488355328) (hm : l.length + m.length ≤ 140737488355328) {K : Value → World → Prop}
    (h : ∀ o cp c' w' r, Wr c i w c' w' r → LsZ P e z (view c' i w') g (.slice o (l ++ m).length cp) (l ++ m) → K (.slice o (l ++ m).length cp) w') :
    RunV Pr (Builtin.append_ #[t, t] ty #[s, x]) w K := by
  obtain ⟨xs, ho, hx⟩ := hl
  obtain ⟨ys, hy, hyx⟩ := hr
  have hxl := ho.1
  have hyl : ys.length = m.length * z := by obtain ⟨_, _, rfl⟩ := hy.form; exact hy.len.2.2
  refine appZ hT ho hy hm0 (fun u hu => ?_) hb hm fun v' c' w' r hW _ ho' => ?_
  · obtain ⟨k, hk⟩ := List.getElem?_of_mem hu
    have hkl := lt_of_get hk
    rw [hyl] at hkl
    have hq : k / z < m.length := Nat.div_lt_of_lt_mul (by rwa [Nat.mul_comm])
    obtain ⟨a, ha⟩ := get_of_lt hq
    refine h1 a _ (hyx _ a ha) u ?_
    refine List.mem_of_getElem? (i := k % z) ?_
    have hzp := Nat.mod_lt k hT.pos
    rw [List.getElem?_take, if_pos hzp, List.getElem?_drop]
    have : k / z * z + k % z = k := by rw [Nat.mul_comm]; exact Nat.div_add_mod k z
    rw [this]; exact hk
  · rw [← List.length_append] at ho'
    obtain ⟨o, cp, rfl⟩ := ho'.form
    refine h o cp c' w' r hW ⟨xs ++ ys, ho', fun i a hi => ?_⟩
    rcases Nat.lt_or_ge i l.length with hlt | hge
    · rw [List.getElem?_append_left hlt] at hi
      have : ((xs ++ ys).drop (i * z)).take z = (xs.drop (i * z)).take z := by
        have h2 : (i + 1) * z ≤ l.length * z := Nat.mul_le_mul_right _ hlt
        rw [Nat.succ_mul] at h2
        rw [List.drop_append_of_le_length (by omega), List.take_append_of_le_length (by rw [List.length_drop]; omega)]
      rw [this]; exact hx i a hi
    · rw [List.getElem?_append_right hge] at hi
      have : ((xs ++ ys).drop (i * z)).take z = (ys.drop ((i - l.length) * z)).take z := by
        have h2 : l.length * z ≤ i * z := Nat.mul_le_mul_right _ hge
        rw [List.drop_append, List.drop_eq_nil_of_le (by omega), List.nil_append, hxl, Nat.sub_mul]
      rw [this]; exact hyx _ a hi
end
theorem mV_mild (k : Int) (v : Nat) : (mV k v).mild := by unfold MsgR.mild mV OpR.zero AnsR.zero; simp
end Go.Vc
namespace Go.Proofs.Ytfploingelmpkaa
open Go.Vc
attribute [local irreducible] TInt TBool TStr TPtr TSl TAgg TMap TChan T2 T3 T4 BS Req TSome TCell TByte LoadC LoadA StoreC AllocC RunV RunU CallV ExtV EqA StableC StableA StableV TCells ReadV
attribute [local irreducible] DrewC
/-- the document's box: its variable in colour i, the list in k, what the messages tell in z -/
def RfB (c : Nat → Nat) (i k z : Nat) (w : World) (a : Addr) (room : Int) (L : List MsgR) : Prop :=
  ∃ b v, a = ⟨b, 0, none⟩ ∧ view c i w b = some (.cells #[.int .i64 room, v] 53 (0, 0)) ∧ LsZ MsgP 37 53 (view c k w) (view c z w) v L
theorem RfB.go {c c' : Nat → Nat} {i k z : Nat} {w w' : World} {W N : List Nat} {a : Addr} {room : Int} {L : List MsgR} (H : RfB c i k z w a room L) (st : Step c W N w c' w') (hW : i ∉ W ∧ k ∉ W ∧ z ∉ W) : RfB c' i k z w' a room L := by
  obtain ⟨b, v, e, hb, hl⟩ := H
  exact ⟨b, v, e, st.sub hW.1 _ _ hb, hl.mono' (fun _ _ hp => hp.mono (st.sub hW.2.2)) (st.sub hW.2.1)⟩
theorem Put_r {c : Nat → Nat} {i k z : Nat} (t : Nat) {w : World} {a : Addr} {room : Int} {L : List MsgR} {m : MsgR} {v va ua vh vb : Value} {R : Value → World → Prop} (hik : i ≠ k) (hzi : z ≠ i) (hzk : z ≠ k) (H : RfB c i k z w a room L) (M : MsgV (view c z w) m v va ua vh vb) (hok : m.ok) (hL : L.length ≤ 5000)
    (h : ∀ c' w', Step c [i, k] [k, t] w c' w' → RfB c' i k z w' a room (if (L.length : Int) < room then L ++ [m] else L) → R (.bool (decide ((L.length : Int) < room))) w') :
    CallV Try.prog 15 #[.pointer (some a), .agg (m.cells v va ua vh vb).toArray] w R := by
  have fik : i ∉ [k] := by simpa using hik
  have fki : k ∉ [i] := by simpa using Ne.symm hik
  have fzk : z ∉ [k] := by simpa using hzk
  have fzi : z ∉ [i] := by simpa using hzi
  refine ref22_Box_Put_vc ?_
  unfold ref22_Box_Put_VC
  refine AllocC.col c t fun a3 c1 w1 st1 b3 _ => ?_
  replace H := H.go st1.fresh ⟨by simp, by simp, by simp⟩
  replace M := M.mono (st1.fresh.sub (by simp))
  have st : Step c [i, k] [k, t] w c1 w1 := st1.fresh.weak (by simp) (by simp)
  refine DrewC.col c1 fun w2 st2 => ?_
  replace H := H.go st2 ⟨by simp, by simp, by simp⟩
  replace M := M.mono (st2.sub (by simp))
  replace b3 := st2.sub (by simp) _ _ b3
  replace st := st.trans (st2.weak (by simp) (by simp))
  have H0 := H
  obtain ⟨b, v0, rfl, hb, hl⟩ := H
  obtain ⟨o0, p0, rfl⟩ := hl.form
  refine LoadC.ad (view_sub _ _ _) _ hb rfl (TSl.mk ?_)
  refine LoadC.ad (view_sub _ _ _) _ hb rfl (TInt.mk ?_)
  refine BS.dec (fun hfull => ?_) (fun hroom => ?_)
  · have := h c1 w2 st
    rw [if_neg (by omega), decide_eq_false (by omega)] at this
    exact this H0
  clear H0
  refine DrewC.col c1 fun w3 st3 => ?_
  replace hb := st3.sub (by simp) _ _ hb
  replace hl := hl.mono' (fun _ _ hp => hp.mono (st3.sub (by simp))) (st3.sub (by simp))
  replace M := M.mono (st3.sub (by simp))
  replace b3 := st3.sub (by simp) _ _ b3
  replace st := st.trans (st3.weak (by simp) (by simp))
  refine LoadC.ad (view_sub _ _ _) _ hb rfl (TSl.mk ?_)
  refine LoadA.all (view_sub _ _ _) b3 (msg_sz hok) ?_
  refine Req.mk' (by rw [msg_sz hok]; rfl) ?_
  refine AllocC.col c1 t fun a21 c4 w4 st4 b21 _ => ?_
  replace hb := st4.fresh.sub (by simp) _ _ hb
  replace hl := hl.mono' (fun _ _ hp => hp.mono (st4.fresh.sub (by simp))) (st4.fresh.sub (by simp))
  replace M := M.mono (st4.fresh.sub (by simp))
  replace st := st.trans (st4.fresh.weak (by simp) (by simp))
  refine ⟨StableC.ad (view_sub _ _ _) hb rfl, ?_⟩
  have one : LsW MsgP 53 (wv w4) (view c4 z w4) (.slice (some ⟨a21, 0, none⟩) 1 1) [m] := LsW.one (view_sub _ _ _ _ _ b21) (by have := msg_sz hok (v := v) (va := va) (ua := ua) (vh := vh) (vb := vb); simpa using this) ⟨v, va, ua, vh, vb, rfl, M, hok⟩
  refine LsZ.app slMsg hl one (by simp) (fun _ _ hp => hp.ones) (by simp; omega) (by simp; omega) fun o5 p5 c5 w5 r hW l5 => TSl.mk ?_
  replace hb := hW.step.sub fik _ _ hb
  replace l5 := l5.mono' (fun _ _ hp => hp.mono (hW.step.sub fzk)) (fun _ _ h => h)
  replace st := st.trans (hW.step.weak (by simp) (by simp))
  refine StoreC.ad hb (by simp) fun w6 _ st6 hb => ?_
  have := h c5 w6 (st.trans (st6.weak (by simp) (by simp)))
  rw [if_pos (by omega), decide_eq_true (by omega)] at this
  exact this ⟨b, _, rfl, hb, l5.mono' (fun _ _ hp => hp.mono (st6.sub fzi)) (st6.sub fki)⟩
theorem Take_r {c : Nat → Nat} {i k z : Nat} (t r : Nat) {w : World} {a : Addr} {room : Int} {L : List MsgR} {R : Value → World → Prop} (hh : [i, k, z, t, r].Nodup) (H : RfB c i k z w a room L)
    (h : ∀ x xa ya xh xb c' w', Step c [i] [t, r] w c' w' → RfB c' i k z w' a room L.tail → MsgV (view c' z w') (L.headD MsgR.zero) x xa ya xh xb → R (.tuple #[.agg ((L.headD MsgR.zero).cells x xa ya xh xb).toArray, .bool (!L.isEmpty)]) w') :
    CallV Try.prog 13 #[.pointer (some a)] w R := by
  simp only [List.nodup_cons, List.mem_cons, List.not_mem_nil, or_false, not_or, List.nodup_nil, not_false_eq_true, and_true] at hh
  obtain ⟨⟨ik, iz, it, ir⟩, ⟨kz, kt, kr⟩, ⟨zt, zr⟩, tr⟩ := hh
  have fki : k ∉ [i] := by simpa using Ne.symm ik
  have fzi : z ∉ [i] := by simpa using Ne.symm iz
  have fti : t ∉ [i] := by simpa using Ne.symm it
  have fri : r ∉ [i] := by simpa using Ne.symm ir
  have gt : i ∉ [t] ∧ k ∉ [t] ∧ z ∉ [t] := ⟨by simpa using it, by simpa using kt, by simpa using zt⟩
  have gr : i ∉ [r] ∧ k ∉ [r] ∧ z ∉ [r] := ⟨by simpa using ir, by simpa using kr, by simpa using zr⟩
  have ftr : t ∉ [r] := by simpa using tr
  clear ik iz it ir kz kt kr zt zr tr
  refine ref22_Box_Take_vc ?_
  unfold ref22_Box_Take_VC
  refine AllocC.col c t fun a2 c1 w1 st1 b2 hnew2 => ?_
  have sz2 : w.heap.size ≤ a2 := size_le_of_none hnew2
  replace H := H.go st1.fresh ⟨by simp, by simp, by simp⟩
  have st : Step c [i] [t, r] w c1 w1 := st1.fresh.weak (by simp) (by simp)
  have H0 := H
  obtain ⟨b, v0, rfl, hb, hl⟩ := H
  obtain ⟨o0, p0, rfl⟩ := hl.form
  refine LoadC.ad (view_sub _ _ _) _ hb rfl (TSl.mk ?_)
  match L, hl with
  | [], hl =>
    refine BS.yes rfl ?_
    refine RunU.msg (m := MsgR.zero) (v := nilV) (va := nilV) (ua := nilV) (vh := nilV) (vb := nilV) b2 rfl (MsgV.zero (wv w1)) zero_ok fun w6 st6 b2 => ?_
    refine LoadA.all (view_sub _ _ _) b2 (msg_sz zero_ok) ?_
    exact h nilV nilV nilV nilV nilV c1 w6 (st.wr_new st6 sz2) (H0.go st6.step gt) (MsgV.zero _)
  | m :: L, hl =>
    clear H0
    refine BS.no (by simp; omega) ?_
    refine LoadC.ad (view_sub _ _ _) _ hb rfl (TSl.mk ?_)
    obtain ⟨es, ⟨v, va, ua, vh, vb, rfl, M, ok⟩, E⟩ := LsZ.at (by omega) hl (i := 0) (a := m) rfl
    refine Req.bnd ⟨by omega, by simp⟩ (E.all (view_sub _ _ _) ?_)
    clear E
    refine AllocC.col c1 r fun a4 c3 w3 st3 b4 hnew4 => ?_
    have sz4 : w.heap.size ≤ a4 := Nat.le_trans st.size (size_le_of_none hnew4)
    replace hb := st3.fresh.sub (by simp) _ _ hb
    replace hl := hl.mono' (fun _ _ hp => hp.mono (st3.fresh.sub (by simp))) (st3.fresh.sub (by simp))
    replace M := M.mono (st3.fresh.sub (by simp))
    replace b2 := st3.fresh.sub (by simp) _ _ b2
    replace st := st.trans (st3.fresh.weak (by simp) (by simp))
    refine RunU.msg b4 rfl M ok fun w4 st4 b4 => ?_
    replace hb := st4.step.sub gr.1 _ _ hb
    replace hl := hl.mono' (fun _ _ hp => hp.mono (st4.step.sub gr.2.2)) (st4.step.sub gr.2.1)
    replace M := M.mono (st4.step.sub gr.2.2)
    replace b2 := st4.step.sub ftr _ _ b2
    replace st := st.wr_new st4 sz4
    refine LoadC.ad (view_sub _ _ _) _ hb rfl (TSl.mk ?_)
    have hlen := hl.len
    refine Req.bndle ⟨by omega, by simp; omega⟩ ?_
    have hl2 := hl.drop (k := 1) (by simp)
    refine StoreC.ad hb (by simp) fun w5 _ st5 hb => ?_
    replace hl2 := hl2.mono' (fun _ _ hp => hp.mono (st5.sub fzi)) (st5.sub fki)
    replace M := M.mono (st5.sub fzi)
    replace b2 := st5.sub fti _ _ b2
    replace b4 := st5.sub fri _ _ b4
    replace st := st.trans (st5.weak (by simp) (by simp))
    have H1 : RfB c3 i k z w5 ⟨b, 0, none⟩ room L := ⟨b, _, rfl, hb, hl2⟩
    refine LoadA.all (view_sub _ _ _) b4 (msg_sz ok) ?_
    refine RunU.msg b2 rfl M ok fun w6 st6 b2 => ?_
    refine LoadA.all (view_sub _ _ _) b2 (msg_sz ok) ?_
    exact h v va ua vh vb c3 w6 (st.wr_new st6 sz2) (H1.go st6.step gt) (M.mono (st6.step.sub gt.2.2))
end Go.Proofs.Ytfploingelmpkaa

/-
  Boxes: how they lie; each function of the program's once.
-/
import Derived.Test.YtfploingelmpkaaBx3
set_option linter.unusedVariables false
set_option linter.unusedSimpArgs false
namespace Go.Vc
open Go
def agg (es : List Value) : Value := .agg es.toArray
def aggs (ess : List (List Value)) : Array Value := (ess.map agg).toArray
theorem aggs_size (ess : List (List Value)) : (aggs ess).size = ess.length := by simp [aggs]
theorem aggs_push (ess : List (List Value)) (es : List Value) : (aggs ess).push (.agg es.toArray) = aggs (ess ++ [es]) := by simp [aggs, agg]
theorem aggs_head (es : List Value) (ess : List (List Value)) : (aggs (es :: ess)).getD 0 undef = .agg es.toArray := by simp [aggs, agg]
theorem aggs_tail (es : List Value) (ess : List (List Value)) : (aggs (es :: ess)).extract 1 (aggs (es :: ess)).size = aggs ess := by
  simp [aggs]
  rw [List.take_of_length_le (by simp)]
end Go.Vc
namespace Go.Proofs.Ytfploingelmpkaa
open Go.Vc
attribute [local irreducible] TInt TBool TStr TPtr TSl TAgg TMap TChan T2 T3 T4 BS Req TSome TCell TByte LoadC LoadA StoreC AllocC RunV RunU CallV ExtV EqA StableC StableA StableV TCells ReadV
attribute [local irreducible] DrewC
/-- a box: its variable and its channel in colour i, what the messages tell in d -/
def BoxV (c : Nat → Nat) (i d : Nat) (w : World) (a : Addr) (room : Nat) (L : List MsgR) : Prop :=
  ∃ b ch s r ess, a = ⟨b, 0, none⟩ ∧ view c i w b = some (.cells #[.chan (some ch)] 63 (0, 0)) ∧ view c i w ch = some (.chan room (aggs ess) false s r false) ∧ All2 (MsgP (view c d w)) L ess ∧ L.length ≤ room
theorem BoxV.go {c c' : Nat → Nat} {i d : Nat} {w w' : World} {W N : List Nat} {a : Addr} {room : Nat} {L : List MsgR} (H : BoxV c i d w a room L) (st : Step c W N w c' w') (hW : i ∉ W ∧ d ∉ W) : BoxV c' i d w' a room L := by
  obtain ⟨b, ch, s, r, ess, e, hb, hc, hl, hr⟩ := H
  exact ⟨b, ch, s, r, ess, e, st.sub hW.1 _ _ hb, st.sub hW.1 _ _ hc, hl.mono fun _ _ hp => hp.mono (st.sub hW.2), hr⟩
theorem BoxV.room {c : Nat → Nat} {i d : Nat} {w : World} {a : Addr} {room : Nat} {L : List MsgR} (H : BoxV c i d w a room L) : L.length ≤ room := by
  obtain ⟨b, ch, s, r, ess, e, hb, hc, hl, hr⟩ := H; exact hr
theorem all2_ok {L : List MsgR} {h : View} {ess : List (List Value)} (H : All2 (MsgP h) L ess) : ∀ m ∈ L, m.ok := by
  induction L generalizing ess with
  | nil => intro m hm; simp at hm
  | cons a l ih =>
    cases ess with
    | nil => exact H.elim
    | cons e er =>
      obtain ⟨⟨_, _, _, _, _, _, _, ok⟩, h2⟩ := H
      intro m hm
      rcases List.mem_cons.1 hm with rfl | hm
      · exact ok
      · exact ih h2 m hm
theorem BoxV.all {c : Nat → Nat} {i d : Nat} {w : World} {a : Addr} {room : Nat} {L : List MsgR} (H : BoxV c i d w a room L) : ∀ m ∈ L, m.ok := by
  obtain ⟨b, ch, s, r, ess, e, hb, hc, hl, hr⟩ := H; exact all2_ok hl
theorem bx_ne {h : View} {b ch cap s r : Nat} {cs buf : Array Value} {T : Nat} {fz : Nat × Nat} {cl tm : Bool} (hb : h b = some (.cells cs T fz)) (hc : h ch = some (.chan cap buf cl s r tm)) : (some ch : Option Nat) ≠ some b := by
  intro e
  cases e
  rw [hb] at hc; simp at hc
theorem chanT : ∃ d, Try.prog.underlying 61 = some (.chan d 37) := ⟨_, Try.underlying61⟩
theorem msgInfo : ∃ info, Try.prog.info? 37 = some info ∧ info.bytes = 296 := by
  have h : (Try.prog.info? 37).map (·.bytes) = some 296 := by kernel_rfl
  cases hq : Try.prog.info? 37 with
  | none => rw [hq] at h; simp at h
  | some i => exact ⟨i, rfl, by rw [hq] at h; simpa using h⟩
theorem New_b (c : Nat → Nat) (i d : Nat) {w : World} {n : Int} {R : Value → World → Prop}
    (hbad : ¬ (1 ≤ n ∧ n ≤ 4096) → R (.tuple #[.pointer none, .int .i64 1]) w)
    (h : 1 ≤ n ∧ n ≤ 4096 → ∀ a c' w', Step c [] [i] w c' w' → BoxV c' i d w' a n.toNat [] → R (.tuple #[.pointer (some a), .int .i64 0]) w') : CallV Try.prog 8 #[.int .i64 n] w R := by
  refine box_New_vc ?_
  unfold box_New_VC
  refine BS.dec (fun h1 => hbad (by omega)) (fun h1 => ?_)
  unfold box_New_K1
  refine BS.dec (fun h2 => hbad (by omega)) (fun h2 => ?_)
  obtain ⟨k, rfl⟩ : ∃ k : Nat, n = (k : Int) := ⟨n.toNat, by omega⟩
  obtain ⟨dd, hu⟩ := chanT
  obtain ⟨info, hi, hb⟩ := msgInfo
  refine MakeC.col c i hu hi (by rw [hb]; omega) (by omega) fun ch c1 w1 st1 hc _ => TChan.mk ?_
  refine AllocC.col c1 i fun b c2 w2 st2 hb _ => ?_
  refine h (by omega) _ c2 w2 (st1.fresh.trans st2.fresh) ⟨b, ch, 0, 0, [], rfl, hb, st2.sub _ _ hc, trivial, Nat.zero_le _⟩
theorem Len_b {c : Nat → Nat} {i d : Nat} {w : World} {a : Addr} {room : Nat} {L : List MsgR} {R : Value → World → Prop} (H : BoxV c i d w a room L) (h : R (.int .i64 (L.length : Int)) w) : CallV Try.prog 12 #[.pointer (some a)] w R := by
  obtain ⟨b, ch, s, r, ess, rfl, hb, hc, hl, hr⟩ := H
  obtain ⟨dd, hu⟩ := chanT
  refine box_Box_Len_vc ?_
  unfold box_Box_Len_VC
  refine LoadC.ad (view_sub _ _ _) _ hb rfl (TChan.mk ?_)
  refine LenC.at (view_sub _ _ _) hu hc (TInt.mk ?_)
  rw [aggs_size, ← hl.length]; exact h
theorem Put_b {c : Nat → Nat} {i d : Nat} (t : Nat) {w : World} {a : Addr} {room : Nat} {L : List MsgR} {m : MsgR} {v va ua vh vb : Value} {R : Value → World → Prop} (hid : i ≠ d) (H : BoxV c i d w a room L) (hM : MsgV (wv w) m v va ua vh vb) (hok : m.ok) (hmild : m.mild)
    (h : ∀ c' w', Step c [i] [d, t] w c' w' → BoxV c' i d w' a room (if L.length < room then L ++ [m] else L) → R (.int .i64 (if L.length < room then 0 else 220)) w') :
    CallV Try.prog 9 #[.pointer (some a), .agg (m.cells v va ua vh vb).toArray] w R := by
  have di : d ∉ [i] := by simpa using Ne.symm hid
  refine box_Box_Put_vc ?_
  unfold box_Box_Put_VC
  refine AllocC.col c t fun a3 c1 w1 st1 b3 _ => ?_
  replace H := H.go st1.fresh ⟨by simp, by simp⟩
  replace hM := hM.mono st1.fresh.wv
  have st : Step c [i] [d, t] w c1 w1 := st1.fresh.weak (by simp) (by simp)
  obtain ⟨b, ch, s, r, ess, rfl, hb, hc, hl, hr⟩ := H
  refine LoadC.ad (view_sub _ _ _) _ hb rfl (TChan.mk ?_)
  refine LoadA.all (view_sub _ _ _) b3 (msg_sz hok) ?_
  refine copied_c c1 d hM hok hmild fun v' va' ua' vh' vb' c2 w2 st2 M => TAgg.mk ?_
  replace hb := st2.sub (by simp) _ _ hb
  replace hc := st2.sub (by simp) _ _ hc
  replace hl := hl.mono fun _ _ hp => hp.mono (st2.sub (i := d) (by simp))
  replace st := st.trans (st2.weak (by simp) (by simp))
  by_cases hroom : L.length < room
  · rw [if_pos hroom] at h
    rw [if_pos hroom] at h
    refine SelS.room hc (by rw [aggs_size, ← hl.length]; exact hroom) fun w3 s' hW st3 hc' => BS.yes rfl ?_
    rw [aggs_push] at hc'
    refine h c2 w3 (st.trans (st3.weak (by simp) (by simp))) ⟨b, ch, s', r, _, rfl, hW.old _ _ hb (bx_ne hb hc), hc', ?_, by simp; omega⟩
    · exact (hl.snoc ⟨v', va', ua', vh', vb', rfl, M, hok⟩).mono fun _ _ hp => hp.mono (st3.sub (i := d) di)
  · rw [if_neg hroom] at h
    rw [if_neg hroom] at h
    refine SelS.full hc (by rw [aggs_size, ← hl.length]; omega) (BS.no rfl ?_)
    exact h c2 w2 st ⟨b, ch, s, r, ess, rfl, hb, hc, hl, hr⟩
theorem headD_eq {L : List MsgR} : (L.headD MsgR.zero) = match L with | [] => MsgR.zero | m :: _ => m := by cases L <;> rfl
theorem Take_b {c : Nat → Nat} {i d : Nat} (t r : Nat) {w : World} {a : Addr} {room : Nat} {L : List MsgR} {R : Value → World → Prop} (hh : [i, d, t, r].Nodup) (H : BoxV c i d w a room L)
    (h : ∀ x xa ya xh xb c' w', Step c [i] [t, r] w c' w' → BoxV c' i d w' a room L.tail → MsgV (view c' d w') (L.headD MsgR.zero) x xa ya xh xb → (L.headD MsgR.zero).ok → R (.tuple #[.agg ((L.headD MsgR.zero).cells x xa ya xh xb).toArray, .bool (!L.isEmpty)]) w') :
    CallV Try.prog 10 #[.pointer (some a)] w R := by
  simp only [List.nodup_cons, List.mem_cons, List.not_mem_nil, or_false, not_or, List.nodup_nil, not_false_eq_true, and_true] at hh
  obtain ⟨⟨id', it, ir⟩, ⟨dt, dr⟩, tr⟩ := hh
  have di : d ∉ [i] := by simpa using Ne.symm id'
  have ti : t ∉ [i] := by simpa using Ne.symm it
  have irr : i ∉ [r] := by simpa using ir
  have drr : d ∉ [r] := by simpa using dr
  have itt : i ∉ [t] := by simpa using it
  have dtt : d ∉ [t] := by simpa using dt
  have trr : t ∉ [r] := by simpa using tr
  clear id' it ir dt dr tr
  refine box_Box_Take_vc ?_
  unfold box_Box_Take_VC
  refine AllocC.col c t fun a2 c1 w1 st1 b2 hnew2 => ?_
  have sz2 : w.heap.size ≤ a2 := size_le_of_none hnew2
  replace H := H.go st1.fresh ⟨by simp, by simp⟩
  have st : Step c [i] [t, r] w c1 w1 := st1.fresh.weak (by simp) (by simp)
  have H0 := H
  obtain ⟨b, ch, s, rc, ess, rfl, hb, hc, hl, hr⟩ := H
  refine LoadC.ad (view_sub _ _ _) _ hb rfl (TChan.mk ?_)
  match L, ess, hl with
  | [], [], hl =>
    refine SelR.not hc (by simp [aggs]) (BS.no rfl ?_)
    refine RunU.msg (m := MsgR.zero) (v := nilV) (va := nilV) (ua := nilV) (vh := nilV) (vb := nilV) b2 rfl (MsgV.zero (wv w1)) zero_ok fun w6 st6 b2 => ?_
    refine LoadA.all (view_sub _ _ _) b2 (msg_sz zero_ok) ?_
    exact h nilV nilV nilV nilV nilV c1 w6 (st.wr_new st6 sz2) (H0.go st6.step ⟨itt, dtt⟩) (MsgV.zero _) zero_ok
  | m :: L, es :: ess, hl =>
    obtain ⟨⟨v, va, ua, vh, vb, rfl, M, ok⟩, hl⟩ := hl
    refine SelR.has hc (by simp [aggs]) fun w2 r' hW st2 hc' => ?_
    rw [aggs_head]
    rw [aggs_tail] at hc'
    refine BS.yes rfl ?_
    have hb2 := hW.old _ _ hb (bx_ne hb hc)
    have H1 : BoxV c1 i d w2 ⟨b, 0, none⟩ room L := ⟨b, ch, s, r', ess, rfl, hb2, hc', hl.mono fun _ _ hp => hp.mono (st2.sub (i := d) di), by simp at hr; omega⟩
    replace M := M.mono (st2.sub (i := d) di)
    replace b2 := st2.sub ti _ _ b2
    replace st := st.trans (st2.weak (by simp) (by simp))
    refine AllocC.col c1 r fun a4 c3 w3 st3 b4 hnew4 => ?_
    have sz4 : w.heap.size ≤ a4 := Nat.le_trans st.size (size_le_of_none hnew4)
    replace H1 := H1.go st3.fresh ⟨by simp, by simp⟩
    replace M := M.mono (st3.fresh.sub (by simp))
    replace b2 := st3.fresh.sub (by simp) _ _ b2
    replace st := st.trans (st3.fresh.weak (by simp) (by simp))
    refine RunU.msg b4 rfl M ok fun w4 st4 b4 => ?_
    replace H1 := H1.go st4.step ⟨irr, drr⟩
    replace M := M.mono (st4.step.sub drr)
    replace b2 := st4.step.sub trr _ _ b2
    replace st := st.wr_new st4 sz4
    refine LoadA.all (view_sub _ _ _) b4 (msg_sz ok) ?_
    refine RunU.msg b2 rfl M ok fun w5 st5 b2 => ?_
    replace H1 := H1.go st5.step ⟨itt, dtt⟩
    replace M := M.mono (st5.step.sub dtt)
    replace st := st.wr_new st5 sz2
    refine LoadA.all (view_sub _ _ _) b2 (msg_sz ok) ?_
    exact h v va ua vh vb c3 w5 st H1 M ok
theorem Drain_b {c : Nat → Nat} {i d k : Nat} (t : Nat) {w : World} {a : Addr} {room : Nat} {L : List MsgR} {R : Value → World → Prop} (hh : [i, d, k, t].Nodup) (hroom : room ≤ 4096) (H : BoxV c i d w a room L)
    (h : ∀ o p c' w', Step c [i, k, t] [k, t] w c' w' → BoxV c' i d w' a room [] → LsO MsgP 37 53 (view c' k w') (view c' d w') (.slice o L.length p) L → R (.slice o L.length p) w') :
    CallV Try.prog 14 #[.pointer (some a)] w R := by
  simp only [List.nodup_cons, List.mem_cons, List.not_mem_nil, or_false, not_or, List.nodup_nil, not_false_eq_true, and_true] at hh
  obtain ⟨⟨id', ik, it⟩, ⟨dk, dt⟩, kt⟩ := hh
  have di : d ∉ [i] := by simpa using Ne.symm id'
  have ki : k ∉ [i] := by simpa using Ne.symm ik
  have f1 : i ∉ [t] ∧ d ∉ [t] := ⟨by simpa using it, by simpa using dt⟩
  have f2 : i ∉ [k] ∧ d ∉ [k] := ⟨by simpa using ik, by simpa using dk⟩
  have f3 : k ∉ [t] := by simpa using kt
  clear id' ik it dk dt kt
  have hL := H.room
  refine box_Box_Drain_vc ?_
  unfold box_Box_Drain_VC
  refine LoopS.up L.length (fun j o l p w' => ∃ c', Step c [i, k, t] [k, t] w c' w' ∧ BoxV c' i d w' a room (L.drop j) ∧ LsO MsgP 37 53 (view c' k w') (view c' d w') (.slice o l p) (L.take j)) ⟨c, .refl .., by rw [List.drop_zero]; exact H, by rw [List.take_zero]; exact LsO.nil ..⟩ ?_
  clear H
  rintro j o l p w1 B hj ⟨c1, st, H, T⟩ back
  obtain ⟨b, ch, s, rc, ess, rfl, hb, hc, hl, hr⟩ := H
  have hlen := T.len
  refine LoadC.ad (view_sub _ _ _) _ hb rfl (TChan.mk ?_)
  by_cases hlt : j < L.length
  · obtain ⟨m, hm⟩ := get_of_lt hlt
    have hd : L.drop j = m :: L.drop (j + 1) := by
      have := List.drop_eq_getElem_cons (l := L) (i := j) hlt
      rw [this]; congr 1
      rw [List.getElem?_eq_getElem hlt] at hm
      simpa using hm
    have ht : L.take (j + 1) = L.take j ++ [m] := by rw [List.take_add_one, hm]; rfl
    rw [hd] at hl
    match ess, hl with
    | es :: ess, hl =>
    obtain ⟨⟨v, va, ua, vh, vb, rfl, M, ok⟩, hl⟩ := hl
    refine SelR.has hc (by simp [aggs]) fun w2 r' hW st2 hc' => ?_
    rw [aggs_head]
    rw [aggs_tail] at hc'
    refine BS.yes rfl ?_
    have hb2 := hW.old _ _ hb (bx_ne hb hc)
    have H1 : BoxV c1 i d w2 ⟨b, 0, none⟩ room (L.drop (j + 1)) := ⟨b, ch, s, r', ess, rfl, hb2, hc', hl.mono fun _ _ hp => hp.mono (st2.sub (i := d) di), by rw [List.length_drop]; omega⟩
    replace M := M.mono (st2.sub (i := d) di)
    replace T := T.mono' (fun _ _ hp => hp.mono (st2.sub (i := d) di)) (st2.sub ki)
    replace st := st.trans (st2.weak (by simp) (by simp))
    refine AllocC.col c1 t fun a3 c3 w3 st3 b3 _ => ?_
    replace H1 := H1.go st3.fresh ⟨by simp, by simp⟩
    replace M := M.mono (st3.fresh.sub (by simp))
    replace T := T.mono' (fun _ _ hp => hp.mono (st3.fresh.sub (i := d) (by simp))) (st3.fresh.sub (by simp))
    replace st := st.trans (st3.fresh.weak (by simp) (by simp))
    refine RunU.msg b3 rfl M ok fun w4 st4 b3 => ?_
    replace H1 := H1.go st4.step f1
    replace M := M.mono (st4.step.sub f1.2)
    replace T := T.mono' (fun _ _ hp => hp.mono (st4.step.sub (i := d) f1.2)) (st4.step.sub f3)
    replace st := st.trans (st4.step.weak (by simp) (by simp))
    refine LoadA.all (view_sub _ _ _) b3 (msg_sz ok) ?_
    refine Req.mk' (by rw [msg_sz ok]; rfl) ?_
    refine AllocC.col c3 t fun a14 c5 w5 st5 b14 _ => ?_
    replace H1 := H1.go st5.fresh ⟨by simp, by simp⟩
    replace M := M.mono (st5.fresh.sub (by simp))
    replace T := T.mono' (fun _ _ hp => hp.mono (st5.fresh.sub (i := d) (by simp))) (st5.fresh.sub (by simp))
    replace st := st.trans (st5.fresh.weak (by simp) (by simp))
    have one : LsW MsgP 53 (wv w5) (view c5 d w5) (.slice (some ⟨a14, 0, none⟩) 1 1) [m] := LsW.one (view_sub _ _ _ _ _ b14) (by have := msg_sz ok (v := v) (va := va) (ua := ua) (vh := vh) (vb := vb); simpa using this) ⟨v, va, ua, vh, vb, rfl, M, ok⟩
    refine LsO.app slMsg T one (fun _ _ hp => hp.ones) (by simp; omega) (by simp; omega) fun o6 p6 c6 w6 st6 T => TSl.mk ?_
    replace H1 := H1.go st6.step f2
    replace T := T.mono' (fun _ _ hp => hp.mono (st6.step.sub (i := d) f2.2)) (fun _ _ h => h)
    replace st := st.trans (st6.step.weak (by simp) (by simp))
    rw [← ht] at T ⊢
    exact back _ _ _ _ hlt ⟨c6, st, H1, T⟩
  · have : j = L.length := by omega
    subst this
    rw [List.drop_length] at hl
    rw [List.take_length] at T hlen
    subst hlen
    match ess, hl with
    | [], _ =>
    refine SelR.not hc (by simp [aggs]) (BS.no rfl ?_)
    exact h o p c1 w1 st ⟨b, ch, s, rc, [], rfl, hb, hc, trivial, by simp⟩ T
end Go.Proofs.Ytfploingelmpkaa

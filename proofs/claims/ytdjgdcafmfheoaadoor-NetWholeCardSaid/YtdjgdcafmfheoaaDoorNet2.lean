/-
  Nets: the document's list of messages, each function once.
-/
import Derived.Test.YtdjgdcafmfheoaaDoorNet1
set_option linter.unusedVariables false
set_option linter.unusedSimpArgs false
namespace Go.Vc
open Go
/-- of a view the block that a slice owns -/
def own (h : View) (v : Value) : View := fun b => if v.ownBlock = some b then h b else none
theorem own_sub (h : View) (v : Value) : Sub (own h v) h := fun b o hb => by
  unfold own at hb; split at hb
  · exact hb
  · simp at hb
theorem OwS.own {h : View} {v : Value} {T z n : Nat} {xs : List Value} (ho : OwS h v T z n xs) : OwS (own h v) v T z n xs := by
  refine ⟨ho.1, ho.2.imp id ?_⟩
  rintro ⟨g, cap, cur, rfl, hg, r⟩
  exact ⟨g, cap, cur, rfl, by unfold Vc.own; rw [if_pos (by simp [Value.ownBlock])]; exact hg, r⟩
theorem LsO.own {α : Type} {P : View → α → List Value → Prop} {T z : Nat} {h g : View} {v : Value} {l : List α} (hl : LsO P T z h g v l) : LsO P T z (own h v) g v l := by
  obtain ⟨xs, ho, hx⟩ := hl; exact ⟨xs, ho.own, hx⟩
theorem own_dom (h : View) (v : Value) : ∀ b o, own h v b = some o → v.ownBlock = some b := fun b o hb => by
  unfold own at hb; split at hb
  · assumption
  · simp at hb
theorem own_wr {c c' : Nat → Nat} {i : Nat} {w w' : World} {row : Option Nat} {v : Value} {h0 : View} (hs : Sub h0 (view c i w)) (hd : ∀ b o, h0 b = some o → v.ownBlock = some b) (hW : Wr c i w c' w' row) (hne : ∀ b, v.ownBlock = some b → row ≠ some b) : Sub h0 (view c' i w') :=
  fun b o hb => hW.old b o (hs b o hb) (hne b (hd b o hb))
theorem own_step {c c' : Nat → Nat} {i : Nat} {w w' : World} {W N : List Nat} {h0 : View} (hs : Sub h0 (view c i w)) (st : Step c W N w c' w') (hi : i ∉ W) : Sub h0 (view c' i w') := hs.trans (st.sub hi)
theorem LsO.ne_new {α : Type} {P : View → α → List Value → Prop} {T z : Nat} {c : Nat → Nat} {i : Nat} {w : World} {g : View} {v : Value} {l : List α} (hl : LsO P T z (view c i w) g v l) {a : Nat} (hnew : w.heap[a]? = none) : ∀ b, v.ownBlock = some b → (some a : Option Nat) ≠ some b := by
  obtain ⟨xs, ho, _⟩ := hl
  intro b hb e
  obtain ⟨cur, hc⟩ := ho.block b hb
  have := (view_out hc).2
  cases e
  rw [hnew] at this; simp at this
theorem Elt.st {h : View} {a : Addr} {z i : Nat} {es : List Value} (E : Elt h (some a) z i es) (hz : 0 < z) {w : World} (hs : Sub h (wv w)) : StableA w (a.add ((i : Int).toNat * z)) z (.agg es.toArray) := by
  obtain ⟨a', e, hc⟩ := E.adr hz
  cases e
  refine ⟨by simpa using E.len, fun j hj => ?_⟩
  have hl := E.len
  obtain ⟨u, hu⟩ := get_of_lt (l := es) (i := j) (by omega)
  rw [hc hs hu, List.getElem?_toArray, hu]
theorem Elt.la {h : View} {a : Addr} {z i : Nat} {es : List Value} (E : Elt h (some a) z i es) (hz : 0 < z) {w : World} (hs : Sub h (wv w)) {K : Array Value → Prop} (hK : K es.toArray) : LoadA w (a.add ((i : Int).toNat * z)) z K := by
  obtain ⟨h1, h2⟩ := E.st hz hs
  exact ⟨_, ⟨h1, h2⟩, hK⟩
end Go.Vc
namespace Go.Proofs.YtdjgdcafmfheoaaDoor
open Go.Vc
attribute [local irreducible] TInt TBool TStr TPtr TSl TAgg TMap TChan T2 T3 T4 BS Req TSome TCell TByte LoadC LoadA StoreC AllocC RunV RunU CallV ExtV EqA StableC StableA StableV TCells ReadV
attribute [local irreducible] eU eT eE
attribute [local irreducible] DrewC eH many rdM wrM eHb rdOp rdAns

theorem MsgP.ones {h : View} {m : MsgR} {es : List Value} (H : MsgP h m es) : ∀ u ∈ es, u.oneCell' = true := by
  obtain ⟨v, va, ua, vh, vb, rfl, M, ok⟩ := H
  exact msg_one M
/-- the document's net: its variable in colour i, the list in k, what the messages tell in z -/
def RfV (c : Nat → Nat) (i k z : Nat) (w : World) (a : Addr) (L : List MsgR) : Prop :=
  ∃ b v, a = ⟨b, 0, none⟩ ∧ view c i w b = some (.cells #[v] 58 (0, 0)) ∧ LsO MsgP 38 53 (view c k w) (view c z w) v L
theorem RfV.go {c c' : Nat → Nat} {i k z : Nat} {w w' : World} {W N : List Nat} {a : Addr} {L : List MsgR} (H : RfV c i k z w a L) (st : Step c W N w c' w') (hW : i ∉ W ∧ k ∉ W ∧ z ∉ W) : RfV c' i k z w' a L := by
  obtain ⟨b, v, e, hb, hl⟩ := H
  exact ⟨b, v, e, st.sub hW.1 _ _ hb, hl.mono' (fun _ _ hp => hp.mono (st.sub hW.2.2)) (st.sub hW.2.1)⟩
theorem Has_r {c : Nat → Nat} {i k z : Nat} {w : World} {a : Addr} {L : List MsgR} {n : Int} {R : Value → World → Prop} (H : RfV c i k z w a L) (h : R (.bool (decide (inK n L))) w) : CallV Tryd.prog 32 #[.pointer (some a), .int .i64 n] w R := by
  obtain ⟨b, v, rfl, hb, hl⟩ := H
  obtain ⟨o, p, rfl⟩ := hl.form
  refine ref24_Net_Has_vc ?_
  unfold ref24_Net_Has_VC
  refine BS.dec (fun h0 => ?_) (fun h0 => ?_)
  · refine LoadC.ad (view_sub _ _ _) _ hb rfl (TSl.mk ?_)
    have : decide (inK n L) = decide (n < ((L.length : Nat) : Int)) := by
      rw [decide_eq_decide]; unfold inK; omega
    rw [this] at h; exact h
  · rw [decide_eq_false (fun hc => by have := hc.1; omega)] at h; exact h
/-- the old list onto a new one -/
theorem app_old {c : Nat → Nat} {k z : Nat} {w : World} {a15 : Nat} {h0 : View} {v : Value} {L : List MsgR} {K : Value → World → Prop} (hb : view c k w a15 = some (.cells #[] 38 (0, 0))) (hs : Sub h0 (wv w)) (hl : LsW MsgP 53 h0 (view c z w) v L) (hL : L.length ≤ 4000)
    (h : ∀ o cp c' w', Wr c k w c' w' (some a15) → LsO MsgP 38 53 (view c' k w') (view c z w) (.slice o L.length cp) L → K (.slice o L.length cp) w') :
    RunV Tryd.prog (Builtin.append_ #[56, 56] 56 #[.slice (some ⟨a15, 0, none⟩) 0 0, v]) w K := by
  have hl' : LsW MsgP 53 (wv w) (view c z w) v L := by obtain ⟨xs, hr, hx⟩ := hl; exact ⟨xs, hr.mono hs, hx⟩
  refine LsO.app slMsg (LsO.empty (g := view c z w) (P := MsgP) hb) hl' (fun _ _ hp => hp.ones) (by simp; omega) (by simp; omega) fun o cp c' w' hW ho => ?_
  rw [List.nil_append] at ho ⊢
  exact h o cp c' w' hW ho
/-- one message onto a list -/
theorem app_one {c : Nat → Nat} {k t z : Nat} {w : World} {a22 : Nat} {o : Option Addr} {p : Nat} {L : List MsgR} {m : MsgR} {v va ua vh vb : Value} {K : Value → World → Prop} (hl : LsO MsgP 38 53 (view c k w) (view c z w) (.slice o L.length p) L) (hb : view c t w a22 = some (.cells (m.cells v va ua vh vb).toArray 38 (0, 0)))
    (M : MsgV (view c z w) m v va ua vh vb) (hok : m.ok) (hL : L.length ≤ 4000)
    (h : ∀ o2 cp c' w', Wr c k w c' w' (Value.slice o L.length p).ownBlock → LsO MsgP 38 53 (view c' k w') (view c z w) (.slice o2 (L ++ [m]).length cp) (L ++ [m]) → K (.slice o2 (L ++ [m]).length cp) w') :
    RunV Tryd.prog (Builtin.append_ #[56, 56] 56 #[.slice o L.length p, .slice (some ⟨a22, 0, none⟩) 1 1]) w K := by
  have one : LsW MsgP 53 (wv w) (view c z w) (.slice (some ⟨a22, 0, none⟩) 1 1) [m] := LsW.one (view_sub _ _ _ _ _ hb) (by have := msg_sz hok (v := v) (va := va) (ua := ua) (vh := vh) (vb := vb); simpa using this) ⟨v, va, ua, vh, vb, rfl, M, hok⟩
  refine LsO.app slMsg hl one (fun _ _ hp => hp.ones) (by simp; omega) (by simp; omega) fun o' cp c' w' hW ho => ?_
  exact h o' cp c' w' hW ho
theorem Send_r {c : Nat → Nat} {i k z : Nat} (t : Nat) {w : World} {a : Addr} {L : List MsgR} {m : MsgR} {v va ua vh vb : Value} {R : Value → World → Prop} (hh : [i, k, z, t].Nodup) (H : RfV c i k z w a L) (M : MsgV (view c z w) m v va ua vh vb) (hok : m.ok) (hf : m.fair)
    (h : ∀ c' w', Step c [i, k] [k, t] w c' w' → RfV c' i k z w' a (sendK m L).1 → R (.int .i64 (sendK m L).2) w') : CallV Tryd.prog 30 #[.pointer (some a), .agg (m.cells v va ua vh vb).toArray] w R := by
  simp only [List.nodup_cons, List.mem_cons, List.not_mem_nil, or_false, not_or, List.nodup_nil, not_false_eq_true, and_true] at hh
  obtain ⟨⟨ik, iz, it⟩, ⟨kz, kt⟩, zt⟩ := hh
  have fik : i ∉ [k] := by simpa using ik
  have fki : k ∉ [i] := by simpa using Ne.symm ik
  have fzk : z ∉ [k] := by simpa using Ne.symm kz
  have fzi : z ∉ [i] := by simpa using Ne.symm iz
  have ftk : t ∉ [k] := by simpa using Ne.symm kt
  clear ik iz it kz kt zt
  have H0 := H
  refine ref24_Net_Send_vc ?_
  unfold ref24_Net_Send_VC
  refine AllocC.col c t fun a3 c1 w1 st1 b3 _ => ?_
  replace H := H.go st1.fresh ⟨by simp, by simp, by simp⟩
  replace M := M.mono (st1.fresh.sub (by simp))
  refine LoadA.all (view_sub _ _ _) b3 (msg_sz hok) ?_
  refine Right19_c c1 t (M.mono (view_sub _ _ _)) hok hf fun rb c2 w2 st2 hrb => TBool.mk ?_
  replace H := H.go st2 ⟨by simp, by simp, by simp⟩
  replace M := M.mono (st2.sub (by simp))
  replace b3 := st2.sub (by simp) _ _ b3
  have st : Step c [i, k] [k, t] w c2 w2 := (st1.fresh.weak (by simp) (by simp)).trans (st2.weak (by simp) (by simp))
  refine BS.nb (fun hf => ?_) (fun ht => ?_)
  · have hr : ¬ m.right := fun hc => by rw [hrb.2 hc] at hf; simp at hf
    have := h c2 w2 st
    unfold sendK at this
    rw [if_neg hr] at this
    exact this H
  have hr := hrb.1 ht
  have H1 := H
  obtain ⟨b, v0, rfl, hb, hl⟩ := H
  obtain ⟨o0, p0, rfl⟩ := hl.form
  refine LoadC.ad (view_sub _ _ _) _ hb rfl (TSl.mk ?_)
  refine BS.dec (fun hfull => ?_) (fun hroom => ?_)
  · have := h c2 w2 st
    unfold sendK at this
    rw [if_pos hr, if_neg (by omega)] at this
    exact this H1
  clear H1 H0
  have hL : L.length < 4000 := by omega
  refine DrewC.col c2 fun w3 st3 => ?_
  replace hb := st3.sub (by simp) _ _ hb
  replace hl := hl.mono' (fun _ _ hp => hp.mono (st3.sub (by simp))) (st3.sub (by simp))
  replace M := M.mono (st3.sub (by simp))
  replace b3 := st3.sub (by simp) _ _ b3
  replace st := st.trans (st3.weak (by simp) (by simp))
  have fin : ∀ c' w' o p old, Step c [i, k] [k, t] w c' w' → view c' i w' b = some (.cells #[old] 58 (0, 0)) → LsO MsgP 38 53 (view c' k w') (view c' z w') (.slice o (L ++ [m]).length p) (L ++ [m]) → StoreC w' ((⟨b, 0, none⟩ : Addr).add 0) (.slice o (L ++ [m]).length p) fun w8 => R (.int .i64 0) w8 := by
    intro c' w' o p old st hb hl
    refine StoreC.ad hb (by simp) fun w8 _ st8 hb => ?_
    have := h c' w8 (st.trans (st8.weak (by simp) (by simp)))
    unfold sendK at this
    rw [if_pos hr, if_pos hL] at this
    exact this ⟨b, _, rfl, hb, hl.mono' (fun _ _ hp => hp.mono (st8.sub fzi)) (st8.sub fki)⟩
  have rq : (Nat.beq (m.cells v va ua vh vb).toArray.size 53 && (Nat.ble 1 53 && Nat.ble 53 16777216)) = true := by rw [msg_sz hok]; rfl
  -- the rest, once the new list's block is there
  have tail1 : ∀ c4 w4 a15, Step c [i, k] [k, t] w c4 w4 → view c4 i w4 b = some (.cells #[.slice o0 L.length p0] 58 (0, 0)) → LsO MsgP 38 53 (view c4 k w4) (view c4 z w4) (.slice o0 L.length p0) L → MsgV (view c4 z w4) m v va ua vh vb → view c4 t w4 a3 = some (.cells (m.cells v va ua vh vb).toArray 38 (0, 0)) → view c4 k w4 a15 = some (.cells #[] 38 (0, 0)) →
      ∀ K : Value → World → Prop, (∀ o p c' w', Step c [i, k] [k, t] w c' w' → Step c4 [k] [k] w4 c' w' → view c' i w' b = some (.cells #[.slice o0 L.length p0] 58 (0, 0)) → LsO MsgP 38 53 (view c' k w') (view c' z w') (.slice o L.length p) L → MsgV (view c' z w') m v va ua vh vb → view c' t w' a3 = some (.cells (m.cells v va ua vh vb).toArray 38 (0, 0)) → K (.slice o L.length p) w') →
      RunV Tryd.prog (Builtin.append_ #[56, 56] 56 #[.slice (some ⟨a15, 0, none⟩) 0 0, .slice o0 L.length p0]) w4 K := by
    intro c4 w4 a15 st hb hl M b3 b15 K hK
    refine app_old b15 (view_sub _ _ _) (hl.toW (fun _ _ h => h) (fun _ _ h => h)) (by omega) fun o5 p5 c5 w5 hW5 l5 => ?_
    exact hK o5 p5 c5 w5 (st.trans (hW5.step.weak (by simp) (by simp))) hW5.step (hW5.step.sub fik _ _ hb) (l5.mono' (fun _ _ hp => hp.mono (hW5.step.sub fzk)) (fun _ _ h => h)) (M.mono (hW5.step.sub fzk)) (hW5.step.sub ftk _ _ b3)
  have tail2 : ∀ c6 w6 a22 o p, Step c [i, k] [k, t] w c6 w6 → view c6 i w6 b = some (.cells #[.slice o0 L.length p0] 58 (0, 0)) → LsO MsgP 38 53 (view c6 k w6) (view c6 z w6) (.slice o L.length p) L → MsgV (view c6 z w6) m v va ua vh vb → view c6 t w6 a22 = some (.cells (m.cells v va ua vh vb).toArray 38 (0, 0)) →
      RunV Tryd.prog (Builtin.append_ #[56, 56] 56 #[.slice o L.length p, .slice (some ⟨a22, 0, none⟩) 1 1]) w6 fun v23 w7 => TSl v23 fun o23 l23 c23 => StoreC w7 ((⟨b, 0, none⟩ : Addr).add 0) (.slice o23 l23 c23) fun w8 => R (.int .i64 0) w8 := by
    intro c6 w6 a22 o p st hb hl M b22
    refine app_one hl b22 M hok (by omega) fun o7 p7 c7 w7 hW7 l7 => TSl.mk ?_
    exact fin c7 w7 o7 p7 _ (st.trans (hW7.step.weak (by simp) (by simp))) (hW7.step.sub fik _ _ hb) (l7.mono' (fun _ _ hp => hp.mono (hW7.step.sub fzk)) (fun _ _ h => h))
  refine LoadC.ad (view_sub _ _ _) _ hb rfl (TSl.mk ?_)
  refine LoadA.all (view_sub _ _ _) b3 (msg_sz hok) ?_
  refine ⟨AllocC.col c2 k fun a15 c4 w4 st4 b15 hn15 => ?_, Req.mk' rq (AllocC.col c2 t fun a22 c4 w4 st4 b22 _ => ?_)⟩
  · replace hb := st4.fresh.sub (by simp) _ _ hb
    replace hl := hl.mono' (fun _ _ hp => hp.mono (st4.fresh.sub (by simp))) (st4.fresh.sub (by simp))
    replace M := M.mono (st4.fresh.sub (by simp))
    replace b3 := st4.fresh.sub (by simp) _ _ b3
    replace st := st.trans (st4.fresh.weak (by simp) (by simp))
    refine ⟨StableC.ad (view_sub _ _ _) hb rfl, StableA.all (view_sub _ _ _) b3 (msg_sz hok), ?_, ?_⟩
    · refine tail1 c4 w4 a15 st hb hl M b3 b15 _ fun o5 p5 c5 w5 st _ hb hl M b3 => TSl.mk ⟨StableA.all (view_sub _ _ _) b3 (msg_sz hok), Req.mk' rq (AllocC.col c5 t fun a22 c6 w6 st6 b22 _ => ?_)⟩
      replace hb := st6.fresh.sub (by simp) _ _ hb
      replace hl := hl.mono' (fun _ _ hp => hp.mono (st6.fresh.sub (by simp))) (st6.fresh.sub (by simp))
      replace M := M.mono (st6.fresh.sub (by simp))
      replace st := st.trans (st6.fresh.weak (by simp) (by simp))
      exact ⟨StableC.ad (view_sub _ _ _) hb rfl, tail2 c6 w6 a22 o5 p5 st hb hl M b22⟩
    · refine Req.mk' rq (AllocC.col c4 t fun a22 c6 w6 st6 b22 _ => ?_)
      replace hb := st6.fresh.sub (by simp) _ _ hb
      replace hl := hl.mono' (fun _ _ hp => hp.mono (st6.fresh.sub (by simp))) (st6.fresh.sub (by simp))
      replace M := M.mono (st6.fresh.sub (by simp))
      replace b3 := st6.fresh.sub (by simp) _ _ b3
      replace b15 := st6.fresh.sub (by simp) _ _ b15
      replace st := st.trans (st6.fresh.weak (by simp) (by simp))
      refine ⟨StableC.ad (view_sub _ _ _) hb rfl, ?_⟩
      refine tail1 c6 w6 a15 st hb hl M b3 b15 _ fun o5 p5 c5 w5 st st5 hb hl M b3 => TSl.mk ⟨StableA.all (view_sub _ _ _) b3 (msg_sz hok), ?_⟩
      exact tail2 c5 w5 a22 o5 p5 st hb hl M (st5.sub ftk _ _ b22)
  · replace hb := st4.fresh.sub (by simp) _ _ hb
    replace hl := hl.mono' (fun _ _ hp => hp.mono (st4.fresh.sub (by simp))) (st4.fresh.sub (by simp))
    replace M := M.mono (st4.fresh.sub (by simp))
    replace b3 := st4.fresh.sub (by simp) _ _ b3
    replace st := st.trans (st4.fresh.weak (by simp) (by simp))
    refine ⟨StableC.ad (view_sub _ _ _) hb rfl, AllocC.col c4 k fun a15 c6 w6 st6 b15 _ => ?_⟩
    replace hb := st6.fresh.sub (by simp) _ _ hb
    replace hl := hl.mono' (fun _ _ hp => hp.mono (st6.fresh.sub (by simp))) (st6.fresh.sub (by simp))
    replace M := M.mono (st6.fresh.sub (by simp))
    replace b3 := st6.fresh.sub (by simp) _ _ b3
    replace b22 := st6.fresh.sub (by simp) _ _ b22
    replace st := st.trans (st6.fresh.weak (by simp) (by simp))
    refine ⟨StableC.ad (view_sub _ _ _) hb rfl, StableA.all (view_sub _ _ _) b3 (msg_sz hok), ?_⟩
    refine tail1 c6 w6 a15 st hb hl M b3 b15 _ fun o5 p5 c5 w5 st st5 hb hl M b3 => TSl.mk ⟨StableA.all (view_sub _ _ _) b3 (msg_sz hok), ?_⟩
    exact tail2 c5 w5 a22 o5 p5 st hb hl M (st5.sub ftk _ _ b22)
theorem Take_r {c : Nat → Nat} {i k z : Nat} (t r : Nat) {w : World} {a : Addr} {L : List MsgR} {n : Int} {R : Value → World → Prop} (hh : [i, k, z, t, r].Nodup) (H : RfV c i k z w a L) (hL : L.length ≤ 4000)
    (h : ∀ x xa ya xh xb c' w', Step c [i, k] [k, t, r] w c' w' → RfV c' i k z w' a (dropK n L) → MsgV (view c' z w') (peekK n L) x xa ya xh xb → R (.tuple #[.agg ((peekK n L).cells x xa ya xh xb).toArray, .bool (decide (inK n L))]) w') :
    CallV Tryd.prog 25 #[.pointer (some a), .int .i64 n] w R := by
  simp only [List.nodup_cons, List.mem_cons, List.not_mem_nil, or_false, not_or, List.nodup_nil, not_false_eq_true, and_true] at hh
  obtain ⟨⟨ik, iz, it, ir⟩, ⟨kz, kt, kr⟩, ⟨zt, zr⟩, tr⟩ := hh
  have fik : i ∉ [k] := by simpa using ik
  have fki : k ∉ [i] := by simpa using Ne.symm ik
  have fzk : z ∉ [k] := by simpa using Ne.symm kz
  have fzi : z ∉ [i] := by simpa using Ne.symm iz
  have ftk : t ∉ [k] := by simpa using Ne.symm kt
  have frk : r ∉ [k] := by simpa using Ne.symm kr
  have fti : t ∉ [i] := by simpa using Ne.symm it
  have fri : r ∉ [i] := by simpa using Ne.symm ir
  have fir : i ∉ [r] := by simpa using ir
  have fkr : k ∉ [r] := by simpa using kr
  have fzr : z ∉ [r] := by simpa using zr
  have ftr : t ∉ [r] := by simpa using tr
  have fit : i ∉ [t] := by simpa using it
  have fkt : k ∉ [t] := by simpa using kt
  have fzt : z ∉ [t] := by simpa using zt
  clear ik iz it ir kz kt kr zt zr tr
  refine ref24_Net_Take_vc ?_
  unfold ref24_Net_Take_VC
  refine AllocC.col c t fun a4 c1 w1 st1 b4 hn4 => ?_
  have sz4 : w.heap.size ≤ a4 := size_le_of_none hn4
  have st : Step c [i, k] [k, t, r] w c1 w1 := st1.fresh.weak (by simp) (by simp)
  replace H := H.go st1.fresh ⟨by simp, by simp, by simp⟩
  refine Has_r H (TBool.mk ?_)
  refine BS.ndec (fun hin => ?_) (fun hin => ?_)
  · refine RunU.msg (m := MsgR.zero) (v := nilV) (va := nilV) (ua := nilV) (vh := nilV) (vb := nilV) b4 rfl (MsgV.zero (wv w1)) zero_ok fun w5 hW b4 => ?_
    refine LoadA.all (view_sub _ _ _) b4 (msg_sz zero_ok) ?_
    have := h nilV nilV nilV nilV nilV c1 w5 (st.wr_new hW sz4)
    unfold peekK dropK at this
    rw [if_neg hin, if_neg hin, decide_eq_false hin] at this
    exact this (H.go hW.step ⟨fit, fkt, fzt⟩) (MsgV.zero _)
  have hin2 := hin
  obtain ⟨g0, g1⟩ := hin2
  obtain ⟨j, rfl⟩ : ∃ j : Nat, n = (j : Int) := ⟨n.toNat, by omega⟩
  obtain ⟨m, hm⟩ := get_of_lt (l := L) (i := j) (by omega)
  have hpk : peekK (j : Int) L = m := by unfold peekK; rw [if_pos hin, Int.toNat_natCast, hm]; rfl
  have hdr : dropK (j : Int) L = L.take j ++ L.drop (j + 1) := by unfold dropK; rw [if_pos hin, Int.toNat_natCast, List.eraseIdx_eq_take_drop_succ]
  obtain ⟨b, v0, rfl, hb, hl⟩ := H
  obtain ⟨o0, p0, rfl⟩ := hl.form
  have hcap : L.length ≤ p0 := ((hl.rd (fun _ _ hp => hp.mono (view_sub _ _ _)) (view_sub _ _ _)).len).2
  refine LoadC.ad (view_sub _ _ _) _ hb rfl (TSl.mk ?_)
  obtain ⟨es, hP, E⟩ := LsO.at' (by omega) hl hm
  obtain ⟨v, va, ua, vh, vb, rfl, M, mok⟩ := hP
  refine Req.bnd ⟨by omega, by omega⟩ (E.all (view_sub _ _ _) ?_)
  clear E
  refine AllocC.col c1 r fun a6 c3 w3 st3 b6 hn6 => ?_
  have sz6 : w.heap.size ≤ a6 := Nat.le_trans st.size (size_le_of_none hn6)
  replace hb := st3.fresh.sub (by simp) _ _ hb
  replace b4 := st3.fresh.sub (by simp) _ _ b4
  replace M := M.mono (st3.fresh.sub (by simp))
  replace hl := hl.mono' (fun _ _ hp => hp.mono (st3.fresh.sub (by simp))) (st3.fresh.sub (by simp))
  replace st := st.trans (st3.fresh.weak (by simp) (by simp))
  refine RunU.msg b6 rfl M mok fun w4 hW4 b6 => ?_
  replace hb := hW4.step.sub fir _ _ hb
  replace b4 := hW4.step.sub ftr _ _ b4
  replace M := M.mono (hW4.step.sub fzr)
  replace hl := hl.mono' (fun _ _ hp => hp.mono (hW4.step.sub fzr)) (hW4.step.sub fkr)
  replace st := st.wr_new hW4 sz6
  refine DrewC.col c3 fun w5 st5 => ?_
  replace hb := st5.sub (by simp) _ _ hb
  replace b4 := st5.sub (by simp) _ _ b4
  replace b6 := st5.sub (by simp) _ _ b6
  replace M := M.mono (st5.sub (by simp))
  replace hl := hl.mono' (fun _ _ hp => hp.mono (st5.sub (by simp))) (st5.sub (by simp))
  replace st := st.trans (st5.weak (by simp) (by simp))
  refine LoadC.ad (view_sub _ _ _) _ hb rfl (TSl.mk ?_)
  refine Req.bndle ⟨by omega, by omega⟩ ?_
  refine LoadC.ad (view_sub _ _ _) _ hb rfl (TSl.mk ?_)
  rw [wrap_i64 (by omega) (by omega)]
  refine Req.bndle ⟨by omega, by omega⟩ ?_
  refine AllocC.col c3 k fun a20 c7 w7 st7 b20 hn20 => ?_
  have hne := hl.ne_new hn20
  replace hb := st7.fresh.sub (by simp) _ _ hb
  replace b4 := st7.fresh.sub (by simp) _ _ b4
  replace b6 := st7.fresh.sub (by simp) _ _ b6
  replace M := M.mono (st7.fresh.sub (by simp))
  replace hl := hl.mono' (fun _ _ hp => hp.mono (st7.fresh.sub (by simp))) (st7.fresh.sub (by simp))
  replace st := st.trans (st7.fresh.weak (by simp) (by simp))
  refine ⟨StableC.ad (view_sub _ _ _) hb rfl, StableC.ad (view_sub _ _ _) hb rfl, ?_⟩
  have hlo := hl.own
  have hso : Sub (own (view c7 k w7) (.slice o0 L.length p0)) (view c7 k w7) := own_sub _ _
  have hdo := own_dom (view c7 k w7) (.slice o0 L.length p0)
  generalize own (view c7 k w7) (.slice o0 L.length p0) = h0 at hlo hso hdo
  have e1 : ((j : Int) + 1).toNat = j + 1 := by omega
  rw [Int.toNat_natCast, e1]
  -- what is before
  have hpre : LsW MsgP 53 h0 (view c7 z w7) (.slice (slBase o0 p0 0 53) j p0) (L.take j) := by
    obtain ⟨xs, ho, hx⟩ := hlo
    have := LsV.take (P := fun _ => MsgP (view c7 z w7)) (z := 53) (h := h0) ⟨xs, ho.rd, hx⟩ (k := j) (by omega)
    obtain ⟨ys, hr, hy⟩ := this
    exact ⟨ys, hr, hy⟩
  have htl : (L.take j).length = j := by rw [List.length_take]; omega
  refine app_old b20 (hso.trans (view_sub _ _ _)) hpre (by omega) fun o8 p8 c8 w8 hW8 l8 => TSl.mk ?_
  have hso8 := own_wr hso hdo hW8 hne
  replace hb := hW8.step.sub fik _ _ hb
  replace b4 := hW8.step.sub ftk _ _ b4
  replace b6 := hW8.step.sub frk _ _ b6
  replace M := M.mono (hW8.step.sub fzk)
  have hlo8 : LsO MsgP 38 53 h0 (view c8 z w8) (.slice o0 L.length p0) L := hlo.mono' (fun _ _ hp => hp.mono (hW8.step.sub fzk)) (fun _ _ h => h)
  replace l8 := l8.mono' (fun _ _ hp => hp.mono (hW8.step.sub fzk)) (fun _ _ h => h)
  replace st := st.trans (hW8.step.weak (by simp) (by simp))
  refine ⟨StableC.ad (view_sub _ _ _) hb rfl, ?_⟩
  have hpost : LsW MsgP 53 (wv w8) (view c8 z w8) (.slice (slBase o0 p0 (j + 1) 53) (L.length - (j + 1)) (p0 - (j + 1))) (L.drop (j + 1)) := by
    obtain ⟨xs, ho, hx⟩ := hlo8
    have := LsV.drop (P := fun _ => MsgP (view c8 z w8)) (z := 53) (h := wv w8) ⟨xs, ho.rd.mono (hso8.trans (view_sub _ _ _)), hx⟩ (k := j + 1) (by omega)
    obtain ⟨ys, hr, hy⟩ := this
    exact ⟨ys, hr, hy⟩
  refine LsO.app slMsg l8 hpost (fun _ _ hp => hp.ones) (by simp; omega) (by simp; omega) fun o9 p9 c9 w9 hW9 l9 => TSl.mk ?_
  replace hb := hW9.step.sub fik _ _ hb
  replace b4 := hW9.step.sub ftk _ _ b4
  replace b6 := hW9.step.sub frk _ _ b6
  replace M := M.mono (hW9.step.sub fzk)
  replace l9 := l9.mono' (fun _ _ hp => hp.mono (hW9.step.sub fzk)) (fun _ _ h => h)
  replace st := st.trans (hW9.step.weak (by simp) (by simp))
  refine StoreC.ad hb (by simp) fun w10 _ st10 hb => ?_
  replace b4 := st10.sub fti _ _ b4
  replace b6 := st10.sub fri _ _ b6
  replace M := M.mono (st10.sub fzi)
  replace l9 := l9.mono' (fun _ _ hp => hp.mono (st10.sub fzi)) (st10.sub fki)
  replace st := st.trans (st10.weak (by simp) (by simp))
  refine LoadA.all (view_sub _ _ _) b6 (msg_sz mok) ?_
  refine RunU.msg b4 rfl M mok fun w11 hW11 b4 => ?_
  replace hb := hW11.step.sub fit _ _ hb
  replace M := M.mono (hW11.step.sub fzt)
  replace l9 := l9.mono' (fun _ _ hp => hp.mono (hW11.step.sub fzt)) (hW11.step.sub fkt)
  replace st := st.wr_new hW11 sz4
  refine LoadA.all (view_sub _ _ _) b4 (msg_sz mok) ?_
  have := h v va ua vh vb c9 w11 st
  rw [hpk, hdr, decide_eq_true hin] at this
  exact this ⟨b, _, rfl, hb, l9⟩ M
theorem Copy_r {c : Nat → Nat} {i k z : Nat} (t : Nat) {w : World} {a : Addr} {L : List MsgR} {n : Int} {R : Value → World → Prop} (hh : [i, k, z, t].Nodup) (H : RfV c i k z w a L)
    (h : ∀ c' w', Step c [i, k] [k, t] w c' w' → RfV c' i k z w' a (if copyK n L then L ++ [peekK n L] else L) → R (.bool (decide (copyK n L))) w') : CallV Tryd.prog 28 #[.pointer (some a), .int .i64 n] w R := by
  simp only [List.nodup_cons, List.mem_cons, List.not_mem_nil, or_false, not_or, List.nodup_nil, not_false_eq_true, and_true] at hh
  obtain ⟨⟨ik, iz, it⟩, ⟨kz, kt⟩, zt⟩ := hh
  have fik : i ∉ [k] := by simpa using ik
  have fki : k ∉ [i] := by simpa using Ne.symm ik
  have fzk : z ∉ [k] := by simpa using Ne.symm kz
  have fzi : z ∉ [i] := by simpa using Ne.symm iz
  have ftk : t ∉ [k] := by simpa using Ne.symm kt
  clear ik iz it kz kt zt
  have no : ¬ copyK n L → R (.bool false) w := by
    intro hn
    have := h c w (.refl ..)
    rw [if_neg hn, decide_eq_false hn] at this
    exact this H
  refine ref24_Net_Copy_vc ?_
  unfold ref24_Net_Copy_VC
  refine Has_r H (TBool.mk ?_)
  refine BS.ndec (fun hin => no (fun hc => hin hc.1)) (fun hin => ?_)
  obtain ⟨b, v0, rfl, hb, hl⟩ := H
  obtain ⟨o0, p0, rfl⟩ := hl.form
  refine LoadC.ad (view_sub _ _ _) _ hb rfl (TSl.mk ?_)
  unfold ref24_Net_Copy_K1
  refine BS.dec (fun hfull => no (fun hc => by have := hc.2; omega)) (fun hroom => ?_)
  have hck : copyK n L := ⟨hin, by omega⟩
  have hL : L.length < 4000 := by omega
  have hin2 := hin
  obtain ⟨g0, g1⟩ := hin2
  obtain ⟨j, rfl⟩ : ∃ j : Nat, n = (j : Int) := ⟨n.toNat, by omega⟩
  obtain ⟨m, hm⟩ := get_of_lt (l := L) (i := j) (by omega)
  have hpk : peekK (j : Int) L = m := by unfold peekK; rw [if_pos hin, Int.toNat_natCast, hm]; rfl
  refine DrewC.col c fun w1 st1 => ?_
  replace hb := st1.sub (by simp) _ _ hb
  replace hl := hl.mono' (fun _ _ hp => hp.mono (st1.sub (by simp))) (st1.sub (by simp))
  have st : Step c [i, k] [k, t] w c w1 := st1.weak (by simp) (by simp)
  refine LoadC.ad (view_sub _ _ _) _ hb rfl (TSl.mk ?_)
  refine LoadC.ad (view_sub _ _ _) _ hb rfl (TSl.mk ?_)
  have hlo := hl.own
  have hs : Sub (own (view c k w1) (.slice o0 L.length p0)) (view c k w1) := own_sub _ _
  have hd := own_dom (view c k w1) (.slice o0 L.length p0)
  generalize own (view c k w1) (.slice o0 L.length p0) = h0 at hlo hs hd
  clear hl
  obtain ⟨es, hP, E⟩ := LsO.at' (by omega) hlo hm
  obtain ⟨v, va, ua, vh, vb, rfl, M, mok⟩ := hP
  obtain ⟨ae, rfl, _⟩ := E.adr (by omega)
  refine Req.bnd ⟨by omega, by omega⟩ (TSome.mk ?_)
  have fin : ∀ c' w' o p old, Step c [i, k] [k, t] w c' w' → view c' i w' b = some (.cells #[old] 58 (0, 0)) → LsO MsgP 38 53 (view c' k w') (view c' z w') (.slice o (L ++ [m]).length p) (L ++ [m]) → StoreC w' ((⟨b, 0, none⟩ : Addr).add 0) (.slice o (L ++ [m]).length p) fun w8 => R (.bool true) w8 := by
    intro c' w' o p old st hb hl
    refine StoreC.ad hb (by simp) fun w8 _ st8 hb => ?_
    have := h c' w8 (st.trans (st8.weak (by simp) (by simp)))
    rw [if_pos hck, decide_eq_true hck, hpk] at this
    exact this ⟨b, _, rfl, hb, hl.mono' (fun _ _ hp => hp.mono (st8.sub fzi)) (st8.sub fki)⟩
  have rq : (Nat.beq (m.cells v va ua vh vb).toArray.size 53 && (Nat.ble 1 53 && Nat.ble 53 16777216)) = true := by rw [msg_sz mok]; rfl
  have tail1 : ∀ c4 w4 a15, Step c [i, k] [k, t] w c4 w4 → view c4 i w4 b = some (.cells #[.slice (some ae) L.length p0] 58 (0, 0)) → Sub h0 (view c4 k w4) → LsO MsgP 38 53 h0 (view c4 z w4) (.slice (some ae) L.length p0) L → MsgV (view c4 z w4) m v va ua vh vb → view c4 k w4 a15 = some (.cells #[] 38 (0, 0)) → (∀ b, (Value.slice (some ae) L.length p0).ownBlock = some b → (some a15 : Option Nat) ≠ some b) →
      ∀ K : Value → World → Prop, (∀ o p c' w', Step c [i, k] [k, t] w c' w' → Step c4 [k] [k] w4 c' w' → view c' i w' b = some (.cells #[.slice (some ae) L.length p0] 58 (0, 0)) → Sub h0 (view c' k w') → LsO MsgP 38 53 (view c' k w') (view c' z w') (.slice o L.length p) L → MsgV (view c' z w') m v va ua vh vb → K (.slice o L.length p) w') →
      RunV Tryd.prog (Builtin.append_ #[56, 56] 56 #[.slice (some ⟨a15, 0, none⟩) 0 0, .slice (some ae) L.length p0]) w4 K := by
    intro c4 w4 a15 st hb hs hl M b15 hne K hK
    refine app_old b15 (hs.trans (view_sub _ _ _)) (hl.toW (fun _ _ h => h) (fun _ _ h => h)) (by omega) fun o5 p5 c5 w5 hW5 l5 => ?_
    exact hK o5 p5 c5 w5 (st.trans (hW5.step.weak (by simp) (by simp))) hW5.step (hW5.step.sub fik _ _ hb) (own_wr hs hd hW5 hne) (l5.mono' (fun _ _ hp => hp.mono (hW5.step.sub fzk)) (fun _ _ h => h)) (M.mono (hW5.step.sub fzk))
  have tail2 : ∀ c6 w6 a22 o p, Step c [i, k] [k, t] w c6 w6 → view c6 i w6 b = some (.cells #[.slice (some ae) L.length p0] 58 (0, 0)) → LsO MsgP 38 53 (view c6 k w6) (view c6 z w6) (.slice o L.length p) L → MsgV (view c6 z w6) m v va ua vh vb → view c6 t w6 a22 = some (.cells (m.cells v va ua vh vb).toArray 38 (0, 0)) →
      RunV Tryd.prog (Builtin.append_ #[56, 56] 56 #[.slice o L.length p, .slice (some ⟨a22, 0, none⟩) 1 1]) w6 fun v23 w7 => TSl v23 fun o23 l23 c23 => StoreC w7 ((⟨b, 0, none⟩ : Addr).add 0) (.slice o23 l23 c23) fun w8 => R (.bool true) w8 := by
    intro c6 w6 a22 o p st hb hl M b22
    refine app_one hl b22 M mok (by omega) fun o7 p7 c7 w7 hW7 l7 => TSl.mk ?_
    exact fin c7 w7 o7 p7 _ (st.trans (hW7.step.weak (by simp) (by simp))) (hW7.step.sub fik _ _ hb) (l7.mono' (fun _ _ hp => hp.mono (hW7.step.sub fzk)) (fun _ _ h => h))
  have neq : ∀ c' w' a', Sub h0 (view c' k w') → LsO MsgP 38 53 h0 (view c' z w') (.slice (some ae) L.length p0) L → w'.heap[a']? = none → ∀ b, (Value.slice (some ae) L.length p0).ownBlock = some b → (some a' : Option Nat) ≠ some b := by
    intro c' w' a' hs hl hn
    exact LsO.ne_new (hl.mono' (fun _ _ h => h) hs) hn
  refine E.la (by omega) (hs.trans (view_sub _ _ _)) ?_
  refine ⟨AllocC.col c k fun a15 c4 w4 st4 b15 hn15 => ?_, Req.mk' rq (AllocC.col c t fun a22 c4 w4 st4 b22 _ => ?_)⟩
  · have hne := neq c w1 a15 hs hlo hn15
    replace hb := st4.fresh.sub (by simp) _ _ hb
    replace hs := own_step hs st4.fresh (by simp)
    replace hlo := hlo.mono' (fun _ _ hp => hp.mono (st4.fresh.sub (by simp))) (fun _ _ h => h)
    replace M := M.mono (st4.fresh.sub (by simp))
    replace st := st.trans (st4.fresh.weak (by simp) (by simp))
    refine ⟨StableC.ad (view_sub _ _ _) hb rfl, StableC.ad (view_sub _ _ _) hb rfl, E.st (by omega) (hs.trans (view_sub _ _ _)), ?_, ?_⟩
    · refine tail1 c4 w4 a15 st hb hs hlo M b15 hne _ fun o5 p5 c5 w5 st _ hb hs hl M => TSl.mk ⟨StableC.ad (view_sub _ _ _) hb rfl, E.st (by omega) (hs.trans (view_sub _ _ _)), Req.mk' rq (AllocC.col c5 t fun a22 c6 w6 st6 b22 _ => ?_)⟩
      replace hb := st6.fresh.sub (by simp) _ _ hb
      replace hl := hl.mono' (fun _ _ hp => hp.mono (st6.fresh.sub (by simp))) (st6.fresh.sub (by simp))
      replace M := M.mono (st6.fresh.sub (by simp))
      replace st := st.trans (st6.fresh.weak (by simp) (by simp))
      exact ⟨StableC.ad (view_sub _ _ _) hb rfl, tail2 c6 w6 a22 o5 p5 st hb hl M b22⟩
    · refine Req.mk' rq (AllocC.col c4 t fun a22 c6 w6 st6 b22 _ => ?_)
      replace hb := st6.fresh.sub (by simp) _ _ hb
      replace hs := own_step hs st6.fresh (by simp)
      replace hlo := hlo.mono' (fun _ _ hp => hp.mono (st6.fresh.sub (by simp))) (fun _ _ h => h)
      replace M := M.mono (st6.fresh.sub (by simp))
      replace b15 := st6.fresh.sub (by simp) _ _ b15
      replace st := st.trans (st6.fresh.weak (by simp) (by simp))
      refine ⟨StableC.ad (view_sub _ _ _) hb rfl, ?_⟩
      refine tail1 c6 w6 a15 st hb hs hlo M b15 hne _ fun o5 p5 c5 w5 st st5 hb hs hl M => TSl.mk ⟨StableC.ad (view_sub _ _ _) hb rfl, E.st (by omega) (hs.trans (view_sub _ _ _)), ?_⟩
      exact tail2 c5 w5 a22 o5 p5 st hb hl M (st5.sub ftk _ _ b22)
  · replace hb := st4.fresh.sub (by simp) _ _ hb
    replace hs := own_step hs st4.fresh (by simp)
    replace hlo := hlo.mono' (fun _ _ hp => hp.mono (st4.fresh.sub (by simp))) (fun _ _ h => h)
    replace M := M.mono (st4.fresh.sub (by simp))
    replace st := st.trans (st4.fresh.weak (by simp) (by simp))
    refine ⟨StableC.ad (view_sub _ _ _) hb rfl, AllocC.col c4 k fun a15 c6 w6 st6 b15 hn15 => ?_⟩
    have hne := neq c4 w4 a15 hs hlo hn15
    replace hb := st6.fresh.sub (by simp) _ _ hb
    replace hs := own_step hs st6.fresh (by simp)
    replace hlo := hlo.mono' (fun _ _ hp => hp.mono (st6.fresh.sub (by simp))) (fun _ _ h => h)
    replace M := M.mono (st6.fresh.sub (by simp))
    replace b22 := st6.fresh.sub (by simp) _ _ b22
    replace st := st.trans (st6.fresh.weak (by simp) (by simp))
    refine ⟨StableC.ad (view_sub _ _ _) hb rfl, StableC.ad (view_sub _ _ _) hb rfl, E.st (by omega) (hs.trans (view_sub _ _ _)), ?_⟩
    refine tail1 c6 w6 a15 st hb hs hlo M b15 hne _ fun o5 p5 c5 w5 st st5 hb hs hl M => TSl.mk ⟨StableC.ad (view_sub _ _ _) hb rfl, E.st (by omega) (hs.trans (view_sub _ _ _)), ?_⟩
    exact tail2 c5 w5 a22 o5 p5 st hb hl M (st5.sub ftk _ _ b22)
end Go.Proofs.YtdjgdcafmfheoaaDoor

/-
  Nets: how they lie; slices.Delete; each function once.
-/
import Derived.Test.YtdjgdcafmfheoaaDoorGenNet
import Derived.Test.YtdjgdcafmfheoaaDoorFxM
import Derived.Lib.SliceRun
set_option linter.unusedVariables false
set_option linter.unusedSimpArgs false
namespace Go.Vc
open Go
section
variable {P : Program}
/-- append where there is room -/
theorem append_fit {t e z by' ty : Nat} (hT : SlT P t e z by') {c : Nat → Nat} {i : Nat} {w : World} {g n cap : Nat} {cur : List Value} {x : Value} {m : Nat} {ys : List Value} (hg : view c i w g = some (.cells cur.toArray e (0, 0))) (hr : RdS (wv w) x z m ys)
    (h1 : ∀ u ∈ ys, u.oneCell' = true) (hroom : n + m ≤ cap) (hcs : cur.length = cap * z) {K : Value → World → Prop}
    (h : ∀ w', Wr c i w c w' (some g) → Step c [i] [] w c w' → view c i w' g = some (.cells (cur.take (n * z) ++ ys ++ cur.drop (n * z + ys.length)).toArray e (0, 0)) → K (.slice (some ⟨g, 0, none⟩) (n + m) cap) w') :
    RunV P (Builtin.append_ #[t, t] ty #[.slice (some ⟨g, 0, none⟩) n cap, x]) w K := by
  obtain ⟨ti, zv, hi, hsz, hby, hz, hzs⟩ := hT.inf
  obtain ⟨o, cp, rfl, hmc, hl, hx⟩ := hr
  cases o with
  | none =>
    have hys : ys = [] := by
      rcases hx with h | ⟨b, off, cs, T, fz, e', _⟩
      · exact h
      · simp at e'
    subst hys
    have hm0 : m = 0 := by
      have h0 : m * z = 0 := by simpa using hl.symm
      rcases Nat.mul_eq_zero.1 h0 with h | h
      · exact h
      · have := hT.pos; omega
    subst hm0
    have hrun : (Builtin.append_ #[t, t] ty #[.slice (some ⟨g, 0, none⟩) n cap, .slice none 0 cp]).run P w = .ok (.slice (some ⟨g, 0, none⟩) n cap) w := by
      simp [Builtin.append_, run_underlying hT.und, sizeOf, typeInfo, hi, Builtin.lenOf, Builtin.firstCells, show n ≤ cap by omega, storeCells]
    exact .mk hrun (h w (.same ⟨rfl, rfl, rfl, Nat.le_refl _, fun _ _ _ => rfl⟩ rfl (fun b hb => by simp at hb; subst hb; exact (view_out hg).1)) (.refl ..) (by simpa using hg))
  | some a =>
    have hnews : ∀ j u, ys[j]? = some u → w.cell? (a.add j) = some u := by
      intro j u hu
      have hr : RdS (wv w) (.slice (some a) m cp) z m ys := ⟨_, _, rfl, hmc, hl, hx⟩
      obtain ⟨a', ea, hc⟩ := hr.cell hu
      simp at ea; subst ea; exact hc
    have hgw := (view_out hg).2
    have hfit : n * ti.size + ys.length ≤ cur.toArray.size := by rw [hl, List.size_toArray, hcs, hsz, ← Nat.add_mul]; exact Nat.mul_le_mul_right _ hroom
    have hrun := run_append_room (P := P) w t ty e ti hT.und hi g n cap cur.toArray hgw a m cp ys (by rw [hl, hsz]) hnews h1 hroom hfit
    rw [hsz] at hrun
    have hW : Wr c i w c (w.setRow g (cur.toArray.toList.take (n * z) ++ ys ++ cur.toArray.toList.drop (n * z + ys.length)).toArray) (some g) := .same ⟨rfl, rfl, rfl, by simp, fun k _ hk => setRow_other w g k _ (fun e => hk (by simp [e]))⟩ (by simp) (fun b hb => by simp at hb; subst hb; exact (view_out hg).1)
    have h0 := hW.step
    exact .mk hrun (h _ hW ⟨h0.os, h0.tape, h0.output, h0.size, h0.col, fun b' h1 h2 => by simp at h2; omega, h0.keep⟩ (view_in (view_out hg).1 (setRow_heap w g cur.toArray _ e _ hgw)))
/-- one cell of a row is cleared -/
theorem clear_one {t e ty : Nat} {z : Value} (hT : SlT P t e 1 24) (hv : ∀ w, (zeroValue e).run P w = .ok z w) (hz : z.cells = #[z]) (h1 : z.oneCell' = true) {c : Nat → Nat} {i : Nat} {w : World} {g o cp : Nat} {cur : List Value} (hg : view c i w g = some (.cells cur.toArray e (0, 0))) (ho : o < cur.length) {K : Value → World → Prop}
    (h : ∀ w', Wr c i w c w' (some g) → Step c [i] [] w c w' → view c i w' g = some (.cells (cur.set o z).toArray e (0, 0)) → K (.tuple #[]) w') :
    RunV P (Builtin.clear_ #[t] ty #[.slice (some ⟨g, o, none⟩) 1 cp]) w K := by
  have hS := (StoreC.col (v := z) hg (off := o) (by simpa using ho) (C := fun w' => K (.tuple #[]) w') fun w' hW st hb => h w' hW st (by rw [List.setIfInBounds_toArray] at hb; exact hb))
  obtain ⟨⟨hc, hf⟩, hK⟩ := hS
  have z0 : ∀ j, j < 1 → o + j = o := fun j hj => by omega
  have hrun := Go.Lib.run_clear_slice (P := P) w t e ty z hT.und hv hz h1 g o 1 cp (by omega) (fun j hj => by rw [z0 j hj]; exact hc) (fun j hj => by rw [z0 j hj]; exact hf)
  exact .mk hrun hK
end
section
variable {α : Type} {P : View → α → List Value → Prop}
theorem slot_one (xs : List Value) (i : Nat) : (xs.drop (i * 1)).take 1 = xs[i]?.toList := by
  rw [Nat.mul_one]
  cases h : xs[i]? with
  | none => rw [List.getElem?_eq_none_iff] at h; rw [List.drop_eq_nil_of_le h]; rfl
  | some u =>
    have := List.drop_eq_getElem_cons (lt_of_get h)
    rw [this, List.take_succ_cons, List.take_zero]
    rw [List.getElem?_eq_getElem (lt_of_get h)] at h
    simp at h; rw [h]; rfl
end
end Go.Vc
namespace Go.Proofs.YtdjgdcafmfheoaaDoor
open Go.Vc
attribute [local irreducible] TInt TBool TStr TPtr TSl TAgg TMap TChan T2 T3 T4 BS Req TSome TCell TByte LoadC LoadA StoreC AllocC RunV RunU CallV ExtV EqA StableC StableA StableV TCells ReadV
attribute [local irreducible] eU eT eE
attribute [local irreducible] DrewC eH many rdM wrM eHb rdOp rdAns
theorem zeroSl : ∀ w, (zeroValue 26).run Tryd.prog w = .ok (.slice none 0 0) w := by
  have h : (Tryd.prog.info? 26).map (·.zero) = some (some (.slice none 0 0)) := by kernel_rfl
  intro w
  cases hq : Tryd.prog.info? 26 with
  | none => rw [hq] at h; simp at h
  | some i =>
    have hz : i.zero = some (.slice none 0 0) := by rw [hq] at h; simpa using h
    simp [zeroValue, typeInfo, hq, hz]
theorem Delete_c {c : Nat → Nat} {i : Nat} {g : View} {w : World} {v : Value} {α : Type} {P : View → α → List Value → Prop} {l : List α} {k : Nat} {R : Value → World → Prop} (hl : LsO P 26 1 (view c i w) g v l) (hk : k < l.length) (hlen : l.length ≤ 1000000)
    (h1 : ∀ a es, P g a es → ∀ u ∈ es, u.oneCell' = true)
    (h : ∀ v' w', Step c [i] [] w c w' → LsO P 26 1 (view c i w') g v' (l.eraseIdx k) → R v' w') : CallV Tryd.prog 78 #[v, .int .i64 (k : Int), .int .i64 ((k : Int) + 1)] w R := by
  obtain ⟨xs, ho, hx⟩ := hl
  have hxl := ho.1
  rw [Nat.mul_one] at hxl
  rcases ho.2 with ⟨e, hn0⟩ | ⟨gb, cap, cur, rfl, hg, hnc, hcm, hcs, htake⟩
  · omega
  obtain ⟨cur⟩ := cur
  rw [Nat.mul_one] at hcs htake
  have hcs : cur.length = cap := by simpa using hcs
  have htake : cur.take l.length = xs := by simpa using htake
  have hone : ∀ u ∈ xs, u.oneCell' = true := by
    intro u hu
    obtain ⟨j, hj⟩ := List.getElem?_of_mem hu
    obtain ⟨a, ha⟩ := get_of_lt (l := l) (i := j) (by have := lt_of_get hj; omega)
    refine h1 a _ (hx j a ha) u ?_
    rw [slot_one, hj]; simp
  refine slices_Delete_byte_byte_vc ?_
  unfold slices_Delete_byte_byte_VC
  have e2 : ((k : Int) + 1).toNat = k + 1 := by omega
  refine Req.bndle ⟨by omega, by omega⟩ (Req.bndle ⟨by omega, by omega⟩ (Req.bndle ⟨by omega, by omega⟩ ?_))
  refine BS.eq (fun h => by omega) (fun _ => ?_)
  refine DrewC.col c fun w1 st1 => ?_
  replace hg := st1.sub (by simp) _ _ hg
  refine Req.bndle ⟨by omega, by omega⟩ (Req.bndle ⟨by omega, by omega⟩ ?_)
  rw [e2, slBase_whole, Int.toNat_natCast]
  have hrd : RdS (wv w1) (.slice (some ⟨gb, 0, none⟩) l.length cap) 1 l.length xs := (ho.rd.mono (st1.sub (by simp))).mono (view_sub _ _ _)
  have hx2 := hrd.drop (k := k + 1) (by omega)
  have hdl : (xs.drop ((k + 1) * 1)).length = l.length - (k + 1) := by rw [List.length_drop, Nat.mul_one]; omega
  refine append_fit slBls hg hx2 (fun u hu => hone u (List.mem_of_mem_drop hu)) (by omega) (by omega) fun w2 hW2 st2 hg2 => TSl.mk ?_
  have em : k + (l.length - (k + 1)) = l.length - 1 := by omega
  rw [em]
  refine Req.bndle ⟨by omega, by omega⟩ (Req.bndle ⟨by omega, by omega⟩ ?_)
  rw [Int.toNat_natCast, Int.toNat_natCast]
  have slb : slBase (some (⟨gb, 0, none⟩ : Addr)) cap (l.length - 1) 1 = some ⟨gb, l.length - 1, none⟩ := by
    unfold slBase
    rw [if_neg (by omega)]
    simp only [Option.map_some, addr_add]
    congr 2; omega
  rw [slb, show l.length - (l.length - 1) = 1 by omega]
  generalize hc2 : cur.take (k * 1) ++ xs.drop ((k + 1) * 1) ++ cur.drop (k * 1 + (xs.drop ((k + 1) * 1)).length) = cur2 at hg2
  have hl2 : cur2.length = cap := by
    rw [← hc2, List.length_append, List.length_append, List.length_take, List.length_drop (l := cur), hdl]; omega
  refine clear_one slBls zeroSl rfl rfl hg2 (by omega) fun w3 hW3 st3 hg3 => ?_
  refine h _ w3 (((st1.weak (by simp) (by simp)).trans st2).trans st3) ⟨xs.eraseIdx k, ?_, fun j a hj => ?_⟩
  · have hle : (l.eraseIdx k).length = l.length - 1 := by rw [List.length_eraseIdx_of_lt hk]
    rw [hle]
    refine ⟨by rw [List.length_eraseIdx_of_lt (by omega)]; omega, .inr ⟨gb, cap, _, rfl, hg3, by omega, hcm, by simp [hl2], ?_⟩⟩
    rw [List.toList_toArray, Nat.mul_one, List.take_set_of_le (Nat.le_refl _), ← hc2, List.take_append_of_le_length (by rw [List.length_append, List.length_take, hdl]; omega), List.take_of_length_le (by rw [List.length_append, List.length_take, hdl]; omega)]
    rw [List.eraseIdx_eq_take_drop_succ, Nat.mul_one, Nat.mul_one, ← htake, List.take_take, Nat.min_eq_left (by omega)]
  · rw [slot_one]
    rw [List.getElem?_eraseIdx] at hj ⊢
    split at hj
    · rename_i hlt
      have := hx j a hj
      rw [slot_one] at this
      rw [if_pos hlt]; exact this
    · rename_i hlt
      have := hx (j + 1) a hj
      rw [slot_one] at this
      rw [if_neg hlt]; exact this

/-- a net: its variable in colour i, the row in k, the messages' bytes in d -/
def NetV (c : Nat → Nat) (i k d : Nat) (w : World) (a : Addr) (L : List MsgR) : Prop :=
  ∃ b v, a = ⟨b, 0, none⟩ ∧ view c i w b = some (.cells #[v] 137 (0, 0)) ∧ LsO BytesP 26 1 (view c k w) (view c d w) v (L.map MsgR.enc) ∧ ∀ m ∈ L, m.right ∧ m.ok
theorem NetV.go {c c' : Nat → Nat} {i k d : Nat} {w w' : World} {W N : List Nat} {a : Addr} {L : List MsgR} (H : NetV c i k d w a L) (st : Step c W N w c' w') (hW : i ∉ W ∧ k ∉ W ∧ d ∉ W) : NetV c' i k d w' a L := by
  obtain ⟨b, v, e, hb, hl, hr⟩ := H
  exact ⟨b, v, e, st.sub hW.1 _ _ hb, hl.mono' (fun _ _ hp => hp.mono (st.sub hW.2.2)) (st.sub hW.2.1), hr⟩
def inK (n : Int) (L : List MsgR) : Prop := 0 ≤ n ∧ n < (L.length : Int)
instance (n : Int) (L : List MsgR) : Decidable (inK n L) := by unfold inK; infer_instance
def dropK (n : Int) (L : List MsgR) : List MsgR := if inK n L then L.eraseIdx n.toNat else L
def peekK (n : Int) (L : List MsgR) : MsgR := if inK n L then (L[n.toNat]?).getD MsgR.zero else MsgR.zero
def copyK (n : Int) (L : List MsgR) : Prop := inK n L ∧ L.length < 4000
instance (n : Int) (L : List MsgR) : Decidable (copyK n L) := by unfold copyK; infer_instance
def sendK (m : MsgR) (L : List MsgR) : List MsgR × Int := if m.right then (if L.length < 4000 then (L ++ [m], 0) else (L, 220)) else (L, 1)
theorem New_n (c : Nat → Nat) (i k d : Nat) {w : World} {R : Value → World → Prop}
    (h : ∀ a c' w', Step c [] [i] w c' w' → NetV c' i k d w' a [] → R (.pointer (some a)) w') : CallV Tryd.prog 23 #[] w R := by
  refine net_New_vc ?_
  unfold net_New_VC
  refine AllocC.col c i fun b c1 w1 st1 hb _ => ?_
  exact h _ _ _ st1.fresh ⟨b, _, rfl, hb, LsO.nil .., fun _ h => by simp at h⟩
theorem Len_n {c : Nat → Nat} {i k d : Nat} {w : World} {a : Addr} {L : List MsgR} {R : Value → World → Prop} (H : NetV c i k d w a L) (h : R (.int .i64 (L.length : Int)) w) : CallV Tryd.prog 33 #[.pointer (some a)] w R := by
  obtain ⟨b, v, rfl, hb, hl, hr⟩ := H
  obtain ⟨o, p, rfl⟩ := hl.form
  refine net_Net_Len_vc ?_
  unfold net_Net_Len_VC
  refine LoadC.ad (view_sub _ _ _) _ hb rfl (TSl.mk ?_)
  rw [List.length_map]; exact h
theorem Drop_n {c : Nat → Nat} {i k d : Nat} {w : World} {a : Addr} {L : List MsgR} {n : Int} {R : Value → World → Prop} (hik : i ≠ k) (hid : i ≠ d) (hkd : k ≠ d) (H : NetV c i k d w a L) (hL : L.length ≤ 4000)
    (h : ∀ w', Step c [i, k] [] w c w' → NetV c i k d w' a (dropK n L) → R (.bool (decide (inK n L))) w') : CallV Tryd.prog 26 #[.pointer (some a), .int .i64 n] w R := by
  have no : ¬ inK n L → R (.bool false) w := by
    intro hn
    have := h w (.refl ..)
    unfold dropK at this
    rw [if_neg hn, decide_eq_false hn] at this
    exact this H
  obtain ⟨b, v, rfl, hb, hl, hr⟩ := H
  obtain ⟨o, p, rfl⟩ := hl.form
  refine net_Net_Drop_vc ?_
  unfold net_Net_Drop_VC
  refine BS.dec (fun h0 => no (fun hc => by have := hc.1; omega)) (fun h0 => ?_)
  refine LoadC.ad (view_sub _ _ _) _ hb rfl (TSl.mk ?_)
  unfold net_Net_Drop_K1
  rw [List.length_map]
  refine BS.dec (fun h1 => no (fun hc => by have := hc.2; omega)) (fun h1 => ?_)
  have hin : inK n L := ⟨by omega, by omega⟩
  refine LoadC.ad (view_sub _ _ _) _ hb rfl (TSl.mk ?_)
  obtain ⟨j, rfl⟩ : ∃ j : Nat, n = (j : Int) := ⟨n.toNat, by omega⟩
  rw [wrap_i64 (by omega) (by omega)]
  refine Delete_c hl (by rw [List.length_map]; omega) (by rw [List.length_map]; omega) (fun _ _ hp => hp.ones) fun v' w1 st1 hl => ?_
  obtain ⟨o', p', rfl⟩ := hl.form
  refine TSl.mk ?_
  replace hb := st1.sub (by simpa using hik) _ _ hb
  refine StoreC.ad hb (by simp) fun w2 _ st2 hb => ?_
  have := h w2 ((st1.weak (by simp) (by simp)).trans (st2.weak (by simp) (by simp)))
  unfold dropK at this
  rw [if_pos hin, decide_eq_true hin] at this
  refine this ⟨b, _, rfl, hb, ?_, fun m hm => hr m (List.mem_of_mem_eraseIdx hm)⟩
  have e : (L.eraseIdx (j : Int).toNat).map MsgR.enc = (L.map MsgR.enc).eraseIdx j := by
    rw [Int.toNat_natCast, List.eraseIdx_eq_take_drop_succ, List.eraseIdx_eq_take_drop_succ, List.map_append, List.map_take, List.map_drop]
  rw [e]
  exact hl.mono' (fun _ _ hp => hp.mono ((st1.sub (by simpa using Ne.symm hkd)).trans (st2.sub (by simpa using Ne.symm hid)))) (st2.sub (by simpa using Ne.symm hik))
theorem zero_ok' : MsgR.zero.ok := zero_ok
theorem Peek_n {c : Nat → Nat} {i k d : Nat} (t r u : Nat) {w : World} {a : Addr} {L : List MsgR} {n : Int} {R : Value → World → Prop} (htr : t ≠ r) (hut : u ≠ t) (hur : u ≠ r) (H : NetV c i k d w a L) (hG : GlobS (wv w))
    (h : ∀ x xa ya xh xb c' w', Step c [] [t, r, u] w c' w' → NetV c' i k d w' a L → MsgV (view c' u w') (peekK n L) x xa ya xh xb → R (.tuple #[.agg ((peekK n L).cells x xa ya xh xb).toArray, .bool (decide (inK n L))]) w') :
    CallV Tryd.prog 31 #[.pointer (some a), .int .i64 n] w R := by
  have H0 := H
  have ru : u ∉ [r] := by simpa using hur
  have tu : u ∉ [t] := by simpa using hut
  have tr : t ∉ [r] := by simpa using htr
  clear htr hut hur
  obtain ⟨b, v, rfl, hb, hl, hr⟩ := H
  obtain ⟨o, p, rfl⟩ := hl.form
  refine net_Net_Peek_vc ?_
  unfold net_Net_Peek_VC
  refine AllocC.col c t fun a4 c1 w1 st1 b4 hnew => ?_
  have sz4 : w.heap.size ≤ a4 := size_le_of_none hnew
  have st : Step c [] [t, r, u] w c1 w1 := st1.fresh.weak (by simp) (by simp)
  have no : ¬ inK n L → ∀ c' w' old, Step c [] [t, r, u] w c' w' → view c' t w' a4 = some (.cells old 38 (0, 0)) → old.size = 53 → net_Net_Peek_K1 ⟨b, 0, none⟩ n ⟨a4, 0, none⟩ true w' R := by
    intro hn c' w' old st b4 ho
    unfold net_Net_Peek_K1
    refine BS.yes rfl ?_
    refine RunU.msg (m := MsgR.zero) (v := nilV) (va := nilV) (ua := nilV) (vh := nilV) (vb := nilV) b4 ho (MsgV.zero (wv w')) zero_ok fun w5 hW b4 => ?_
    refine LoadA.all (view_sub _ _ _) b4 (msg_sz zero_ok) ?_
    have := h nilV nilV nilV nilV nilV c' w5 (st.wr_new hW sz4) (H0.go (st.wr_new hW sz4) ⟨by simp, by simp, by simp⟩)
    unfold peekK at this
    rw [if_neg hn, decide_eq_false hn] at this
    exact this (MsgV.zero _)
  refine BS.dec (fun h0 => no (fun hc => by have := hc.1; omega) _ _ _ st b4 rfl) (fun h0 => ?_)
  have hb1 := st.sub (by simp) _ _ hb
  have hl1 := hl.mono' (fun _ _ hp => hp.mono (st.sub (by simp))) (st.sub (by simp))
  refine LoadC.ad (view_sub _ _ _) _ hb1 rfl (TSl.mk ?_)
  rw [List.length_map]
  by_cases hin : inK n L
  · have hin2 := hin
    obtain ⟨g0, g1⟩ := hin2
    have : decide (n ≥ ((L.length : Nat) : Int)) = false := by simp; omega
    rw [this]
    unfold net_Net_Peek_K1
    refine BS.no rfl ?_
    refine LoadC.ad (view_sub _ _ _) _ hb1 rfl (TSl.mk ?_)
    obtain ⟨j, rfl⟩ : ∃ j : Nat, n = (j : Int) := ⟨n.toNat, by omega⟩
    obtain ⟨m, hm⟩ := get_of_lt (l := L) (i := j) (by omega)
    obtain ⟨mr, mok⟩ := hr m (List.mem_of_getElem? hm)
    obtain ⟨es, ⟨y, rfl, hy⟩, E⟩ := LsO.at' (by omega) hl1 (i := j) (a := m.enc) (by rw [List.getElem?_map, hm]; rfl)
    have hpk : peekK (j : Int) L = m := by unfold peekK; rw [if_pos hin, Int.toNat_natCast, hm]; rfl
    obtain ⟨oy, py, rfl⟩ := hy.form
    refine Req.bnd ⟨by omega, by rw [List.length_map]; omega⟩ (E.ld0 (view_sub _ _ _) rfl (TSl.mk ?_))
    have hle := enc_le mr mok
    refine wire_Read_c c1 u (hy.mono (view_sub _ _ _)) (by omega) (hG.mono st.wv) fun x xa ya xh xb c2 w2 st2 M => ?_
    rw [rdM_enc mr mok] at M ⊢
    replace b4 := st2.sub (by simp) _ _ b4
    replace st := st.trans (st2.weak (by simp) (by simp))
    refine T2.mk (TAgg.mk (TInt.mk ?_))
    refine AllocC.col c2 r fun a6 c3 w3 st3 b6 hnew6 => ?_
    have sz6 : w.heap.size ≤ a6 := Nat.le_trans st.size (size_le_of_none hnew6)
    replace b4 := st3.fresh.sub (by simp) _ _ b4
    replace M := M.mono (st3.fresh.sub (by simp))
    replace st := st.trans (st3.fresh.weak (by simp) (by simp))
    refine RunU.msg b6 rfl M mok fun w4 hW4 b6 => ?_
    replace b4 := hW4.step.sub tr _ _ b4
    replace M := M.mono (hW4.step.sub ru)
    replace st := st.wr_new hW4 sz6
    refine LoadA.all (view_sub _ _ _) b6 (msg_sz mok) ?_
    refine RunU.msg b4 rfl M mok fun w5 hW5 b4 => ?_
    replace M := M.mono (hW5.step.sub tu)
    replace st := st.wr_new hW5 sz4
    refine LoadA.all (view_sub _ _ _) b4 (msg_sz mok) ?_
    have := h x xa ya xh xb c3 w5 st (H0.go st ⟨by simp, by simp, by simp⟩)
    rw [hpk, decide_eq_true hin] at this
    exact this M
  · have : decide (n ≥ ((L.length : Nat) : Int)) = true := by
      simp; unfold inK at hin; omega
    rw [this]
    exact no hin _ _ _ st b4 rfl
theorem Take_n {c : Nat → Nat} {i k d : Nat} (t r u p q : Nat) {w : World} {a : Addr} {L : List MsgR} {n : Int} {R : Value → World → Prop} (hh : [i, k, d, t, r, u, p, q].Nodup) (H : NetV c i k d w a L) (hL : L.length ≤ 4000) (hG : GlobS (wv w)) (hok : ∀ m ∈ L, m.ok)
    (h : ∀ x xa ya xh xb c' w', Step c [i, k] [t, r, u, p, q] w c' w' → NetV c' i k d w' a (dropK n L) → MsgV (view c' u w') (peekK n L) x xa ya xh xb → R (.tuple #[.agg ((peekK n L).cells x xa ya xh xb).toArray, .bool (decide (inK n L))]) w') :
    CallV Tryd.prog 24 #[.pointer (some a), .int .i64 n] w R := by
  simp only [List.nodup_cons, List.mem_cons, List.not_mem_nil, or_false, not_or, List.nodup_nil, not_false_eq_true, and_true] at hh
  obtain ⟨⟨ik, id', it, ir, iu, ip, iq⟩, ⟨kd, kt, kr, ku, kp, kq⟩, ⟨dt, dr, du, dp, dq⟩, ⟨tr, tu, tp, tq⟩, ⟨ru, rp, rq⟩, ⟨up, uq⟩, pq⟩ := hh
  have f1 : u ∉ [i, k] := by simp only [List.mem_cons, List.not_mem_nil, or_false, not_or]; exact ⟨Ne.symm iu, Ne.symm ku⟩
  have f2 : p ∉ [i, k] := by simp only [List.mem_cons, List.not_mem_nil, or_false, not_or]; exact ⟨Ne.symm ip, Ne.symm kp⟩
  have f3 : q ∉ [i, k] := by simp only [List.mem_cons, List.not_mem_nil, or_false, not_or]; exact ⟨Ne.symm iq, Ne.symm kq⟩
  have f4 : p ∉ [q] := by simpa using pq
  have f5 : u ∉ [q] := by simpa using uq
  have f6 : u ∉ [p] := by simpa using up
  have f7 : i ∉ [q] ∧ k ∉ [q] ∧ d ∉ [q] := ⟨by simpa using iq, by simpa using kq, by simpa using dq⟩
  have f8 : i ∉ [p] ∧ k ∉ [p] ∧ d ∉ [p] := ⟨by simpa using ip, by simpa using kp, by simpa using dp⟩
  have mok : (peekK n L).ok := by
    unfold peekK
    split
    · rename_i hin
      obtain ⟨g0, g1⟩ := hin
      obtain ⟨m, hm⟩ := get_of_lt (l := L) (i := n.toNat) (by omega)
      rw [hm]; exact hok m (List.mem_of_getElem? hm)
    · exact zero_ok
  refine net_Net_Take_vc ?_
  unfold net_Net_Take_VC
  refine AllocC.col c p fun a4 c1 w1 st1 b4 hnew => ?_
  have sz4 : w.heap.size ≤ a4 := size_le_of_none hnew
  have st : Step c [i, k] [t, r, u, p, q] w c1 w1 := st1.fresh.weak (by simp) (by simp)
  replace H := H.go st1.fresh ⟨by simp, by simp, by simp⟩
  refine Peek_n t r u tr (Ne.symm tu) (Ne.symm ru) H (hG.mono st1.fresh.wv) fun x xa ya xh xb c2 w2 st2 H M => ?_
  replace b4 := st2.sub (by simp) _ _ b4
  replace st := st.trans (st2.weak (by simp) (by simp))
  refine T2.mk (TAgg.mk (TBool.mk ?_))
  refine AllocC.col c2 q fun a6 c3 w3 st3 b6 hnew6 => ?_
  have sz6 : w.heap.size ≤ a6 := Nat.le_trans st.size (size_le_of_none hnew6)
  replace b4 := st3.fresh.sub (by simp) _ _ b4
  replace M := M.mono (st3.fresh.sub (by simp))
  replace H := H.go st3.fresh ⟨by simp, by simp, by simp⟩
  replace st := st.trans (st3.fresh.weak (by simp) (by simp))
  refine RunU.msg b6 rfl M mok fun w4 hW4 b6 => ?_
  replace b4 := hW4.step.sub f4 _ _ b4
  replace M := M.mono (hW4.step.sub f5)
  replace H := H.go hW4.step f7
  replace st := st.wr_new hW4 sz6
  refine Drop_n ik id' kd H hL fun w5 st5 H => TBool.mk ?_
  replace b4 := st5.sub f2 _ _ b4
  replace b6 := st5.sub f3 _ _ b6
  replace M := M.mono (st5.sub f1)
  replace st := st.trans (st5.weak (by simp) (by simp))
  refine LoadA.all (view_sub _ _ _) b6 (msg_sz mok) ?_
  refine RunU.msg b4 rfl M mok fun w6 hW6 b4 => ?_
  replace M := M.mono (hW6.step.sub f6)
  replace H := H.go hW6.step f8
  replace st := st.wr_new hW6 sz4
  refine LoadA.all (view_sub _ _ _) b4 (msg_sz mok) ?_
  exact h x xa ya xh xb c3 w6 st H M
theorem Send_n {c : Nat → Nat} {i k d : Nat} (t : Nat) {w : World} {a : Addr} {L : List MsgR} {m : MsgR} {v va ua vh vb : Value} {R : Value → World → Prop} (hik : i ≠ k) (hid : i ≠ d) (hkd : k ≠ d) (H : NetV c i k d w a L) (hM : MsgV (wv w) m v va ua vh vb) (hok : m.ok) (hG : GlobS (wv w))
    (h : ∀ c' w', Step c [i, k] [k, d, t] w c' w' → NetV c' i k d w' a (sendK m L).1 → R (.int .i64 (sendK m L).2) w') : CallV Tryd.prog 29 #[.pointer (some a), .agg (m.cells v va ua vh vb).toArray] w R := by
  refine net_Net_Send_vc ?_
  unfold net_Net_Send_VC
  refine AllocC.col c t fun a3 c1 w1 st1 b3 _ => ?_
  replace H := H.go st1.fresh ⟨by simp, by simp, by simp⟩
  refine LoadA.all (view_sub _ _ _) b3 (msg_sz hok) ?_
  refine wire_Write_c c1 d (hM.mono st1.fresh.wv) hok (hG.mono st1.fresh.wv) fun r c2 w2 st2 ho => T2.mk ?_
  replace H := H.go st2 ⟨by simp, by simp, by simp⟩
  have st : Step c [i, k] [k, d, t] w c2 w2 := (st1.fresh.weak (by simp) (by simp)).trans (st2.weak (by simp) (by simp))
  obtain ⟨oe, pe, rfl⟩ := ho.form
  refine TSl.mk (TInt.mk ?_)
  rcases wrM_cases m with ⟨hr, e⟩ | ⟨hr, e⟩
  · rw [e]
    refine BS.ne (fun _ => ?_) (fun e => by simp at e)
    have := h c2 w2 st
    unfold sendK at this
    rw [if_neg hr] at this
    exact this H
  rw [e] at ho ⊢
  refine BS.ne (fun e => absurd rfl e) (fun _ => ?_)
  have H0 := H
  obtain ⟨b, v', rfl, hb, hl, hrs⟩ := H
  obtain ⟨o, p, rfl⟩ := hl.form
  refine LoadC.ad (view_sub _ _ _) _ hb rfl (TSl.mk ?_)
  rw [List.length_map]
  refine BS.dec (fun hfull => ?_) (fun hroom => ?_)
  · have := h c2 w2 st
    unfold sendK at this
    rw [if_pos hr, if_neg (by omega)] at this
    exact this H0
  refine LoadC.ad (view_sub _ _ _) _ hb rfl (TSl.mk ?_)
  refine AllocC.col c2 t fun a9 c4 w4 st4 b9 _ => ?_
  replace hb := st4.fresh.sub (by simp) _ _ hb
  replace ho := ho.mono (st4.fresh.sub (by simp))
  replace hl := hl.mono' (fun _ _ hp => hp.mono (st4.fresh.sub (by simp))) (st4.fresh.sub (by simp))
  replace st := st.trans (st4.fresh.weak (by simp) (by simp))
  have one : LsW BytesP 1 (wv w4) (view c4 d w4) (.slice (some ⟨a9, 0, none⟩) 1 1) [m.enc] := LsW.one (view_sub _ _ _ _ _ b9) rfl ⟨_, rfl, ho.rd⟩
  refine LsO.app slBls hl one (fun _ _ hp => hp.ones) (by simp; omega) (by simp; omega) fun o5 p5 c5 w5 st5 hl => TSl.mk ?_
  replace hb := st5.step.sub (by simpa using hik) _ _ hb
  replace hl := hl.mono' (fun _ _ hp => hp.mono (st5.step.sub (i := d) (by simpa using Ne.symm hkd))) (fun _ _ h => h)
  replace st := st.trans (st5.step.weak (by simp) (by simp))
  refine StoreC.ad hb (by simp) fun w6 _ st6 hb => ?_
  replace hl := hl.mono' (fun _ _ hp => hp.mono (st6.sub (i := d) (by simpa using Ne.symm hid))) (st6.sub (by simpa using Ne.symm hik))
  replace st := st.trans (st6.weak (by simp) (by simp))
  have := h c5 w6 st
  unfold sendK at this
  rw [if_pos hr, if_pos (by omega)] at this
  refine this ⟨b, _, rfl, hb, ?_, fun x hx => ?_⟩
  · rw [List.map_append]; exact hl
  · rcases List.mem_append.1 hx with hx | hx
    · exact hrs x hx
    · rw [List.mem_singleton] at hx; subst hx; exact ⟨hr, hok⟩
theorem Copy_n {c : Nat → Nat} {i k d : Nat} (t : Nat) {w : World} {a : Addr} {L : List MsgR} {n : Int} {R : Value → World → Prop} (hik : i ≠ k) (hid : i ≠ d) (hkd : k ≠ d) (H : NetV c i k d w a L)
    (h : ∀ c' w', Step c [i, k] [k, t] w c' w' → NetV c' i k d w' a (if copyK n L then L ++ [peekK n L] else L) → R (.bool (decide (copyK n L))) w') : CallV Tryd.prog 27 #[.pointer (some a), .int .i64 n] w R := by
  have no : ¬ copyK n L → R (.bool false) w := by
    intro hn
    have := h c w (.refl ..)
    rw [if_neg hn, decide_eq_false hn] at this
    exact this H
  obtain ⟨b, v', rfl, hb, hl, hrs⟩ := H
  obtain ⟨o, p, rfl⟩ := hl.form
  have hlm : (L.map MsgR.enc).length = L.length := List.length_map ..
  refine net_Net_Copy_vc ?_
  unfold net_Net_Copy_VC
  refine BS.dec (fun h0 => no (fun hc => by have := hc.1.1; omega)) (fun h0 => ?_)
  refine LoadC.ad (view_sub _ _ _) _ hb rfl (TSl.mk ?_)
  rw [List.length_map]
  refine BS.dec (fun h1 => no (fun hc => by have := hc.1.2; omega)) (fun h1 => ?_)
  refine LoadC.ad (view_sub _ _ _) _ hb rfl (TSl.mk ?_)
  unfold net_Net_Copy_K1
  refine BS.dec (fun h2 => no (fun hc => by have := hc.2; omega)) (fun h2 => ?_)
  have hc : copyK n L := ⟨⟨by omega, by omega⟩, by omega⟩
  refine DrewC.col c fun w1 st1 => ?_
  replace hb := st1.sub (by simp) _ _ hb
  replace hl := hl.mono' (fun _ _ hp => hp.mono (st1.sub (by simp))) (st1.sub (by simp))
  have st : Step c [i, k] [k, t] w c w1 := st1.weak (by simp) (by simp)
  refine LoadC.ad (view_sub _ _ _) _ hb rfl (TSl.mk ?_)
  refine LoadC.ad (view_sub _ _ _) _ hb rfl (TSl.mk ?_)
  obtain ⟨j, rfl⟩ : ∃ j : Nat, n = (j : Int) := ⟨n.toNat, by omega⟩
  obtain ⟨m, hm⟩ := get_of_lt (l := L) (i := j) (by omega)
  obtain ⟨mr, mok⟩ := hrs m (List.mem_of_getElem? hm)
  have hpk : peekK (j : Int) L = m := by unfold peekK; rw [if_pos hc.1, Int.toNat_natCast, hm]; rfl
  obtain ⟨es, ⟨y, rfl, hy⟩, E⟩ := LsO.at' (by omega) hl (i := j) (a := m.enc) (by rw [List.getElem?_map, hm]; rfl)
  obtain ⟨oy, py, rfl⟩ := hy.form
  refine Req.bnd ⟨by omega, by rw [List.length_map]; omega⟩ (E.ld0 (view_sub _ _ _) rfl (TSl.mk ?_))
  refine AllocC.col c t fun a9 c4 w4 st4 b9 _ => ?_
  replace hb := st4.fresh.sub (by simp) _ _ hb
  replace hy := hy.mono (st4.fresh.sub (by simp))
  replace hl := hl.mono' (fun _ _ hp => hp.mono (st4.fresh.sub (by simp))) (st4.fresh.sub (by simp))
  replace st := st.trans (st4.fresh.weak (by simp) (by simp))
  refine ⟨StableC.ad (view_sub _ _ _) hb rfl, ?_⟩
  have one : LsW BytesP 1 (wv w4) (view c4 d w4) (.slice (some ⟨a9, 0, none⟩) 1 1) [m.enc] := LsW.one (view_sub _ _ _ _ _ b9) rfl ⟨_, rfl, hy⟩
  refine LsO.app slBls hl one (fun _ _ hp => hp.ones) (by simp; omega) (by simp; omega) fun o5 p5 c5 w5 st5 hl => TSl.mk ?_
  replace hb := st5.step.sub (by simpa using hik) _ _ hb
  replace hl := hl.mono' (fun _ _ hp => hp.mono (st5.step.sub (i := d) (by simpa using Ne.symm hkd))) (fun _ _ h => h)
  replace st := st.trans (st5.step.weak (by simp) (by simp))
  refine StoreC.ad hb (by simp) fun w6 _ st6 hb => ?_
  replace hl := hl.mono' (fun _ _ hp => hp.mono (st6.sub (i := d) (by simpa using Ne.symm hid))) (st6.sub (by simpa using Ne.symm hik))
  replace st := st.trans (st6.weak (by simp) (by simp))
  have := h c5 w6 st
  rw [if_pos hc, decide_eq_true hc, hpk] at this
  refine this ⟨b, _, rfl, hb, ?_, fun x hx => ?_⟩
  · rw [List.map_append]; exact hl
  · rcases List.mem_append.1 hx with hx | hx
    · exact hrs x hx
    · rw [List.mem_singleton] at hx; subst hx; exact ⟨mr, mok⟩
end Go.Proofs.YtdjgdcafmfheoaaDoor

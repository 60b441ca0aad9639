/-
  PackBack: the walk: for every script the law returns true and nothing of what was there has turned.
-/
import Derived.Test.YtpmpfahedbfppaaL2b
import Derived.Test.YtpmpfahedbfppaaArgs
set_option linter.unusedVariables false
namespace Go.Proofs.Ytpmpfahedbfppaa.packBack
open Go.Vc Go.ChangeShapes Go.WideShapes Go.ChangeAt Go.RowKit
attribute [local irreducible] TInt TBool TStr TPtr TSl TAgg TMap TChan T2 T3 T4 BS Req TSome TCell TByte LoadC LoadA StoreC AllocC RunV RunU CallV EqA StableC StableA StableV TCells ReadV

theorem slOp : SlT Try.prog 22 31 4 48 := .of (by kernel_rfl)

def OpD.kb (o : OpD) : Int := bitsV .and .i64 o.kind 1
def OpD.good (o : OpD) : Prop := (OpD.kb o = 0 ∧ uintOk o.n o.size) ∨ (OpD.kb o = 1 ∧ o.b.length < 65536)
def OpD.enc (o : OpD) : List UInt8 := if OpD.kb o = 0 then be o.n o.size.toNat else be o.b.length 2 ++ o.b
theorem OpD.kb01 (o : OpD) : OpD.kb o = 0 ∨ OpD.kb o = 1 := by
  obtain ⟨k, h, hk⟩ := and_mask o.kind 1 (by omega)
  unfold OpD.kb
  rw [show ((1 : Nat) : Int) = 1 from rfl] at h
  rw [h]; omega
theorem enc_uint (o : OpD) (h : bitsV .and .i64 o.kind 1 = 0) : OpD.enc o = be o.n o.size.toNat := if_pos h
theorem enc_text (o : OpD) (h : ¬ bitsV .and .i64 o.kind 1 = 0) : OpD.enc o = be o.b.length 2 ++ o.b := if_neg h
def encs (ds : List OpD) : List UInt8 := (ds.map OpD.enc).flatten
theorem encs_cons (o : OpD) (ds : List OpD) : encs (o :: ds) = OpD.enc o ++ encs ds := by simp [encs]
theorem encs_append (a b : List OpD) : encs (a ++ b) = encs a ++ encs b := by simp [encs]
theorem encs_snoc (o : OpD) (ds : List OpD) : encs (ds ++ [o]) = encs ds ++ OpD.enc o := by simp [encs]

def DoneV (h h0 : View) (v : Value) (ds : List OpD) : Prop := ∃ xs, OwS h v 31 4 ds.length xs ∧ ∀ (i : Nat) (o : OpD), ds[i]? = some o → OpD.good o ∧ ∃ vb, OpV h0 o vb ∧ ∀ (k : Nat) (u : Value), (o.cells vb)[k]? = some u → xs[i * 4 + k]? = some u
theorem DoneV.mono {h h' h0 h0' : View} {v : Value} {ds : List OpD} (hd : DoneV h h0 v ds) (hs : Sub h h') (hs0 : Sub h0 h0') : DoneV h' h0' v ds := by
  obtain ⟨xs, ho, hx⟩ := hd
  exact ⟨xs, ho.mono hs, fun i o hi => by obtain ⟨hg, vb, hv, hk⟩ := hx i o hi; exact ⟨hg, vb, hv.mono hs0, hk⟩⟩

abbrev cols : List Nat := [1, 2, 3, 4, 5, 6, 7, 8]
structure St (w0 : World) (c : Nat → Nat) (w : World) (ap : Addr) (vd : Value) (ds : List OpD) : Prop where
  step : Step (fun _ => 0) cols cols w0 c w
  pen : PenV (view c 3 w) ap (encs ds)
  don : DoneV (view c 4 w) (view c 0 w) vd ds

theorem k2 {w0 : World} {ap : Addr} {vb : Value} {od : OpD} {o4 oS : Option Addr} {l4 c4 kS kS1 : Nat} {ds : List OpD} {b6 i : Nat} {lenI : Int} {B : List Value → World → Prop} {R : Value → World → Prop} {c : Nat → Nat} {w : World}
    (hst : Step (fun _ => 0) cols cols w0 c w) (hp : PenV (view c 3 w) ap (encs (ds ++ [od]))) (hd : DoneV (view c 4 w) (view c 0 w) (.slice o4 l4 c4) ds) (hg : OpD.good od) (hn : ds.length ≤ 100000)
    (hop : view c 6 w b6 = some (.cells (od.cells vb).toArray 31 (0, 0))) (hv : OpV (view c 0 w) od vb) (hi : i < 140737488355328)
    (h : ∀ vd c' w', St w0 c' w' ap vd (ds ++ [od]) → B [vd, .int .i64 ((i + 1 : Nat) : Int)] w') :
    law02_PackBack_K2 ap o4 l4 c4 ⟨b6, 0, none⟩ oS kS kS1 lenI i true B w R := by
  unfold law02_PackBack_K2
  refine BS.yes rfl ?_
  refine LoadA.at (off := 0) (es := od.cells vb) (view_sub c 6 w) hop rfl (fun k u hu => by simpa using hu) ?_
  refine Req.mk' rfl ?_
  refine AllocC.col c 8 fun b c1 w1 h1 hb _ => ?_
  obtain ⟨xs, ho, hx⟩ := hd
  obtain ⟨ov, cv, rfl⟩ := hv.rd.form
  refine append_col slOp (ho.mono (h1.step.sub (i := 4) (by simp))) (RdS.block (n := 1) (z := 4) (view_sub c1 8 w1 _ _ hb) rfl (Nat.le_refl _)) (by simp [OpD.cells, Value.oneCell']) (by omega) (by omega) fun v2 c2 w2 h2 ho2 _ => ?_
  obtain ⟨o2, cp2, rfl⟩ := ho2.form
  refine TSl.mk ?_
  rw [wrap_i64 (by omega) (by omega), show (i : Int) + 1 = ((i + 1 : Nat) : Int) by omega]
  have hs := h1.step.and h2.step
  refine h _ c2 w2 ⟨(hst.and hs).weak (by simp) (by simp), hp.mono (hs.sub (i := 3) (by simp)), ?_⟩
  refine ⟨_, by rw [List.length_append]; exact ho2, fun j o hj => ?_⟩
  have hxl : xs.length = ds.length * 4 := ho.1
  rcases Nat.lt_or_ge j ds.length with hjl | hjl
  · rw [List.getElem?_append_left hjl] at hj
    obtain ⟨hg', vb', hv', hk'⟩ := hx j o hj
    refine ⟨hg', vb', hv'.mono (hs.sub (i := 0) (by simp)), fun k u hu => ?_⟩
    have := hk' k u hu
    rw [List.getElem?_append_left]
    · exact this
    · rcases Nat.lt_or_ge (j * 4 + k) xs.length with h' | h'
      · exact h'
      · rw [List.getElem?_eq_none h'] at this; simp at this
  · rw [List.getElem?_append_right hjl] at hj
    have hj2 : j = ds.length := by
      rcases Nat.lt_or_ge (j - ds.length) 1 with h1 | h1
      · omega
      · rw [List.getElem?_eq_none (by simpa using h1)] at hj; simp at hj
    subst hj2
    rw [Nat.sub_self] at hj
    simp at hj
    subst hj
    refine ⟨hg, _, hv.mono (hs.sub (i := 0) (by simp)), fun k u hu => ?_⟩
    rw [List.getElem?_append_right (by omega), hxl, Nat.add_sub_cancel_left]
    exact hu

theorem k1 {w0 : World} {ap : Addr} {ov : Option Addr} {cv : Nat} {od : OpD} {o4 oS : Option Addr} {l4 c4 kS kS1 : Nat} {ds : List OpD} {b6 i : Nat} {lenI : Int} {B : List Value → World → Prop} {R : Value → World → Prop} {c : Nat → Nat} {w : World}
    (hst : St w0 c w ap (.slice o4 l4 c4) ds) (hn : ds.length ≤ 100000) (hl : (encs ds).length ≤ 1000000) (hbl : od.b.length ≤ 1000000) (hbad : OpD.kb od = 0 → ¬ uintOk od.n od.size)
    (hop : view c 6 w b6 = some (.cells (od.cells (.slice ov od.b.length cv)).toArray 31 (0, 0))) (hv : OpV (view c 0 w) od (.slice ov od.b.length cv)) (hi : i < 140737488355328)
    (hB : ∀ ds' vd c' w', (ds' = ds ∨ OpD.good od ∧ ds' = ds ++ [od]) → St w0 c' w' ap vd ds' → B [vd, .int .i64 ((i + 1 : Nat) : Int)] w') :
    law02_PackBack_K1 ap o4 l4 c4 ⟨b6, 0, none⟩ oS kS kS1 lenI i false B w R := by
  unfold law02_PackBack_K1
  refine BS.no rfl ?_
  rw [addr_add, addr_add]
  have hw : IntKind.wrap .i64 ((i : Int) + 1) = ((i + 1 : Nat) : Int) := by rw [wrap_i64 (by omega) (by omega)]; omega
  refine LoadC.at (v := .int .i64 od.kind) (view_sub c 6 w) hop rfl (TInt.mk ?_)
  refine BS.eq (fun h1 => ?_) (fun _ => by rw [hw]; exact hB ds _ c w (.inl rfl) hst)
  refine LoadC.at (v := .slice ov od.b.length cv) (view_sub c 6 w) hop rfl (TSl.mk ?_)
  refine Pen_Text hst.pen (hv.rd.mono (view_sub _ _ _)) ⟨0, by omega, hv.rd⟩ (by omega) (fun _ => ?_) (fun hok c1 w1 st1 hp1 => ?_)
  · refine TInt.mk ?_
    unfold law02_PackBack_K2
    exact BS.no rfl (by rw [hw]; exact hB ds _ c w (.inl rfl) hst)
  · refine TInt.mk ?_
    have hg : OpD.good od := .inr ⟨h1, hok⟩
    have henc : OpD.enc od = be od.b.length 2 ++ od.b := by unfold OpD.enc; rw [if_neg (by unfold OpD.kb; omega)]
    refine k2 (ds := ds) ((hst.step.and st1).weak (by simp) (by simp)) (by rw [encs_snoc, henc, ← List.append_assoc]; exact hp1) (hst.don.mono (st1.sub (i := 4) (by simp)) (st1.sub (i := 0) (by simp))) hg hn
      (st1.sub (i := 6) (by simp) _ _ hop) (hv.mono (st1.sub (i := 0) (by simp))) hi fun vd c' w' hs => hB _ vd c' w' (.inr ⟨hg, rfl⟩) hs

theorem enc_len (o : OpD) (h : OpD.good o) : (OpD.enc o).length ≤ o.b.length + 10 := by
  unfold OpD.enc
  rcases h with ⟨h1, h2, h3, _⟩ | ⟨h1, h2⟩
  · rw [if_pos h1, be_length]; omega
  · rw [if_neg (by omega), List.length_append, be_length]; omega
theorem kb_eq (o : OpD) : bitsV .and .i64 o.kind 1 = OpD.kb o := rfl

theorem walk (v : Value) (ops : List OpD) (w : World) (hs : ScrV (wv w) v ops) : CallV Try.prog 6 #[v] w fun r w' => r = .bool true ∧ Below w.heap.size w w' := by
  have fin : ∀ {c' w'} {W N : List Nat}, Step (fun _ => 0) W N w c' w' → 0 ∉ W → Below w.heap.size w w' := fun h h0 => h.below fun _ => h0
  have hs0 : ScrV (view (fun _ => 0) 0 w) v ops := hs
  obtain ⟨xs, hr, hlen, _⟩ := id hs
  obtain ⟨o0, cp0, rfl⟩ := hr.form
  have smono : ∀ {c' w'} {W N : List Nat}, Step (fun _ => 0) W N w c' w' → 0 ∉ W → ScrV (view c' 0 w') (.slice o0 ops.length cp0) ops := fun h h0 => hs0.mono (h.sub (i := 0) h0)
  refine law02_PackBack_vc ?_
  unfold law02_PackBack_VC
  refine speaks (c := fun _ => 0) 1 fun c1 w1 h1 => ?_
  refine TBool.mk (BS.no rfl ?_)
  refine great (smono h1 (by simp)) (TBool.mk (BS.yes rfl ⟨rfl, fin h1 (by simp)⟩)) (fun htot hall => TBool.mk (BS.no rfl ?_))
  have hlen := tot_len ops
  refine AllocC.col c1 3 fun p c2 w2 h2 hp _ => ?_
  refine AllocC.col c2 4 fun q c3 w3 h3 hq _ => ?_
  have hst3 : Step (fun _ => 0) cols cols w c3 w3 := (h1.and (h2.step.and h3.step)).weak (by simp) (by simp)
  have hA : PenV (view c2 3 w2) ⟨p, 0, none⟩ [] := ⟨p, _, rfl, hp, OwS.nil ..⟩
  refine ⟨fun vs w' => ∃ (i : Nat) (vd : Value) (c' : Nat → Nat) (ds : List OpD), i ≤ ops.length ∧ vs = [vd, .int .i64 i] ∧ St w c' w' ⟨p, 0, none⟩ vd ds ∧ ds.length ≤ i ∧ (encs ds).length ≤ tot (ops.take i) ∧ (∀ o ∈ ds, o.b.length ≤ 1000000),
    fun vs _ => match vs with | [_, .int _ x] => (ops.length - x).toNat | _ => 0, ⟨0, _, c3, [], by omega, rfl, ⟨hst3, hA.mono (h3.step.sub (by simp)), ⟨[], OwS.empty hq, fun i o h => by simp at h⟩⟩, by simp, by simp [encs], by simp⟩, ?_⟩
  rintro _ w5 o4 l4 c4 n21 ⟨i, vd, c5, ds, hi, e, st, hdl, hll, hdb⟩
  simp only [List.cons.injEq, Value.int.injEq, true_and, and_true] at e
  obtain ⟨rfl, rfl⟩ := e
  have htk := tot_le ops i
  refine BS.dec (fun hlt => ?_) (fun hge => ?_)
  · refine Req.bnd ⟨by omega, hlt⟩ ?_
    obtain ⟨od, hod⟩ : ∃ od, ops[i]? = some od := ⟨ops[i]'(by omega), List.getElem?_eq_getElem _⟩
    obtain ⟨b0, off, cs, T, fz, vb, rfl, hblk, hv, hk⟩ := (smono st.step (by simp)).at hod
    have hbl := hall od (List.mem_of_getElem? hod)
    obtain ⟨ob, cb, rfl⟩ := hv.rd.form
    refine TSome.mk ?_
    rw [addr_add, Int.toNat_natCast]
    refine LoadA.at (es := od.cells (.slice ob od.b.length cb)) (view_sub c5 0 w5) hblk rfl (fun k u hu => by rw [Nat.add_assoc]; exact hk k u hu) ?_
    refine AllocC.col c5 6 fun b6 c6 w6 h6 hb6 _ => ?_
    refine storeVar_col hb6 (by kernel_rfl) rfl (by simp [OpD.cells, Value.oneCell']) fun w7 h7 _ hb7 => ?_
    have hs7 := h6.step.and h7.step
    have st7 : St w c6 w7 ⟨p, 0, none⟩ (.slice o4 l4 c4) ds := ⟨(st.step.and hs7).weak (by simp) (by simp), st.pen.mono (hs7.sub (by simp)), st.don.mono (hs7.sub (by simp)) (hs7.sub (by simp))⟩
    have hv7 := hv.mono (hs7.sub (i := 0) (by simp))
    rw [addr_add, addr_add, addr_add]
    have back : ∀ (ds' : List OpD) (vd : Value) (c' : Nat → Nat) (w' : World), (ds' = ds ∨ OpD.good od ∧ ds' = ds ++ [od]) → St w c' w' ⟨p, 0, none⟩ vd ds' →
        Back (fun vs w' => ∃ (i : Nat) (vd : Value) (c' : Nat → Nat) (ds : List OpD), i ≤ ops.length ∧ vs = [vd, .int .i64 i] ∧ St w c' w' ⟨p, 0, none⟩ vd ds ∧ ds.length ≤ i ∧ (encs ds).length ≤ tot (ops.take i) ∧ (∀ o ∈ ds, o.b.length ≤ 1000000))
          (fun vs _ => match vs with | [_, .int _ x] => (ops.length - x).toNat | _ => 0) [.slice o4 l4 c4, .int .i64 i] w5 [vd, .int .i64 ((i + 1 : Nat) : Int)] w' := fun ds' vd c' w' hds hs => by
      have ht := tot_take ops i od hod
      refine ⟨⟨i + 1, vd, c', ds', by omega, rfl, hs, ?_, ?_, ?_⟩, ?_⟩
      · rcases hds with rfl | ⟨_, rfl⟩
        · omega
        · simp; omega
      · rcases hds with rfl | ⟨hg, rfl⟩
        · omega
        · have := enc_len od hg
          rw [encs_snoc, List.length_append]; omega
      · rcases hds with rfl | ⟨hg, rfl⟩
        · exact hdb
        · intro o ho
          rcases List.mem_append.1 ho with h | h
          · exact hdb o h
          · simp at h; subst h; exact hbl
      · show ((ops.length : Int) - ((i + 1 : Nat) : Int)).toNat < ((ops.length : Int) - i).toNat
        omega
    refine LoadC.at (v := .int .i64 od.kind) (view_sub c6 6 w7) hb7 rfl (TInt.mk ?_)
    refine BS.eq (fun hk0 => ?_) (fun hk0 => ?_)
    · refine LoadC.at (v := .int .u64 od.n) (view_sub c6 6 w7) hb7 rfl (TInt.mk ?_)
      refine LoadC.at (v := .int .i64 od.size) (view_sub c6 6 w7) hb7 rfl (TInt.mk ?_)
      refine Pen_Uint st7.pen hv.n (by omega) (fun hbad => ?_) (fun hok c8 w8 h8 hp8 => ?_)
      · refine TInt.mk ?_
        exact k1 st7 (by omega) (by omega) hbl (fun _ => hbad) hb7 hv7 (by omega) back
      · refine TInt.mk ?_
        unfold law02_PackBack_K1
        refine BS.yes rfl ?_
        have hg : OpD.good od := .inl ⟨hk0, hok⟩
        have henc : OpD.enc od = be od.n od.size.toNat := enc_uint od hk0
        exact k2 (ds := ds) ((st7.step.and h8).weak (by simp) (by simp)) (by rw [encs_snoc, henc]; exact hp8) (st7.don.mono (h8.sub (i := 4) (by simp)) (h8.sub (i := 0) (by simp))) hg (by omega)
          (h8.sub (i := 6) (by simp) _ _ hb7) (hv7.mono (h8.sub (i := 0) (by simp))) (by omega) fun vd c' w' hs => back _ vd c' w' (.inr ⟨hg, rfl⟩) hs
    · exact k1 st7 (by omega) (by omega) hbl (fun h => absurd h hk0) hb7 hv7 (by omega) back
  · refine Pen_Data 7 st.pen (by omega) fun v6 c6 w6 h6 ho6 => ?_
    obtain ⟨o6, cp6, rfl⟩ := ho6.form
    refine TSl.mk ?_
    refine NewEye c6 5 (ho6.mono (view_sub _ _ _)).rd (by omega) fun ax c7 w7 h7 he7 => ?_
    refine TPtr.mk (BS.no rfl ?_)
    have hs7 := h6.and h7
    obtain ⟨ys, hys, hdx⟩ := id st.don
    have el4 : l4 = ds.length := hys.rd.len.1
    subst el4
    refine ⟨fun vs w' => ∃ (i : Nat) (c' : Nat → Nat), i ≤ ds.length ∧ vs = [.int .i64 i] ∧ Step (fun _ => 0) cols cols w c' w' ∧ DoneV (view c' 4 w') (view c' 0 w') (.slice o4 ds.length c4) ds ∧ EyeV (view c' 5 w') ax (encs (ds.drop i)),
      fun vs _ => match vs with | [.int _ x] => (ds.length - x).toNat | _ => 0, ⟨0, c7, by omega, rfl, (st.step.and hs7).weak (by simp) (by simp), st.don.mono (hs7.sub (by simp)) (hs7.sub (by simp)), he7⟩, ?_⟩
    rintro _ w8 n64 ⟨i, c8, hi8, e, hst8, hd8, he8⟩
    simp only [List.cons.injEq, Value.int.injEq, true_and, and_true] at e
    subst e
    refine BS.dec (fun hlt => ?_) (fun hge => ?_)
    · refine Req.bnd ⟨by omega, hlt⟩ ?_
      obtain ⟨od, hod⟩ : ∃ od, ds[i]? = some od := ⟨ds[i]'(by omega), List.getElem?_eq_getElem _⟩
      obtain ⟨zs, hzs, hzx⟩ := id hd8
      obtain ⟨hg, vb, hv, hk⟩ := hzx i od hod
      have hbl := hdb od (List.mem_of_getElem? hod)
      have hne : zs ≠ [] := by
        intro e; subst e
        have := hk 0 _ rfl
        simp at this
      obtain ⟨b0, off, cs, T, fz, rfl, hblk, hc⟩ := hzs.rd.base hne
      obtain ⟨ob, cb, rfl⟩ := hv.rd.form
      refine TSome.mk ?_
      rw [addr_add, Int.toNat_natCast]
      refine LoadA.at (es := od.cells (.slice ob od.b.length cb)) (view_sub c8 4 w8) hblk rfl (fun k u hu => by rw [Nat.add_assoc]; exact hc _ u (hk k u hu)) ?_
      refine AllocC.col c8 6 fun b9 c9 w9 h9 hb9 _ => ?_
      refine storeVar_col hb9 (by kernel_rfl) rfl (by simp [OpD.cells, Value.oneCell']) fun w10 h10 _ hb10 => ?_
      have hs10 := h9.step.and h10.step
      have he10 := he8.mono (hs10.sub (i := 5) (by simp))
      have hd10 := hd8.mono (hs10.sub (i := 4) (by simp)) (hs10.sub (i := 0) (by simp))
      have hv10 := hv.mono (hs10.sub (i := 0) (by simp))
      have hdrop : ds.drop i = od :: ds.drop (i + 1) := by
        rw [List.drop_eq_getElem_cons (by omega)]
        congr 1
        have := List.getElem?_eq_getElem (l := ds) (i := i) (by omega)
        rw [hod] at this; simpa using this.symm
      rw [hdrop, encs_cons] at he10
      have hel : (OpD.enc od ++ encs (ds.drop (i + 1))).length ≤ 1000000 := by
        have h1 : (encs (ds.drop i)).length ≤ (encs ds).length := by
          have e := congrArg (fun x => (encs x).length) (List.take_append_drop i ds)
          simp only [encs_append, List.length_append] at e
          omega
        rw [hdrop, encs_cons] at h1
        omega
      rw [addr_add, addr_add, addr_add, addr_add]
      have hw : IntKind.wrap .i64 ((i : Int) + 1) = ((i + 1 : Nat) : Int) := by rw [wrap_i64 (by omega) (by omega)]; omega
      rw [hw]
      have back : ∀ (c' : Nat → Nat) (w' : World), Step (fun _ => 0) cols cols w c' w' → DoneV (view c' 4 w') (view c' 0 w') (.slice (some ⟨b0, off, none⟩) ds.length c4) ds → EyeV (view c' 5 w') ax (encs (ds.drop (i + 1))) →
          Back (fun vs w' => ∃ (i : Nat) (c' : Nat → Nat), i ≤ ds.length ∧ vs = [.int .i64 i] ∧ Step (fun _ => 0) cols cols w c' w' ∧ DoneV (view c' 4 w') (view c' 0 w') (.slice (some ⟨b0, off, none⟩) ds.length c4) ds ∧ EyeV (view c' 5 w') ax (encs (ds.drop i)))
            (fun vs _ => match vs with | [.int _ x] => (ds.length - x).toNat | _ => 0) [.int .i64 i] w8 [.int .i64 ((i + 1 : Nat) : Int)] w' := fun c' w' a1 a2 a3 => by
        refine ⟨⟨i + 1, c', by omega, rfl, a1, a2, a3⟩, ?_⟩
        show ((ds.length : Int) - ((i + 1 : Nat) : Int)).toNat < ((ds.length : Int) - i).toNat
        omega
      refine LoadC.at (v := .int .i64 od.kind) (view_sub c9 6 w10) hb10 rfl (TInt.mk ?_)
      refine BS.eq (fun hk0 => ?_) (fun hk0 => ?_)
      · have hok : uintOk od.n od.size := by
          rcases hg with ⟨_, h⟩ | ⟨h, _⟩
          · exact h
          · rw [← kb_eq, hk0] at h; simp at h
        obtain ⟨ho1, ho2, ho3⟩ := hok
        have henc : OpD.enc od = be od.n od.size.toNat := enc_uint od hk0
        rw [henc] at he10 hel
        refine LoadC.at (v := .int .i64 od.size) (view_sub c9 6 w10) hb10 rfl (TInt.mk ?_)
        have htk : (be od.n od.size.toNat ++ encs (ds.drop (i + 1))).take od.size.toNat = be od.n od.size.toNat := by
          have := List.take_left (l₁ := be od.n od.size.toNat) (l₂ := encs (ds.drop (i + 1)))
          rwa [be_length] at this
        have hdp : (be od.n od.size.toNat ++ encs (ds.drop (i + 1))).drop od.size.toNat = encs (ds.drop (i + 1)) := by
          have := List.drop_left (l₁ := be od.n od.size.toNat) (l₂ := encs (ds.drop (i + 1)))
          rwa [be_length] at this
        refine Eye_Uint he10 8 (by omega) (fun hbad => absurd ⟨ho1, ho2⟩ hbad) (fun _ _ hs => ?_) (fun _ _ _ c11 w11 h11 _ he11 => ?_)
        · rw [List.length_append, be_length] at hs; omega
        · refine T2.mk (TInt.mk (TInt.mk ?_))
          refine BS.no rfl ?_
          have hb11 := h11.sub (i := 6) (by simp) _ _ hb10
          refine LoadC.at (v := .int .u64 od.n) (view_sub c9 6 w10 |> fun _ => view_sub c11 6 w11) hb11 rfl (TInt.mk ?_)
          rw [htk, num_be, Nat.mod_eq_of_lt ho3]
          refine BS.ne (fun h => absurd rfl h) (fun _ => ?_)
          rw [hdp] at he11
          exact back c11 w11 ((hst8.and (hs10.and h11)).weak (by simp) (by simp)) (hd10.mono (h11.sub (by simp)) (h11.sub (by simp))) he11
      · have hk1 : od.b.length < 65536 := by
          rcases hg with ⟨h, _⟩ | ⟨_, h⟩
          · exact absurd h hk0
          · exact h
        have henc : OpD.enc od = be od.b.length 2 ++ od.b := enc_text od hk0
        rw [henc] at he10 hel
        have htk : ((be od.b.length 2 ++ od.b) ++ encs (ds.drop (i + 1))).take 2 = be od.b.length 2 := by
          have := List.take_left (l₁ := be od.b.length 2) (l₂ := od.b ++ encs (ds.drop (i + 1)))
          rw [be_length] at this
          rw [List.append_assoc]; exact this
        have hdp : ((be od.b.length 2 ++ od.b) ++ encs (ds.drop (i + 1))).drop 2 = od.b ++ encs (ds.drop (i + 1)) := by
          have := List.drop_left (l₁ := be od.b.length 2) (l₂ := od.b ++ encs (ds.drop (i + 1)))
          rw [be_length] at this
          rw [List.append_assoc]; exact this
        have hnum : num (((be od.b.length 2 ++ od.b) ++ encs (ds.drop (i + 1))).take 2) = od.b.length := by rw [htk, num_be, Nat.mod_eq_of_lt (by omega)]
        refine Eye_Text he10 8 (by omega) (fun hs => ?_) (fun _ _ v11 c11 w11 h11 he11 ho11 => ?_)
        · exfalso; apply hs
          rw [hnum]; simp only [List.length_append, be_length]; omega
        · rw [hnum, hdp] at he11 ho11
          obtain ⟨o11, cp11, rfl⟩ := ho11.form
          refine T2.mk (TSl.mk (TInt.mk ?_))
          refine BS.no rfl ?_
          have hb11 := h11.sub (i := 6) (by simp) _ _ hb10
          rw [List.take_left] at ho11
          rw [List.drop_left] at he11
          refine string_rule strU8 (ho11.mono (view_sub _ _ _)).rd (TStr.mk ?_)
          refine LoadC.at (v := .slice ob od.b.length cb) (view_sub c11 6 w11) hb11 rfl (TSl.mk ?_)
          refine string_rule strU8 ((hv10.mono (h11.sub (i := 0) (by simp))).rd.mono (view_sub _ _ _)) (TStr.mk ?_)
          refine BS.no (by rw [strEq_of]; simp) ?_
          exact back c11 w11 ((hst8.and (hs10.and h11)).weak (by simp) (by simp)) (hd10.mono (h11.sub (by simp)) (h11.sub (by simp))) he11
    · have : i = ds.length := by omega
      subst this
      refine Eye_End he8 ?_
      refine TInt.mk ⟨?_, fin hst8 (by simp)⟩
      rw [List.drop_length]; rfl
end Go.Proofs.Ytpmpfahedbfppaa.packBack

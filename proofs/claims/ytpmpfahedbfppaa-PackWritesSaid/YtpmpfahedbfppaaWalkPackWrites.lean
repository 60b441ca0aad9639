/-
  PackWrites: the walk: for every script the law returns true and nothing of what was there has turned.
-/
import Derived.Test.YtpmpfahedbfppaaL2b
import Derived.Test.YtpmpfahedbfppaaArgs
set_option linter.unusedVariables false
namespace Go.Proofs.Ytpmpfahedbfppaa.packWrites
open Go.Vc Go.ChangeShapes Go.WideShapes Go.ChangeAt Go.RowKit
attribute [local irreducible] TInt TBool TStr TPtr TSl TAgg TMap TChan T2 T3 T4 BS Req TSome TCell TByte LoadC LoadA StoreC AllocC RunV RunU CallV EqA StableC StableA StableV TCells ReadV


abbrev cols : List Nat := [1, 2, 3, 4, 5, 6, 7, 8]
/-- what holds in a round -/
structure St (w0 : World) (c : Nat → Nat) (w : World) (a3 : Addr) (l lw : List UInt8) (vw : Value) (b6 : Nat) (od : OpD) (vb v7 : Value) : Prop where
  step : Step (fun _ => 0) cols cols w0 c w
  pen : PenV (view c 3 w) a3 l
  want : OwS (view c 4 w) vw 5 1 lw.length (bvs lw)
  op : view c 5 w b6 = some (.cells (od.cells vb).toArray 31 (0, 0))
  opv : OpV (view c 0 w) od vb
  b : OwS (view c 6 w) v7 5 1 od.b.length (bvs od.b)
  small : lw.length ≤ 1000000
  bsmall : od.b.length ≤ 1000000

theorem k2 {w0 : World} {a3 : Addr} {l : List UInt8} {o4 o7 o8 : Option Addr} {l4 c4 l7 c7 l8 c8 : Nat} {b6 : Nat} {od : OpD} {vb : Value} {n : Int} {oS : Option Addr} {kS kS1 : Nat} {i : Nat} {lenI : Int} {B : List Value → World → Prop} {R : Value → World → Prop}
    {c : Nat → Nat} {w : World} {mo : List UInt8} (hst : St w0 c w a3 (l ++ mo) l (.slice o4 l4 c4) b6 od vb (.slice o7 l7 c7)) (hmo : RdS (wv w) (.slice o8 l8 c8) 1 mo.length (bvs mo)) (hml : mo.length ≤ 1000010) (hi : i < 140737488355328)
    (h : ∀ vw c' w', Step (fun _ => 0) cols cols w0 c' w' → PenV (view c' 3 w') a3 (l ++ mo) → OwS (view c' 4 w') vw 5 1 (l ++ mo).length (bvs (l ++ mo)) → B [vw, .int .i64 ((i + 1 : Nat) : Int)] w') :
    law02_PackWrites_K2 a3 o4 l4 c4 ⟨b6, 0, none⟩ o7 l7 c7 o8 l8 c8 n n oS kS kS1 lenI i B w R := by
  unfold law02_PackWrites_K2
  have hsm := hst.small
  have hbs := hst.bsmall
  refine append_col slU8 hst.want hmo (bvs_one mo) (by omega) (by omega) fun v1 c1 w1 h1 ho1 _ => ?_
  obtain ⟨o1, cp1, rfl⟩ := ho1.form
  refine TSl.mk ?_
  have hp1 := hst.pen.mono (h1.step.sub (i := 3) (by simp))
  refine Pen_Data 8 hp1 (by rw [List.length_append]; omega) fun v2 c2 w2 h2 ho2 => ?_
  obtain ⟨o2, cp2, rfl⟩ := ho2.form
  refine TSl.mk (BS.ne (fun h => absurd rfl h) (fun _ => ?_))
  have ho1' : OwS (view c2 4 w2) (.slice o1 (l.length + mo.length) cp1) 5 1 (l ++ mo).length (bvs (l ++ mo)) := by
    rw [List.length_append, bvs_append]; exact ho1.mono (h2.sub (by simp))
  refine string_rule strU8 (ho2.mono (view_sub _ _ _)).rd (TStr.mk ?_)
  refine string_rule strU8 (ho1'.mono (view_sub _ _ _)).rd (TStr.mk ?_)
  refine BS.no (by rw [strEq_of]; simp) ?_
  have hb2 := (hst.b.mono (h1.step.sub (i := 6) (by simp))).mono (h2.sub (i := 6) (by simp))
  have hop2 := h2.sub (i := 5) (by simp) _ _ (h1.step.sub (i := 5) (by simp) _ _ hst.op)
  have hov2 := (OpV.mono hst.opv (h1.step.sub (i := 0) (by simp))).mono (h2.sub (i := 0) (by simp))
  refine string_rule strU8 (hb2.mono (view_sub _ _ _)).rd (TStr.mk ?_)
  rw [addr_add]
  obtain ⟨ov, cv, rfl⟩ := hst.opv.rd.form
  refine LoadC.at (v := .slice ov od.b.length cv) (view_sub c2 5 w2) hop2 rfl (TSl.mk ?_)
  refine string_rule strU8 (hov2.rd.mono (view_sub _ _ _)) (TStr.mk ?_)
  unfold law02_PackWrites_K3
  refine BS.no (by rw [strEq_of]; simp) ?_
  refine spoil ho2 (by rw [List.length_append]; omega) fun w3 h3 => ?_
  refine spoil (hb2.mono (h3.sub (i := 6) (by simp))) (by omega) fun w4 h4 => ?_
  have hw : IntKind.wrap .i64 ((i : Int) + 1) = ((i + 1 : Nat) : Int) := by rw [wrap_i64 (by omega) (by omega)]; omega
  rw [hw]
  refine h _ c2 w4 ?_ ?_ ?_
  · exact (hst.step.and (h1.step.and (h2.and (h3.and h4)))).weak (by simp) (by simp)
  · exact ((hp1.mono (h2.sub (by simp))).mono (h3.sub (i := 3) (by simp))).mono (h4.sub (i := 3) (by simp))
  · exact (ho1'.mono (h3.sub (i := 4) (by simp))).mono (h4.sub (i := 4) (by simp))

theorem St.go {w0 : World} {c c' : Nat → Nat} {w w' : World} {a3 : Addr} {l l2 lw : List UInt8} {vw : Value} {b6 : Nat} {od : OpD} {vb v7 : Value} (h : St w0 c w a3 l lw vw b6 od vb v7) {W N : List Nat} (hs : Step c W N w c' w')
    (hW : ∀ x ∈ W, x = 3 ∨ x = 7) (hN : ∀ x ∈ N, x = 3 ∨ x = 7) (hp : PenV (view c' 3 w') a3 l2) : St w0 c' w' a3 l2 lw vw b6 od vb v7 := by
  have no : ∀ {i}, i ≠ 3 → i ≠ 7 → i ∉ W := fun h1 h2 hm => by rcases hW _ hm with e | e <;> contradiction
  exact ⟨h.step.trans (hs.weak (fun x hx => by rcases hW _ hx with e | e <;> simp [e]) (fun x hx => by rcases hN _ hx with e | e <;> simp [e])), hp, h.want.mono (hs.sub (no (by omega) (by omega))), hs.sub (no (by omega) (by omega)) _ _ h.op,
    h.opv.mono (hs.sub (no (by omega) (by omega))), h.b.mono (hs.sub (no (by omega) (by omega))), h.small, h.bsmall⟩

theorem k1 {w0 : World} {a3 : Addr} {l : List UInt8} {o4 o7 : Option Addr} {l4 c4 l7 c7 : Nat} {b6 : Nat} {od : OpD} {vb : Value} {oS : Option Addr} {kS kS1 : Nat} {i : Nat} {lenI n32 : Int} {b38 : Bool} {B : List Value → World → Prop} {R : Value → World → Prop}
    {c : Nat → Nat} {w : World} (hst : St w0 c w a3 l l (.slice o4 l4 c4) b6 od vb (.slice o7 l7 c7)) (hi : i < 140737488355328)
    (h : ∀ l2 vw c' w', l2.length ≤ l.length + (od.b.length + 10) → Step (fun _ => 0) cols cols w0 c' w' → PenV (view c' 3 w') a3 l2 → OwS (view c' 4 w') vw 5 1 l2.length (bvs l2) → B [vw, .int .i64 ((i + 1 : Nat) : Int)] w') :
    law02_PackWrites_K1 a3 o4 l4 c4 ⟨b6, 0, none⟩ o7 l7 c7 0 0 oS kS kS1 lenI i n32 b38 B w R := by
  unfold law02_PackWrites_K1
  have hsm := hst.small
  have hbs := hst.bsmall
  rw [addr_add, addr_add, addr_add]
  refine BS.mk (fun _ => ?_) (fun _ => ?_)
  · refine LoadC.at (v := .int .u64 od.n) (view_sub c 5 w) hst.op rfl (TInt.mk ?_)
    refine LoadC.at (v := .int .i64 od.size) (view_sub c 5 w) hst.op rfl (TInt.mk ?_)
    refine Pen_Uint hst.pen hst.opv.n (by omega) (fun hbad => ?_) (fun hok c1 w1 h1 hp1 => ?_)
    · refine TInt.mk ?_
      refine LoadC.at (v := .int .u64 od.n) (view_sub c 5 w) hst.op rfl (TInt.mk ?_)
      refine LoadC.at (v := .int .i64 od.size) (view_sub c 5 w) hst.op rfl (TInt.mk ?_)
      refine ref_Uint c 7 hst.opv.n (fun _ v2 c2 w2 h2 ho2 => ?_) (fun hok => absurd hok hbad)
      obtain ⟨o2, cp2, rfl⟩ := ho2.form
      refine T2.mk (TSl.mk (TInt.mk ?_))
      refine k2 (mo := []) (hst.go h2 (by simp) (by simp) (by rw [List.append_nil]; exact hst.pen.mono (h2.sub (by simp)))) (ho2.mono (view_sub _ _ _)).rd (by simp) hi ?_
      intro vw c' w' h1 h2 h3
      exact h _ vw c' w' (by simp) h1 h2 h3
    · have hst1 := hst.go h1 (by simp) (by simp) hp1
      refine TInt.mk ?_
      refine LoadC.at (v := .int .u64 od.n) (view_sub c1 5 w1) hst1.op rfl (TInt.mk ?_)
      refine LoadC.at (v := .int .i64 od.size) (view_sub c1 5 w1) hst1.op rfl (TInt.mk ?_)
      refine ref_Uint c1 7 hst.opv.n (fun hbad => absurd hok hbad) (fun _ v2 c2 w2 h2 ho2 => ?_)
      obtain ⟨o2, cp2, rfl⟩ := ho2.form
      refine T2.mk (TSl.mk (TInt.mk ?_))
      have hs8 : od.size.toNat ≤ 8 := by have := hok.2.1; omega
      refine k2 (mo := be od.n od.size.toNat) (hst1.go h2 (by simp) (by simp) (hp1.mono (h2.sub (by simp)))) (by rw [be_length]; exact (ho2.mono (view_sub _ _ _)).rd) (by simp; omega) hi ?_
      intro vw c' w' h1 h2 h3
      exact h _ vw c' w' (by simp; omega) h1 h2 h3
  · obtain ⟨ov, cv, rfl⟩ := hst.opv.rd.form
    have hb7 := hst.b.rd
    have el7 : l7 = od.b.length := hb7.len.1
    refine BS.mk (fun _ => ?_) (fun _ => ?_)
    · refine Pen_Text hst.pen (hb7.mono (view_sub _ _ _)) ⟨6, by omega, hb7⟩ (by omega) (fun hbad => ?_) (fun hok c1 w1 h1 hp1 => ?_)
      · refine TInt.mk ?_
        refine LoadC.at (v := .slice ov od.b.length cv) (view_sub c 5 w) hst.op rfl (TSl.mk ?_)
        refine ref_Text c 7 0 (by omega) hst.opv.rd (by omega) (fun _ v2 c2 w2 h2 ho2 => ?_) (fun hok => absurd hok hbad)
        obtain ⟨o2, cp2, rfl⟩ := ho2.form
        refine T2.mk (TSl.mk (TInt.mk ?_))
        refine k2 (mo := []) (hst.go h2 (by simp) (by simp) (by rw [List.append_nil]; exact hst.pen.mono (h2.sub (by simp)))) (ho2.mono (view_sub _ _ _)).rd (by simp) hi ?_
        intro vw c' w' h1 h2 h3
        exact h _ vw c' w' (by simp) h1 h2 h3
      · have hst1 := hst.go h1 (by simp) (by simp) hp1
        refine TInt.mk ?_
        refine LoadC.at (v := .slice ov od.b.length cv) (view_sub c1 5 w1) hst1.op rfl (TSl.mk ?_)
        refine ref_Text c1 7 0 (by omega) hst1.opv.rd (by omega) (fun hbad => absurd hok hbad) (fun _ v2 c2 w2 h2 ho2 => ?_)
        obtain ⟨o2, cp2, rfl⟩ := ho2.form
        refine T2.mk (TSl.mk (TInt.mk ?_))
        have hml : (be od.b.length 2 ++ od.b).length = 2 + od.b.length := by rw [List.length_append, be_length]
        refine k2 (mo := be od.b.length 2 ++ od.b) (hst1.go h2 (by simp) (by simp) (by rw [← List.append_assoc]; exact hp1.mono (h2.sub (by simp)))) (by rw [hml]; exact (ho2.mono (view_sub _ _ _)).rd) (by omega) hi ?_
        intro vw c' w' h1 h2 h3
        exact h _ vw c' w' (by rw [List.length_append, hml]; omega) h1 h2 h3
    · refine Pen_Raw hst.pen (hb7.mono (view_sub _ _ _)) (by omega) fun c1 w1 h1 hp1 => ?_
      have hst1 := hst.go h1 (by simp) (by simp) hp1
      refine LoadC.at (v := .slice ov od.b.length cv) (view_sub c1 5 w1) hst1.op rfl (TSl.mk ?_)
      refine k2 (mo := od.b) hst1 (hst1.opv.rd.mono (view_sub _ _ _)) (by omega) hi ?_
      intro vw c' w' h1 h2 h3
      exact h _ vw c' w' (by simp) h1 h2 h3

theorem walk (v : Value) (ops : List OpD) (w : World) (hs : ScrV (wv w) v ops) : CallV Try.prog 3 #[v] w fun r w' => r = .bool true ∧ Below w.heap.size w w' := by
  have fin : ∀ {c' w'} {W N : List Nat}, Step (fun _ => 0) W N w c' w' → 0 ∉ W → Below w.heap.size w w' := fun h h0 => h.below fun _ => h0
  have hs0 : ScrV (view (fun _ => 0) 0 w) v ops := hs
  obtain ⟨xs, hr, hlen, _⟩ := id hs
  obtain ⟨o0, cp0, rfl⟩ := hr.form
  have smono : ∀ {c' w'} {W N : List Nat}, Step (fun _ => 0) W N w c' w' → 0 ∉ W → ScrV (view c' 0 w') (.slice o0 ops.length cp0) ops := fun h h0 => hs0.mono (h.sub (i := 0) h0)
  refine law02_PackWrites_vc ?_
  unfold law02_PackWrites_VC
  refine speaks (c := fun _ => 0) 1 fun c1 w1 h1 => ?_
  refine TBool.mk (BS.no rfl ?_)
  refine great (smono h1 (by simp)) (TBool.mk (BS.yes rfl ⟨rfl, fin h1 (by simp)⟩)) (fun htot hall => TBool.mk (BS.no rfl ?_))
  have hlen := tot_len ops
  refine AllocC.col c1 3 fun p c2 w2 h2 hp _ => ?_
  refine AllocC.col c2 4 fun q c3 w3 h3 hq _ => ?_
  have hst3 : Step (fun _ => 0) cols cols w c3 w3 := (h1.and (h2.step.and h3.step)).weak (by simp) (by simp)
  have hA : PenV (view c2 3 w2) ⟨p, 0, none⟩ [] := ⟨p, _, rfl, hp, OwS.nil ..⟩
  refine ⟨fun vs w' => ∃ (i : Nat) (vw : Value) (c' : Nat → Nat) (l : List UInt8), i ≤ ops.length ∧ vs = [vw, .int .i64 i] ∧ Step (fun _ => 0) cols cols w c' w' ∧ PenV (view c' 3 w') ⟨p, 0, none⟩ l ∧ OwS (view c' 4 w') vw 5 1 l.length (bvs l) ∧ l.length ≤ tot (ops.take i),
    fun vs _ => match vs with | [_, .int _ x] => (ops.length - x).toNat | _ => 0, ⟨0, _, c3, [], by omega, rfl, hst3, hA.mono (h3.step.sub (by simp)), OwS.empty hq, by simp⟩, ?_⟩
  rintro _ w5 o4 l4 c4 n21 ⟨i, vw, c5, l, hi, e, hst, hpen, hwant, hll⟩
  simp only [List.cons.injEq, Value.int.injEq, true_and, and_true] at e
  obtain ⟨rfl, rfl⟩ := e
  have htk := tot_le ops i
  refine BS.dec (fun hlt => ?_) (fun hge => ?_)
  · refine Req.bnd ⟨by omega, hlt⟩ ?_
    obtain ⟨od, hod⟩ : ∃ od, ops[i]? = some od := ⟨ops[i]'(by omega), List.getElem?_eq_getElem _⟩
    obtain ⟨b0, off, cs, T, fz, vb, rfl, hblk, hv, hk⟩ := (smono hst (by simp)).at hod
    have hbl := hall od (List.mem_of_getElem? hod)
    obtain ⟨ob, cb, rfl⟩ := hv.rd.form
    refine TSome.mk ?_
    rw [addr_add, Int.toNat_natCast]
    refine LoadA.at (es := od.cells (.slice ob od.b.length cb)) (view_sub c5 0 w5) hblk rfl (fun k u hu => by rw [Nat.add_assoc]; exact hk k u hu) ?_
    refine AllocC.col c5 5 fun b6 c6 w6 h6 hb6 _ => ?_
    refine storeVar_col hb6 (by kernel_rfl) rfl (by simp [OpD.cells, Value.oneCell']) fun w7 h7 _ hb7 => ?_
    refine AllocC.col c6 6 fun b8 c8 w8 h8 hb8 _ => ?_
    have hop8 := h8.step.sub (i := 5) (by simp) _ _ hb7
    rw [addr_add]
    refine LoadC.at (v := .slice ob od.b.length cb) (view_sub c8 5 w8) hop8 rfl (TSl.mk ?_)
    have hst8 : Step (fun _ => 0) cols cols w c8 w8 := (hst.and (h6.step.and (h7.step.and h8.step))).weak (by simp) (by simp)
    have hv8 := OpV.mono hv ((h6.step.sub (i := 0) (by simp)).trans ((h7.step.sub (i := 0) (by simp)).trans (h8.step.sub (i := 0) (by simp))))
    refine append_col slU8 (OwS.empty hb8) (hv8.rd.mono (view_sub _ _ _)) (bvs_one _) (by omega) (by omega) fun v9 c9 w9 h9 ho9 _ => ?_
    rw [Nat.zero_add, List.nil_append] at ho9
    obtain ⟨o9, cp9, rfl⟩ := ho9.form
    refine TSl.mk ?_
    refine AllocC.col c9 7 fun b10 c10 w10 h10 _ _ => ?_
    have hop10 := h10.step.sub (i := 5) (by simp) _ _ (h9.step.sub (i := 5) (by simp) _ _ hop8)
    rw [addr_add]
    refine LoadC.at (v := .int .i64 od.kind) (view_sub c10 5 w10) hop10 rfl (TInt.mk ?_)
    have sub4 : ∀ j, j = 3 ∨ j = 4 → Sub (view c5 j w5) (view c10 j w10) := fun j hj =>
      ((h6.step.sub (i := j) (by simp; omega)).trans (h7.step.sub (i := j) (by simp; omega))).trans (((h8.step.sub (i := j) (by simp; omega)).trans (h9.step.sub (i := j) (by simp; omega))).trans (h10.step.sub (i := j) (by simp; omega)))
    have st : St w c10 w10 ⟨p, 0, none⟩ l l (.slice o4 l4 c4) b6 od (.slice ob od.b.length cb) (.slice o9 od.b.length cp9) :=
      ⟨(hst8.and (h9.step.and h10.step)).weak (by simp) (by simp), hpen.mono (sub4 3 (by omega)), hwant.mono (sub4 4 (by omega)), hop10, (OpV.mono hv8 (h9.step.sub (i := 0) (by simp))).mono (h10.step.sub (i := 0) (by simp)), ho9.mono (h10.step.sub (i := 6) (by simp)), by omega, hbl⟩
    have back : ∀ (l2 : List UInt8) (vw : Value) (c' : Nat → Nat) (w' : World), l2.length ≤ l.length + (od.b.length + 10) → Step (fun _ => 0) cols cols w c' w' → PenV (view c' 3 w') ⟨p, 0, none⟩ l2 → OwS (view c' 4 w') vw 5 1 l2.length (bvs l2) →
        Back (fun vs w' => ∃ (i : Nat) (vw : Value) (c' : Nat → Nat) (l : List UInt8), i ≤ ops.length ∧ vs = [vw, .int .i64 i] ∧ Step (fun _ => 0) cols cols w c' w' ∧ PenV (view c' 3 w') ⟨p, 0, none⟩ l ∧ OwS (view c' 4 w') vw 5 1 l.length (bvs l) ∧ l.length ≤ tot (ops.take i))
          (fun vs _ => match vs with | [_, .int _ x] => (ops.length - x).toNat | _ => 0) [.slice o4 l4 c4, .int .i64 i] w5 [vw, .int .i64 ((i + 1 : Nat) : Int)] w' := fun l2 vw c' w' hl2 a1 a2 a3 => by
      refine ⟨⟨i + 1, vw, c', l2, by omega, rfl, a1, a2, a3, by rw [tot_take ops i od hod]; omega⟩, ?_⟩
      show ((ops.length : Int) - ((i + 1 : Nat) : Int)).toNat < ((ops.length : Int) - i).toNat
      omega
    exact BS.mk (fun _ => k1 st (by omega) back) (fun _ => k1 st (by omega) back)
  · refine DrewC.mk ?_
    refine string_rule (w := w5.drew) strU8 (hwant.mono (view_sub c5 4 w5)).rd (TStr.mk ?_)
    refine Pen_Data (w := w5.drew) 8 hpen (by omega) fun v6 c6 w6 h6 ho6 => ?_
    obtain ⟨o6, cp6, rfl⟩ := ho6.form
    refine TSl.mk ⟨StableV.string strU8 ((hwant.mono (h6.sub (i := 4) (by simp))).mono (view_sub _ _ _)).rd, ?_⟩
    refine string_rule strU8 (ho6.mono (view_sub _ _ _)).rd (TStr.mk ?_)
    refine ⟨by rw [strEq_of]; simp, fin (hst.and h6.undrew) (by simp)⟩
end Go.Proofs.Ytpmpfahedbfppaa.packWrites

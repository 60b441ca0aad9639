/-
  PackReads: the walk: for every bytes and every script the law returns true and nothing of what was there has turned.
-/
import Derived.Test.YtpmpfahedbfppaaL2b
import Derived.Test.YtpmpfahedbfppaaArgs
set_option linter.unusedVariables false
namespace Go.Proofs.Ytpmpfahedbfppaa.packReads
open Go.Vc Go.ChangeShapes Go.WideShapes Go.ChangeAt Go.RowKit
attribute [local irreducible] TInt TBool TStr TPtr TSl TAgg TMap TChan T2 T3 T4 BS Req TSome TCell TByte LoadC LoadA StoreC AllocC RunV RunU CallV EqA StableC StableA StableV TCells ReadV

abbrev cols : List Nat := [1, 2, 3, 4, 5, 6, 7, 8]
structure St (w0 : World) (c : Nat → Nat) (w : World) (ax am : Addr) (vB : Value) (D : List UInt8) (k : Nat) : Prop where
  step : Step (fun _ => 0) cols cols w0 c w
  eye : EyeV (view c 3 w) ax (D.drop k)
  ref : RefEye (view c 4 w) am vB k
  data : RdS (view c 0 w) vB 1 D.length (bvs D)
  hk : k ≤ D.length
theorem St.go {w0 : World} {c c' : Nat → Nat} {w w' : World} {ax am : Addr} {vB : Value} {D : List UInt8} {k k' : Nat} (h : St w0 c w ax am vB D k) {W N : List Nat} (hs : Step c W N w c' w')
    (hW : ∀ x ∈ W, x ∈ cols) (hN : ∀ x ∈ N, x ∈ cols) (he : EyeV (view c' 3 w') ax (D.drop k')) (hr : RefEye (view c' 4 w') am vB k') (hk : k' ≤ D.length) : St w0 c' w' ax am vB D k' :=
  ⟨h.step.trans (hs.weak hW hN), he, hr, h.data.mono (hs.sub fun hm => by have := hW _ hm; simp at this), hk⟩

theorem k3 {w0 : World} {ax am : Addr} {vB : Value} {D : List UInt8} {k : Nat} {o10 o11 oS : Option Addr} {l10 c10 l11 c11 kS kS1 : Nat} {e n : Int} {la : List UInt8} {i : Nat} {lenI : Int} {B : List Value → World → Prop} {R : Value → World → Prop}
    {c : Nat → Nat} {w : World} (hst : St w0 c w ax am vB D k) (hD : D.length ≤ 1000000) (ha : OwS (view c 7 w) (.slice o10 l10 c10) 5 1 la.length (bvs la)) (hb : RdS (wv w) (.slice o11 l11 c11) 1 la.length (bvs la)) (hla : la.length ≤ D.length) (hi : i < 140737488355328)
    (h : ∀ c' w', St w0 c' w' ax am vB D k → B [.int .i64 ((i + 1 : Nat) : Int)] w') :
    law02_PackReads_K3 (some ax) am o10 l10 c10 o11 l11 c11 e e n n oS kS kS1 lenI i B w R := by
  unfold law02_PackReads_K3
  refine BS.ne (fun h => absurd rfl h) (fun _ => BS.ne (fun h => absurd rfl h) (fun _ => ?_))
  refine string_rule strU8 (ha.mono (view_sub _ _ _)).rd (TStr.mk ?_)
  refine string_rule strU8 hb (TStr.mk ?_)
  refine BS.no (by rw [strEq_of]; simp) ?_
  refine Eye_End hst.eye ?_
  refine TInt.mk ?_
  refine ref_Eye_End hst.ref hst.data hst.hk ?_
  refine TInt.mk (BS.ne (fun h => absurd rfl h) (fun _ => ?_))
  refine spoil (w := w.drew) ha (by omega) fun w1 h1 => ?_
  have h1 := h1.undrew
  rw [wrap_i64 (by omega) (by omega), show (i : Int) + 1 = ((i + 1 : Nat) : Int) by omega]
  exact h c w1 (hst.go h1 (by simp) (by simp) (hst.eye.mono (h1.sub (by simp))) (hst.ref.mono (h1.sub (by simp))) hst.hk)

theorem k2 {w0 : World} {ax am : Addr} {vB : Value} {D : List UInt8} {k : Nat} {b9 : Nat} {od : OpD} {vb : Value} {o10 o11 oS : Option Addr} {c10 c11 kS kS1 : Nat} {i : Nat} {lenI n47 : Int} {b62 : Bool} {B : List Value → World → Prop} {R : Value → World → Prop}
    {c : Nat → Nat} {w : World} (hst : St w0 c w ax am vB D k) (hD : D.length ≤ 1000000) (hop : view c 5 w b9 = some (.cells (od.cells vb).toArray 31 (0, 0)))
    (ha : OwS (view c 7 w) (.slice o10 0 c10) 5 1 0 []) (hb : OwS (view c 8 w) (.slice o11 0 c11) 5 1 0 []) (hi : i < 140737488355328)
    (h : ∀ k' c' w', St w0 c' w' ax am vB D k' → B [.int .i64 ((i + 1 : Nat) : Int)] w') :
    law02_PackReads_K2 (some ax) am ⟨b9, 0, none⟩ o10 0 c10 o11 0 c11 0 0 oS kS kS1 lenI i n47 b62 B w R := by
  unfold law02_PackReads_K2
  have hk := hst.hk
  have hdl : (D.drop k).length = D.length - k := by simp
  have nil8 : ∀ (c' : Nat → Nat) (w' : World), RdS (wv w') (.slice none 0 0) 1 0 (bvs []) := fun _ _ => .nil ..
  rw [addr_add]
  refine BS.mk (fun _ => ?_) (fun _ => BS.mk (fun _ => ?_) (fun _ => ?_))
  · refine LoadC.at (v := .int .i64 od.size) (view_sub c 5 w) hop rfl (TInt.mk ?_)
    refine Eye_Uint hst.eye 6 (by omega) (fun hbad => ?_) (fun h1 h8 hs => ?_) (fun h1 h8 hs c1 w1 st1 _ he1 => ?_)
    · refine T2.mk (TInt.mk (TInt.mk ?_))
      refine LoadC.at (v := .int .i64 od.size) (view_sub c 5 w) hop rfl (TInt.mk ?_)
      refine ref_Eye_Uint 6 (by omega) (by omega) hst.ref hst.data hk (by omega) (fun _ => ?_) (fun h1 h8 _ => absurd ⟨h1, h8⟩ hbad) (fun h1 h8 _ => absurd ⟨h1, h8⟩ hbad)
      refine T2.mk (TInt.mk (TInt.mk ?_))
      exact k3 (la := []) hst hD ha (hb.mono (view_sub _ _ _)).rd (by simp) hi (h k)
    · refine T2.mk (TInt.mk (TInt.mk ?_))
      refine LoadC.at (v := .int .i64 od.size) (view_sub c 5 w) hop rfl (TInt.mk ?_)
      refine ref_Eye_Uint 6 (by omega) (by omega) hst.ref hst.data hk (by omega) (fun hbad => absurd ⟨h1, h8⟩ hbad) (fun _ _ _ c2 w2 st2 => ?_) (fun _ _ h3 => by omega)
      refine T2.mk (TInt.mk (TInt.mk ?_))
      exact k3 (la := []) (hst.go st2 (by simp) (by simp) (hst.eye.mono (st2.sub (by simp))) (hst.ref.mono (st2.sub (by simp))) hk) hD (ha.mono (st2.sub (by simp))) ((hb.mono (st2.sub (i := 8) (by simp))).mono (view_sub _ _ _)).rd (by simp) hi (h k)
    · refine T2.mk (TInt.mk (TInt.mk ?_))
      have hop1 := st1.sub (i := 5) (by simp) _ _ hop
      refine LoadC.at (v := .int .i64 od.size) (view_sub c1 5 w1) hop1 rfl (TInt.mk ?_)
      refine ref_Eye_Uint 6 (by omega) (by omega) (hst.ref.mono (st1.sub (i := 4) (by simp))) (hst.data.mono (st1.sub (i := 0) (by simp))) hk (by omega) (fun hbad => absurd ⟨h1, h8⟩ hbad) (fun _ _ h3 => by omega) (fun _ _ _ c2 w2 st2 hr2 => ?_)
      refine T2.mk (TInt.mk (TInt.mk ?_))
      refine k3 (la := []) (k := k + od.size.toNat) (hst.go (st1.and st2) (by simp) (by simp) (by rw [← List.drop_drop]; exact he1.mono (st2.sub (by simp))) hr2 (by omega)) hD (ha.mono ((st1.and st2).sub (by simp))) ((hb.mono ((st1.and st2).sub (i := 8) (by simp))).mono (view_sub _ _ _)).rd (by simp) hi (h _)
  · refine Eye_Text hst.eye 7 (by omega) (fun hs c1 w1 st1 he1 => ?_) (fun h2 hn v1 c1 w1 st1 he1 ho1 => ?_)
    · refine T2.mk (TSl.mk (TInt.mk ?_))
      refine ref_Eye_Text 8 (by omega) (by omega) (hst.ref.mono (st1.sub (i := 4) (by simp))) (hst.data.mono (st1.sub (i := 0) (by simp))) hk (by omega) (fun _ v2 c2 w2 st2 ho2 => ?_) (fun a b => absurd ⟨by omega, by omega⟩ hs)
      obtain ⟨o2, cp2, rfl⟩ := ho2.form
      refine T2.mk (TSl.mk (TInt.mk ?_))
      exact k3 (la := []) (hst.go (st1.and st2) (by simp) (by simp) (he1.mono (st2.sub (by simp))) ((hst.ref.mono (st1.sub (by simp))).mono (st2.sub (by simp))) hk) hD (OwS.nil ..) (ho2.mono (view_sub _ _ _)).rd (by simp) hi (h k)
    · obtain ⟨o1, cp1, rfl⟩ := ho1.form
      refine T2.mk (TSl.mk (TInt.mk ?_))
      refine ref_Eye_Text 8 (by omega) (by omega) (hst.ref.mono (st1.sub (i := 4) (by simp))) (hst.data.mono (st1.sub (i := 0) (by simp))) hk (by omega) (fun hs => absurd ⟨by omega, by omega⟩ hs) (fun _ _ v2 c2 w2 st2 hr2 ho2 => ?_)
      obtain ⟨o2, cp2, rfl⟩ := ho2.form
      refine T2.mk (TSl.mk (TInt.mk ?_))
      have hll : ((D.drop (k + 2)).take (num ((D.drop k).take 2))).length = num ((D.drop k).take 2) := by rw [List.length_take, List.length_drop]; omega
      rw [List.drop_drop, List.drop_drop, ← Nat.add_assoc] at he1
      rw [List.drop_drop] at ho1
      have ho1' : OwS (view c2 7 w2) (.slice o1 (num ((D.drop k).take 2)) cp1) 5 1 ((D.drop (k + 2)).take (num ((D.drop k).take 2))).length (bvs ((D.drop (k + 2)).take (num ((D.drop k).take 2)))) := by
        rw [hll]; exact ho1.mono (st2.sub (by simp))
      refine k3 (k := k + 2 + num ((D.drop k).take 2)) (hst.go (st1.and st2) (by simp) (by simp) (he1.mono (st2.sub (by simp))) hr2 (by omega)) hD ho1' (by rw [hll]; exact (ho2.mono (view_sub _ _ _)).rd) (by omega) hi (h _)
  · refine LoadC.at (v := .int .i64 od.size) (view_sub c 5 w) hop rfl (TInt.mk ?_)
    refine Eye_Raw hst.eye 7 (by omega) (fun hneg => ?_) (fun h0 hs => ?_) (fun h0 hs v1 c1 w1 st1 _ he1 ho1 => ?_)
    · refine T2.mk (TSl.mk (TInt.mk ?_))
      refine LoadC.at (v := .int .i64 od.size) (view_sub c 5 w) hop rfl (TInt.mk ?_)
      refine ref_Eye_Raw 8 (by omega) (by omega) hst.ref hst.data hk (by omega) (fun _ v2 c2 w2 st2 ho2 => ?_) (fun _ => by omega) (fun _ => by omega)
      obtain ⟨o2, cp2, rfl⟩ := ho2.form
      refine T2.mk (TSl.mk (TInt.mk ?_))
      exact k3 (la := []) (hst.go st2 (by simp) (by simp) (hst.eye.mono (st2.sub (by simp))) (hst.ref.mono (st2.sub (by simp))) hk) hD (OwS.nil ..) (ho2.mono (view_sub _ _ _)).rd (by simp) hi (h k)
    · refine T2.mk (TSl.mk (TInt.mk ?_))
      refine LoadC.at (v := .int .i64 od.size) (view_sub c 5 w) hop rfl (TInt.mk ?_)
      refine ref_Eye_Raw 8 (by omega) (by omega) hst.ref hst.data hk (by omega) (fun _ => by omega) (fun _ _ v2 c2 w2 st2 ho2 => ?_) (fun _ => by omega)
      obtain ⟨o2, cp2, rfl⟩ := ho2.form
      refine T2.mk (TSl.mk (TInt.mk ?_))
      exact k3 (la := []) (hst.go st2 (by simp) (by simp) (hst.eye.mono (st2.sub (by simp))) (hst.ref.mono (st2.sub (by simp))) hk) hD (OwS.nil ..) (ho2.mono (view_sub _ _ _)).rd (by simp) hi (h k)
    · obtain ⟨o1, cp1, rfl⟩ := ho1.form
      refine T2.mk (TSl.mk (TInt.mk ?_))
      have hop1 := st1.sub (i := 5) (by simp) _ _ hop
      refine LoadC.at (v := .int .i64 od.size) (view_sub c1 5 w1) hop1 rfl (TInt.mk ?_)
      refine ref_Eye_Raw 8 (by omega) (by omega) (hst.ref.mono (st1.sub (i := 4) (by simp))) (hst.data.mono (st1.sub (i := 0) (by simp))) hk (by omega) (fun _ => by omega) (fun _ => by omega) (fun _ _ v2 c2 w2 st2 hr2 ho2 => ?_)
      obtain ⟨o2, cp2, rfl⟩ := ho2.form
      refine T2.mk (TSl.mk (TInt.mk ?_))
      have hll : ((D.drop k).take od.size.toNat).length = od.size.toNat := by rw [List.length_take, List.length_drop]; omega
      rw [List.drop_drop] at he1
      refine k3 (la := (D.drop k).take od.size.toNat) (k := k + od.size.toNat) (hst.go (st1.and st2) (by simp) (by simp) (he1.mono (st2.sub (by simp))) hr2 (by omega)) hD (by rw [hll]; exact ho1.mono (st2.sub (by simp))) (by rw [hll]; exact (ho2.mono (view_sub _ _ _)).rd) (by omega) hi (h _)

theorem walk (vD v : Value) (D : List UInt8) (ops : List OpD) (w : World) (hd : RdS (wv w) vD 1 D.length (bvs D)) (hs : ScrV (wv w) v ops) : CallV Try.prog 5 #[vD, v] w fun r w' => r = .bool true ∧ Below w.heap.size w w' := by
  have fin : ∀ {c' w'} {W N : List Nat}, Step (fun _ => 0) W N w c' w' → 0 ∉ W → Below w.heap.size w w' := fun h h0 => h.below fun _ => h0
  have hs0 : ScrV (view (fun _ => 0) 0 w) v ops := hs
  have hd0 : RdS (view (fun _ => 0) 0 w) vD 1 D.length (bvs D) := hd
  obtain ⟨xs, hr, hlen, _⟩ := id hs
  obtain ⟨o1, cp1, rfl⟩ := hr.form
  obtain ⟨o0, cp0, rfl⟩ := hd.form
  have smono : ∀ {c' w'} {W N : List Nat}, Step (fun _ => 0) W N w c' w' → 0 ∉ W → ScrV (view c' 0 w') (.slice o1 ops.length cp1) ops := fun h h0 => hs0.mono (h.sub (i := 0) h0)
  have dmono : ∀ {c' w'} {W N : List Nat}, Step (fun _ => 0) W N w c' w' → 0 ∉ W → RdS (view c' 0 w') (.slice o0 D.length cp0) 1 D.length (bvs D) := fun h h0 => hd0.mono (h.sub (i := 0) h0)
  refine law02_PackReads_vc ?_
  unfold law02_PackReads_VC
  refine speaks (c := fun _ => 0) 1 fun c1 w1 h1 => ?_
  refine TBool.mk (BS.no rfl ?_)
  refine great (smono h1 (by simp)) (TBool.mk (BS.yes rfl ⟨rfl, fin h1 (by simp)⟩)) (fun htot hall => TBool.mk (BS.no rfl ?_))
  have hlen := tot_len ops
  unfold law02_PackReads_K1
  refine BS.dec (fun _ => ⟨rfl, fin h1 (by simp)⟩) (fun hD => ?_)
  refine AllocC.col c1 7 fun p c2 w2 h2 hp _ => ?_
  have hst2 := h1.and h2.step
  refine append_col slU8 (OwS.empty hp) ((dmono hst2 (by simp)).mono (view_sub _ _ _)) (bvs_one _) (by omega) (by omega) fun v3 c3 w3 h3 ho3 _ => ?_
  rw [Nat.zero_add, List.nil_append] at ho3
  obtain ⟨o3, cp3, rfl⟩ := ho3.form
  refine TSl.mk ?_
  have hst3 := hst2.and h3.step
  refine NewEye c3 3 (ho3.mono (view_sub _ _ _)).rd (by omega) fun ax c4 w4 h4 he4 => ?_
  refine TPtr.mk ?_
  have hst4 := hst3.and h4
  refine AllocC.col c4 4 fun bm c5 w5 h5 hm _ => ?_
  have hst5 := hst4.and h5.step
  refine BS.no rfl ?_
  refine spoil ((ho3.mono (h4.sub (by simp))).mono (h5.step.sub (by simp))) (by omega) fun w6 h6 => ?_
  have hst6 := hst5.and h6
  have st6 : St w c5 w6 ax ⟨bm, 0, none⟩ (.slice o0 D.length cp0) D 0 :=
    ⟨hst6.weak (by simp) (by simp), (he4.mono (h5.step.sub (by simp))).mono (h6.sub (by simp)), ⟨bm, rfl, h6.sub (i := 4) (by simp) _ _ hm⟩, dmono hst6 (by simp), by omega⟩
  refine ⟨fun vs w' => ∃ (i k : Nat) (c' : Nat → Nat), i ≤ ops.length ∧ vs = [.int .i64 i] ∧ St w c' w' ax ⟨bm, 0, none⟩ (.slice o0 D.length cp0) D k, fun vs _ => match vs with | [.int _ x] => (ops.length - x).toNat | _ => 0, ⟨0, 0, c5, by omega, rfl, st6⟩, ?_⟩
  rintro _ w7 n39 ⟨i, k, c7, hi, e, st⟩
  simp only [List.cons.injEq, Value.int.injEq, true_and, and_true] at e
  subst e
  refine BS.dec (fun hlt => ?_) (fun hge => ⟨rfl, fin st.step (by simp)⟩)
  refine Req.bnd ⟨by omega, hlt⟩ ?_
  obtain ⟨od, hod⟩ : ∃ od, ops[i]? = some od := ⟨ops[i]'(by omega), List.getElem?_eq_getElem _⟩
  obtain ⟨b0, off, cs, T, fz, vb, rfl, hblk, hv, hk⟩ := (smono st.step (by simp)).at hod
  obtain ⟨ob, cb, rfl⟩ := hv.rd.form
  refine TSome.mk ?_
  rw [addr_add, Int.toNat_natCast]
  refine LoadA.at (es := od.cells (.slice ob od.b.length cb)) (view_sub c7 0 w7) hblk rfl (fun k u hu => by rw [Nat.add_assoc]; exact hk k u hu) ?_
  refine AllocC.col c7 5 fun b9 c8 w8 h8 hb8 _ => ?_
  refine storeVar_col hb8 (by kernel_rfl) rfl (by simp [OpD.cells, Value.oneCell']) fun w9 h9 _ hb9 => ?_
  refine AllocC.col c8 7 fun b10 c10 w10 h10 hb10 _ => ?_
  refine AllocC.col c10 8 fun b11 c11 w11 h11 hb11 _ => ?_
  have hop := h11.step.sub (i := 5) (by simp) _ _ (h10.step.sub (i := 5) (by simp) _ _ hb9)
  rw [addr_add]
  refine LoadC.at (v := .int .i64 od.kind) (view_sub c11 5 w11) hop rfl (TInt.mk ?_)
  have sub : ∀ j, j = 3 ∨ j = 4 → Sub (view c7 j w7) (view c11 j w11) := fun j hj =>
    ((h8.step.sub (i := j) (by simp; omega)).trans (h9.step.sub (i := j) (by simp; omega))).trans ((h10.step.sub (i := j) (by simp; omega)).trans (h11.step.sub (i := j) (by simp; omega)))
  have st11 := st.go (h8.step.and (h9.step.and (h10.step.and h11.step))) (by simp) (by simp) (st.eye.mono (sub 3 (by omega))) (st.ref.mono (sub 4 (by omega))) st.hk
  have back : ∀ (k' : Nat) (c' : Nat → Nat) (w' : World), St w c' w' ax ⟨bm, 0, none⟩ (.slice o0 D.length cp0) D k' →
      Back (fun vs w' => ∃ (i k : Nat) (c' : Nat → Nat), i ≤ ops.length ∧ vs = [.int .i64 i] ∧ St w c' w' ax ⟨bm, 0, none⟩ (.slice o0 D.length cp0) D k)
        (fun vs _ => match vs with | [.int _ x] => (ops.length - x).toNat | _ => 0) [.int .i64 i] w7 [.int .i64 ((i + 1 : Nat) : Int)] w' := fun k' c' w' hst => by
    refine ⟨⟨i + 1, k', c', by omega, rfl, hst⟩, ?_⟩
    show ((ops.length : Int) - ((i + 1 : Nat) : Int)).toNat < ((ops.length : Int) - i).toNat
    omega
  have ha := OwS.empty (z := 1) (h11.step.sub (i := 7) (by simp) _ _ hb10)
  exact BS.mk (fun _ => k2 st11 (by omega) hop ha (OwS.empty hb11) (by omega) back) (fun _ => k2 st11 (by omega) hop ha (OwS.empty hb11) (by omega) back)
end Go.Proofs.Ytpmpfahedbfppaa.packReads

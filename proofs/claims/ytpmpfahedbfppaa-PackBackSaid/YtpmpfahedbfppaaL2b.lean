/-
  The document's eye, and what the laws of chapter 02 do with scripts, each once.
-/
import Derived.Test.YtpmpfahedbfppaaL2
set_option linter.unusedVariables false
namespace Go.Proofs.Ytpmpfahedbfppaa
open Go.Vc
attribute [local irreducible] TInt TBool TStr TPtr TSl TAgg TMap TChan T2 T3 T4 BS Req TSome TCell TByte LoadC LoadA StoreC AllocC RunV RunU CallV EqA StableC StableA StableV TCells ReadV

/-- the document's eye -/
def RefEye (h : View) (a : Addr) (vB : Value) (k : Nat) : Prop := ∃ b, a = ⟨b, 0, none⟩ ∧ h b = some (.cells #[vB, .int .i64 k] 46 (0, 0))
theorem RefEye.mono {h h' : View} {a : Addr} {vB : Value} {k : Nat} (hp : RefEye h a vB k) (hs : Sub h h') : RefEye h' a vB k := by
  obtain ⟨b, e, hb⟩ := hp; exact ⟨b, e, hs _ _ hb⟩

theorem ref_Eye_Raw {c : Nat → Nat} {i q : Nat} (j : Nat) {w : World} {a : Addr} {vB : Value} {k : Nat} {D : List UInt8} {n : Int} {R : Value → World → Prop}
    (hij : i ≠ j) (hq : q ≠ i) (hp : RefEye (view c i w) a vB k) (hB : RdS (view c q w) vB 1 D.length (bvs D)) (hk : k ≤ D.length) (hD : D.length ≤ 1099511627776)
    (hneg : n < 0 → ∀ v c' w', Step c [] [j] w c' w' → OwS (view c' j w') v 5 1 0 [] → R (.tuple #[v, .int .i64 1]) w')
    (hshort : 0 ≤ n → (D.length : Int) - k < n → ∀ v c' w', Step c [] [j] w c' w' → OwS (view c' j w') v 5 1 0 [] → R (.tuple #[v, .int .i64 20]) w')
    (h : 0 ≤ n → n ≤ (D.length : Int) - k → ∀ v c' w', Step c [i] [j] w c' w' → RefEye (view c' i w') a vB (k + n.toNat) → OwS (view c' j w') v 5 1 n.toNat (bvs ((D.drop k).take n.toNat)) → R (.tuple #[v, .int .i64 0]) w') :
    CallV Try.prog 27 #[.pointer (some a), .int .i64 n] w R := by
  refine ref02_Eye_Raw_vc ?_
  unfold ref02_Eye_Raw_VC
  obtain ⟨b, rfl, hb⟩ := hp
  obtain ⟨oB, cB, rfl⟩ := hB.form
  refine BS.dec (fun h1 => ?_) (fun h1 => ?_)
  · refine AllocC.col c j fun b1 c1 w1 h2 hv _ => ?_
    exact hneg h1 _ c1 w1 h2.fresh (OwS.empty hv)
  refine DrewC.mk ?_
  rw [addr_add, addr_add, Nat.zero_add]
  have hl0 : ∀ {C : Value → Prop}, C (.slice oB D.length cB) → LoadC w.drew ⟨b, 0 + 0, none⟩ C := fun hC => LoadC.at (v := .slice oB D.length cB) (view_sub c i w.drew) hb rfl hC
  have hl1 : ∀ {C : Value → Prop}, C (.int .i64 k) → LoadC w.drew ⟨b, 1, none⟩ C := fun hC => LoadC.at (v := .int .i64 k) (view_sub c i w.drew) hb rfl hC
  refine hl0 (TSl.mk ?_)
  refine hl1 (TInt.mk ?_)
  rw [wrap_i64 (by omega) (by omega)]
  refine BS.dec (fun h2 => ?_) (fun h2 => ?_)
  · refine AllocC.col (w := w.drew) c j fun b1 c1 w1 h2 hv _ => ?_
    exact hshort (by omega) (by omega) _ c1 w1 h2.fresh.undrew (OwS.empty hv)
  refine hl1 (TInt.mk ?_)
  obtain ⟨m, rfl⟩ : ∃ k : Nat, n = k := ⟨n.toNat, by omega⟩
  rw [Int.toNat_natCast] at h
  rw [wrap_i64 (n := (k : Int) + m) (by omega) (by omega)]
  refine StoreC.col (w := w.drew) hb (by simp) fun w1 hw1 hs1 hb1 => ?_
  refine DrewC.mk ?_
  have hb1' : view c i w1.drew b = some (.cells #[.slice oB D.length cB, .int .i64 ((k + m : Nat) : Int)] 46 (0, 0)) := hb1
  have g0 : ∀ {C : Value → Prop}, C (.slice oB D.length cB) → LoadC w1.drew ⟨b, 0 + 0, none⟩ C := fun hC => LoadC.at (v := .slice oB D.length cB) (view_sub c i w1.drew) hb1' rfl hC
  have g1 : ∀ {C : Value → Prop}, C (.int .i64 ((k + m : Nat) : Int)) → LoadC w1.drew ⟨b, 1, none⟩ C := fun hC => LoadC.at (v := .int .i64 ((k + m : Nat) : Int)) (view_sub c i w1.drew) hb1' rfl hC
  refine g0 (TSl.mk ?_)
  refine g1 (TInt.mk ?_)
  refine g1 (TInt.mk ?_)
  have hB1 : RdS (view c q w1.drew) (.slice oB D.length cB) 1 D.length (bvs D) := hB.mono (Step.sub (w1 := w1) hs1 (by simpa using hq))
  have hcB := hB.len.2.1
  refine Req.bndle ⟨by omega, by omega⟩ ?_
  rw [wrap_i64 (by omega) (by omega)]
  refine Req.bndle ⟨by omega, by omega⟩ ?_
  have e1 : (((k + m : Nat) : Int) - m).toNat = k := by omega
  have e2 : (((k + m : Nat) : Int)).toNat = k + m := by omega
  rw [e1, e2]
  refine AllocC.col (w := w1.drew) c j fun b2 c2 w2 hw2 hv hnew => ?_
  have hst : Step c [i] [j] w c2 w2 := Step.undrew ((hs1.drew.weak (by simp) (by simp)).trans (hw2.fresh.weak (by simp) (by simp)))
  have hb2 := hw2.step.sub (i := i) (by simpa using hij) _ _ hb1'
  refine ⟨StableC.at (view_sub c2 i w2) hb2 rfl, StableC.at (view_sub c2 i w2) hb2 rfl, StableC.at (view_sub c2 i w2) hb2 rfl, ?_⟩
  have hB2 : RdS (wv w2) (.slice oB D.length cB) 1 D.length (bvs D) := by
    refine RdS.mono ?_ (view_sub c2 q w2)
    exact hB1.mono (hw2.fresh.sub (by simp))
  have hpart : RdS (wv w2) (.slice (slBase oB cB k 1) (k + m - k) (cB - k)) 1 m (bvs ((D.drop k).take m)) := by
    have := hB2.mid (k := k) (m := m) (by omega)
    rw [bvs_take, bvs_drop]; simpa using this
  refine append_col slU8 (OwS.empty hv) hpart (bvs_one _) (by omega) (by omega) fun v3 c3 w3 hw3 ho3 _ => ?_
  obtain ⟨o3, cp3, rfl⟩ := ho3.form
  refine TSl.mk ?_
  have hst3 : Step c2 [] [j] w2 c3 w3 → Step c [i] [j] w c3 w3 := fun h => hst.trans (h.weak (by simp) (by simp))
  have hst3' : Step c [i] [j] w c3 w3 := by
    have h5 : Step c [] [j] w1.drew c3 w3 := Wr.stepNew hw2.fresh (by simp) hw3 (fun b' e => by simp [Value.ownBlock] at e; exact e ▸ size_le_of_none hnew)
    exact (hs1.undrew.weak (W' := [i]) (N' := [j]) (by simp) (by simp)).trans (h5.undrew.weak (by simp) (by simp))
  rw [Nat.zero_add, List.nil_append] at ho3
  have := h (by omega) (by omega) _ c3 w3 hst3' ⟨b, rfl, hw3.step.sub (i := i) (by simpa using hij) _ _ hb2⟩ ho3
  simpa using this

theorem ref_Eye_End {c : Nat → Nat} {i q : Nat} {w : World} {a : Addr} {vB : Value} {k : Nat} {D : List UInt8} {R : Value → World → Prop}
    (hp : RefEye (view c i w) a vB k) (hB : RdS (view c q w) vB 1 D.length (bvs D)) (hk : k ≤ D.length) (h : R (.int .i64 (if D.drop k = [] then 0 else 21)) w.drew) :
    CallV Try.prog 29 #[.pointer (some a)] w R := by
  refine ref02_Eye_End_vc ?_
  unfold ref02_Eye_End_VC
  obtain ⟨b, rfl, hb⟩ := hp
  obtain ⟨oB, cB, rfl⟩ := hB.form
  refine DrewC.mk ?_
  rw [addr_add, addr_add, Nat.zero_add]
  refine LoadC.at (v := .int .i64 k) (view_sub c i w.drew) hb rfl ?_
  refine TInt.mk ?_
  refine LoadC.at (v := .slice oB D.length cB) (view_sub c i w.drew) hb rfl ?_
  refine TSl.mk ?_
  refine BS.dec (fun h1 => ?_) (fun h1 => ?_)
  · rwa [if_neg (fun e => by have := congrArg List.length e; simp at this; omega)] at h
  · rwa [if_pos (List.drop_eq_nil_of_le (by omega))] at h

theorem ref_Eye_Uint {c : Nat → Nat} {i q : Nat} (j : Nat) {w : World} {a : Addr} {vB : Value} {k : Nat} {D : List UInt8} {n : Int} {R : Value → World → Prop}
    (hij : i ≠ j) (hq : q ≠ i) (hp : RefEye (view c i w) a vB k) (hB : RdS (view c q w) vB 1 D.length (bvs D)) (hk : k ≤ D.length) (hD : D.length ≤ 1099511627776)
    (hbad : ¬ (1 ≤ n ∧ n ≤ 8) → R (.tuple #[.int .u64 0, .int .i64 1]) w)
    (hshort : 1 ≤ n → n ≤ 8 → (D.length : Int) - k < n → ∀ c' w', Step c [] [j] w c' w' → R (.tuple #[.int .u64 0, .int .i64 20]) w')
    (h : 1 ≤ n → n ≤ 8 → n ≤ (D.length : Int) - k → ∀ c' w', Step c [i] [j] w c' w' → RefEye (view c' i w') a vB (k + n.toNat) → R (.tuple #[.int .u64 (num ((D.drop k).take n.toNat)), .int .i64 0]) w') :
    CallV Try.prog 23 #[.pointer (some a), .int .i64 n] w R := by
  refine ref02_Eye_Uint_vc ?_
  unfold ref02_Eye_Uint_VC
  refine BS.dec (fun h1 => hbad (by omega)) (fun h1 => ?_)
  unfold ref02_Eye_Uint_K1
  refine BS.dec (fun h1 => hbad (by omega)) (fun h2 => ?_)
  refine ref_Eye_Raw j hij hq hp hB hk hD (fun h => by omega) (fun _ hs v c1 w1 h1 ho => ?_) (fun _ hs v c1 w1 h1 hp1 ho => ?_)
  · obtain ⟨o, cp, rfl⟩ := ho.form
    refine T2.mk (TSl.mk (TInt.mk ?_))
    refine ref_Number (l := []) (ho.mono (view_sub c1 j w1)).rd (by simp) (TInt.mk ?_)
    exact hshort (by omega) (by omega) hs c1 w1 h1
  · obtain ⟨o, cp, rfl⟩ := ho.form
    refine T2.mk (TSl.mk (TInt.mk ?_))
    have hlen : ((D.drop k).take n.toNat).length = n.toNat := by rw [List.length_take, List.length_drop]; omega
    refine ref_Number (l := (D.drop k).take n.toNat) (by rw [hlen]; exact (ho.mono (view_sub c1 j w1)).rd) (by omega) (TInt.mk ?_)
    exact h (by omega) (by omega) hs c1 w1 h1 hp1

theorem ref_Eye_Text {c : Nat → Nat} {i q : Nat} (j : Nat) {w : World} {a : Addr} {vB : Value} {k : Nat} {D : List UInt8} {R : Value → World → Prop}
    (hij : i ≠ j) (hq : q ≠ i) (hp : RefEye (view c i w) a vB k) (hB : RdS (view c q w) vB 1 D.length (bvs D)) (hk : k ≤ D.length) (hD : D.length ≤ 1099511627776)
    (hshort : ¬ (2 ≤ D.length - k ∧ num ((D.drop k).take 2) ≤ D.length - k - 2) → ∀ v c' w', Step c [] [j] w c' w' → OwS (view c' j w') v 5 1 0 [] → R (.tuple #[v, .int .i64 20]) w')
    (h : 2 ≤ D.length - k → num ((D.drop k).take 2) ≤ D.length - k - 2 → ∀ v c' w', Step c [i] [j] w c' w' → RefEye (view c' i w') a vB (k + 2 + num ((D.drop k).take 2)) → OwS (view c' j w') v 5 1 (num ((D.drop k).take 2)) (bvs ((D.drop (k + 2)).take (num ((D.drop k).take 2)))) → R (.tuple #[v, .int .i64 0]) w') :
    CallV Try.prog 25 #[.pointer (some a)] w R := by
  refine ref02_Eye_Text_vc ?_
  unfold ref02_Eye_Text_VC
  obtain ⟨b, rfl, hb⟩ := hp
  obtain ⟨oB, cB, rfl⟩ := hB.form
  refine DrewC.mk ?_
  rw [addr_add, addr_add, Nat.zero_add]
  have hl0 : ∀ {w' : World} {C : Value → Prop}, wv w' = wv w → C (.slice oB D.length cB) → LoadC w' ⟨b, 0 + 0, none⟩ C := fun e hC => LoadC.at (v := .slice oB D.length cB) (h := view c i w) (e ▸ view_sub c i w) hb rfl hC
  have hl1 : ∀ {w' : World} {C : Value → Prop}, wv w' = wv w → C (.int .i64 k) → LoadC w' ⟨b, 1, none⟩ C := fun e hC => LoadC.at (v := .int .i64 k) (h := view c i w) (e ▸ view_sub c i w) hb rfl hC
  refine hl0 rfl (TSl.mk ?_)
  refine hl1 rfl (TInt.mk ?_)
  rw [wrap_i64 (n := (D.length : Int) - k) (by omega) (by omega)]
  refine BS.dec (fun h2 => ?_) (fun h2 => ?_)
  · refine AllocC.col (w := w.drew) c j fun b1 c1 w1 h2 hv _ => ?_
    exact hshort (fun h => by omega) _ c1 w1 h2.fresh.undrew (OwS.empty hv)
  refine DrewC.mk ?_
  refine hl0 rfl (TSl.mk ?_)
  refine hl1 rfl (TInt.mk ?_)
  refine hl1 rfl (TInt.mk ?_)
  rw [wrap_i64 (n := (k : Int) + 2) (by omega) (by omega)]
  have hcB := hB.len.2.1
  refine Req.bndle ⟨by omega, by omega⟩ ?_
  have e2 : ((k : Int) + 2).toNat = k + 2 := by omega
  rw [e2]
  refine Req.bndle ⟨by omega, by omega⟩ ?_
  rw [Int.toNat_natCast]
  have hlen2 : ((D.drop k).take 2).length = k + 2 - k := by rw [List.length_take, List.length_drop]; omega
  have hpart : RdS (view c q w) (.slice (slBase oB cB k 1) (k + 2 - k) (cB - k)) 1 ((D.drop k).take 2).length (bvs ((D.drop k).take 2)) := by
    have := hB.mid (k := k) (m := 2) (by omega)
    rw [hlen2, show k + 2 - k = 2 by omega, bvs_take, bvs_drop]
    simpa using this
  refine ref_Number (w := w.drew.drew) (RdS.mono hpart (view_sub c q w)) (by omega) ?_
  refine TInt.mk (DrewC.mk ?_)
  refine hl0 rfl (TSl.mk ?_)
  refine hl1 rfl (TInt.mk ?_)
  have hnum : num ((D.drop k).take 2) < 65536 := by
    have h6 := num_lt ((D.drop k).take 2)
    rw [hlen2, show k + 2 - k = 2 by omega] at h6
    exact h6
  rw [wrap_i64 (n := (num ((D.drop k).take 2) : Int)) (by omega) (by omega), wrap_i64 (n := (D.length : Int) - k) (by omega) (by omega), wrap_i64 (by omega) (by omega)]
  refine BS.dec (fun h3 => ?_) (fun h3 => ?_)
  · refine AllocC.col (w := w.drew.drew.drew) c j fun b1 c1 w1 h2 hv _ => ?_
    exact hshort (fun h => by omega) _ c1 w1 h2.fresh.undrew.undrew.undrew (OwS.empty hv)
  refine hl1 rfl (TInt.mk ?_)
  refine StoreC.col (w := w.drew.drew.drew) hb (by simp) fun w1 hw1 hs1 hb1 => ?_
  rw [wrap_i64 (by omega) (by omega)] at hb1
  have hp1 : RefEye (view c i w1) ⟨b, 0, none⟩ (.slice oB D.length cB) (k + 2) := ⟨b, rfl, hb1⟩
  have hB1 : RdS (view c q w1) (.slice oB D.length cB) 1 D.length (bvs D) := hB.mono (Step.sub (w1 := w1) hs1 (by simpa using hq))
  refine ref_Eye_Raw j hij hq hp1 hB1 (by omega) hD (fun h => by omega) (fun _ hs => by omega) (fun _ hs v c2 w2 h2 hp2 ho2 => ?_)
  obtain ⟨o2, cp2, rfl⟩ := ho2.form
  refine T2.mk (TSl.mk (TInt.mk ?_))
  rw [Int.toNat_natCast] at *
  have hst : Step c [i] [j] w c2 w2 := (hs1.undrew.undrew.undrew.weak (by simp) (by simp)).trans h2
  exact h (by omega) (by omega) _ c2 w2 hst hp2 ho2

/-- spoil: the row has other bytes behind -/
theorem spoil {c : Nat → Nat} {i : Nat} {w : World} {v : Value} {n : Nat} {xs : List Value} {R : Value → World → Prop} (ho : OwS (view c i w) v 5 1 n xs) (hn : n ≤ 1099511627776)
    (h : ∀ w', Step c [i] [] w c w' → R (.tuple #[]) w') : CallV Try.prog 20 #[v] w R := by
  obtain ⟨o, cp, rfl⟩ := ho.form
  refine law02_spoil_vc ?_
  unfold law02_spoil_VC
  refine ⟨fun vs w' => ∃ (m : Nat) (ys : List Value), m ≤ n ∧ vs = [.int .i64 m] ∧ Step c [i] [] w c w' ∧ OwS (view c i w') (.slice o n cp) 5 1 n ys, fun vs _ => match vs with | [.int _ x] => (n - x).toNat | _ => 0, ⟨0, xs, by omega, rfl, .refl .., ho⟩, ?_⟩
  rintro _ w1 n5 ⟨m, ys, hm, e, hst, hoy⟩
  simp only [List.cons.injEq, Value.int.injEq, true_and, and_true] at e
  subst e
  refine BS.dec (fun hlt => ?_) (fun hge => h w1 hst)
  refine Req.bnd ⟨by omega, hlt⟩ ?_
  rcases hoy.2 with ⟨e, hn0⟩ | ⟨g, cap, cur, e, hg, hnc, hcm, hcs, htake⟩
  · omega
  · cases e
    refine TSome.mk ?_
    rw [addr_add, Int.toNat_natCast, Nat.mul_one, Nat.zero_add]
    refine StoreC.col hg (by omega) fun w2 hw2 hs2 hg2 => ?_
    refine ⟨⟨m + 1, _, by omega, by rw [wrap_i64 (by omega) (by omega)]; rfl, hst.trans hs2, ⟨?_, .inr ⟨g, cp, _, rfl, hg2, hnc, hcm, by simpa using hcs, rfl⟩⟩⟩, ?_⟩
    · rw [List.length_take, Array.length_toList, Array.size_setIfInBounds]; omega
    · rw [wrap_i64 (by omega) (by omega)]; show ((n : Int) - (m + 1)).toNat < ((n : Int) - m).toNat; omega

/-! scripts -/
structure OpD where
  kind : Int
  size : Int
  n : Nat
  b : List UInt8
def OpD.cells (o : OpD) (v : Value) : List Value := [.int .i64 o.kind, .int .i64 o.size, .int .u64 o.n, v]
structure OpV (h : View) (o : OpD) (v : Value) : Prop where
  rd : RdS h v 1 o.b.length (bvs o.b)
  n : o.n < 18446744073709551616
def ScrV (h : View) (v : Value) (ops : List OpD) : Prop := ∃ xs, RdS h v 4 ops.length xs ∧ ops.length ≤ 9223372036854775807 ∧ ∀ (i : Nat) (o : OpD), ops[i]? = some o → ∃ vb, OpV h o vb ∧ ∀ (k : Nat) (u : Value), (o.cells vb)[k]? = some u → xs[i * 4 + k]? = some u
theorem OpV.mono {h h' : View} {o : OpD} {v : Value} (hp : OpV h o v) (hs : Sub h h') : OpV h' o v := ⟨hp.rd.mono hs, hp.n⟩
theorem ScrV.mono {h h' : View} {v : Value} {ops : List OpD} (hp : ScrV h v ops) (hs : Sub h h') : ScrV h' v ops := by
  obtain ⟨xs, hr, hl, hx⟩ := hp
  exact ⟨xs, hr.mono hs, hl, fun i o hi => by obtain ⟨vb, hv, hk⟩ := hx i o hi; exact ⟨vb, hv.mono hs, hk⟩⟩
def tot (ops : List OpD) : Nat := (ops.map fun o => o.b.length + 10).sum
theorem tot_take (ops : List OpD) (i : Nat) (o : OpD) (h : ops[i]? = some o) : tot (ops.take (i + 1)) = tot (ops.take i) + (o.b.length + 10) := by
  unfold tot; rw [List.take_add_one, h]; simp
theorem tot_le (ops : List OpD) (i : Nat) : tot (ops.take i) ≤ tot ops := by
  have : tot ops = tot (ops.take i) + tot (ops.drop i) := by
    unfold tot; rw [← List.sum_append, ← List.map_append, List.take_append_drop]
  omega
theorem ScrV.at {h : View} {o : Option Addr} {l cp : Nat} {ops : List OpD} (hs : ScrV h (.slice o l cp) ops) {i : Nat} {od : OpD} (hi : ops[i]? = some od) :
    ∃ b off cs T fz vb, o = some ⟨b, off, none⟩ ∧ h b = some (.cells cs T fz) ∧ OpV h od vb ∧ ∀ (k : Nat) (u : Value), (od.cells vb)[k]? = some u → cs[off + (i * 4 + k)]? = some u := by
  obtain ⟨xs, hr, _, hx⟩ := hs
  obtain ⟨vb, hv, hk⟩ := hx i od hi
  have hne : xs ≠ [] := by
    intro e; subst e
    have := hk 0 _ rfl
    simp at this
  obtain ⟨b, off, cs, T, fz, e, hb, hc⟩ := hr.base hne
  exact ⟨b, off, cs, T, fz, vb, e, hb, hv, fun k u hu => hc _ u (hk k u hu)⟩

theorem tot_len (ops : List OpD) : 10 * ops.length ≤ tot ops := by
  unfold tot
  induction ops with
  | nil => simp
  | cons o ops ih => simp only [List.map_cons, List.sum_cons, List.length_cons]; omega

/-- great -/
theorem great {c : Nat → Nat} {q : Nat} {w : World} {v : Value} {ops : List OpD} {R : Value → World → Prop} (hs : ScrV (view c q w) v ops) (hyes : R (.bool true) w) (hno : tot ops ≤ 1000000 → (∀ o ∈ ops, o.b.length ≤ 1000000) → R (.bool false) w) :
    CallV Try.prog 13 #[v] w R := by
  obtain ⟨xs, hr, hlen, hx⟩ := id hs
  obtain ⟨o, cp, rfl⟩ := hr.form
  refine law02_great_vc ?_
  unfold law02_great_VC
  refine ⟨fun vs w' => ∃ i : Nat, i ≤ ops.length ∧ vs = [.int .i64 (tot (ops.take i)), .int .i64 i] ∧ w' = w ∧ (∀ j o, j < i → ops[j]? = some o → o.b.length ≤ 1000000) ∧ tot (ops.take i) ≤ 2000010, fun vs _ => match vs with | [_, .int _ x] => (ops.length - x).toNat | _ => 0,
    ⟨0, by omega, by simp [tot], rfl, fun j o h => by omega, by simp [tot]⟩, ?_⟩
  rintro _ w1 n3 n4 ⟨i, hi, e, rfl, hall, hb⟩
  simp only [List.cons.injEq, Value.int.injEq, true_and, and_true] at e
  obtain ⟨rfl, rfl⟩ := e
  refine BS.dec (fun hlt => ?_) (fun hge => ?_)
  · refine Req.bnd ⟨by omega, hlt⟩ ?_
    obtain ⟨od, hod⟩ : ∃ od, ops[i]? = some od := ⟨ops[i]'(by omega), List.getElem?_eq_getElem _⟩
    obtain ⟨b, off, cs, T, fz, vb, rfl, hblk, hv, hk⟩ := hs.at hod
    obtain ⟨ob, cb, rfl⟩ := hv.rd.form
    refine TSome.mk ?_
    rw [addr_add, addr_add, Int.toNat_natCast, Nat.add_assoc]
    have h3 := hk 3 _ rfl
    refine LoadC.at (view_sub c q w1) hblk h3 (TSl.mk ?_)
    refine BS.dec (fun _ => hyes) (fun hsm => ?_)
    unfold law02_great_K1
    refine BS.dec (fun _ => hyes) (fun hsm2 => ?_)
    refine Req.bnd ⟨by omega, hlt⟩ ?_
    refine TSome.mk ?_
    rw [addr_add, addr_add, Int.toNat_natCast, Nat.add_assoc]
    refine LoadC.at (view_sub c q w1) hblk h3 (TSl.mk ?_)
    have ht := tot_take ops i od hod
    refine ⟨⟨i + 1, by omega, ?_, rfl, fun j o hj ho => ?_, by omega⟩, ?_⟩
    · rw [wrap_i64 (n := (od.b.length : Int) + 10) (by omega) (by omega), wrap_i64 (n := (tot (ops.take i) : Int) + ((od.b.length : Int) + 10)) (by omega) (by omega), wrap_i64 (n := (i : Int) + 1) (by omega) (by omega), ht]
      simp
    · rcases Nat.lt_or_ge j i with h | h
      · exact hall j o h ho
      · have : j = i := by omega
        subst this
        rw [hod] at ho; cases ho; omega
    · rw [wrap_i64 (n := (i : Int) + 1) (by omega) (by omega)]; show ((ops.length : Int) - (i + 1)).toNat < ((ops.length : Int) - i).toNat; omega
  · have : i = ops.length := by omega
    subst this
    rw [List.take_length] at *
    by_cases hgt : tot ops > 1000000
    · rw [decide_eq_true (by omega)]; exact hyes
    · rw [decide_eq_false (by omega)]
      refine hno (by omega) fun o ho => ?_
      obtain ⟨j, hj⟩ := List.getElem?_of_mem ho
      have : j < ops.length := by
        rcases Nat.lt_or_ge j ops.length with h | h
        · exact h
        · rw [List.getElem?_eq_none h] at hj; simp at hj
      exact hall j o this hj
end Go.Proofs.Ytpmpfahedbfppaa

/-
  What the functions of package oper and of chapter 10's document answer do with operations, each once.
-/
import Derived.Test.YtpmpfahedbfppaaOperD
import Derived.Test.YtpmpfahedbfppaaGenOper
set_option linter.unusedVariables false
namespace Go.Proofs.Ytpmpfahedbfppaa
open Go.Vc
attribute [local irreducible] TInt TBool TStr TPtr TSl TAgg TMap TChan T2 T3 T4 BS Req TSome TCell TByte LoadC LoadA StoreC AllocC RunV RunU CallV EqA StableC StableA StableV TCells ReadV

theorem oper_short_c {n : Int} {w : World} {R : Value → World → Prop} (h : R (.bool (decide (0 ≤ n ∧ n < 65536))) w) : CallV Try.prog 49 #[.int .i64 n] w R := by
  refine oper_short_vc ?_
  unfold oper_short_VC
  refine BS.dec (fun h1 => ?_) (fun h1 => ?_)
  · have : (decide (n ≤ (65535 : Int))) = decide (0 ≤ n ∧ n < 65536) := by rw [decide_eq_decide]; omega
    rw [this]; exact h
  · rwa [decide_eq_false (by omega)] at h

theorem reader_number {c : Nat → Nat} {i : Nat} {w : World} {ax : Addr} {l : List UInt8} {n : Int} {R : Value → World → Prop}
    (hp : EyeV (view c i w) ax l) (j : Nat) (hij : i < j) (hm : l.length ≤ 140737488355328) (k : Nat) (hn : n = k) (h1 : 1 ≤ k) (h2 : k ≤ 2)
    (h : ∀ c' w', Step c [i] [j] w c' w' → EyeV (view c' i w') ax (eU k l).2.1 → R (.int .i64 ((eU k l).1 : Nat)) w') :
    CallV Try.prog 54 #[.agg #[.pointer (some ax)], .int .i64 n] w R := by
  refine oper_reader_number_vc ?_
  unfold oper_reader_number_VC
  refine AllocC.col c j fun b c1 w1 st1 hb _ => ?_
  refine LoadC.ad (view_sub c1 j w1) (.pointer (some ax)) hb rfl ?_
  refine TPtr.mk ?_
  refine Eye_U (hp.mono (st1.step.sub (by simp; omega))) j (by omega) hm k hn h1 (by omega) fun c2 w2 st2 he2 => ?_
  refine T2.mk (TInt.mk (TInt.mk ?_))
  have hlt := eU_lt k l
  have : 256 ^ k ≤ 65536 := Nat.pow_le_pow_right (by omega) (show k ≤ 2 by omega)
  rw [wrap_i64_nat _ (by omega)]
  exact h c2 w2 ((st1.fresh.weak (by simp) (by simp)).trans st2) he2

theorem reader_text {c : Nat → Nat} {i : Nat} {w : World} {ax : Addr} {l : List UInt8} {R : Value → World → Prop}
    (hp : EyeV (view c i w) ax l) (j : Nat) (hij : i < j) (hm : l.length ≤ 140737488355328)
    (h : ∀ v c' w', Step c [i] [j] w c' w' → EyeV (view c' i w') ax (eT l).2.1 → OwS (view c' j w') v 5 1 (eT l).1.length (bvs (eT l).1) → R v w') :
    CallV Try.prog 55 #[.agg #[.pointer (some ax)]] w R := by
  refine oper_reader_text_vc ?_
  unfold oper_reader_text_VC
  refine AllocC.col c j fun b c1 w1 st1 hb _ => ?_
  refine LoadC.ad (view_sub c1 j w1) (.pointer (some ax)) hb rfl ?_
  refine TPtr.mk ?_
  refine Eye_T (hp.mono (st1.step.sub (by simp; omega))) j hm fun v c2 w2 st2 he2 ho2 => ?_
  obtain ⟨o2, cp2, rfl⟩ := ho2.form
  refine T2.mk (TSl.mk (TInt.mk ?_))
  exact h _ c2 w2 ((st1.fresh.weak (by simp) (by simp)).trans st2) he2 ho2

theorem Equal_bytes (c : Nat → Nat) {w : World} {v1 v2 : Value} {l m : List UInt8} {R : Value → World → Prop} (h1 : RdS (wv w) v1 1 l.length (bvs l)) (h2 : RdS (wv w) v2 1 m.length (bvs m)) (hl : l.length ≤ 1099511627776)
    (h : ∀ w', Step c [] [] w c w' → R (.bool (decide (l = m))) w') : CallV Try.prog 60 #[v1, v2] w R := by
  obtain ⟨o1, cp1, rfl⟩ := h1.form
  obtain ⟨o2, cp2, rfl⟩ := h2.form
  refine slices_Equal_byte_byte_vc ?_
  unfold slices_Equal_byte_byte_VC
  refine BS.ne (fun hne => ?_) (fun heq => ?_)
  · have := h w (.refl ..)
    rwa [decide_eq_false (by rintro rfl; exact hne rfl)] at this
  have hlen : l.length = m.length := by omega
  refine ⟨fun vs w' => ∃ k : Nat, k ≤ l.length ∧ vs = [.int .i64 k] ∧ l.take k = m.take k ∧ Step c [] [] w c w', fun vs _ => match vs with | [.int _ x] => (l.length - x).toNat | _ => 0, ⟨0, by omega, rfl, by simp, .refl ..⟩, ?_⟩
  rintro _ w1 n ⟨k, hk, e, heq, st⟩
  simp only [List.cons.injEq, Value.int.injEq, true_and, and_true] at e
  subst e
  refine BS.dec (fun hlt => ?_) (fun hge => ?_)
  · refine DrewC.mk ?_
    have hk' : k < l.length := by omega
    have hs : Sub (wv w) (wv w1.drew) := fun b o hb => (st.keep b (lt_of_heap hb) (by simp)).trans hb
    refine Req.bnd ⟨by omega, hlt⟩ ?_
    have e1 : (bvs l)[k]? = some (bv (l[k]'hk')) := by rw [bvs_get, List.getElem?_eq_getElem hk']; rfl
    have e2 : (bvs m)[k]? = some (bv (m[k]'(by omega))) := by rw [bvs_get, List.getElem?_eq_getElem (by omega)]; rfl
    obtain ⟨a1, rfl, g1⟩ := RdS.cell (h1.mono hs) e1
    obtain ⟨a2, rfl, g2⟩ := RdS.cell (h2.mono hs) e2
    refine TSome.mk ?_
    rw [Int.toNat_natCast, Nat.mul_one]
    refine LoadC.mk g1 (TInt.mk ?_)
    refine Req.bnd ⟨by omega, by omega⟩ (TSome.mk ?_)
    refine LoadC.mk g2 (TInt.mk ?_)
    refine BS.ne (fun hne => ?_) (fun heq2 => ?_)
    · have := h w1.drew st.drew
      rwa [decide_eq_false (by rintro rfl; exact hne rfl)] at this
    · have hx : l[k]'hk' = m[k]'(by omega) := UInt8.toNat_inj.1 (by omega)
      refine ⟨⟨k + 1, by omega, by rw [wrap_i64 (by omega) (by omega)]; rfl, ?_, st.drew⟩, ?_⟩
      · rw [List.take_add_one, List.take_add_one, heq, List.getElem?_eq_getElem hk', List.getElem?_eq_getElem (by omega), hx]
      · rw [wrap_i64 (by omega) (by omega)]; show ((l.length : Int) - (k + 1)).toNat < ((l.length : Int) - k).toNat; omega
  · have : k = l.length := by omega
    subst this
    rw [List.take_length, List.take_of_length_le (by omega)] at heq
    have := h w1 st
    rwa [decide_eq_true heq] at this

theorem exactly_c (c : Nat → Nat) {w : World} {v1 v2 : Value} {l m : List UInt8} {e : Int} {R : Value → World → Prop} (h1 : RdS (wv w) v1 1 l.length (bvs l)) (h2 : RdS (wv w) v2 1 m.length (bvs m)) (hl : l.length ≤ 1099511627776)
    (h : ∀ w', Step c [] [] w c w' → R (.bool (decide (e = 0 ∧ l = m))) w') : CallV Try.prog 56 #[v1, v2, .int .i64 e] w R := by
  obtain ⟨o1, cp1, rfl⟩ := h1.form
  obtain ⟨o2, cp2, rfl⟩ := h2.form
  refine oper_exactly_vc ?_
  unfold oper_exactly_VC
  refine BS.eq (fun he => ?_) (fun he => ?_)
  · refine Equal_bytes c h1 h2 hl fun w1 st => TBool.mk ?_
    have := h w1 st
    simpa [he] using this
  · have := h w (.refl ..)
    rwa [decide_eq_false (fun h => he h.1)] at this

/-- an operation's data can be read -/
def OpRV (h : View) (o : OpR) (v : Value) : Prop := RdS h v 1 o.data.length (bvs o.data)

theorem ref_Right (c : Nat → Nat) (j : Nat) {w : World} {o : OpR} {v : Value} {h0 : View} {R : Value → World → Prop} (hv : OpRV h0 o v)
    (h : ∀ c' w', Step c [] [j] w c' w' → R (.bool (decide o.right)) w') : CallV Try.prog 58 #[.agg (o.cells v).toArray] w R := by
  obtain ⟨ov, cv, rfl⟩ := RdS.form hv
  refine ref10_Right_vc ?_
  unfold ref10_Right_VC
  refine AllocC.col c j fun b c1 w1 st1 hb _ => ?_
  have hR := h c1 w1 st1.fresh
  have fls : ¬ o.right → R (.bool false) w1 := fun hn => by rwa [decide_eq_false hn] at hR
  have ld : ∀ {k : Nat} (u : Value) {C : Value → Prop}, (o.cells (.slice ov o.data.length cv)).toArray[k]? = some u → C u → LoadC w1 ((⟨b, 0, none⟩ : Addr).add k) C := fun {k} u {C} hu hC => LoadC.ad (view_sub c1 j w1) u hb hu hC
  refine ld (.int .i64 o.kind) rfl (TInt.mk ?_)
  refine BS.dec (fun k1 => ?_) (fun k => fls fun h => by unfold OpR.right at h; omega)
  refine ld (.int .i64 o.kind) rfl (TInt.mk ?_)
  refine BS.dec (fun k2 => ?_) (fun k => fls fun h => by unfold OpR.right at h; omega)
  refine ld (sv o.path) rfl (TStr.mk ?_)
  rw [strOf_size]
  refine BS.dec (fun k3 => ?_) (fun k => fls fun h => by unfold OpR.right at h; omega)
  refine ld (sv o.to) rfl (TStr.mk ?_)
  rw [strOf_size]
  refine BS.dec (fun k4 => ?_) (fun k => fls fun h => by unfold OpR.right at h; omega)
  refine ld (.int .i64 o.off) rfl (TInt.mk ?_)
  refine BS.dec (fun k5 => ?_) (fun k => fls fun h => by unfold OpR.right at h; omega)
  refine ld (.int .i64 o.off) rfl (TInt.mk ?_)
  refine BS.dec (fun k6 => ?_) (fun k => fls fun h => by unfold OpR.right at h; omega)
  refine ld (.int .i64 o.n) rfl (TInt.mk ?_)
  refine BS.dec (fun k7 => ?_) (fun k => fls fun h => by unfold OpR.right at h; omega)
  refine ld (.int .i64 o.n) rfl (TInt.mk ?_)
  refine BS.dec (fun k8 => ?_) (fun k => fls fun h => by unfold OpR.right at h; omega)
  refine ld (.slice ov o.data.length cv) rfl (TSl.mk ?_)
  have : decide (((o.data.length : Nat) : Int) ≤ (64 : Int)) = decide o.right := by rw [decide_eq_decide]; unfold OpR.right; omega
  rw [this]; exact hR

theorem Great_c (c : Nat → Nat) (j : Nat) {w : World} {o : OpR} {v : Value} {h0 : View} {R : Value → World → Prop} (hv : OpRV h0 o v)
    (h : ∀ c' w', Step c [] [j] w c' w' → R (.bool (decide (o.path.length > 400 ∨ o.to.length > 400 ∨ o.data.length > 400))) w') : CallV Try.prog 39 #[.agg (o.cells v).toArray] w R := by
  obtain ⟨ov, cv, rfl⟩ := RdS.form hv
  refine ref10_Great_vc ?_
  unfold ref10_Great_VC
  refine AllocC.col c j fun b c1 w1 st1 hb _ => ?_
  have hR := h c1 w1 st1.fresh
  have ld : ∀ {k : Nat} (u : Value) {C : Value → Prop}, (o.cells (.slice ov o.data.length cv)).toArray[k]? = some u → C u → LoadC w1 ((⟨b, 0, none⟩ : Addr).add k) C := fun {k} u {C} hu hC => LoadC.ad (view_sub c1 j w1) u hb hu hC
  refine ld (sv o.path) rfl (TStr.mk ?_)
  rw [strOf_size]
  refine BS.dec (fun k1 => by rwa [decide_eq_true (by omega)] at hR) (fun k1 => ?_)
  refine ld (sv o.to) rfl (TStr.mk ?_)
  rw [strOf_size]
  refine BS.dec (fun k2 => by rwa [decide_eq_true (by omega)] at hR) (fun k2 => ?_)
  refine ld (.slice ov o.data.length cv) rfl (TSl.mk ?_)
  have : decide (((o.data.length : Nat) : Int) > (400 : Int)) = decide (o.path.length > 400 ∨ o.to.length > 400 ∨ o.data.length > 400) := by rw [decide_eq_decide]; omega
  rw [this]; exact hR

theorem SameOp_c (c : Nat → Nat) (j : Nat) {w : World} {o p : OpR} {v u : Value} {q r : Nat} {R : Value → World → Prop} (hv : OpRV (view c q w) o v) (hu : OpRV (view c r w) p u)
    (h : ∀ c' w', Step c [] [j] w c' w' → R (.bool (decide (o = p))) w') : CallV Try.prog 45 #[.agg (o.cells v).toArray, .agg (p.cells u).toArray] w R := by
  obtain ⟨ov, cv, rfl⟩ := RdS.form hv
  obtain ⟨ou, cu, rfl⟩ := RdS.form hu
  refine ref10_SameOp_vc ?_
  unfold ref10_SameOp_VC
  refine AllocC.col c j fun b c1 w1 st1 hb _ => ?_
  refine AllocC.col c1 j fun b2 c2 w2 st2 hb2 _ => ?_
  have hb := st2.sub _ _ hb
  have st := st1.fresh.trans st2.fresh
  have hR := h c2 w2 st
  have fls : o ≠ p → R (.bool false) w2 := fun hn => by rwa [decide_eq_false hn] at hR
  have ld : ∀ {k : Nat} (u : Value) {C : Value → Prop}, (o.cells (.slice ov o.data.length cv)).toArray[k]? = some u → C u → LoadC w2 ((⟨b, 0, none⟩ : Addr).add k) C := fun {k} u {C} hu hC => LoadC.ad (view_sub c2 j w2) u hb hu hC
  have ld2 : ∀ {k : Nat} (u : Value) {C : Value → Prop}, (p.cells (.slice ou p.data.length cu)).toArray[k]? = some u → C u → LoadC w2 ((⟨b2, 0, none⟩ : Addr).add k) C := fun {k} u {C} hu hC => LoadC.ad (view_sub c2 j w2) u hb2 hu hC
  refine ld (.int .i64 o.kind) rfl (TInt.mk ?_)
  refine ld2 (.int .i64 p.kind) rfl (TInt.mk ?_)
  refine BS.eq (fun e1 => ?_) (fun e => fls (by rintro rfl; exact e rfl))
  refine ld (sv o.path) rfl (TStr.mk ?_)
  refine ld2 (sv p.path) rfl (TStr.mk ?_)
  rw [strEq_of]
  refine BS.dec (fun e2 => ?_) (fun e => fls (by rintro rfl; exact e rfl))
  refine ld (sv o.to) rfl (TStr.mk ?_)
  refine ld2 (sv p.to) rfl (TStr.mk ?_)
  rw [strEq_of]
  refine BS.dec (fun e3 => ?_) (fun e => fls (by rintro rfl; exact e rfl))
  refine ld (.int .i64 o.off) rfl (TInt.mk ?_)
  refine ld2 (.int .i64 p.off) rfl (TInt.mk ?_)
  refine BS.eq (fun e4 => ?_) (fun e => fls (by rintro rfl; exact e rfl))
  refine ld (.int .i64 o.n) rfl (TInt.mk ?_)
  refine ld2 (.int .i64 p.n) rfl (TInt.mk ?_)
  refine BS.eq (fun e5 => ?_) (fun e => fls (by rintro rfl; exact e rfl))
  refine ld (.slice ov o.data.length cv) rfl (TSl.mk ?_)
  refine string_rule strU8 ((hv.mono (st.sub (by simp))).mono (view_sub _ _ _)) (TStr.mk ?_)
  refine ld2 (.slice ou p.data.length cu) rfl (TSl.mk ?_)
  refine string_rule strU8 ((hu.mono (st.sub (by simp))).mono (view_sub _ _ _)) (TStr.mk ?_)
  rw [strEq_of]
  have : decide (o.data = p.data) = decide (o = p) := by
    rw [decide_eq_decide]
    obtain ⟨a1, a2, a3, a4, a5, a6⟩ := o
    obtain ⟨b1, b2, b3, b4, b5, b6⟩ := p
    simp only [OpR.mk.injEq] at *
    exact ⟨fun h => ⟨e1, e2, e3, e4, e5, h⟩, fun h => h.2.2.2.2.2⟩
  rw [this]; exact hR

theorem two_c (c : Nat → Nat) (j : Nat) {w : World} {n : Int} {R : Value → World → Prop} (h0 : 0 ≤ n) (h1 : n < 65536) (h : ∀ v c' w', Step c [] [j] w c' w' → OwS (view c' j w') v 5 1 (be n.toNat 2).length (bvs (be n.toNat 2)) → R v w') :
    CallV Try.prog 52 #[.int .i64 n] w R := by
  refine ref10_two_vc ?_
  unfold ref10_two_VC
  obtain ⟨m, rfl⟩ : ∃ m : Nat, n = m := ⟨n.toNat, by omega⟩
  refine AllocC.col c j fun b c1 w1 st1 hb _ => ?_
  refine h _ c1 w1 st1.fresh (OwS.lit hb _ ?_ (by simp) (by simp [maxLen]))
  rw [Int.toNat_natCast]
  have e1 : IntKind.wrap .u8 (IntKind.wrap .i64 (Int.tdiv (m : Int) 256)) = ((byteAt m 1).toNat : Int) := by
    rw [Int.tdiv_eq_ediv_of_nonneg (by omega), wrap_i64 (by omega) (by omega), wrap_u8_mod, byteAt_toNat]; omega
  have e2 : IntKind.wrap .u8 (Int.tmod (m : Int) 256) = ((byteAt m 0).toNat : Int) := by
    rw [Int.tmod_eq_emod_of_nonneg (by omega), wrap_u8_mod, byteAt_toNat]; omega
  rw [e1, e2]; rfl

theorem text_c (c : Nat → Nat) (j : Nat) {w : World} {v : Value} {l : List UInt8} {R : Value → World → Prop} (hr : RdS (wv w) v 1 l.length (bvs l)) (hl : l.length < 65536)
    (h : ∀ v c' w', Step c [] [j] w c' w' → OwS (view c' j w') v 5 1 (txt l).length (bvs (txt l)) → R v w') : CallV Try.prog 53 #[v] w R := by
  obtain ⟨o, cp, rfl⟩ := hr.form
  refine ref10_text_vc ?_
  unfold ref10_text_VC
  refine ref_T c j hr (by omega) fun v2 c2 w2 st2 ho2 => ?_
  rw [if_pos hl] at ho2
  obtain ⟨o2, cp2, rfl⟩ := ho2.form
  refine T2.mk (TSl.mk (TInt.mk ?_))
  exact h _ c2 w2 st2 ho2
end Go.Proofs.Ytpmpfahedbfppaa

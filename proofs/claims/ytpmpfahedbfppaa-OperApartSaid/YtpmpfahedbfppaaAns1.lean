/-
  Answers are written, each function once.
-/
import Derived.Test.YtpmpfahedbfppaaAnsD
import Derived.Test.YtpmpfahedbfppaaOper4
set_option linter.unusedVariables false
set_option linter.unusedSimpArgs false
namespace Go.Proofs.Ytpmpfahedbfppaa
open Go.Vc
attribute [local irreducible] TInt TBool TStr TPtr TSl TAgg TMap TChan T2 T3 T4 BS Req TSome TCell TByte LoadC LoadA StoreC AllocC RunV RunU CallV EqA StableC StableA StableV TCells ReadV
attribute [local irreducible] eU eT eE

theorem slStr : SlT Try.prog 62 9 1 16 := .of (by kernel_rfl)
structure AnsV (h : View) (a : AnsR) (v u : Value) : Prop where
  d : RdS h v 1 a.data.length (bvs a.data)
  n : RdS h u 1 a.names.length (svs a.names)
theorem AnsV.mono {h h' : View} {a : AnsR} {v u : Value} (H : AnsV h a v u) (hs : Sub h h') : AnsV h' a v u := ⟨H.d.mono hs, H.n.mono hs⟩

theorem wrong_c {w : World} {s : List UInt8} {R : Value → World → Prop} (h : R (.bool (!decide (okName s))) w) : CallV Try.prog 48 #[.string (strOf s)] w R := by
  refine oper_WriteAnswer_1_vc ?_
  unfold oper_WriteAnswer_1_VC
  rw [strEq_emp, strOf_size]
  refine BS.dec (fun e => ?_) (fun e => ?_)
  · subst e; exact h
  · have : decide (((s.length : Nat) : Int) > (8 : Int)) = !decide (okName s) := by
      have : s.length ≠ 0 := fun h => e (List.eq_nil_of_length_eq_zero h)
      by_cases h8 : s.length ≤ 8
      · rw [decide_eq_false (by omega), decide_eq_true (show okName s from ⟨by omega, h8⟩)]; rfl
      · rw [decide_eq_true (by omega), decide_eq_false (show ¬ okName s from fun h => h8 h.2)]; rfl
    rw [this]; exact h
theorem ContainsFunc_c {w : World} {v : Value} {names : List (List UInt8)} {R : Value → World → Prop} (hr : RdS (wv w) v 1 names.length (svs names)) (hl : names.length ≤ 1099511627776)
    (h : R (.bool (!decide (∀ s ∈ names, okName s))) w) : CallV Try.prog 50 #[v, .func (.func 48) #[] #[]] w R := by
  obtain ⟨o, p, rfl⟩ := hr.form
  refine slices_ContainsFunc_string_string_vc ?_
  unfold slices_ContainsFunc_string_string_VC
  refine slices_IndexFunc_string_string_vc ?_
  unfold slices_IndexFunc_string_string_VC
  refine LoopI.up names.length (fun i w1 => w1 = w ∧ ∀ s ∈ names.take i, okName s) ⟨rfl, by simp⟩ ?_
  rintro i _ B hi ⟨rfl, hok⟩ back
  refine BS.dec (fun hlt => ?_) (fun hge => ?_)
  · obtain ⟨s, hs⟩ := get_of_lt (l := names) (i := i) (by omega)
    refine Req.bnd ⟨by omega, hlt⟩ (hr.elt (Sub.refl _) (u := sv s) (by rw [svs_get, hs]; rfl) ?_)
    refine TStr.mk (wrong_c (TBool.mk ?_))
    refine BS.nb (fun hb => ?_) (fun hb => ?_)
    · refine TInt.mk ?_
      have hm : s ∈ names := List.mem_of_getElem? hs
      have : (!decide (∀ s ∈ names, okName s)) = true := by
        simp only [Bool.not_eq_true', decide_eq_false_iff_not]
        exact fun h => by simp [h s hm] at hb
      rw [this] at h
      rw [decide_eq_true (by omega)]; exact h
    · rw [wrap_i64 (by omega) (by omega)]
      refine back _ (by omega) ⟨rfl, fun x hx => ?_⟩
      rw [List.take_add_one, hs] at hx
      simp only [Option.toList_some, List.mem_append, List.mem_singleton] at hx
      rcases hx with hx | rfl
      · exact hok x hx
      · simpa using hb
  · refine TInt.mk ?_
    have : i = names.length := by omega
    subst this
    rw [List.take_length] at hok
    rw [decide_eq_true hok] at h
    exact h

theorem WriteAnswer_c (c : Nat → Nat) (j : Nat) {w : World} {a : AnsR} {v u : Value} {R : Value → World → Prop} (hv : AnsV (wv w) a v u)
    (h : ∀ v c' w', Step c [] [j] w c' w' → OwS (view c' j w') v 5 1 (wrAns a).1.length (bvs (wrAns a).1) → R (.tuple #[v, .int .i64 (wrAns a).2]) w') :
    CallV Try.prog 34 #[.agg (a.cells v u).toArray] w R := by
  obtain ⟨ov, cv, rfl⟩ := hv.d.form
  obtain ⟨ou, cu, rfl⟩ := hv.n.form
  have D : AnsV (view (fun _ => 0) 0 w) a (.slice ov a.data.length cv) (.slice ou a.names.length cu) := by rw [view0]; exact hv
  have S := Fr.start w
  refine oper_WriteAnswer_vc ?_
  unfold oper_WriteAnswer_VC
  refine AllocC.col (fun _ => 0) 1 fun b c1 w1 st1 b1 _ => ?_
  replace S := S.go st1.step (by decide) (by decide); replace D := D.mono (st1.step.sub (by decide))
  have fls : ¬ a.right → R (.tuple #[.slice none 0 0, .int .i64 1]) w1 := fun hn => by
    have := h (.slice none 0 0) _ _ (S.leave c j)
    rw [wrAns, if_neg hn] at this
    exact this (OwS.none_bytes ..)
  (repeat (first | refine TInt.mk ?_ | refine TBool.mk ?_ | refine TStr.mk ?_ | refine TSl.mk ?_ | refine TPtr.mk ?_ | refine TAgg.mk ?_ | refine T2.mk ?_ | refine T3.mk ?_ | refine TSome.mk ?_ | refine LoadC.ad (view_sub _ _ _) _ (by assumption) rfl ?_))
  refine oper_short_c (TBool.mk (BS.ndec (fun k => fls fun h => by unfold AnsR.right at h; omega) (fun k1 => ?_)))
  (repeat (first | refine TInt.mk ?_ | refine TBool.mk ?_ | refine TStr.mk ?_ | refine TSl.mk ?_ | refine TPtr.mk ?_ | refine TAgg.mk ?_ | refine T2.mk ?_ | refine T3.mk ?_ | refine TSome.mk ?_ | refine LoadC.ad (view_sub _ _ _) _ (by assumption) rfl ?_))
  refine oper_short_c (TBool.mk (BS.ndec (fun k => fls fun h => by unfold AnsR.right at h; omega) (fun k2 => ?_)))
  (repeat (first | refine TInt.mk ?_ | refine TBool.mk ?_ | refine TStr.mk ?_ | refine TSl.mk ?_ | refine TPtr.mk ?_ | refine TAgg.mk ?_ | refine T2.mk ?_ | refine T3.mk ?_ | refine TSome.mk ?_ | refine LoadC.ad (view_sub _ _ _) _ (by assumption) rfl ?_))
  refine BS.dec (fun k => fls fun h => by unfold AnsR.right at h; omega) (fun k3 => ?_)
  (repeat (first | refine TInt.mk ?_ | refine TBool.mk ?_ | refine TStr.mk ?_ | refine TSl.mk ?_ | refine TPtr.mk ?_ | refine TAgg.mk ?_ | refine T2.mk ?_ | refine T3.mk ?_ | refine TSome.mk ?_ | refine LoadC.ad (view_sub _ _ _) _ (by assumption) rfl ?_))
  refine BS.dec (fun k => fls fun h => by unfold AnsR.right at h; omega) (fun k4 => ?_)
  (repeat (first | refine TInt.mk ?_ | refine TBool.mk ?_ | refine TStr.mk ?_ | refine TSl.mk ?_ | refine TPtr.mk ?_ | refine TAgg.mk ?_ | refine T2.mk ?_ | refine T3.mk ?_ | refine TSome.mk ?_ | refine LoadC.ad (view_sub _ _ _) _ (by assumption) rfl ?_))
  refine ContainsFunc_c (D.n.mono (view_sub _ _ _)) (by omega) (TBool.mk ?_)
  unfold oper_WriteAnswer_K1
  refine BS.ndec (fun k => fls fun h => k h.2.2.2.2.2.2) (fun k5 => ?_)
  have hR : a.right := ⟨by omega, by omega, by omega, by omega, by omega, by omega, k5⟩
  refine AllocC.col c1 2 fun p c2 w2 st2 b2 _ => ?_
  replace S := S.go st2.step (by decide) (by decide); replace D := D.mono (st2.step.sub (by decide)); replace b1 := st2.step.sub (by decide) _ _ b1
  have P : PenV (view c2 2 w2) ⟨p, 0, none⟩ [] := ⟨p, _, rfl, b2, OwS.nil ..⟩
  (repeat (first | refine TInt.mk ?_ | refine TBool.mk ?_ | refine TStr.mk ?_ | refine TSl.mk ?_ | refine TPtr.mk ?_ | refine TAgg.mk ?_ | refine T2.mk ?_ | refine T3.mk ?_ | refine TSome.mk ?_ | refine LoadC.ad (view_sub _ _ _) _ (by assumption) rfl ?_))
  refine Pen_U P a.code.toNat 2 (by rw [wrap_u64 (by omega) (by omega)]; omega) rfl (by omega) (by omega) (by omega) (by simp) fun c3 w3 st3 P => ?_
  replace S := S.go st3 (by decide) (by decide); replace D := D.mono (st3.sub (by decide)); replace b1 := st3.sub (by decide) _ _ b1
  (repeat (first | refine TInt.mk ?_ | refine TBool.mk ?_ | refine TStr.mk ?_ | refine TSl.mk ?_ | refine TPtr.mk ?_ | refine TAgg.mk ?_ | refine T2.mk ?_ | refine T3.mk ?_ | refine TSome.mk ?_ | refine LoadC.ad (view_sub _ _ _) _ (by assumption) rfl ?_))
  refine Pen_U P a.n.toNat 2 (by rw [wrap_u64 (by omega) (by omega)]; omega) rfl (by omega) (by omega) (by omega) (by simp) fun c4 w4 st4 P => ?_
  replace S := S.go st4 (by decide) (by decide); replace D := D.mono (st4.sub (by decide)); replace b1 := st4.sub (by decide) _ _ b1
  (repeat (first | refine TInt.mk ?_ | refine TBool.mk ?_ | refine TStr.mk ?_ | refine TSl.mk ?_ | refine TPtr.mk ?_ | refine TAgg.mk ?_ | refine T2.mk ?_ | refine T3.mk ?_ | refine TSome.mk ?_ | refine LoadC.ad (view_sub _ _ _) _ (by assumption) rfl ?_))
  refine Pen_T P 0 (by omega) D.d (by omega) (by simp) fun c5 w5 st5 P => ?_
  replace S := S.go st5 (by decide) (by decide); replace D := D.mono (st5.sub (by decide)); replace b1 := st5.sub (by decide) _ _ b1
  (repeat (first | refine TInt.mk ?_ | refine TBool.mk ?_ | refine TStr.mk ?_ | refine TSl.mk ?_ | refine TPtr.mk ?_ | refine TAgg.mk ?_ | refine T2.mk ?_ | refine T3.mk ?_ | refine TSome.mk ?_ | refine LoadC.ad (view_sub _ _ _) _ (by assumption) rfl ?_))
  refine Pen_U P a.names.length 1 (by rw [wrap_u64 (by omega) (by omega)]) rfl (by omega) (by omega) (by omega) (by simp; omega) fun c6 w6 st6 P => ?_
  replace S := S.go st6 (by decide) (by decide); replace D := D.mono (st6.sub (by decide)); replace b1 := st6.sub (by decide) _ _ b1
  (repeat (first | refine TInt.mk ?_ | refine TBool.mk ?_ | refine TStr.mk ?_ | refine TSl.mk ?_ | refine TPtr.mk ?_ | refine TAgg.mk ?_ | refine T2.mk ?_ | refine T3.mk ?_ | refine TSome.mk ?_ | refine LoadC.ad (view_sub _ _ _) _ (by assumption) rfl ?_))
  generalize hb : [] ++ be a.code.toNat 2 ++ be a.n.toNat 2 ++ txt a.data ++ be a.names.length 1 = B at P
  have hB : B.length ≤ 71 := by rw [← hb]; simp; omega
  have hE : a.enc = B ++ a.names.flatMap txt := by rw [← hb]; unfold AnsR.enc; simp
  have hle := AnsR.enc_len hR
  refine LoopI.up a.names.length (fun i w' => ∃ c', Fr w c' w' ∧ PenV (view c' 2 w') ⟨p, 0, none⟩ (B ++ (a.names.take i).flatMap txt) ∧ AnsV (view c' 0 w') a (.slice ov a.data.length cv) (.slice ou a.names.length cu)) ⟨c6, S, by simpa using P, D⟩ ?_
  rintro i w7 B' hi ⟨c7, S, P, D⟩ back
  refine BS.dec (fun hlt => ?_) (fun hge => ?_)
  · obtain ⟨s, hs⟩ := get_of_lt (l := a.names) (i := i) (by omega)
    have hs8 := k5 s (List.mem_of_getElem? hs)
    unfold okName at hs8
    refine Req.bnd ⟨by omega, hlt⟩ (D.n.elt (view_sub _ _ _) (u := sv s) (by rw [svs_get, hs]; rfl) (TStr.mk ?_))
    refine bytes_col Try.underlying9 Try.underlying26 Try.underlying5 c7 0 fun v8 c8 w8 st8 r8 => ?_
    replace S := S.go st8 (by decide) (by decide); replace D := D.mono (st8.sub (by decide)); replace P := P.mono (st8.sub (by decide))
    obtain ⟨o8, p8, rfl⟩ := r8.form
    (repeat (first | refine TInt.mk ?_ | refine TBool.mk ?_ | refine TStr.mk ?_ | refine TSl.mk ?_ | refine TPtr.mk ?_ | refine TAgg.mk ?_ | refine T2.mk ?_ | refine T3.mk ?_ | refine TSome.mk ?_))
    refine Pen_T P 0 (by omega) r8 (by omega) ?_ fun c9 w9 st9 P => ?_
    · have h1 : (a.names.take i).flatMap txt ++ (a.names.drop i).flatMap txt = a.names.flatMap txt := by rw [← List.flatMap_append, List.take_append_drop]
      have h2 := congrArg List.length h1
      have h3 := congrArg List.length hE
      rw [List.length_append] at h2 h3 ⊢
      omega
    replace S := S.go st9 (by decide) (by decide); replace D := D.mono (st9.sub (by decide))
    refine TInt.mk ?_
    rw [wrap_i64 (by omega) (by omega)]
    refine back _ (by omega) ⟨c9, S, ?_, D⟩
    rw [List.take_add_one, hs, Option.toList_some, List.flatMap_append, ← List.append_assoc]; simpa using P
  · have : i = a.names.length := by omega
    subst this
    rw [List.take_length, ← hE] at P
    refine Pen_Data 3 P (by omega) fun v9 c9 w9 st9 ho => ?_
    replace S := S.go st9 (by decide) (by decide); replace D := D.mono (st9.sub (by decide))
    obtain ⟨o9, p9, rfl⟩ := ho.form
    refine TSl.mk ?_
    have := h (.slice o9 a.enc.length p9) _ _ (S.leave c j)
    rw [wrAns, if_pos hR] at this
    exact this (ho.mono (S.out c j (by omega)))

theorem RightAnswer_c (c : Nat → Nat) (j : Nat) {w : World} {a : AnsR} {v u : Value} {R : Value → World → Prop} (hv : AnsV (wv w) a v u)
    (h : ∀ c' w', Step c [] [j] w c' w' → R (.bool (decide a.right)) w') : CallV Try.prog 51 #[.agg (a.cells v u).toArray] w R := by
  obtain ⟨ov, cv, rfl⟩ := hv.d.form
  obtain ⟨ou, cu, rfl⟩ := hv.n.form
  have D : AnsV (view (fun _ => 0) 0 w) a (.slice ov a.data.length cv) (.slice ou a.names.length cu) := by rw [view0]; exact hv
  have S := Fr.start w
  refine ref10_RightAnswer_vc ?_
  unfold ref10_RightAnswer_VC
  refine AllocC.col (fun _ => 0) 1 fun b c1 w1 st1 b1 _ => ?_
  replace S := S.go st1.step (by decide) (by decide); replace D := D.mono (st1.step.sub (by decide))
  have hR := h _ _ (S.leave c j)
  have fls : ¬ a.right → R (.bool false) w1 := fun hn => by rwa [decide_eq_false hn] at hR
  (repeat (first | refine TInt.mk ?_ | refine TBool.mk ?_ | refine TStr.mk ?_ | refine TSl.mk ?_ | refine TPtr.mk ?_ | refine TAgg.mk ?_ | refine T2.mk ?_ | refine T3.mk ?_ | refine TSome.mk ?_ | refine LoadC.ad (view_sub _ _ _) _ (by assumption) rfl ?_))
  refine BS.dec (fun k => fls fun h => by unfold AnsR.right at h; omega) (fun k1 => ?_)
  (repeat (first | refine TInt.mk ?_ | refine TBool.mk ?_ | refine TStr.mk ?_ | refine TSl.mk ?_ | refine TPtr.mk ?_ | refine TAgg.mk ?_ | refine T2.mk ?_ | refine T3.mk ?_ | refine TSome.mk ?_ | refine LoadC.ad (view_sub _ _ _) _ (by assumption) rfl ?_))
  refine BS.dec (fun k => fls fun h => by unfold AnsR.right at h; omega) (fun k2 => ?_)
  (repeat (first | refine TInt.mk ?_ | refine TBool.mk ?_ | refine TStr.mk ?_ | refine TSl.mk ?_ | refine TPtr.mk ?_ | refine TAgg.mk ?_ | refine T2.mk ?_ | refine T3.mk ?_ | refine TSome.mk ?_ | refine LoadC.ad (view_sub _ _ _) _ (by assumption) rfl ?_))
  refine BS.dec (fun k => fls fun h => by unfold AnsR.right at h; omega) (fun k3 => ?_)
  (repeat (first | refine TInt.mk ?_ | refine TBool.mk ?_ | refine TStr.mk ?_ | refine TSl.mk ?_ | refine TPtr.mk ?_ | refine TAgg.mk ?_ | refine T2.mk ?_ | refine T3.mk ?_ | refine TSome.mk ?_ | refine LoadC.ad (view_sub _ _ _) _ (by assumption) rfl ?_))
  refine BS.dec (fun k => fls fun h => by unfold AnsR.right at h; omega) (fun k4 => ?_)
  (repeat (first | refine TInt.mk ?_ | refine TBool.mk ?_ | refine TStr.mk ?_ | refine TSl.mk ?_ | refine TPtr.mk ?_ | refine TAgg.mk ?_ | refine T2.mk ?_ | refine T3.mk ?_ | refine TSome.mk ?_ | refine LoadC.ad (view_sub _ _ _) _ (by assumption) rfl ?_))
  refine BS.dec (fun k => fls fun h => by unfold AnsR.right at h; omega) (fun k5 => ?_)
  (repeat (first | refine TInt.mk ?_ | refine TBool.mk ?_ | refine TStr.mk ?_ | refine TSl.mk ?_ | refine TPtr.mk ?_ | refine TAgg.mk ?_ | refine T2.mk ?_ | refine T3.mk ?_ | refine TSome.mk ?_ | refine LoadC.ad (view_sub _ _ _) _ (by assumption) rfl ?_))
  unfold ref10_RightAnswer_K1
  refine BS.dec (fun k => fls fun h => by unfold AnsR.right at h; omega) (fun k6 => ?_)
  refine LoopI.up a.names.length (fun i w' => w' = w1 ∧ ∀ s ∈ a.names.take i, okName s) ⟨rfl, by simp⟩ ?_
  rintro i _ B' hi ⟨rfl, hok⟩ back
  (repeat (first | refine TInt.mk ?_ | refine TBool.mk ?_ | refine TStr.mk ?_ | refine TSl.mk ?_ | refine TPtr.mk ?_ | refine TAgg.mk ?_ | refine T2.mk ?_ | refine T3.mk ?_ | refine TSome.mk ?_ | refine LoadC.ad (view_sub _ _ _) _ (by assumption) rfl ?_))
  refine BS.dec (fun hlt => ?_) (fun hge => ?_)
  · obtain ⟨s, hs⟩ := get_of_lt (l := a.names) (i := i) (by omega)
    have hm : s ∈ a.names := List.mem_of_getElem? hs
    (repeat (first | refine TInt.mk ?_ | refine TBool.mk ?_ | refine TStr.mk ?_ | refine TSl.mk ?_ | refine TPtr.mk ?_ | refine TAgg.mk ?_ | refine T2.mk ?_ | refine T3.mk ?_ | refine TSome.mk ?_ | refine LoadC.ad (view_sub _ _ _) _ (by assumption) rfl ?_))
    refine Req.bnd ⟨by omega, hlt⟩ (D.n.elt (view_sub _ _ _) (u := sv s) (by rw [svs_get, hs]; rfl) (TStr.mk ?_))
    rw [strOf_size]
    refine BS.dec (fun k => fls fun h => by have := h.2.2.2.2.2.2 s hm; unfold okName at this; omega) (fun k7 => ?_)
    (repeat (first | refine TInt.mk ?_ | refine TBool.mk ?_ | refine TStr.mk ?_ | refine TSl.mk ?_ | refine TPtr.mk ?_ | refine TAgg.mk ?_ | refine T2.mk ?_ | refine T3.mk ?_ | refine TSome.mk ?_ | refine LoadC.ad (view_sub _ _ _) _ (by assumption) rfl ?_))
    refine Req.bnd ⟨by omega, hlt⟩ (D.n.elt (view_sub _ _ _) (u := sv s) (by rw [svs_get, hs]; rfl) (TStr.mk ?_))
    rw [strOf_size]
    refine BS.dec (fun k => fls fun h => by have := h.2.2.2.2.2.2 s hm; unfold okName at this; omega) (fun k8 => ?_)
    rw [wrap_i64 (by omega) (by omega)]
    refine back _ (by omega) ⟨rfl, fun x hx => ?_⟩
    rw [List.take_add_one, hs] at hx
    simp only [Option.toList_some, List.mem_append, List.mem_singleton] at hx
    rcases hx with hx | rfl
    · exact hok x hx
    · unfold okName; omega
  · have : i = a.names.length := by omega
    subst this
    rw [List.take_length] at hok
    rw [decide_eq_true ⟨by omega, by omega, by omega, by omega, by omega, by omega, hok⟩] at hR
    exact hR

theorem Same_strs (c : Nat → Nat) {w : World} {v u : Value} {l m : List (List UInt8)} {R : Value → World → Prop} (h1 : RdS (wv w) v 1 l.length (svs l)) (h2 : RdS (wv w) u 1 m.length (svs m)) (hl : l.length ≤ 1099511627776)
    (h : ∀ w', Step c [] [] w c w' → R (.bool (decide (l = m))) w') : CallV Try.prog 57 #[v, u] w R := by
  obtain ⟨o1, cp1, rfl⟩ := h1.form
  obtain ⟨o2, cp2, rfl⟩ := h2.form
  refine ref09_Same_vc ?_
  unfold ref09_Same_VC
  refine BS.ne (fun hne => ?_) (fun heq => ?_)
  · have := h w (.refl ..)
    rwa [decide_eq_false (by rintro rfl; exact hne rfl)] at this
  have hlen : l.length = m.length := by omega
  refine LoopI.up l.length (fun i w' => Step c [] [] w c w' ∧ l.take i = m.take i) ⟨.refl .., by simp⟩ ?_
  rintro i w1 B hi ⟨st, heq⟩ back
  refine BS.dec (fun hlt => ?_) (fun hge => ?_)
  · refine DrewC.col c fun w2 st2 => ?_
    have st := st.trans st2
    obtain ⟨s, hs⟩ := get_of_lt (l := l) (i := i) (by omega)
    obtain ⟨t, ht⟩ := get_of_lt (l := m) (i := i) (by omega)
    refine Req.bnd ⟨by omega, hlt⟩ (h1.elt st.wv (u := sv s) (by rw [svs_get, hs]; rfl) (TStr.mk ?_))
    refine Req.bnd ⟨by omega, by omega⟩ (h2.elt st.wv (u := sv t) (by rw [svs_get, ht]; rfl) (TStr.mk ?_))
    rw [strEq_of]
    refine BS.ndec (fun hne => ?_) (fun he => ?_)
    · have := h w2 st
      rwa [decide_eq_false (by rintro rfl; rw [hs] at ht; exact hne (by simpa using ht))] at this
    · rw [wrap_i64 (by omega) (by omega)]
      refine back _ (by omega) ⟨st, ?_⟩
      rw [List.take_add_one, List.take_add_one, heq, hs, ht, he]
  · have : i = l.length := by omega
    subst this
    rw [List.take_length, hlen, List.take_length] at heq
    have := h w1 st
    rwa [decide_eq_true heq] at this

theorem SameAns_c (c : Nat → Nat) (j : Nat) {w : World} {a b : AnsR} {v u v' u' : Value} {R : Value → World → Prop} (ha : AnsV (wv w) a v u) (hb : AnsV (wv w) b v' u') (hl : a.names.length ≤ 1099511627776)
    (h : ∀ c' w', Step c [] [j] w c' w' → R (.bool (decide (a = b))) w') : CallV Try.prog 38 #[.agg (a.cells v u).toArray, .agg (b.cells v' u').toArray] w R := by
  obtain ⟨ov, cv, rfl⟩ := ha.d.form
  obtain ⟨ou, cu, rfl⟩ := ha.n.form
  obtain ⟨pv, dv, rfl⟩ := hb.d.form
  obtain ⟨pu, du, rfl⟩ := hb.n.form
  have D : AnsV (view (fun _ => 0) 0 w) a (.slice ov a.data.length cv) (.slice ou a.names.length cu) := by rw [view0]; exact ha
  have E : AnsV (view (fun _ => 0) 0 w) b (.slice pv b.data.length dv) (.slice pu b.names.length du) := by rw [view0]; exact hb
  have S := Fr.start w
  refine ref10_Same_vc ?_
  unfold ref10_Same_VC
  refine AllocC.col (fun _ => 0) 1 fun x c1 w1 st1 b1 _ => ?_
  replace S := S.go st1.step (by decide) (by decide); replace D := D.mono (st1.step.sub (by decide)); replace E := E.mono (st1.step.sub (by decide))
  refine AllocC.col c1 1 fun y c2 w2 st2 b2 _ => ?_
  replace b1 := st2.old _ _ b1 (by simp)
  replace S := S.go st2.step (by decide) (by decide); replace D := D.mono (st2.step.sub (by decide)); replace E := E.mono (st2.step.sub (by decide))
  have hR := h _ _ (S.leave c j)
  have fls : a ≠ b → R (.bool false) w2 := fun hn => by rwa [decide_eq_false hn] at hR
  (repeat (first | refine TInt.mk ?_ | refine TBool.mk ?_ | refine TStr.mk ?_ | refine TSl.mk ?_ | refine TPtr.mk ?_ | refine TAgg.mk ?_ | refine T2.mk ?_ | refine T3.mk ?_ | refine TSome.mk ?_ | refine LoadC.ad (view_sub _ _ _) _ (by assumption) rfl ?_))
  refine BS.eq (fun e1 => ?_) (fun e => fls (by rintro rfl; exact e rfl))
  (repeat (first | refine TInt.mk ?_ | refine TBool.mk ?_ | refine TStr.mk ?_ | refine TSl.mk ?_ | refine TPtr.mk ?_ | refine TAgg.mk ?_ | refine T2.mk ?_ | refine T3.mk ?_ | refine TSome.mk ?_ | refine LoadC.ad (view_sub _ _ _) _ (by assumption) rfl ?_))
  refine BS.eq (fun e2 => ?_) (fun e => fls (by rintro rfl; exact e rfl))
  (repeat (first | refine TInt.mk ?_ | refine TBool.mk ?_ | refine TStr.mk ?_ | refine TSl.mk ?_ | refine TPtr.mk ?_ | refine TAgg.mk ?_ | refine T2.mk ?_ | refine T3.mk ?_ | refine TSome.mk ?_ | refine LoadC.ad (view_sub _ _ _) _ (by assumption) rfl ?_))
  refine string_rule strU8 (D.d.mono (view_sub _ _ _)) (TStr.mk ?_)
  (repeat (first | refine TInt.mk ?_ | refine TBool.mk ?_ | refine TStr.mk ?_ | refine TSl.mk ?_ | refine TPtr.mk ?_ | refine TAgg.mk ?_ | refine T2.mk ?_ | refine T3.mk ?_ | refine TSome.mk ?_ | refine LoadC.ad (view_sub _ _ _) _ (by assumption) rfl ?_))
  refine string_rule strU8 (E.d.mono (view_sub _ _ _)) (TStr.mk ?_)
  rw [strEq_of]
  refine BS.dec (fun e3 => ?_) (fun e => fls (by rintro rfl; exact e rfl))
  (repeat (first | refine TInt.mk ?_ | refine TBool.mk ?_ | refine TStr.mk ?_ | refine TSl.mk ?_ | refine TPtr.mk ?_ | refine TAgg.mk ?_ | refine T2.mk ?_ | refine T3.mk ?_ | refine TSome.mk ?_ | refine LoadC.ad (view_sub _ _ _) _ (by assumption) rfl ?_))
  refine Same_strs c2 (D.n.mono (view_sub _ _ _)) (E.n.mono (view_sub _ _ _)) hl fun w3 st3 => ?_
  replace S := S.go st3 (by decide) (by decide)
  have hR := h _ _ (S.leave c j)
  refine TBool.mk ?_
  have : decide (a.names = b.names) = decide (a = b) := by
    rw [decide_eq_decide]
    obtain ⟨a1, a2, a3, a4⟩ := a
    obtain ⟨b1, b2, b3, b4⟩ := b
    simp only [AnsR.mk.injEq] at *
    exact ⟨fun h => ⟨e1, e2, e3, h⟩, fun h => h.2.2.2⟩
  rw [this]; exact hR
end Go.Proofs.Ytpmpfahedbfppaa

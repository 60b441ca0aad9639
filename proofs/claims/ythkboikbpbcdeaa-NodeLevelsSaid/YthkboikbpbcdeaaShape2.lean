/-
  Lists of pairs: what the functions of package shape, and of chapter 06's document answer, do, each once.
-/
import Derived.Test.YthkboikbpbcdeaaShape
import Derived.Test.YthkboikbpbcdeaaHp3
set_option linter.unusedVariables false
set_option linter.unusedSimpArgs false
namespace Go.Proofs.Ythkboikbpbcdeaa
open Go.Vc
attribute [local irreducible] TInt TBool TStr TPtr TSl TAgg TMap TChan T2 T3 T4 BS Req TSome TCell TByte LoadC LoadA StoreC AllocC RunV RunU CallV ExtV EqA StableC StableA StableV TCells ReadV

def psum (ps : List PairR) : Nat := (ps.map fun p => 8 + p.1.length + p.2.length).sum
theorem psum_take {ps : List PairR} {i : Nat} {p : PairR} (h : ps[i]? = some p) : psum (ps.take (i + 1)) = psum (ps.take i) + (8 + p.1.length + p.2.length) := by
  unfold psum; rw [List.take_add_one, h]; simp
theorem psum_len (ps : List PairR) : 8 * ps.length ≤ psum ps := by
  unfold psum
  induction ps with
  | nil => simp
  | cons p ps ih => simp only [List.map_cons, List.sum_cons, List.length_cons]; omega
theorem slBytes : SlT Try.prog 25 22 1 24 := .of (by kernel_rfl)
theorem slPair : SlT Try.prog 30 35 2 48 := .of (by kernel_rfl)
theorem Great_pairs (c : Nat → Nat) {w : World} {v : Value} {ps : List PairR} {R : Value → World → Prop} (hr : PairsV (wv w) v ps)
    (hyes : ∀ w', Step c [] [] w c w' → R (.bool true) w') (hno : ps.length ≤ 1000 → (∀ p ∈ ps, p.1.length ≤ 8000 ∧ p.2.length ≤ 8000) → ∀ w', Step c [] [] w c w' → R (.bool false) w') :
    CallV Try.prog 17 #[v] w R := by
  obtain ⟨o0, p0, rfl⟩ := LsV.form hr
  refine ref06_Great_vc ?_
  unfold ref06_Great_VC
  have hlen : ps.length ≤ 1000 ∨ 8000 < psum ps := by have := psum_len ps; omega
  have hpt : ∀ i, psum (ps.take i) ≤ psum ps := fun i => by
    have : psum ps = psum (ps.take i) + psum (ps.drop i) := by unfold psum; rw [← List.sum_append, ← List.map_append, List.take_append_drop]
    omega
  refine ⟨fun vs w' => ∃ i : Nat, i ≤ ps.length ∧ vs = [.int .i64 (psum (ps.take i) : Nat), .int .i64 i] ∧ Step c [] [] w c w' ∧ (∀ p ∈ ps.take i, p.1.length ≤ 8000 ∧ p.2.length ≤ 8000) ∧ psum (ps.take i) ≤ 8000 + 16008, fun vs _ => ((ps.length : Int) - nextI vs).toNat, ⟨0, by omega, by simp [psum], .refl .., by simp, by simp [psum]⟩, ?_⟩
  rintro _ w1 n3 n4 ⟨i, hi, e, st, hall, hb⟩
  simp only [List.cons.injEq, Value.int.injEq, true_and, and_true] at e
  obtain ⟨rfl, rfl⟩ := e
  have hi8 := psum_len (ps.take i)
  rw [List.length_take] at hi8
  refine BS.dec (fun hlt => ?_) (fun hge => ?_)
  · unfold ref06_Great_K1
    refine BS.dec (fun hsm => ?_) (fun hbig => by rw [decide_eq_true (by omega)]; exact hyes _ st)
    obtain ⟨p, hp⟩ := get_of_lt (l := ps) (i := i) (by omega)
    obtain ⟨es, ⟨vk, vv, rfl, h1, h2⟩, E⟩ := LsV.at (by omega) hr hp
    obtain ⟨o1, p1, rfl⟩ := h1.form
    obtain ⟨o2, p2, rfl⟩ := h2.form
    refine Req.bnd ⟨by omega, hlt⟩ (E.ld (k := 0) st.wv rfl (TSl.mk ?_))
    refine BS.dec (fun _ => hyes _ st) (fun g1 => ?_)
    refine Req.bnd ⟨by omega, hlt⟩ (E.ld (k := 1) st.wv rfl (TSl.mk ?_))
    unfold ref06_Great_K2
    refine BS.dec (fun _ => hyes _ st) (fun g2 => ?_)
    refine DrewC.col c fun w2 st2 => ?_
    have st := st.trans st2
    refine Req.bnd ⟨by omega, hlt⟩ (E.ld (k := 0) st.wv rfl (TSl.mk ?_))
    refine Req.bnd ⟨by omega, hlt⟩ (E.ld (k := 1) st.wv rfl (TSl.mk ?_))
    have ht := psum_take hp
    refine ⟨⟨i + 1, by omega, ?_, st, ?_, by omega⟩, ?_⟩
    · rw [wrap_i64 (n := (8 : Int) + (p.1.length : Nat)) (by omega) (by omega), wrap_i64 (n := (8 : Int) + (p.1.length : Nat) + (p.2.length : Nat)) (by omega) (by omega), wrap_i64 (n := (psum (ps.take i) : Int) + _) (by omega) (by omega), wrap_i64 (n := (i : Int) + 1) (by omega) (by omega), ht]
      congr 2
    · intro q hq
      rw [List.take_add_one, hp, Option.toList_some, List.mem_append, List.mem_singleton] at hq
      rcases hq with hq | rfl
      · exact hall q hq
      · omega
    · rw [wrap_i64 (n := (i : Int) + 1) (by omega) (by omega)]
      show ((ps.length : Int) - ((i : Int) + 1)).toNat < ((ps.length : Int) - i).toNat; omega
  · have : i = ps.length := by omega
    subst this
    rw [List.take_length] at *
    by_cases hgt : psum ps > 8000
    · rw [decide_eq_true (by omega)]; exact hyes _ st
    · rw [decide_eq_false (by omega)]
      exact hno (by omega) hall _ st

theorem SamePairs_c (c : Nat → Nat) {w : World} {v u : Value} {l m : List PairR} {R : Value → World → Prop} (h1 : PairsV (wv w) v l) (h2 : PairsV (wv w) u m) (hl : l.length ≤ 1099511627776)
    (h : ∀ w', Step c [] [] w c w' → R (.bool (decide (l = m))) w') : CallV Try.prog 35 #[v, u] w R := by
  obtain ⟨o1, cp1, rfl⟩ := LsV.form h1
  obtain ⟨o2, cp2, rfl⟩ := LsV.form h2
  refine ref06_SamePairs_vc ?_
  unfold ref06_SamePairs_VC
  refine BS.ne (fun hne => ?_) (fun heq => ?_)
  · have := h w (.refl ..)
    rwa [decide_eq_false (by rintro rfl; exact hne rfl)] at this
  have hlen : l.length = m.length := by omega
  refine LoopI.up l.length (fun i w' => Step c [] [] w c w' ∧ l.take i = m.take i) ⟨.refl .., by simp⟩ ?_
  rintro i w1 B hi ⟨st, heq⟩ back
  refine BS.dec (fun hlt => ?_) (fun hge => ?_)
  · refine DrewC.col c fun w2 st2 => ?_
    have st := st.trans st2
    obtain ⟨s, hs⟩ := get_of_lt (l := l) (i := i) (by omega)
    obtain ⟨t, ht⟩ := get_of_lt (l := m) (i := i) (by omega)
    obtain ⟨es, ⟨vk, vv, rfl, a1, a2⟩, E⟩ := LsV.at (by omega) h1 hs
    obtain ⟨fs, ⟨uk, uv, rfl, d1, d2⟩, F⟩ := LsV.at (by omega) h2 ht
    obtain ⟨_, _, rfl⟩ := a1.form
    obtain ⟨_, _, rfl⟩ := a2.form
    obtain ⟨_, _, rfl⟩ := d1.form
    obtain ⟨_, _, rfl⟩ := d2.form
    have no : s ≠ t → R (.bool false) w2 := fun hne => by
      have := h w2 st
      rwa [decide_eq_false (by rintro rfl; rw [hs] at ht; exact hne (by simpa using ht))] at this
    refine Req.bnd ⟨by omega, hlt⟩ (E.ld (k := 0) st.wv rfl (TSl.mk (string_rule strU8 (a1.mono st.wv) (TStr.mk ?_))))
    refine Req.bnd ⟨by omega, by omega⟩ (F.ld (k := 0) st.wv rfl (TSl.mk (string_rule strU8 (d1.mono st.wv) (TStr.mk ?_))))
    rw [strEq_of]
    refine BS.ndec (fun hne => no fun e => hne (by rw [e])) (fun e1 => ?_)
    refine Req.bnd ⟨by omega, hlt⟩ (E.ld (k := 1) st.wv rfl (TSl.mk (string_rule strU8 (a2.mono st.wv) (TStr.mk ?_))))
    refine Req.bnd ⟨by omega, by omega⟩ (F.ld (k := 1) st.wv rfl (TSl.mk (string_rule strU8 (d2.mono st.wv) (TStr.mk ?_))))
    rw [strEq_of]
    refine BS.ndec (fun hne => no fun e => hne (by rw [e])) (fun e2 => ?_)
    rw [wrap_i64 (by omega) (by omega)]
    refine back _ (by omega) ⟨st, ?_⟩
    have : s = t := Prod.ext e1 e2
    rw [List.take_add_one, List.take_add_one, heq, hs, ht, this]
  · have : i = l.length := by omega
    subst this
    rw [List.take_length, hlen, List.take_length] at heq
    have := h w1 st
    rwa [decide_eq_true heq] at this

/-- what Leaves keeps -/
structure LeafSt (w0 : World) (c : Nat → Nat) (w : World) (v : Value) (ps : List PairR) (a2 a3 a4 : Nat) (out : List Nat) (n s : Nat) : Prop where
  S : Fr w0 c w
  D : PairsV (view c 0 w) v ps
  o : ∃ o p, view c 1 w a2 = some (.cells #[.slice o out.length p] 26 (0, 0)) ∧ OwS (view c 4 w) (.slice o out.length p) 3 1 out.length (ivs out)
  b3 : view c 2 w a3 = some (.cells #[.int .i64 (n : Int)] 3 (0, 0))
  b4 : view c 3 w a4 = some (.cells #[.int .i64 (s : Int)] 3 (0, 0))
theorem LeafSt.go {w0 : World} {c c' : Nat → Nat} {w w' : World} {v : Value} {ps : List PairR} {a2 a3 a4 : Nat} {out : List Nat} {n s : Nat} (H : LeafSt w0 c w v ps a2 a3 a4 out n s) {W N : List Nat} (st : Step c W N w c' w')
    (hW : ∀ x ∈ W, x ∈ [5, 6, 7]) (hN : ∀ x ∈ N, x ∈ [0, 5, 6, 7]) : LeafSt w0 c' w' v ps a2 a3 a4 out n s := by
  obtain ⟨S, D, ⟨o, p, b2, ho⟩, b3, b4⟩ := H
  have hn : ∀ i, i ∈ [0, 1, 2, 3, 4] → i ∉ W := fun i hi hm => by
    have := hW i hm
    simp at this hi
    omega
  refine ⟨S.go st (fun x hx => ?_) (fun x hx => ?_), D.mono (st.sub (hn 0 (by decide))), ⟨o, p, st.sub (hn 1 (by decide)) _ _ b2, ho.mono (st.sub (hn 4 (by decide)))⟩, st.sub (hn 2 (by decide)) _ _ b3, st.sub (hn 3 (by decide)) _ _ b4⟩
  · have := hW x hx; simp at this ⊢; omega
  · have := hN x hx; simp at this ⊢; omega

theorem Leaves_end {w0 : World} {c : Nat → Nat} {w : World} {v : Value} {ps : List PairR} {a2 a3 a4 : Nat} {out : List Nat} {n s : Nat} {R : Value → World → Prop} (H : LeafSt w0 c w v ps a2 a3 a4 out n s) (hl : out.length ≤ 1099511627776)
    (h : ∀ c' w', Step c [1, 2, 3, 4] [1, 2, 3, 4, 5] w c' w' → LeafSt w0 c' w' v ps a2 a3 a4 (out ++ [n]) 0 0 → R (.tuple #[]) w') : CallV Try.prog 27 #[.pointer (some ⟨a2, 0, none⟩), .pointer (some ⟨a3, 0, none⟩), .pointer (some ⟨a4, 0, none⟩)] w R := by
  obtain ⟨S, D, ⟨o, p, b2, ho⟩, b3, b4⟩ := H
  refine shape_Leaves_1_vc ?_
  unfold shape_Leaves_1_VC
  refine LoadC.at (view_sub _ _ _) b2 rfl (TSl.mk ?_)
  refine LoadC.at (view_sub _ _ _) b3 rfl (TInt.mk ?_)
  refine AllocC.col c 5 fun x c1 w1 st1 b5 _ => ?_
  replace S := S.go st1.step (by decide) (by decide); replace D := D.mono (st1.step.sub (by decide)); replace b2 := st1.step.sub (by decide) _ _ b2; replace b3 := st1.step.sub (by decide) _ _ b3; replace b4 := st1.step.sub (by decide) _ _ b4; replace ho := ho.mono (st1.step.sub (by decide))
  refine app_ints slInt ho (m := [n]) ((RdS.block (xs := ivs [n]) b5 rfl (Nat.le_refl _)).mono (view_sub _ _ _)) (by simp; omega) fun o2 p2 c2 w2 st2 ho => ?_
  replace S := S.go st2.step (by decide) (by decide); replace D := D.mono (st2.step.sub (by decide)); replace b2 := st2.step.sub (by decide) _ _ b2; replace b3 := st2.step.sub (by decide) _ _ b3; replace b4 := st2.step.sub (by decide) _ _ b4
  refine TSl.mk ?_
  refine StoreC.col b2 (by simp) fun w3 st3 _ b2 => ?_
  replace S := S.go st3.step (by decide) (by decide); replace D := D.mono (st3.step.sub (by decide)); replace b3 := st3.step.sub (by decide) _ _ b3; replace b4 := st3.step.sub (by decide) _ _ b4; replace ho := ho.mono (st3.step.sub (by decide))
  refine StoreC.col b3 (by simp) fun w4 st4 _ b3 => ?_
  replace S := S.go st4.step (by decide) (by decide); replace D := D.mono (st4.step.sub (by decide)); replace b2 := st4.step.sub (by decide) _ _ b2; replace b4 := st4.step.sub (by decide) _ _ b4; replace ho := ho.mono (st4.step.sub (by decide))
  refine StoreC.col b4 (by simp) fun w5 st5 _ b4 => ?_
  replace S := S.go st5.step (by decide) (by decide); replace D := D.mono (st5.step.sub (by decide)); replace b2 := st5.step.sub (by decide) _ _ b2; replace b3 := st5.step.sub (by decide) _ _ b3; replace ho := ho.mono (st5.step.sub (by decide))
  exact h c2 w5 (((((st1.fresh.and st2.step).and st3.step).and st4.step).and st5.step).weak (by decide) (by decide)) ⟨S, D, ⟨o2, p2, b2, ho⟩, b3, b4⟩

theorem Leaves_c (c : Nat → Nat) (j : Nat) {w : World} {v : Value} {ps : List PairR} {R : Value → World → Prop} (hr : PairsV (wv w) v ps) (hl : ps.length ≤ 1000) (hk : ∀ p ∈ ps, p.1.length ≤ 8000 ∧ p.2.length ≤ 8000)
    (h : ∀ v c' w', Step c [] [j] w c' w' → OwS (view c' j w') v 3 1 (leaves ps).length (ivs (leaves ps)) → R v w') : CallV Try.prog 18 #[v] w R := by
  obtain ⟨o0, p0, rfl⟩ := LsV.form hr
  have D : PairsV (view (fun _ => 0) 0 w) (.slice o0 ps.length p0) ps := by rw [view0]; exact hr
  have S := Fr.start w
  have hlv : (lv 0 0 ps).length ≤ ps.length := by
    have h1 := lv_sum ps
    have h2 : ∀ n ∈ lv 0 0 ps, 1 ≤ n := by
      intro n hn
      obtain ⟨i, hi⟩ := List.getElem?_of_mem hn
      have hlt := lt_of_get hi
      have h3 := (lv_drop ps i (by omega)).2
      have h4 : (lv 0 0 ps).drop i = n :: (lv 0 0 ps).drop (i + 1) := by rw [List.drop_eq_getElem?_toList_append, hi]; rfl
      rw [h3] at h4
      exact (lv_cons h4 (by omega) (by omega)).2.1
    have h3 : ∀ l : List Nat, (∀ n ∈ l, 1 ≤ n) → l.length ≤ l.sum := by
      intro l
      induction l with
      | nil => simp
      | cons x l ih => intro hx; have := ih (fun n hn => hx n (by simp [hn])); have := hx x (by simp); simp; omega
    have := h3 _ h2
    omega
  refine shape_Leaves_vc ?_
  unfold shape_Leaves_VC
  refine AllocC.col (fun _ => 0) 1 fun a2 c1 w1 st1 b2 _ => ?_
  replace S := S.go st1.step (by decide) (by decide); replace D := D.mono (st1.step.sub (by decide))
  refine AllocC.col c1 2 fun a3 c2 w2 st2 b3 _ => ?_
  replace S := S.go st2.step (by decide) (by decide); replace D := D.mono (st2.step.sub (by decide)); replace b2 := st2.step.sub (by decide) _ _ b2
  refine AllocC.col c2 3 fun a4 c3 w3 st3 b4 _ => ?_
  replace S := S.go st3.step (by decide) (by decide); replace D := D.mono (st3.step.sub (by decide)); replace b2 := st3.step.sub (by decide) _ _ b2; replace b3 := st3.step.sub (by decide) _ _ b3
  refine StoreC.col b3 (by simp) fun w4 st4 _ b3 => ?_
  replace S := S.go st4.step (by decide) (by decide); replace D := D.mono (st4.step.sub (by decide)); replace b2 := st4.step.sub (by decide) _ _ b2; replace b4 := st4.step.sub (by decide) _ _ b4
  refine StoreC.col b4 (by simp) fun w5 st5 _ b4 => ?_
  replace S := S.go st5.step (by decide) (by decide); replace D := D.mono (st5.step.sub (by decide)); replace b2 := st5.step.sub (by decide) _ _ b2; replace b3 := st5.step.sub (by decide) _ _ b3
  have H : LeafSt w c3 w5 (.slice o0 ps.length p0) ps a2 a3 a4 [] 0 0 := ⟨S, D, ⟨none, 0, b2, OwS.nil ..⟩, b3, b4⟩
  refine LoopI.up ps.length (fun i w' => ∃ c' out n s, LeafSt w c' w' (.slice o0 ps.length p0) ps a2 a3 a4 out n s ∧ out ++ lv n s (ps.drop i) = lv 0 0 ps ∧ n ≤ i ∧ s ≤ i * 16004) ⟨c3, [], 0, 0, H, rfl, by omega, by omega⟩ ?_
  rintro i w6 B hi ⟨c6, out, n, s, H, hinv, hn, hs⟩ back
  have hout := congrArg List.length hinv
  rw [List.length_append] at hout
  refine BS.dec (fun hlt => ?_) (fun hge => ?_)
  · obtain ⟨p, hp⟩ := get_of_lt (l := ps) (i := i) (by omega)
    have hkl := hk p (List.mem_of_getElem? hp)
    have hd : ps.drop i = p :: ps.drop (i + 1) := by rw [List.drop_eq_getElem?_toList_append, hp]; rfl
    obtain ⟨es, ⟨vk, vv, rfl, r1, r2⟩, E⟩ := LsV.at (by omega) H.D hp
    obtain ⟨o1, p1, rfl⟩ := r1.form
    obtain ⟨o2, p2, rfl⟩ := r2.form
    refine Req.bnd ⟨by omega, hlt⟩ (E.all (view_sub _ _ _) ?_)
    refine AllocC.col c6 5 fun a7 c7 w7 st7 b7 _ => ?_
    replace H := H.go st7.step (by decide) (by decide)
    replace r1 := r1.mono (st7.step.sub (by decide))
    refine RunU.var b7 (by kernel_rfl) rfl (by first | (simp [Value.oneCell']; done) | (simp [Value.oneCell', OpR.cells, sv]; done) | (simp [Value.oneCell', AnsR.cells, sv]; done) | rfl) fun w8 st8 b7 => ?_
    replace H := H.go st8.step (by decide) (by decide)
    replace r1 := r1.mono (st8.step.sub (by decide))
    (repeat (first | refine TInt.mk ?_ | refine TBool.mk ?_ | refine TStr.mk ?_ | refine TSl.mk ?_ | refine TPtr.mk ?_ | refine TAgg.mk ?_ | refine T2.mk ?_ | refine T3.mk ?_ | refine TSome.mk ?_ | refine LoadC.ad (view_sub _ _ _) _ (by assumption) rfl ?_))
    have eo : IntKind.wrap .i64 (IntKind.wrap .i64 ((4 : Int) + ((p.1.length : Nat) : Int)) + ((p.2.length : Nat) : Int)) = ((own p : Nat) : Int) := by
      rw [wrap_i64 (n := (4 : Int) + ((p.1.length : Nat) : Int)) (by omega) (by omega), wrap_i64 (by omega) (by omega)]; unfold own; omega
    rw [eo]
    have hown : own p ≤ 16004 := by unfold own; omega
    have k2 : ∀ c' w' out n s, LeafSt w c' w' (.slice o0 ps.length p0) ps a2 a3 a4 out n s → view c' 5 w' a7 = some (.cells #[.slice o1 p.1.length p1, .slice o2 p.2.length p2] 35 (0, 0)) → RdS (view c' 0 w') (.slice o1 p.1.length p1) 1 p.1.length (bvs p.1) →
        n ≤ i → s ≤ i * 16004 → out.length ≤ ps.length → (if gmark p.1 0 then out ++ (n + 1) :: lv 0 0 (ps.drop (i + 1)) else out ++ lv (n + 1) (s + own p) (ps.drop (i + 1))) = lv 0 0 ps →
        shape_Leaves_K2 ⟨a2, 0, none⟩ ⟨a3, 0, none⟩ ⟨a4, 0, none⟩ ⟨a2, 0, none⟩ ⟨a3, 0, none⟩ ⟨a4, 0, none⟩ ⟨a7, 0, none⟩ ((own p : Nat) : Int) o0 ps.length p0 ((ps.length : Nat) : Int) (i : Int) B w' R := by
      intro c' w' out n s H b7 r1 hn hs hol hinv
      obtain ⟨S, D, ⟨o, p', b2, ho⟩, b3, b4⟩ := H
      unfold shape_Leaves_K2
      refine LoadC.at (view_sub _ _ _) b3 rfl (TInt.mk ?_)
      refine StoreC.col b3 (by simp) fun w9 st9 _ b3 => ?_
      replace S := S.go st9.step (by decide) (by decide); replace D := D.mono (st9.step.sub (by decide)); replace b2 := st9.step.sub (by decide) _ _ b2; replace b4 := st9.step.sub (by decide) _ _ b4; replace b7 := st9.step.sub (by decide) _ _ b7; replace ho := ho.mono (st9.step.sub (by decide)); replace r1 := r1.mono (st9.step.sub (by decide))
      refine LoadC.at (view_sub _ _ _) b4 rfl (TInt.mk ?_)
      refine StoreC.col b4 (by simp) fun w10 st10 _ b4 => ?_
      replace S := S.go st10.step (by decide) (by decide); replace D := D.mono (st10.step.sub (by decide)); replace b2 := st10.step.sub (by decide) _ _ b2; replace b3 := st10.step.sub (by decide) _ _ b3; replace b7 := st10.step.sub (by decide) _ _ b7; replace ho := ho.mono (st10.step.sub (by decide)); replace r1 := r1.mono (st10.step.sub (by decide))
      (repeat (first | refine TInt.mk ?_ | refine TBool.mk ?_ | refine TStr.mk ?_ | refine TSl.mk ?_ | refine TPtr.mk ?_ | refine TAgg.mk ?_ | refine T2.mk ?_ | refine T3.mk ?_ | refine TSome.mk ?_ | refine LoadC.ad (view_sub _ _ _) _ (by assumption) rfl ?_))
      refine Mark_c (r1.mono (view_sub _ _ _)) (by omega) (TBool.mk ?_)
      have H : LeafSt w c' w10 (.slice o0 ps.length p0) ps a2 a3 a4 out (n + 1) (s + own p) := ⟨S, D, ⟨o, p', b2, ho⟩, by rw [wrap_i64 (by omega) (by omega)] at b3; exact b3, by rw [wrap_i64 (by omega) (by omega)] at b4; exact b4⟩
      rw [wrap_i64 (n := (i : Int) + 1) (by omega) (by omega)]
      refine BS.mk (fun hm => ?_) (fun hm => ?_)
      · rw [if_pos hm] at hinv
        refine Leaves_end H (by omega) fun c11 w11 st11 H => ?_
        exact back _ (by omega) ⟨c11, _, _, _, H, by rw [← hinv]; simp, by omega, by omega⟩
      · rw [if_neg (by rw [hm]; simp)] at hinv
        exact back _ (by omega) ⟨c', _, _, _, H, hinv, by omega, by omega⟩
    rw [hd, lv] at hinv
    have k1 : ∀ b : Bool, (b = true ↔ (n > 0 ∧ s + own p > 200)) → shape_Leaves_K1 ⟨a2, 0, none⟩ ⟨a3, 0, none⟩ ⟨a4, 0, none⟩ ⟨a2, 0, none⟩ ⟨a3, 0, none⟩ ⟨a4, 0, none⟩ ⟨a7, 0, none⟩ ((own p : Nat) : Int) o0 ps.length p0 ((ps.length : Nat) : Int) (i : Int) b B w8 R := by
      intro b hb
      unfold shape_Leaves_K1
      refine BS.mk (fun e => ?_) (fun e => ?_)
      · subst e
        rw [if_pos (hb.1 rfl)] at hinv
        refine Leaves_end H (by omega) fun c11 w11 st11 H' => ?_
        have hlen : (out ++ [n]).length ≤ ps.length := by
          have := congrArg List.length hinv
          rw [List.length_append, List.length_cons] at this
          rw [List.length_append, List.length_singleton]; omega
        refine k2 _ _ _ 0 0 H' (st11.sub (by decide) _ _ b7) (r1.mono (st11.sub (by decide))) (by omega) (by omega) hlen ?_
        rw [← hinv, Nat.zero_add, Nat.zero_add]; split <;> simp
      · subst e
        rw [if_neg (fun hh => by simpa using hb.2 hh)] at hinv
        refine k2 _ _ _ _ _ H b7 r1 hn hs (by omega) ?_
        rw [← hinv]; split <;> rfl
    obtain ⟨S, D, ⟨o, p', b2, ho⟩, b3, b4⟩ := id H
    refine LoadC.at (view_sub _ _ _) b3 rfl (TInt.mk ?_)
    refine BS.dec (fun g => ?_) (fun g => k1 _ (by simp; omega))
    refine LoadC.at (view_sub _ _ _) b4 rfl (TInt.mk ?_)
    rw [wrap_i64 (n := (s : Int) + (own p : Nat)) (by omega) (by omega)]
    refine k1 _ ?_
    simp only [decide_eq_true_eq]
    omega
  · have : i = ps.length := by omega
    subst this
    rw [List.drop_length, lv] at hinv
    have kfin : ∀ c' w' out n s, LeafSt w c' w' (.slice o0 ps.length p0) ps a2 a3 a4 out n s → out = leaves ps → shape_Leaves_K4 ⟨a2, 0, none⟩ w' R := by
      intro c' w' out n s H e
      obtain ⟨S, D, ⟨o, p', b2, ho⟩, b3, b4⟩ := H
      subst e
      unfold shape_Leaves_K4
      refine LoadC.at (view_sub _ _ _) b2 rfl (TSl.mk ?_)
      refine StoreC.col b2 (by simp) fun w9 st9 _ b2 => ?_
      replace S := S.go st9.step (by decide) (by decide); replace D := D.mono (st9.step.sub (by decide)); replace ho := ho.mono (st9.step.sub (by decide))
      refine LoadC.at (view_sub _ _ _) b2 rfl (TSl.mk ?_)
      exact h _ _ _ (S.leave c j) (ho.mono (S.out c j (by omega)))
    obtain ⟨S, D, ⟨o, p', b2, ho⟩, b3, b4⟩ := id H
    refine LoadC.at (view_sub _ _ _) b3 rfl (TInt.mk ?_)
    unfold shape_Leaves_K3
    refine BS.dec (fun g => ?_) (fun g => ?_)
    · rw [if_pos (by omega)] at hinv
      have hne : ps ≠ [] := by rintro rfl; simp at hn; omega
      refine BS.yes rfl (Leaves_end H (by omega) fun c11 w11 st11 H => kfin _ _ _ _ _ H ?_)
      rw [hinv, leaves, if_neg hne]
    · rw [if_neg (by omega), List.append_nil] at hinv
      refine LoadC.at (view_sub _ _ _) b2 rfl (TSl.mk ?_)
      refine BS.eq (fun e => ?_) (fun e => ?_)
      · have ho0 : out = [] := List.eq_nil_of_length_eq_zero (by omega)
        subst ho0
        have hps : ps = [] := by
          by_cases hps : ps = []
          · exact hps
          · exact absurd hinv.symm (lv_ne ps hps)
        refine Leaves_end H (by simp) fun c11 w11 st11 H => kfin _ _ _ _ _ H ?_
        rw [leaves, if_pos hps, show n = 0 by omega]; rfl
      · refine kfin _ _ _ _ _ H ?_
        have hps : ps ≠ [] := by rintro rfl; rw [hinv] at e; simp [lv] at e
        rw [hinv, leaves, if_neg hps]

theorem CopyPairs_c (c : Nat → Nat) (j : Nat) {w : World} {v : Value} {ps : List PairR} {R : Value → World → Prop} (hr : PairsV (wv w) v ps) (hl : ps.length ≤ 1000) (hk : ∀ p ∈ ps, p.1.length ≤ 8000 ∧ p.2.length ≤ 8000)
    (h : ∀ v c' w', Step c [] [j] w c' w' → PairsV (view c' j w') v ps → R v w') : CallV Try.prog 28 #[v] w R := by
  obtain ⟨o0, p0, rfl⟩ := LsV.form hr
  have D : PairsV (view (fun _ => 0) 0 w) (.slice o0 ps.length p0) ps := by rw [view0]; exact hr
  have S := Fr.start w
  refine ref06_CopyPairs_vc ?_
  unfold ref06_CopyPairs_VC
  refine AllocC.col (fun _ => 0) 1 fun a c1 w1 st1 b1 _ => ?_
  replace S := S.go st1.step (by decide) (by decide); replace D := D.mono (st1.step.sub (by decide))
  refine LoopSI.up ps.length (fun i o l p w' => ∃ c', Fr w c' w' ∧ PairsV (view c' 0 w') (.slice o0 ps.length p0) ps ∧ LsO PairP 35 2 (view c' 1 w') (views c' [2, 3] w') (.slice o l p) (ps.take i)) ⟨c1, S, D, LsO.empty b1⟩ ?_
  rintro i o l p w2 B hi ⟨c2, S, D, ho⟩ back
  refine BS.dec (fun hlt => ?_) (fun hge => ?_)
  · refine DrewC.col c2 fun w3 st3 => ?_
    replace S := S.go st3 (by decide) (by decide); replace D := D.mono (st3.sub (by decide))
    replace ho := ho.mono' (fun _ _ hp => hp.mono (st3.subs (by decide))) (st3.sub (by decide))
    obtain ⟨q, hq⟩ := get_of_lt (l := ps) (i := i) (by omega)
    have hkl := hk q (List.mem_of_getElem? hq)
    obtain ⟨es, ⟨vk, vv, rfl, r1, r2⟩, E⟩ := LsV.at (by omega) D hq
    obtain ⟨o1, p1, rfl⟩ := r1.form
    obtain ⟨o2, p2, rfl⟩ := r2.form
    obtain ⟨ad, rfl, hc⟩ := E.adr (by omega)
    have H := Sub.refl (view c2 0 w3)
    refine Req.bnd ⟨by omega, hlt⟩ (TSome.mk (LoadC.mk (hc (H.trans (view_sub _ _ _)) (k := 0) rfl) (TSl.mk ?_)))
    refine Req.bnd ⟨by omega, hlt⟩ (TSome.mk (LoadC.mk (hc (H.trans (view_sub _ _ _)) (k := 1) rfl) (TSl.mk ?_)))
    have sc : ∀ {c' w'} {k : Nat} {u : Value}, Sub (view c2 0 w3) (view c' 0 w') → ([Value.slice o1 q.1.length p1, Value.slice o2 q.2.length p2] : List Value)[k]? = some u → StableC w' ((ad.add ((i : Int).toNat * 2)).add k) u := fun hs hu => .mk (hc (hs.trans (view_sub _ _ _)) hu)
    have k2 : ∀ c4 w4 v1 v2, Step c2 [] [2, 3] w3 c4 w4 → OwS (view c4 2 w4) v1 5 1 q.1.length (bvs q.1) → OwS (view c4 3 w4) v2 5 1 q.2.length (bvs q.2) →
        AllocC w4 (.cells #[v1, v2] 35) fun a28 w8 => RunV Try.prog (Builtin.append_ #[30, 30] 30 #[.slice o l p, .slice (some ⟨a28, 0, none⟩) 1 1]) w8 fun v29 w9 => TSl v29 fun o29 l29 c29 => B [.slice o29 l29 c29, .int .i64 (IntKind.wrap .i64 ((i : Int) + (1 : Int)))] w9 := by
      intro c4 w4 v1 v2 st4 h1 h2
      have S := S.go st4 (by decide) (by decide)
      have D := D.mono (st4.sub (by decide))
      have ho := ho.mono' (fun _ _ hp => hp.mono (st4.subs (by decide))) (st4.sub (by decide))
      refine AllocC.col c4 4 fun y c5 w5 st5 b5 _ => ?_
      replace S := S.go st5.step (by decide) (by decide); replace D := D.mono (st5.step.sub (by decide)); replace h1 := h1.mono (st5.step.sub (by decide)); replace h2 := h2.mono (st5.step.sub (by decide))
      replace ho := ho.mono' (fun _ _ hp => hp.mono (st5.step.subs (by decide))) (st5.step.sub (by decide))
      refine LsO.app slPair ho (m := [q]) (LsW.one (view_sub _ _ _ _ _ b5) rfl ⟨v1, v2, rfl, h1.rd.mono (view_views (by decide)), h2.rd.mono (view_views (by decide))⟩) (fun _ _ hp => hp.ones) (by simp; omega) (by simp; omega) fun o6 p6 c6 w6 st6 ho => ?_
      replace S := S.go st6.step (by decide) (by decide); replace D := D.mono (st6.step.sub (by decide))
      refine TSl.mk ?_
      rw [wrap_i64 (by omega) (by omega)]
      refine back _ _ _ _ (by omega) ⟨c6, S, D, ?_⟩
      have e : ps.take (i + 1) = ps.take i ++ [q] := by rw [List.take_add_one, hq]; rfl
      rw [e]
      exact ho.mono' (fun _ _ hp => hp.mono (st6.step.subs (by decide))) (Sub.refl _)
    have T := Step.refl c2 [] [2, 3] w3
    have rd1 : ∀ {c' w'}, Step c2 [] [2, 3] w3 c' w' → RdS (wv w') (.slice o1 q.1.length p1) 1 q.1.length (bvs q.1) := fun T => r1.mono ((T.sub (by decide)).trans (view_sub _ _ _))
    have rd2 : ∀ {c' w'}, Step c2 [] [2, 3] w3 c' w' → RdS (wv w') (.slice o2 q.2.length p2) 1 q.2.length (bvs q.2) := fun T => r2.mono ((T.sub (by decide)).trans (view_sub _ _ _))
    have st0 : ∀ {c' w'}, Step c2 [] [2, 3] w3 c' w' → StableC w' ((ad.add ((i : Int).toNat * 2)).add 0) (.slice o1 q.1.length p1) := fun T => sc (k := 0) (T.sub (by decide)) rfl
    have st1 : ∀ {c' w'}, Step c2 [] [2, 3] w3 c' w' → StableC w' ((ad.add ((i : Int).toNat * 2)).add 1) (.slice o2 q.2.length p2) := fun T => sc (k := 1) (T.sub (by decide)) rfl
    refine ⟨?_, ?_⟩
    · refine AllocC.col c2 2 fun x c4 w4 st4 b4 n4 => ?_
      have T4 : Step c2 [] [2, 3] w3 c4 w4 := st4.fresh.weak (by decide) (by decide)
      have hx := size_le_of_none n4
      refine ⟨st0 T4, st1 T4, ?_, ?_⟩
      · refine app_bytes slU8 (OwS.some_bytes b4) (rd1 T4) (by simp; omega) fun o5 p5 c5 w5 st5 h1 => ?_
        have T5 := Wr.step0 T4 (by decide) st5 hx
        rw [List.nil_append] at h1 ⊢
        refine TSl.mk ⟨st1 T5, ?_⟩
        refine AllocC.col c5 3 fun y c6 w6 st6 b6 n6 => ?_
        have T6 : Step c2 [] [2, 3] w3 c6 w6 := T5.trans (st6.fresh.weak (by decide) (by decide))
        have hy := Nat.le_trans T5.size (size_le_of_none n6)
        refine ⟨st0 T6, st1 T6, ?_⟩
        refine app_bytes slU8 (OwS.some_bytes b6) (rd2 T6) (by simp; omega) fun o7 p7 c7 w7 st7 h2 => ?_
        have T7 := Wr.step0 T6 (by decide) st7 hy
        rw [List.nil_append] at h2 ⊢
        exact TSl.mk (k2 _ _ _ _ T7 ((h1.mono (st6.step.sub (by decide))).mono (st7.step.sub (by decide))) h2)
      · refine AllocC.col c4 3 fun y c6 w6 st6 b6 n6 => ?_
        have T6 : Step c2 [] [2, 3] w3 c6 w6 := T4.trans (st6.fresh.weak (by decide) (by decide))
        have hy := Nat.le_trans T4.size (size_le_of_none n6)
        refine ⟨st0 T6, st1 T6, ?_⟩
        refine app_bytes slU8 (OwS.some_bytes (st6.step.sub (by decide) _ _ b4)) (rd1 T6) (by simp; omega) fun o5 p5 c5 w5 st5 h1 => ?_
        have T5 := Wr.step0 T6 (by decide) st5 hx
        rw [List.nil_append] at h1 ⊢
        refine TSl.mk ⟨st1 T5, ?_⟩
        refine app_bytes slU8 (OwS.some_bytes (st5.step.sub (by decide) _ _ b6)) (rd2 T5) (by simp; omega) fun o7 p7 c7 w7 st7 h2 => ?_
        have T7 := Wr.step0 T5 (by decide) st7 hy
        rw [List.nil_append] at h2 ⊢
        exact TSl.mk (k2 _ _ _ _ T7 (h1.mono (st7.step.sub (by decide))) h2)
    · refine AllocC.col c2 3 fun y c6 w6 st6 b6 n6 => ?_
      have T6 : Step c2 [] [2, 3] w3 c6 w6 := st6.fresh.weak (by decide) (by decide)
      have hy := size_le_of_none n6
      refine ⟨st0 T6, st1 T6, ?_⟩
      refine AllocC.col c6 2 fun x c4 w4 st4 b4 n4 => ?_
      have T4 : Step c2 [] [2, 3] w3 c4 w4 := T6.trans (st4.fresh.weak (by decide) (by decide))
      have hx := Nat.le_trans T6.size (size_le_of_none n4)
      refine ⟨st0 T4, st1 T4, ?_⟩
      refine app_bytes slU8 (OwS.some_bytes b4) (rd1 T4) (by simp; omega) fun o5 p5 c5 w5 st5 h1 => ?_
      have T5 := Wr.step0 T4 (by decide) st5 hx
      rw [List.nil_append] at h1 ⊢
      refine TSl.mk ⟨st1 T5, ?_⟩
      refine app_bytes slU8 (OwS.some_bytes (st5.step.sub (by decide) _ _ (st4.step.sub (by decide) _ _ b6))) (rd2 T5) (by simp; omega) fun o7 p7 c7 w7 st7 h2 => ?_
      have T7 := Wr.step0 T5 (by decide) st7 hy
      rw [List.nil_append] at h2 ⊢
      exact TSl.mk (k2 _ _ _ _ T7 (h1.mono (st7.step.sub (by decide))) h2)
  · have : i = ps.length := by omega
    subst this
    rw [List.take_length] at ho
    have := ho.len
    subst this
    exact h _ _ _ (S.leave c j) (ho.rd (fun _ _ hp => hp.mono (S.outs c j (by decide))) (S.out c j (by omega)))
end Go.Proofs.Ythkboikbpbcdeaa

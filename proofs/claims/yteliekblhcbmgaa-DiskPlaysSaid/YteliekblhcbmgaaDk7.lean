/-
  Chapter 01's statements: what their own small functions do.
-/
import Derived.Test.YteliekblhcbmgaaDk6
import Derived.Test.YteliekblhcbmgaaArgs2
set_option linter.unusedVariables false
set_option linter.unusedSimpArgs false
namespace Go.Vc
open Go Go.ChangeShapes Go.WideShapes Go.ChangeAt Go.RowKit
/-- the frame of these statements: more colours -/
abbrev Fw (w0 : World) (c : Nat → Nat) (w : World) : Prop := Step (fun _ => 0) (List.range' 1 39) (List.range 40) w0 c w
theorem Fw.start (w : World) : Fw w (fun _ => 0) w := .refl ..
theorem Fw.go {w0 : World} {c c' : Nat → Nat} {w w' : World} {W N : List Nat} (S : Fw w0 c w) (st : Step c W N w c' w') (hW : ∀ x ∈ W, x ∈ List.range' 1 39) (hN : ∀ x ∈ N, x ∈ List.range 40) : Fw w0 c' w' :=
  S.trans (st.weak hW hN)
theorem Fw.below {w0 : World} {c : Nat → Nat} {w : World} (S : Fw w0 c w) : Below w0.heap.size w0 w := Step.below S fun _ => by simp [List.mem_range'_1]
theorem Fw.leave {w0 : World} {c : Nat → Nat} {w : World} (S : Fw w0 c w) (c0 : Nat → Nat) (j : Nat) : Step c0 [] [j] w0 (ext c0 w0.heap.size j) w :=
  ⟨S.os, S.tape, S.output, S.size, fun b hb => ext_old hb, fun b h1 _ => by rw [ext_new h1]; simp, fun b hb _ => S.keep b hb (by simp [List.mem_range'_1])⟩
theorem LoopI.shift {w : World} {s : Int} (n : Nat) (Inv : Nat → World → Prop) {F : (List Value → World → Prop) → Int → World → Prop} (h0 : Inv 0 w)
    (hs : ∀ i w1 B, i ≤ n → Inv i w1 → (∀ w2, i < n → Inv (i + 1) w2 → B [.int .i64 (s + (i : Int) + 1)] w2) → F B (s + (i : Int)) w1) : LoopI s w F := by
  refine ⟨fun vs w' => ∃ i : Nat, i ≤ n ∧ vs = [.int .i64 (s + (i : Int))] ∧ Inv i w', fun vs _ => match vs with | [.int _ x] => (s + n - x).toNat | _ => 0, ⟨0, Nat.zero_le _, by simp, h0⟩, ?_⟩
  rintro _ w1 x ⟨i, hi, e, hI⟩
  simp only [List.cons.injEq, Value.int.injEq, true_and, and_true] at e
  subst e
  refine hs i w1 _ hi hI fun w2 hlt hI2 => ⟨⟨i + 1, hlt, by simp; omega, hI2⟩, ?_⟩
  show (s + n - (s + (i : Int) + 1)).toNat < (s + n - (s + (i : Int))).toNat
  omega
theorem storeBd {c : Nat → Nat} {i : Nat} {w : World} {b k : Nat} {l : List UInt8} {T : Nat} {x : UInt8} {C : World → Prop} (hb : view c i w b = some (.cells (bvs l).toArray T (0, 0))) (hk : k < l.length)
    (h : ∀ w', Wr c i w c w' (some b) → Step c [i] [] w c w' → view c i w' b = some (.cells (bvs (l.set k x)).toArray T (0, 0)) → C w') : StoreC w ((⟨b, 0, none⟩ : Addr).add k) (.int .u8 (x.toNat : Int)) C :=
  StoreC.ad hb (by simpa using hk) fun w' h1 h2 h3 => h w' h1 h2 (by
    rw [toArray_set] at h3
    rw [show bvs (l.set k x) = (bvs l).set k (.int .u8 (x.toNat : Int)) by unfold bvs; rw [List.map_set]; rfl]
    exact h3)
/-- one call of a script -/
structure OpK where
  kind : Int
  at' : Int
  data : List UInt8
  raw : Bool
  fates : List Int
def OpK.vals (o : OpK) (v u : Value) : List Value := [.int .i64 o.kind, .int .i64 o.at', v, .bool o.raw, u]
def OpKP (h : View) (o : OpK) (es : List Value) : Prop := ∃ v u, es = o.vals v u ∧ RdS h v 1 o.data.length (bvs o.data) ∧ RdS h u 1 o.fates.length (jvs o.fates) ∧ i64ok o.kind ∧ i64ok o.at' ∧ ∀ f ∈ o.fates, i64ok f
theorem OpKP.mono {h h' : View} {o : OpK} {es : List Value} (hp : OpKP h o es) (hs : Sub h h') : OpKP h' o es := by
  obtain ⟨v, u, e, h1, h2, r⟩ := hp; exact ⟨v, u, e, h1.mono hs, h2.mono hs, r⟩
def ScrK (h : View) (v : Value) (l : List OpK) : Prop := LsV OpKP 5 h v l
theorem ScrK.mono {h h' : View} {v : Value} {l : List OpK} (hl : ScrK h v l) (hs : Sub h h') : ScrK h' v l := LsV.mono' (fun _ _ hp => hp.mono hs) hl hs
/-- the bytes that a call writes -/
def cyc (d : List UInt8) : List UInt8 := (List.range 512).map fun i => d.getD (i % d.length) 0
def bytesK (raw : Bool) (d : List UInt8) : List UInt8 := if raw then d else if d = [] then zero512 else cyc d
theorem cyc_len (d : List UInt8) : (cyc d).length = 512 := by simp [cyc]
theorem bytesK_len {d : List UInt8} : (bytesK false d).length = 512 := by
  unfold bytesK
  rw [if_neg (by simp)]
  split
  · exact zero512_len
  · exact cyc_len d
end Go.Vc
namespace Go.Proofs.Yteliekblhcbmgaa
open Go.Vc Go.ChangeShapes Go.WideShapes Go.ChangeAt Go.RowKit
attribute [local irreducible] TInt TBool TStr TPtr TSl TAgg TMap TChan T2 T3 T4 BS Req TSome TCell TByte LoadC LoadA StoreC AllocC RunV RunU CallV ExtV EqA StableC StableA StableV TCells ReadV
attribute [local irreducible] DrewC

theorem bytes_c (c : Nat → Nat) (j : Nat) {w : World} {o : OpK} {v u : Value} {R : Value → World → Prop} (hv : RdS (wv w) v 1 o.data.length (bvs o.data)) (hu : u.oneCell' = true) (hd : o.raw = true → o.data.length ≤ 100000)
    (h : ∀ r c' w', Step c [] [j] w c' w' → OwS (view c' j w') r 5 1 (bytesK o.raw o.data).length (bvs (bytesK o.raw o.data)) → R r w') : CallV Try.prog 13 #[.agg (o.vals v u).toArray] w R := by
  obtain ⟨ov, cv, rfl⟩ := hv.form
  have V : RdS (view (fun _ => 0) 0 w) (.slice ov o.data.length cv) 1 o.data.length (bvs o.data) := by rw [view0]; exact hv
  have S := Fr.start w
  refine law01_bytes_vc ?_
  unfold law01_bytes_VC
  refine AllocC.col (fun _ => 0) 1 fun a1 c1 w1 st1 b1 _ => ?_
  replace S := S.go st1.step (by decide) (by decide); replace V := V.mono (st1.step.sub (by decide))
  refine LoadC.ad (view_sub _ _ _) _ b1 rfl (TBool.mk ?_)
  cases hr : o.raw
  · refine BS.no rfl ?_
    refine make_col (n := 512) (l := 512) Try.underlying30 zU8b c1 2 (Nat.le_refl _) (by omega) (by omega) fun y c2 w2 st2 b2 _ => TSl.mk ?_
    replace S := S.go st2.step (by decide) (by decide); replace V := V.mono (st2.step.sub (by decide)); replace b1 := st2.step.sub (by decide) _ _ b1
    rw [made_zero] at b2
    have hAB : (cyc o.data).length = zero512.length := by rw [cyc_len, zero512_len]
    refine LoopI.up 512 (fun i w' => Fr w c2 w' ∧ RdS (view c2 0 w') (.slice ov o.data.length cv) 1 o.data.length (bvs o.data) ∧ view c2 1 w' a1 = some (.cells (o.vals (.slice ov o.data.length cv) u).toArray 32 (0, 0)) ∧
      view c2 2 w' y = some (.cells (bvs (upto (cyc o.data) zero512 i)).toArray 5 (0, 0)) ∧ (o.data = [] → i = 0)) ⟨S, V, b1, by rw [upto_zero]; exact b2, fun _ => rfl⟩ ?_
    clear S V b1 b2
    rintro i w3 B hi ⟨S, V, b1, b2, hz⟩ back
    have fin : ∀ l : List UInt8, upto (cyc o.data) zero512 i = l → l = bytesK o.raw o.data → R (.slice (some ⟨y, 0, none⟩) 512 512) w3 := fun l e1 e2 => by
      have hl512 : (bytesK o.raw o.data).length = 512 := by rw [hr]; exact bytesK_len
      rw [e1, e2] at b2
      have := h (.slice (some ⟨y, 0, none⟩) 512 512) _ _ (S.leave c j)
      rw [hr] at this hl512 b2
      rw [hl512] at this
      exact this ((OwS.whole (h := view c2 2 w3) (z := 1) b2 rfl (by rw [bvs_length, hl512]) (by simp [maxLen])).mono (S.out c j (by omega)))
    refine BS.dec (fun hlt => ?_) (fun hge => ?_)
    · refine LoadC.ad (view_sub _ _ _) _ b1 rfl (TSl.mk ?_)
      unfold law01_bytes_K1
      refine BS.dec (fun hpos => ?_) (fun hnp => ?_)
      · refine DrewC.col c2 fun w4 st4 => ?_
        replace S := S.go st4 (by decide) (by decide); replace V := V.mono (st4.sub (by decide)); replace b1 := st4.sub (by decide) _ _ b1; replace b2 := st4.sub (by decide) _ _ b2
        refine LoadC.ad (view_sub _ _ _) _ b1 rfl (TSl.mk ?_)
        refine LoadC.ad (view_sub _ _ _) _ b1 rfl (TSl.mk ?_)
        have em : Int.tmod (i : Int) ((o.data.length : Nat) : Int) = ((i % o.data.length : Nat) : Int) := by rw [Int.tmod_eq_emod_of_nonneg (by omega)]; omega
        rw [em]
        have hmod : i % o.data.length < o.data.length := Nat.mod_lt _ (by omega)
        obtain ⟨x, hx⟩ := get_of_lt hmod
        refine Req.ne (by omega) (Req.bnd ⟨by omega, by omega⟩ (V.elt (view_sub _ _ _) (by rw [bvs_get, hx]; rfl) (TInt.mk ?_)))
        refine Req.bnd ⟨by omega, by omega⟩ (TSome.mk ?_)
        rw [Int.toNat_natCast, Nat.mul_one]
        refine storeBd b2 (by rw [upto_length hAB, zero512_len]; omega) fun w5 _ st5 b2 => ?_
        replace S := S.go st5 (by decide) (by decide); replace V := V.mono (st5.sub (by decide)); replace b1 := st5.sub (by decide) _ _ b1
        rw [wrap_i64 (by omega) (by omega)]
        refine back _ (by omega) ⟨S, V, b1, ?_, fun e => by rw [e] at hpos; simp at hpos⟩
        rw [upto_set hAB (by unfold cyc; rw [List.getElem?_map, List.getElem?_range (by omega)]; simp [List.getD_eq_getElem?_getD, hx])] at b2
        exact b2
      · have hnil : o.data = [] := List.eq_nil_of_length_eq_zero (by omega)
        refine fin zero512 ?_ ?_
        · rw [hz hnil, upto_zero]
        · rw [hr]; unfold bytesK; rw [if_neg (by simp), if_pos hnil]
    · have hi5 : i = 512 := by omega
      refine fin (cyc o.data) ?_ ?_
      · rw [hi5, upto_full 512 (by rw [cyc_len]; omega) (by rw [zero512_len]; omega)]
      · rw [hr]; unfold bytesK
        rw [if_neg (by simp), if_neg (fun e => by have := hz e; omega)]
  · refine BS.yes rfl ?_
    refine AllocC.col c1 3 fun y c2 w2 st2 b2 _ => ?_
    replace S := S.go st2.step (by decide) (by decide); replace V := V.mono (st2.step.sub (by decide)); replace b1 := st2.step.sub (by decide) _ _ b1
    refine LoadC.ad (view_sub _ _ _) _ b1 rfl (TSl.mk ?_)
    have hd := hd hr
    refine app_bytes slU8 (OwS.some_bytes b2) (V.mono (view_sub _ _ _)) (by simp; omega) fun o3 p3 c3 w3 st3 r3 => TSl.mk ?_
    replace S := S.go st3.step (by decide) (by decide)
    rw [List.nil_append] at r3 ⊢
    have := h (.slice o3 o.data.length p3) _ _ (S.leave c j)
    rw [hr] at this
    exact this (r3.mono (S.out c j (by omega)))

def GreatOk (l : List OpK) : Prop := l.length ≤ 1000 ∧ ∀ o ∈ l, o.data.length ≤ 2000 ∧ o.fates.length ≤ 2000
theorem great_c (c : Nat → Nat) (j : Nat) {w : World} {v : Value} {l : List OpK} {R : Value → World → Prop} (hv : ScrK (wv w) v l)
    (h : ∀ g c' w', Step c [] [j] w c' w' → (g = false → GreatOk l) → R (.bool g) w') : CallV Try.prog 10 #[v] w R := by
  obtain ⟨ov, cv, rfl⟩ := LsV.form hv
  have V : ScrK (view (fun _ => 0) 0 w) (.slice ov l.length cv) l := by rw [view0]; exact hv
  have S := Fr.start w
  refine law01_great_vc ?_
  unfold law01_great_VC
  refine BS.dec (fun hb => h true c w (.refl ..) (fun e => by simp at e)) (fun hs => ?_)
  refine LoopI.up l.length (fun i w' => ∃ c', Fr w c' w' ∧ ScrK (view c' 0 w') (.slice ov l.length cv) l ∧ ∀ k o, k < i → l[k]? = some o → o.data.length ≤ 2000 ∧ o.fates.length ≤ 2000) ⟨_, S, V, fun k o hk => by omega⟩ ?_
  clear S V
  rintro i w1 B hi ⟨c1, S, V, hok⟩ back
  refine BS.dec (fun hlt => ?_) (fun hge => ?_)
  · obtain ⟨o, ho⟩ := get_of_lt (l := l) (i := i) (by omega)
    obtain ⟨es, ⟨v, u, rfl, rv, ru, _⟩, E⟩ := LsV.at (by omega) V ho
    obtain ⟨ov2, cv2, rfl⟩ := rv.form
    obtain ⟨ou2, cu2, rfl⟩ := ru.form
    refine Req.bnd ⟨by omega, by omega⟩ (E.all (view_sub _ _ _) ?_)
    refine AllocC.col c1 1 fun t c2 w2 st2 b2 _ => ?_
    replace S := S.go st2.step (by decide) (by decide); replace V := V.mono (st2.step.sub (by decide))
    refine RunU.var b2 (by kernel_rfl) rfl (by simp [OpK.vals, Value.oneCell']) fun w3 st3 b3 => ?_
    replace S := S.go st3.step (by decide) (by decide); replace V := V.mono (st3.step.sub (by decide))
    refine LoadC.ad (view_sub _ _ _) _ b3 rfl (TSl.mk ?_)
    refine BS.dec (fun hb => h true _ _ (S.leave c j) (fun e => by simp at e)) (fun h1 => ?_)
    refine LoadC.ad (view_sub _ _ _) _ b3 rfl (TSl.mk ?_)
    refine BS.dec (fun hb => h true _ _ (S.leave c j) (fun e => by simp at e)) (fun h2 => ?_)
    rw [wrap_i64 (by omega) (by omega)]
    refine back _ (by omega) ⟨c2, S, V, fun k x hk hx => ?_⟩
    by_cases hki : k = i
    · subst hki
      rw [ho] at hx
      cases hx
      exact ⟨by omega, by omega⟩
    · exact hok k x (by omega) hx
  · have : i = l.length := by omega
    subst this
    refine h false _ _ (S.leave c j) fun _ => ⟨by omega, fun o ho => ?_⟩
    obtain ⟨k, hk⟩ := List.getElem?_of_mem ho
    exact hok k o (lt_of_get hk) hk

theorem spoil_c {c : Nat → Nat} {i : Nat} {w : World} {v : Value} {n : Nat} {xs : List Value} {R : Value → World → Prop} (ho : OwS (view c i w) v 5 1 n xs) (hn : n ≤ 1099511627776)
    (h : ∀ w', Step c [i] [] w c w' → R (.tuple #[]) w') : CallV Try.prog 24 #[v] w R := by
  obtain ⟨o, p, rfl⟩ := ho.form
  refine law01_spoil_vc ?_
  unfold law01_spoil_VC
  refine LoopI.up n (fun _ w' => ∃ ys, Step c [i] [] w c w' ∧ OwS (view c i w') (.slice o n p) 5 1 n ys) ⟨xs, .refl .., ho⟩ ?_
  clear ho
  rintro k w1 B hk ⟨ys, S, ho⟩ back
  refine BS.dec (fun hlt => ?_) (fun hge => h _ S)
  refine Req.bnd ⟨by omega, by omega⟩ ?_
  rcases ho.2 with ⟨e, hn0⟩ | ⟨g, cap, cur, e, hg, hnc, hcm, hcs, htake⟩
  · omega
  · cases e
    refine TSome.mk ?_
    rw [addr_add, Int.toNat_natCast, Nat.mul_one, Nat.zero_add]
    refine StoreC.col hg (by omega) fun w2 _ st2 hg2 => ?_
    rw [wrap_i64 (by omega) (by omega)]
    refine back _ (by omega) ⟨_, S.trans st2, ?_, .inr ⟨g, p, _, rfl, hg2, hnc, hcm, by simpa using hcs, rfl⟩⟩
    rw [List.length_take]; simp; omega

theorem same_c (c : Nat → Nat) (j : Nat) {kd km : Nat} {w : World} {a b : Addr} {D : DkR} {R : Value → World → Prop} (hd : DkD c kd w a D) (hm : DkM c km w b D) (hok : D.ok) (hn : D.opn.length ≤ 100000)
    (hj : j ∉ [kd, kd + 1, kd + 2, kd + 3] ∧ j ∉ [km, km + 1, km + 2, km + 3]) (h : ∀ c' w', Step c [j] [j] w c' w' → DkD c' kd w' a D → DkM c' km w' b D → R (.bool true) w') : CallV Try.prog 22 #[.pointer (some a), .pointer (some b)] w R := by
  obtain ⟨hj1, hj2⟩ := hj
  simp only [List.mem_cons, List.not_mem_nil, or_false, not_or] at hj1 hj2
  have hlen := hok.2.2.2.2
  refine law01_same_vc ?_
  unfold law01_same_VC
  refine LoopI.shift (D.last.length + 2) (fun _ w' => ∃ c', Step c [j] [j] w c' w' ∧ DkD c' kd w' a D ∧ DkM c' km w' b D) ⟨c, .refl .., hd, hm⟩ ?_
  clear hd hm
  rintro i w1 B hi ⟨c1, S, hd, hm⟩ back
  obtain ⟨bb, vL, vO, rfl, hb, hL, hO⟩ := hm
  obtain ⟨oL, cL, rfl⟩ := hL.form
  have hm : DkM c1 km w1 ⟨bb, 0, none⟩ D := ⟨bb, _, _, rfl, hb, hL, hO⟩
  refine LoadC.ad (view_sub _ _ _) _ hb rfl (TSl.mk ?_)
  refine BS.dec (fun hlt => ?_) (fun hge => ?_)
  · refine dRead_c c1 j hd hok hn fun v2 c2 w2 st2 r2 => T2.mk ?_
    replace hd := hd.mono st2 (by simp) (by simp) (by simp) (by simp)
    replace hm := hm.mono st2 (by simp) (by simp) (by simp) (by simp)
    obtain ⟨o2, p2, rfl⟩ := r2.form
    refine TSl.mk (TInt.mk ?_)
    refine mRead_c c2 j hm hok hn fun v3 c3 w3 st3 r3 => T2.mk ?_
    replace hd := hd.mono st3 (by simp) (by simp) (by simp) (by simp)
    replace hm := hm.mono st3 (by simp) (by simp) (by simp) (by simp)
    replace r2 := r2.mono (st3.sub (by simp))
    obtain ⟨o3, p3, rfl⟩ := r3.form
    refine TSl.mk (TInt.mk (BS.no (by simp) ?_))
    refine string_rule strU8 (r2.rd.mono (view_sub _ _ _)) (TStr.mk (string_rule strU8 (r3.rd.mono (view_sub _ _ _)) (TStr.mk ?_)))
    rw [strEq_of, decide_eq_true rfl]
    refine BS.no rfl ?_
    refine spoil_c r2 ?_ fun w4 st4 => ?_
    · have : (rdK D (-1 + (i : Int))).1.length ≤ 512 := by
        unfold rdK
        split
        · simp
        · split
          · rename_i hr; rw [curK_len hok (by omega)]; omega
          · simp
      omega
    · rw [wrap_i64 (by omega) (by omega)]
      exact back _ (by omega) ⟨c3, ((S.trans (st2.weak (by simp) (by simp))).trans (st3.weak (by simp) (by simp))).trans (st4.weak (by simp) (by simp)), hd.mono st4 (by simp; omega) (by simp; omega) (by simp; omega) (by simp; omega), hm.mono st4 (by simp; omega) (by simp; omega) (by simp; omega) (by simp; omega)⟩
  · refine DrewC.col c1 fun w2 st2 => ?_
    replace hd := hd.mono st2 (by simp) (by simp) (by simp) (by simp)
    replace hm := hm.mono st2 (by simp) (by simp) (by simp) (by simp)
    replace hb := st2.sub (by simp) _ _ hb
    refine LoadC.ad (view_sub _ _ _) _ hb rfl (TSl.mk ?_)
    refine dSectors_c hd (TInt.mk ⟨StableC.ad (view_sub _ _ _) hb rfl, ?_⟩)
    rw [show (((D.last.length : Nat) : Int) == ((D.last.length : Nat) : Int)) = true by simp]
    exact h c1 w2 (S.trans (st2.weak (by simp) (by simp))) hd hm
end Go.Proofs.Yteliekblhcbmgaa

/-
  Chapter 01's statements, walked (DiskReads, DiskApart, DiskDown).
-/
import Derived.Test.YteliekblhcbmgaaWalkDisk1
set_option linter.unusedVariables false
set_option linter.unusedSimpArgs false
namespace Go.Vc
open Go
theorem newK_last_get {n i : Nat} (h : i < n) : (newK n).last.getD i [] = zero512 := by
  unfold newK
  rw [List.getD_eq_getElem?_getD, List.getElem?_replicate, if_pos h]; rfl
/-- how a limited disk stands behind t calls -/
def DownSt (D : DkR) (k t : Nat) : Prop := D.ok ∧ D.last.length = 4 ∧ ((t ≤ k ∧ D.down = false ∧ D.left = (k : Int) - t) ∨ (t = k + 1 ∧ D.down = true))
theorem flK_down {D : DkR} {k t : Nat} (h : DownSt D k t) : (flK D).2 = (if t < k then 0 else 3) ∧ DownSt (flK D).1 k (if t ≤ k then t + 1 else t) := by
  obtain ⟨hok, h4, hs⟩ := h
  have hok2 := flK_ok hok
  have hl2 := flK_len D
  rcases hs with ⟨ht, hd, hl⟩ | ⟨ht, hd⟩
  · by_cases h0 : t = k
    · have hu : useK D = ({ D with down := true }, false) := by unfold useK; rw [if_pos (by omega)]
      have e : flK D = ({ D with down := true }, 3) := by
        unfold flK
        rw [if_neg (by rw [hd]; simp), hu]; rfl
      rw [e] at hok2 hl2 ⊢
      rw [if_neg (by omega), if_pos ht]
      exact ⟨rfl, hok2, by rw [hl2]; exact h4, .inr ⟨by omega, rfl⟩⟩
    · have hu : useK D = ({ D with left := D.left - 1 }, true) := by unfold useK; rw [if_neg (by omega), if_pos (by omega)]
      have e : flK D = ({ ({ D with left := D.left - 1 } : DkR) with last := putAll D.last D.opn, opn := [] }, 0) := by
        unfold flK
        rw [if_neg (by rw [hd]; simp), hu]; rfl
      rw [e] at hok2 hl2 ⊢
      rw [if_pos (by omega), if_pos ht]
      exact ⟨rfl, hok2, by rw [hl2]; exact h4, .inl ⟨by omega, hd, by show D.left - 1 = _; omega⟩⟩
  · have e : flK D = (D, 3) := by unfold flK; rw [if_pos hd]
    rw [e]
    rw [if_neg (by omega), if_neg (by omega)]
    exact ⟨rfl, hok, h4, .inr ⟨ht, hd⟩⟩
theorem wrK_down {D : DkR} {k t : Nat} {i : Int} {l : List UInt8} (h : DownSt D k t) (hi : 0 ≤ i ∧ i < 4) (hl : l.length = 512) : (wrK D i l).2 = (if t < k then 0 else 3) ∧ DownSt (wrK D i l).1 k (if t ≤ k then t + 1 else t) := by
  obtain ⟨hok, h4, hs⟩ := h
  have hok2 := wrK_ok hok i l
  have hl2 := wrK_last D i l
  rcases hs with ⟨ht, hd, hlf⟩ | ⟨ht, hd⟩
  · have ew : wrK D i l = ({ (useK D).1 with opn := D.opn ++ [(i.toNat, l)] }, if (useK D).2 then 0 else 3) := by
      unfold wrK
      rw [if_neg (by rw [hd]; simp), if_neg (by omega), if_neg (by omega)]
    by_cases h0 : t = k
    · have hu : useK D = ({ D with down := true }, false) := by unfold useK; rw [if_pos (by omega)]
      rw [hu] at ew
      rw [ew] at hok2 hl2 ⊢
      rw [if_neg (show ¬ t < k by omega), if_pos ht]
      exact ⟨rfl, hok2, by rw [hl2]; exact h4, .inr ⟨by omega, rfl⟩⟩
    · have hu : useK D = ({ D with left := D.left - 1 }, true) := by unfold useK; rw [if_neg (by omega), if_pos (by omega)]
      rw [hu] at ew
      rw [ew] at hok2 hl2 ⊢
      rw [if_pos (show t < k by omega), if_pos ht]
      exact ⟨rfl, hok2, by rw [hl2]; exact h4, .inl ⟨by omega, hd, by show D.left - 1 = _; omega⟩⟩
  · have e : wrK D i l = (D, 3) := by unfold wrK; rw [if_pos hd]
    rw [e]
    rw [if_neg (by omega), if_neg (by omega)]
    exact ⟨rfl, hok, h4, .inr ⟨ht, hd⟩⟩
theorem rdK_down {D : DkR} {k t : Nat} (h : DownSt D k t) : (rdK D 0).2 = if t ≤ k then 0 else 3 := by
  obtain ⟨hok, h4, hs⟩ := h
  unfold rdK
  rcases hs with ⟨ht, hd, hl⟩ | ⟨ht, hd⟩
  · rw [if_neg (by rw [hd]; simp), if_pos (by omega), if_pos ht]
  · rw [if_pos hd, if_neg (by omega)]
end Go.Vc
namespace Go.Proofs.Yteliekblhcbmgaa.walkDisk
open Go.Vc Go.ChangeShapes Go.WideShapes Go.ChangeAt Go.RowKit
attribute [local irreducible] TInt TBool TStr TPtr TSl TAgg TMap TChan T2 T3 T4 BS Req TSome TCell TByte LoadC LoadA StoreC AllocC RunV RunU CallV ExtV EqA StableC StableA StableV TCells ReadV
attribute [local irreducible] DrewC
attribute [local irreducible] newK rdK crK wrK flK bytesK

theorem tmod6 (n : Int) : ∃ k : Nat, Int.tmod (bitsV .and .i64 n 1023) 6 = k ∧ k < 6 := by
  obtain ⟨k, e, hk⟩ := and_mask n 1023 (by omega)
  refine ⟨k % 6, ?_, by omega⟩
  rw [show (1023 : Int) = ((1023 : Nat) : Int) from rfl, e, Int.tmod_eq_emod_of_nonneg (by omega)]; omega
theorem and3k (n : Int) : ∃ k : Nat, bitsV .and .i64 n 3 = k ∧ k ≤ 3 := and_mask n 3 (by omega)
theorem next6 {k d : Nat} (hk : k < 6) (hd : d < 6) : Int.tmod (IntKind.wrap .i64 ((k : Int) + d)) 6 = (((k + d) % 6 : Nat) : Int) := by
  rw [wrap_i64 (by omega) (by omega), Int.tmod_eq_emod_of_nonneg (by omega)]; omega
theorem reads (v u : Value) (l m : List UInt8) (n : Int) (w : World) (hr : RdS (wv w) v 1 l.length (bvs l)) (hq : RdS (wv w) u 1 m.length (bvs m)) : CallV Try.prog 5 #[v, u, .int .i64 n] w fun r w' => r = .bool true ∧ Below w.heap.size w w' := by
  obtain ⟨o0, p0, rfl⟩ := hr.form
  obtain ⟨q0, t0, rfl⟩ := hq.form
  have V : RdS (view (fun _ => 0) 0 w) (.slice o0 l.length p0) 1 l.length (bvs l) := by rw [view0]; exact hr
  have U : RdS (view (fun _ => 0) 0 w) (.slice q0 m.length t0) 1 m.length (bvs m) := by rw [view0]; exact hq
  have S := Fw.start w
  obtain ⟨k, ek, hk⟩ := tmod6 n
  refine law01_DiskReads_vc ?_
  unfold law01_DiskReads_VC
  rw [ek]
  have e1 := next6 (k := k) (d := 1) hk (by omega)
  have e2 := next6 (k := k) (d := 2) hk (by omega)
  rw [show ((1 : Nat) : Int) = 1 from rfl] at e1
  rw [show ((2 : Nat) : Int) = 2 from rfl] at e2
  rw [e1, e2]
  have hk1 : (k + 1) % 6 < 6 := Nat.mod_lt _ (by omega)
  have hk2 : (k + 2) % 6 < 6 := Nat.mod_lt _ (by omega)
  have n1 : (k + 1) % 6 ≠ k := by omega
  have n2 : k ≠ (k + 2) % 6 := by omega
  have n3 : (k + 1) % 6 ≠ (k + 2) % 6 := by omega
  generalize (k + 1) % 6 = k1 at *
  generalize (k + 2) % 6 = k2 at *
  refine speaks01 (fun _ => 0) 9 fun c1 w1 st1 => TBool.mk (BS.no rfl ?_)
  replace S := S.go st1 (by decide) (by decide); replace V := V.mono (st1.sub (by decide)); replace U := U.mono (st1.sub (by decide))
  refine dNew_c c1 10 (fun hb => by omega) fun m6 hm6 _ _ a c2 w2 st2 hd => T2.mk (TPtr.mk (TInt.mk (BS.no rfl ?_)))
  obtain rfl : m6 = 6 := by omega
  replace S := S.go st2 (by decide) (by decide); replace V := V.mono (st2.sub (by decide)); replace U := U.mono (st2.sub (by decide))
  refine bytes_c c2 15 (o := ⟨0, 0, l, false, []⟩) (u := .slice none 0 0) (V.mono (view_sub _ _ _)) rfl (fun e => by simp at e) fun v3 c3 w3 st3 r3 => ?_
  replace S := S.go st3 (by decide) (by decide); replace V := V.mono (st3.sub (by decide)); replace U := U.mono (st3.sub (by decide))
  replace hd := hd.mono st3 (by decide) (by decide) (by decide) (by decide)
  obtain ⟨o3, p3, rfl⟩ := r3.form
  refine TSl.mk ?_
  refine bytes_c c3 16 (o := ⟨0, 0, m, false, []⟩) (u := .slice none 0 0) (U.mono (view_sub _ _ _)) rfl (fun e => by simp at e) fun v4 c4 w4 st4 r4 => ?_
  replace S := S.go st4 (by decide) (by decide); replace r3 := r3.mono (st4.sub (by decide))
  replace hd := hd.mono st4 (by decide) (by decide) (by decide) (by decide)
  obtain ⟨o4, p4, rfl⟩ := r4.form
  refine TSl.mk ?_
  clear V U hr hq
  have lX : (bytesK false l).length = 512 := bytesK_len
  have lY : (bytesK false m).length = 512 := bytesK_len
  dsimp only at r3 r4 ⊢
  generalize bytesK false l = X at *
  generalize bytesK false m = Y at *
  obtain ⟨fd, fl, fo, fa⟩ := newK_facts 6
  have ok0 := newK_ok' 6 (by decide)
  have len0 : (newK 6).last.length = 6 := by rw [fa]; simp
  have g0 := fun i (h : i < 6) => newK_last_get h
  generalize newK 6 = D0 at *
  have w1' := wrK_live (D := D0) (i := k) (l := X) (by omega) fd (by omega) lX
  have ok1 := wrK_ok ok0 k X
  refine dWrite_c (q := 15) hd ok0 r3.rd (by decide) (by rw [fo]; simp) fun c5 w5 st5 hd => TInt.mk ?_
  replace S := S.go st5 (by decide) (by decide); replace r3 := r3.mono (st5.sub (by decide)); replace r4 := r4.mono (st5.sub (by decide))
  rw [w1'] at hd ok1 ⊢
  have w2' := wrK_live (D := { D0 with opn := D0.opn ++ [(k, X)] }) (i := k1) (l := Y) (by show D0.left < 0; omega) fd (by show k1 < D0.last.length; omega) lY
  have ok2 := wrK_ok ok1 k1 Y
  refine dWrite_c (q := 16) hd ok1 r4.rd (by decide) (by show (D0.opn ++ [(k, X)]).length ≤ _; rw [fo]; simp) fun c6 w6 st6 hd => TInt.mk ?_
  replace S := S.go st6 (by decide) (by decide); replace r3 := r3.mono (st6.sub (by decide)); replace r4 := r4.mono (st6.sub (by decide))
  rw [w2'] at hd ok2 ⊢
  have w3' := wrK_live (D := { D0 with opn := D0.opn ++ [(k, X)] ++ [(k1, Y)] }) (i := k) (l := Y) (by show D0.left < 0; omega) fd (by show k < D0.last.length; omega) lY
  have ok3 := wrK_ok ok2 k Y
  have hn2 : (D0.opn ++ [(k, X)] ++ [(k1, Y)]).length ≤ 100000 := by rw [fo]; simp
  have q1 := rdK_live (D := { D0 with opn := D0.opn ++ [(k, X)] ++ [(k1, Y)] }) (i := k) fd (by show k < D0.last.length; omega)
  have q2 := rdK_live (D := { D0 with opn := D0.opn ++ [(k, X)] ++ [(k1, Y)] }) (i := k1) fd (by show k1 < D0.last.length; omega)
  have q3 := rdK_live (D := { D0 with opn := D0.opn ++ [(k, X)] ++ [(k1, Y)] }) (i := k2) fd (by show k2 < D0.last.length; omega)
  have z1 : curK { D0 with opn := D0.opn ++ [(k, X)] ++ [(k1, Y)] } k = X := by
    show upon k _ (D0.opn ++ [(k, X)] ++ [(k1, Y)]) = X
    rw [upon_snoc, if_neg n1, upon_snoc, if_pos rfl]
  have z2 : curK { D0 with opn := D0.opn ++ [(k, X)] ++ [(k1, Y)] } k1 = Y := by
    show upon k1 _ (D0.opn ++ [(k, X)] ++ [(k1, Y)]) = Y
    rw [upon_snoc, if_pos rfl]
  have z3 : curK { D0 with opn := D0.opn ++ [(k, X)] ++ [(k1, Y)] } k2 = zero512 := by
    show upon k2 (D0.last.getD k2 []) (D0.opn ++ [(k, X)] ++ [(k1, Y)]) = zero512
    rw [upon_snoc, if_neg n3, upon_snoc, if_neg n2, fo]
    exact g0 k2 hk2
  rw [z1] at q1
  rw [z2] at q2
  rw [z3] at q3
  refine dRead_c c6 17 hd ok2 hn2 fun v7 c7 w7 st7 r7 => ?_
  replace S := S.go st7 (by decide) (by decide); replace r3 := r3.mono (st7.sub (by decide)); replace r4 := r4.mono (st7.sub (by decide))
  replace hd := hd.mono st7 (by decide) (by decide) (by decide) (by decide)
  rw [q1] at r7 ⊢
  obtain ⟨o7, p7, rfl⟩ := r7.form
  refine T2.mk (TSl.mk (TInt.mk ?_))
  refine dRead_c c7 18 hd ok2 hn2 fun v8 c8 w8 st8 r8 => ?_
  replace S := S.go st8 (by decide) (by decide); replace r3 := r3.mono (st8.sub (by decide)); replace r4 := r4.mono (st8.sub (by decide)); replace r7 := r7.mono (st8.sub (by decide))
  replace hd := hd.mono st8 (by decide) (by decide) (by decide) (by decide)
  rw [q2] at r8 ⊢
  obtain ⟨o8, p8, rfl⟩ := r8.form
  refine T2.mk (TSl.mk (TInt.mk ?_))
  refine dRead_c c8 19 hd ok2 hn2 fun v9 c9 w9 st9 r9 => ?_
  replace S := S.go st9 (by decide) (by decide); replace r3 := r3.mono (st9.sub (by decide)); replace r4 := r4.mono (st9.sub (by decide)); replace r7 := r7.mono (st9.sub (by decide)); replace r8 := r8.mono (st9.sub (by decide))
  replace hd := hd.mono st9 (by decide) (by decide) (by decide) (by decide)
  rw [q3] at r9 ⊢
  obtain ⟨o9, p9, rfl⟩ := r9.form
  refine T2.mk (TSl.mk (TInt.mk ?_))
  refine dWrite_c (q := 16) hd ok2 r4.rd (by decide) hn2 fun c10 w10 st10 hd => TInt.mk ?_
  replace S := S.go st10 (by decide) (by decide); replace r3 := r3.mono (st10.sub (by decide)); replace r4 := r4.mono (st10.sub (by decide)); replace r7 := r7.mono (st10.sub (by decide)); replace r8 := r8.mono (st10.sub (by decide)); replace r9 := r9.mono (st10.sub (by decide))
  rw [w3'] at hd ok3
  have q4 := rdK_live (D := { D0 with opn := D0.opn ++ [(k, X)] ++ [(k1, Y)] ++ [(k, Y)] }) (i := k) fd (by show k < D0.last.length; omega)
  have z4 : curK { D0 with opn := D0.opn ++ [(k, X)] ++ [(k1, Y)] ++ [(k, Y)] } k = Y := by
    show upon k _ (D0.opn ++ [(k, X)] ++ [(k1, Y)] ++ [(k, Y)]) = Y
    rw [upon_snoc, if_pos rfl]
  rw [z4] at q4
  refine dRead_c c10 20 hd ok3 (by show (D0.opn ++ [(k, X)] ++ [(k1, Y)] ++ [(k, Y)]).length ≤ _; rw [fo]; simp) fun v11 c11 w11 st11 r11 => ?_
  replace S := S.go st11 (by decide) (by decide); replace r3 := r3.mono (st11.sub (by decide)); replace r4 := r4.mono (st11.sub (by decide)); replace r7 := r7.mono (st11.sub (by decide)); replace r8 := r8.mono (st11.sub (by decide)); replace r9 := r9.mono (st11.sub (by decide))
  rw [q4] at r11 ⊢
  obtain ⟨o11, p11, rfl⟩ := r11.form
  refine T2.mk (TSl.mk (TInt.mk ?_))
  refine DrewC.col c11 fun w12 st12 => ?_
  replace S := S.go st12 (by decide) (by decide); replace r3 := r3.mono (st12.sub (by decide)); replace r4 := r4.mono (st12.sub (by decide)); replace r7 := r7.mono (st12.sub (by decide)); replace r8 := r8.mono (st12.sub (by decide)); replace r9 := r9.mono (st12.sub (by decide)); replace r11 := r11.mono (st12.sub (by decide))
  refine BS.yes rfl (BS.yes rfl (BS.yes rfl (BS.yes rfl (BS.yes rfl (BS.yes rfl ?_)))))
  refine string_rule strU8 (r7.rd.mono (view_sub _ _ _)) (TStr.mk (string_rule strU8 (r3.rd.mono (view_sub _ _ _)) (TStr.mk ?_)))
  rw [strEq_of, decide_eq_true rfl]
  refine BS.yes rfl ?_
  refine string_rule strU8 (r8.rd.mono (view_sub _ _ _)) (TStr.mk (string_rule strU8 (r4.rd.mono (view_sub _ _ _)) (TStr.mk ?_)))
  rw [strEq_of, decide_eq_true rfl]
  refine BS.yes rfl ?_
  refine string_rule strU8 (r9.rd.mono (view_sub _ _ _)) (TStr.mk ?_)
  refine make_col (n := 512) (l := 512) Try.underlying30 zU8b c11 36 (Nat.le_refl _) (by omega) (by omega) fun q c13 w13 st13 b13 _ => TSl.mk ?_
  replace S := S.go st13.fresh (by decide) (by decide); replace r4 := r4.mono (st13.fresh.sub (by decide)); replace r9 := r9.mono (st13.fresh.sub (by decide)); replace r11 := r11.mono (st13.fresh.sub (by decide))
  rw [made_zero] at b13
  refine ⟨StableV.string strU8 (r9.rd.mono (view_sub _ _ _)), ?_⟩
  refine string_rule strU8 (RdS.block (h := wv w13) (n := 512) (z := 1) (xs := bvs zero512) (view_sub _ _ _ _ _ b13) (by rw [bvs_length, zero512_len]) (Nat.le_refl _)) (TStr.mk ?_)
  rw [strEq_of, decide_eq_true rfl]
  refine BS.yes rfl ?_
  refine string_rule strU8 (r11.rd.mono (view_sub _ _ _)) (TStr.mk (string_rule strU8 (r4.rd.mono (view_sub _ _ _)) (TStr.mk ?_)))
  rw [strEq_of, decide_eq_true rfl]
  exact ⟨rfl, S.below⟩

theorem apart (v u : Value) (ops : List OpK) (fs : List Int) (w : World) (hv : ScrK (wv w) v ops) (hf : RdS (wv w) u 1 fs.length (jvs fs)) (hfs : ∀ f ∈ fs, i64ok f) : CallV Try.prog 6 #[v, u] w fun r w' => r = .bool true ∧ Below w.heap.size w w' := by
  obtain ⟨o0, p0, rfl⟩ := LsV.form hv
  obtain ⟨q0, t0, rfl⟩ := hf.form
  have V : ScrK (view (fun _ => 0) 0 w) (.slice o0 ops.length p0) ops := by rw [view0]; exact hv
  have U : RdS (view (fun _ => 0) 0 w) (.slice q0 fs.length t0) 1 fs.length (jvs fs) := by rw [view0]; exact hf
  have S := Fw.start w
  refine law01_DiskApart_vc ?_
  unfold law01_DiskApart_VC
  refine speaks01 (fun _ => 0) 9 fun c1 w1 st1 => TBool.mk (BS.no rfl ?_)
  replace S := S.go st1 (by decide) (by decide); replace V := V.mono (st1.sub (by decide)); replace U := U.mono (st1.sub (by decide))
  refine great_c c1 9 (V.mono (view_sub _ _ _)) fun g c2 w2 st2 hg => TBool.mk ?_
  replace S := S.go st2 (by decide) (by decide); replace V := V.mono (st2.sub (by decide)); replace U := U.mono (st2.sub (by decide))
  refine BS.mk (fun _ => ⟨rfl, S.below⟩) (fun hgf => ?_)
  obtain ⟨hl1000, hops⟩ := hg hgf
  refine dNew_c c2 10 (fun hb => by omega) fun m4 hm4 _ _ a c3 w3 st3 hd => T2.mk (TPtr.mk (TInt.mk (BS.no rfl ?_)))
  obtain rfl : m4 = 4 := by omega
  replace S := S.go st3 (by decide) (by decide); replace V := V.mono (st3.sub (by decide)); replace U := U.mono (st3.sub (by decide))
  refine LoopI.up ops.length (fun i w' => ∃ c' D, Fw w c' w' ∧ ScrK (view c' 0 w') (.slice o0 ops.length p0) ops ∧ RdS (view c' 0 w') (.slice q0 fs.length t0) 1 fs.length (jvs fs) ∧ DkD c' 10 w' a D ∧ D.ok ∧ D.opn.length ≤ i) ⟨c3, _, S, V, U, hd, newK_ok' 4 (by decide), by rw [newK_opn]; omega⟩ ?_
  clear S V U hd
  rintro i w4 B hi ⟨c4, D, S, V, U, hd, hok, hn⟩ back
  refine BS.dec (fun hlt => ?_) (fun hge => ?_)
  · obtain ⟨o, ho⟩ := get_of_lt (l := ops) (i := i) (by omega)
    obtain ⟨es, ⟨vd, uf, rfl, rd, ru, _⟩, E⟩ := LsV.at (by omega) V ho
    obtain ⟨od, pd, rfl⟩ := rd.form
    obtain ⟨ou, pu, rfl⟩ := ru.form
    refine Req.bnd ⟨by omega, by omega⟩ (E.all (view_sub _ _ _) ?_)
    refine AllocC.col c4 37 fun t c5 w5 st5 b5 _ => ?_
    replace S := S.go st5.fresh (by decide) (by decide); replace V := V.mono (st5.fresh.sub (by decide)); replace U := U.mono (st5.fresh.sub (by decide)); replace rd := rd.mono (st5.fresh.sub (by decide))
    replace hd := hd.mono st5.fresh (by decide) (by decide) (by decide) (by decide)
    refine RunU.var b5 (by kernel_rfl) rfl (by simp [OpK.vals, Value.oneCell']) fun w6 st6 b6 => ?_
    replace S := S.go st6.step (by decide) (by decide); replace V := V.mono (st6.step.sub (by decide)); replace U := U.mono (st6.step.sub (by decide)); replace rd := rd.mono (st6.step.sub (by decide))
    replace hd := hd.mono st6.step (by decide) (by decide) (by decide) (by decide)
    refine DrewC.col c5 fun w7 st7 => ?_
    replace S := S.go st7 (by decide) (by decide); replace V := V.mono (st7.sub (by decide)); replace U := U.mono (st7.sub (by decide)); replace rd := rd.mono (st7.sub (by decide)); replace b6 := st7.sub (by decide) _ _ b6
    replace hd := hd.mono st7 (by decide) (by decide) (by decide) (by decide)
    refine LoadC.ad (view_sub _ _ _) _ b6 rfl (TInt.mk ?_)
    refine LoadC.ad (view_sub _ _ _) _ b6 rfl (TSl.mk ?_)
    refine bytes_c c5 15 (o := ⟨0, 0, o.data, false, []⟩) (u := .slice none 0 0) (rd.mono (view_sub _ _ _)) rfl (fun e => by simp at e) fun v8 c8 w8 st8 r8 => ?_
    replace S := S.go st8 (by decide) (by decide); replace V := V.mono (st8.sub (by decide)); replace U := U.mono (st8.sub (by decide)); replace b6 := st8.sub (by decide) _ _ b6
    replace hd := hd.mono st8 (by decide) (by decide) (by decide) (by decide)
    dsimp only at r8
    obtain ⟨o8, p8, rfl⟩ := r8.form
    refine TSl.mk ⟨StableC.ad (view_sub _ _ _) b6 rfl, ?_⟩
    have on := wrK_opn D (bitsV .and .i64 o.at' 3) (bytesK false o.data)
    refine dWrite_c (q := 15) hd hok r8.rd (by decide) (by omega) fun c9 w9 st9 hd => TInt.mk ?_
    replace S := S.go st9 (by decide) (by decide); replace V := V.mono (st9.sub (by decide)); replace U := U.mono (st9.sub (by decide))
    rw [wrap_i64 (by omega) (by omega)]
    exact back _ (by omega) ⟨c9, _, S, V, U, hd, wrK_ok hok _ _, by omega⟩
  · clear back
    refine dCrash_c c4 20 hd hok (by omega) (U.mono (view_sub _ _ _)) hfs fun ax c5 w5 st5 hx => TPtr.mk ?_
    replace S := S.go st5 (by decide) (by decide); replace U := U.mono (st5.sub (by decide))
    replace hd := hd.mono st5 (by decide) (by decide) (by decide) (by decide)
    refine dCrash_c c5 25 hd hok (by omega) (U.mono (view_sub _ _ _)) hfs fun ay c6 w6 st6 hy => TPtr.mk ?_
    replace S := S.go st6 (by decide) (by decide)
    replace hd := hd.mono st6 (by decide) (by decide) (by decide) (by decide); replace hx := hx.mono st6 (by decide) (by decide) (by decide) (by decide)
    refine BS.no rfl ?_
    unfold law01_DiskApart_K1
    refine BS.no rfl ?_
    have okc := crK_ok hok fs
    have opc : (crK D fs).opn.length = 0 := by rw [(crK_facts D fs).2.2]; rfl
    refine LoopI.up 4 (fun i w' => ∃ c' X, Fw w c' w' ∧ DkD c' 10 w' a D ∧ DkD c' 20 w' ax X ∧ DkD c' 25 w' ay (crK D fs) ∧ X.ok ∧ X.opn.length ≤ i) ⟨c6, _, S, hd, hx, hy, okc, by rw [opc]; omega⟩ ?_
    clear S hd hx hy
    rintro n w7 B2 hn4 ⟨c7, X, S, hd, hx, hy, okx, hxn⟩ back
    refine BS.dec (fun hlt => ?_) (fun hge => ⟨rfl, S.below⟩)
    refine dRead_c c7 16 hy okc (by omega) fun v8 c8 w8 st8 r8 => ?_
    replace S := S.go st8 (by decide) (by decide)
    replace hd := hd.mono st8 (by decide) (by decide) (by decide) (by decide); replace hx := hx.mono st8 (by decide) (by decide) (by decide) (by decide); replace hy := hy.mono st8 (by decide) (by decide) (by decide) (by decide)
    obtain ⟨o8, p8, rfl⟩ := r8.form
    refine T2.mk (TSl.mk (TInt.mk ?_))
    refine dRead_c c8 17 hd hok (by omega) fun v9 c9 w9 st9 r9 => ?_
    replace S := S.go st9 (by decide) (by decide); replace r8 := r8.mono (st9.sub (by decide))
    replace hd := hd.mono st9 (by decide) (by decide) (by decide) (by decide); replace hx := hx.mono st9 (by decide) (by decide) (by decide) (by decide); replace hy := hy.mono st9 (by decide) (by decide) (by decide) (by decide)
    obtain ⟨o9, p9, rfl⟩ := r9.form
    refine T2.mk (TSl.mk (TInt.mk ?_))
    refine AllocC.col c9 37 fun z c10 w10 st10 b10 _ => ?_
    replace S := S.go st10.fresh (by decide) (by decide); replace r8 := r8.mono (st10.fresh.sub (by decide)); replace r9 := r9.mono (st10.fresh.sub (by decide))
    replace hd := hd.mono st10.fresh (by decide) (by decide) (by decide) (by decide); replace hx := hx.mono st10.fresh (by decide) (by decide) (by decide) (by decide); replace hy := hy.mono st10.fresh (by decide) (by decide) (by decide) (by decide)
    have eb : IntKind.wrap .u8 (IntKind.wrap .i64 ((n : Int) + 77)) = ((UInt8.ofNat (n + 77)).toNat : Int) := by
      rw [wrap_i64 (by omega) (by omega), wrap_u8 (by omega) (by omega), UInt8.toNat_ofNat']; omega
    rw [eb] at b10
    refine bytes_c c10 15 (o := ⟨0, 0, [UInt8.ofNat (n + 77)], false, []⟩) (v := .slice (some ⟨z, 0, none⟩) 1 1) (u := .slice none 0 0) (RdS.block (xs := bvs [UInt8.ofNat (n + 77)]) (view_sub _ _ _ _ _ b10) rfl (Nat.le_refl _)) rfl (fun e => by simp at e) fun v11 c11 w11 st11 r11 => ?_
    replace S := S.go st11 (by decide) (by decide); replace r8 := r8.mono (st11.sub (by decide)); replace r9 := r9.mono (st11.sub (by decide))
    replace hd := hd.mono st11 (by decide) (by decide) (by decide) (by decide); replace hx := hx.mono st11 (by decide) (by decide) (by decide) (by decide); replace hy := hy.mono st11 (by decide) (by decide) (by decide) (by decide)
    dsimp only at r11
    obtain ⟨o11, p11, rfl⟩ := r11.form
    refine TSl.mk ?_
    have on := wrK_opn X (n : Int) (bytesK false [UInt8.ofNat (n + 77)])
    have okx2 := wrK_ok okx (n : Int) (bytesK false [UInt8.ofNat (n + 77)])
    refine dWrite_c (q := 15) hx okx r11.rd (by decide) (by omega) fun c12 w12 st12 hx => TInt.mk ?_
    replace S := S.go st12 (by decide) (by decide); replace r8 := r8.mono (st12.sub (by decide)); replace r9 := r9.mono (st12.sub (by decide))
    replace hd := hd.mono st12 (by decide) (by decide) (by decide) (by decide); replace hy := hy.mono st12 (by decide) (by decide) (by decide) (by decide)
    have on2 := flK_opn (wrK X (n : Int) (bytesK false [UInt8.ofNat (n + 77)])).1
    refine dFlush_c hx okx2 (by omega) fun c13 w13 st13 hx => TInt.mk ?_
    replace S := S.go st13 (by decide) (by decide); replace r8 := r8.mono (st13.sub (by decide)); replace r9 := r9.mono (st13.sub (by decide))
    replace hd := hd.mono st13 (by decide) (by decide) (by decide) (by decide); replace hy := hy.mono st13 (by decide) (by decide) (by decide) (by decide)
    refine dRead_c c13 18 hy okc (by omega) fun v14 c14 w14 st14 r14 => ?_
    replace S := S.go st14 (by decide) (by decide); replace r8 := r8.mono (st14.sub (by decide)); replace r9 := r9.mono (st14.sub (by decide))
    replace hd := hd.mono st14 (by decide) (by decide) (by decide) (by decide); replace hx := hx.mono st14 (by decide) (by decide) (by decide) (by decide); replace hy := hy.mono st14 (by decide) (by decide) (by decide) (by decide)
    obtain ⟨o14, p14, rfl⟩ := r14.form
    refine T2.mk (TSl.mk (TInt.mk ?_))
    refine dRead_c c14 19 hd hok (by omega) fun v15 c15 w15 st15 r15 => ?_
    replace S := S.go st15 (by decide) (by decide); replace r8 := r8.mono (st15.sub (by decide)); replace r9 := r9.mono (st15.sub (by decide)); replace r14 := r14.mono (st15.sub (by decide))
    replace hd := hd.mono st15 (by decide) (by decide) (by decide) (by decide); replace hx := hx.mono st15 (by decide) (by decide) (by decide) (by decide); replace hy := hy.mono st15 (by decide) (by decide) (by decide) (by decide)
    obtain ⟨o15, p15, rfl⟩ := r15.form
    refine T2.mk (TSl.mk (TInt.mk ?_))
    refine string_rule strU8 (r8.rd.mono (view_sub _ _ _)) (TStr.mk (string_rule strU8 (r14.rd.mono (view_sub _ _ _)) (TStr.mk ?_)))
    rw [strEq_of, decide_eq_true rfl]
    refine BS.no rfl ?_
    refine string_rule strU8 (r9.rd.mono (view_sub _ _ _)) (TStr.mk (string_rule strU8 (r15.rd.mono (view_sub _ _ _)) (TStr.mk ?_)))
    rw [strEq_of, decide_eq_true rfl]
    refine BS.no rfl ?_
    rw [wrap_i64 (by omega) (by omega)]
    exact back _ (by omega) ⟨c15, _, S, hd, hx, hy, flK_ok okx2, by omega⟩

theorem and15k (n : Int) : ∃ k : Nat, bitsV .and .i64 n 15 = k ∧ k ≤ 15 := and_mask n 15 (by omega)
theorem k3 {k t : Nat} {n5 : Int} {o6 : Option Addr} {o32 : Option Addr} {k32 k32' : Nat} {n33 n34 : Int} {B : List Value → World → Prop} {w : World} {R : Value → World → Prop} (hn : n5 = k) (ht : t ≤ k + 1) (hk : k ≤ 15)
    (h : law01_DiskDown_K4 n5 o6 ((if t ≤ k then t + 1 else t : Nat) : Int) o32 k32 k32' n33 n34 B w R) : law01_DiskDown_K3 n5 o6 (t : Int) o32 k32 k32' n33 n34 B w R := by
  subst hn
  unfold law01_DiskDown_K3
  refine BS.dec (fun hle => ?_) (fun hgt => ?_)
  · rw [if_pos (by omega)] at h
    rw [wrap_i64 (by omega) (by omega)]
    exact h
  · rw [if_neg (by omega)] at h
    exact h
theorem down (v : Value) (ops : List OpK) (n : Int) (w : World) (hv : ScrK (wv w) v ops) : CallV Try.prog 8 #[v, .int .i64 n] w fun r w' => r = .bool true ∧ Below w.heap.size w w' := by
  obtain ⟨o0, p0, rfl⟩ := LsV.form hv
  have V : ScrK (view (fun _ => 0) 0 w) (.slice o0 ops.length p0) ops := by rw [view0]; exact hv
  have S := Fw.start w
  obtain ⟨k, ek, hk⟩ := and15k n
  refine law01_DiskDown_vc ?_
  unfold law01_DiskDown_VC
  rw [ek]
  refine speaks01 (fun _ => 0) 9 fun c1 w1 st1 => TBool.mk (BS.no rfl ?_)
  replace S := S.go st1 (by decide) (by decide); replace V := V.mono (st1.sub (by decide))
  refine great_c c1 9 (V.mono (view_sub _ _ _)) fun g c2 w2 st2 hg => TBool.mk ?_
  replace S := S.go st2 (by decide) (by decide); replace V := V.mono (st2.sub (by decide))
  refine BS.mk (fun _ => ⟨rfl, S.below⟩) (fun hgf => ?_)
  obtain ⟨hl1000, hops⟩ := hg hgf
  refine dNew_c c2 10 (fun hb => by omega) fun m4 hm4 _ _ a c3 w3 st3 hd => T2.mk (TPtr.mk (TInt.mk (BS.no rfl ?_)))
  obtain rfl : m4 = 4 := by omega
  replace S := S.go st3 (by decide) (by decide); replace V := V.mono (st3.sub (by decide))
  obtain ⟨fd, fl, fo, fa⟩ := newK_facts 4
  have ok0 := newK_ok' 4 (by decide)
  have st0 : DownSt (limK (newK 4) k) k 0 := ⟨limK_ok ok0 (by omega), by show (newK 4).last.length = 4; rw [fa]; simp, .inl ⟨by omega, fd, by show max (k : Int) (-1) = _; omega⟩⟩
  have on0 : (limK (newK 4) k).opn.length = 0 := by show (newK 4).opn.length = 0; rw [fo]; rfl
  refine dLimit_c hd fun w4 st4 hd => ?_
  replace S := S.go st4 (by decide) (by decide); replace V := V.mono (st4.sub (by decide))
  generalize limK (newK 4) k = D0 at *
  refine LoopNI.up ops.length (fun i x w' => ∃ c' D t, Fw w c' w' ∧ ScrK (view c' 0 w') (.slice o0 ops.length p0) ops ∧ DkD c' 10 w' a D ∧ DownSt D k t ∧ D.opn.length ≤ i ∧ x = (t : Int) ∧ t ≤ k + 1) ⟨c3, D0, 0, S, V, hd, st0, by omega, rfl, by omega⟩ ?_
  clear S V hd st0 fd fl fo fa ok0
  rintro i x w5 B hi ⟨c5, D, t, S, V, hd, hst, hn, rfl, ht⟩ back
  have hok := hst.1
  refine BS.dec (fun hlt => ?_) (fun hge => ?_)
  · obtain ⟨o, ho⟩ := get_of_lt (l := ops) (i := i) (by omega)
    obtain ⟨es, ⟨vd, uf, rfl, rd, ru, _⟩, E⟩ := LsV.at (by omega) V ho
    obtain ⟨od, pd, rfl⟩ := rd.form
    obtain ⟨ou, pu, rfl⟩ := ru.form
    refine Req.bnd ⟨by omega, by omega⟩ (E.all (view_sub _ _ _) ?_)
    refine AllocC.col c5 37 fun z c6 w6 st6 b6 _ => ?_
    replace S := S.go st6.fresh (by decide) (by decide); replace V := V.mono (st6.fresh.sub (by decide)); replace rd := rd.mono (st6.fresh.sub (by decide))
    replace hd := hd.mono st6.fresh (by decide) (by decide) (by decide) (by decide)
    refine RunU.var b6 (by kernel_rfl) rfl (by simp [OpK.vals, Value.oneCell']) fun w7 st7 b7 => ?_
    replace S := S.go st7.step (by decide) (by decide); replace V := V.mono (st7.step.sub (by decide)); replace rd := rd.mono (st7.step.sub (by decide))
    replace hd := hd.mono st7.step (by decide) (by decide) (by decide) (by decide)
    -- behind the call
    have after : ∀ {c' w' D'} (e : Int), Fw w c' w' → ScrK (view c' 0 w') (.slice o0 ops.length p0) ops → DkD c' 10 w' a D' → DownSt D' k (if t ≤ k then t + 1 else t) → D'.opn.length ≤ i + 1 → e = (if t < k then 0 else 3) →
        law01_DiskDown_K1 (k : Int) (some a) (t : Int) e o0 ops.length p0 ((ops.length : Nat) : Int) i B w' (fun r w' => r = .bool true ∧ Below w.heap.size w w') := fun {c' w' D'} e S V hd hst' hn' he => by
      unfold law01_DiskDown_K1
      have ht' : (if t ≤ k then t + 1 else t) ≤ k + 1 := by split <;> omega
      have k4 : law01_DiskDown_K4 (k : Int) (some a) ((if t ≤ k then t + 1 else t : Nat) : Int) o0 ops.length p0 ((ops.length : Nat) : Int) i B w' (fun r w' => r = .bool true ∧ Below w.heap.size w w') := by
        generalize (if t ≤ k then t + 1 else t) = t2 at *
        unfold law01_DiskDown_K4
        refine dRead_c c' 16 hd hst'.1 (by omega) fun v8 c8 w8 st8 r8 => T2.mk ?_
        replace S := S.go st8 (by decide) (by decide); replace V := V.mono (st8.sub (by decide))
        replace hd := hd.mono st8 (by decide) (by decide) (by decide) (by decide)
        obtain ⟨o8, p8, rfl⟩ := r8.form
        refine TSl.mk (TInt.mk ?_)
        rw [rdK_down hst']
        refine BS.no ?_ ?_
        · by_cases h : t2 ≤ k
          · rw [if_pos h, decide_eq_false (by omega)]; rfl
          · rw [if_neg h, decide_eq_true (by omega)]; rfl
        · rw [wrap_i64 (by omega) (by omega)]
          exact back _ _ (by omega) ⟨c8, D', t2, S, V, hd, hst', hn', rfl, ht'⟩
      have hk3 := k3 (n5 := (k : Int)) rfl ht hk k4
      rw [he]
      by_cases h : t < k
      · rw [if_pos h]
        refine BS.no (by rw [decide_eq_true (show (t : Int) < (k : Int) by omega)]; rfl) (BS.no rfl hk3)
      · rw [if_neg h]
        refine BS.no (by rw [decide_eq_false (show ¬ (t : Int) < (k : Int) by omega)]; rfl) (BS.yes rfl ?_)
        unfold law01_DiskDown_K2
        exact BS.no rfl hk3
    refine LoadC.ad (view_sub _ _ _) _ b7 rfl (TInt.mk ?_)
    refine BS.eq (fun e0 => ?_) (fun e0 => ?_)
    · obtain ⟨f1, f2⟩ := flK_down hst
      have on := flK_opn D
      refine dFlush_c hd hok (by omega) fun c8 w8 st8 hd => TInt.mk ?_
      replace S := S.go st8 (by decide) (by decide); replace V := V.mono (st8.sub (by decide))
      exact after _ S V hd f2 (by omega) f1
    · refine DrewC.col c6 fun w8 st8 => ?_
      replace S := S.go st8 (by decide) (by decide); replace V := V.mono (st8.sub (by decide)); replace rd := rd.mono (st8.sub (by decide)); replace b7 := st8.sub (by decide) _ _ b7
      replace hd := hd.mono st8 (by decide) (by decide) (by decide) (by decide)
      refine LoadC.ad (view_sub _ _ _) _ b7 rfl (TInt.mk ?_)
      refine LoadC.ad (view_sub _ _ _) _ b7 rfl (TSl.mk ?_)
      refine bytes_c c6 15 (o := ⟨0, 0, o.data, false, []⟩) (u := .slice none 0 0) (rd.mono (view_sub _ _ _)) rfl (fun e => by simp at e) fun v9 c9 w9 st9 r9 => ?_
      replace S := S.go st9 (by decide) (by decide); replace V := V.mono (st9.sub (by decide)); replace b7 := st9.sub (by decide) _ _ b7
      replace hd := hd.mono st9 (by decide) (by decide) (by decide) (by decide)
      dsimp only at r9
      obtain ⟨o9, p9, rfl⟩ := r9.form
      refine TSl.mk ⟨StableC.ad (view_sub _ _ _) b7 rfl, ?_⟩
      obtain ⟨q, eq, hq⟩ := and3k o.at'
      rw [eq]
      obtain ⟨f1, f2⟩ := wrK_down (i := (q : Int)) (l := bytesK false o.data) hst ⟨by omega, by omega⟩ bytesK_len
      have on := wrK_opn D (q : Int) (bytesK false o.data)
      refine dWrite_c (q := 15) hd hok r9.rd (by decide) (by omega) fun c10 w10 st10 hd => TInt.mk ?_
      replace S := S.go st10 (by decide) (by decide); replace V := V.mono (st10.sub (by decide))
      exact after _ S V hd f2 (by omega) f1
  · clear back
    refine dCrash_c c5 20 (fs := []) hd hok (by omega) (RdS.nil ..) (fun f hf => by simp at hf) fun ax c6 w6 st6 hx => TPtr.mk (BS.no rfl ?_)
    replace S := S.go st6 (by decide) (by decide)
    have okc := crK_ok hok []
    obtain ⟨g1, g2, g3⟩ := crK_facts D []
    have g4 := crK_len D []
    have h4 := hst.2.1
    generalize crK D [] = X at *
    have hx0 : (rdK X 0).2 = 0 := by
      have := rdK_live (D := X) (i := 0) g1 (by omega)
      rw [show ((0 : Nat) : Int) = 0 from rfl] at this
      rw [this]
    refine dRead_c c6 16 hx okc (by rw [g3]; simp) fun v7 c7 w7 st7 r7 => T2.mk ?_
    replace S := S.go st7 (by decide) (by decide)
    replace hx := hx.mono st7 (by decide) (by decide) (by decide) (by decide)
    obtain ⟨o7, p7, rfl⟩ := r7.form
    refine TSl.mk (TInt.mk ?_)
    rw [hx0]
    refine BS.yes rfl ?_
    have fx : (flK X).2 = 0 := by
      unfold flK
      rw [if_neg (by rw [g1]; simp), useK_live (by omega), if_pos rfl]
    refine dFlush_c hx okc (by rw [g3]; simp) fun c8 w8 st8 hx => TInt.mk ?_
    replace S := S.go st8 (by decide) (by decide)
    rw [fx]
    refine BS.yes rfl ?_
    refine dSectors_c hx (TInt.mk ?_)
    rw [flK_len X, g4, h4]
    exact ⟨rfl, S.below⟩
end Go.Proofs.Yteliekblhcbmgaa.walkDisk

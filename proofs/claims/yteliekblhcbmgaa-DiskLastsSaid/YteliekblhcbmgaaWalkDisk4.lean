/-
  Chapter 01's statements, walked (DiskLasts).
-/
import Derived.Test.YteliekblhcbmgaaWalkDisk2
set_option linter.unusedVariables false
set_option linter.unusedSimpArgs false
namespace Go.Vc
open Go
/-- what a crash leaves comes from what lasted or from an open write -/
theorem crash_from (fs : List Int) (ps : List (Nat × List UInt8)) : ∀ (k : Nat) (L : List (List UInt8)), (∀ l ∈ L, l.length = 512) → (∀ p ∈ ps, p.1 < L.length ∧ p.2.length = 512) → ∀ (i j : Nat) (b : UInt8), ((crash fs ps k L).getD i [])[j]? = some b →
    (L.getD i [])[j]? = some b ∨ ∃ p ∈ ps, p.1 = i ∧ p.2[j]? = some b := by
  induction ps with
  | nil => intro k L _ _ i j b h; exact .inl h
  | cons p ps ih =>
    intro k L hL hp i j b h
    have hp0 := hp p (by simp)
    have hs : (L.getD p.1 []).length = 512 := by
      rw [List.getD_eq_getElem?_getD, List.getElem?_eq_getElem hp0.1]
      exact hL _ (List.getElem_mem hp0.1)
    have hm := mixF_len (f := fateAt fs k) hs hp0.2
    rcases ih (k + 1) _ (fun l hl => by
      rcases List.mem_or_eq_of_mem_set hl with h | h
      · exact hL l h
      · rw [h]; exact hm) (fun q hq => by rw [List.length_set]; exact hp q (by simp [hq])) i j b h with h | ⟨q, hq, h1, h2⟩
    · by_cases hi : p.1 = i
      · subst hi
        have e : (L.set p.1 (mixF (fateAt fs k) (L.getD p.1 []) p.2)).getD p.1 [] = mixF (fateAt fs k) (L.getD p.1 []) p.2 := by
          rw [List.getD_eq_getElem?_getD, List.getElem?_set, if_pos rfl, if_pos hp0.1]; rfl
        rw [e, mixF_get hs hp0.2] at h
        split at h
        · exact .inr ⟨p, by simp, rfl, h⟩
        · exact .inl h
      · have e : (L.set p.1 (mixF (fateAt fs k) (L.getD p.1 []) p.2)).getD i [] = L.getD i [] := by
          rw [List.getD_eq_getElem?_getD, List.getElem?_set_ne hi, List.getD_eq_getElem?_getD]
        rw [e] at h
        exact .inl h
    · exact .inr ⟨q, by simp [hq], h1, h2⟩
/-- a disk that was never limited -/
def LiveK (D : DkR) : Prop := D.ok ∧ D.down = false ∧ D.left = -1 ∧ D.last.length = 8
theorem live_new : LiveK (newK 8) := ⟨newK_ok (by omega), rfl, rfl, List.length_replicate⟩
theorem live_wr {D : DkR} {i : Nat} {l : List UInt8} (h : LiveK D) (hi : i < 8) (hl : l.length = 512) : wrK D i l = ({ D with opn := D.opn ++ [(i, l)] }, 0) ∧ LiveK { D with opn := D.opn ++ [(i, l)] } := by
  obtain ⟨hok, hd, hlf, h8⟩ := h
  have e := wrK_live (D := D) (i := i) (l := l) (by omega) hd (by omega) hl
  have hok2 := wrK_ok hok i l
  rw [e] at hok2
  exact ⟨e, hok2, hd, hlf, h8⟩
theorem live_fl {D : DkR} (h : LiveK D) : (flK D).2 = 0 ∧ LiveK (flK D).1 ∧ (flK D).1.opn = [] := by
  obtain ⟨hok, hd, hlf, h8⟩ := h
  have hu := useK_live (D := D) (by omega)
  have e : flK D = ({ D with last := putAll D.last D.opn, opn := [] }, 0) := by
    unfold flK
    rw [if_neg (by rw [hd]; simp), hu]; rfl
  have hok2 := flK_ok hok
  have hl2 := flK_len D
  rw [e] at hok2 hl2 ⊢
  exact ⟨rfl, ⟨hok2, hd, hlf, by rw [hl2]; exact h8⟩, rfl⟩
def at7 (o : OpK) : Nat := (bitsV .and .i64 o.at' 7).toNat
theorem at7_eq (o : OpK) : bitsV .and .i64 o.at' 7 = (at7 o : Int) ∧ at7 o < 8 := by
  obtain ⟨k, e, hk⟩ := and_mask o.at' 7 (by omega)
  have e : bitsV .and .i64 o.at' 7 = k := e
  unfold at7
  rw [e]
  exact ⟨by omega, by omega⟩
def wrOf (o : OpK) : Nat × List UInt8 := (at7 o, bytesK false o.data)
/-- what a sector may be -/
def mayOf (L : List (List UInt8)) (ps : List (Nat × List UInt8)) (i : Nat) : List (List UInt8) := L.getD i [] :: (ps.filter (·.1 = i)).map (·.2)
theorem mayOf_snoc (L : List (List UInt8)) (ps : List (Nat × List UInt8)) (p : Nat × List UInt8) (i : Nat) : mayOf L (ps ++ [p]) i = if p.1 = i then mayOf L ps i ++ [p.2] else mayOf L ps i := by
  unfold mayOf
  rw [List.filter_append, List.map_append]
  by_cases h : p.1 = i
  · rw [if_pos h]; simp [h]
  · rw [if_neg h]; simp [h]
/-- eight rows of one's own -/
def MayV (tB : Nat) (c : Nat → Nat) (w : World) (cs : List Value) (M : Nat → List (List UInt8)) : Prop := cs.length = 8 ∧ ∀ i, i < 8 → ∃ v, cs[i]? = some v ∧ LsO BytesP tB 1 (view c (20 + i) w) (view c 15 w) v (M i)
theorem MayV.go {tB : Nat} {c c' : Nat → Nat} {w w' : World} {cs : List Value} {M : Nat → List (List UInt8)} {W N : List Nat} (h : MayV tB c w cs M) (st : Step c W N w c' w') (h15 : 15 ∉ W) (hr : ∀ i, i < 8 → 20 + i ∉ W) : MayV tB c' w' cs M := by
  refine ⟨h.1, fun i hi => ?_⟩
  obtain ⟨v, e, hl⟩ := h.2 i hi
  exact ⟨v, e, hl.go (fun _ _ _ _ hp hs => hp.mono hs) st (hr i hi) h15⟩
theorem may_set {tB : Nat} {c c' : Nat → Nat} {w w' : World} {cs : List Value} {M : Nat → List (List UInt8)} {i : Nat} {v : Value} {x : List UInt8} (h : MayV tB c w cs M) (hi : i < 8) (st : Step c [20 + i] [20 + i] w c' w') (hl : LsO BytesP tB 1 (view c' (20 + i) w') (view c' 15 w') v (M i ++ [x])) :
    MayV tB c' w' (cs.set i v) (fun j => if i = j then M j ++ [x] else M j) := by
  refine ⟨by rw [List.length_set]; exact h.1, fun j hj => ?_⟩
  by_cases e : i = j
  · subst e
    refine ⟨v, by rw [List.getElem?_set, if_pos rfl, if_pos (by rw [h.1]; exact hi)], ?_⟩
    dsimp only
    rw [if_pos rfl]; exact hl
  · obtain ⟨u, eu, hu⟩ := h.2 j hj
    refine ⟨u, by rw [List.getElem?_set_ne e]; exact eu, ?_⟩
    dsimp only
    rw [if_neg e]
    exact hu.go (fun _ _ _ _ hp hs => hp.mono hs) st (by simp; omega) (by simp; omega)
end Go.Vc
namespace Go.Proofs.Yteliekblhcbmgaa.walkDisk
open Go.Vc Go.ChangeShapes Go.WideShapes Go.ChangeAt Go.RowKit
attribute [local irreducible] TInt TBool TStr TPtr TSl TAgg TMap TChan T2 T3 T4 BS Req TSome TCell TByte LoadC LoadA StoreC AllocC RunV RunU CallV ExtV EqA StableC StableA StableV TCells ReadV
attribute [local irreducible] DrewC
attribute [local irreducible] newK rdK crK wrK flK bytesK

theorem lasts (v u f : Value) (ops beh : List OpK) (fs : List Int) (w : World) (hv : ScrK (wv w) v ops) (hu : ScrK (wv w) u beh) (hf : RdS (wv w) f 1 fs.length (jvs fs)) (hfs : ∀ f ∈ fs, i64ok f) : CallV Try.prog 4 #[v, u, f] w fun r w' => r = .bool true ∧ Below w.heap.size w w' := by
  obtain ⟨o0, p0, rfl⟩ := LsV.form hv
  obtain ⟨o1, p1, rfl⟩ := LsV.form hu
  obtain ⟨o2, p2, rfl⟩ := hf.form
  have V : ScrK (view (fun _ => 0) 0 w) (.slice o0 ops.length p0) ops := by rw [view0]; exact hv
  have U : ScrK (view (fun _ => 0) 0 w) (.slice o1 beh.length p1) beh := by rw [view0]; exact hu
  have F : RdS (view (fun _ => 0) 0 w) (.slice o2 fs.length p2) 1 fs.length (jvs fs) := by rw [view0]; exact hf
  have S := Fw.start w
  refine law01_DiskLasts_vc ?_
  unfold law01_DiskLasts_VC
  refine speaks01 (fun _ => 0) 9 fun c1 w1 st1 => TBool.mk (BS.no rfl ?_)
  replace S := S.go st1 (by decide) (by decide); replace V := V.mono (st1.sub (by decide)); replace U := U.mono (st1.sub (by decide)); replace F := F.mono (st1.sub (by decide))
  refine great_c c1 9 (V.mono (view_sub _ _ _)) fun g c2 w2 st2 hg => TBool.mk ?_
  replace S := S.go st2 (by decide) (by decide); replace V := V.mono (st2.sub (by decide)); replace U := U.mono (st2.sub (by decide)); replace F := F.mono (st2.sub (by decide))
  refine BS.mk (fun _ => ⟨rfl, S.below⟩) (fun hgf => ?_)
  obtain ⟨hl1000, hops⟩ := hg hgf
  refine great_c c2 9 (U.mono (view_sub _ _ _)) fun g2 c3 w3 st3 hg2 => TBool.mk ?_
  replace S := S.go st3 (by decide) (by decide); replace V := V.mono (st3.sub (by decide)); replace U := U.mono (st3.sub (by decide)); replace F := F.mono (st3.sub (by decide))
  unfold law01_DiskLasts_K1
  refine BS.mk (fun _ => ⟨rfl, S.below⟩) (fun hgf2 => ?_)
  obtain ⟨hb1000, hbeh⟩ := hg2 hgf2
  clear hv hu hf hg hg2
  refine dNew_c c3 10 (fun hb => by omega) fun m8 hm8 _ _ a c4 w4 st4 hd => T2.mk (TPtr.mk (TInt.mk (BS.no rfl ?_)))
  obtain rfl : m8 = 8 := by omega
  replace S := S.go st4 (by decide) (by decide); replace V := V.mono (st4.sub (by decide)); replace U := U.mono (st4.sub (by decide)); replace F := F.mono (st4.sub (by decide))
  refine LoopI.up ops.length (fun i w' => ∃ c' D, Fw w c' w' ∧ ScrK (view c' 0 w') (.slice o0 ops.length p0) ops ∧ ScrK (view c' 0 w') (.slice o1 beh.length p1) beh ∧ RdS (view c' 0 w') (.slice o2 fs.length p2) 1 fs.length (jvs fs) ∧ DkD c' 10 w' a D ∧ LiveK D ∧ D.opn.length ≤ i) ⟨c4, _, S, V, U, F, hd, live_new, by rw [newK_opn]; omega⟩ ?_
  clear S V U F hd
  rintro i w5 B hi ⟨c5, D, S, V, U, F, hd, hlv, hon⟩ back
  have hok := hlv.1
  refine BS.dec (fun hlt => ?_) (fun hge => ?_)
  · obtain ⟨o, ho⟩ := get_of_lt (l := ops) (i := i) (by omega)
    obtain ⟨es, ⟨vd, uf, rfl, rd, ru, _⟩, E⟩ := LsV.at (by omega) V ho
    obtain ⟨od, pd, rfl⟩ := rd.form
    obtain ⟨ou, pu, rfl⟩ := ru.form
    refine Req.bnd ⟨by omega, by omega⟩ (E.all (view_sub _ _ _) ?_)
    refine AllocC.col c5 37 fun z c6 w6 st6 b6 _ => ?_
    replace S := S.go st6.fresh (by decide) (by decide); replace V := V.mono (st6.fresh.sub (by decide)); replace U := U.mono (st6.fresh.sub (by decide)); replace F := F.mono (st6.fresh.sub (by decide)); replace rd := rd.mono (st6.fresh.sub (by decide))
    replace hd := hd.mono st6.fresh (by decide) (by decide) (by decide) (by decide)
    refine RunU.var b6 (by kernel_rfl) rfl (by simp [OpK.vals, Value.oneCell']) fun w7 st7 b7 => ?_
    replace S := S.go st7.step (by decide) (by decide); replace V := V.mono (st7.step.sub (by decide)); replace U := U.mono (st7.step.sub (by decide)); replace F := F.mono (st7.step.sub (by decide)); replace rd := rd.mono (st7.step.sub (by decide))
    replace hd := hd.mono st7.step (by decide) (by decide) (by decide) (by decide)
    refine DrewC.col c6 fun w8 st8 => ?_
    replace S := S.go st8 (by decide) (by decide); replace V := V.mono (st8.sub (by decide)); replace U := U.mono (st8.sub (by decide)); replace F := F.mono (st8.sub (by decide)); replace rd := rd.mono (st8.sub (by decide)); replace b7 := st8.sub (by decide) _ _ b7
    replace hd := hd.mono st8 (by decide) (by decide) (by decide) (by decide)
    refine LoadC.ad (view_sub _ _ _) _ b7 rfl (TInt.mk ?_)
    refine LoadC.ad (view_sub _ _ _) _ b7 rfl (TSl.mk ?_)
    refine bytes_c c6 38 (o := ⟨0, 0, o.data, false, []⟩) (u := .slice none 0 0) (rd.mono (view_sub _ _ _)) rfl (fun e => by simp at e) fun v9 c9 w9 st9 r9 => ?_
    replace S := S.go st9 (by decide) (by decide); replace V := V.mono (st9.sub (by decide)); replace U := U.mono (st9.sub (by decide)); replace F := F.mono (st9.sub (by decide)); replace b7 := st9.sub (by decide) _ _ b7
    replace hd := hd.mono st9 (by decide) (by decide) (by decide) (by decide)
    dsimp only at r9
    obtain ⟨o9, p9, rfl⟩ := r9.form
    refine TSl.mk ⟨StableC.ad (view_sub _ _ _) b7 rfl, ?_⟩
    obtain ⟨e7, h7⟩ := at7_eq o
    rw [e7]
    obtain ⟨ew, hlv2⟩ := live_wr hlv h7 (bytesK_len (d := o.data))
    refine dWrite_c (q := 38) hd hok r9.rd (by decide) (by omega) fun c10 w10 st10 hd => TInt.mk ?_
    replace S := S.go st10 (by decide) (by decide); replace V := V.mono (st10.sub (by decide)); replace U := U.mono (st10.sub (by decide)); replace F := F.mono (st10.sub (by decide))
    rw [ew] at hd
    rw [wrap_i64 (by omega) (by omega)]
    exact back _ (by omega) ⟨c10, _, S, V, U, F, hd, hlv2, by show (D.opn ++ [_]).length ≤ _; rw [List.length_append]; simp; omega⟩
  clear back V
  obtain ⟨f1, f2, f3⟩ := live_fl hlv
  refine dFlush_c hd hok (by omega) fun c6 w6 st6 hd => TInt.mk ?_
  replace S := S.go st6 (by decide) (by decide); replace U := U.mono (st6.sub (by decide)); replace F := F.mono (st6.sub (by decide))
  rw [f1]
  refine BS.no rfl ?_
  generalize (flK D).1 = E at *
  clear hlv hok hon hi hge
  obtain ⟨eok, edn, elf, e8⟩ := f2
  refine AllocC.col c6 5 fun mb c7 w7 st7 b7 _ => ?_
  replace S := S.go st7.fresh (by decide) (by decide); replace U := U.mono (st7.fresh.sub (by decide)); replace F := F.mono (st7.fresh.sub (by decide))
  replace hd := hd.mono st7.fresh (by decide) (by decide) (by decide) (by decide)
  refine RunU.var b7 (by kernel_rfl) rfl (by simp [Value.oneCell']) fun w8 st8 b8 => ?_
  replace S := S.go st8.step (by decide) (by decide); replace U := U.mono (st8.step.sub (by decide)); replace F := F.mono (st8.step.sub (by decide))
  replace hd := hd.mono st8.step (by decide) (by decide) (by decide) (by decide)
  have hM0 : MayV 30 c7 w8 (List.replicate 8 (.slice none 0 0)) (fun _ => []) := ⟨by simp, fun i hi => ⟨.slice none 0 0, by rw [List.getElem?_replicate, if_pos hi], LsO.nil ..⟩⟩
  refine LoopI.up 8 (fun n w' => ∃ c' cs, Fw w c' w' ∧ ScrK (view c' 0 w') (.slice o1 beh.length p1) beh ∧ RdS (view c' 0 w') (.slice o2 fs.length p2) 1 fs.length (jvs fs) ∧ DkD c' 10 w' a E ∧ view c' 5 w' mb = some (.cells cs.toArray 37 (0, 0)) ∧ MayV 30 c' w' cs (fun j => if j < n then [E.last.getD j []] else []))
    ⟨c7, _, S, U, F, hd, b8, hM0⟩ ?_
  clear S U F hd b7 b8 hM0
  rintro n w9 B hn ⟨c9, cs, S, U, F, hd, bM, hM⟩ back
  refine BS.dec (fun hlt => ?_) (fun hge => ?_)
  · have hr : rdK E (n : Int) = (E.last.getD n [], 0) := by
      rw [rdK_live edn (by omega)]
      unfold curK
      rw [f3]; rfl
    refine dRead_c c9 15 hd eok (by rw [f3]; simp) fun v10 c10 w10 st10 r10 => T2.mk ?_
    replace S := S.go st10 (by decide) (by decide); replace U := U.mono (st10.sub (by decide)); replace F := F.mono (st10.sub (by decide)); replace bM := st10.sub (by decide) _ _ bM
    replace hd := hd.mono st10 (by decide) (by decide) (by decide) (by decide)
    replace hM := hM.go st10 (by simp) (fun i hi => by simp)
    rw [hr] at r10
    obtain ⟨o10, p10, rfl⟩ := r10.form
    refine TSl.mk (TInt.mk (Req.bnd ⟨by omega, by omega⟩ ?_))
    rw [Int.toNat_natCast, Nat.mul_one]
    obtain ⟨vr, evr, hL⟩ := hM.2 n (by omega)
    dsimp only at hL
    rw [if_neg (by omega)] at hL
    obtain ⟨oL, cL, rfl⟩ := hL.form
    refine LoadC.ad (view_sub _ _ _) _ bM (by rw [List.getElem?_toArray]; exact evr) (TSl.mk ?_)
    refine AllocC.col c10 37 fun z c11 w11 st11 b11 _ => ?_
    replace S := S.go st11.fresh (by decide) (by decide); replace U := U.mono (st11.fresh.sub (by decide)); replace F := F.mono (st11.fresh.sub (by decide)); replace bM := st11.fresh.sub (by decide) _ _ bM; replace r10 := r10.mono (st11.fresh.sub (by decide))
    replace hd := hd.mono st11.fresh (by decide) (by decide) (by decide) (by decide)
    replace hM := hM.go st11.fresh (by simp) (fun i hi => by simp)
    replace hL := hL.go (fun _ _ _ _ hp hs => hp.mono hs) st11.fresh (by simp) (by simp)
    have one : LsW BytesP 1 (wv w11) (view c11 15 w11) (.slice (some ⟨z, 0, none⟩) 1 1) [E.last.getD n []] := LsW.one (view_sub _ _ _ _ _ b11) rfl ⟨_, rfl, r10.rd⟩
    refine LsO.app slBs hL one (fun _ _ hp => hp.ones) (by simp) (by simp) fun o12 p12 c12 w12 st12 hL => TSl.mk (Req.bnd ⟨by omega, by omega⟩ ?_)
    have st12' := st12.step
    replace hL : LsO BytesP 30 1 (view c12 (20 + n) w12) (view c12 15 w12) _ _ := hL.mono' (fun _ _ hp => hp.mono (st12'.sub (by simp; omega))) (fun _ _ h => h)
    replace S := S.go st12' (by simp [List.mem_range'_1]; omega) (by simp; omega)
    replace U := U.mono (st12'.sub (by simp; omega))
    replace F := F.mono (st12'.sub (by simp; omega))
    replace bM := st12'.sub (by simp; omega) _ _ bM
    replace hd := hd.mono st12' (by simp; omega) (by simp; omega) (by simp; omega) (by simp; omega)
    have hM2 := may_set hM (by omega) st12' (x := E.last.getD n []) (by rw [if_neg (by omega)]; exact hL)
    try rw [Int.toNat_natCast, Nat.mul_one]
    refine StoreC.ad bM (by rw [List.size_toArray, hM.1]; omega) fun w13 _ st13 bM => ?_
    replace S := S.go st13 (by decide) (by decide); replace U := U.mono (st13.sub (by decide)); replace F := F.mono (st13.sub (by decide))
    replace hd := hd.mono st13 (by decide) (by decide) (by decide) (by decide)
    replace hM2 := hM2.go st13 (by simp) (fun i hi => by simp; omega)
    rw [wrap_i64 (by omega) (by omega)]
    rw [toArray_set] at bM
    refine back _ (by omega) ⟨c12, _, S, U, F, hd, bM, hM2.1, fun j hj => ?_⟩
    obtain ⟨vj, ej, hj2⟩ := hM2.2 j hj
    refine ⟨vj, ej, ?_⟩
    dsimp only at hj2 ⊢
    by_cases e : n = j
    · subst e
      rw [if_pos rfl, if_neg (by omega)] at hj2
      rw [if_pos (by omega)]; exact hj2
    · rw [if_neg e] at hj2
      by_cases hjn : j < n
      · rw [if_pos hjn] at hj2
        rw [if_pos (by omega)]; exact hj2
      · rw [if_neg hjn] at hj2
        rw [if_neg (by omega)]; exact hj2
  have : n = 8 := by omega
  subst this
  clear back
  have hM1 : MayV 30 c9 w9 cs (mayOf E.last []) := ⟨hM.1, fun j hj => by
    obtain ⟨vj, ej, h⟩ := hM.2 j hj
    dsimp only at h
    rw [if_pos hj] at h
    exact ⟨vj, ej, h⟩⟩
  clear hM
  refine LoopI.up beh.length (fun n w' => ∃ c' cs, Fw w c' w' ∧ ScrK (view c' 0 w') (.slice o1 beh.length p1) beh ∧ RdS (view c' 0 w') (.slice o2 fs.length p2) 1 fs.length (jvs fs) ∧ DkD c' 10 w' a { E with opn := (beh.take n).map wrOf } ∧ LiveK { E with opn := (beh.take n).map wrOf } ∧ view c' 5 w' mb = some (.cells cs.toArray 37 (0, 0)) ∧ MayV 30 c' w' cs (mayOf E.last ((beh.take n).map wrOf)))
    ⟨c9, cs, S, U, F, by have : ({ E with opn := (beh.take 0).map wrOf } : DkR) = E := by rw [List.take_zero, List.map_nil, ← f3]
                         rw [this]; exact hd, by have : ({ E with opn := (beh.take 0).map wrOf } : DkR) = E := by rw [List.take_zero, List.map_nil, ← f3]
                                                 rw [this]; exact ⟨eok, edn, elf, e8⟩, bM, hM1⟩ ?_
  clear S U F hd bM hM1 cs
  clear hn hge
  rintro n w10 B hn ⟨c10, cs, S, U, F, hd, hlv, bM, hM⟩ back
  have hok := hlv.1
  have hon : ((beh.take n).map wrOf).length ≤ 1000 := by rw [List.length_map, List.length_take]; omega
  refine BS.dec (fun hlt => ?_) (fun hge => ?_)
  · obtain ⟨o, ho⟩ := get_of_lt (l := beh) (i := n) (by omega)
    obtain ⟨es, ⟨vd, uf, rfl, rd, ru, _⟩, El⟩ := LsV.at (by omega) U ho
    obtain ⟨od, pd, rfl⟩ := rd.form
    obtain ⟨ou, pu, rfl⟩ := ru.form
    refine Req.bnd ⟨by omega, by omega⟩ (El.all (view_sub _ _ _) ?_)
    refine AllocC.col c10 37 fun z c11 w11 st11 b11 _ => ?_
    replace S := S.go st11.fresh (by decide) (by decide); replace U := U.mono (st11.fresh.sub (by decide)); replace F := F.mono (st11.fresh.sub (by decide)); replace bM := st11.fresh.sub (by decide) _ _ bM; replace rd := rd.mono (st11.fresh.sub (by decide))
    replace hd := hd.mono st11.fresh (by decide) (by decide) (by decide) (by decide)
    replace hM := hM.go st11.fresh (by simp) (fun i hi => by simp)
    refine RunU.var b11 (by kernel_rfl) rfl (by simp [OpK.vals, Value.oneCell']) fun w12 st12 b12 => ?_
    replace S := S.go st12.step (by decide) (by decide); replace U := U.mono (st12.step.sub (by decide)); replace F := F.mono (st12.step.sub (by decide)); replace bM := st12.step.sub (by decide) _ _ bM; replace rd := rd.mono (st12.step.sub (by decide))
    replace hd := hd.mono st12.step (by decide) (by decide) (by decide) (by decide)
    replace hM := hM.go st12.step (by simp) (fun i hi => by simp; omega)
    refine LoadC.ad (view_sub _ _ _) _ b12 rfl (TSl.mk ?_)
    refine bytes_c c11 15 (o := ⟨0, 0, o.data, false, []⟩) (u := .slice none 0 0) (rd.mono (view_sub _ _ _)) rfl (fun e => by simp at e) fun v13 c13 w13 st13 r13 => ?_
    replace S := S.go st13 (by decide) (by decide); replace U := U.mono (st13.sub (by decide)); replace F := F.mono (st13.sub (by decide)); replace bM := st13.sub (by decide) _ _ bM; replace b12 := st13.sub (by decide) _ _ b12
    replace hd := hd.mono st13 (by decide) (by decide) (by decide) (by decide)
    replace hM := hM.go st13 (by simp) (fun i hi => by simp)
    dsimp only at r13
    obtain ⟨o13, p13, rfl⟩ := r13.form
    refine TSl.mk ?_
    refine LoadC.ad (view_sub _ _ _) _ b12 rfl (TInt.mk ?_)
    obtain ⟨e7, h7⟩ := at7_eq o
    rw [e7]
    obtain ⟨ew, hlv2⟩ := live_wr hlv h7 (bytesK_len (d := o.data))
    refine dWrite_c (q := 15) hd hok r13.rd (by decide) (by show ((beh.take n).map wrOf).length ≤ _; omega) fun c14 w14 st14 hd => TInt.mk ?_
    replace S := S.go st14 (by decide) (by decide); replace U := U.mono (st14.sub (by decide)); replace F := F.mono (st14.sub (by decide)); replace bM := st14.sub (by decide) _ _ bM; replace b12 := st14.sub (by decide) _ _ b12; replace r13 := r13.mono (st14.sub (by decide))
    replace hM := hM.go st14 (by simp) (fun i hi => by simp; omega)
    rw [ew] at hd
    refine DrewC.col c14 fun w15 st15 => ?_
    replace S := S.go st15 (by decide) (by decide); replace U := U.mono (st15.sub (by decide)); replace F := F.mono (st15.sub (by decide)); replace bM := st15.sub (by decide) _ _ bM; replace b12 := st15.sub (by decide) _ _ b12; replace r13 := r13.mono (st15.sub (by decide))
    replace hd := hd.mono st15 (by decide) (by decide) (by decide) (by decide)
    replace hM := hM.go st15 (by simp) (fun i hi => by simp)
    refine LoadC.ad (view_sub _ _ _) _ b12 rfl (TInt.mk ?_)
    refine LoadC.ad (view_sub _ _ _) _ b12 rfl (TInt.mk ?_)
    rw [e7]
    refine Req.bnd ⟨by omega, by omega⟩ ?_
    rw [Int.toNat_natCast, Nat.mul_one]
    obtain ⟨vr, evr, hL⟩ := hM.2 (at7 o) h7
    obtain ⟨oL, cL, rfl⟩ := hL.form
    have hml : (mayOf E.last ((beh.take n).map wrOf) (at7 o)).length ≤ 1001 := by
      unfold mayOf
      rw [List.length_cons, List.length_map]
      have := List.length_filter_le (fun p : Nat × List UInt8 => decide (p.1 = at7 o)) ((beh.take n).map wrOf)
      omega
    refine LoadC.ad (view_sub _ _ _) _ bM (by rw [List.getElem?_toArray]; exact evr) (TSl.mk ?_)
    refine AllocC.col c14 38 fun y c16 w16 st16 b16 _ => ?_
    replace S := S.go st16.fresh (by decide) (by decide); replace U := U.mono (st16.fresh.sub (by decide)); replace F := F.mono (st16.fresh.sub (by decide)); replace bM := st16.fresh.sub (by decide) _ _ bM; replace b12 := st16.fresh.sub (by decide) _ _ b12; replace r13 := r13.mono (st16.fresh.sub (by decide))
    replace hd := hd.mono st16.fresh (by decide) (by decide) (by decide) (by decide)
    replace hM := hM.go st16.fresh (by simp) (fun i hi => by simp)
    replace hL := hL.go (fun _ _ _ _ hp hs => hp.mono hs) st16.fresh (by simp) (by simp)
    refine ⟨StableC.ad (view_sub _ _ _) b12 rfl, StableC.ad (view_sub _ _ _) b12 rfl, StableC.ad (view_sub _ _ _) bM (by rw [List.getElem?_toArray]; exact evr), ?_⟩
    have one : LsW BytesP 1 (wv w16) (view c16 15 w16) (.slice (some ⟨y, 0, none⟩) 1 1) [bytesK false o.data] := LsW.one (view_sub _ _ _ _ _ b16) rfl ⟨_, rfl, r13.rd⟩
    refine LsO.app slBs hL one (fun _ _ hp => hp.ones) (by rw [List.length_singleton]; omega) (by rw [List.length_singleton]; omega) fun o17 p17 c17 w17 st17 hL => TSl.mk ?_
    have st17' := st17.step
    replace hL : LsO BytesP 30 1 (view c17 (20 + at7 o) w17) (view c17 15 w17) _ _ := hL.mono' (fun _ _ hp => hp.mono (st17'.sub (by simp; omega))) (fun _ _ h => h)
    replace S := S.go st17' (by simp [List.mem_range'_1]; omega) (by simp; omega)
    replace U := U.mono (st17'.sub (by simp; omega))
    replace F := F.mono (st17'.sub (by simp; omega))
    replace bM := st17'.sub (by simp; omega) _ _ bM
    replace b12 := st17'.sub (by simp; omega) _ _ b12
    replace hd := hd.mono st17' (by simp; omega) (by simp; omega) (by simp; omega) (by simp; omega)
    have hM2 := may_set hM h7 st17' (x := bytesK false o.data) hL
    refine ⟨StableC.ad (view_sub _ _ _) b12 rfl, Req.bnd ⟨by omega, by omega⟩ ?_⟩
    try rw [Int.toNat_natCast, Nat.mul_one]
    refine StoreC.ad bM (by rw [List.size_toArray, hM.1]; omega) fun w18 _ st18 bM => ?_
    replace S := S.go st18 (by decide) (by decide); replace U := U.mono (st18.sub (by decide)); replace F := F.mono (st18.sub (by decide))
    replace hd := hd.mono st18 (by decide) (by decide) (by decide) (by decide)
    replace hM2 := hM2.go st18 (by simp) (fun i hi => by simp; omega)
    rw [wrap_i64 (by omega) (by omega)]
    rw [toArray_set] at bM
    have et : (beh.take (n + 1)).map wrOf = (beh.take n).map wrOf ++ [(at7 o, bytesK false o.data)] := by
      rw [List.take_add_one, ho, Option.toList_some, List.map_append]; rfl
    refine back _ (by omega) ⟨c17, _, S, U, F, by rw [et]; exact hd, by rw [et]; exact hlv2, bM, hM2.1, fun j hj => ?_⟩
    obtain ⟨vj, ej, hj2⟩ := hM2.2 j hj
    refine ⟨vj, ej, ?_⟩
    rw [et, mayOf_snoc]
    exact hj2
  have : n = beh.length := by omega
  subst this
  clear back
  rw [List.take_length] at hd hlv hok hon hM
  have hokE := hok
  generalize hps : beh.map wrOf = ps at *
  refine dCrash_c c10 30 hd hok (by show ps.length ≤ _; omega) (F.mono (view_sub _ _ _)) hfs fun ax c11 w11 st11 hx => TPtr.mk (BS.no rfl ?_)
  replace S := S.go st11 (by decide) (by decide); replace bM := st11.sub (by decide) _ _ bM
  replace hM := hM.go st11 (by simp) (fun i hi => by simp)
  have okc := crK_ok hok fs
  obtain ⟨g1, g2, g3⟩ := crK_facts { E with opn := ps } fs
  have g4 := crK_len { E with opn := ps } fs
  have g5 : (crK { E with opn := ps } fs).last = crash fs ps 0 E.last := by unfold crK; rfl
  have from' := crash_from fs ps 0 E.last eok.1 hok.2.1
  generalize crK { E with opn := ps } fs = X at *
  have x8 : X.last.length = 8 := by rw [g4]; exact e8
  clear hd U F hlv hok
  refine LoopI.up 8 (fun n w' => ∃ c' cs, Fw w c' w' ∧ DkD c' 30 w' ax X ∧ view c' 5 w' mb = some (.cells cs.toArray 37 (0, 0)) ∧ MayV 30 c' w' cs (mayOf E.last ps)) ⟨c11, cs, S, hx, bM, hM⟩ ?_
  clear S hx bM hM cs
  clear hn hge
  rintro n w12 B hn ⟨c12, cs, S, hx, bM, hM⟩ back
  refine BS.dec (fun hlt => ?_) (fun hge => ⟨rfl, S.below⟩)
  have hr : rdK X (n : Int) = (X.last.getD n [], 0) := by
    rw [rdK_live g1 (by omega)]
    unfold curK
    rw [g3]; rfl
  refine dRead_c c12 16 hx okc (by rw [g3]; simp) fun v13 c13 w13 st13 r13 => T2.mk ?_
  replace S := S.go st13 (by decide) (by decide); replace bM := st13.sub (by decide) _ _ bM
  replace hx := hx.mono st13 (by decide) (by decide) (by decide) (by decide)
  replace hM := hM.go st13 (by simp) (fun i hi => by simp)
  rw [hr] at r13 ⊢
  have hs512 : (X.last.getD n []).length = 512 := by
    rw [List.getD_eq_getElem?_getD, List.getElem?_eq_getElem (by omega)]
    exact okc.1 _ (List.getElem_mem _)
  rw [g5] at hs512 r13 ⊢
  dsimp only at r13 ⊢
  have hfrom := fun j b => from' n j b
  generalize (crash fs ps 0 E.last).getD n [] = s at *
  obtain ⟨o13, p13, rfl⟩ := r13.form
  refine TSl.mk (TInt.mk (BS.no rfl ?_))
  unfold law01_DiskLasts_K2
  refine BS.no (by simp [hs512]) ?_
  have w1' : IntKind.wrap .i64 ((n : Int) + 1) = (n : Int) + 1 := wrap_i64 (by omega) (by omega)
  rw [w1']
  have h512 : ∀ x ∈ mayOf E.last ps n, x.length = 512 := fun x hx => by
    unfold mayOf at hx
    rcases List.mem_cons.1 hx with rfl | hx
    · rw [List.getD_eq_getElem?_getD, List.getElem?_eq_getElem (by omega)]
      exact eok.1 _ (List.getElem_mem _)
    · obtain ⟨p, hp, rfl⟩ := List.mem_map.1 hx
      exact (hokE.2.1 p (List.mem_filter.1 hp).1).2
  obtain ⟨vr, evr, hL⟩ := hM.2 n (by omega)
  obtain ⟨oL, cL, rfl⟩ := hL.form
  refine LoopI.up s.length (fun q w' => Fw w c13 w' ∧ DkD c13 30 w' ax X ∧ view c13 5 w' mb = some (.cells cs.toArray 37 (0, 0)) ∧ MayV 30 c13 w' cs (mayOf E.last ps) ∧ LsO BytesP 30 1 (view c13 (20 + n) w') (view c13 15 w') (.slice oL (mayOf E.last ps n).length cL) (mayOf E.last ps n) ∧ OwS (view c13 16 w') (.slice o13 s.length p13) 5 1 s.length (bvs s)) ⟨S, hx, bM, hM, hL, r13⟩ ?_
  clear S hx bM hM hL r13
  rintro q w14 B5 hq ⟨S, hx, bM, hM, hL, r13⟩ back5
  refine BS.dec (fun hql => ?_) (fun hqg => back _ (by omega) ⟨c13, cs, S, hx, bM, hM⟩)
  obtain ⟨b, hb⟩ := get_of_lt (l := s) (i := q) (by omega)
  refine Req.bnd ⟨by omega, by omega⟩ ?_
  rw [Int.toNat_natCast, Nat.mul_one]
  refine LoadC.ad (view_sub _ _ _) _ bM (by rw [List.getElem?_toArray]; exact evr) (TSl.mk ?_)
  have hml : (mayOf E.last ps n).length ≤ 1001 := by
    unfold mayOf
    rw [List.length_cons, List.length_map]
    have := List.length_filter_le (fun p : Nat × List UInt8 => decide (p.1 = n)) ps
    omega
  have hall : (mayOf E.last ps n).any (fun x => x[q]? == some b) = true := by
    rw [List.any_eq_true]
    rcases hfrom q b hb with h | ⟨p, hp, h1, h2⟩
    · exact ⟨E.last.getD n [], by unfold mayOf; exact List.mem_cons_self .., by show ((E.last.getD n [])[q]? == some b) = true; rw [h]; simp⟩
    · refine ⟨p.2, ?_, by simpa using h2⟩
      unfold mayOf
      refine List.mem_cons_of_mem _ (List.mem_map.2 ⟨p, List.mem_filter.2 ⟨hp, by simpa using h1⟩, rfl⟩)
  generalize mayOf E.last ps n = ML at *
  refine ⟨fun vs w' => ∃ i : Nat, i ≤ ML.length ∧ vs = [.bool ((ML.take i).any (fun x => x[q]? == some b)), .int .i64 (i : Int)] ∧ Fw w c13 w' ∧ DkD c13 30 w' ax X ∧ view c13 5 w' mb = some (.cells cs.toArray 37 (0, 0)) ∧ MayV 30 c13 w' cs (mayOf E.last ps) ∧ LsO BytesP 30 1 (view c13 (20 + n) w') (view c13 15 w') (.slice oL ML.length cL) ML ∧ OwS (view c13 16 w') (.slice o13 s.length p13) 5 1 s.length (bvs s),
    fun vs _ => match vs with | [_, .int _ x] => ((ML.length : Int) - x).toNat | _ => 0, ⟨0, Nat.zero_le _, by simp, S, hx, bM, hM, hL, r13⟩, ?_⟩
  clear S hx bM hM hL r13
  rintro _ w15 bf nf ⟨i, hi, e, S, hx, bM, hM, hL, r13⟩
  simp only [List.cons.injEq, Value.bool.injEq, Value.int.injEq, true_and, and_true] at e
  obtain ⟨rfl, rfl⟩ := e
  refine BS.dec (fun hil => ?_) (fun hig => ?_)
  · obtain ⟨x, hx2⟩ := get_of_lt (l := ML) (i := i) (by omega)
    have x512 := h512 x (List.mem_of_getElem? hx2)
    have et : (ML.take (i + 1)).any (fun x => x[q]? == some b) = ((ML.take i).any (fun x => x[q]? == some b) || (x[q]? == some b)) := by
      rw [List.take_add_one, hx2, Option.toList_some, List.any_append]; simp
    obtain ⟨es, ⟨vx, rfl, rx⟩, Ex⟩ := LsO.at (by omega) hL hx2
    obtain ⟨ox, px, rfl⟩ := rx.form
    refine Req.bnd ⟨by omega, by omega⟩ (Ex.ld0 (view_sub _ _ _) rfl (TSl.mk ?_))
    refine DrewC.col c13 fun w16 st16 => ?_
    replace S := S.go st16 (by decide) (by decide); replace bM := st16.sub (by decide) _ _ bM; replace rx := rx.mono (st16.sub (by decide)); replace r13 := r13.mono (st16.sub (by decide))
    replace hx := hx.mono st16 (by decide) (by decide) (by decide) (by decide)
    replace hM := hM.go st16 (by simp) (fun i hi => by simp)
    replace hL := hL.go (fun _ _ _ _ hp hs => hp.mono hs) st16 (by simp) (by simp)
    rw [wrap_i64 (by omega) (by omega)]
    have mu : ((ML.length : Int) - ((i : Int) + 1)).toNat < ((ML.length : Int) - (i : Int)).toNat := by omega
    refine BS.mk (fun hbt => ⟨⟨i + 1, by omega, by rw [et, hbt]; simp, S, hx, bM, hM, hL, r13⟩, mu⟩) (fun hbf => ?_)
    refine BS.yes (by simp [x512]) ?_
    obtain ⟨y, hy⟩ := get_of_lt (l := x) (i := q) (by omega)
    refine Req.bnd ⟨by omega, by omega⟩ (rx.elt (view_sub _ _ _) (by rw [bvs_get, hy]; rfl) (TInt.mk ?_))
    refine Req.bnd ⟨by omega, by omega⟩ (r13.rd.elt (view_sub _ _ _) (by rw [bvs_get, hb]; rfl) (TInt.mk ?_))
    have eb : (((y.toNat : Nat) : Int) == ((b.toNat : Nat) : Int)) = (ML.take (i + 1)).any (fun x => x[q]? == some b) := by
      rw [et, hbf, hy, Bool.false_or, Bool.eq_iff_iff]
      simp only [beq_iff_eq, Option.some.injEq]
      exact ⟨fun h => UInt8.toNat_inj.1 (by omega), fun h => by rw [h]⟩
    refine ⟨⟨i + 1, by omega, by rw [eb]; simp, S, hx, bM, hM, hL, r13⟩, mu⟩
  · have : i = ML.length := by omega
    subst this
    rw [List.take_length, hall]
    refine BS.no rfl ?_
    rw [wrap_i64 (by omega) (by omega)]
    exact back5 _ (by omega) ⟨S, hx, bM, hM, hL, r13⟩
end Go.Proofs.Yteliekblhcbmgaa.walkDisk

/-
  The document's crash.
-/
import Derived.Test.YteliekblhcbmgaaDk5
import Derived.Test.YteliekblhcbmgaaOff
set_option linter.unusedVariables false
set_option linter.unusedSimpArgs false
namespace Go.Vc
open Go
theorem upto_same {α : Type} {A B : List α} {j : Nat} (hj : j < B.length) (h : A[j]? = B[j]?) : upto A B (j + 1) = upto A B j := by
  unfold upto
  rw [List.take_add_one, h, List.getElem?_eq_getElem hj, Option.toList_some, List.append_assoc, List.singleton_append, List.getElem_cons_drop]
end Go.Vc
namespace Go.Proofs.Yteliekblhcbmgaa
open Go.Vc
attribute [local irreducible] TInt TBool TStr TPtr TSl TAgg TMap TChan T2 T3 T4 BS Req TSome TCell TByte LoadC LoadA StoreC AllocC RunV RunU CallV ExtV EqA StableC StableA StableV TCells ReadV
attribute [local irreducible] DrewC
theorem floor_c {w : World} {a b : Int} {R : Value → World → Prop} (ha : i64ok a) (hb : 1 < b) (hb2 : b ≤ 1000) (c : Nat → Nat) (h : ∀ w', Step c [] [] w c w' → R (.tuple #[.int .i64 (a / b), .int .i64 (a % b)]) w') : CallV Try.prog 30 #[.int .i64 a, .int .i64 b] w R := by
  refine ref01_floor_vc ?_
  unfold ref01_floor_VC
  refine DrewC.col c fun w1 st1 => Req.ne (by omega) (Req.ne (by omega) ?_)
  obtain ⟨h1, h2⟩ := ha
  have hlt := Int.emod_lt_of_pos a (b := b) (by omega)
  have hge := Int.emod_nonneg a (b := b) (by omega)
  have hdm := Int.mul_ediv_add_emod a b
  have htm := Int.mul_tdiv_add_tmod a b
  have := h w1 st1
  have qb : -9223372036854775808 ≤ a / b ∧ a / b < 9223372036854775808 := by
    refine ⟨?_, ?_⟩
    · have : (-9223372036854775808) ≤ a / b := by
        rw [Int.le_ediv_iff_mul_le (by omega)]
        have : (-9223372036854775808) * b ≤ -9223372036854775808 := by omega
        omega
      exact this
    · have : a / b < 9223372036854775808 := by
        rw [Int.ediv_lt_iff_lt_mul (by omega)]
        have : (9223372036854775808 : Int) ≤ 9223372036854775808 * b := by omega
        omega
      exact this
  by_cases hneg : Int.tmod a b < 0
  · rw [decide_eq_true hneg]
    refine BS.yes rfl ?_
    have hna : a < 0 := by
      rcases Int.lt_or_le a 0 with h | h
      · exact h
      · have := Int.tmod_nonneg b h; omega
    have e3 : Int.tmod a b = a % b - b := by
      have := Int.tmod_eq_emod (a := a) (b := b)
      split at this
      · rename_i hh
        rcases hh with hh | hh
        · omega
        · have := Int.emod_eq_zero_of_dvd hh; omega
      · rw [this]; omega
    have e4 : Int.tdiv a b = a / b + 1 := by
      rw [e3] at htm
      have hmul : b * (Int.tdiv a b - (a / b + 1)) = 0 := by rw [Int.mul_sub, Int.mul_add]; omega
      rcases Int.mul_eq_zero.1 hmul with h | h <;> omega
    rw [e3, e4]
    by_cases ht : a / b + 1 < 9223372036854775808
    · rw [wrap_i64 (n := a / b + 1) (by omega) ht, wrap_i64 (n := a % b - b + b) (by omega) (by omega), wrap_i64 (by omega) (by omega), show a / b + 1 - 1 = a / b by omega, show a % b - b + b = a % b by omega]
      exact this
    · exfalso
      have : a / b < 0 := Int.ediv_neg_of_neg_of_pos hna (by omega)
      omega
  · rw [decide_eq_false hneg]
    refine BS.no rfl ?_
    have e3 : Int.tmod a b = a % b := by
      have := Int.tmod_eq_emod (a := a) (b := b)
      split at this
      · omega
      · rw [this] at hneg ⊢
        omega
    have e4 : Int.tdiv a b = a / b := by
      rw [e3] at htm
      have hmul : b * (Int.tdiv a b - a / b) = 0 := by rw [Int.mul_sub]; omega
      rcases Int.mul_eq_zero.1 hmul with h | h <;> omega
    rw [e3, e4, wrap_i64 qb.1 qb.2]
    exact this
theorem mCrash_c (c : Nat → Nat) (k : Nat) {kd : Nat} {w : World} {a : Addr} {D : DkR} {vF : Value} {fs : List Int} {R : Value → World → Prop} (hd : DkM c kd w a D) (hok : D.ok) (hn : D.opn.length ≤ 100000) (hf : RdS (wv w) vF 1 fs.length (jvs fs)) (hfs : ∀ f ∈ fs, i64ok f)
    (h : ∀ a' c' w', Step c [] [k, k + 1, k + 2, k + 3, k + 4] w c' w' → DkM c' k w' a' (crK D fs) → R (.pointer (some a')) w') : CallV Try.prog 21 #[.pointer (some a), vF] w R := by
  obtain ⟨b, vA, vB, rfl, hb, hL, hO⟩ := hd
  obtain ⟨oF, cF, rfl⟩ := hf.form
  obtain ⟨oA, cA, rfl⟩ := hL.form
  obtain ⟨oB, cB, rfl⟩ := hO.form
  have b0 : view (fun _ => 0) 0 w b = some (.cells (dcells (.slice oA D.last.length cA) (.slice oB D.opn.length cB) D) 66 (0, 0)) := by rw [view0]; exact view_sub _ _ _ _ _ hb
  have LA : BlsV (view (fun _ => 0) 0 w) (.slice oA D.last.length cA) D.last := by rw [view0]; exact hL.rd (fun _ _ hp => hp.mono (view_sub _ _ _)) (view_sub _ _ _)
  have LB : WrsV (view (fun _ => 0) 0 w) (.slice oB D.opn.length cB) D.opn := by rw [view0]; exact hO.rd (fun _ _ hp => hp.mono (view_sub _ _ _)) (view_sub _ _ _)
  have F : RdS (view (fun _ => 0) 0 w) (.slice oF fs.length cF) 1 fs.length (jvs fs) := by rw [view0]; exact hf
  clear hb hL hO
  have S := Fr.start w
  have hlen5 := hok.2.2.2.2
  refine ref01_Disk_Crash_vc ?_
  unfold ref01_Disk_Crash_VC
  refine AllocC.col (fun _ => 0) 1 fun x c1 w1 st1 b1 _ => ?_
  replace S := S.go st1.step (by decide) (by decide); replace b0 := st1.step.sub (by decide) _ _ b0; replace LA := LA.mono (st1.step.sub (by decide)); replace LB := LB.mono (st1.step.sub (by decide)); replace F := F.mono (st1.step.sub (by decide))
  refine LoopI.up D.last.length (fun i w' => ∃ c' vL M, Fr w c' w' ∧ view c' 0 w' b = some (.cells (dcells (.slice oA D.last.length cA) (.slice oB D.opn.length cB) D) 66 (0, 0)) ∧ BlsV (view c' 0 w') (.slice oA D.last.length cA) D.last ∧ WrsV (view c' 0 w') (.slice oB D.opn.length cB) D.opn ∧ RdS (view c' 0 w') (.slice oF fs.length cF) 1 fs.length (jvs fs) ∧ (view c' 1 w' x = some (.cells (dcells vL (.slice none 0 0) (newK 0)) 66 (0, 0)) ∧ LsO (OwnP tU8) 30 1 (view c' 2 w') (view c' 4 w') vL M ∧ (M.map (·.2)).Nodup) ∧ M.map (·.1) = D.last.take i)
    ⟨c1, _, [], S, b0, LA, LB, F, ⟨b1, LsO.nil .., by simp⟩, by simp⟩ ?_
  clear S b0 LA LB F b1
  rintro i w2 B hi ⟨c2, vL, M, S, b0, LA, LB, F, ⟨b1, hL, hnd⟩, hM⟩ back
  obtain ⟨oL, cL, rfl⟩ := hL.form
  have hMl : M.length = min i D.last.length := by have := congrArg List.length hM; rw [List.length_map, List.length_take] at this; exact this
  refine LoadC.ad (view_sub _ _ _) _ b0 rfl (TSl.mk ?_)
  refine BS.dec (fun hlt => ?_) (fun hge => ?_)
  · obtain ⟨l, hl⟩ := get_of_lt (l := D.last) (i := i) (by omega)
    have l512 := hok.1 l (List.mem_of_getElem? hl)
    refine DrewC.col c2 fun w3 st3 => ?_
    replace S := S.go st3 (by decide) (by decide); replace b0 := st3.sub (by decide) _ _ b0; replace LA := LA.mono (st3.sub (by decide)); replace LB := LB.mono (st3.sub (by decide)); replace F := F.mono (st3.sub (by decide)); replace b1 := st3.sub (by decide) _ _ b1
    replace hL := hL.go (fun _ _ _ _ hp hs => hp.mono hs) st3 (by decide) (by decide)
    refine LoadC.ad (view_sub _ _ _) _ b1 rfl (TSl.mk ?_)
    refine LoadC.ad (view_sub _ _ _) _ b0 rfl (TSl.mk ?_)
    obtain ⟨es, ⟨v, rfl, rv⟩, E⟩ := LsV.at (by omega) LA hl
    obtain ⟨ov, pv, rfl⟩ := rv.form
    obtain ⟨aE, eaE, hE⟩ := E.adr (by omega)
    refine Req.bnd ⟨by omega, by omega⟩ ?_
    rw [eaE]
    refine TSome.mk (LoadC.mk (by have := hE (w := w3) (view_sub _ _ _) (k := 0) rfl; rw [show (aE.add ((i : Int).toNat * 1)).add 0 = aE.add ((i : Int).toNat * 1) by rfl] at this; exact this) (TSl.mk ?_))
    refine AllocC.col c2 5 fun y cX wX stA bA hnew => ?_
    refine ⟨StableC.ad (view_sub _ _ _) (stA.fresh.sub (by decide) _ _ b1) rfl, StableC.ad (view_sub _ _ _) (stA.fresh.sub (by decide) _ _ b0) (by rw [eaE]; rfl), StableC.mk (by have := hE (w := wX) ((stA.fresh.sub (by decide)).trans (view_sub _ _ _)) (k := 0) rfl; exact this), ?_⟩
    refine app_bytes slU8 (OwS.some_bytes bA) ((rv.mono (stA.fresh.sub (by decide))).mono (view_sub _ _ _)) (by simp; omega) fun o4 p4 c4 w4 stB r4 => TSl.mk ?_
    rw [List.nil_append] at r4 ⊢
    have st4 := Wr.step0 stA.fresh (by simp) stB (size_le_of_none hnew)
    clear E hE
    replace S := S.go st4 (by decide) (by decide); replace b0 := st4.sub (by decide) _ _ b0; replace LA := LA.mono (st4.sub (by decide)); replace LB := LB.mono (st4.sub (by decide)); replace F := F.mono (st4.sub (by decide)); replace b1 := st4.sub (by decide) _ _ b1
    replace hL := hL.go (fun _ _ _ _ hp hs => hp.mono hs) st4 (by decide) (by decide)
    obtain ⟨g, curg, rfl, hgv⟩ := r4.at0 (by omega)
    have hcg := (view_out hgv).1
    have hgM : g ∉ M.map (·.2) := fun hmem => by
      obtain ⟨y, hy, hyg⟩ := List.mem_map.1 hmem
      obtain ⟨n, hn⟩ := List.getElem?_of_mem hy
      obtain ⟨xs, ho, hx⟩ := hL
      obtain ⟨cp, e, hown⟩ := hx n y hn
      obtain ⟨cur, hg, _⟩ := hown.cur
      have := (view_out hg).1
      rw [hyg, hcg] at this
      omega
    replace S := S.mix (x := 5) (y := 4) (by decide) (by decide)
    replace b0 := mixc_other (c := c4) (x := 5) (y := 4) (z := 0) (by decide) w4 _ _ b0
    replace b1 := mixc_other (c := c4) (x := 5) (y := 4) (z := 1) (by decide) w4 _ _ b1
    replace LA := LA.mono (mixc_other (c := c4) (x := 5) (y := 4) (z := 0) (by decide) w4)
    replace LB := LB.mono (mixc_other (c := c4) (x := 5) (y := 4) (z := 0) (by decide) w4)
    replace F := F.mono (mixc_other (c := c4) (x := 5) (y := 4) (z := 0) (by decide) w4)
    replace hL : LsO (OwnP tU8) 30 1 (view (mixc c4 5 4) 2 w4) (view (mixc c4 5 4) 4 w4) _ _ := hL.mono' (fun _ _ hp => hp.mono (mixc_other (by decide) w4)) (mixc_other (by decide) w4)
    replace r4 := r4.mono (mixc_this (y := 4) w4)
    generalize mixc c4 5 4 = c4' at *
    refine ⟨StableC.ad (view_sub _ _ _) b1 rfl, ?_⟩
    refine AllocC.col c4' 6 fun z c5 w5 st5 b5 _ => ?_
    replace S := S.go st5.fresh (by decide) (by decide); replace b0 := st5.fresh.sub (by decide) _ _ b0; replace LA := LA.mono (st5.fresh.sub (by decide)); replace LB := LB.mono (st5.fresh.sub (by decide)); replace F := F.mono (st5.fresh.sub (by decide)); replace b1 := st5.fresh.sub (by decide) _ _ b1; replace r4 := r4.mono (st5.fresh.sub (by decide))
    replace hL := hL.go (fun _ _ _ _ hp hs => hp.mono hs) st5.fresh (by decide) (by decide)
    refine ⟨StableC.ad (view_sub _ _ _) b1 rfl, ?_⟩
    have one : LsW (OwnP tU8) 1 (wv w5) (view c5 4 w5) (.slice (some ⟨z, 0, none⟩) 1 1) [(l, g)] := LsW.one (view_sub _ _ _ _ _ b5) rfl ⟨p4, rfl, r4⟩
    refine LsO.app slBs hL one (fun _ _ hp => hp.ones) (by simp; omega) (by simp; omega) fun o6 p6 c6 w6 st6 hL => TSl.mk ?_
    replace hL : LsO (OwnP tU8) 30 1 (view c6 2 w6) (view c6 4 w6) _ _ := hL.mono' (fun _ _ hp => hp.mono (st6.step.sub (by decide))) (fun _ _ h => h)
    replace S := S.go st6.step (by decide) (by decide); replace b0 := st6.step.sub (by decide) _ _ b0; replace LA := LA.mono (st6.step.sub (by decide)); replace LB := LB.mono (st6.step.sub (by decide)); replace F := F.mono (st6.step.sub (by decide)); replace b1 := st6.step.sub (by decide) _ _ b1
    refine StoreC.ad b1 (by simp [dcells]) fun w7 _ st7 b1 => ?_
    replace S := S.go st7 (by decide) (by decide); replace b0 := st7.sub (by decide) _ _ b0; replace LA := LA.mono (st7.sub (by decide)); replace LB := LB.mono (st7.sub (by decide)); replace F := F.mono (st7.sub (by decide))
    replace hL := hL.go (fun _ _ _ _ hp hs => hp.mono hs) st7 (by decide) (by decide)
    rw [wrap_i64 (by omega) (by omega)]
    refine back _ (by omega) ⟨c6, _, M ++ [(l, g)], S, b0, LA, LB, F, ⟨b1, hL, ?_⟩, ?_⟩
    · rw [List.map_append]; exact nodup_snoc hnd hgM
    · rw [List.map_append, hM, List.take_add_one, hl]; rfl
  · have : i = D.last.length := by omega
    subst this
    rw [List.take_length] at hM
    clear back
    refine LoopI.up D.opn.length (fun i w' => ∃ c' vL M, Fr w c' w' ∧ view c' 0 w' b = some (.cells (dcells (.slice oA D.last.length cA) (.slice oB D.opn.length cB) D) 66 (0, 0)) ∧ WrsV (view c' 0 w') (.slice oB D.opn.length cB) D.opn ∧ RdS (view c' 0 w') (.slice oF fs.length cF) 1 fs.length (jvs fs) ∧ (view c' 1 w' x = some (.cells (dcells vL (.slice none 0 0) (newK 0)) 66 (0, 0)) ∧ LsO (OwnP tU8) 30 1 (view c' 2 w') (view c' 4 w') vL M ∧ (M.map (·.2)).Nodup) ∧ M.map (·.1) = crash fs (D.opn.take i) 0 D.last)
      ⟨c2, _, M, S, b0, LB, F, ⟨b1, hL, hnd⟩, hM⟩ ?_
    clear S b0 LA LB F b1 hL hnd hM hMl
    clear M
    rintro i w2 B hi ⟨c2, vL, M, S, b0, LB, F, ⟨b1, hL, hnd⟩, hM⟩ back
    obtain ⟨oL, cL, rfl⟩ := hL.form
    have hMl : M.length = D.last.length := by have := congrArg List.length hM; rw [List.length_map, crash_length] at this; exact this
    have h512 : ∀ l ∈ M.map (·.1), l.length = 512 := by rw [hM]; exact crash_512 fs _ 0 _ hok.1 fun p hp => hok.2.1 p (List.mem_of_mem_take hp)
    refine LoadC.ad (view_sub _ _ _) _ b0 rfl (TSl.mk ?_)
    refine BS.dec (fun hlt => ?_) (fun hge => ?_)
    · obtain ⟨p, hp⟩ := get_of_lt (l := D.opn) (i := i) (by omega)
      have hp1 := hok.2.1 p (List.mem_of_getElem? hp)
      obtain ⟨⟨s, g⟩, hm⟩ := get_of_lt (l := M) (i := p.1) (by omega)
      have s512 : s.length = 512 := h512 s (List.mem_map.2 ⟨_, List.mem_of_getElem? hm, rfl⟩)
      have key : ∀ f : Int, i64ok f → fateAt fs i = f → ref01_Disk_Crash_K1 ⟨b, 0, none⟩ oF fs.length cF ⟨x, 0, none⟩ i f B w2 R := fun f hfo hfe => by
        unfold ref01_Disk_Crash_K1
        have hcut := cutF_le f
        have hq : i64ok (f / 4) := by obtain ⟨h1, h2⟩ := hfo; exact ⟨by omega, by omega⟩
        refine floor_c hfo (by omega) (by omega) c2 fun w3 st3 => T2.mk (TInt.mk (TInt.mk ?_))
        replace S := S.go st3 (by decide) (by decide); replace b0 := st3.sub (by decide) _ _ b0; replace LB := LB.mono (st3.sub (by decide)); replace F := F.mono (st3.sub (by decide)); replace b1 := st3.sub (by decide) _ _ b1
        replace hL := hL.go (fun _ _ _ _ hp hs => hp.mono hs) st3 (by decide) (by decide)
        refine floor_c hq (by omega) (by omega) c2 fun w4 st4 => T2.mk (TInt.mk (TInt.mk ?_))
        replace S := S.go st4 (by decide) (by decide); replace b0 := st4.sub (by decide) _ _ b0; replace LB := LB.mono (st4.sub (by decide)); replace F := F.mono (st4.sub (by decide)); replace b1 := st4.sub (by decide) _ _ b1
        replace hL := hL.go (fun _ _ _ _ hp hs => hp.mono hs) st4 (by decide) (by decide)
        have ec : f / 4 % 513 = (cutF f : Int) := by unfold cutF; omega
        rw [ec]
        refine LoadC.ad (view_sub _ _ _) _ b0 rfl (TSl.mk ?_)
        obtain ⟨es, ⟨v, rfl, rp⟩, E⟩ := LsV.at (by omega) LB hp
        obtain ⟨ov, pv, rfl⟩ := rp.form
        refine Req.bnd ⟨by omega, by omega⟩ (E.all (view_sub _ _ _) ?_)
        refine AllocC.col c2 7 fun t c5 w5 st5 b5 _ => ?_
        replace S := S.go st5.fresh (by decide) (by decide); replace b0 := st5.fresh.sub (by decide) _ _ b0; replace LB := LB.mono (st5.fresh.sub (by decide)); replace F := F.mono (st5.fresh.sub (by decide)); replace b1 := st5.fresh.sub (by decide) _ _ b1; replace rp := rp.mono (st5.fresh.sub (by decide))
        replace hL := hL.go (fun _ _ _ _ hp hs => hp.mono hs) st5.fresh (by decide) (by decide)
        refine RunU.var b5 (by kernel_rfl) rfl (by simp [Value.oneCell']) fun w6 st6 b6 => ?_
        replace S := S.go st6.step (by decide) (by decide); replace b0 := st6.step.sub (by decide) _ _ b0; replace LB := LB.mono (st6.step.sub (by decide)); replace F := F.mono (st6.step.sub (by decide)); replace b1 := st6.step.sub (by decide) _ _ b1; replace rp := rp.mono (st6.step.sub (by decide))
        replace hL := hL.go (fun _ _ _ _ hp hs => hp.mono hs) st6.step (by decide) (by decide)
        have hx512 : (mixF f s p.2).length = s.length := by rw [mixF_len s512 hp1.2, s512]
        have hg0 : (M.set p.1 (s, g)) = M := by
          apply List.ext_getElem?
          intro q
          rw [List.getElem?_set]
          split
          · rename_i e; subst e; rw [if_pos (lt_of_get hm), hm]
          · rfl
        refine LoopI.up 512 (fun jj w' => Fr w c5 w' ∧ view c5 0 w' b = some (.cells (dcells (.slice oA D.last.length cA) (.slice oB D.opn.length cB) D) 66 (0, 0)) ∧ WrsV (view c5 0 w') (.slice oB D.opn.length cB) D.opn ∧ RdS (view c5 0 w') (.slice oF fs.length cF) 1 fs.length (jvs fs) ∧
          view c5 1 w' x = some (.cells (dcells (.slice oL M.length cL) (.slice none 0 0) (newK 0)) 66 (0, 0)) ∧ LsO (OwnP tU8) 30 1 (view c5 2 w') (view c5 4 w') (.slice oL M.length cL) (M.set p.1 (upto (mixF f s p.2) s jj, g)) ∧
          RdS (view c5 0 w') (.slice ov p.2.length pv) 1 p.2.length (bvs p.2) ∧ view c5 7 w' t = some (.cells #[.int .i64 (p.1 : Int), .slice ov p.2.length pv] 68 (0, 0))) ⟨S, b0, LB, F, b1, by rw [upto_zero, hg0]; exact hL, rp, b6⟩ ?_
        clear S b0 LB F b1 hL rp b5 b6 E
        rintro jj w7 B3 hj ⟨S, b0, LB, F, b1, hL, rp, b6⟩ back3
        have w1' : IntKind.wrap .i64 ((jj : Int) + 1) = (jj : Int) + 1 := wrap_i64 (by omega) (by omega)
        refine BS.dec (fun hjl => ?_) (fun hjg => ?_)
        · obtain ⟨y, hy⟩ := get_of_lt (l := p.2) (i := jj) (by omega)
          have hget := mixF_get (f := f) s512 hp1.2 jj
          have no : ¬ (f % 4 = 1 ∨ f % 4 = 2 ∧ jj < cutF f ∨ f % 4 = 3 ∧ cutF f ≤ jj) → B3 [.int .i64 ((jj : Int) + 1)] w7 := fun hc => by
            rw [if_neg hc] at hget
            refine back3 _ (by omega) ⟨S, b0, LB, F, b1, ?_, rp, b6⟩
            rw [upto_same (by omega) hget]
            exact hL
          have yes : (f % 4 = 1 ∨ f % 4 = 2 ∧ jj < cutF f ∨ f % 4 = 3 ∧ cutF f ≤ jj) → ref01_Disk_Crash_K2 ⟨b, 0, none⟩ oF fs.length cF ⟨x, 0, none⟩ i (f % 4) (cutF f) ⟨t, 0, none⟩ jj true B3 B w7 R := fun hc => by
            rw [if_pos hc, hy] at hget
            unfold ref01_Disk_Crash_K2
            refine BS.yes rfl ?_
            refine DrewC.col c5 fun w8 st8 => ?_
            replace S := S.go st8 (by decide) (by decide); replace b0 := st8.sub (by decide) _ _ b0; replace LB := LB.mono (st8.sub (by decide)); replace F := F.mono (st8.sub (by decide)); replace b1 := st8.sub (by decide) _ _ b1; replace rp := rp.mono (st8.sub (by decide)); replace b6 := st8.sub (by decide) _ _ b6
            replace hL := hL.go (fun _ _ _ _ hp hs => hp.mono hs) st8 (by decide) (by decide)
            have hnd2 : ((M.set p.1 (upto (mixF f s p.2) s jj, g)).map (·.2)).Nodup := by rw [map_set_snd hm]; exact hnd
            have hm2 : (M.set p.1 (upto (mixF f s p.2) s jj, g))[p.1]? = some (upto (mixF f s p.2) s jj, g) := by rw [List.getElem?_set, if_pos rfl, if_pos (lt_of_get hm)]
            have hul : (upto (mixF f s p.2) s jj).length = 512 := by rw [upto_length hx512, s512]
            refine LoadC.ad (view_sub _ _ _) _ b1 rfl (TSl.mk ?_)
            refine LoadC.ad (view_sub _ _ _) _ b6 rfl (TInt.mk ?_)
            obtain ⟨es, ⟨cp, rfl, hown⟩, E2⟩ := LsO.at (by omega) hL hm2
            refine Req.bnd ⟨by omega, by omega⟩ (E2.ld0 (view_sub _ _ _) rfl (TSl.mk ?_))
            refine LoadC.ad (view_sub _ _ _) _ b6 rfl (TSl.mk ?_)
            refine Req.bnd ⟨by omega, by omega⟩ (rp.elt (view_sub _ _ _) (by rw [bvs_get, hy]; rfl) (TInt.mk ?_))
            refine Req.bnd ⟨by omega, by show (jj : Int) < ((upto (mixF f s p.2) s jj).length : Nat); omega⟩ (TSome.mk ?_)
            refine sector_store hL (by decide) hnd2 hm2 (by omega) fun w9 st9 hL => ?_
            replace S := S.go st9 (by decide) (by decide); replace b0 := st9.sub (by decide) _ _ b0; replace LB := LB.mono (st9.sub (by decide)); replace F := F.mono (st9.sub (by decide)); replace b1 := st9.sub (by decide) _ _ b1; replace rp := rp.mono (st9.sub (by decide)); replace b6 := st9.sub (by decide) _ _ b6
            rw [w1']
            refine back3 _ (by omega) ⟨S, b0, LB, F, b1, ?_, rp, b6⟩
            rw [List.set_set, upto_set hx512 hget] at hL
            exact hL
          have yes' : ∀ bb : Bool, bb = true → (f % 4 = 1 ∨ f % 4 = 2 ∧ jj < cutF f ∨ f % 4 = 3 ∧ cutF f ≤ jj) → ref01_Disk_Crash_K2 ⟨b, 0, none⟩ oF fs.length cF ⟨x, 0, none⟩ i (f % 4) (cutF f) ⟨t, 0, none⟩ jj bb B3 B w7 R := fun bb hb hc => by subst hb; exact yes hc
          have no' : ∀ bb : Bool, bb = false → ¬ (f % 4 = 1 ∨ f % 4 = 2 ∧ jj < cutF f ∨ f % 4 = 3 ∧ cutF f ≤ jj) → ref01_Disk_Crash_K2 ⟨b, 0, none⟩ oF fs.length cF ⟨x, 0, none⟩ i (f % 4) (cutF f) ⟨t, 0, none⟩ jj bb B3 B w7 R := fun bb hb hc => by
            subst hb
            unfold ref01_Disk_Crash_K2
            refine BS.no rfl ?_
            rw [w1']; exact no hc
          have either : ref01_Disk_Crash_K2 ⟨b, 0, none⟩ oF fs.length cF ⟨x, 0, none⟩ i (f % 4) (cutF f) ⟨t, 0, none⟩ jj (decide ((jj : Int) ≥ (cutF f : Int))) B3 B w7 R ∨ f % 4 ≠ 3 := by
            by_cases h3 : f % 4 = 3
            · by_cases hge : (jj : Int) ≥ (cutF f : Int)
              · exact .inl (yes' _ (decide_eq_true hge) (.inr (.inr ⟨h3, by omega⟩)))
              · exact .inl (no' _ (decide_eq_false hge) (by omega))
            · exact .inr h3
          rw [w1']
          refine BS.eq (fun e1 => yes (.inl e1)) (fun n1 => ?_)
          refine BS.eq (fun e2 => ?_) (fun n2 => ?_)
          · refine BS.dec (fun hlc => yes (.inr (.inl ⟨e2, by omega⟩))) (fun hgc => ?_)
            exact BS.eq (fun e3 => by omega) (fun n3 => no (by omega))
          · refine BS.eq (fun e3 => ?_) (fun n3 => no (by omega))
            rcases either with h | h
            · exact h
            · exact absurd e3 h
        · have : jj = 512 := by omega
          subst this
          rw [upto_full 512 (by omega) (by omega)] at hL
          rw [wrap_i64 (by omega) (by omega)]
          refine back _ (by omega) ⟨c5, _, _, S, b0, LB, F, ⟨b1, hL, by rw [map_set_snd hm]; exact hnd⟩, ?_⟩
          rw [map_set_fst, hM, List.take_add_one, hp, Option.toList_some, crash_snoc, Nat.zero_add, List.length_take, Nat.min_eq_left (by omega), hfe]
          congr 2
          have : (crash fs (D.opn.take i) 0 D.last)[p.1]? = some s := by rw [← hM, List.getElem?_map, hm]; rfl
          rw [List.getD_eq_getElem?_getD, this]; rfl
      refine BS.dec (fun hfl => ?_) (fun hfl => ?_)
      · obtain ⟨f, hff⟩ := get_of_lt (l := fs) (i := i) (by omega)
        refine Req.bnd ⟨by omega, by omega⟩ (F.elt (view_sub _ _ _) (by rw [jvs_get, hff]; rfl) (TInt.mk ?_))
        exact key f (hfs f (List.mem_of_getElem? hff)) (by unfold fateAt; rw [hff]; rfl)
      · exact key 0 ⟨by omega, by omega⟩ (by unfold fateAt; rw [List.getElem?_eq_none (by omega)]; rfl)
    · have : i = D.opn.length := by omega
      subst this
      rw [List.take_length] at hM
      refine h _ _ _ (S.leaveF c (dkF k) _ (dkF_mem k)) (DkV.out (D := crK D fs) S ⟨x, _, _, rfl, b1, ?_, LsO.nil ..⟩ c k)
      have := hL.bytes
      rw [hM] at this
      exact this
end Go.Proofs.Yteliekblhcbmgaa

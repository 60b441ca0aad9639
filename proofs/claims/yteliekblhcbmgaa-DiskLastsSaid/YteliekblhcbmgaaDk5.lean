/-
  Crashes, walked.
-/
import Derived.Test.YteliekblhcbmgaaDk4
set_option linter.unusedVariables false
set_option linter.unusedSimpArgs false
namespace Go.Vc
open Go
def WrsV (h : View) (v : Value) (l : List (Nat × List UInt8)) : Prop := LsV WrP 2 h v l
theorem WrsV.mono {h h' : View} {v : Value} {l : List (Nat × List UInt8)} (hl : WrsV h v l) (hs : Sub h h') : WrsV h' v l := LsV.mono' (fun _ _ hp => hp.mono hs) hl hs
theorem sector_copy {P : Program} {dT sT ty e : TypeId} (hu : P.underlying dT = some (.slice e)) (hs : (P.info? e).map (·.size) = some 1) {tU T : Nat} {c : Nat → Nat} {i q : Nat} {w : World} {v x : Value} {M : List (List UInt8 × Nat)} {m g kk n cd : Nat} {s ys : List UInt8} (hL : LsO (OwnP tU) T 1 (view c i w) (view c q w) v M) (hiq : i ≠ q) (hnd : (M.map (·.2)).Nodup) (hm : M[m]? = some (s, g))
    (hr : RdS (wv w) x 1 ys.length (bvs ys)) (hle : ys.length ≤ n) (hfit : kk + ys.length ≤ s.length) {K : Value → World → Prop}
    (h : ∀ w', Step c [q] [] w c w' → LsO (OwnP tU) T 1 (view c i w') (view c q w') v (M.set m (s.take kk ++ ys ++ s.drop (kk + ys.length), g)) → K (.int .i64 (ys.length : Int)) w') :
    RunV P (Builtin.copy_ #[dT, sT] ty #[.slice (some ⟨g, kk, none⟩) n cd, x]) w K := by
  obtain ⟨xs, ho, hx⟩ := hL
  obtain ⟨cp, e, hown⟩ := hx m _ hm
  obtain ⟨cur, hg, h1, h2, h3, h4⟩ := hown.cur
  have h1 : s.length ≤ cp := h1
  refine copy_own hu hs hg (by omega) hr hle (bvs_one _) fun w' hW st hg' => h w' st (LsO.write ⟨xs, ho, hx⟩ hiq hW hnd hm (by simp; omega) fun cp2 cur2 hg2 hl2 hs2 ht2 => ?_)
  have : cur2 = cur := by
    have h5 := hg2.symm.trans hg
    simpa using h5
  subst this
  refine ⟨_, hg', by simp; omega, ?_⟩
  rw [List.toList_toArray, splice (n := s.length) (by simp) (by simp; omega) hfit, ht2, bvs_append, bvs_append, bvs_take, bvs_drop]
theorem sector_store {tU T : Nat} {c : Nat → Nat} {i q : Nat} {w : World} {v : Value} {M : List (List UInt8 × Nat)} {m g j : Nat} {s : List UInt8} {b : UInt8} {C : World → Prop} (hL : LsO (OwnP tU) T 1 (view c i w) (view c q w) v M) (hiq : i ≠ q) (hnd : (M.map (·.2)).Nodup) (hm : M[m]? = some (s, g)) (hj : j < s.length)
    (h : ∀ w', Step c [q] [] w c w' → LsO (OwnP tU) T 1 (view c i w') (view c q w') v (M.set m (s.set j b, g)) → C w') : StoreC w ((⟨g, 0, none⟩ : Addr).add ((j : Int).toNat * 1)) (.int .u8 (b.toNat : Int)) C := by
  obtain ⟨xs, ho, hx⟩ := hL
  obtain ⟨cp, e, hown⟩ := hx m _ hm
  obtain ⟨cur, hg, h1, h2, h3, h4⟩ := hown.cur
  have h1 : s.length ≤ cp := h1
  rw [addr_add, Int.toNat_natCast, Nat.mul_one, Nat.zero_add]
  refine StoreC.col hg (by omega) fun w' hW st hg' => h w' st (LsO.write ⟨xs, ho, hx⟩ hiq hW hnd hm (by simp) fun cp2 cur2 hg2 hl2 hs2 ht2 => ?_)
  have : cur2 = cur := by
    have h5 := hg2.symm.trans hg
    simpa using h5
  subst this
  refine ⟨_, hg', by simp; omega, ?_⟩
  rw [Array.toList_setIfInBounds, List.take_set, ht2]
  unfold bvs
  rw [List.map_set]; rfl
theorem nodup_snoc {l : List Nat} {x : Nat} (h : l.Nodup) (hx : x ∉ l) : (l ++ [x]).Nodup := by
  rw [List.nodup_append]
  exact ⟨h, by simp, fun a ha b hb => by
    have : b = x := by simpa using hb
    subst this
    intro e
    exact hx (e ▸ ha)⟩
theorem map_set_fst (M : List (List UInt8 × Nat)) (m : Nat) (s : List UInt8) (g : Nat) : (M.set m (s, g)).map (·.1) = (M.map (·.1)).set m s := by rw [List.map_set]
theorem map_set_snd {M : List (List UInt8 × Nat)} {m : Nat} {s s' : List UInt8} {g : Nat} (h : M[m]? = some (s, g)) : (M.set m (s', g)).map (·.2) = M.map (·.2) := by
  rw [List.map_set]
  apply List.ext_getElem?
  intro k
  rw [List.getElem?_set]
  split
  · rename_i e
    subst e
    rw [List.length_map, if_pos (lt_of_get h), List.getElem?_map, h]; rfl
  · rfl
theorem mixF_cases {f : Int} {s l : List UInt8} (hs : s.length = 512) (hl : l.length = 512) :
    (f % 4 = 1 → mixF f s l = s.take 0 ++ l ++ s.drop (0 + l.length)) ∧ (f % 4 = 2 → mixF f s l = s.take 0 ++ l.take (cutF f) ++ s.drop (0 + (l.take (cutF f)).length)) ∧
    (f % 4 = 3 → mixF f s l = s.take (cutF f) ++ l.drop (cutF f) ++ s.drop (cutF f + (l.drop (cutF f)).length)) ∧ (f % 4 ≠ 1 → f % 4 ≠ 2 → f % 4 ≠ 3 → mixF f s l = s) := by
  have hc := cutF_le f
  refine ⟨fun h => ?_, fun h => ?_, fun h => ?_, fun h1 h2 h3 => ?_⟩
  · unfold mixF; rw [if_pos h, List.drop_eq_nil_of_le (by omega)]; simp
  · unfold mixF; rw [if_neg (by omega), if_pos h, List.length_take, Nat.min_eq_left (by omega), Nat.zero_add]; simp
  · unfold mixF; rw [if_neg (by omega), if_neg (by omega), if_pos h, List.drop_eq_nil_of_le («as» := s) (by rw [List.length_drop]; omega)]; simp
  · unfold mixF; rw [if_neg h1, if_neg h2, if_neg h3]
end Go.Vc
namespace Go.Proofs.Yteliekblhcbmgaa
open Go.Vc
attribute [local irreducible] TInt TBool TStr TPtr TSl TAgg TMap TChan T2 T3 T4 BS Req TSome TCell TByte LoadC LoadA StoreC AllocC RunV RunU CallV ExtV EqA StableC StableA StableV TCells ReadV
attribute [local irreducible] DrewC
abbrev tU8 : Nat := 5
theorem szU8 : (Try.prog.info? 5).map (·.size) = some 1 := by kernel_rfl

theorem dCrash_c (c : Nat → Nat) (k : Nat) {kd : Nat} {w : World} {a : Addr} {D : DkR} {vF : Value} {fs : List Int} {R : Value → World → Prop} (hd : DkD c kd w a D) (hok : D.ok) (hn : D.opn.length ≤ 100000) (hf : RdS (wv w) vF 1 fs.length (jvs fs)) (hfs : ∀ f ∈ fs, i64ok f)
    (h : ∀ a' c' w', Step c [] [k, k + 1, k + 2, k + 3, k + 4] w c' w' → DkD c' k w' a' (crK D fs) → R (.pointer (some a')) w') : CallV Try.prog 16 #[.pointer (some a), vF] w R := by
  obtain ⟨b, vA, vB, rfl, hb, hL, hO⟩ := hd
  obtain ⟨oF, cF, rfl⟩ := hf.form
  obtain ⟨oA, cA, rfl⟩ := hL.form
  obtain ⟨oB, cB, rfl⟩ := hO.form
  have b0 : view (fun _ => 0) 0 w b = some (.cells (dcells (.slice oA D.last.length cA) (.slice oB D.opn.length cB) D) 56 (0, 0)) := by rw [view0]; exact view_sub _ _ _ _ _ hb
  have LA : BlsV (view (fun _ => 0) 0 w) (.slice oA D.last.length cA) D.last := by rw [view0]; exact hL.rd (fun _ _ hp => hp.mono (view_sub _ _ _)) (view_sub _ _ _)
  have LB : WrsV (view (fun _ => 0) 0 w) (.slice oB D.opn.length cB) D.opn := by rw [view0]; exact hO.rd (fun _ _ hp => hp.mono (view_sub _ _ _)) (view_sub _ _ _)
  have F : RdS (view (fun _ => 0) 0 w) (.slice oF fs.length cF) 1 fs.length (jvs fs) := by rw [view0]; exact hf
  clear hb hL hO
  have S := Fr.start w
  have hlen5 := hok.2.2.2.2
  refine disk_Disk_Crash_vc ?_
  unfold disk_Disk_Crash_VC
  refine AllocC.col (fun _ => 0) 1 fun x c1 w1 st1 b1 _ => ?_
  replace S := S.go st1.step (by decide) (by decide); replace b0 := st1.step.sub (by decide) _ _ b0; replace LA := LA.mono (st1.step.sub (by decide)); replace LB := LB.mono (st1.step.sub (by decide)); replace F := F.mono (st1.step.sub (by decide))
  refine LoadC.ad (view_sub _ _ _) _ b0 rfl (TSl.mk ?_)
  refine LoopI.up D.last.length (fun i w' => ∃ c' vL M, Fr w c' w' ∧ view c' 0 w' b = some (.cells (dcells (.slice oA D.last.length cA) (.slice oB D.opn.length cB) D) 56 (0, 0)) ∧ BlsV (view c' 0 w') (.slice oA D.last.length cA) D.last ∧ WrsV (view c' 0 w') (.slice oB D.opn.length cB) D.opn ∧ RdS (view c' 0 w') (.slice oF fs.length cF) 1 fs.length (jvs fs) ∧ (view c' 1 w' x = some (.cells (dcells vL (.slice none 0 0) (newK 0)) 56 (0, 0)) ∧ LsO (OwnP tU8) 30 1 (view c' 2 w') (view c' 4 w') vL M ∧ (M.map (·.2)).Nodup) ∧ M.map (·.1) = D.last.take i)
    ⟨c1, _, [], S, b0, LA, LB, F, ⟨b1, LsO.nil .., by simp⟩, by simp⟩ ?_
  clear S b0 LA LB F b1
  rintro i w2 B hi ⟨c2, vL, M, S, b0, LA, LB, F, ⟨b1, hL, hnd⟩, hM⟩ back
  obtain ⟨oL, cL, rfl⟩ := hL.form
  have hMl : M.length = min i D.last.length := by have := congrArg List.length hM; rw [List.length_map, List.length_take] at this; exact this
  refine BS.dec (fun hlt => ?_) (fun hge => ?_)
  · obtain ⟨l, hl⟩ := get_of_lt (l := D.last) (i := i) (by omega)
    have l512 := hok.1 l (List.mem_of_getElem? hl)
    obtain ⟨es, ⟨v, rfl, rv⟩, E⟩ := LsV.at (by omega) LA hl
    obtain ⟨ov, pv, rfl⟩ := rv.form
    refine Req.bnd ⟨by omega, by omega⟩ (E.ld0 (view_sub _ _ _) rfl (TSl.mk ?_))
    refine DrewC.col c2 fun w3 st3 => ?_
    replace S := S.go st3 (by decide) (by decide); replace b0 := st3.sub (by decide) _ _ b0; replace LA := LA.mono (st3.sub (by decide)); replace LB := LB.mono (st3.sub (by decide)); replace F := F.mono (st3.sub (by decide)); replace b1 := st3.sub (by decide) _ _ b1; replace rv := rv.mono (st3.sub (by decide))
    replace hL := hL.go (fun _ _ _ _ hp hs => hp.mono hs) st3 (by decide) (by decide)
    refine LoadC.ad (view_sub _ _ _) _ b1 rfl (TSl.mk ?_)
    refine Clone_bytes c2 5 (rv.mono (view_sub _ _ _)) (by omega) fun v4 c4 w4 st4 r4 => ?_
    replace S := S.go st4 (by decide) (by decide); replace b0 := st4.sub (by decide) _ _ b0; replace LA := LA.mono (st4.sub (by decide)); replace LB := LB.mono (st4.sub (by decide)); replace F := F.mono (st4.sub (by decide)); replace b1 := st4.sub (by decide) _ _ b1
    replace hL := hL.go (fun _ _ _ _ hp hs => hp.mono hs) st4 (by decide) (by decide)
    obtain ⟨o4, p4, rfl⟩ := r4.form
    obtain ⟨g, curg, rfl, hgv⟩ := r4.at0 (by omega)
    have hcg := (view_out hgv).1
    have hgM : g ∉ M.map (·.2) := fun hmem => by
      obtain ⟨y, hy, hyg⟩ := List.mem_map.1 hmem
      obtain ⟨n, hn⟩ := List.getElem?_of_mem hy
      obtain ⟨xs, ho, hx⟩ := hL
      obtain ⟨cp, e, hown⟩ := hx n y hn
      obtain ⟨cur, hg, _⟩ := hown.cur
      have := (view_out hg).1
      rw [hyg, hcg] at this
      omega
    replace S := S.mix (x := 5) (y := 4) (by decide) (by decide)
    replace b0 := mixc_other (c := c4) (x := 5) (y := 4) (z := 0) (by decide) w4 _ _ b0
    replace b1 := mixc_other (c := c4) (x := 5) (y := 4) (z := 1) (by decide) w4 _ _ b1
    replace LA := LA.mono (mixc_other (c := c4) (x := 5) (y := 4) (z := 0) (by decide) w4)
    replace LB := LB.mono (mixc_other (c := c4) (x := 5) (y := 4) (z := 0) (by decide) w4)
    replace F := F.mono (mixc_other (c := c4) (x := 5) (y := 4) (z := 0) (by decide) w4)
    replace hL : LsO (OwnP tU8) 30 1 (view (mixc c4 5 4) 2 w4) (view (mixc c4 5 4) 4 w4) _ _ := hL.mono' (fun _ _ hp => hp.mono (mixc_other (by decide) w4)) (mixc_other (by decide) w4)
    replace r4 := r4.mono (mixc_this (y := 4) w4)
    generalize mixc c4 5 4 = c4' at *
    refine TSl.mk ⟨StableC.ad (view_sub _ _ _) b1 rfl, ?_⟩
    refine AllocC.col c4' 6 fun z c5 w5 st5 b5 _ => ?_
    replace S := S.go st5.fresh (by decide) (by decide); replace b0 := st5.fresh.sub (by decide) _ _ b0; replace LA := LA.mono (st5.fresh.sub (by decide)); replace LB := LB.mono (st5.fresh.sub (by decide)); replace F := F.mono (st5.fresh.sub (by decide)); replace b1 := st5.fresh.sub (by decide) _ _ b1; replace r4 := r4.mono (st5.fresh.sub (by decide))
    replace hL := hL.go (fun _ _ _ _ hp hs => hp.mono hs) st5.fresh (by decide) (by decide)
    refine ⟨StableC.ad (view_sub _ _ _) b1 rfl, ?_⟩
    have one : LsW (OwnP tU8) 1 (wv w5) (view c5 4 w5) (.slice (some ⟨z, 0, none⟩) 1 1) [(l, g)] := LsW.one (view_sub _ _ _ _ _ b5) rfl ⟨p4, rfl, r4⟩
    refine LsO.app slBs hL one (fun _ _ hp => hp.ones) (by simp; omega) (by simp; omega) fun o6 p6 c6 w6 st6 hL => TSl.mk ?_
    replace hL : LsO (OwnP tU8) 30 1 (view c6 2 w6) (view c6 4 w6) _ _ := hL.mono' (fun _ _ hp => hp.mono (st6.step.sub (by decide))) (fun _ _ h => h)
    replace S := S.go st6.step (by decide) (by decide); replace b0 := st6.step.sub (by decide) _ _ b0; replace LA := LA.mono (st6.step.sub (by decide)); replace LB := LB.mono (st6.step.sub (by decide)); replace F := F.mono (st6.step.sub (by decide)); replace b1 := st6.step.sub (by decide) _ _ b1
    refine StoreC.ad b1 (by simp [dcells]) fun w7 _ st7 b1 => ?_
    replace S := S.go st7 (by decide) (by decide); replace b0 := st7.sub (by decide) _ _ b0; replace LA := LA.mono (st7.sub (by decide)); replace LB := LB.mono (st7.sub (by decide)); replace F := F.mono (st7.sub (by decide))
    replace hL := hL.go (fun _ _ _ _ hp hs => hp.mono hs) st7 (by decide) (by decide)
    rw [wrap_i64 (by omega) (by omega)]
    refine back _ (by omega) ⟨c6, _, M ++ [(l, g)], S, b0, LA, LB, F, ⟨b1, hL, ?_⟩, ?_⟩
    · rw [List.map_append]; exact nodup_snoc hnd hgM
    · rw [List.map_append, hM, List.take_add_one, hl]; rfl
  · have : i = D.last.length := by omega
    subst this
    rw [List.take_length] at hM
    clear back
    refine LoadC.ad (view_sub _ _ _) _ b0 rfl (TSl.mk ?_)
    refine LoopI.up D.opn.length (fun i w' => ∃ c' vL M, Fr w c' w' ∧ WrsV (view c' 0 w') (.slice oB D.opn.length cB) D.opn ∧ RdS (view c' 0 w') (.slice oF fs.length cF) 1 fs.length (jvs fs) ∧ (view c' 1 w' x = some (.cells (dcells vL (.slice none 0 0) (newK 0)) 56 (0, 0)) ∧ LsO (OwnP tU8) 30 1 (view c' 2 w') (view c' 4 w') vL M ∧ (M.map (·.2)).Nodup) ∧ M.map (·.1) = crash fs (D.opn.take i) 0 D.last)
      ⟨c2, _, M, S, LB, F, ⟨b1, hL, hnd⟩, hM⟩ ?_
    clear S b0 LA LB F b1 hL hnd hM hMl
    clear M
    rintro i w2 B hi ⟨c2, vL, M, S, LB, F, ⟨b1, hL, hnd⟩, hM⟩ back
    obtain ⟨oL, cL, rfl⟩ := hL.form
    have hMl : M.length = D.last.length := by have := congrArg List.length hM; rw [List.length_map, crash_length] at this; exact this
    have h512 : ∀ l ∈ M.map (·.1), l.length = 512 := by rw [hM]; exact crash_512 fs _ 0 _ hok.1 fun p hp => hok.2.1 p (List.mem_of_mem_take hp)
    refine BS.dec (fun hlt => ?_) (fun hge => ?_)
    · obtain ⟨p, hp⟩ := get_of_lt (l := D.opn) (i := i) (by omega)
      have hp1 := hok.2.1 p (List.mem_of_getElem? hp)
      obtain ⟨es, ⟨v, rfl, rp⟩, E⟩ := LsV.at (by omega) LB hp
      obtain ⟨ov, pv, rfl⟩ := rp.form
      refine Req.bnd ⟨by omega, by omega⟩ (E.all (view_sub _ _ _) ?_)
      refine AllocC.col c2 7 fun t c3 w3 st3 b3 _ => ?_
      replace S := S.go st3.fresh (by decide) (by decide); replace LB := LB.mono (st3.fresh.sub (by decide)); replace F := F.mono (st3.fresh.sub (by decide)); replace b1 := st3.fresh.sub (by decide) _ _ b1; replace rp := rp.mono (st3.fresh.sub (by decide))
      replace hL := hL.go (fun _ _ _ _ hp hs => hp.mono hs) st3.fresh (by decide) (by decide)
      refine RunU.var b3 (by kernel_rfl) rfl (by simp [Value.oneCell']) fun w4 st4 b4 => ?_
      replace S := S.go st4.step (by decide) (by decide); replace LB := LB.mono (st4.step.sub (by decide)); replace F := F.mono (st4.step.sub (by decide)); replace b1 := st4.step.sub (by decide) _ _ b1; replace rp := rp.mono (st4.step.sub (by decide))
      replace hL := hL.go (fun _ _ _ _ hp hs => hp.mono hs) st4.step (by decide) (by decide)
      obtain ⟨⟨s, g⟩, hm⟩ := get_of_lt (l := M) (i := p.1) (by omega)
      have s512 : s.length = 512 := h512 s (List.mem_map.2 ⟨_, List.mem_of_getElem? hm, rfl⟩)
      have key : ∀ f : Int, i64ok f → fateAt fs i = f → disk_Disk_Crash_K1 oF fs.length cF ⟨x, 0, none⟩ ⟨t, 0, none⟩ f oB D.opn.length cB ((D.opn.length : Nat) : Int) i B w4 R := fun f hfo hfe => by
        obtain ⟨m1, m2, m3, m4⟩ := mixF_cases (f := f) s512 hp1.2
        have w1' : IntKind.wrap .i64 ((i : Int) + 1) = (i : Int) + 1 := wrap_i64 (by omega) (by omega)
        have fin : ∀ {w' : World} {s' : List UInt8}, Fr w c3 w' → WrsV (view c3 0 w') (.slice oB D.opn.length cB) D.opn → RdS (view c3 0 w') (.slice oF fs.length cF) 1 fs.length (jvs fs) → view c3 1 w' x = some (.cells (dcells (.slice oL M.length cL) (.slice none 0 0) (newK 0)) 56 (0, 0)) →
            LsO (OwnP tU8) 30 1 (view c3 2 w') (view c3 4 w') (.slice oL M.length cL) (M.set p.1 (s', g)) → s' = mixF f s p.2 → B [.int .i64 ((i : Int) + 1)] w' := fun S LB F b1 hL he => by
          refine back _ (by omega) ⟨c3, _, _, S, LB, F, ⟨b1, hL, by rw [map_set_snd hm]; exact hnd⟩, ?_⟩
          rw [map_set_fst, hM, List.take_add_one, hp, Option.toList_some, crash_snoc, he, Nat.zero_add, List.length_take, Nat.min_eq_left (by omega), hfe]
          congr 2
          have : (crash fs (D.opn.take i) 0 D.last)[p.1]? = some s := by rw [← hM, List.getElem?_map, hm]; rfl
          rw [List.getD_eq_getElem?_getD, this]; rfl
        unfold disk_Disk_Crash_K1
        rw [and3_i64 hfo, cut_i64 hfo, w1']
        have hcut := cutF_le f
        refine DrewC.col c3 fun w5 st5 => ?_
        replace S := S.go st5 (by decide) (by decide); replace LB := LB.mono (st5.sub (by decide)); replace F := F.mono (st5.sub (by decide)); replace b1 := st5.sub (by decide) _ _ b1; replace b4 := st5.sub (by decide) _ _ b4; replace rp := rp.mono (st5.sub (by decide))
        replace hL := hL.go (fun _ _ _ _ hp hs => hp.mono hs) st5 (by decide) (by decide)
        refine LoadC.ad (view_sub _ _ _) _ b1 rfl (TSl.mk ?_)
        refine LoadC.ad (view_sub _ _ _) _ b4 rfl (TInt.mk ?_)
        obtain ⟨es, ⟨cp, rfl, hown⟩, E2⟩ := LsO.at (by omega) hL hm
        have hcp := hown.len.2.1
        simp only at hcp
        refine Req.bnd ⟨by omega, by omega⟩ (E2.ld0 (view_sub _ _ _) rfl (TSl.mk ?_))
        refine BS.eq (fun e1 => ?_) (fun n1 => ?_)
        · refine LoadC.ad (view_sub _ _ _) _ b4 rfl (TSl.mk ?_)
          refine sector_copy Try.underlying30 szU8 hL (by decide) hnd hm (ys := p.2) (rp.mono (view_sub _ _ _)) (by show _ ≤ s.length; omega) (by omega) fun w6 st6 hL => TInt.mk ?_
          replace S := S.go st6 (by decide) (by decide); replace LB := LB.mono (st6.sub (by decide)); replace F := F.mono (st6.sub (by decide)); replace b1 := st6.sub (by decide) _ _ b1
          exact fin S LB F b1 hL (m1 e1).symm
        refine BS.eq (fun e2 => ?_) (fun n2 => ?_)
        · refine LoadC.ad (view_sub _ _ _) _ b4 rfl (TSl.mk ?_)
          have hcv := rp.len.2.1
          refine Req.bndle ⟨by omega, by omega⟩ ?_
          rw [Int.toNat_natCast]
          have ht := rp.take (k := cutF f) (by omega)
          rw [Nat.mul_one, ← bvs_take] at ht
          have lt : (p.2.take (cutF f)).length = cutF f := by rw [List.length_take]; omega
          refine sector_copy Try.underlying30 szU8 hL (by decide) hnd hm (ys := p.2.take (cutF f)) (by rw [lt]; exact ht.mono (view_sub _ _ _)) (by show _ ≤ s.length; omega) (by omega) fun w6 st6 hL => TInt.mk ?_
          replace S := S.go st6 (by decide) (by decide); replace LB := LB.mono (st6.sub (by decide)); replace F := F.mono (st6.sub (by decide)); replace b1 := st6.sub (by decide) _ _ b1
          exact fin S LB F b1 hL (m2 e2).symm
        refine BS.eq (fun e3 => ?_) (fun n3 => ?_)
        · refine DrewC.col c3 fun w6 st6 => ?_
          replace S := S.go st6 (by decide) (by decide); replace LB := LB.mono (st6.sub (by decide)); replace F := F.mono (st6.sub (by decide)); replace b1 := st6.sub (by decide) _ _ b1; replace b4 := st6.sub (by decide) _ _ b4; replace rp := rp.mono (st6.sub (by decide))
          replace hL := hL.go (fun _ _ _ _ hp hs => hp.mono hs) st6 (by decide) (by decide)
          refine Req.bndle ⟨by omega, by show ((cutF f : Nat) : Int) ≤ (s.length : Nat); omega⟩ ?_
          refine LoadC.ad (view_sub _ _ _) _ b4 rfl (TSl.mk ?_)
          refine Req.bndle ⟨by omega, by omega⟩ ?_
          rw [Int.toNat_natCast]
          have ht := rp.drop (k := cutF f) (by omega)
          rw [Nat.mul_one, ← bvs_drop] at ht
          have lt : (p.2.drop (cutF f)).length = 512 - cutF f := by rw [List.length_drop]; omega
          have lt2 : p.2.length - cutF f = 512 - cutF f := by omega
          by_cases hz : cp = cutF f
          · have e5 : cutF f = 512 := by omega
            have hsl : slBase (some (⟨g, 0, none⟩ : Addr)) cp (cutF f) 1 = some ⟨g, 0, none⟩ := by unfold slBase; rw [if_pos hz]
            show RunV _ (Builtin.copy_ _ _ #[.slice (slBase (some (⟨g, 0, none⟩ : Addr)) cp (cutF f) 1) _ _, _]) _ _
            rw [hsl]
            refine sector_copy Try.underlying30 szU8 hL (by decide) hnd hm (ys := p.2.drop (cutF f)) (kk := 0) (by rw [lt, ← lt2]; exact ht.mono (view_sub _ _ _)) (by show _ ≤ s.length - _; omega) (by omega) fun w7 st7 hL => TInt.mk ?_
            replace S := S.go st7 (by decide) (by decide); replace LB := LB.mono (st7.sub (by decide)); replace F := F.mono (st7.sub (by decide)); replace b1 := st7.sub (by decide) _ _ b1
            refine fin S LB F b1 hL ?_
            have z1 : p.2.drop 512 = [] := List.drop_eq_nil_of_le (by omega)
            have z2 : s.take 512 = s := List.take_of_length_le (by omega)
            have z3 : s.drop 512 = [] := List.drop_eq_nil_of_le (by omega)
            rw [m3 e3, e5, z1, z2]
            simp [z3]
          · have hsl : slBase (some (⟨g, 0, none⟩ : Addr)) cp (cutF f) 1 = some ⟨g, cutF f, none⟩ := by unfold slBase; rw [if_neg hz]; simp [addr_add]
            show RunV _ (Builtin.copy_ _ _ #[.slice (slBase (some (⟨g, 0, none⟩ : Addr)) cp (cutF f) 1) _ _, _]) _ _
            rw [hsl]
            refine sector_copy Try.underlying30 szU8 hL (by decide) hnd hm (ys := p.2.drop (cutF f)) (kk := cutF f) (by rw [lt, ← lt2]; exact ht.mono (view_sub _ _ _)) (by show _ ≤ s.length - _; omega) (by omega) fun w7 st7 hL => TInt.mk ?_
            replace S := S.go st7 (by decide) (by decide); replace LB := LB.mono (st7.sub (by decide)); replace F := F.mono (st7.sub (by decide)); replace b1 := st7.sub (by decide) _ _ b1
            exact fin S LB F b1 hL (m3 e3).symm
        · refine back _ (by omega) ⟨c3, _, M, S, LB, F, ⟨b1, hL, hnd⟩, ?_⟩
          rw [hM, List.take_add_one, hp, Option.toList_some, crash_snoc, Nat.zero_add, List.length_take, Nat.min_eq_left (by omega), hfe]
          have hs' : (crash fs (D.opn.take i) 0 D.last)[p.1]? = some s := by rw [← hM, List.getElem?_map, hm]; rfl
          rw [List.getD_eq_getElem?_getD, hs']
          show _ = (crash fs (D.opn.take i) 0 D.last).set p.1 (mixF f s p.2)
          rw [m4 n1 n2 n3]
          apply List.ext_getElem?
          intro q
          rw [List.getElem?_set]
          split
          · rename_i e; subst e; rw [if_pos (lt_of_get hs'), hs']
          · rfl
      refine BS.dec (fun hfl => ?_) (fun hfl => ?_)
      · obtain ⟨f, hff⟩ := get_of_lt (l := fs) (i := i) (by omega)
        refine Req.bnd ⟨by omega, by omega⟩ (F.elt (view_sub _ _ _) (by rw [jvs_get, hff]; rfl) (TInt.mk ?_))
        exact key f (hfs f (List.mem_of_getElem? hff)) (by unfold fateAt; rw [hff]; rfl)
      · exact key 0 ⟨by omega, by omega⟩ (by unfold fateAt; rw [List.getElem?_eq_none (by omega)]; rfl)
    · have : i = D.opn.length := by omega
      subst this
      rw [List.take_length] at hM
      refine h _ _ _ (S.leaveF c (dkF k) _ (dkF_mem k)) (DkV.out (D := crK D fs) S ⟨x, _, _, rfl, b1, ?_, LsO.nil ..⟩ c k)
      have := hL.bytes
      rw [hM] at this
      exact this
end Go.Proofs.Yteliekblhcbmgaa

/-
  New disks; flushing.
-/
import Derived.Test.YteliekblhcbmgaaDk2
set_option linter.unusedVariables false
set_option linter.unusedSimpArgs false
namespace Go.Vc
open Go
def recol (c0 : Nat → Nat) (N : Nat) (c' : Nat → Nat) (f : Nat → Nat) : Nat → Nat := fun b => if b < N then c0 b else f (c' b)
theorem Fr.leaveF {w0 : World} {c : Nat → Nat} {w : World} (S : Fr w0 c w) (c0 : Nat → Nat) (f : Nat → Nat) (L : List Nat) (hf : ∀ x, f x ∈ L) : Step c0 [] L w0 (recol c0 w0.heap.size c f) w :=
  ⟨S.os, S.tape, S.output, S.size, fun b hb => by simp [recol, hb], fun b h1 _ => by unfold recol; rw [if_neg (by omega)]; exact hf _, fun b hb _ => S.keep b hb (by simp)⟩
theorem Fr.outF {w0 : World} {c : Nat → Nat} {w : World} (S : Fr w0 c w) (c0 : Nat → Nat) (f : Nat → Nat) {x y : Nat} (hx : x ≠ 0) (hf : f x = y) : Sub (view c x w) (view (recol c0 w0.heap.size c f) y w) := fun b o hb => by
  obtain ⟨hc, ho⟩ := view_out hb
  refine view_in ?_ ho
  unfold recol
  rcases Nat.lt_or_ge b w0.heap.size with h | h
  · exact absurd ((S.col b h).symm.trans hc) (fun e => hx e.symm)
  · rw [if_neg (by omega), hc, hf]
/-- the five colours of a disk -/
def dkF (k : Nat) (x : Nat) : Nat := if x = 1 then k else if x = 2 then k + 1 else if x = 3 then k + 2 else if x = 4 then k + 3 else k + 4
theorem dkF_mem (k x : Nat) : dkF k x ∈ [k, k + 1, k + 2, k + 3, k + 4] := by
  unfold dkF
  split
  · simp
  split
  · simp
  split
  · simp
  split
  · simp
  · simp
theorem DkV.out {T tW : Nat} {w0 : World} {c : Nat → Nat} {w : World} {a : Addr} {D : DkR} (S : Fr w0 c w) (hd : DkV T tW c 1 w a D) (c0 : Nat → Nat) (k : Nat) : DkV T tW (recol c0 w0.heap.size c (dkF k)) k w a D := by
  obtain ⟨b, vL, vO, e, hb, hL, hO⟩ := hd
  exact ⟨b, vL, vO, e, S.outF c0 _ (by decide) (by simp [dkF]) _ _ hb, hL.mono' (fun _ _ hp => hp.mono (S.outF c0 _ (by decide) (by simp [dkF]))) (S.outF c0 _ (by decide) (by simp [dkF])),
    hO.mono' (fun _ _ hp => hp.mono (S.outF c0 _ (by decide) (by simp [dkF]))) (S.outF c0 _ (by decide) (by simp [dkF]))⟩
theorem LsO.at {α : Type} {P : View → α → List Value → Prop} {T z : Nat} (hz : 0 < z) {h g : View} {o : Option Addr} {n c : Nat} {l : List α} (hl : LsO P T z h g (.slice o n c) l) {i : Nat} {a : α} (hi : l[i]? = some a) : ∃ es, P g a es ∧ Elt h o z i es := by
  obtain ⟨xs, ho, hx⟩ := hl
  exact LsV.at (P := fun _ => P g) hz ⟨xs, ho.rd, hx⟩ hi
/-- a store into an own row of single cells -/
theorem LsO.store {α : Type} {P : View → α → List Value → Prop} {T : Nat} {c : Nat → Nat} {i : Nat} {g : View} {w : World} {o : Option Addr} {n cp : Nat} {l : List α} {m : Nat} {x : α} {u : Value} {C : World → Prop} (hl : LsO P T 1 (view c i w) g (.slice o n cp) l) (hm : m < l.length) (hP : P g x [u])
    (h : ∀ w', Step c [i] [] w c w' → LsO P T 1 (view c i w') g (.slice o n cp) (l.set m x) → C w') : TSome o fun a => StoreC w (a.add ((m : Int).toNat * 1)) u C := by
  obtain ⟨xs, ho, hx⟩ := hl
  have hlen := ho.len.2.2
  rw [Nat.mul_one] at hlen
  obtain ⟨hl1, hcase⟩ := ho
  rcases hcase with ⟨_, h0⟩ | ⟨b, cap, cur, e, hb, hnc, hcm, hcs, htake⟩
  · omega
  cases e
  rw [Nat.mul_one] at hcs htake
  refine TSome.mk ?_
  rw [addr_add, Int.toNat_natCast, Nat.mul_one, Nat.zero_add]
  refine StoreC.col hb (by omega) fun w1 _ st1 b1 => h w1 st1 ⟨xs.set m u, ⟨by rw [List.length_set, List.length_set, Nat.mul_one]; exact hlen, .inr ⟨b, cp, _, by rw [List.length_set], b1, by rw [List.length_set]; exact hnc, hcm, by simp; omega, ?_⟩⟩, fun k a hk => ?_⟩
  · rw [List.length_set, Nat.mul_one, Array.toList_setIfInBounds, List.take_set, htake]
  · rw [List.getElem?_set] at hk
    by_cases hmk : m = k
    · subst hmk
      rw [if_pos rfl, if_pos hm] at hk
      cases hk
      have : ((xs.set m u).drop (m * 1)).take 1 = [u] := by
        apply List.ext_getElem?
        intro q
        rw [List.getElem?_take, Nat.mul_one, List.getElem?_drop]
        match q with
        | 0 => simp [List.getElem?_set, hlen, hm]
        | q + 1 => simp
      rw [this]; exact hP
    · rw [if_neg hmk] at hk
      have : ((xs.set m u).drop (k * 1)).take 1 = (xs.drop (k * 1)).take 1 := by
        apply List.ext_getElem?
        intro q
        rw [List.getElem?_take, List.getElem?_take, Nat.mul_one, List.getElem?_drop, List.getElem?_drop]
        match q with
        | 0 => rw [List.getElem?_set_ne (by omega)]
        | q + 1 => simp
      rw [this]; exact hx k a hk
end Go.Vc
namespace Go.Proofs.Yteliekblhcbmgaa
open Go.Vc
attribute [local irreducible] TInt TBool TStr TPtr TSl TAgg TMap TChan T2 T3 T4 BS Req TSome TCell TByte LoadC LoadA StoreC AllocC RunV RunU CallV ExtV EqA StableC StableA StableV TCells ReadV
attribute [local irreducible] DrewC

theorem zU8b : zeroCB Try.prog 5 = some (#[.int .u8 0], 1, 1) := by kernel_rfl
theorem made_zero (n : Nat) : madeCells #[Value.int .u8 0] (n * 1) = (bvs (List.replicate n 0)).toArray := by
  apply Array.ext'
  apply List.ext_getElem?
  intro i
  rw [Nat.mul_one]
  rcases Nat.lt_or_ge i n with h | h
  · simp [madeCells, bvs, bv, h, Nat.mod_one]
  · rw [List.getElem?_eq_none (by simp [madeCells]; omega), List.getElem?_eq_none (by simp; omega)]
abbrev DkD := DkV 56 59
abbrev DkM := DkV 66 68
theorem newK_set (n : Nat) : { newK n with last := (newK n).last ++ [zero512] } = newK (n + 1) := by
  unfold newK
  rw [← List.replicate_succ']

theorem dNew_c (c : Nat → Nat) (k : Nat) {n : Int} {w : World} {R : Value → World → Prop} (hbad : (n < 1 ∨ 4096 < n) → R (.tuple #[.pointer none, .int .i64 1]) w)
    (h : ∀ m : Nat, n = m → 1 ≤ m → m ≤ 4096 → ∀ a c' w', Step c [] [k, k + 1, k + 2, k + 3, k + 4] w c' w' → DkD c' k w' a (newK m) → R (.tuple #[.pointer (some a), .int .i64 0]) w') : CallV Try.prog 11 #[.int .i64 n] w R := by
  have S := Fr.start w
  refine disk_New_vc ?_
  unfold disk_New_VC
  refine BS.dec (fun h1 => hbad (.inl h1)) (fun h1 => ?_)
  unfold disk_New_K1
  refine BS.dec (fun h2 => hbad (.inr h2)) (fun h2 => ?_)
  obtain ⟨m, rfl⟩ : ∃ m : Nat, n = m := ⟨n.toNat, by omega⟩
  refine AllocC.col (fun _ => 0) 1 fun x c1 w1 st1 b1 _ => ?_
  replace S := S.go st1.step (by decide) (by decide)
  refine LoopI.up m (fun i w' => ∃ c' vL, Fr w c' w' ∧ view c' 1 w' x = some (.cells (dcells vL (.slice none 0 0) (newK i)) 56 (0, 0)) ∧ LsO BytesP 30 1 (view c' 2 w') (view c' 4 w') vL (newK i).last)
    ⟨c1, _, S, b1, LsO.nil ..⟩ ?_
  clear S b1
  rintro i w2 B hi ⟨c2, vL, S, b1, hL⟩ back
  obtain ⟨oL, cL, rfl⟩ := hL.form
  refine BS.dec (fun hlt => ?_) (fun hge => ?_)
  · refine DrewC.col c2 fun w3 st3 => ?_
    replace S := S.go st3 (by decide) (by decide); replace b1 := st3.sub (by decide) _ _ b1
    replace hL := hL.go (fun _ _ _ _ hp hs => hp.mono hs) st3 (by decide) (by decide)
    refine LoadC.ad (view_sub _ _ _) _ b1 rfl (TSl.mk ?_)
    refine make_col (n := 512) (l := 512) Try.underlying30 zU8b c2 4 (Nat.le_refl _) (by omega) (by omega) fun y c4 w4 st4 b4 _ => TSl.mk ?_
    replace S := S.go st4.fresh (by decide) (by decide); replace b1 := st4.fresh.sub (by decide) _ _ b1
    replace hL := hL.go (fun _ _ _ _ hp hs => hp.mono hs) st4.fresh (by decide) (by decide)
    rw [made_zero] at b4
    refine ⟨StableC.ad (view_sub _ _ _) b1 rfl, ?_⟩
    refine AllocC.col c4 4 fun z c5 w5 st5 b5 _ => ?_
    replace S := S.go st5.fresh (by decide) (by decide); replace b1 := st5.fresh.sub (by decide) _ _ b1; replace b4 := st5.fresh.sub (by decide) _ _ b4
    replace hL := hL.go (fun _ _ _ _ hp hs => hp.mono hs) st5.fresh (by decide) (by decide)
    refine ⟨StableC.ad (view_sub _ _ _) b1 rfl, ?_⟩
    have one : LsW BytesP 1 (wv w5) (view c5 4 w5) (.slice (some ⟨z, 0, none⟩) 1 1) [zero512] :=
      LsW.one (view_sub _ _ _ _ _ b5) rfl ⟨_, rfl, by rw [zero512_len]; exact RdS.block (xs := bvs zero512) b4 (by rw [bvs_length, zero512_len]) (Nat.le_refl _)⟩
    refine LsO.app slBs hL one (fun _ _ hp => hp.ones) (by simp [newK]; omega) (by simp [newK]; omega) fun o6 p6 c6 w6 st6 hL => TSl.mk ?_
    replace hL : LsO BytesP 30 1 (view c6 2 w6) (view c6 4 w6) _ _ := hL.mono' (fun _ _ hp => hp.mono (st6.step.sub (by decide))) (fun _ _ h => h)
    replace S := S.go st6.step (by decide) (by decide); replace b1 := st6.step.sub (by decide) _ _ b1
    refine StoreC.ad b1 (by simp [dcells]) fun w7 _ st7 b1 => ?_
    replace S := S.go st7 (by decide) (by decide)
    replace hL := hL.go (fun _ _ _ _ hp hs => hp.mono hs) st7 (by decide) (by decide)
    rw [wrap_i64 (by omega) (by omega)]
    have e : (newK i).last ++ [zero512] = (newK (i + 1)).last := by rw [← newK_set]
    rw [e] at hL b1
    exact back _ (by omega) ⟨c6, _, S, b1, hL⟩
  · have : i = m := by omega
    subst this
    exact h i rfl (by omega) (by omega) _ _ _ (S.leaveF c (dkF k) _ (dkF_mem k)) (DkV.out S ⟨x, _, _, rfl, b1, hL, LsO.nil ..⟩ c k)

theorem mNew_c (c : Nat → Nat) (k : Nat) (m : Nat) (hm : m ≤ 4096) {w : World} {R : Value → World → Prop}
    (h : ∀ a c' w', Step c [] [k, k + 1, k + 2, k + 3, k + 4] w c' w' → DkM c' k w' a (newK m) → R (.pointer (some a)) w') : CallV Try.prog 17 #[.int .i64 m] w R := by
  have S := Fr.start w
  refine ref01_New_vc ?_
  unfold ref01_New_VC
  refine AllocC.col (fun _ => 0) 1 fun x c1 w1 st1 b1 _ => ?_
  replace S := S.go st1.step (by decide) (by decide)
  refine LoopI.up m (fun i w' => ∃ c' vL, Fr w c' w' ∧ view c' 1 w' x = some (.cells (dcells vL (.slice none 0 0) (newK i)) 66 (0, 0)) ∧ LsO BytesP 30 1 (view c' 2 w') (view c' 4 w') vL (newK i).last)
    ⟨c1, _, S, b1, LsO.nil ..⟩ ?_
  clear S b1
  rintro i w2 B hi ⟨c2, vL, S, b1, hL⟩ back
  obtain ⟨oL, cL, rfl⟩ := hL.form
  refine BS.dec (fun hlt => ?_) (fun hge => ?_)
  · refine DrewC.col c2 fun w3 st3 => ?_
    replace S := S.go st3 (by decide) (by decide); replace b1 := st3.sub (by decide) _ _ b1
    replace hL := hL.go (fun _ _ _ _ hp hs => hp.mono hs) st3 (by decide) (by decide)
    refine LoadC.ad (view_sub _ _ _) _ b1 rfl (TSl.mk ?_)
    refine make_col (n := 512) (l := 512) Try.underlying30 zU8b c2 4 (Nat.le_refl _) (by omega) (by omega) fun y c4 w4 st4 b4 _ => TSl.mk ?_
    replace S := S.go st4.fresh (by decide) (by decide); replace b1 := st4.fresh.sub (by decide) _ _ b1
    replace hL := hL.go (fun _ _ _ _ hp hs => hp.mono hs) st4.fresh (by decide) (by decide)
    rw [made_zero] at b4
    refine ⟨StableC.ad (view_sub _ _ _) b1 rfl, ?_⟩
    refine AllocC.col c4 4 fun z c5 w5 st5 b5 _ => ?_
    replace S := S.go st5.fresh (by decide) (by decide); replace b1 := st5.fresh.sub (by decide) _ _ b1; replace b4 := st5.fresh.sub (by decide) _ _ b4
    replace hL := hL.go (fun _ _ _ _ hp hs => hp.mono hs) st5.fresh (by decide) (by decide)
    refine ⟨StableC.ad (view_sub _ _ _) b1 rfl, ?_⟩
    have one : LsW BytesP 1 (wv w5) (view c5 4 w5) (.slice (some ⟨z, 0, none⟩) 1 1) [zero512] :=
      LsW.one (view_sub _ _ _ _ _ b5) rfl ⟨_, rfl, by rw [zero512_len]; exact RdS.block (xs := bvs zero512) b4 (by rw [bvs_length, zero512_len]) (Nat.le_refl _)⟩
    refine LsO.app slBs hL one (fun _ _ hp => hp.ones) (by simp [newK]; omega) (by simp [newK]; omega) fun o6 p6 c6 w6 st6 hL => TSl.mk ?_
    replace hL : LsO BytesP 30 1 (view c6 2 w6) (view c6 4 w6) _ _ := hL.mono' (fun _ _ hp => hp.mono (st6.step.sub (by decide))) (fun _ _ h => h)
    replace S := S.go st6.step (by decide) (by decide); replace b1 := st6.step.sub (by decide) _ _ b1
    refine StoreC.ad b1 (by simp [dcells]) fun w7 _ st7 b1 => ?_
    replace S := S.go st7 (by decide) (by decide)
    replace hL := hL.go (fun _ _ _ _ hp hs => hp.mono hs) st7 (by decide) (by decide)
    rw [wrap_i64 (by omega) (by omega)]
    have e : (newK i).last ++ [zero512] = (newK (i + 1)).last := by rw [← newK_set]
    rw [e] at hL b1
    exact back _ (by omega) ⟨c6, _, S, b1, hL⟩
  · have : i = m := by omega
    subst this
    exact h _ _ _ (S.leaveF c (dkF k) _ (dkF_mem k)) (DkV.out S ⟨x, _, _, rfl, b1, hL, LsO.nil ..⟩ c k)

theorem dFlush_c {c : Nat → Nat} {k : Nat} {w : World} {a : Addr} {D : DkR} {R : Value → World → Prop} (hd : DkD c k w a D) (hok : D.ok) (hn : D.opn.length ≤ 100000)
    (h : ∀ c' w', Step c [k, k + 1, k + 4] [k + 4] w c' w' → DkD c' k w' a (flK D).1 → R (.int .i64 (flK D).2) w') : CallV Try.prog 14 #[.pointer (some a)] w R := by
  have hd0 := hd
  obtain ⟨b, vL, vO, rfl, hb, hL, hO⟩ := hd0
  refine disk_Disk_Flush_vc ?_
  unfold disk_Disk_Flush_VC
  refine LoadC.ad (view_sub _ _ _) _ hb rfl (TBool.mk ?_)
  by_cases hdn : D.down = true
  · refine BS.yes hdn ?_
    have := h c w (.refl ..)
    unfold flK at this
    rw [if_pos hdn] at this
    exact this hd
  refine BS.no (by simpa using hdn) ?_
  refine duse_c hd hok fun w1 st1 hd => TBool.mk ?_
  have S : Step c [k, k + 1, k + 4] [k + 4] w c w1 := st1.weak (by simp) (by simp)
  have eu := useK_last D
  unfold disk_Disk_Flush_K1
  cases hu : (useK D).2
  · refine BS.yes rfl ?_
    have := h c w1 S
    unfold flK at this
    rw [if_neg hdn, if_neg (by rw [hu]; simp)] at this
    exact this hd
  refine BS.no rfl ?_
  obtain ⟨b', vL', vO', e, hb, hL, hO⟩ := hd
  cases e
  rw [eu.1] at hL
  rw [eu.2] at hO
  obtain ⟨oL, cL, rfl⟩ := hL.form
  obtain ⟨oO, cO, rfl⟩ := hO.form
  refine LoadC.ad (view_sub _ _ _) _ hb rfl (TSl.mk ?_)
  refine LoopI.up D.opn.length (fun n w' => ∃ c', Step c [k, k + 1, k + 4] [k + 4] w c' w' ∧ view c' k w' b = some (.cells (dcells (.slice oL D.last.length cL) (.slice oO D.opn.length cO) (useK D).1) 56 (0, 0)) ∧
    LsO BytesP 30 1 (view c' (k + 1) w') (view c' (k + 3) w') (.slice oL D.last.length cL) (putAll D.last (D.opn.take n)) ∧ LsO WrP 59 2 (view c' (k + 2) w') (view c' (k + 3) w') (.slice oO D.opn.length cO) D.opn) ⟨c, S, hb, hL, hO⟩ ?_
  clear S hb hL hO st1
  rintro n w2 B hn2 ⟨c2, S, hb, hL, hO⟩ back
  refine BS.dec (fun hlt => ?_) (fun hge => ?_)
  · obtain ⟨p, hp⟩ := get_of_lt (l := D.opn) (i := n) (by omega)
    have hp1 := (hok.2.1 p (List.mem_of_getElem? hp)).1
    obtain ⟨es, ⟨v, rfl, rp⟩, E⟩ := LsO.at (by omega) hO hp
    obtain ⟨op, pp, rfl⟩ := rp.form
    refine Req.bnd ⟨by omega, by omega⟩ (E.all (view_sub _ _ _) ?_)
    refine AllocC.col c2 (k + 4) fun t c3 w3 st3 b3 _ => ?_
    replace hb := st3.fresh.sub (by simp) _ _ hb
    replace hL := hL.go (fun _ _ _ _ hp hs => hp.mono hs) st3.fresh (by simp) (by simp)
    replace hO := hO.go (fun _ _ _ _ hp hs => hp.mono hs) st3.fresh (by simp) (by simp)
    replace rp := rp.mono (st3.fresh.sub (i := k + 3) (by simp))
    replace S := S.trans (st3.fresh.weak (W' := [k, k + 1, k + 4]) (N' := [k + 4]) (by simp) (by simp))
    refine RunU.var b3 (by kernel_rfl) rfl (by simp [Value.oneCell']) fun w4 st4 b4 => ?_
    replace hb := st4.step.sub (by simp) _ _ hb
    replace hL := hL.go (fun _ _ _ _ hp hs => hp.mono hs) st4.step (by simp) (by simp)
    replace hO := hO.go (fun _ _ _ _ hp hs => hp.mono hs) st4.step (by simp) (by simp)
    replace rp := rp.mono (st4.step.sub (i := k + 3) (by simp))
    replace S := S.trans (st4.step.weak (W' := [k, k + 1, k + 4]) (N' := [k + 4]) (by simp) (by simp))
    refine DrewC.col c3 fun w5 st5 => ?_
    replace hb := st5.sub (by simp) _ _ hb
    replace b4 := st5.sub (by simp) _ _ b4
    replace hL := hL.go (fun _ _ _ _ hp hs => hp.mono hs) st5 (by simp) (by simp)
    replace hO := hO.go (fun _ _ _ _ hp hs => hp.mono hs) st5 (by simp) (by simp)
    replace rp := rp.mono (st5.sub (i := k + 3) (by simp))
    replace S := S.trans (st5.weak (W' := [k, k + 1, k + 4]) (N' := [k + 4]) (by simp) (by simp))
    refine LoadC.ad (view_sub _ _ _) _ hb rfl (TSl.mk ?_)
    refine LoadC.ad (view_sub _ _ _) _ b4 rfl (TInt.mk ?_)
    refine LoadC.ad (view_sub _ _ _) _ b4 rfl (TSl.mk ?_)
    refine Req.bnd ⟨by omega, by omega⟩ ?_
    refine LsO.store hL (by rw [putAll_length]; exact hp1) ⟨_, rfl, rp⟩ fun w6 st6 hL => ?_
    replace hb := st6.sub (by simp) _ _ hb
    replace hL : LsO BytesP 30 1 (view c3 (k + 1) w6) (view c3 (k + 3) w6) _ _ := hL.mono' (fun _ _ hp => hp.mono (st6.sub (by simp))) (fun _ _ h => h)
    replace hO := hO.go (fun _ _ _ _ hp hs => hp.mono hs) st6 (by simp) (by simp)
    replace S := S.trans (st6.weak (W' := [k, k + 1, k + 4]) (N' := [k + 4]) (by simp) (by simp))
    rw [wrap_i64 (by omega) (by omega)]
    refine back _ (by omega) ⟨c3, S, hb, ?_, hO⟩
    rw [List.take_add_one, hp, Option.toList_some, putAll_snoc]
    exact hL
  · have : n = D.opn.length := by omega
    subst this
    rw [List.take_length] at hL
    refine StoreC.ad hb (by simp [dcells]) fun w3 _ st3 b3 => ?_
    replace hL := hL.go (fun _ _ _ _ hp hs => hp.mono hs) st3 (by simp) (by simp)
    replace S := S.trans (st3.weak (W' := [k, k + 1, k + 4]) (N' := [k + 4]) (by simp) (by simp))
    have := h c2 w3 S
    unfold flK at this
    rw [if_neg hdn, if_pos hu] at this
    exact this ⟨b, _, _, rfl, b3, hL, LsO.nil ..⟩
theorem mFlush_c {c : Nat → Nat} {k : Nat} {w : World} {a : Addr} {D : DkR} {R : Value → World → Prop} (hd : DkM c k w a D) (hok : D.ok) (hn : D.opn.length ≤ 100000)
    (h : ∀ c' w', Step c [k, k + 1, k + 4] [k + 4] w c' w' → DkM c' k w' a (flK D).1 → R (.int .i64 (flK D).2) w') : CallV Try.prog 18 #[.pointer (some a)] w R := by
  have hd0 := hd
  obtain ⟨b, vL, vO, rfl, hb, hL, hO⟩ := hd0
  refine ref01_Disk_Flush_vc ?_
  unfold ref01_Disk_Flush_VC
  refine LoadC.ad (view_sub _ _ _) _ hb rfl (TBool.mk ?_)
  by_cases hdn : D.down = true
  · refine BS.yes hdn ?_
    have := h c w (.refl ..)
    unfold flK at this
    rw [if_pos hdn] at this
    exact this hd
  refine BS.no (by simpa using hdn) ?_
  refine muse_c hd hok fun w1 st1 hd => TBool.mk ?_
  have S : Step c [k, k + 1, k + 4] [k + 4] w c w1 := st1.weak (by simp) (by simp)
  have eu := useK_last D
  cases hu : (useK D).2
  · refine BS.yes rfl ?_
    have := h c w1 S
    unfold flK at this
    rw [if_neg hdn, if_neg (by rw [hu]; simp)] at this
    exact this hd
  refine BS.no rfl ?_
  obtain ⟨b', vL', vO', e, hb, hL, hO⟩ := hd
  cases e
  rw [eu.1] at hL
  rw [eu.2] at hO
  obtain ⟨oL, cL, rfl⟩ := hL.form
  obtain ⟨oO, cO, rfl⟩ := hO.form
  refine LoopI.up D.opn.length (fun n w' => Step c [k, k + 1, k + 4] [k + 4] w c w' ∧ view c k w' b = some (.cells (dcells (.slice oL D.last.length cL) (.slice oO D.opn.length cO) (useK D).1) 66 (0, 0)) ∧
    LsO BytesP 30 1 (view c (k + 1) w') (view c (k + 3) w') (.slice oL D.last.length cL) (putAll D.last (D.opn.take n)) ∧ LsO WrP 68 2 (view c (k + 2) w') (view c (k + 3) w') (.slice oO D.opn.length cO) D.opn) ⟨S, hb, hL, hO⟩ ?_
  clear S hb hL hO st1
  rintro n w2 B hn2 ⟨S, hb, hL, hO⟩ back
  refine LoadC.ad (view_sub _ _ _) _ hb rfl (TSl.mk ?_)
  refine BS.dec (fun hlt => ?_) (fun hge => ?_)
  · obtain ⟨p, hp⟩ := get_of_lt (l := D.opn) (i := n) (by omega)
    have hp1 := (hok.2.1 p (List.mem_of_getElem? hp)).1
    refine DrewC.col c fun w5 st5 => ?_
    replace hb := st5.sub (by simp) _ _ hb
    replace hL := hL.go (fun _ _ _ _ hp hs => hp.mono hs) st5 (by simp) (by simp)
    replace hO := hO.go (fun _ _ _ _ hp hs => hp.mono hs) st5 (by simp) (by simp)
    replace S := S.trans (st5.weak (W' := [k, k + 1, k + 4]) (N' := [k + 4]) (by simp) (by simp))
    obtain ⟨es, ⟨v, rfl, rp⟩, E⟩ := LsO.at (by omega) hO hp
    obtain ⟨op, pp, rfl⟩ := rp.form
    refine LoadC.ad (view_sub _ _ _) _ hb rfl (TSl.mk ?_)
    refine LoadC.ad (view_sub _ _ _) _ hb rfl (TSl.mk ?_)
    refine Req.bnd ⟨by omega, by omega⟩ (E.ld (view_sub _ _ _) (k := 0) rfl (TInt.mk ?_))
    refine LoadC.ad (view_sub _ _ _) _ hb rfl (TSl.mk ?_)
    refine Req.bnd ⟨by omega, by omega⟩ (E.ld (view_sub _ _ _) (k := 1) rfl (TSl.mk ?_))
    refine Req.bnd ⟨by omega, by omega⟩ ?_
    refine LsO.store hL (by rw [putAll_length]; exact hp1) ⟨_, rfl, rp⟩ fun w6 st6 hL => ?_
    replace hb := st6.sub (by simp) _ _ hb
    replace hL : LsO BytesP 30 1 (view c (k + 1) w6) (view c (k + 3) w6) _ _ := hL.mono' (fun _ _ hp => hp.mono (st6.sub (by simp))) (fun _ _ h => h)
    replace hO := hO.go (fun _ _ _ _ hp hs => hp.mono hs) st6 (by simp) (by simp)
    replace S := S.trans (st6.weak (W' := [k, k + 1, k + 4]) (N' := [k + 4]) (by simp) (by simp))
    rw [wrap_i64 (by omega) (by omega)]
    refine back _ (by omega) ⟨S, hb, ?_, hO⟩
    rw [List.take_add_one, hp, Option.toList_some, putAll_snoc]
    exact hL
  · have : n = D.opn.length := by omega
    subst this
    rw [List.take_length] at hL
    refine StoreC.ad hb (by simp [dcells]) fun w3 _ st3 b3 => ?_
    replace hL := hL.go (fun _ _ _ _ hp hs => hp.mono hs) st3 (by simp) (by simp)
    replace S := S.trans (st3.weak (W' := [k, k + 1, k + 4]) (N' := [k + 4]) (by simp) (by simp))
    have := h c w3 S
    unfold flK at this
    rw [if_neg hdn, if_pos hu] at this
    exact this ⟨b, _, _, rfl, b3, hL, LsO.nil ..⟩
end Go.Proofs.Yteliekblhcbmgaa

/-
  A disk, and the document's: how they lie, and what the small calls do.
-/
import Derived.Test.YteliekblhcbmgaaDkD
import Derived.Test.YteliekblhcbmgaaRd
import Derived.Test.YteliekblhcbmgaaSl30
set_option linter.unusedVariables false
set_option linter.unusedSimpArgs false
namespace Go.Vc
open Go
/-- an open write in its row -/
def WrP (h : View) (p : Nat × List UInt8) (es : List Value) : Prop := ∃ v, es = [.int .i64 (p.1 : Int), v] ∧ RdS h v 1 p.2.length (bvs p.2)
theorem WrP.mono {h h' : View} {p : Nat × List UInt8} {es : List Value} (hp : WrP h p es) (hs : Sub h h') : WrP h' p es := by
  obtain ⟨v, e, hr⟩ := hp; exact ⟨v, e, hr.mono hs⟩
theorem WrP.ones {h : View} {p : Nat × List UInt8} {es : List Value} (hp : WrP h p es) : ∀ u ∈ es, u.oneCell' = true := by
  obtain ⟨v, rfl, hr⟩ := hp
  obtain ⟨o, q, rfl⟩ := hr.form
  intro u hu
  rcases List.mem_cons.1 hu with rfl | hu
  · rfl
  · rcases List.mem_cons.1 hu with rfl | hu
    · rfl
    · simp at hu
def dcells (vL vO : Value) (D : DkR) : Array Value := #[vL, vO, .int .i64 D.left, .bool D.down]
/-- a disk: the struct has colour k, the rows k + 1 and k + 2, the bytes k + 3 -/
def DkV (T tW : Nat) (c : Nat → Nat) (k : Nat) (w : World) (a : Addr) (D : DkR) : Prop :=
  ∃ b vL vO, a = ⟨b, 0, none⟩ ∧ view c k w b = some (.cells (dcells vL vO D) T (0, 0)) ∧ LsO BytesP 30 1 (view c (k + 1) w) (view c (k + 3) w) vL D.last ∧ LsO WrP tW 2 (view c (k + 2) w) (view c (k + 3) w) vO D.opn
theorem DkV.mono {T tW : Nat} {c c' : Nat → Nat} {k : Nat} {w w' : World} {a : Addr} {D : DkR} {W N : List Nat} (hd : DkV T tW c k w a D) (st : Step c W N w c' w') (h0 : k ∉ W) (h1 : k + 1 ∉ W) (h2 : k + 2 ∉ W) (h3 : k + 3 ∉ W) : DkV T tW c' k w' a D := by
  obtain ⟨b, vL, vO, e, hb, hL, hO⟩ := hd
  exact ⟨b, vL, vO, e, st.sub h0 _ _ hb, hL.mono' (fun _ _ hp => hp.mono (st.sub h3)) (st.sub h1), hO.mono' (fun _ _ hp => hp.mono (st.sub h3)) (st.sub h2)⟩
theorem LsO.go {α : Type} {P : View → α → List Value → Prop} {T z : Nat} {c c' : Nat → Nat} {i q : Nat} {w w' : World} {v : Value} {l : List α} {W N : List Nat} (hl : LsO P T z (view c i w) (view c q w) v l) (hP : ∀ (h h' : View) a es, P h a es → Sub h h' → P h' a es)
    (st : Step c W N w c' w') (hi : i ∉ W) (hq : q ∉ W) : LsO P T z (view c' i w') (view c' q w') v l := hl.mono' (fun _ _ hp => hP _ _ _ _ hp (st.sub hq)) (st.sub hi)
end Go.Vc
namespace Go.Proofs.Yteliekblhcbmgaa
open Go.Vc
attribute [local irreducible] TInt TBool TStr TPtr TSl TAgg TMap TChan T2 T3 T4 BS Req TSome TCell TByte LoadC LoadA StoreC AllocC RunV RunU CallV ExtV EqA StableC StableA StableV TCells ReadV
attribute [local irreducible] DrewC

theorem duse_c {c : Nat → Nat} {k : Nat} {w : World} {a : Addr} {D : DkR} {R : Value → World → Prop} (hd : DkV 56 59 c k w a D) (hok : D.ok)
    (h : ∀ w', Step c [k] [] w c w' → DkV 56 59 c k w' a (useK D).1 → R (.bool (useK D).2) w') : CallV Try.prog 26 #[.pointer (some a)] w R := by
  obtain ⟨b, vL, vO, rfl, hb, hL, hO⟩ := hd
  have h3 := hok.2.2.1
  have h4 := hok.2.2.2.1
  refine disk_Disk_call_vc ?_
  unfold disk_Disk_call_VC
  refine LoadC.ad (view_sub _ _ _) _ hb rfl (TInt.mk ?_)
  refine BS.eq (fun h0 => ?_) (fun h0 => ?_)
  · refine StoreC.ad hb (by simp [dcells]) fun w1 _ st1 b1 => ?_
    have := h w1 st1
    unfold useK at this
    rw [if_pos h0] at this
    exact this ⟨b, vL, vO, rfl, b1, hL.mono' (fun _ _ hp => hp.mono (st1.sub (by simp))) (st1.sub (by simp)), hO.mono' (fun _ _ hp => hp.mono (st1.sub (by simp))) (st1.sub (by simp))⟩
  · refine LoadC.ad (view_sub _ _ _) _ hb rfl (TInt.mk ?_)
    refine BS.dec (fun hp => ?_) (fun hp => ?_)
    · refine LoadC.ad (view_sub _ _ _) _ hb rfl (TInt.mk ?_)
      refine StoreC.ad hb (by simp [dcells]) fun w1 _ st1 b1 => ?_
      rw [wrap_i64 (by omega) (by omega)] at b1
      have := h w1 st1
      unfold useK at this
      rw [if_neg h0, if_pos hp] at this
      exact this ⟨b, vL, vO, rfl, b1, hL.mono' (fun _ _ hp => hp.mono (st1.sub (by simp))) (st1.sub (by simp)), hO.mono' (fun _ _ hp => hp.mono (st1.sub (by simp))) (st1.sub (by simp))⟩
    · have := h w (.refl ..)
      unfold useK at this
      rw [if_neg h0, if_neg hp] at this
      exact this ⟨b, vL, vO, rfl, hb, hL, hO⟩

theorem muse_c {c : Nat → Nat} {k : Nat} {w : World} {a : Addr} {D : DkR} {R : Value → World → Prop} (hd : DkV 66 68 c k w a D) (hok : D.ok)
    (h : ∀ w', Step c [k] [] w c w' → DkV 66 68 c k w' a (useK D).1 → R (.bool (useK D).2) w') : CallV Try.prog 29 #[.pointer (some a)] w R := by
  obtain ⟨b, vL, vO, rfl, hb, hL, hO⟩ := hd
  have h3 := hok.2.2.1
  have h4 := hok.2.2.2.1
  refine ref01_Disk_use_vc ?_
  unfold ref01_Disk_use_VC
  refine LoadC.ad (view_sub _ _ _) _ hb rfl (TInt.mk ?_)
  refine BS.eq (fun h0 => ?_) (fun h0 => ?_)
  · refine StoreC.ad hb (by simp [dcells]) fun w1 _ st1 b1 => ?_
    have := h w1 st1
    unfold useK at this
    rw [if_pos h0] at this
    exact this ⟨b, vL, vO, rfl, b1, hL.mono' (fun _ _ hp => hp.mono (st1.sub (by simp))) (st1.sub (by simp)), hO.mono' (fun _ _ hp => hp.mono (st1.sub (by simp))) (st1.sub (by simp))⟩
  · refine LoadC.ad (view_sub _ _ _) _ hb rfl (TInt.mk ?_)
    refine BS.dec (fun hp => ?_) (fun hp => ?_)
    · refine LoadC.ad (view_sub _ _ _) _ hb rfl (TInt.mk ?_)
      refine StoreC.ad hb (by simp [dcells]) fun w1 _ st1 b1 => ?_
      rw [wrap_i64 (by omega) (by omega)] at b1
      have := h w1 st1
      unfold useK at this
      rw [if_neg h0, if_pos hp] at this
      exact this ⟨b, vL, vO, rfl, b1, hL.mono' (fun _ _ hp => hp.mono (st1.sub (by simp))) (st1.sub (by simp)), hO.mono' (fun _ _ hp => hp.mono (st1.sub (by simp))) (st1.sub (by simp))⟩
    · have := h w (.refl ..)
      unfold useK at this
      rw [if_neg h0, if_neg hp] at this
      exact this ⟨b, vL, vO, rfl, hb, hL, hO⟩

theorem dWrite_c {c : Nat → Nat} {k q : Nat} {w : World} {a : Addr} {D : DkR} {v : Value} {i : Int} {l : List UInt8} {R : Value → World → Prop} (hd : DkV 56 59 c k w a D) (hok : D.ok) (hr : RdS (view c q w) v 1 l.length (bvs l)) (hq : q ≠ k) (hn : D.opn.length ≤ 100000)
    (h : ∀ c' w', Step c [k, k + 2] [k + 2, k + 3] w c' w' → DkV 56 59 c' k w' a (wrK D i l).1 → R (.int .i64 (wrK D i l).2) w') : CallV Try.prog 12 #[.pointer (some a), .int .i64 i, v] w R := by
  obtain ⟨o, cp, rfl⟩ := hr.form
  have hd0 := hd
  obtain ⟨b, vL, vO, rfl, hb, hL, hO⟩ := hd0
  obtain ⟨oL, cL, rfl⟩ := hL.form
  refine disk_Disk_Write_vc ?_
  unfold disk_Disk_Write_VC
  refine LoadC.ad (view_sub _ _ _) _ hb rfl (TBool.mk ?_)
  by_cases hdn : D.down = true
  · refine BS.yes hdn ?_
    have := h c w (.refl ..)
    unfold wrK at this
    rw [if_pos hdn] at this
    exact this hd
  have hdn' : D.down = false := by simpa using hdn
  refine BS.no hdn' ?_
  have range : ¬ (0 ≤ i ∧ i < D.last.length) → R (.int .i64 2) w := fun hx => by
    have := h c w (.refl ..)
    unfold wrK at this
    rw [if_neg hdn, if_pos hx] at this
    exact this hd
  refine BS.dec (fun hneg => range (by omega)) (fun hpos => ?_)
  refine LoadC.ad (view_sub _ _ _) _ hb rfl (TSl.mk ?_)
  unfold disk_Disk_Write_K1
  refine BS.dec (fun hge => range (by omega)) (fun hlt => ?_)
  have hx : ¬ ¬ (0 ≤ i ∧ i < D.last.length) := by omega
  refine BS.ne (fun hne => ?_) (fun h512 => ?_)
  · have := h c w (.refl ..)
    unfold wrK at this
    rw [if_neg hdn, if_neg hx, if_pos (by omega)] at this
    exact this hd
  have h512' : l.length = 512 := by omega
  refine duse_c hd hok fun w1 st1 hd => TBool.mk ?_
  have hr1 := hr.mono (st1.sub (by simpa using hq))
  have S1 : Step c [k, k + 2] [k + 2, k + 3] w c w1 := st1.weak (by simp) (by simp)
  obtain ⟨b', vL', vO', e, hb, hL, hO⟩ := hd
  cases e
  obtain ⟨oO, cO, rfl⟩ := hO.form
  have eu := useK_last D
  rw [eu.2] at hO hb
  refine DrewC.col c fun w2 st2 => ?_
  replace hb := st2.sub (by simp) _ _ hb
  replace hL := hL.go (fun _ _ _ _ hp hs => hp.mono hs) st2 (by simp) (by simp)
  replace hO := hO.go (fun _ _ _ _ hp hs => hp.mono hs) st2 (by simp) (by simp)
  have hr2 := hr1.mono (st2.sub (by simp))
  have S2 := S1.trans (st2.weak (W' := [k, k + 2]) (N' := [k + 2, k + 3]) (by simp) (by simp))
  refine LoadC.ad (view_sub _ _ _) _ hb rfl (TSl.mk ?_)
  refine Clone_bytes c (k + 3) (hr2.mono (view_sub _ _ _)) (by omega) fun v3 c3 w3 st3 r3 => ?_
  obtain ⟨o3, p3, rfl⟩ := r3.form
  replace hb := st3.sub (by simp) _ _ hb
  replace hL := hL.go (fun _ _ _ _ hp hs => hp.mono hs) st3 (by simp) (by simp)
  replace hO := hO.go (fun _ _ _ _ hp hs => hp.mono hs) st3 (by simp) (by simp)
  have S3 := S2.trans (st3.weak (W' := [k, k + 2]) (N' := [k + 2, k + 3]) (by simp) (by simp))
  refine TSl.mk ⟨StableC.ad (view_sub _ _ _) hb rfl, ?_⟩
  refine AllocC.col c3 (k + 3) fun x c4 w4 st4 b4 _ => ?_
  replace hb := st4.fresh.sub (by simp) _ _ hb
  replace hL := hL.go (fun _ _ _ _ hp hs => hp.mono hs) st4.fresh (by simp) (by simp)
  replace hO := hO.go (fun _ _ _ _ hp hs => hp.mono hs) st4.fresh (by simp) (by simp)
  have r4 := r3.rd.mono (st4.fresh.sub (i := k + 3) (by simp))
  have S4 := S3.trans (st4.fresh.weak (W' := [k, k + 2]) (N' := [k + 2, k + 3]) (by simp) (by simp))
  refine ⟨StableC.ad (view_sub _ _ _) hb rfl, ?_⟩
  have one : LsW WrP 2 (wv w4) (view c4 (k + 3) w4) (.slice (some ⟨x, 0, none⟩) 1 1) [(i.toNat, l)] :=
    LsW.one (view_sub _ _ _ _ _ b4) rfl ⟨_, by rw [show ((i.toNat : Nat) : Int) = i by omega], r4⟩
  refine LsO.app slWd hO one (fun _ _ hp => hp.ones) (by simp; omega) (by simp; omega) fun o5 p5 c5 w5 st5 hO => ?_
  have st5' := st5.step
  replace hb := st5'.sub (by simp) _ _ hb
  replace hL := hL.go (fun _ _ _ _ hp hs => hp.mono hs) st5' (by simp) (by simp)
  replace hO : LsO WrP 59 2 (view c5 (k + 2) w5) (view c5 (k + 3) w5) _ _ := hO.mono' (fun _ _ hp => hp.mono (st5'.sub (by simp))) (fun _ _ h => h)
  have S5 := S4.trans (st5'.weak (W' := [k, k + 2]) (N' := [k + 2, k + 3]) (by simp) (by simp))
  refine TSl.mk (StoreC.ad hb (by simp [dcells]) fun w6 _ st6 b6 => ?_)
  replace hL := hL.go (fun _ _ _ _ hp hs => hp.mono hs) st6 (by simp) (by simp)
  replace hO := hO.go (fun _ _ _ _ hp hs => hp.mono hs) st6 (by simp) (by simp)
  have S6 := S5.trans (st6.weak (W' := [k, k + 2]) (N' := [k + 2, k + 3]) (by simp) (by simp))
  have ew : wrK D i l = ({ (useK D).1 with opn := D.opn ++ [(i.toNat, l)] }, if (useK D).2 then 0 else 3) := by
    unfold wrK
    rw [if_neg hdn, if_neg hx, if_neg (by omega)]
  have := h c5 w6 S6
  rw [ew] at this
  have hV : DkV 56 59 c5 k w6 ⟨b, 0, none⟩ { (useK D).1 with opn := D.opn ++ [(i.toNat, l)] } := ⟨b, _, _, rfl, b6, by show LsO _ _ _ _ _ _ (useK D).1.last; exact hL, hO⟩
  have := this hV
  cases hu : (useK D).2
  · rw [hu] at this; exact BS.yes rfl this
  · rw [hu] at this; exact BS.no rfl this

theorem mWrite_c {c : Nat → Nat} {k q : Nat} {w : World} {a : Addr} {D : DkR} {v : Value} {i : Int} {l : List UInt8} {R : Value → World → Prop} (hd : DkV 66 68 c k w a D) (hok : D.ok) (hr : RdS (view c q w) v 1 l.length (bvs l)) (hq : q ≠ k) (hn : D.opn.length ≤ 100000)
    (h : ∀ c' w', Step c [k, k + 2] [k + 2, k + 3] w c' w' → DkV 66 68 c' k w' a (wrK D i l).1 → R (.int .i64 (wrK D i l).2) w') : CallV Try.prog 23 #[.pointer (some a), .int .i64 i, v] w R := by
  obtain ⟨o, cp, rfl⟩ := hr.form
  have hd0 := hd
  obtain ⟨b, vL, vO, rfl, hb, hL, hO⟩ := hd0
  obtain ⟨oL, cL, rfl⟩ := hL.form
  refine ref01_Disk_Write_vc ?_
  unfold ref01_Disk_Write_VC
  refine LoadC.ad (view_sub _ _ _) _ hb rfl (TBool.mk ?_)
  by_cases hdn : D.down = true
  · refine BS.yes hdn ?_
    have := h c w (.refl ..)
    unfold wrK at this
    rw [if_pos hdn] at this
    exact this hd
  have hdn' : D.down = false := by simpa using hdn
  refine BS.no hdn' ?_
  have range : ¬ (0 ≤ i ∧ i < D.last.length) → R (.int .i64 2) w := fun hx => by
    have := h c w (.refl ..)
    unfold wrK at this
    rw [if_neg hdn, if_pos hx] at this
    exact this hd
  refine BS.dec (fun hneg => range (by omega)) (fun hpos => ?_)
  refine LoadC.ad (view_sub _ _ _) _ hb rfl (TSl.mk ?_)
  unfold ref01_Disk_Write_K1
  refine BS.dec (fun hge => range (by omega)) (fun hlt => ?_)
  have hx : ¬ ¬ (0 ≤ i ∧ i < D.last.length) := by omega
  refine BS.ne (fun hne => ?_) (fun h512 => ?_)
  · have := h c w (.refl ..)
    unfold wrK at this
    rw [if_neg hdn, if_neg hx, if_pos (by omega)] at this
    exact this hd
  have h512' : l.length = 512 := by omega
  refine muse_c hd hok fun w1 st1 hd => TBool.mk ?_
  have hr1 := hr.mono (st1.sub (by simpa using hq))
  have S1 : Step c [k, k + 2] [k + 2, k + 3] w c w1 := st1.weak (by simp) (by simp)
  obtain ⟨b', vL', vO', e, hb, hL, hO⟩ := hd
  cases e
  obtain ⟨oO, cO, rfl⟩ := hO.form
  have eu := useK_last D
  rw [eu.2] at hO hb
  refine DrewC.col c fun w2 st2 => ?_
  replace hb := st2.sub (by simp) _ _ hb
  replace hL := hL.go (fun _ _ _ _ hp hs => hp.mono hs) st2 (by simp) (by simp)
  replace hO := hO.go (fun _ _ _ _ hp hs => hp.mono hs) st2 (by simp) (by simp)
  have hr2 := hr1.mono (st2.sub (by simp))
  have S2 := S1.trans (st2.weak (W' := [k, k + 2]) (N' := [k + 2, k + 3]) (by simp) (by simp))
  refine LoadC.ad (view_sub _ _ _) _ hb rfl (TSl.mk ?_)
  refine AllocC.col c (k + 3) fun y cA wA stA bA hnew => ?_
  refine ⟨StableC.ad (view_sub _ _ _) (stA.fresh.sub (by simp) _ _ hb) rfl, ?_⟩
  refine app_bytes slU8 (OwS.some_bytes bA) ((hr2.mono (stA.fresh.sub (i := q) (by simp))).mono (view_sub _ _ _)) (by simp; omega) fun o3 p3 c3 w3 stB r3 => TSl.mk ?_
  rw [List.nil_append] at r3 ⊢
  have st3 := Wr.step0 stA.fresh (by simp) stB (size_le_of_none hnew)

  replace hb := st3.sub (by simp) _ _ hb
  replace hL := hL.go (fun _ _ _ _ hp hs => hp.mono hs) st3 (by simp) (by simp)
  replace hO := hO.go (fun _ _ _ _ hp hs => hp.mono hs) st3 (by simp) (by simp)
  have S3 := S2.trans (st3.weak (W' := [k, k + 2]) (N' := [k + 2, k + 3]) (by simp) (by simp))
  refine ⟨StableC.ad (view_sub _ _ _) hb rfl, ?_⟩
  refine AllocC.col c3 (k + 3) fun x c4 w4 st4 b4 _ => ?_
  replace hb := st4.fresh.sub (by simp) _ _ hb
  replace hL := hL.go (fun _ _ _ _ hp hs => hp.mono hs) st4.fresh (by simp) (by simp)
  replace hO := hO.go (fun _ _ _ _ hp hs => hp.mono hs) st4.fresh (by simp) (by simp)
  have r4 := r3.rd.mono (st4.fresh.sub (i := k + 3) (by simp))
  have S4 := S3.trans (st4.fresh.weak (W' := [k, k + 2]) (N' := [k + 2, k + 3]) (by simp) (by simp))
  refine ⟨StableC.ad (view_sub _ _ _) hb rfl, ?_⟩
  have one : LsW WrP 2 (wv w4) (view c4 (k + 3) w4) (.slice (some ⟨x, 0, none⟩) 1 1) [(i.toNat, l)] :=
    LsW.one (view_sub _ _ _ _ _ b4) rfl ⟨_, by rw [show ((i.toNat : Nat) : Int) = i by omega], r4⟩
  refine LsO.app slWm hO one (fun _ _ hp => hp.ones) (by simp; omega) (by simp; omega) fun o5 p5 c5 w5 st5 hO => ?_
  have st5' := st5.step
  replace hb := st5'.sub (by simp) _ _ hb
  replace hL := hL.go (fun _ _ _ _ hp hs => hp.mono hs) st5' (by simp) (by simp)
  replace hO : LsO WrP 68 2 (view c5 (k + 2) w5) (view c5 (k + 3) w5) _ _ := hO.mono' (fun _ _ hp => hp.mono (st5'.sub (by simp))) (fun _ _ h => h)
  have S5 := S4.trans (st5'.weak (W' := [k, k + 2]) (N' := [k + 2, k + 3]) (by simp) (by simp))
  refine TSl.mk (StoreC.ad hb (by simp [dcells]) fun w6 _ st6 b6 => ?_)
  replace hL := hL.go (fun _ _ _ _ hp hs => hp.mono hs) st6 (by simp) (by simp)
  replace hO := hO.go (fun _ _ _ _ hp hs => hp.mono hs) st6 (by simp) (by simp)
  have S6 := S5.trans (st6.weak (W' := [k, k + 2]) (N' := [k + 2, k + 3]) (by simp) (by simp))
  have ew : wrK D i l = ({ (useK D).1 with opn := D.opn ++ [(i.toNat, l)] }, if (useK D).2 then 0 else 3) := by
    unfold wrK
    rw [if_neg hdn, if_neg hx, if_neg (by omega)]
  have := h c5 w6 S6
  rw [ew] at this
  have hV : DkV 66 68 c5 k w6 ⟨b, 0, none⟩ { (useK D).1 with opn := D.opn ++ [(i.toNat, l)] } := ⟨b, _, _, rfl, b6, by show LsO _ _ _ _ _ _ (useK D).1.last; exact hL, hO⟩
  have := this hV
  cases hu : (useK D).2
  · rw [hu] at this; exact BS.yes rfl this
  · rw [hu] at this; exact BS.no rfl this

theorem dSectors_c {c : Nat → Nat} {k : Nat} {w : World} {a : Addr} {D : DkR} {R : Value → World → Prop} (hd : DkV 56 59 c k w a D) (h : R (.int .i64 (D.last.length : Int)) w) : CallV Try.prog 25 #[.pointer (some a)] w R := by
  obtain ⟨b, vL, vO, rfl, hb, hL, hO⟩ := hd
  obtain ⟨oL, cL, rfl⟩ := hL.form
  refine disk_Disk_Sectors_vc ?_
  unfold disk_Disk_Sectors_VC
  exact LoadC.ad (view_sub _ _ _) _ hb rfl (TSl.mk h)
theorem dLimit_c {c : Nat → Nat} {k : Nat} {w : World} {a : Addr} {D : DkR} {n : Int} {R : Value → World → Prop} (hd : DkV 56 59 c k w a D)
    (h : ∀ w', Step c [k] [] w c w' → DkV 56 59 c k w' a (limK D n) → R (.tuple #[]) w') : CallV Try.prog 19 #[.pointer (some a), .int .i64 n] w R := by
  obtain ⟨b, vL, vO, rfl, hb, hL, hO⟩ := hd
  refine disk_Disk_Limit_vc ?_
  unfold disk_Disk_Limit_VC
  refine StoreC.ad hb (by simp [dcells]) fun w1 _ st1 b1 => ?_
  exact h w1 st1 ⟨b, vL, vO, rfl, b1, hL.go (fun _ _ _ _ hp hs => hp.mono hs) st1 (by simp) (by simp), hO.go (fun _ _ _ _ hp hs => hp.mono hs) st1 (by simp) (by simp)⟩
theorem mLimit_c {c : Nat → Nat} {k : Nat} {w : World} {a : Addr} {D : DkR} {n : Int} {R : Value → World → Prop} (hd : DkV 66 68 c k w a D)
    (h : ∀ w', Step c [k] [] w c w' → DkV 66 68 c k w' a (limK D n) → R (.tuple #[]) w') : CallV Try.prog 20 #[.pointer (some a), .int .i64 n] w R := by
  obtain ⟨b, vL, vO, rfl, hb, hL, hO⟩ := hd
  refine ref01_Disk_Limit_vc ?_
  unfold ref01_Disk_Limit_VC
  refine StoreC.ad hb (by simp [dcells]) fun w1 _ st1 b1 => ?_
  have hL1 := hL.go (fun _ _ _ _ hp hs => hp.mono hs) st1 (by simp) (by simp)
  have hO1 := hO.go (fun _ _ _ _ hp hs => hp.mono hs) st1 (by simp) (by simp)
  refine BS.dec (fun hn => ?_) (fun hn => ?_)
  · refine StoreC.ad b1 (by simp [dcells]) fun w2 _ st2 b2 => ?_
    refine h w2 (st1.trans st2) ⟨b, vL, vO, rfl, ?_, hL1.go (fun _ _ _ _ hp hs => hp.mono hs) st2 (by simp) (by simp), hO1.go (fun _ _ _ _ hp hs => hp.mono hs) st2 (by simp) (by simp)⟩
    have e : (limK D n).left = -1 := by show max n (-1) = -1; omega
    unfold dcells at b2 ⊢
    rw [e]; exact b2
  · refine h w1 st1 ⟨b, vL, vO, rfl, ?_, hL1, hO1⟩
    have e : (limK D n).left = n := by show max n (-1) = n; omega
    unfold dcells at b1 ⊢
    rw [e]; exact b1
end Go.Proofs.Yteliekblhcbmgaa

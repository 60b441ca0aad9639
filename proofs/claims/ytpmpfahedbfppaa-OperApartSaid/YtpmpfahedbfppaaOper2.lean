/-
  Operations are written and read, each function once.
-/
import Derived.Test.YtpmpfahedbfppaaOper1
set_option linter.unusedVariables false
set_option linter.unusedSimpArgs false
namespace Go.Proofs.Ytpmpfahedbfppaa
open Go.Vc
attribute [local irreducible] TInt TBool TStr TPtr TSl TAgg TMap TChan T2 T3 T4 BS Req TSome TCell TByte LoadC LoadA StoreC AllocC RunV RunU CallV EqA StableC StableA StableV TCells ReadV

theorem oper_Write_c (c : Nat → Nat) (j : Nat) {w : World} {o : OpR} {v : Value} {R : Value → World → Prop} (hv : OpRV (wv w) o v)
    (h : ∀ v c' w', Step c [] [j] w c' w' → OwS (view c' j w') v 5 1 (wrOp o).1.length (bvs (wrOp o).1) → R (.tuple #[v, .int .i64 (wrOp o).2]) w') :
    CallV Try.prog 41 #[.agg (o.cells v).toArray] w R := by
  obtain ⟨ov, cv, rfl⟩ := RdS.form hv
  have D : RdS (view (fun _ => 0) 0 w) (.slice ov o.data.length cv) 1 o.data.length (bvs o.data) := by rw [view0]; exact hv
  have S := Fr.start w
  refine oper_Write_vc ?_
  unfold oper_Write_VC
  refine AllocC.col (fun _ => 0) 1 fun b c1 w1 st1 b1 _ => ?_
  replace S := S.go st1.step (by decide) (by decide); replace D := D.mono (st1.step.sub (by decide))
  have fls : ¬ o.right → R (.tuple #[.slice none 0 0, .int .i64 1]) w1 := fun hn => by
    have := h (.slice none 0 0) _ _ (S.leave c j)
    rw [wrOp, if_neg hn] at this
    exact this (OwS.none_bytes ..)
  (repeat (first | refine TInt.mk ?_ | refine TBool.mk ?_ | refine TStr.mk ?_ | refine TSl.mk ?_ | refine TPtr.mk ?_ | refine TAgg.mk ?_ | refine T2.mk ?_ | refine T3.mk ?_ | refine TSome.mk ?_ | refine LoadC.ad (view_sub _ _ _) _ (by assumption) rfl ?_))
  refine BS.dec (fun k => fls fun h => by unfold OpR.right at h; omega) (fun k1 => ?_)
  (repeat (first | refine TInt.mk ?_ | refine TBool.mk ?_ | refine TStr.mk ?_ | refine TSl.mk ?_ | refine TPtr.mk ?_ | refine TAgg.mk ?_ | refine T2.mk ?_ | refine T3.mk ?_ | refine TSome.mk ?_ | refine LoadC.ad (view_sub _ _ _) _ (by assumption) rfl ?_))
  refine BS.dec (fun k => fls fun h => by unfold OpR.right at h; omega) (fun k2 => ?_)
  (repeat (first | refine TInt.mk ?_ | refine TBool.mk ?_ | refine TStr.mk ?_ | refine TSl.mk ?_ | refine TPtr.mk ?_ | refine TAgg.mk ?_ | refine T2.mk ?_ | refine T3.mk ?_ | refine TSome.mk ?_ | refine LoadC.ad (view_sub _ _ _) _ (by assumption) rfl ?_))
  refine BS.dec (fun k => fls fun h => by unfold OpR.right at h; rw [strOf_size] at k; omega) (fun k3 => ?_)
  (repeat (first | refine TInt.mk ?_ | refine TBool.mk ?_ | refine TStr.mk ?_ | refine TSl.mk ?_ | refine TPtr.mk ?_ | refine TAgg.mk ?_ | refine T2.mk ?_ | refine T3.mk ?_ | refine TSome.mk ?_ | refine LoadC.ad (view_sub _ _ _) _ (by assumption) rfl ?_))
  refine BS.dec (fun k => fls fun h => by unfold OpR.right at h; rw [strOf_size] at k; omega) (fun k4 => ?_)
  (repeat (first | refine TInt.mk ?_ | refine TBool.mk ?_ | refine TStr.mk ?_ | refine TSl.mk ?_ | refine TPtr.mk ?_ | refine TAgg.mk ?_ | refine T2.mk ?_ | refine T3.mk ?_ | refine TSome.mk ?_ | refine LoadC.ad (view_sub _ _ _) _ (by assumption) rfl ?_))
  refine oper_short_c (TBool.mk (BS.ndec (fun k => fls fun h => by unfold OpR.right at h; omega) (fun k5 => ?_)))
  (repeat (first | refine TInt.mk ?_ | refine TBool.mk ?_ | refine TStr.mk ?_ | refine TSl.mk ?_ | refine TPtr.mk ?_ | refine TAgg.mk ?_ | refine T2.mk ?_ | refine T3.mk ?_ | refine TSome.mk ?_ | refine LoadC.ad (view_sub _ _ _) _ (by assumption) rfl ?_))
  refine oper_short_c (TBool.mk (BS.ndec (fun k => fls fun h => by unfold OpR.right at h; omega) (fun k6 => ?_)))
  (repeat (first | refine TInt.mk ?_ | refine TBool.mk ?_ | refine TStr.mk ?_ | refine TSl.mk ?_ | refine TPtr.mk ?_ | refine TAgg.mk ?_ | refine T2.mk ?_ | refine T3.mk ?_ | refine TSome.mk ?_ | refine LoadC.ad (view_sub _ _ _) _ (by assumption) rfl ?_))
  unfold oper_Write_K1
  refine BS.dec (fun k => fls fun h => by unfold OpR.right at h; omega) (fun k7 => ?_)
  rw [strOf_size] at k3 k4
  have hR : o.right := by unfold OpR.right; omega
  refine AllocC.col c1 2 fun p c2 w2 st2 b2 _ => ?_
  replace S := S.go st2.step (by decide) (by decide); replace D := D.mono (st2.step.sub (by decide)); replace b1 := st2.step.sub (by decide) _ _ b1
  have P : PenV (view c2 2 w2) ⟨p, 0, none⟩ [] := ⟨p, _, rfl, b2, OwS.nil ..⟩
  (repeat (first | refine TInt.mk ?_ | refine TBool.mk ?_ | refine TStr.mk ?_ | refine TSl.mk ?_ | refine TPtr.mk ?_ | refine TAgg.mk ?_ | refine T2.mk ?_ | refine T3.mk ?_ | refine TSome.mk ?_ | refine LoadC.ad (view_sub _ _ _) _ (by assumption) rfl ?_))
  refine Pen_U P o.kind.toNat 1 (by rw [wrap_u64 (by omega) (by omega)]; omega) rfl (by omega) (by omega) (by omega) (by simp) fun c3 w3 st3 P => ?_
  replace S := S.go st3 (by decide) (by decide); replace D := D.mono (st3.sub (by decide)); replace b1 := st3.sub (by decide) _ _ b1
  (repeat (first | refine TInt.mk ?_ | refine TBool.mk ?_ | refine TStr.mk ?_ | refine TSl.mk ?_ | refine TPtr.mk ?_ | refine TAgg.mk ?_ | refine T2.mk ?_ | refine T3.mk ?_ | refine TSome.mk ?_ | refine LoadC.ad (view_sub _ _ _) _ (by assumption) rfl ?_))
  refine Pen_U P o.off.toNat 2 (by rw [wrap_u64 (by omega) (by omega)]; omega) rfl (by omega) (by omega) (by omega) (by simp) fun c4 w4 st4 P => ?_
  replace S := S.go st4 (by decide) (by decide); replace D := D.mono (st4.sub (by decide)); replace b1 := st4.sub (by decide) _ _ b1
  (repeat (first | refine TInt.mk ?_ | refine TBool.mk ?_ | refine TStr.mk ?_ | refine TSl.mk ?_ | refine TPtr.mk ?_ | refine TAgg.mk ?_ | refine T2.mk ?_ | refine T3.mk ?_ | refine TSome.mk ?_ | refine LoadC.ad (view_sub _ _ _) _ (by assumption) rfl ?_))
  refine Pen_U P o.n.toNat 2 (by rw [wrap_u64 (by omega) (by omega)]; omega) rfl (by omega) (by omega) (by omega) (by simp) fun c5 w5 st5 P => ?_
  replace S := S.go st5 (by decide) (by decide); replace D := D.mono (st5.sub (by decide)); replace b1 := st5.sub (by decide) _ _ b1
  (repeat (first | refine TInt.mk ?_ | refine TBool.mk ?_ | refine TStr.mk ?_ | refine TSl.mk ?_ | refine TPtr.mk ?_ | refine TAgg.mk ?_ | refine T2.mk ?_ | refine T3.mk ?_ | refine TSome.mk ?_ | refine LoadC.ad (view_sub _ _ _) _ (by assumption) rfl ?_))
  refine bytes_col Try.underlying9 Try.underlying26 Try.underlying5 c5 0 fun v1 c6 w6 st6 r1 => ?_
  replace S := S.go st6 (by decide) (by decide); replace D := D.mono (st6.sub (by decide)); replace b1 := st6.sub (by decide) _ _ b1; replace P := P.mono (st6.sub (by decide))
  obtain ⟨o1, p1, rfl⟩ := r1.form
  (repeat (first | refine TInt.mk ?_ | refine TBool.mk ?_ | refine TStr.mk ?_ | refine TSl.mk ?_ | refine TPtr.mk ?_ | refine TAgg.mk ?_ | refine T2.mk ?_ | refine T3.mk ?_ | refine TSome.mk ?_ | refine LoadC.ad (view_sub _ _ _) _ (by assumption) rfl ?_))
  refine bytes_col Try.underlying9 Try.underlying26 Try.underlying5 c6 0 fun v2 c7 w7 st7 r2 => ?_
  replace S := S.go st7 (by decide) (by decide); replace D := D.mono (st7.sub (by decide)); replace b1 := st7.sub (by decide) _ _ b1; replace P := P.mono (st7.sub (by decide)); replace r1 := r1.mono (st7.sub (by decide))
  obtain ⟨o2, p2, rfl⟩ := r2.form
  (repeat (first | refine TInt.mk ?_ | refine TBool.mk ?_ | refine TStr.mk ?_ | refine TSl.mk ?_ | refine TPtr.mk ?_ | refine TAgg.mk ?_ | refine T2.mk ?_ | refine T3.mk ?_ | refine TSome.mk ?_ | refine LoadC.ad (view_sub _ _ _) _ (by assumption) rfl ?_))
  generalize hb : [] ++ be o.kind.toNat 1 ++ be o.off.toNat 2 ++ be o.n.toNat 2 = B at P
  have hB : B.length = 5 := by rw [← hb]; simp
  have hE : o.enc = B ++ (txt o.path ++ (txt o.to ++ txt o.data)) := by rw [← hb]; unfold OpR.enc; simp
  refine ⟨fun vs w' => ∃ (m : Nat) (c' : Nat → Nat), m ≤ 3 ∧ vs = [.int .i64 m] ∧ Fr w c' w' ∧ PenV (view c' 2 w') ⟨p, 0, none⟩ (B ++ (([o.path, o.to, o.data].take m).flatMap txt)) ∧
    RdS (view c' 0 w') (.slice o1 o.path.length p1) 1 o.path.length (bvs o.path) ∧ RdS (view c' 0 w') (.slice o2 o.to.length p2) 1 o.to.length (bvs o.to) ∧ RdS (view c' 0 w') (.slice ov o.data.length cv) 1 o.data.length (bvs o.data),
    fun vs _ => match vs with | [.int _ x] => (3 - x).toNat | _ => 0, ⟨0, c7, by omega, rfl, S, by simpa using P, r1, r2, D⟩, ?_⟩
  rintro _ w8 n ⟨m, c8, hm, e, S, P, r1, r2, D⟩
  simp only [List.cons.injEq, Value.int.injEq, Value.bool.injEq, Value.slice.injEq, true_and, and_true] at e
  subst e
  refine BS.dec (fun hlt => ?_) (fun hge => ?_)
  · have step : ∀ (x : Value) (l : List UInt8), RdS (view c8 0 w8) x 1 l.length (bvs l) → l.length < 65536 → [o.path, o.to, o.data][m]? = some l → CallV Try.prog 16 #[.pointer (some ⟨p, 0, none⟩), x] w8 fun v w' => TInt .i64 v fun n => Back (fun vs w' => ∃ (m : Nat) (c' : Nat → Nat), m ≤ 3 ∧ vs = [.int .i64 m] ∧ Fr w c' w' ∧ PenV (view c' 2 w') ⟨p, 0, none⟩ (B ++ (([o.path, o.to, o.data].take m).flatMap txt)) ∧
    RdS (view c' 0 w') (.slice o1 o.path.length p1) 1 o.path.length (bvs o.path) ∧ RdS (view c' 0 w') (.slice o2 o.to.length p2) 1 o.to.length (bvs o.to) ∧ RdS (view c' 0 w') (.slice ov o.data.length cv) 1 o.data.length (bvs o.data)) (fun vs _ => match vs with | [.int _ x] => (3 - x).toNat | _ => 0) [.int .i64 (m : Int)] w8 [.int .i64 (IntKind.wrap .i64 ((m : Int) + (1 : Int)))] w' := by
      intro x l hx hl hml
      refine Pen_T P 0 (by omega) hx hl ?_ fun c9 w9 st9 P => ?_
      · have : (([o.path, o.to, o.data].take m).flatMap txt).length ≤ 3 * 70 := by
          rcases m with _ | _ | _ | m
          · simp
          · simp; omega
          · simp; omega
          · omega
        rw [List.length_append]; omega
      replace S := S.go st9 (by decide) (by decide); replace r1 := r1.mono (st9.sub (by decide)); replace r2 := r2.mono (st9.sub (by decide)); replace D := D.mono (st9.sub (by decide))
      refine TInt.mk ⟨⟨m + 1, c9, by omega, by rw [wrap_i64 (by omega) (by omega)]; rfl, S, ?_, r1, r2, D⟩, ?_⟩
      · rw [List.take_add_one, hml, Option.toList_some, List.flatMap_append, ← List.append_assoc]; simpa using P
      · rw [wrap_i64 (by omega) (by omega)]; show ((3 : Int) - (m + 1)).toNat < ((3 : Int) - m).toNat; omega
    refine Req.bnd ⟨by omega, by omega⟩ ?_
    rw [Int.toNat_natCast, Nat.mul_one]
    rcases m with _ | _ | _ | m
    · exact TCell.mk rfl (TSl.mk (step _ _ r1 (by omega) rfl))
    · exact TCell.mk rfl (TSl.mk (step _ _ r2 (by omega) rfl))
    · exact TCell.mk rfl (TSl.mk (step _ _ D (by omega) rfl))
    · omega
  · have : m = 3 := by omega
    subst this
    have e3 : B ++ (([o.path, o.to, o.data].take 3).flatMap txt) = o.enc := by rw [hE]; simp
    rw [e3] at P
    have hl := OpR.enc_len hR
    refine Pen_Data 3 P (by omega) fun v9 c9 w9 st9 ho => ?_
    replace S := S.go st9 (by decide) (by decide); replace D := D.mono (st9.sub (by decide))
    obtain ⟨o9, p9, rfl⟩ := ho.form
    refine TSl.mk ?_
    have := h (.slice o9 o.enc.length p9) _ _ (S.leave c j)
    rw [wrOp, if_pos hR] at this
    exact this (ho.mono (S.out c j (by omega)))
end Go.Proofs.Ytpmpfahedbfppaa

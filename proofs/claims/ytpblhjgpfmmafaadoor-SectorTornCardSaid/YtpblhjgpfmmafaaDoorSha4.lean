/-
  Digests: the document's.
-/
import Derived.Test.YtpblhjgpfmmafaaDoorSha3
set_option linter.unusedVariables false
set_option linter.unusedSimpArgs false
namespace Go.Proofs.YtpblhjgpfmmafaaDoor
open Go.Vc
attribute [local irreducible] TInt TBool TStr TPtr TSl TAgg TMap TChan T2 T3 T4 BS Req TSome TCell TByte LoadC LoadA StoreC AllocC RunV RunU CallV ExtV EqA StableC StableA StableV TCells ReadV
attribute [local irreducible] DrewC

theorem Pad_c (c : Nat → Nat) (j : Nat) {w : World} {v : Value} {l : List UInt8} {R : Value → World → Prop} (hr : RdS (wv w) v 1 l.length (bvs l)) (hl : l.length ≤ 1099511627776)
    (h : ∀ v c' w', Step c [] [j] w c' w' → OwS (view c' j w') v 5 1 (l ++ tailS l.length).length (bvs (l ++ tailS l.length)) → R v w') : CallV Tryd.prog 30 #[v] w R := by
  obtain ⟨o0, p0, rfl⟩ := hr.form
  have D : RdS (view (fun _ => 0) 0 w) (.slice o0 l.length p0) 1 l.length (bvs l) := by rw [view0]; exact hr
  have S := Fr.start w
  refine ref03_Pad_vc ?_
  unfold ref03_Pad_VC
  refine AllocC.col (fun _ => 0) 1 fun a1 c1 w1 st1 b1 _ => ?_
  replace S := S.go st1.step (by decide) (by decide); replace D := D.mono (st1.step.sub (by decide))
  refine app_bytes slU8 (OwS.some_bytes b1) (D.mono (view_sub _ _ _)) (by simp; omega) fun o2 p2 c2 w2 st2 ho => ?_
  replace S := S.go st2.step (by decide) (by decide); replace D := D.mono (st2.step.sub (by decide))
  rw [List.nil_append] at ho ⊢
  refine TSl.mk ?_
  refine AllocC.col c2 2 fun a3 c3 w3 st3 b3 _ => ?_
  replace S := S.go st3.step (by decide) (by decide); replace D := D.mono (st3.step.sub (by decide))
  replace ho := ho.mono (st3.step.sub (by decide))
  refine app_bytes slU8 ho (m := [128]) ((RdS.block (xs := bvs [128]) b3 rfl (Nat.le_refl _)).mono (view_sub _ _ _)) (by simp; omega) fun o4 p4 c4 w4 st4 ho => ?_
  replace S := S.go st4.step (by decide) (by decide); replace D := D.mono (st4.step.sub (by decide))
  refine TSl.mk ?_
  have hpz := padZ_le l.length
  refine LoopS.up (padZ l.length) (fun i o' l' p' w' => ∃ c', Fr w c' w' ∧ OwS (view c' 1 w') (.slice o' l' p') 5 1 (l ++ 128 :: List.replicate i 0).length (bvs (l ++ 128 :: List.replicate i 0))) ⟨c4, S, ho⟩ ?_
  clear S D ho b1 b3
  rintro i o5 l5 p5 w5 B hi ⟨c5, S, ho⟩ back
  have hl5 := ho.len.1
  simp only [List.length_append, List.length_cons, List.length_replicate] at hl5
  have etm : Int.tmod (l5 : Int) 64 = (((l.length + (1 + i)) % 64 : Nat) : Int) := by
    rw [hl5, Int.tmod_eq_emod_of_nonneg (by omega)]; omega
  rw [etm]
  refine BS.ne (fun hne => ?_) (fun he => ?_)
  · have hlt : i < padZ l.length := by
      rcases Nat.lt_or_ge i (padZ l.length) with h' | h'
      · exact h'
      · have : i = padZ l.length := by omega
        have h2 := pad_done l.length
        rw [← this] at h2
        omega
    refine AllocC.col c5 2 fun y c6 w6 st6 b6 _ => ?_
    replace S := S.go st6.step (by decide) (by decide)
    replace ho := ho.mono (st6.step.sub (by decide))
    refine app_bytes slU8 ho (m := [0]) ((RdS.block (xs := bvs [0]) b6 rfl (Nat.le_refl _)).mono (view_sub _ _ _)) (by simp; omega) fun o7 p7 c7 w7 st7 ho => ?_
    replace S := S.go st7.step (by decide) (by decide)
    have e1 : l ++ 128 :: List.replicate i 0 ++ [0] = l ++ 128 :: List.replicate (i + 1) 0 := by rw [List.replicate_succ']; simp
    rw [e1] at ho ⊢
    exact TSl.mk (back _ _ _ _ hlt ⟨c7, S, ho⟩)
  · have hiz : i = padZ l.length := by
      rcases Nat.lt_or_ge i (padZ l.length) with h' | h'
      · have := pad_more h'; omega
      · omega
    subst hiz
    clear back
    refine LoopSI.down 8 rfl (fun i o' l' p' w' => ∃ c', Fr w c' w' ∧ OwS (view c' 1 w') (.slice o' l' p') 5 1 (l ++ 128 :: List.replicate (padZ l.length) 0 ++ (be (l.length * 8) 8).take i).length (bvs (l ++ 128 :: List.replicate (padZ l.length) 0 ++ (be (l.length * 8) 8).take i))) ⟨c5, S, by rw [List.take_zero, List.append_nil]; exact ho⟩ ?_
    clear S ho
    rintro i o6 l6 p6 w6 B hi ⟨c6, S, ho⟩ back
    refine BS.dec (fun hge => ?_) (fun hlt => ?_)
    · have e1 : IntKind.wrap .u64 (IntKind.wrap .i64 (8 * (((8 : Nat) : Int) - 1 - (i : Int)))) = 8 * ((7 - i : Nat) : Int) := by rw [wrap_i64 (by omega) (by omega), wrap_u64 (by omega) (by omega)]; omega
      have e2 : IntKind.wrap .u64 (IntKind.wrap .u64 ((l.length : Nat) : Int) * 8) = ((l.length * 8 : Nat) : Int) := by rw [wrap_u64 (n := ((l.length : Nat) : Int)) (by omega) (by omega), wrap_u64 (by omega) (by omega)]; omega
      rw [e1, e2, byte_of (by omega) (by omega), Int.toNat_natCast]
      refine Req.mk (by omega) ?_
      refine AllocC.col c6 2 fun y c7 w7 st7 b7 _ => ?_
      replace S := S.go st7.step (by decide) (by decide)
      replace ho := ho.mono (st7.step.sub (by decide))
      refine app_bytes slU8 ho (m := [byteAt (l.length * 8) (7 - i)]) ((RdS.block (xs := bvs [byteAt (l.length * 8) (7 - i)]) b7 rfl (Nat.le_refl _)).mono (view_sub _ _ _)) (by simp; omega) fun o8 p8 c8 w8 st8 ho => ?_
      replace S := S.go st8.step (by decide) (by decide)
      rw [List.append_assoc, ← be_take (l.length * 8) 8 i (by omega)] at ho ⊢
      rw [wrap_i64 (by omega) (by omega)]
      exact TSl.mk (back _ _ _ _ (by omega) ⟨c8, S, ho⟩)
    · have : i = 8 := by omega
      subst this
      have et : (l ++ 128 :: List.replicate (padZ l.length) 0 ++ (be (l.length * 8) 8).take 8 : List UInt8) = l ++ tailS l.length := by rw [List.take_of_length_le (by simp)]; simp [tailS]
      rw [et] at ho
      exact h _ _ _ (S.leave c j) (ho.mono (S.out c j (by omega)))

theorem consts_c (c : Nat → Nat) (j : Nat) {w : World} {R : Value → World → Prop} (h : ∀ c' w', Step c [] [j] w c' w' → R (.agg (uvs K32).toArray) w') : CallV Tryd.prog 29 #[] w R := by
  have S := Fr.start w
  refine ref03_constants_vc ?_
  unfold ref03_constants_VC
  refine AllocC.col (fun _ => 0) 1 fun a1 c1 w1 st1 b1 _ => ?_
  replace S := S.go st1.step (by decide) (by decide)
  refine RunU.var b1 (by kernel_rfl) rfl (by kernel_rfl) fun w2 st2 b2 => ?_
  replace S := S.go st2.step (by decide) (by decide)
  refine LoadA.all (view_sub _ _ _) b2 rfl ?_
  exact h _ _ (S.leave c j)

theorem Ref_Sha_c (c : Nat → Nat) (j : Nat) {w : World} {v : Value} {l : List UInt8} {R : Value → World → Prop} (hr : RdS (wv w) v 1 l.length (bvs l)) (hl : l.length ≤ 1099511627776)
    (h : ∀ c' w', Step c [] [j] w c' w' → R (.agg (bvs (shaB l)).toArray) w') : CallV Tryd.prog 14 #[v] w R := by
  obtain ⟨o0, p0, rfl⟩ := hr.form
  have D : RdS (view (fun _ => 0) 0 w) (.slice o0 l.length p0) 1 l.length (bvs l) := by rw [view0]; exact hr
  have S := Fr.start w
  refine ref03_Sum_vc ?_
  unfold ref03_Sum_VC
  refine AllocC.col (fun _ => 0) 1 fun a2 c1 w1 st1 b1 _ => ?_
  replace S := S.go st1.step (by decide) (by decide); replace D := D.mono (st1.step.sub (by decide))
  refine consts_c c1 9 fun c2 w2 st2 => TAgg.mk ?_
  replace S := S.go st2 (by decide) (by decide); replace D := D.mono (st2.sub (by decide)); replace b1 := st2.sub (by decide) _ _ b1
  refine AllocC.col c2 2 fun a3 c3 w3 st3 b2 _ => ?_
  replace S := S.go st3.step (by decide) (by decide); replace D := D.mono (st3.step.sub (by decide)); replace b1 := st3.step.sub (by decide) _ _ b1
  refine RunU.var b2 (by kernel_rfl) rfl (by kernel_rfl) fun w4 st4 b2 => ?_
  replace S := S.go st4.step (by decide) (by decide); replace D := D.mono (st4.step.sub (by decide)); replace b1 := st4.step.sub (by decide) _ _ b1
  refine AllocC.col c3 3 fun a4 c5 w5 st5 b3 _ => ?_
  replace S := S.go st5.step (by decide) (by decide); replace D := D.mono (st5.step.sub (by decide)); replace b1 := st5.step.sub (by decide) _ _ b1; replace b2 := st5.step.sub (by decide) _ _ b2
  refine RunU.var b3 (by kernel_rfl) rfl (by kernel_rfl) fun w6 st6 b3 => ?_
  replace S := S.go st6.step (by decide) (by decide); replace D := D.mono (st6.step.sub (by decide)); replace b1 := st6.step.sub (by decide) _ _ b1; replace b2 := st6.step.sub (by decide) _ _ b2
  replace b3 : view c5 3 w6 a4 = some (.cells (uvs H32).toArray 57 (0, 0)) := b3
  replace b1 : view c5 1 w6 a2 = (some (.cells (bvs (List.replicate 32 0)).toArray 25 (0, 0))) := b1
  refine Pad_c c5 4 (D.mono (view_sub _ _ _)) hl fun v7 c7 w7 st7 P => ?_
  replace S := S.go st7 (by decide) (by decide); replace b1 := st7.sub (by decide) _ _ b1; replace b2 := st7.sub (by decide) _ _ b2; replace b3 := st7.sub (by decide) _ _ b3
  obtain ⟨o7, p7, rfl⟩ := P.form
  refine TSl.mk ?_
  have hLm : (l ++ tailS l.length).length % 64 = 0 := by rw [List.length_append, tailS_length]; exact pad_mod _
  have hLl : (l ++ tailS l.length).length ≤ 1099511627776 + 128 := by have := padZ_le l.length; rw [List.length_append, tailS_length]; omega
  have P := P.rd
  refine LoopI.by 64 ((l ++ tailS l.length).length / 64) (by omega) (fun q w' => ∃ c', Fr w c' w' ∧ view c' 1 w' a2 = (some (.cells (bvs (List.replicate 32 0)).toArray 25 (0, 0))) ∧ view c' 2 w' a3 = some (.cells (uvs K32).toArray 55 (0, 0)) ∧ view c' 3 w' a4 = some (.cells (uvs (absN q H32 (l ++ tailS l.length))).toArray 57 (0, 0)) ∧
    RdS (view c' 4 w') (.slice o7 (l ++ tailS l.length).length p7) 1 (l ++ tailS l.length).length (bvs (l ++ tailS l.length))) ⟨c7, S, b1, b2, b3, P⟩ ?_
  clear S b1 b2 b3 P D
  rintro q w8 B hq ⟨c8, S, b1, b2, b3, P⟩ back
  have hst : (absN q H32 (l ++ tailS l.length)).length = 8 := absN_length rfl
  refine BS.dec (fun hlt => ?_) (fun hge => ?_)
  · have hAB : (sched (((l ++ tailS l.length).drop (64 * q)).take 64) 64).length = (List.replicate 64 (0 : Int)).length := by simp
    have hA : (sched (((l ++ tailS l.length).drop (64 * q)).take 64) 64).length = 64 := by simp
    have hB : (List.replicate 64 (0 : Int)).length = 64 := by simp
    refine AllocC.col c8 5 fun a7 c9 w9 st9 b5 _ => ?_
    replace S := S.go st9.step (by decide) (by decide); replace b1 := st9.step.sub (by decide) _ _ b1; replace b2 := st9.step.sub (by decide) _ _ b2; replace b3 := st9.step.sub (by decide) _ _ b3; replace P := P.mono (st9.step.sub (by decide))
    refine RunU.var b5 (by kernel_rfl) rfl (by kernel_rfl) fun w10 st10 b5 => ?_
    replace S := S.go st10.step (by decide) (by decide); replace b1 := st10.step.sub (by decide) _ _ b1; replace b2 := st10.step.sub (by decide) _ _ b2; replace b3 := st10.step.sub (by decide) _ _ b3; replace P := P.mono (st10.step.sub (by decide))
    replace b5 : view c9 5 w10 a7 = some (.cells (uvs (List.replicate 64 (0 : Int))).toArray 55 (0, 0)) := b5
    refine LoopI.up 64 (fun i w' => Fr w c9 w' ∧ view c9 1 w' a2 = (some (.cells (bvs (List.replicate 32 0)).toArray 25 (0, 0))) ∧ view c9 2 w' a3 = some (.cells (uvs K32).toArray 55 (0, 0)) ∧ view c9 3 w' a4 = some (.cells (uvs (absN q H32 (l ++ tailS l.length))).toArray 57 (0, 0)) ∧
      RdS (view c9 4 w') (.slice o7 (l ++ tailS l.length).length p7) 1 (l ++ tailS l.length).length (bvs (l ++ tailS l.length)) ∧ view c9 5 w' a7 = some (.cells (uvs (upto (sched (((l ++ tailS l.length).drop (64 * q)).take 64) 64) (List.replicate 64 (0 : Int)) i)).toArray 55 (0, 0))) ⟨S, b1, b2, b3, P, by rw [upto_zero]; exact b5⟩ ?_
    clear S b1 b2 b3 b5 P
    rintro i w11 B2 hi ⟨S, b1, b2, b3, P, b5⟩ back2
    have hul : (upto (sched (((l ++ tailS l.length).drop (64 * q)).take 64) 64) (List.replicate 64 (0 : Int)) i).length = 64 := by rw [upto_length hAB, hB]
    refine BS.dec (fun hlti => ?_) (fun hgei => ?_)
    · refine BS.dec (fun h16 => ?_) (fun h16 => ?_)
      · refine DrewC.col c9 fun w12 st12 => ?_
        replace S := S.go st12 (by decide) (by decide); replace b1 := st12.sub (by decide) _ _ b1; replace b2 := st12.sub (by decide) _ _ b2; replace b3 := st12.sub (by decide) _ _ b3; replace b5 := st12.sub (by decide) _ _ b5; replace P := P.mono (st12.sub (by decide))
        have hcl : (((l ++ tailS l.length).drop (64 * q)).take 64).length = 64 := by rw [List.length_take, List.length_drop]; omega
        obtain ⟨x0, x1, x2, x3, g0, g1, g2, g3, hw4⟩ := word_at (p := ((l ++ tailS l.length).drop (64 * q)).take 64) (t := i) (by omega)
        have up : ∀ {k : Nat} {x : UInt8}, (((l ++ tailS l.length).drop (64 * q)).take 64)[k]? = some x → (bvs (l ++ tailS l.length))[64 * q + k]? = some (.int .u8 (x.toNat : Int)) := fun {k x} hx => by
          rw [List.getElem?_take] at hx
          split at hx
          · rw [List.getElem?_drop] at hx; rw [bvs_get, hx]; rfl
          · simp at hx
        have d0 : IntKind.wrap .i64 (((64 * q : Nat) : Int) + IntKind.wrap .i64 (4 * (i : Int))) = ((64 * q + 4 * i : Nat) : Int) := by rw [wrap_i64 (n := 4 * (i : Int)) (by omega) (by omega), wrap_i64 (by omega) (by omega)]; omega
        have d1 : IntKind.wrap .i64 (((64 * q + 4 * i : Nat) : Int) + 1) = ((64 * q + (4 * i + 1) : Nat) : Int) := by rw [wrap_i64 (by omega) (by omega)]; omega
        have d2 : IntKind.wrap .i64 (((64 * q + 4 * i : Nat) : Int) + 2) = ((64 * q + (4 * i + 2) : Nat) : Int) := by rw [wrap_i64 (by omega) (by omega)]; omega
        have d3 : IntKind.wrap .i64 (((64 * q + 4 * i : Nat) : Int) + 3) = ((64 * q + (4 * i + 3) : Nat) : Int) := by rw [wrap_i64 (by omega) (by omega)]; omega
        rw [d0, d1, d2, d3]
        refine Req.bnd ⟨by omega, by omega⟩ (P.elt (view_sub _ _ _) (up g0) (TInt.mk ?_))
        refine Req.bnd ⟨by omega, by omega⟩ (P.elt (view_sub _ _ _) (up g1) (TInt.mk ?_))
        refine Req.bnd ⟨by omega, by omega⟩ (P.elt (view_sub _ _ _) (up g2) (TInt.mk ?_))
        refine Req.bnd ⟨by omega, by omega⟩ (P.elt (view_sub _ _ _) (up g3) (TInt.mk ?_))
        have wu : ∀ x : UInt8, IntKind.wrap .u32 ((x.toNat : Nat) : Int) = ((x.toNat : Nat) : Int) := fun x => by have := x.toNat_lt; exact wrap_u32 (by omega) (by omega)
        rw [wu, wu, wu, wu, word_ref, ← hw4, Int.toNat_natCast, Nat.mul_one]
        refine Req.bnd ⟨by omega, by omega⟩ (storeU b5 (by omega) fun w13 _ st13 b5 => ?_)
        replace S := S.go st13 (by decide) (by decide); replace b1 := st13.sub (by decide) _ _ b1; replace b2 := st13.sub (by decide) _ _ b2; replace b3 := st13.sub (by decide) _ _ b3; replace P := P.mono (st13.sub (by decide))
        rw [wrap_i64 (by omega) (by omega)]
        refine back2 _ (by omega) ⟨S, b1, b2, b3, P, ?_⟩
        rw [upto_set hAB (by rw [sched_get (by omega), if_pos (by omega)])] at b5
        exact b5
      · refine DrewC.col c9 fun w12 st12 => ?_
        replace S := S.go st12 (by decide) (by decide); replace b1 := st12.sub (by decide) _ _ b1; replace b2 := st12.sub (by decide) _ _ b2; replace b3 := st12.sub (by decide) _ _ b3; replace b5 := st12.sub (by decide) _ _ b5; replace P := P.mono (st12.sub (by decide))
        have d2 : IntKind.wrap .i64 ((i : Int) - 2) = ((i - 2 : Nat) : Int) := i64_n i 2 (by omega) (by omega)
        have d7 : IntKind.wrap .i64 ((i : Int) - 7) = ((i - 7 : Nat) : Int) := i64_n i 7 (by omega) (by omega)
        have d15 : IntKind.wrap .i64 ((i : Int) - 15) = ((i - 15 : Nat) : Int) := i64_n i 15 (by omega) (by omega)
        have d16 : IntKind.wrap .i64 ((i : Int) - 16) = ((i - 16 : Nat) : Int) := i64_n i 16 (by omega) (by omega)
        rw [d2, d7, d15, d16]
        simp only [Int.toNat_natCast, Nat.mul_one]
        have get : ∀ k, k < i → (uvs (upto (sched (((l ++ tailS l.length).drop (64 * q)).take 64) 64) (List.replicate 64 (0 : Int)) i)).toArray[k]? = some (.int .u32 ((sched (((l ++ tailS l.length).drop (64 * q)).take 64) i).getD k 0)) := fun k hk => uvs_at (by rw [upto_lt hk (by omega), sched_at hk (by omega)])
        refine Req.bnd ⟨by omega, by omega⟩ (LoadC.ad (view_sub _ _ _) _ b5 (get (i - 15) (by omega)) (TInt.mk ?_))
        refine Req.bnd ⟨by omega, by omega⟩ (LoadC.ad (view_sub _ _ _) _ b5 (get (i - 2) (by omega)) (TInt.mk ?_))
        refine rotr_c (by omega) (by omega) (TInt.mk (rotr_c (by omega) (by omega) (TInt.mk (rotr_c (by omega) (by omega) (TInt.mk (rotr_c (by omega) (by omega) (TInt.mk ?_)))))))
        refine DrewC.col c9 fun w14 st14 => ?_
        replace S := S.go st14 (by decide) (by decide); replace b1 := st14.sub (by decide) _ _ b1; replace b2 := st14.sub (by decide) _ _ b2; replace b3 := st14.sub (by decide) _ _ b3; replace b5 := st14.sub (by decide) _ _ b5; replace P := P.mono (st14.sub (by decide))
        refine Req.bnd ⟨by omega, by omega⟩ (LoadC.ad (view_sub _ _ _) _ b5 (get (i - 16) (by omega)) (TInt.mk ?_))
        refine Req.bnd ⟨by omega, by omega⟩ (LoadC.ad (view_sub _ _ _) _ b5 (get (i - 7) (by omega)) (TInt.mk ?_))
        refine Req.bnd ⟨by omega, by omega⟩ (storeU b5 (by omega) fun w13 _ st13 b5 => ?_)
        replace S := S.go st13 (by decide) (by decide); replace b1 := st13.sub (by decide) _ _ b1; replace b2 := st13.sub (by decide) _ _ b2; replace b3 := st13.sub (by decide) _ _ b3; replace P := P.mono (st13.sub (by decide))
        rw [wrap_i64 (by omega) (by omega)]
        refine back2 _ (by omega) ⟨S, b1, b2, b3, P, ?_⟩
        rw [upto_set hAB (by rw [sched_get (by omega), if_neg (by omega), ← schedW_ref]; rfl)] at b5
        exact b5
    · have : i = 64 := by omega
      subst this
      rw [upto_full 64 (by omega) (by omega)] at b5
      clear back2
      refine LoadA.all (view_sub _ _ _) b3 (by simp [hst]) ?_
      refine AllocC.col c9 6 fun a14 c15 w15 st15 b6 _ => ?_
      replace S := S.go st15.step (by decide) (by decide); replace b1 := st15.step.sub (by decide) _ _ b1; replace b2 := st15.step.sub (by decide) _ _ b2; replace b3 := st15.step.sub (by decide) _ _ b3; replace b5 := st15.step.sub (by decide) _ _ b5; replace P := P.mono (st15.step.sub (by decide))
      refine RunU.var b6 (by rw [show (uvs (absN q H32 (l ++ tailS l.length))).toArray.size = 8 by simp [hst]]; kernel_rfl) (by simp [hst]) (uvs_all _) fun w16 st16 b6 => ?_
      replace S := S.go st16.step (by decide) (by decide); replace b1 := st16.step.sub (by decide) _ _ b1; replace b2 := st16.step.sub (by decide) _ _ b2; replace b3 := st16.step.sub (by decide) _ _ b3; replace b5 := st16.step.sub (by decide) _ _ b5; replace P := P.mono (st16.step.sub (by decide))
      refine LoopI.up 64 (fun i w' => Fr w c15 w' ∧ view c15 1 w' a2 = (some (.cells (bvs (List.replicate 32 0)).toArray 25 (0, 0))) ∧ view c15 2 w' a3 = some (.cells (uvs K32).toArray 55 (0, 0)) ∧ view c15 3 w' a4 = some (.cells (uvs (absN q H32 (l ++ tailS l.length))).toArray 57 (0, 0)) ∧
        RdS (view c15 4 w') (.slice o7 (l ++ tailS l.length).length p7) 1 (l ++ tailS l.length).length (bvs (l ++ tailS l.length)) ∧ view c15 5 w' a7 = some (.cells (uvs (sched (((l ++ tailS l.length).drop (64 * q)).take 64) 64)).toArray 55 (0, 0)) ∧ view c15 6 w' a14 = some (.cells (uvs (rnds (absN q H32 (l ++ tailS l.length)) (sched (((l ++ tailS l.length).drop (64 * q)).take 64) 64) i)).toArray 57 (0, 0))) ⟨S, b1, b2, b3, P, b5, b6⟩ ?_
      clear S b1 b2 b3 b5 b6 P
      rintro i w23 B3 hi ⟨S, b1, b2, b3, P, b5, b6⟩ back3
      have hrl : (rnds (absN q H32 (l ++ tailS l.length)) (sched (((l ++ tailS l.length).drop (64 * q)).take 64) 64) i).length = 8 := by rw [rnds_length, hst]
      refine BS.dec (fun hlti => ?_) (fun hgei => ?_)
      · have hK : (uvs K32).toArray[(i : Int).toNat * 1]? = some (.int .u32 (K32.getD i 0)) := by
          rw [Int.toNat_natCast, Nat.mul_one]; exact uvs_at (by rw [List.getD_eq_getElem?_getD, List.getElem?_eq_getElem (show i < K32.length from by show i < 64; omega)]; rfl)
        have hWi : (uvs (sched (((l ++ tailS l.length).drop (64 * q)).take 64) 64)).toArray[(i : Int).toNat * 1]? = some (.int .u32 ((sched (((l ++ tailS l.length).drop (64 * q)).take 64) 64).getD i 0)) := by
          rw [Int.toNat_natCast, Nat.mul_one]; exact uvs_at (by rw [List.getD_eq_getElem?_getD, List.getElem?_eq_getElem (by omega)]; rfl)
        refine DrewC.col c15 fun w24 st24 => ?_
        replace S := S.go st24 (by decide) (by decide); replace b1 := st24.sub (by decide) _ _ b1; replace b2 := st24.sub (by decide) _ _ b2; replace b3 := st24.sub (by decide) _ _ b3; replace b5 := st24.sub (by decide) _ _ b5; replace b6 := st24.sub (by decide) _ _ b6; replace P := P.mono (st24.sub (by decide))
        obtain ⟨s0, s1, s2, s3, s4, s5, s6, s7, hv⟩ := eight hrl
        rw [hv] at b6
        (repeat (first | refine TInt.mk ?_ | refine TBool.mk ?_ | refine TStr.mk ?_ | refine TSl.mk ?_ | refine TPtr.mk ?_ | refine TAgg.mk ?_ | refine T2.mk ?_ | refine T3.mk ?_ | refine TSome.mk ?_ | refine LoadC.ad (view_sub _ _ _) _ (by assumption) rfl ?_))
        refine rotr_c (by omega) (by omega) (TInt.mk (rotr_c (by omega) (by omega) (TInt.mk (rotr_c (by omega) (by omega) (TInt.mk ?_)))))
        refine DrewC.col c15 fun w28 st28 => ?_
        replace S := S.go st28 (by decide) (by decide); replace b1 := st28.sub (by decide) _ _ b1; replace b2 := st28.sub (by decide) _ _ b2; replace b3 := st28.sub (by decide) _ _ b3; replace b5 := st28.sub (by decide) _ _ b5; replace b6 := st28.sub (by decide) _ _ b6; replace P := P.mono (st28.sub (by decide))
        (repeat (first | refine TInt.mk ?_ | refine TBool.mk ?_ | refine TStr.mk ?_ | refine TSl.mk ?_ | refine TPtr.mk ?_ | refine TAgg.mk ?_ | refine T2.mk ?_ | refine T3.mk ?_ | refine TSome.mk ?_ | refine LoadC.ad (view_sub _ _ _) _ (by assumption) rfl ?_))
        refine Req.bnd ⟨by omega, by omega⟩ (LoadC.ad (view_sub _ _ _) _ b2 hK (TInt.mk ?_))
        refine Req.bnd ⟨by omega, by omega⟩ (LoadC.ad (view_sub _ _ _) _ b5 hWi (TInt.mk ?_))
        refine rotr_c (by omega) (by omega) (TInt.mk (rotr_c (by omega) (by omega) (TInt.mk (rotr_c (by omega) (by omega) (TInt.mk ?_)))))
        (repeat (first | refine TInt.mk ?_ | refine TBool.mk ?_ | refine TStr.mk ?_ | refine TSl.mk ?_ | refine TPtr.mk ?_ | refine TAgg.mk ?_ | refine T2.mk ?_ | refine T3.mk ?_ | refine TSome.mk ?_ | refine LoadC.ad (view_sub _ _ _) _ (by assumption) rfl ?_))
        refine RunU.var b6 (by kernel_rfl) rfl (by first | (simp [Value.oneCell']; done) | (simp [Value.oneCell', OpR.cells, sv]; done) | (simp [Value.oneCell', AnsR.cells, sv]; done) | rfl) fun w32 st32 b6 => ?_
        replace S := S.go st32.step (by decide) (by decide); replace b1 := st32.step.sub (by decide) _ _ b1; replace b2 := st32.step.sub (by decide) _ _ b2; replace b3 := st32.step.sub (by decide) _ _ b3; replace b5 := st32.step.sub (by decide) _ _ b5; replace P := P.mono (st32.step.sub (by decide))
        rw [wrap_i64 (by omega) (by omega)]
        refine back3 _ (by omega) ⟨S, b1, b2, b3, P, b5, ?_⟩
        rw [rnds, hv]
        exact b6
      · have : i = 64 := by omega
        subst this
        clear back3
        have hr : (rnds (absN q H32 (l ++ tailS l.length)) (sched (((l ++ tailS l.length).drop (64 * q)).take 64) 64) 64).length = 8 := hrl
        have hmx : (mixS (absN q H32 (l ++ tailS l.length)) (((l ++ tailS l.length).drop (64 * q)).take 64)).length = (absN q H32 (l ++ tailS l.length)).length := by rw [hst]; exact mixS_length hst _
        refine LoopI.up 8 (fun i w' => Fr w c15 w' ∧ view c15 1 w' a2 = (some (.cells (bvs (List.replicate 32 0)).toArray 25 (0, 0))) ∧ view c15 2 w' a3 = some (.cells (uvs K32).toArray 55 (0, 0)) ∧ view c15 3 w' a4 = some (.cells (uvs (upto (mixS (absN q H32 (l ++ tailS l.length)) (((l ++ tailS l.length).drop (64 * q)).take 64)) (absN q H32 (l ++ tailS l.length)) i)).toArray 57 (0, 0)) ∧
          RdS (view c15 4 w') (.slice o7 (l ++ tailS l.length).length p7) 1 (l ++ tailS l.length).length (bvs (l ++ tailS l.length)) ∧ view c15 6 w' a14 = some (.cells (uvs (rnds (absN q H32 (l ++ tailS l.length)) (sched (((l ++ tailS l.length).drop (64 * q)).take 64) 64) 64)).toArray 57 (0, 0))) ⟨S, b1, b2, by rw [upto_zero]; exact b3, P, b6⟩ ?_
        clear S b1 b2 b3 b5 b6 P
        rintro i w33 B4 hi ⟨S, b1, b2, b3, P, b6⟩ back4
        refine BS.dec (fun hlti => ?_) (fun hgei => ?_)
        · obtain ⟨x, hx⟩ := get_of_lt (l := (absN q H32 (l ++ tailS l.length))) (i := i) (by omega)
          obtain ⟨y, hy⟩ := get_of_lt (l := rnds (absN q H32 (l ++ tailS l.length)) (sched (((l ++ tailS l.length).drop (64 * q)).take 64) 64) 64) (i := i) (by omega)
          refine DrewC.col c15 fun w34 st34 => ?_
          replace S := S.go st34 (by decide) (by decide); replace b1 := st34.sub (by decide) _ _ b1; replace b2 := st34.sub (by decide) _ _ b2; replace b3 := st34.sub (by decide) _ _ b3; replace b6 := st34.sub (by decide) _ _ b6; replace P := P.mono (st34.sub (by decide))
          rw [Int.toNat_natCast, Nat.mul_one]
          refine Req.bnd ⟨by omega, by omega⟩ (LoadC.ad (view_sub _ _ _) _ b3 (uvs_at (by rw [upto_ge (Nat.le_refl _) (by omega)]; exact hx)) (TInt.mk ?_))
          refine Req.bnd ⟨by omega, by omega⟩ (LoadC.ad (view_sub _ _ _) _ b6 (uvs_at hy) (TInt.mk ?_))
          refine Req.bnd ⟨by omega, by omega⟩ (storeU b3 (by rw [upto_length hmx]; omega) fun w35 _ st35 b3 => ?_)
          replace S := S.go st35 (by decide) (by decide); replace b1 := st35.sub (by decide) _ _ b1; replace b2 := st35.sub (by decide) _ _ b2; replace b6 := st35.sub (by decide) _ _ b6; replace P := P.mono (st35.sub (by decide))
          rw [wrap_i64 (by omega) (by omega)]
          refine back4 _ (by omega) ⟨S, b1, b2, ?_, P, b6⟩
          have hz : (mixS (absN q H32 (l ++ tailS l.length)) (((l ++ tailS l.length).drop (64 * q)).take 64))[i]? = some (IntKind.wrap .u32 (x + y)) := by unfold mixS; rw [List.getElem?_zipWith, hx, hy]; exact congrArg some (add32_comm y x)
          rw [upto_set hmx hz] at b3
          exact b3
        · have : i = 8 := by omega
          subst this
          rw [upto_full 8 (by omega) (by omega)] at b3
          rw [wrap_i64 (by omega) (by omega), show ((64 * q : Nat) : Int) + 64 = ((64 * (q + 1) : Nat) : Int) by omega]
          refine back _ (by omega) ⟨c15, S, b1, b2, ?_, P⟩
          rw [absN_add]; exact b3
  · have hqe : q = (l ++ tailS l.length).length / 64 := by omega
    subst hqe
    clear back
    have hD : absN ((l ++ tailS l.length).length / 64) H32 (l ++ tailS l.length) = digS (l ++ tailS l.length) := rfl
    rw [hD] at b3 hst
    refine AllocC.col c8 7 fun a28 c36 w36 st36 b7 _ => ?_
    replace S := S.go st36.step (by decide) (by decide); replace b1 := st36.step.sub (by decide) _ _ b1; replace b3 := st36.step.sub (by decide) _ _ b3
    refine RunU.var b7 (by kernel_rfl) rfl (by kernel_rfl) fun w37 st37 b7 => ?_
    replace S := S.go st37.step (by decide) (by decide); replace b1 := st37.step.sub (by decide) _ _ b1; replace b3 := st37.step.sub (by decide) _ _ b3
    replace b7 : view c36 7 w37 a28 = (some (.cells (bvs (List.replicate 32 0)).toArray 25 (0, 0))) := b7
    have hol : (outB (digS (l ++ tailS l.length))).length = (List.replicate 32 (0 : UInt8)).length := by simp
    refine LoopI.up 32 (fun i w' => Fr w c36 w' ∧ view c36 1 w' a2 = (some (.cells (bvs (List.replicate 32 0)).toArray 25 (0, 0))) ∧ view c36 3 w' a4 = some (.cells (uvs (digS (l ++ tailS l.length))).toArray 57 (0, 0)) ∧ view c36 7 w' a28 = some (.cells (bvs (upto (outB (digS (l ++ tailS l.length))) (List.replicate 32 0) i)).toArray 25 (0, 0))) ⟨S, b1, b3, by rw [upto_zero]; exact b7⟩ ?_
    clear S b1 b3 b7 P
    rintro i w38 B5 hi ⟨S, b1, b3, b7⟩ back5
    refine BS.dec (fun hlti => ?_) (fun hgei => ?_)
    · have e1 : IntKind.wrap .i64 (Int.tdiv (i : Int) 4) = ((i / 4 : Nat) : Int) := by rw [Int.tdiv_eq_ediv_of_nonneg (by omega), wrap_i64 (by omega) (by omega)]; omega
      have e2 : IntKind.wrap .u64 (IntKind.wrap .i64 (24 - IntKind.wrap .i64 (8 * Int.tmod (i : Int) 4))) = 8 * (3 - ((i % 4 : Nat) : Int)) := by
        rw [Int.tmod_eq_emod_of_nonneg (by omega), wrap_i64 (n := 8 * ((i : Int) % 4)) (by omega) (by omega), wrap_i64 (by omega) (by omega), wrap_u64 (by omega) (by omega)]; omega
      rw [e1, e2, Int.toNat_natCast, Nat.mul_one]
      refine Req.bnd ⟨by omega, by omega⟩ (LoadC.ad (view_sub _ _ _) _ b3 (uvs_at (x := (digS (l ++ tailS l.length)).getD (i / 4) 0) (by rw [List.getD_eq_getElem?_getD, List.getElem?_eq_getElem (by omega)]; rfl)) (TInt.mk ?_))
      rw [outI_val, Int.toNat_natCast, Nat.mul_one]
      refine Req.mk (by omega) (Req.bnd ⟨by omega, by omega⟩ ?_)
      refine storeBy b7 (by rw [upto_length hol]; simp; omega) fun w39 _ st39 b7 => ?_
      replace S := S.go st39 (by decide) (by decide); replace b1 := st39.sub (by decide) _ _ b1; replace b3 := st39.sub (by decide) _ _ b3
      rw [wrap_i64 (by omega) (by omega)]
      refine back5 _ (by omega) ⟨S, b1, b3, ?_⟩
      have hg := outB_get (digS (l ++ tailS l.length)) (i := i / 4) (k := i % 4) (by omega) (by omega)
      rw [show 4 * (i / 4) + i % 4 = i by omega] at hg
      rw [upto_set hol hg] at b7
      exact b7
    · have : i = 32 := by omega
      subst this
      rw [upto_full _ (by simp) (by simp)] at b7
      have h32 : (bvs (outB (digS (l ++ tailS l.length)))).toArray.size = 32 := by simp
      refine LoadA.all (view_sub _ _ _) b7 h32 ?_
      refine RunU.var b1 (by rw [h32]; kernel_rfl) rfl (bvs_all _) fun w40 st40 b1 => ?_
      replace S := S.go st40.step (by decide) (by decide)
      refine LoadA.all (view_sub _ _ _) b1 h32 ?_
      exact h _ _ (S.leave c j)
end Go.Proofs.YtpblhjgpfmmafaaDoor

/-
  Digests: what a hasher and package sha sum up.
-/
import Derived.Test.YtpblhjgpfmmafaaDoorSha2
set_option linter.unusedVariables false
set_option linter.unusedSimpArgs false
namespace Go.Proofs.YtpblhjgpfmmafaaDoor
open Go.Vc
attribute [local irreducible] TInt TBool TStr TPtr TSl TAgg TMap TChan T2 T3 T4 BS Req TSome TCell TByte LoadC LoadA StoreC AllocC RunV RunU CallV ExtV EqA StableC StableA StableV TCells ReadV
attribute [local irreducible] DrewC

theorem arrH : ArrT Tryd.prog 25 32 := .of (by kernel_rfl)
theorem EqA.hash_eq {x y : Operand} {l m : List UInt8} (hl : l.length = 32) (hm : m.length = 32) {C : Bool → Prop} (h : C (decide (l = m))) : EqA Tryd.prog .eql 25 x y (.agg (bvs l).toArray) (.agg (bvs m).toArray) C :=
  EqA.bytes_eq arrH (by kernel_rfl) hl hm h
theorem EqA.hash_ne {x y : Operand} {l m : List UInt8} (hl : l.length = 32) (hm : m.length = 32) {C : Bool → Prop} (h : C (!decide (l = m))) : EqA Tryd.prog .neq 25 x y (.agg (bvs l).toArray) (.agg (bvs m).toArray) C :=
  EqA.bytes_ne arrH (by kernel_rfl) hl hm h
theorem HashV.get {h : View} {a : Addr} {l : List UInt8} {n : Nat} (hp : HashV h a l n) : ∃ b o p, a = ⟨b, 0, none⟩ ∧ h b = some (.cells (hcells (digS l) (.slice o (restS l).length p) n).toArray 62 (0, 0)) ∧ OwO h (.slice o (restS l).length p) 5 (restS l).length (bvs (restS l)) := by
  obtain ⟨b, v, e, hb, ho⟩ := hp
  obtain ⟨o, p, rfl⟩ := ho.form
  exact ⟨b, o, p, e, hb, ho⟩

theorem hc_all (st : List Int) {v : Value} (hv : v.oneCell' = true) (n : Int) : (hcells st v n).toArray.all (·.oneCell') = true := by
  rw [Array.all_eq_true']
  intro u hu
  simp only [hcells, List.mem_toArray, List.mem_append, List.mem_cons, List.not_mem_nil, or_false] at hu
  rcases hu with hu | rfl | rfl
  · exact uvs_one _ u hu
  · exact hv
  · rfl
theorem Sum_K (c0 : Nat → Nat) (j : Nat) {w w0 : World} {c : Nat → Nat} {a : Addr} {a2 a3 : Nat} {l : List UInt8} {R : Value → World → Prop} (S : Fr w0 c w) (G : GlobS (view c 0 w)) (D : HashV (view c 0 w) a l l.length)
    (b2 : view c 1 w a2 = some (.cells (bvs (List.replicate 32 0)).toArray 25 (0, 0))) (E : HashV (view c 2 w) ⟨a3, 0, none⟩ l 0) (hl : l.length ≤ 1099511627776)
    (h : ∀ c' w', Step c0 [] [j] w0 c' w' → R (.agg (bvs (shaB l)).toArray) w') : sha_Hasher_Sum_K1 a ⟨a2, 0, none⟩ ⟨a3, 0, none⟩ w R := by
  obtain ⟨b, o, p, rfl, bD, hoD⟩ := D.get
  clear D
  have hd := digS_length l
  have hrl := restS_length l
  unfold sha_Hasher_Sum_K1
  refine AllocC.col c 3 fun x c1 w1 st1 b3 _ => ?_
  replace S := S.go st1.step (by decide) (by decide); replace G := G.mono (st1.step.sub (by decide)); replace bD := st1.step.sub (by decide) _ _ bD; replace b2 := st1.step.sub (by decide) _ _ b2; replace E := E.mono (st1.step.sub (by decide))
  replace b3 : view c1 3 w1 x = some (.cells (bvs [128]).toArray 5 (0, 0)) := b3
  refine LoopS.up (padZ l.length) (fun i o' l' p' w' => ∃ c', Fr w0 c' w' ∧ GlobS (view c' 0 w') ∧ view c' 0 w' b = some (.cells (hcells (digS l) (.slice o (restS l).length p) l.length).toArray 62 (0, 0)) ∧ view c' 1 w' a2 = some (.cells (bvs (List.replicate 32 0)).toArray 25 (0, 0)) ∧ HashV (view c' 2 w') ⟨a3, 0, none⟩ l 0 ∧
    OwS (view c' 3 w') (.slice o' l' p') 5 1 (128 :: List.replicate i 0).length (bvs (128 :: List.replicate i 0))) ⟨c1, S, G, bD, b2, E, OwS.lit b3 _ (by simp) rfl (by simp [maxLen])⟩ ?_
  clear S G bD b2 E b3 hoD
  rintro i o4 l4 p4 w2 B hi ⟨c2, S, G, bD, b2, E, ho⟩ back
  have hl4 := ho.len.1
  have hpz := padZ_le l.length
  simp only [List.length_cons, List.length_replicate] at hl4
  refine LoadC.ad (view_sub _ _ _) _ bD (hc8 hd _ _) (TSl.mk ?_)
  rw [wrap_i64 (n := ((restS l).length : Int) + (l4 : Int)) (by omega) (by omega), wrap_i64 (by omega) (by omega)]
  have etm : Int.tmod (((restS l).length : Int) + (l4 : Int) + 8) 64 = (((l.length % 64 + (1 + i) + 8) % 64 : Nat) : Int) := by
    rw [hrl, hl4, Int.tmod_eq_emod_of_nonneg (by omega)]; omega
  rw [etm]
  refine BS.ne (fun hne => ?_) (fun he => ?_)
  · have hlt : i < padZ l.length := by
      rcases Nat.lt_or_ge i (padZ l.length) with h' | h'
      · exact h'
      · have : i = padZ l.length := by omega
        have h2 := pad_done (l.length % 64)
        have h3 : padZ (l.length % 64) = padZ l.length := by unfold padZ; omega
        rw [h3, ← this] at h2
        rw [h2] at hne; exact absurd rfl hne
    refine AllocC.col c2 4 fun y c3 w3 st3 b4 _ => ?_
    replace S := S.go st3.step (by decide) (by decide); replace G := G.mono (st3.step.sub (by decide)); replace bD := st3.step.sub (by decide) _ _ bD; replace b2 := st3.step.sub (by decide) _ _ b2; replace E := E.mono (st3.step.sub (by decide))
    replace ho := ho.mono (st3.step.sub (by decide))
    refine app_bytes slU8 ho (m := [0]) ((RdS.block (xs := bvs [0]) b4 rfl (Nat.le_refl _)).mono (view_sub _ _ _)) (by simp; omega) fun o5 p5 c5 w5 st5 ho => ?_
    replace S := S.go st5.step (by decide) (by decide); replace G := G.mono (st5.step.sub (by decide)); replace bD := st5.step.sub (by decide) _ _ bD; replace b2 := st5.step.sub (by decide) _ _ b2; replace E := E.mono (st5.step.sub (by decide))
    have e1 : (128 :: List.replicate i 0 ++ [0] : List UInt8) = 128 :: List.replicate (i + 1) 0 := by rw [List.replicate_succ']; rfl
    rw [e1] at ho ⊢
    exact TSl.mk (back _ _ _ _ hlt ⟨c5, S, G, bD, b2, E, ho⟩)
  · have hiz : i = padZ l.length := by
      rcases Nat.lt_or_ge i (padZ l.length) with h' | h'
      · have h3 : padZ (l.length % 64) = padZ l.length := by unfold padZ; omega
        have := pad_more (n := l.length % 64) (i := i) (by omega)
        omega
      · omega
    subst hiz
    clear back
    refine LoadC.ad (view_sub _ _ _) _ bD (hc9 hd _ _) (TInt.mk ?_)
    rw [wrap_u64 (n := ((l.length : Nat) : Int) * 8) (by omega) (by omega), show ((l.length : Nat) : Int) * 8 = ((l.length * 8 : Nat) : Int) by omega]
    refine LoopSI.down 8 rfl (fun i o' l' p' w' => ∃ c', Fr w0 c' w' ∧ GlobS (view c' 0 w') ∧ view c' 1 w' a2 = some (.cells (bvs (List.replicate 32 0)).toArray 25 (0, 0)) ∧ HashV (view c' 2 w') ⟨a3, 0, none⟩ l 0 ∧
      OwS (view c' 3 w') (.slice o' l' p') 5 1 (128 :: List.replicate (padZ l.length) 0 ++ (be (l.length * 8) 8).take i).length (bvs (128 :: List.replicate (padZ l.length) 0 ++ (be (l.length * 8) 8).take i))) ⟨c2, S, G, b2, E, by rw [List.take_zero, List.append_nil]; exact ho⟩ ?_
    clear S G bD b2 E ho
    rintro i o5 l5 p5 w5 B hi ⟨c5, S, G, b2, E, ho⟩ back
    refine BS.dec (fun hge => ?_) (fun hlt => ?_)
    · have e1 : IntKind.wrap .i64 (8 * (((8 : Nat) : Int) - 1 - (i : Int))) = 8 * ((7 - i : Nat) : Int) := by rw [wrap_i64 (by omega) (by omega)]; omega
      rw [e1, byte_of (by omega) (by omega), Int.toNat_natCast]
      refine Req.mk (by omega) ?_
      refine AllocC.col c5 4 fun y c6 w6 st6 b4 _ => ?_
      replace S := S.go st6.step (by decide) (by decide); replace G := G.mono (st6.step.sub (by decide)); replace b2 := st6.step.sub (by decide) _ _ b2; replace E := E.mono (st6.step.sub (by decide))
      replace ho := ho.mono (st6.step.sub (by decide))
      refine app_bytes slU8 ho (m := [byteAt (l.length * 8) (7 - i)]) ((RdS.block (xs := bvs [byteAt (l.length * 8) (7 - i)]) b4 rfl (Nat.le_refl _)).mono (view_sub _ _ _)) (by simp; omega) fun o7 p7 c7 w7 st7 ho => ?_
      replace S := S.go st7.step (by decide) (by decide); replace G := G.mono (st7.step.sub (by decide)); replace b2 := st7.step.sub (by decide) _ _ b2; replace E := E.mono (st7.step.sub (by decide))
      rw [List.append_assoc, ← be_take (l.length * 8) 8 i (by omega)] at ho ⊢
      rw [wrap_i64 (by omega) (by omega)]
      exact TSl.mk (back _ _ _ _ (by omega) ⟨c7, S, G, b2, E, ho⟩)
    · have : i = 8 := by omega
      subst this
      clear back
      have et : (128 :: List.replicate (padZ l.length) 0 ++ (be (l.length * 8) 8).take 8 : List UInt8) = tailS l.length := by rw [List.take_of_length_le (by simp)]; rfl
      rw [et] at ho
      have htl := tailS_length l.length
      refine Add_c (i := 2) (k := 3) (g := 0) E ho.rd (by decide) G (by decide) (by omega) (by omega) fun c8 w8 st8 E => ?_
      replace S := S.go st8 (by decide) (by decide); replace b2 := st8.sub (by decide) _ _ b2
      obtain ⟨b', o', p', e', bE, hoE⟩ := E.get
      simp only [Addr.mk.injEq, and_true] at e'
      subst e'
      have hde := digS_length (l ++ tailS l.length)
      refine LoadA.part (k := 0) (view_sub _ _ _) bE (es := uvs (digS (l ++ tailS l.length))) (by simp [hde]) (hc0 hde _ _) ?_
      have hol : (outB (digS (l ++ tailS l.length))).length = (List.replicate 32 (0 : UInt8)).length := by simp
      refine LoopI.up 8 (fun i w' => Fr w0 c8 w' ∧ view c8 1 w' a2 = some (.cells (bvs (upto (outB (digS (l ++ tailS l.length))) (List.replicate 32 0) (4 * i))).toArray 25 (0, 0))) ⟨S, by rw [Nat.mul_zero, upto_zero]; exact b2⟩ ?_
      clear S G b2 E bE hoE ho
      rintro i w9 B2 hi ⟨S, b2⟩ back
      refine BS.dec (fun hlt => ?_) (fun hge => ?_)
      · rw [Int.toNat_natCast, Nat.mul_one]
        refine Req.bnd ⟨by omega, by omega⟩ (TCell.mk (uvs_at (x := (digS (l ++ tailS l.length)).getD i 0) (by rw [List.getD_eq_getElem?_getD, List.getElem?_eq_getElem (by omega)]; rfl)) (TInt.mk ?_))
        refine LoopI.up 4 (fun k w' => Fr w0 c8 w' ∧ view c8 1 w' a2 = some (.cells (bvs (upto (outB (digS (l ++ tailS l.length))) (List.replicate 32 0) (4 * i + k))).toArray 25 (0, 0))) ⟨S, b2⟩ ?_
        clear S b2
        rintro k w10 B3 hk ⟨S, b2⟩ back2
        refine BS.dec (fun hlk => ?_) (fun hgk => ?_)
        · have e1 : IntKind.wrap .i64 (8 * IntKind.wrap .i64 (3 - (k : Int))) = 8 * (3 - (k : Int)) := by rw [wrap_i64 (n := 3 - (k : Int)) (by omega) (by omega), wrap_i64 (by omega) (by omega)]
          have e2 : IntKind.wrap .i64 (IntKind.wrap .i64 (4 * (i : Int)) + (k : Int)) = ((4 * i + k : Nat) : Int) := by rw [wrap_i64 (n := 4 * (i : Int)) (by omega) (by omega), wrap_i64 (by omega) (by omega)]; omega
          rw [e1, e2, outI_val, Int.toNat_natCast, Nat.mul_one]
          refine Req.mk (by omega) (Req.bnd ⟨by omega, by omega⟩ ?_)
          refine storeBy b2 (by rw [upto_length hol]; simp; omega) fun w11 _ st11 b2 => ?_
          replace S := S.go st11 (by decide) (by decide)
          rw [wrap_i64 (by omega) (by omega)]
          refine back2 _ (by omega) ⟨S, ?_⟩
          rw [upto_set hol (outB_get _ (by omega) (by omega))] at b2
          exact b2
        · have : k = 4 := by omega
          subst this
          rw [wrap_i64 (by omega) (by omega)]
          exact back _ (by omega) ⟨S, b2⟩
      · have : i = 8 := by omega
        subst this
        rw [upto_full _ (by simp) (by simp)] at b2
        have h32 : (bvs (outB (digS (l ++ tailS l.length)))).toArray.size = 32 := by simp
        refine LoadA.all (view_sub _ _ _) b2 h32 ?_
        refine RunU.var b2 (by rw [h32]; kernel_rfl) rfl (bvs_all _) fun w12 st12 b2 => ?_
        replace S := S.go st12.step (by decide) (by decide)
        refine LoadA.all (view_sub _ _ _) b2 h32 ?_
        exact h _ _ (S.leave c0 j)

theorem HSum_c (c : Nat → Nat) (j : Nat) {w : World} {a : Addr} {l : List UInt8} {R : Value → World → Prop} (hp : HashV (wv w) a l l.length) (hG : GlobS (wv w)) (hl : l.length ≤ 1099511627776)
    (h : ∀ c' w', Step c [] [j] w c' w' → R (.agg (bvs (shaB l)).toArray) w') : CallV Tryd.prog 17 #[.pointer (some a)] w R := by
  have G : GlobS (view (fun _ => 0) 0 w) := by rw [view0]; exact hG
  have D : HashV (view (fun _ => 0) 0 w) a l l.length := by rw [view0]; exact hp
  have S := Fr.start w
  have hd := digS_length l
  have hrl := restS_length l
  refine sha_Hasher_Sum_vc ?_
  unfold sha_Hasher_Sum_VC
  refine AllocC.col (fun _ => 0) 1 fun a2 c1 w1 st1 b2 _ => ?_
  replace S := S.go st1.step (by decide) (by decide); replace G := G.mono (st1.step.sub (by decide)); replace D := D.mono (st1.step.sub (by decide))
  replace b2 : view c1 1 w1 a2 = some (.cells (bvs (List.replicate 32 0)).toArray 25 (0, 0)) := b2
  refine DrewC.col c1 fun w2 st2 => ?_
  replace S := S.go st2 (by decide) (by decide); replace G := G.mono (st2.sub (by decide)); replace D := D.mono (st2.sub (by decide)); replace b2 := st2.sub (by decide) _ _ b2
  obtain ⟨b, oD, pD, rfl, bD, hoD⟩ := D.get
  refine LoadA.part (k := 0) (view_sub _ _ _) bD (es := uvs (digS l)) (by simp [hd]) (hc0 hd _ _) ?_
  refine LoadC.ad (view_sub _ _ _) _ bD (hc8 hd _ _) (TSl.mk ?_)
  have sA : ∀ {c' w'}, view c' 0 w' b = some (.cells (hcells (digS l) (.slice oD (restS l).length pD) l.length).toArray 62 (0, 0)) → StableA w' ((⟨b, 0, none⟩ : Addr).add 0) 8 (.agg (uvs (digS l)).toArray) := fun {c' w'} hb => StableA.part (view_sub c' 0 w') hb (by simp [hd]) (hc0 hd _ _)
  have sC : ∀ {c' w'}, view c' 0 w' b = some (.cells (hcells (digS l) (.slice oD (restS l).length pD) l.length).toArray 62 (0, 0)) → StableC w' ((⟨b, 0, none⟩ : Addr).add 8) (.slice oD (restS l).length pD) := fun {c' w'} hb => StableC.ad (view_sub c' 0 w') hb (hc8 hd _ _)
  refine ⟨?_, ?_⟩
  · refine AllocC.col c1 2 fun x c3 w3 st3 b3 _ => ?_
    replace S := S.go st3.step (by decide) (by decide); replace G := G.mono (st3.step.sub (by decide)); replace D := D.mono (st3.step.sub (by decide)); replace bD := st3.step.sub (by decide) _ _ bD; replace b2 := st3.step.sub (by decide) _ _ b2
    replace hoD := hoD.mono (st3.step.sub (by decide))
    refine ⟨sA bD, sC bD, ?_, ?_⟩
    · refine app_bytes slU8 (OwS.some_bytes b3) (hoD.rd.mono (view_sub _ _ _)) (by simp; omega) fun o4 p4 c4 w4 st4 r4 => ?_
      replace S := S.go st4.step (by decide) (by decide); replace G := G.mono (st4.step.sub (by decide)); replace D := D.mono (st4.step.sub (by decide)); replace bD := st4.step.sub (by decide) _ _ bD; replace b2 := st4.step.sub (by decide) _ _ b2
      refine TSl.mk ⟨sA bD, TCells.mk (built_hash2 hd _ rfl) ?_⟩
      rw [List.nil_append] at r4 ⊢
      refine AllocC.col c4 2 fun y c5 w5 st5 b5 _ => ?_
      replace S := S.go st5.step (by decide) (by decide); replace G := G.mono (st5.step.sub (by decide)); replace D := D.mono (st5.step.sub (by decide)); replace bD := st5.step.sub (by decide) _ _ bD; replace b2 := st5.step.sub (by decide) _ _ b2
      replace r4 := r4.mono st5.sub
      refine ⟨sA bD, sC bD, ?_⟩
      refine RunU.var b5 (by rw [show (hcells (digS l) (.slice o4 (restS l).length p4) 0).toArray.size = 10 by simp [hc_len hd]]; kernel_rfl) (by simp [hc_len hd]) (hc_all _ rfl _) fun w6 st6 b6 => ?_
      have r6 := OwO.keep st6 (OwO.of r4) (notU8 b5)
      replace S := S.go st6.step (by decide) (by decide); replace G := G.mono (st6.step.sub (by decide)); replace D := D.mono (st6.step.sub (by decide)); replace bD := st6.step.sub (by decide) _ _ bD; replace b2 := st6.step.sub (by decide) _ _ b2
      exact Sum_K c j S G D b2 ⟨y, _, rfl, b6, r6⟩ hl h
    · refine AllocC.col c3 2 fun y c5 w5 st5 b5 _ => ?_
      replace S := S.go st5.step (by decide) (by decide); replace G := G.mono (st5.step.sub (by decide)); replace D := D.mono (st5.step.sub (by decide)); replace bD := st5.step.sub (by decide) _ _ bD; replace b2 := st5.step.sub (by decide) _ _ b2
      replace b3 := st5.old _ _ b3 (by simp)
      replace hoD := hoD.mono (st5.step.sub (by decide))
      refine ⟨sA bD, sC bD, ?_⟩
      refine append_col slU8 (OwS.some_bytes b3) (hoD.rd.mono (view_sub _ _ _)) (bvs_one _) (by simp; omega) (by simp; omega) fun v4 c4 w4 st4 r4 _ => ?_
      have b5' := st4.old _ _ b5 (by simp [Value.ownBlock]; rintro rfl; rw [b5] at b3; simp at b3)
      replace S := S.go st4.step (by decide) (by decide); replace G := G.mono (st4.step.sub (by decide)); replace D := D.mono (st4.step.sub (by decide)); replace bD := st4.step.sub (by decide) _ _ bD; replace b2 := st4.step.sub (by decide) _ _ b2
      rw [← bvs_append, List.nil_append, List.length_nil, Nat.zero_add] at r4
      obtain ⟨o4, p4, rfl⟩ := r4.form
      refine TSl.mk ⟨sA bD, TCells.mk (built_hash2 hd _ rfl) ?_⟩
      refine RunU.var b5' (by rw [show (hcells (digS l) (.slice o4 (restS l).length p4) 0).toArray.size = 10 by simp [hc_len hd]]; kernel_rfl) (by simp [hc_len hd]) (hc_all _ rfl _) fun w6 st6 b6 => ?_
      have r6 := OwO.keep st6 (OwO.of r4) (notU8 b5')
      replace S := S.go st6.step (by decide) (by decide); replace G := G.mono (st6.step.sub (by decide)); replace D := D.mono (st6.step.sub (by decide)); replace bD := st6.step.sub (by decide) _ _ bD; replace b2 := st6.step.sub (by decide) _ _ b2
      exact Sum_K c j S G D b2 ⟨y, _, rfl, b6, r6⟩ hl h
  · refine AllocC.col c1 2 fun y c5 w5 st5 b5 _ => ?_
    replace S := S.go st5.step (by decide) (by decide); replace G := G.mono (st5.step.sub (by decide)); replace D := D.mono (st5.step.sub (by decide)); replace bD := st5.step.sub (by decide) _ _ bD; replace b2 := st5.step.sub (by decide) _ _ b2
    replace hoD := hoD.mono (st5.step.sub (by decide))
    refine ⟨sA bD, sC bD, ?_⟩
    refine AllocC.col c5 2 fun x c3 w3 st3 b3 _ => ?_
    replace b5 := st3.old _ _ b5 (by simp)
    replace S := S.go st3.step (by decide) (by decide); replace G := G.mono (st3.step.sub (by decide)); replace D := D.mono (st3.step.sub (by decide)); replace bD := st3.step.sub (by decide) _ _ bD; replace b2 := st3.step.sub (by decide) _ _ b2
    replace hoD := hoD.mono (st3.step.sub (by decide))
    refine ⟨sA bD, sC bD, ?_⟩
    refine append_col slU8 (OwS.some_bytes b3) (hoD.rd.mono (view_sub _ _ _)) (bvs_one _) (by simp; omega) (by simp; omega) fun v4 c4 w4 st4 r4 _ => ?_
    have b5' := st4.old _ _ b5 (by simp [Value.ownBlock]; rintro rfl; rw [b5] at b3; simp at b3)
    replace S := S.go st4.step (by decide) (by decide); replace G := G.mono (st4.step.sub (by decide)); replace D := D.mono (st4.step.sub (by decide)); replace bD := st4.step.sub (by decide) _ _ bD; replace b2 := st4.step.sub (by decide) _ _ b2
    rw [← bvs_append, List.nil_append, List.length_nil, Nat.zero_add] at r4
    obtain ⟨o4, p4, rfl⟩ := r4.form
    refine TSl.mk ⟨sA bD, TCells.mk (built_hash2 hd _ rfl) ?_⟩
    refine RunU.var b5' (by rw [show (hcells (digS l) (.slice o4 (restS l).length p4) 0).toArray.size = 10 by simp [hc_len hd]]; kernel_rfl) (by simp [hc_len hd]) (hc_all _ rfl _) fun w6 st6 b6 => ?_
    have r6 := OwO.keep st6 (OwO.of r4) (notU8 b5')
    replace S := S.go st6.step (by decide) (by decide); replace G := G.mono (st6.step.sub (by decide)); replace D := D.mono (st6.step.sub (by decide)); replace bD := st6.step.sub (by decide) _ _ bD; replace b2 := st6.step.sub (by decide) _ _ b2
    exact Sum_K c j S G D b2 ⟨y, _, rfl, b6, r6⟩ hl h

theorem Sha_c (c : Nat → Nat) (j : Nat) {w : World} {v : Value} {l : List UInt8} {R : Value → World → Prop} (hr : RdS (wv w) v 1 l.length (bvs l)) (hG : GlobS (wv w)) (hl : l.length ≤ 1099511627776)
    (h : ∀ c' w', Step c [] [j] w c' w' → R (.agg (bvs (shaB l)).toArray) w') : CallV Tryd.prog 13 #[v] w R := by
  obtain ⟨o0, p0, rfl⟩ := hr.form
  have G : GlobS (view (fun _ => 0) 0 w) := by rw [view0]; exact hG
  have D : RdS (view (fun _ => 0) 0 w) (.slice o0 l.length p0) 1 l.length (bvs l) := by rw [view0]; exact hr
  have S := Fr.start w
  refine sha_Sum_vc ?_
  unfold sha_Sum_VC
  refine AllocC.col (fun _ => 0) 1 fun a2 c1 w1 st1 b2 _ => ?_
  replace S := S.go st1.step (by decide) (by decide); replace G := G.mono (st1.step.sub (by decide)); replace D := D.mono (st1.step.sub (by decide))
  refine New_c c1 2 (G.mono (view_sub _ _ _)) fun p c2 w2 st2 H => TPtr.mk ?_
  replace S := S.go st2 (by decide) (by decide); replace G := G.mono (st2.sub (by decide)); replace D := D.mono (st2.sub (by decide)); replace b2 := st2.sub (by decide) _ _ b2
  refine Add_c (i := 2) (k := 0) (g := 0) H D (by decide) G (by decide) hl (by omega) fun c3 w3 st3 H => ?_
  replace S := S.go st3 (by decide) (by decide); replace G := G.mono (st3.sub (by decide)); replace D := D.mono (st3.sub (by decide)); replace b2 := st3.sub (by decide) _ _ b2
  rw [List.nil_append, Nat.zero_add] at H
  refine HSum_c c3 3 (H.mono (view_sub _ _ _)) (G.mono (view_sub _ _ _)) hl fun c4 w4 st4 => TAgg.mk ?_
  replace S := S.go st4 (by decide) (by decide); replace b2 := st4.sub (by decide) _ _ b2
  have h32 : (bvs (shaB l)).toArray.size = 32 := by simp
  refine RunU.var b2 (by rw [h32]; kernel_rfl) (by simp) (bvs_all _) fun w5 st5 b2 => ?_
  replace S := S.go st5.step (by decide) (by decide)
  refine LoadA.all (view_sub _ _ _) b2 h32 ?_
  exact h _ _ (S.leave c j)
end Go.Proofs.YtpblhjgpfmmafaaDoor

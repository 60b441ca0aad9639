/-
  Digests: turning words, mixing chunks; each function once.
-/
import Derived.Test.YtpblhjgpfmmafaaDoorGenSha
import Derived.Test.YtpblhjgpfmmafaaDoorShaD
import Derived.Test.YtpblhjgpfmmafaaDoorOff
import Derived.Test.YtpblhjgpfmmafaaDoorArr
set_option linter.unusedVariables false
set_option linter.unusedSimpArgs false
namespace Go.Proofs.YtpblhjgpfmmafaaDoor
open Go.Vc
attribute [local irreducible] TInt TBool TStr TPtr TSl TAgg TMap TChan T2 T3 T4 BS Req TSome TCell TByte LoadC LoadA StoreC AllocC RunV RunU CallV ExtV EqA StableC StableA StableV TCells ReadV
attribute [local irreducible] DrewC

theorem rotl_k : ∀ c : Fin 32, c.val ≠ 0 → bitsV .and .u64 (IntKind.wrap .u64 (IntKind.wrap .i64 (0 - (c.val : Int)))) 31 = 32 - (c.val : Int) := by decide +kernel
theorem RotL_c {x c : Int} {w : World} {R : Value → World → Prop} (h1 : 1 ≤ c) (h2 : c ≤ 31) (h : R (.int .u32 (rot x c)) w) : CallV Tryd.prog 48 #[.int .u32 x, .int .i64 (IntKind.wrap .i64 (0 - c))] w R := by
  obtain ⟨n, rfl⟩ := Int.eq_ofNat_of_zero_le (show 0 ≤ c by omega)
  have hk := rotl_k ⟨n, by omega⟩ (by simp; omega)
  simp only at hk
  refine math_bits_RotateLeft32_vc ?_
  unfold math_bits_RotateLeft32_VC
  rw [hk]
  have e : IntKind.wrap .u64 (32 - (32 - (n : Int))) = n := by rw [wrap_u64] <;> omega
  rw [e]
  exact Req.mk (by omega) (Req.mk (by omega) h)
theorem rotr_c {x c : Int} {w : World} {R : Value → World → Prop} (h1 : 1 ≤ c) (h2 : c ≤ 31) (h : R (.int .u32 (rot x c)) w) : CallV Tryd.prog 31 #[.int .u32 x, .int .i64 c] w R := by
  refine ref03_rotr_vc ?_
  unfold ref03_rotr_VC
  rw [wrap_u64 (n := c) (by omega) (by omega), wrap_i64 (by omega) (by omega), wrap_u64 (by omega) (by omega), rot_comm]
  exact Req.mk (by omega) (Req.mk (by omega) h)
theorem turn_c {x a b d : Int} {s : Bool} {w : World} {R : Value → World → Prop} (ha : 1 ≤ a ∧ a ≤ 31) (hb : 1 ≤ b ∧ b ≤ 31) (hd : 1 ≤ d ∧ d ≤ 31) (h : R (.int .u32 (xor32 (xor32 (rot x a) (rot x b)) (if s = true then shrV .u32 x d else rot x d))) w) :
    CallV Tryd.prog 45 #[.int .u32 x, .int .i64 a, .int .i64 b, .int .i64 d, .bool s] w R := by
  refine sha_turn_vc ?_
  unfold sha_turn_VC
  refine RotL_c hd.1 hd.2 (TInt.mk ?_)
  have fin : ∀ y, R (.int .u32 (xor32 (xor32 (rot x a) (rot x b)) y)) w → sha_turn_K1 x a b y w R := fun y hy => RotL_c ha.1 ha.2 (TInt.mk (RotL_c hb.1 hb.2 (TInt.mk hy)))
  cases s
  · exact BS.no rfl (fin _ (by simpa using h))
  · exact BS.yes rfl (Req.mk (by omega) (fin _ (by simpa using h)))

/-- the package's rows -/
def GlobS (h : View) : Prop := (∃ T fz, h 1 = some (.cells (uvs K32).toArray T fz)) ∧ (∃ T fz, h 0 = some (.cells (uvs H32).toArray T fz))
theorem GlobS.mono {h h' : View} (g : GlobS h) (hs : Sub h h') : GlobS h' := by
  obtain ⟨⟨T, fz, h1⟩, U, fy, h2⟩ := g
  exact ⟨⟨T, fz, hs _ _ h1⟩, U, fy, hs _ _ h2⟩

theorem set_self {α : Type} {l : List α} {i : Nat} {x : α} (h : l[i]? = some x) : l.set i x = l := by
  apply List.ext_getElem?
  intro k
  rw [List.getElem?_set]
  split
  · rename_i e; subst e
    rw [h]; rw [if_pos (lt_of_get h)]
  · rfl
theorem uvs_set (l : List Int) (i : Nat) (x : Int) : (uvs l).set i (.int .u32 x) = uvs (l.set i x) := by
  unfold uvs; rw [List.map_set]; rfl
theorem uvs_at {l : List Int} {k : Nat} {x : Int} (h : l[k]? = some x) : (uvs l).toArray[k]? = some (.int .u32 x) := by
  rw [List.getElem?_toArray, uvs_get, h]; rfl
theorem bvs_at {l : List UInt8} {k : Nat} {x : UInt8} (h : l[k]? = some x) : (bvs l).toArray[k]? = some (.int .u8 (x.toNat : Int)) := by
  rw [List.getElem?_toArray, bvs_get, h]; rfl
theorem uvs_all (l : List Int) : (uvs l).toArray.all (·.oneCell') = true := by
  rw [Array.all_eq_true']
  intro x hx
  exact uvs_one l x (by simpa using hx)
theorem bvs_all (l : List UInt8) : (bvs l).toArray.all (·.oneCell') = true := by
  rw [Array.all_eq_true']
  intro x hx
  exact bvs_one l x (by simpa using hx)
theorem storeU {c : Nat → Nat} {i : Nat} {w : World} {b k : Nat} {l : List Int} {T : Nat} {x : Int} {C : World → Prop} (hb : view c i w b = some (.cells (uvs l).toArray T (0, 0))) (hk : k < l.length)
    (h : ∀ w', Wr c i w c w' (some b) → Step c [i] [] w c w' → view c i w' b = some (.cells (uvs (l.set k x)).toArray T (0, 0)) → C w') : StoreC w ((⟨b, 0, none⟩ : Addr).add k) (.int .u32 x) C :=
  StoreC.ad hb (by simpa using hk) fun w' h1 h2 h3 => h w' h1 h2 (by rw [toArray_set, uvs_set] at h3; exact h3)
theorem i64_n (i : Nat) (k : Nat) (h : k ≤ i) (hi : i < 1000000000000) : IntKind.wrap .i64 ((i : Int) - (k : Int)) = ((i - k : Nat) : Int) := by rw [wrap_i64 (by omega) (by omega)]; omega

theorem mix_c (c : Nat → Nat) (j : Nat) {w : World} {st : List Int} {p : List UInt8} {R : Value → World → Prop} (hst : st.length = 8) (hp : p.length = 64) (hG : GlobS (wv w))
    (h : ∀ c' w', Step c [] [j] w c' w' → R (.agg (uvs (mixS st p)).toArray) w') : CallV Tryd.prog 32 #[.agg (uvs st).toArray, .agg (bvs p).toArray] w R := by
  have G : GlobS (view (fun _ => 0) 0 w) := by rw [view0]; exact hG
  have S := Fr.start w
  refine sha_mix_vc ?_
  unfold sha_mix_VC
  refine AllocC.col (fun _ => 0) 1 fun a2 c1 w1 st1 b1 _ => ?_
  replace S := S.go st1.step (by decide) (by decide); replace G := G.mono (st1.step.sub (by decide))
  refine AllocC.col c1 2 fun a3 c2 w2 st2 b2 _ => ?_
  replace S := S.go st2.step (by decide) (by decide); replace G := G.mono (st2.step.sub (by decide)); replace b1 := st2.step.sub (by decide) _ _ b1
  refine AllocC.col c2 3 fun a4 c3 w3 st3 b3 _ => ?_
  replace S := S.go st3.step (by decide) (by decide); replace G := G.mono (st3.step.sub (by decide)); replace b1 := st3.step.sub (by decide) _ _ b1; replace b2 := st3.step.sub (by decide) _ _ b2
  refine AllocC.col c3 4 fun a5 c4 w4 st4 b4 _ => ?_
  replace S := S.go st4.step (by decide) (by decide); replace G := G.mono (st4.step.sub (by decide)); replace b1 := st4.step.sub (by decide) _ _ b1; replace b2 := st4.step.sub (by decide) _ _ b2; replace b3 := st4.step.sub (by decide) _ _ b3
  have hAB : (sched p 64).length = (List.replicate 64 (0 : Int)).length := by simp
  have hA : (sched p 64).length = 64 := by simp
  have hB : (List.replicate 64 (0 : Int)).length = 64 := by simp
  replace b4 : view c4 4 w4 a5 = some (.cells (uvs (List.replicate 64 (0 : Int))).toArray 55 (0, 0)) := b4
  refine LoopI.up 64 (fun i w' => Fr w c4 w' ∧ GlobS (view c4 0 w') ∧ (view c4 1 w' a2 = some (.cells (uvs st).toArray 57 (0, 0))) ∧ (view c4 2 w' a3 = some (.cells (bvs p).toArray 64 (0, 0))) ∧ (∃ z : List Int, z.length = 8 ∧ view c4 3 w' a4 = some (.cells (uvs z).toArray 57 (0, 0))) ∧ view c4 4 w' a5 = some (.cells (uvs (upto (sched p 64) (List.replicate 64 (0 : Int)) i)).toArray 55 (0, 0)))
    ⟨S, G, b1, b2, ⟨List.replicate 8 0, by simp, b3⟩, by rw [upto_zero]; exact b4⟩ ?_
  clear S G b1 b2 b3 b4
  rintro i w5 K1 hi ⟨S, G, b1, b2, ⟨z, hz, b3⟩, b5⟩ back
  refine BS.dec (fun hlt => ?_) (fun hge => ?_)
  · have hul : (upto (sched p 64) (List.replicate 64 (0 : Int)) i).length = 64 := by rw [upto_length hAB, hB]
    refine BS.dec (fun h16 => ?_) (fun h16 => ?_)
    · have e1 : IntKind.wrap .i64 (4 * IntKind.wrap .i64 ((i : Int) + 1)) = ((4 * i + 4 : Nat) : Int) := by rw [wrap_i64 (n := (i : Int) + 1) (by omega) (by omega), wrap_i64 (by omega) (by omega)]; omega
      have e2 : IntKind.wrap .i64 (4 * (i : Int)) = ((4 * i : Nat) : Int) := by rw [wrap_i64 (by omega) (by omega)]; omega
      rw [e1, e2, Int.toNat_natCast, Int.toNat_natCast, show 4 * i + 4 - 4 * i = 4 by omega]
      refine Req.bndle ⟨by omega, by omega⟩ (Req.bndle ⟨by omega, by omega⟩ ?_)
      have hql : ((p.drop (4 * i)).take 4).length = 4 := by rw [List.length_take, List.length_drop]; omega
      have hBi : (upto (sched p 64) (List.replicate 64 (0 : Int)) i)[i]? = some 0 := by rw [upto_ge (Nat.le_refl _) (by omega)]; rw [List.getElem?_replicate, if_pos (by omega)]
      refine LoopI.up 4 (fun k w' => Fr w c4 w' ∧ GlobS (view c4 0 w') ∧ (view c4 1 w' a2 = some (.cells (uvs st).toArray 57 (0, 0))) ∧ (view c4 2 w' a3 = some (.cells (bvs p).toArray 64 (0, 0))) ∧ (view c4 3 w' a4 = some (.cells (uvs z).toArray 57 (0, 0))) ∧
        view c4 4 w' a5 = some (.cells (uvs ((upto (sched p 64) (List.replicate 64 (0 : Int)) i).set i ((num (((p.drop (4 * i)).take 4).take k) : Nat) : Int))).toArray 55 (0, 0)))
        ⟨S, G, b1, b2, b3, by rw [List.take_zero]; rw [show ((num [] : Nat) : Int) = 0 from rfl, set_self hBi]; exact b5⟩ ?_
      clear S G b1 b2 b3 b5
      rintro k w6 K2 hk ⟨S, G, b1, b2, b3, b5⟩ back2
      refine BS.dec (fun hlk => ?_) (fun hgk => ?_)
      · obtain ⟨x, hx⟩ := get_of_lt (l := (p.drop (4 * i)).take 4) (i := k) (by omega)
        have hx2 : p[4 * i + k]? = some x := by
          rw [List.getElem?_take, if_pos (by omega), List.getElem?_drop] at hx; exact hx
        refine Req.bnd ⟨by omega, by omega⟩ ?_
        rw [show slBase (some (⟨a3, 0, none⟩ : Addr)) 64 (4 * i) 1 = some ((⟨a3, 0, none⟩ : Addr).add (4 * i * 1)) by unfold slBase; rw [if_neg (by omega)]; rfl]
        refine TSome.mk ?_
        rw [Int.toNat_natCast, Int.toNat_natCast, addr_add, addr_add a3]
        refine LoadC.at (view_sub _ _ _) b2 (v := .int .u8 (x.toNat : Int)) (by rw [show 0 + 4 * i * 1 + k * 1 = 4 * i + k by omega]; exact bvs_at hx2) (TInt.mk ?_)
        refine Req.bnd ⟨by omega, by omega⟩ (LoadC.ad (view_sub _ _ _) (.int .u32 ((num (((p.drop (4 * i)).take 4).take k) : Nat) : Int)) b5 (by rw [Nat.mul_one]; exact uvs_at (by rw [List.getElem?_set_self (by omega)])) (TInt.mk ?_))
        rw [wrap_u32 (n := ((x.toNat : Nat) : Int)) (by omega) (by have := x.toNat_lt; omega), word_next (by rw [List.length_take]; omega)]
        refine Req.bnd ⟨by omega, by omega⟩ (storeU b5 (by rw [List.length_set]; omega) fun w7 _ st7 b5 => ?_)
        replace S := S.go st7 (by decide) (by decide); replace G := G.mono (st7.sub (by decide)); replace b1 := st7.sub (by decide) _ _ b1; replace b2 := st7.sub (by decide) _ _ b2; replace b3 := st7.sub (by decide) _ _ b3
        rw [wrap_i64 (by omega) (by omega)]
        refine back2 _ (by omega) ⟨S, G, b1, b2, b3, ?_⟩
        rw [Nat.mul_one, List.set_set] at b5
        rw [List.take_add_one, hx]
        exact b5
      · have : k = 4 := by omega
        subst this
        rw [wrap_i64 (by omega) (by omega)]
        refine back _ (by omega) ⟨S, G, b1, b2, ⟨z, hz, b3⟩, ?_⟩
        rw [List.take_of_length_le (by omega)] at b5
        rw [← upto_set hAB (x := word4 p i) (by rw [sched_get (by omega), if_pos (by omega)])]
        exact b5
    · refine DrewC.col c4 fun w8 st8 => ?_
      replace S := S.go st8 (by decide) (by decide); replace G := G.mono (st8.sub (by decide)); replace b1 := st8.sub (by decide) _ _ b1; replace b2 := st8.sub (by decide) _ _ b2; replace b3 := st8.sub (by decide) _ _ b3; replace b5 := st8.sub (by decide) _ _ b5
      have d2 : IntKind.wrap .i64 ((i : Int) - 2) = ((i - 2 : Nat) : Int) := i64_n i 2 (by omega) (by omega)
      have d7 : IntKind.wrap .i64 ((i : Int) - 7) = ((i - 7 : Nat) : Int) := i64_n i 7 (by omega) (by omega)
      have d15 : IntKind.wrap .i64 ((i : Int) - 15) = ((i - 15 : Nat) : Int) := i64_n i 15 (by omega) (by omega)
      have d16 : IntKind.wrap .i64 ((i : Int) - 16) = ((i - 16 : Nat) : Int) := i64_n i 16 (by omega) (by omega)
      rw [d2, d7, d15, d16]
      simp only [Int.toNat_natCast, Nat.mul_one]
      have get : ∀ k, k < i → (uvs (upto (sched p 64) (List.replicate 64 (0 : Int)) i)).toArray[k]? = some (.int .u32 ((sched p i).getD k 0)) := fun k hk => uvs_at (by rw [upto_lt hk (by omega), sched_at hk (by omega)])
      refine Req.bnd ⟨by omega, by omega⟩ (LoadC.ad (view_sub _ _ _) _ b5 (get (i - 2) (by omega)) (TInt.mk ?_))
      refine Req.bnd ⟨by omega, by omega⟩ (LoadC.ad (view_sub _ _ _) _ b5 (get (i - 7) (by omega)) (TInt.mk ?_))
      refine Req.bnd ⟨by omega, by omega⟩ (LoadC.ad (view_sub _ _ _) _ b5 (get (i - 15) (by omega)) (TInt.mk ?_))
      refine Req.bnd ⟨by omega, by omega⟩ (LoadC.ad (view_sub _ _ _) _ b5 (get (i - 16) (by omega)) (TInt.mk ?_))
      refine turn_c (by omega) (by omega) (by omega) (TInt.mk ?_)
      refine ⟨StableC.ad (view_sub _ _ _) b5 (get _ (by omega)), StableC.ad (view_sub _ _ _) b5 (get _ (by omega)), StableC.ad (view_sub _ _ _) b5 (get _ (by omega)), ?_⟩
      refine turn_c (by omega) (by omega) (by omega) (TInt.mk ?_)
      refine ⟨StableC.ad (view_sub _ _ _) b5 (get _ (by omega)), StableC.ad (view_sub _ _ _) b5 (get _ (by omega)), ?_⟩
      refine Req.bnd ⟨by omega, by omega⟩ (storeU b5 (by omega) fun w9 _ st9 b5 => ?_)
      replace S := S.go st9 (by decide) (by decide); replace G := G.mono (st9.sub (by decide)); replace b1 := st9.sub (by decide) _ _ b1; replace b2 := st9.sub (by decide) _ _ b2; replace b3 := st9.sub (by decide) _ _ b3
      rw [wrap_i64 (by omega) (by omega)]
      refine back _ (by omega) ⟨S, G, b1, b2, ⟨z, hz, b3⟩, ?_⟩
      rw [upto_set hAB (by rw [sched_get (by omega), if_neg (by omega)]; rfl)] at b5
      exact b5
  · have : i = 64 := by omega
    subst this
    rw [upto_full 64 (by omega) (by omega)] at b5
    clear back
    refine LoadA.all (view_sub _ _ _) b1 (by simp [hst]) ?_
    refine AllocC.col c4 5 fun a9 c6 w6 st6 b9 _ => ?_
    replace S := S.go st6.step (by decide) (by decide); replace G := G.mono (st6.step.sub (by decide)); replace b1 := st6.step.sub (by decide) _ _ b1; replace b2 := st6.step.sub (by decide) _ _ b2; replace b3 := st6.step.sub (by decide) _ _ b3; replace b5 := st6.step.sub (by decide) _ _ b5
    refine RunU.var b9 (by rw [show (uvs st).toArray.size = 8 by simp [hst]]; kernel_rfl) (by simp [hst]) (uvs_all _) fun w7 st7 b9 => ?_
    replace S := S.go st7.step (by decide) (by decide); replace G := G.mono (st7.step.sub (by decide)); replace b1 := st7.step.sub (by decide) _ _ b1; replace b2 := st7.step.sub (by decide) _ _ b2; replace b3 := st7.step.sub (by decide) _ _ b3; replace b5 := st7.step.sub (by decide) _ _ b5
    obtain ⟨⟨TG, fzG, g1⟩, _⟩ := id G
    refine LoadA.all (view_sub _ _ _) g1 (by simp; rfl) ?_
    refine LoopI.up 64 (fun i w' => Fr w c6 w' ∧ GlobS (view c6 0 w') ∧ view c6 1 w' a2 = some (.cells (uvs st).toArray 57 (0, 0)) ∧ view c6 3 w' a4 = some (.cells (uvs z).toArray 57 (0, 0)) ∧ view c6 4 w' a5 = some (.cells (uvs (sched p 64)).toArray 55 (0, 0)) ∧
      view c6 5 w' a9 = some (.cells (uvs (rnds st (sched p 64) i)).toArray 57 (0, 0))) ⟨S, G, b1, b3, b5, b9⟩ ?_
    clear S G b1 b2 b3 b5 b9 g1
    rintro i w14 K3 hi ⟨S, G, b1, b3, b5, b9⟩ back
    refine BS.dec (fun hlt => ?_) (fun hge => ?_)
    · have hK : (uvs K32).toArray[(i : Int).toNat * 1]? = some (.int .u32 (K32.getD i 0)) := by
        rw [Int.toNat_natCast, Nat.mul_one]; exact uvs_at (by rw [List.getD_eq_getElem?_getD, List.getElem?_eq_getElem (show i < K32.length from by show i < 64; omega)]; rfl)
      have hWi : (uvs (sched p 64)).toArray[(i : Int).toNat * 1]? = some (.int .u32 ((sched p 64).getD i 0)) := by
        rw [Int.toNat_natCast, Nat.mul_one]; exact uvs_at (by rw [List.getD_eq_getElem?_getD, List.getElem?_eq_getElem (by omega)]; rfl)
      refine Req.bnd ⟨by omega, by omega⟩ (TCell.mk hK (TInt.mk ?_))
      refine DrewC.col c6 fun w15 st15 => ?_
      replace S := S.go st15 (by decide) (by decide); replace G := G.mono (st15.sub (by decide)); replace b1 := st15.sub (by decide) _ _ b1; replace b3 := st15.sub (by decide) _ _ b3; replace b5 := st15.sub (by decide) _ _ b5; replace b9 := st15.sub (by decide) _ _ b9
      obtain ⟨s0, s1, s2, s3, s4, s5, s6, s7, hv⟩ := eight (v := rnds st (sched p 64) i) (by rw [rnds_length, hst])
      rw [hv] at b9
      (repeat (first | refine TInt.mk ?_ | refine TBool.mk ?_ | refine TStr.mk ?_ | refine TSl.mk ?_ | refine TPtr.mk ?_ | refine TAgg.mk ?_ | refine T2.mk ?_ | refine T3.mk ?_ | refine TSome.mk ?_ | refine LoadC.ad (view_sub _ _ _) _ (by assumption) rfl ?_))
      refine DrewC.col c6 fun w16 st16 => ?_
      replace S := S.go st16 (by decide) (by decide); replace G := G.mono (st16.sub (by decide)); replace b1 := st16.sub (by decide) _ _ b1; replace b3 := st16.sub (by decide) _ _ b3; replace b5 := st16.sub (by decide) _ _ b5; replace b9 := st16.sub (by decide) _ _ b9
      (repeat (first | refine TInt.mk ?_ | refine TBool.mk ?_ | refine TStr.mk ?_ | refine TSl.mk ?_ | refine TPtr.mk ?_ | refine TAgg.mk ?_ | refine T2.mk ?_ | refine T3.mk ?_ | refine TSome.mk ?_ | refine LoadC.ad (view_sub _ _ _) _ (by assumption) rfl ?_))
      refine Req.bnd ⟨by omega, by omega⟩ (LoadC.ad (view_sub _ _ _) _ b5 hWi (TInt.mk ?_))
      refine turn_c (by omega) (by omega) (by omega) (TInt.mk ?_)
      refine ⟨StableC.ad (view_sub _ _ _) b9 rfl, StableC.ad (view_sub _ _ _) b5 hWi, ?_⟩
      refine DrewC.col c6 fun w18 st18 => ?_
      replace S := S.go st18 (by decide) (by decide); replace G := G.mono (st18.sub (by decide)); replace b1 := st18.sub (by decide) _ _ b1; replace b3 := st18.sub (by decide) _ _ b3; replace b5 := st18.sub (by decide) _ _ b5; replace b9 := st18.sub (by decide) _ _ b9
      rw [show slBase (some (⟨a9, 0, none⟩ : Addr)) 8 1 1 = slBase (some ((⟨a9, 0, none⟩ : Addr).add 1)) 7 0 1 by rw [slBase_whole]; rfl, show slBase (some (⟨a9, 0, none⟩ : Addr)) 8 0 1 = some (⟨a9, 0, none⟩ : Addr) from slBase_whole _ _ _]
      refine copy_arr (e := 54) (m := 7) (ys := uvs [s0, s1, s2, s3, s4, s5, s6]) (cs := uvs [s0, s1, s2, s3, s4, s5, s6, s7]) Tryd.underlying84 (by kernel_rfl) b9 (by simp) ?_ (Nat.le_refl _) (uvs_one _) fun w19 _ st19 b9 => TInt.mk ?_
      · exact ⟨_, _, rfl, by omega, rfl, .inr ⟨a9, 0, _, _, _, rfl, (view_sub _ _ _ _ _ b9), fun k u hu => by
          match k, hu with
          | 0, hu => exact hu
          | 1, hu => exact hu
          | 2, hu => exact hu
          | 3, hu => exact hu
          | 4, hu => exact hu
          | 5, hu => exact hu
          | 6, hu => exact hu
          | n + 7, hu => simp [uvs] at hu⟩⟩
      replace S := S.go st19 (by decide) (by decide); replace G := G.mono (st19.sub (by decide)); replace b1 := st19.sub (by decide) _ _ b1; replace b3 := st19.sub (by decide) _ _ b3; replace b5 := st19.sub (by decide) _ _ b5
      replace b9 : view c6 5 w19 a9 = some (.cells (uvs [s0, s0, s1, s2, s3, s4, s5, s6]).toArray 57 (0, 0)) := b9
      (repeat (first | refine TInt.mk ?_ | refine TBool.mk ?_ | refine TStr.mk ?_ | refine TSl.mk ?_ | refine TPtr.mk ?_ | refine TAgg.mk ?_ | refine T2.mk ?_ | refine T3.mk ?_ | refine TSome.mk ?_ | refine LoadC.ad (view_sub _ _ _) _ (by assumption) rfl ?_))
      refine storeU b9 (by simp) fun w20 _ st20 b9 => ?_
      replace S := S.go st20 (by decide) (by decide); replace G := G.mono (st20.sub (by decide)); replace b1 := st20.sub (by decide) _ _ b1; replace b3 := st20.sub (by decide) _ _ b3; replace b5 := st20.sub (by decide) _ _ b5
      refine turn_c (by omega) (by omega) (by omega) (TInt.mk ?_)
      refine storeU b9 (by simp) fun w21 _ st21 b9 => ?_
      replace S := S.go st21 (by decide) (by decide); replace G := G.mono (st21.sub (by decide)); replace b1 := st21.sub (by decide) _ _ b1; replace b3 := st21.sub (by decide) _ _ b3; replace b5 := st21.sub (by decide) _ _ b5
      rw [wrap_i64 (by omega) (by omega)]
      refine back _ (by omega) ⟨S, G, b1, b3, b5, ?_⟩
      rw [rnds, hv]
      exact b9
    · have : i = 64 := by omega
      subst this
      clear back
      have hr : (rnds st (sched p 64) 64).length = 8 := by rw [rnds_length, hst]
      have hmx : (mixS st p).length = (rnds st (sched p 64) 64).length := by rw [hr]; exact mixS_length hst p
      refine LoadA.all (view_sub _ _ _) b1 (by simp [hst]) ?_
      refine LoopI.up 8 (fun i w' => Fr w c6 w' ∧ view c6 3 w' a4 = some (.cells (uvs z).toArray 57 (0, 0)) ∧
        view c6 5 w' a9 = some (.cells (uvs (upto (mixS st p) (rnds st (sched p 64) 64) i)).toArray 57 (0, 0))) ⟨S, b3, by rw [upto_zero]; exact b9⟩ ?_
      clear S G b1 b3 b5 b9
      rintro i w23 K4 hi ⟨S, b3, b9⟩ back
      refine BS.dec (fun hlt => ?_) (fun hge => ?_)
      · obtain ⟨x, hx⟩ := get_of_lt (l := st) (i := i) (by omega)
        obtain ⟨y, hy⟩ := get_of_lt (l := rnds st (sched p 64) 64) (i := i) (by omega)
        rw [Int.toNat_natCast, Nat.mul_one]
        refine Req.bnd ⟨by omega, by omega⟩ (TCell.mk (uvs_at hx) (TInt.mk ?_))
        refine Req.bnd ⟨by omega, by omega⟩ (LoadC.ad (view_sub _ _ _) _ b9 (uvs_at (by rw [upto_ge (Nat.le_refl _) (by omega)]; exact hy)) (TInt.mk ?_))
        refine Req.bnd ⟨by omega, by omega⟩ (storeU b9 (by rw [upto_length hmx]; omega) fun w24 _ st24 b9 => ?_)
        replace S := S.go st24 (by decide) (by decide); replace b3 := st24.sub (by decide) _ _ b3
        rw [wrap_i64 (by omega) (by omega)]
        refine back _ (by omega) ⟨S, b3, ?_⟩
        rw [upto_set hmx (by unfold mixS; rw [List.getElem?_zipWith, hx, hy]; rfl)] at b9
        exact b9
      · have : i = 8 := by omega
        subst this
        rw [upto_full 8 (by omega) (by omega)] at b9
        have hm8 : (mixS st p).length = 8 := mixS_length hst p
        refine LoadA.all (view_sub _ _ _) b9 (by simp [hm8]) ?_
        refine RunU.var b3 (by rw [show (uvs (mixS st p)).toArray.size = 8 by simp [hm8]]; kernel_rfl) (by simp [hz, hm8]) (uvs_all _) fun w25 st25 b3 => ?_
        replace S := S.go st25.step (by decide) (by decide)
        refine LoadA.all (view_sub _ _ _) b3 (by simp [hm8]) ?_
        exact h _ _ (S.leave c j)
end Go.Proofs.YtpblhjgpfmmafaaDoor

/-
  What a node knows of itself, in sectors: what the functions do, each once.
-/
import Derived.Test.YtpblhjgpfmmafaaDoorSec1
set_option linter.unusedVariables false
set_option linter.unusedSimpArgs false
namespace Go.Proofs.YtpblhjgpfmmafaaDoor
open Go.Vc
attribute [local irreducible] TInt TBool TStr TPtr TSl TAgg TMap TChan T2 T3 T4 BS Req TSome TCell TByte LoadC LoadA StoreC AllocC RunV RunU CallV ExtV EqA StableC StableA StableV TCells ReadV
attribute [local irreducible] DrewC

theorem RefUnwrap_c (c : Nat → Nat) (j : Nat) {w : World} {v : Value} {l : List UInt8} {R : Value → World → Prop} (hr : RdS (wv w) v 1 l.length (bvs l))
    (h : ∀ v c' w', Step c [] [j] w c' w' → OwS (view c' j w') v 5 1 (unP l).1.length (bvs (unP l).1) → R (.tuple #[v, .int .i64 (unP l).2]) w') : CallV Tryd.prog 22 #[v] w R := by
  obtain ⟨o0, p0, rfl⟩ := hr.form
  have D : RdS (view (fun _ => 0) 0 w) (.slice o0 l.length p0) 1 l.length (bvs l) := by rw [view0]; exact hr
  have S := Fr.start w
  have nilA : ∀ {c' w'}, Fr w c' w' → ¬ okU l → AllocC w' (.cells #[] 5) fun a w3 => R (.tuple #[.slice (some ⟨a, 0, none⟩) 0 0, .int .i64 22]) w3 := fun {c' w'} S hn => by
    refine AllocC.col c' 6 fun x c3 w3 st3 b3 _ => ?_
    replace S := S.go st3.step (by decide) (by decide)
    have := h (.slice (some ⟨x, 0, none⟩) 0 0) _ _ (S.leave c j)
    rw [unP_no hn] at this
    exact this ((OwS.some_bytes b3).mono (S.out c j (by omega)))
  refine ref04_Unwrap_vc ?_
  unfold ref04_Unwrap_VC
  refine BS.ne (fun hne => nilA S fun hk => hne (by rw [hk.1]; rfl)) (fun heq => ?_)
  have hl : l.length = 512 := by omega
  obtain ⟨x0, x1, x2, r, rfl⟩ : ∃ x0 x1 x2 r, l = x0 :: x1 :: x2 :: r := by
    match l, hl with
    | x0 :: x1 :: x2 :: r, _ => exact ⟨x0, x1, x2, r, rfl⟩
  refine Req.bnd ⟨by omega, by omega⟩ (D.eltc (k := 0) (view_sub _ _ _) rfl (TInt.mk ?_))
  unfold ref04_Unwrap_K1
  refine BS.ne (fun hne => nilA S fun hk => hne ?_) (fun h66 => ?_)
  · have := hk.2.1
    have : x0 = 66 := by simpa using this
    subst this; rfl
  have hx0 : x0 = 66 := UInt8.toNat_inj.1 (by rw [show (66 : UInt8).toNat = 66 from rfl]; omega)
  refine DrewC.col (fun _ => 0) fun w2 st2 => ?_
  replace S := S.go st2 (by decide) (by decide); replace D := D.mono (st2.sub (by decide))
  refine Req.bnd ⟨by omega, by omega⟩ (D.eltc (k := 1) (view_sub _ _ _) rfl (TInt.mk ?_))
  refine Req.bnd ⟨by omega, by omega⟩ (D.eltc (k := 2) (view_sub _ _ _) rfl (TInt.mk ?_))
  have hx1 := x1.toNat_lt
  have hx2 := x2.toNat_lt
  have hn : lenW (x0 :: x1 :: x2 :: r) = x1.toNat * 256 + x2.toNat := by unfold lenW; simp [num]
  have e1 : IntKind.wrap .i64 (IntKind.wrap .i64 (256 * IntKind.wrap .i64 ((x1.toNat : Nat) : Int)) + IntKind.wrap .i64 ((x2.toNat : Nat) : Int)) = ((lenW (x0 :: x1 :: x2 :: r) : Nat) : Int) := by
    rw [hn, wrap_i64 (n := ((x1.toNat : Nat) : Int)) (by omega) (by omega), wrap_i64 (n := ((x2.toNat : Nat) : Int)) (by omega) (by omega), wrap_i64 (n := 256 * ((x1.toNat : Nat) : Int)) (by omega) (by omega), wrap_i64 (by omega) (by omega)]; omega
  rw [e1]
  generalize hLL : (x0 :: x1 :: x2 :: r : List UInt8) = L at *
  refine BS.dec (fun hbig => nilA S fun hk => by have := hk.2.2.1; omega) (fun hle => ?_)
  have e2 : IntKind.wrap .i64 (3 + ((lenW L : Nat) : Int)) = ((3 + lenW L : Nat) : Int) := by rw [wrap_i64 (by omega) (by omega)]; omega
  rw [e2]
  refine LoopI.from (3 + lenW L) 512 (by omega) (fun i w' => Fr w (fun _ => 0) w' ∧ RdS (view (fun _ => 0) 0 w') (.slice o0 L.length p0) 1 L.length (bvs L) ∧ ∀ k, 3 + lenW L ≤ k → k < i → L[k]? = some 0) rfl ⟨S, D, fun k h1 h2 => by omega⟩ ?_
  clear S D
  rintro i w4 B hi1 hi ⟨S, D, hz⟩ back
  refine BS.dec (fun hlt => ?_) (fun hge => ?_)
  · obtain ⟨y, hy⟩ := get_of_lt (l := L) (i := i) (by omega)
    refine Req.bnd ⟨by omega, by omega⟩ (D.elt (view_sub _ _ _) (by rw [bvs_get, hy]; rfl) (TInt.mk ?_))
    refine BS.ne (fun hne => nilA S fun hk => hne ?_) (fun h0 => ?_)
    · have := hk.2.2.2 i hi1 (by omega)
      rw [hy] at this
      have : y = 0 := by simpa using this
      subst this; rfl
    · have hy0 : y = 0 := UInt8.toNat_inj.1 (by rw [show (0 : UInt8).toNat = 0 from rfl]; omega)
      subst hy0
      rw [wrap_i64 (by omega) (by omega)]
      refine back _ (by omega) ⟨S, D, fun k h1 h2 => ?_⟩
      by_cases hk : k = i
      · rw [hk]; exact hy
      · exact hz k h1 (by omega)
  · have hok : okU L := ⟨hl, by rw [← hLL, hx0]; rfl, by omega, fun k h1 h2 => hz k h1 (by omega)⟩
    refine AllocC.col (fun _ => 0) 1 fun x c5 w5 st5 b5 _ => ?_
    replace S := S.go st5.step (by decide) (by decide); replace D := D.mono (st5.step.sub (by decide))
    have hcap := D.len.2.1
    refine Req.bndle ⟨by omega, by omega⟩ (Req.bndle ⟨by omega, by omega⟩ ?_)
    rw [Int.toNat_natCast]
    have hm := D.mid (k := 3) (m := lenW L) (by omega)
    rw [Nat.mul_one, Nat.mul_one, ← bvs_drop, ← bvs_take] at hm
    have htl : ((L.drop 3).take (lenW L)).length = lenW L := by rw [List.length_take, List.length_drop]; omega
    refine app_bytes slU8 (OwS.some_bytes b5) (m := (L.drop 3).take (lenW L)) (by rw [htl]; exact hm.mono (view_sub _ _ _)) (by simp; omega) fun o6 p6 c6 w6 st6 r6 => TSl.mk ?_
    replace S := S.go st6.step (by decide) (by decide)
    rw [List.nil_append] at r6 ⊢
    have := h (.slice o6 ((L.drop 3).take (lenW L)).length p6) _ _ (S.leave c j)
    rw [unP_yes hok] at this
    exact this (r6.mono (S.out c j (by omega)))

def fptrs (a : Addr) : List Value := [.pointer (some (a.add 0)), .pointer (some (a.add 1)), .pointer (some (a.add 2)), .pointer (some (a.add 3)), .pointer (some (a.add 4))]
theorem fptrs_get (a : Addr) {i : Nat} (h : i < 5) : (fptrs a)[i]? = some (.pointer (some (a.add i))) := by
  match i, h with
  | 0, _ => rfl
  | 1, _ => rfl
  | 2, _ => rfl
  | 3, _ => rfl
  | 4, _ => rfl
theorem fields_c (c : Nat → Nat) (j : Nat) {w : World} {a : Addr} {R : Value → World → Prop}
    (h : ∀ b c' w', Step c [] [j] w c' w' → view c' j w' b = some (.cells (fptrs a).toArray 78 (0, 0)) → R (.slice (some ⟨b, 0, none⟩) 5 5) w') : CallV Tryd.prog 41 #[.pointer (some a)] w R := by
  refine sector_fields_vc ?_
  unfold sector_fields_VC
  refine DrewC.col c fun w1 st1 => ?_
  refine AllocC.col c j fun b c2 w2 st2 b2 _ => h b c2 w2 ((st1.weak (by simp) (by simp)).trans st2.fresh) b2
theorem sup_cells_len {s : SupR} (h : s.ok) : s.cells.length = 37 := by unfold SupR.cells; simp [h.1, h.2.2]
theorem sup_get {s : SupR} (h : s.ok) {i : Nat} (hi : i < 5) : ∃ n, s.nums[i]? = some n ∧ s.cells.toArray[i]? = some (.int .u64 (n : Int)) ∧ n < 18446744073709551616 := by
  obtain ⟨n, hn⟩ := get_of_lt (l := s.nums) (i := i) (by rw [h.1]; exact hi)
  refine ⟨n, hn, ?_, h.2.1 n (List.mem_of_getElem? hn)⟩
  rw [List.getElem?_toArray]
  unfold SupR.cells
  rw [List.getElem?_append_left (by simp [h.1, hi])]
  simp [nvs, hn, nv]
theorem sup_head {s : SupR} (h : s.ok) (k : Nat) (u : Value) (hu : (bvs s.head)[k]? = some u) : s.cells.toArray[5 + k]? = some u := by
  rw [List.getElem?_toArray]
  unfold SupR.cells
  rw [List.getElem?_append_right (by simp [h.1]), nvs_length, h.1, Nat.add_sub_cancel_left]; exact hu
theorem sup_all (s : SupR) : s.cells.toArray.all (·.oneCell') = true := by
  rw [Array.all_eq_true']
  intro u hu
  simp only [SupR.cells, List.mem_toArray, List.mem_append] at hu
  rcases hu with hu | hu
  · obtain ⟨n, _, rfl⟩ := List.mem_map.1 hu; rfl
  · exact bvs_one _ u hu
theorem sup_size {s : SupR} (h : s.ok) : (Tryd.prog.info? 42).map (·.size) = some s.cells.toArray.size := by
  rw [show s.cells.toArray.size = 37 by simp [sup_cells_len h]]; kernel_rfl
theorem hdS_head {l : List UInt8} (h : 73 ≤ l.length) : (hdS l).1.length = 32 := by rw [hdS_eq h]; simp; omega
theorem dec_cells (l : List UInt8) : (decS l).cells = nvs ((List.range 5).map (vlS l)) ++ bvs (hdS l).1 := by
  unfold SupR.cells decS
  dsimp only
theorem take8_more {l : List Nat} {i n : Nat} (h : l[i]? = some n) : (l.take (i + 1)).flatMap b8 = (l.take i).flatMap b8 ++ b8 n := by
  rw [List.take_add_one, h, Option.toList_some, List.flatMap_append]; simp

theorem Super_c (c : Nat → Nat) (j : Nat) {w : World} {s : SupR} {R : Value → World → Prop} (hs : s.ok) (hG : GlobS (wv w))
    (h : ∀ v c' w', Step c [] [j] w c' w' → OwS (view c' j w') v 5 1 (supB s).length (bvs (supB s)) → R v w') : CallV Tryd.prog 23 #[.agg s.cells.toArray] w R := by
  have G : GlobS (view (fun _ => 0) 0 w) := by rw [view0]; exact hG
  have S := Fr.start w
  refine sector_Super_vc ?_
  unfold sector_Super_VC
  refine AllocC.col (fun _ => 0) 1 fun a1 c1 w1 st1 b1 _ => ?_
  replace S := S.go st1.step (by decide) (by decide); replace G := G.mono (st1.step.sub (by decide))
  refine AllocC.col c1 2 fun a2 c2 w2 st2 b2 _ => ?_
  replace S := S.go st2.step (by decide) (by decide); replace G := G.mono (st2.step.sub (by decide)); replace b1 := st2.step.sub (by decide) _ _ b1
  have P : PenV (view c2 2 w2) ⟨a2, 0, none⟩ [] := ⟨a2, _, rfl, b2, OwS.nil ..⟩
  refine AllocC.col c2 3 fun a3 c3 w3 st3 b3 _ => ?_
  replace S := S.go st3.step (by decide) (by decide); replace G := G.mono (st3.step.sub (by decide)); replace b1 := st3.step.sub (by decide) _ _ b1; replace P := P.mono (st3.step.sub (by decide))
  refine Pen_Raw P (ys := [83]) ((RdS.block (xs := bvs [83]) b3 rfl (Nat.le_refl _)).mono (view_sub _ _ _)) (by simp) fun c4 w4 st4 P => ?_
  replace S := S.go st4 (by decide) (by decide); replace G := G.mono (st4.sub (by decide)); replace b1 := st4.sub (by decide) _ _ b1
  refine fields_c c4 4 fun f c5 w5 st5 bF => TSl.mk ?_
  replace S := S.go st5 (by decide) (by decide); replace G := G.mono (st5.sub (by decide)); replace b1 := st5.sub (by decide) _ _ b1; replace P := P.mono (st5.sub (by decide))
  refine LoopI.up 5 (fun i w' => ∃ c', Fr w c' w' ∧ GlobS (view c' 0 w') ∧ view c' 1 w' a1 = some (.cells s.cells.toArray 42 (0, 0)) ∧ view c' 4 w' f = some (.cells (fptrs ⟨a1, 0, none⟩).toArray 78 (0, 0)) ∧ PenV (view c' 2 w') ⟨a2, 0, none⟩ (83 :: (s.nums.take i).flatMap b8))
    ⟨c5, S, G, b1, bF, P⟩ ?_
  clear S G b1 bF P
  rintro i w6 B hi ⟨c6, S, G, b1, bF, P⟩ back
  have hfl : ((s.nums.take i).flatMap b8).length ≤ 40 := by rw [flat8_len, List.length_take]; have := hs.1; omega
  refine BS.dec (fun hlt => ?_) (fun hge => ?_)
  · obtain ⟨n, hn, hc, hnb⟩ := sup_get hs (i := i) (by omega)
    refine Req.bnd ⟨by omega, by omega⟩ (TSome.mk ?_)
    rw [Int.toNat_natCast, Nat.mul_one]
    refine LoadC.ad (view_sub _ _ _) _ bF (by rw [List.getElem?_toArray]; exact fptrs_get _ (by omega)) (TPtr.mk (TSome.mk ?_))
    refine LoadC.ad (view_sub _ _ _) _ b1 hc (TInt.mk ?_)
    refine Pen_U P n 8 rfl rfl (by omega) (by omega) (by omega) (by rw [List.length_cons]; omega) fun c7 w7 st7 P => TInt.mk ?_
    replace S := S.go st7 (by decide) (by decide); replace G := G.mono (st7.sub (by decide)); replace b1 := st7.sub (by decide) _ _ b1; replace bF := st7.sub (by decide) _ _ bF
    rw [wrap_i64 (by omega) (by omega)]
    refine back _ (by omega) ⟨c7, S, G, b1, bF, ?_⟩
    rw [take8_more hn]; exact P
  · have : i = 5 := by omega
    subst this
    rw [List.take_of_length_le (by rw [hs.1]; omega)] at P
    have ra : RdS (view c6 1 w6) (.slice (slBase (some ((⟨a1, 0, none⟩ : Addr).add 5)) 32 0 1) 32 32) 1 32 (bvs s.head) := RdS.arr b1 (by simp [hs.2.2]) (sup_head hs)
    refine Pen_Raw P (ra.mono (view_sub _ _ _)) (by rw [List.length_cons, flat8_len, hs.1]; omega) fun c7 w7 st7 P => ?_
    replace S := S.go st7 (by decide) (by decide); replace G := G.mono (st7.sub (by decide))
    have hx := supX_len hs
    have ex : 83 :: s.nums.flatMap b8 ++ s.head = supX s := rfl
    rw [ex] at P
    refine Pen_Data 5 P (by omega) fun v8 c8 w8 st8 ho => ?_
    replace S := S.go st8 (by decide) (by decide); replace G := G.mono (st8.sub (by decide)); replace P := P.mono (st8.sub (by decide))
    obtain ⟨o8, p8, rfl⟩ := ho.form
    refine TSl.mk ?_
    refine Sha_c c8 6 (ho.rd.mono (view_sub _ _ _)) (G.mono (view_sub _ _ _)) (by omega) fun c9 w9 st9 => TAgg.mk ?_
    replace S := S.go st9 (by decide) (by decide); replace G := G.mono (st9.sub (by decide)); replace P := P.mono (st9.sub (by decide))
    refine AllocC.col c9 7 fun a6 c10 w10 st10 b6 _ => ?_
    replace S := S.go st10.step (by decide) (by decide); replace G := G.mono (st10.step.sub (by decide)); replace P := P.mono (st10.step.sub (by decide))
    have h32 : (bvs (shaB (supX s))).toArray.size = 32 := by simp
    refine RunU.var b6 (by rw [h32]; kernel_rfl) (by rw [h32]; rfl) (bvs_all _) fun w11 st11 b6 => ?_
    replace S := S.go st11.step (by decide) (by decide); replace G := G.mono (st11.step.sub (by decide)); replace P := P.mono (st11.step.sub (by decide))
    rw [slBase_whole]
    refine Pen_Raw P (m := 32) (ys := shaB (supX s)) ((RdS.block (xs := bvs (shaB (supX s))) b6 (by simp) (Nat.le_refl _)).mono (view_sub _ _ _)) (by omega) fun c12 w12 st12 P => ?_
    replace S := S.go st12 (by decide) (by decide); replace G := G.mono (st12.sub (by decide))
    refine full_c c12 5 (P.mono (view_sub _ _ _)) (by rw [List.length_append, shaB_length]; omega) fun v13 c13 w13 st13 ho => ?_
    replace S := S.go st13 (by decide) (by decide)
    obtain ⟨o13, p13, rfl⟩ := ho.form
    refine TSl.mk ?_
    exact h _ _ _ (S.leave c j) (ho.mono (S.out c j (by omega)))

set_option maxHeartbeats 1000000
theorem ReadSuper_c (c : Nat → Nat) (j : Nat) {w : World} {v : Value} {l : List UInt8} {R : Value → World → Prop} (hr : RdS (wv w) v 1 l.length (bvs l)) (hl : l.length ≤ 140737488355328) (hG : GlobS (wv w))
    (h : ∀ c' w', Step c [] [j] w c' w' → R (.tuple #[.agg (rdS l).1.cells.toArray, .int .i64 (rdS l).2]) w') : CallV Tryd.prog 24 #[v] w R := by
  obtain ⟨o0, p0, rfl⟩ := hr.form
  have G : GlobS (view (fun _ => 0) 0 w) := by rw [view0]; exact hG
  have D : RdS (view (fun _ => 0) 0 w) (.slice o0 l.length p0) 1 l.length (bvs l) := by rw [view0]; exact hr
  have S := Fr.start w
  refine sector_ReadSuper_vc ?_
  unfold sector_ReadSuper_VC
  refine AllocC.col (fun _ => 0) 1 fun a1 c1 w1 st1 b1 _ => ?_
  replace S := S.go st1.step (by decide) (by decide); replace G := G.mono (st1.step.sub (by decide)); replace D := D.mono (st1.step.sub (by decide))
  refine NewEye c1 2 (D.mono (view_sub _ _ _)) (by omega) fun a c2 w2 st2 he => TPtr.mk ?_
  replace S := S.go st2 (by decide) (by decide); replace G := G.mono (st2.sub (by decide)); replace D := D.mono (st2.sub (by decide)); replace b1 := st2.sub (by decide) _ _ b1
  refine Eye_U he 3 (by decide) (by omega) 1 rfl (by omega) (by omega) fun c3 w3 st3 he => ?_
  replace S := S.go st3 (by decide) (by decide); replace G := G.mono (st3.sub (by decide)); replace D := D.mono (st3.sub (by decide)); replace b1 := st3.sub (by decide) _ _ b1
  (repeat (first | refine TInt.mk ?_ | refine TBool.mk ?_ | refine TStr.mk ?_ | refine TSl.mk ?_ | refine TPtr.mk ?_ | refine TAgg.mk ?_ | refine T2.mk ?_ | refine T3.mk ?_ | refine TSome.mk ?_))
  refine fields_c c3 4 fun f c4 w4 st4 bF => TSl.mk ?_
  replace S := S.go st4 (by decide) (by decide); replace G := G.mono (st4.sub (by decide)); replace D := D.mono (st4.sub (by decide)); replace b1 := st4.sub (by decide) _ _ b1; replace he := he.mono (st4.sub (by decide))
  have hAB : ((List.range 5).map (vlS l)).length = (List.replicate 5 (0 : Nat)).length := by simp
  have hzero : ∀ {c' w'} {ws : List Value}, Fr w c' w' → view c' 1 w' a1 = some (.cells ws.toArray 42 (0, 0)) → ws.length = 37 → rdS l = (SupR.zero, 22) →
      RunU Tryd.prog (storeVar 42 ⟨a1, 0, none⟩ (.agg SupR.zero.cells.toArray)) w' fun w9 => LoadA w9 ⟨a1, 0, none⟩ 37 fun csR => R (.tuple #[.agg csR, .int .i64 22]) w9 := fun {c' w' ws} S b1 hw he => by
    refine RunU.var b1 (sup_size SupR.zero_ok) (by simp [hw, sup_cells_len SupR.zero_ok]) (sup_all _) fun w9 st9 b1 => ?_
    replace S := S.go st9.step (by decide) (by decide)
    refine LoadA.all (view_sub _ _ _) b1 (by simp [sup_cells_len SupR.zero_ok]) ?_
    have := h _ _ (S.leave c j)
    rw [he] at this
    exact this
  refine LoopI.up 5 (fun i w' => ∃ c', Fr w c' w' ∧ GlobS (view c' 0 w') ∧ RdS (view c' 0 w') (.slice o0 l.length p0) 1 l.length (bvs l) ∧ view c' 1 w' a1 = some (.cells (nvs (upto ((List.range 5).map (vlS l)) (List.replicate 5 (0 : Nat)) i) ++ (bvs (List.replicate 32 0))).toArray 42 (0, 0)) ∧ view c' 4 w' f = some (.cells (fptrs ⟨a1, 0, none⟩).toArray 78 (0, 0)) ∧
    EyeV (view c' 2 w') a (rsS l i) ∧ (rsS l i).length ≤ l.length) ⟨c4, S, G, D, by rw [upto_zero]; exact b1, bF, he, eU_len 1 l⟩ ?_
  clear S G D b1 bF he
  rintro i w6 B hi ⟨c6, S, G, D, b1, bF, he, hrl⟩ back
  have hul : (upto ((List.range 5).map (vlS l)) (List.replicate 5 (0 : Nat)) i).length = 5 := by rw [upto_length hAB]; simp
  refine BS.dec (fun hlt => ?_) (fun hge => ?_)
  · refine Req.bnd ⟨by omega, by omega⟩ (TSome.mk ?_)
    rw [Int.toNat_natCast, Nat.mul_one]
    refine LoadC.ad (view_sub _ _ _) _ bF (by rw [List.getElem?_toArray]; exact fptrs_get _ (by omega)) (TPtr.mk ?_)
    refine Eye_U he 3 (by decide) (by omega) 8 rfl (by omega) (by omega) fun c7 w7 st7 he => ?_
    replace S := S.go st7 (by decide) (by decide); replace G := G.mono (st7.sub (by decide)); replace D := D.mono (st7.sub (by decide)); replace b1 := st7.sub (by decide) _ _ b1; replace bF := st7.sub (by decide) _ _ bF
    (repeat (first | refine TInt.mk ?_ | refine TBool.mk ?_ | refine TStr.mk ?_ | refine TSl.mk ?_ | refine TPtr.mk ?_ | refine TAgg.mk ?_ | refine T2.mk ?_ | refine T3.mk ?_ | refine TSome.mk ?_))
    refine StoreC.ad b1 (by rw [List.size_toArray, List.length_append, nvs_length, hul]; omega) fun w8 _ st8 b1 => ?_
    replace S := S.go st8 (by decide) (by decide); replace G := G.mono (st8.sub (by decide)); replace D := D.mono (st8.sub (by decide)); replace bF := st8.sub (by decide) _ _ bF; replace he := he.mono (st8.sub (by decide))
    rw [wrap_i64 (by omega) (by omega)]
    have hrl2 := eU_len 8 (rsS l i)
    refine back _ (by omega) ⟨c7, S, G, D, ?_, bF, he, by simp only [rsS]; omega⟩
    rw [toArray_set, List.set_append_left _ _ (by rw [nvs_length, hul]; omega)] at b1
    have e : (nvs (upto ((List.range 5).map (vlS l)) (List.replicate 5 (0 : Nat)) i)).set i (.int .u64 (((eU 8 (rsS l i)).1 : Nat) : Int)) = nvs (upto ((List.range 5).map (vlS l)) (List.replicate 5 (0 : Nat)) (i + 1)) := by
      rw [← upto_set hAB (x := vlS l i) (by rw [List.getElem?_map, List.getElem?_range (by omega)]; rfl)]
      unfold nvs
      rw [List.map_set]; rfl
    rw [e] at b1
    exact b1
  · have : i = 5 := by omega
    subst this
    rw [upto_full 5 (by simp) (by simp)] at b1
    clear back
    refine Eye_R he 5 (by omega) 32 rfl fun v8 c8 w8 st8 he r8 => ?_
    replace S := S.go st8 (by decide) (by decide); replace G := G.mono (st8.sub (by decide)); replace D := D.mono (st8.sub (by decide)); replace b1 := st8.sub (by decide) _ _ b1
    have er : eR 32 (rsS l 5) = hdS l := rfl
    rw [er] at r8 he
    rw [er]
    obtain ⟨o8, p8, rfl⟩ := r8.form
    (repeat (first | refine TInt.mk ?_ | refine TBool.mk ?_ | refine TStr.mk ?_ | refine TSl.mk ?_ | refine TPtr.mk ?_ | refine TAgg.mk ?_ | refine T2.mk ?_ | refine T3.mk ?_ | refine TSome.mk ?_))
    refine BS.ne (fun hne => hzero S b1 (by simp) ?_) (fun h0 => ?_)
    · unfold rdS; rw [if_neg (fun hh => hne hh.1)]
    have h73 := hdS_long h0
    have hdok := decS_ok h73
    have hh32 : (hdS l).1.length = 32 := hdS_head h73
    refine copy_arr (e := 5) Tryd.underlying22 (by kernel_rfl) b1 (by simp) (r8.rd.mono (view_sub _ _ _)) (by omega) (bvs_one _) fun w9 _ st9 b1 => TInt.mk ?_
    replace S := S.go st9 (by decide) (by decide); replace G := G.mono (st9.sub (by decide)); replace D := D.mono (st9.sub (by decide))
    have ec : (nvs ((List.range 5).map (vlS l)) ++ (bvs (List.replicate 32 0))).take 5 ++ bvs (hdS l).1 ++ (nvs ((List.range 5).map (vlS l)) ++ (bvs (List.replicate 32 0))).drop (5 + (hdS l).1.length) = (decS l).cells := by
      have e5 : (nvs ((List.range 5).map (vlS l))).length = 5 := by simp
      rw [hh32, List.drop_eq_nil_of_le (by simp), List.append_nil, List.take_append_of_le_length (by omega), List.take_of_length_le (by omega), dec_cells]
    rw [ec] at b1
    refine LoadA.all (view_sub _ _ _) b1 (by simp [sup_cells_len hdok]) ?_
    refine Super_c c8 6 hdok (G.mono (view_sub _ _ _)) fun v10 c10 w10 st10 r10 => ?_
    replace S := S.go st10 (by decide) (by decide); replace G := G.mono (st10.sub (by decide)); replace D := D.mono (st10.sub (by decide)); replace b1 := st10.sub (by decide) _ _ b1
    obtain ⟨o10, p10, rfl⟩ := r10.form
    (repeat (first | refine TInt.mk ?_ | refine TBool.mk ?_ | refine TStr.mk ?_ | refine TSl.mk ?_ | refine TPtr.mk ?_ | refine TAgg.mk ?_ | refine T2.mk ?_ | refine T3.mk ?_ | refine TSome.mk ?_))
    refine Equal_bytes c10 (r10.rd.mono (view_sub _ _ _)) (D.mono (view_sub _ _ _)) (by rw [supB_len hdok]; omega) fun w11 st11 => TBool.mk ?_
    replace S := S.go st11 (by decide) (by decide); replace b1 := st11.sub (by decide) _ _ b1
    by_cases heq : supB (decS l) = l
    · rw [decide_eq_true heq]
      refine BS.no rfl ?_
      refine LoadA.all (view_sub _ _ _) b1 (by simp [sup_cells_len hdok]) ?_
      refine RunU.var b1 (sup_size hdok) rfl (sup_all _) fun w12 st12 b1 => ?_
      replace S := S.go st12.step (by decide) (by decide)
      refine LoadA.all (view_sub _ _ _) b1 (by simp [sup_cells_len hdok]) ?_
      have := h _ _ (S.leave c j)
      have e : rdS l = (decS l, 0) := by unfold rdS; rw [if_pos ⟨h0, heq⟩]
      rw [e] at this
      exact this
    · rw [decide_eq_false heq]
      refine BS.yes rfl (hzero S b1 (sup_cells_len hdok) ?_)
      unfold rdS; rw [if_neg (fun hh => heq hh.2)]
end Go.Proofs.YtpblhjgpfmmafaaDoor

/-
  What a node knows of itself, in sectors: the document's functions, and structs compared.
-/
import Derived.Test.YtpblhjgpfmmafaaDoorSec2
set_option linter.unusedVariables false
set_option linter.unusedSimpArgs false
namespace Go.Vc
open Go
/-- structs, field by field -/
theorem run_eqFields_all {P : Program} (d : Nat) (xs ys : Array Value) (w : World) (r : TypeId → Nat → Bool) : ∀ fs : List Field, (∀ f ∈ fs, f.name ≠ "_" ∧ ∃ a b, (part f.type xs f.offset).run P w = .ok a w ∧ (part f.type ys f.offset).run P w = .ok b w ∧ (Op.equalIn d f.type a b).run P w = .ok (r f.type f.offset) w) →
    (Op.eqFields d xs ys fs).run P w = .ok (fs.all fun f => r f.type f.offset) w
  | [], _ => by simp [Op.eqFields]
  | f :: fs, h => by
    obtain ⟨h1, a, b, h2, h3, h4⟩ := h f (by simp)
    have ih := run_eqFields_all d xs ys w r fs (fun g hg => h g (by simp [hg]))
    unfold Op.eqFields
    rw [if_pos h1]
    simp only [Sem.run_bind, h2, h3, h4, Result.andThen_ok]
    cases hr : r f.type f.offset
    · simp [hr]
    · simp [hr, ih]
end Go.Vc
namespace Go.Proofs.YtpblhjgpfmmafaaDoor
open Go.Vc
attribute [local irreducible] TInt TBool TStr TPtr TSl TAgg TMap TChan T2 T3 T4 BS Req TSome TCell TByte LoadC LoadA StoreC AllocC RunV RunU CallV ExtV EqA StableC StableA StableV TCells ReadV
attribute [local irreducible] DrewC

theorem sup_flds : ((Tryd.prog.fieldsOf 42).toList.map fun f => (f.name != "_", f.type, f.offset)) = [(true, 40, 0), (true, 40, 1), (true, 40, 2), (true, 40, 3), (true, 40, 4), (true, 25, 5)] := by kernel_rfl
theorem run_sup_eq {s t : SupR} (hs : s.ok) (ht : t.ok) (w : World) : (Op.equalIn 10000 42 (.agg s.cells.toArray) (.agg t.cells.toArray)).run Tryd.prog w = .ok (decide (s = t)) w := by
  rw [run_equalIn_struct w 9999 42 _ _ (by kernel_rfl) (by kernel_rfl)]
  rw [run_eqFields_all 9999 s.cells.toArray t.cells.toArray w (fun ty off => if ty = 40 then s.nums[off]? == t.nums[off]? else decide (s.head = t.head))]
  · congr 1
    have e : ((Tryd.prog.fieldsOf 42).toList.all fun f => if f.type = 40 then s.nums[f.offset]? == t.nums[f.offset]? else decide (s.head = t.head)) =
        (((Tryd.prog.fieldsOf 42).toList.map fun f => (f.name != "_", f.type, f.offset)).all fun x => if x.2.1 = 40 then s.nums[x.2.2]? == t.nums[x.2.2]? else decide (s.head = t.head)) := by
      rw [List.all_map]; rfl
    rw [e, sup_flds]
    obtain ⟨a, b, c, d, f, hn⟩ := SupR.five hs
    obtain ⟨a', b', c', d', f', hn'⟩ := SupR.five ht
    obtain ⟨ns, hd⟩ := s
    obtain ⟨ns', hd'⟩ := t
    simp only at hn hn'
    subst hn; subst hn'
    rw [Bool.eq_iff_iff]
    simp [and_assoc]
  · intro f hf
    have hm : (f.name != "_", f.type, f.offset) ∈ ((Tryd.prog.fieldsOf 42).toList.map fun f => (f.name != "_", f.type, f.offset)) := List.mem_map_of_mem hf
    rw [sup_flds] at hm
    have num : ∀ i, i < 5 → (true, 40, i) = (f.name != "_", f.type, f.offset) → f.name ≠ "_" ∧ ∃ a b, (part f.type s.cells.toArray f.offset).run Tryd.prog w = .ok a w ∧ (part f.type t.cells.toArray f.offset).run Tryd.prog w = .ok b w ∧ (Op.equalIn 9999 f.type a b).run Tryd.prog w = .ok (if f.type = 40 then s.nums[f.offset]? == t.nums[f.offset]? else decide (s.head = t.head)) w := by
      intro i hi e
      simp only [Prod.mk.injEq] at e
      obtain ⟨e1, e2, e3⟩ := e
      obtain ⟨n, hn, hc, _⟩ := sup_get hs (i := i) hi
      obtain ⟨m, hm, hc2, _⟩ := sup_get ht (i := i) hi
      refine ⟨by simpa using e1.symm, .int .u64 n, .int .u64 m, ?_, ?_, ?_⟩
      · rw [← e2, ← e3]; simp [part, isAgg, run_underlying Tryd.underlying40, hc]
      · rw [← e2, ← e3]; simp [part, isAgg, run_underlying Tryd.underlying40, hc2]
      · rw [← e2, ← e3, run_equalIn_int w 9998 40 .u64 .u64 _ _ Tryd.underlying40, if_pos rfl, hn, hm]
        congr 1
        rw [Bool.eq_iff_iff]; simp; omega
    simp only [List.mem_cons, List.not_mem_nil, or_false] at hm
    rcases hm with hm | hm | hm | hm | hm | hm
    · exact num 0 (by decide) hm.symm
    · exact num 1 (by decide) hm.symm
    · exact num 2 (by decide) hm.symm
    · exact num 3 (by decide) hm.symm
    · exact num 4 (by decide) hm.symm
    · simp only [Prod.mk.injEq] at hm
      obtain ⟨e1, e2, e3⟩ := hm
      obtain ⟨i, hi, hsz⟩ : ∃ i, Tryd.prog.info? 25 = some i ∧ i.size = 32 := by
        have : (Tryd.prog.info? 25).map (·.size) = some 32 := by kernel_rfl
        cases h : Tryd.prog.info? 25 with
        | none => rw [h] at this; simp at this
        | some i => rw [h] at this; exact ⟨i, rfl, by simpa using this⟩
      have hcz : Tryd.prog.cellsOf 25 = 32 := by kernel_rfl
      have cut : ∀ {u : SupR}, u.ok → u.cells.toArray.extract 5 (5 + 32) = (bvs u.head).toArray := fun {u} hu => by
        apply Array.ext'
        unfold SupR.cells
        have : (nvs u.nums).length = 5 := by simp [hu.1]
        have h2 : (bvs u.head).length = 32 := by simp [hu.2.2]
        simp [List.drop_append, hu.1, List.take_of_length_le, h2, hu.2.2]
      refine ⟨by simpa using e1, .agg (bvs s.head).toArray, .agg (bvs t.head).toArray, ?_, ?_, ?_⟩
      · rw [e2, e3]; simp only [part, isAgg, run_underlying Tryd.underlying25, Sem.run_bind, Result.andThen_ok, Sem.run_pure, if_true, run_sizeOf w hi, hcz, cut hs]
      · rw [e2, e3]; simp only [part, isAgg, run_underlying Tryd.underlying25, Sem.run_bind, Result.andThen_ok, Sem.run_pure, if_true, run_sizeOf w hi, hcz, cut ht]
      · rw [e2, run_equal_bytes arrH 9997 s.head t.head hs.2.2 ht.2.2 w, if_neg (by decide)]
theorem EqA.sup {s t : SupR} (hs : s.ok) (ht : t.ok) {x y : Operand} {C : Bool → Prop} (h : C (decide (s = t))) : EqA Tryd.prog .eql 42 x y (.agg s.cells.toArray) (.agg t.cells.toArray) C := by
  unfold EqA
  refine ⟨decide (s = t), fun w => ?_, h⟩
  simp only [Sem.run_bind, run_eqGuard_agg (P := Tryd.prog) w .eql 42 x y _ _ (by kernel_rfl), Result.andThen_ok, run_eql_struct, run_sup_eq hs ht]

theorem sup_at {s : SupR} (h : s.ok) {i n : Nat} (hn : s.nums[i]? = some n) : s.cells.toArray[i]? = some (.int .u64 (n : Int)) := by
  have hi := (List.getElem?_eq_some_iff.1 hn).1
  rw [List.getElem?_toArray]
  unfold SupR.cells
  rw [List.getElem?_append_left (by simpa using hi)]
  simp [nvs, hn, nv]
theorem RefSuper_c (c : Nat → Nat) (j : Nat) {w : World} {s : SupR} {R : Value → World → Prop} (hs : s.ok)
    (h : ∀ v c' w', Step c [] [j] w c' w' → OwS (view c' j w') v 5 1 (supB s).length (bvs (supB s)) → R v w') : CallV Tryd.prog 26 #[.agg s.cells.toArray] w R := by
  have S := Fr.start w
  refine ref04_Super_vc ?_
  unfold ref04_Super_VC
  refine AllocC.col (fun _ => 0) 1 fun a1 c1 w1 st1 b1 _ => ?_
  replace S := S.go st1.step (by decide) (by decide)
  refine AllocC.col c1 2 fun a9 c2 w2 st2 b2 _ => ?_
  replace S := S.go st2.step (by decide) (by decide); replace b1 := st2.step.sub (by decide) _ _ b1
  obtain ⟨n0, n1, n2, n3, n4, hn⟩ := SupR.five hs
  refine LoadC.ad (view_sub _ _ _) _ b1 (sup_at hs (n := n0) (by rw [hn]; rfl)) (TInt.mk ?_)
  refine LoadC.ad (view_sub _ _ _) _ b1 (sup_at hs (n := n1) (by rw [hn]; rfl)) (TInt.mk ?_)
  refine LoadC.ad (view_sub _ _ _) _ b1 (sup_at hs (n := n2) (by rw [hn]; rfl)) (TInt.mk ?_)
  refine LoadC.ad (view_sub _ _ _) _ b1 (sup_at hs (n := n3) (by rw [hn]; rfl)) (TInt.mk ?_)
  refine LoadC.ad (view_sub _ _ _) _ b1 (sup_at hs (n := n4) (by rw [hn]; rfl)) (TInt.mk ?_)
  refine AllocC.col c2 3 fun a4 c3 w3 st3 b3 _ => ?_
  replace S := S.go st3.step (by decide) (by decide); replace b1 := st3.step.sub (by decide) _ _ b1; replace b2 := st3.step.sub (by decide) _ _ b2
  refine RunU.var b3 (by kernel_rfl) rfl (by simp [Value.oneCell']) fun w4 st4 b3 => ?_
  replace S := S.go st4.step (by decide) (by decide); replace b1 := st4.step.sub (by decide) _ _ b1; replace b2 := st4.step.sub (by decide) _ _ b2
  have e3 : (#[.int .u64 n0, .int .u64 n1, .int .u64 n2, .int .u64 n3, .int .u64 n4] : Array Value) = (nvs s.nums).toArray := by rw [hn]; rfl
  rw [e3] at b3
  refine LoopSI.up 5 (fun i o l p w' => ∃ c', Fr w c' w' ∧ view c' 1 w' a1 = some (.cells s.cells.toArray 42 (0, 0)) ∧ view c' 3 w' a4 = some (.cells (nvs s.nums).toArray 81 (0, 0)) ∧ OwS (view c' 2 w') (.slice o l p) 5 1 (83 :: (s.nums.take i).flatMap b8).length (bvs (83 :: (s.nums.take i).flatMap b8)))
    ⟨c3, S, b1, b3, OwS.lit b2 [83] rfl rfl (by simp [maxLen])⟩ ?_
  clear S b1 b2 b3
  rintro i o l p w6 B hi ⟨c6, S, b1, b3, ho⟩ back
  have hle := ho.len.1
  subst hle
  have hfl : ((s.nums.take i).flatMap b8).length ≤ 40 := by rw [flat8_len, List.length_take]; have := hs.1; omega
  refine BS.dec (fun hlt => ?_) (fun hge => ?_)
  · obtain ⟨n, hn, hc, hnb⟩ := sup_get hs (i := i) (by omega)
    refine Req.bnd ⟨by omega, by omega⟩ ?_
    rw [Int.toNat_natCast, Nat.mul_one]
    refine LoadC.ad (view_sub _ _ _) (.int .u64 (n : Int)) b3 (by rw [List.getElem?_toArray]; simp [nvs, hn, nv]) (TInt.mk ?_)
    refine ref_Uint c6 4 hnb (fun hb => absurd ⟨by omega, by omega, by show n < 256 ^ 8; omega⟩ hb) fun _ v7 c7 w7 st7 r7 => ?_
    replace S := S.go st7 (by decide) (by decide); replace b1 := st7.sub (by decide) _ _ b1; replace b3 := st7.sub (by decide) _ _ b3
    replace ho := ho.mono (st7.sub (by decide))
    obtain ⟨o7, p7, rfl⟩ := r7.form
    (repeat (first | refine TInt.mk ?_ | refine TBool.mk ?_ | refine TStr.mk ?_ | refine TSl.mk ?_ | refine TPtr.mk ?_ | refine TAgg.mk ?_ | refine T2.mk ?_ | refine T3.mk ?_ | refine TSome.mk ?_))
    have e8 : be n (Int.toNat 8) = b8 n := rfl
    rw [e8] at r7
    refine app_bytes slU8 ho (m := b8 n) (by rw [show (b8 n).length = 8 from be_length ..]; exact r7.rd.mono (view_sub _ _ _)) (by rw [show (b8 n).length = 8 from be_length .., List.length_cons]; omega) fun o8 p8 c8 w8 st8 ho => TSl.mk ?_
    replace S := S.go st8.step (by decide) (by decide); replace b1 := st8.step.sub (by decide) _ _ b1; replace b3 := st8.step.sub (by decide) _ _ b3
    rw [wrap_i64 (by omega) (by omega)]
    have ex : 83 :: (s.nums.take i).flatMap b8 ++ b8 n = 83 :: (s.nums.take (i + 1)).flatMap b8 := by rw [take8_more hn]; rfl
    rw [ex] at ho ⊢
    exact back _ _ _ _ (by omega) ⟨c8, S, b1, b3, ho⟩
  · have : i = 5 := by omega
    subst this
    have ra : RdS (view c6 1 w6) (.slice (slBase (some ((⟨a1, 0, none⟩ : Addr).add 5)) 32 0 1) 32 32) 1 s.head.length (bvs s.head) := by rw [hs.2.2]; exact RdS.arr b1 (by simp [hs.2.2]) (sup_head hs)
    refine app_bytes slU8 ho (ra.mono (view_sub _ _ _)) (by rw [List.length_cons, hs.2.2]; omega) fun o7 p7 c7 w7 st7 ho => TSl.mk ?_
    replace S := S.go st7.step (by decide) (by decide)
    have ex : 83 :: (s.nums.take 5).flatMap b8 ++ s.head = supX s := by rw [List.take_of_length_le (by rw [hs.1]; omega)]; rfl
    rw [ex] at ho ⊢
    have hx := supX_len hs
    refine Ref_Sha_c c7 6 (ho.rd.mono (view_sub _ _ _)) (by omega) fun c9 w9 st9 => TAgg.mk ?_
    replace S := S.go st9 (by decide) (by decide)
    replace ho := ho.mono (st9.sub (by decide))
    refine AllocC.col c9 7 fun a8 c10 w10 st10 b10 _ => ?_
    replace S := S.go st10.step (by decide) (by decide)
    replace ho := ho.mono (st10.step.sub (by decide))
    have h32 : (bvs (shaB (supX s))).toArray.size = 32 := by simp
    refine RunU.var b10 (by rw [h32]; kernel_rfl) (by rw [h32]; rfl) (bvs_all _) fun w11 st11 b10 => ?_
    replace S := S.go st11.step (by decide) (by decide)
    replace ho := ho.mono (st11.step.sub (by decide))
    rw [slBase_whole]
    refine app_bytes slU8 ho (m := shaB (supX s)) (by rw [shaB_length]; exact (RdS.block (xs := bvs (shaB (supX s))) b10 (by simp) (Nat.le_refl _)).mono (view_sub _ _ _)) (by rw [shaB_length]; omega) fun o12 p12 c12 w12 st12 ho => TSl.mk ?_
    replace S := S.go st12.step (by decide) (by decide)
    refine RefPad_c c12 5 (ho.rd.mono (view_sub _ _ _)) (by rw [List.length_append, shaB_length]; omega) fun v13 c13 w13 st13 ho => ?_
    replace S := S.go st13 (by decide) (by decide)
    obtain ⟨o13, p13, rfl⟩ := ho.form
    refine TSl.mk ?_
    exact h _ _ _ (S.leave c j) (ho.mono (S.out c j (by omega)))

theorem number_c {w : World} {v : Value} {l : List UInt8} (i : Nat) {n : Int} {R : Value → World → Prop} (hr : RdS (wv w) v 1 l.length (bvs l)) (hl : l.length = 512) (hi : i < 5) (hni : n = i) (h : R (.int .u64 (vlS l i : Nat)) w) :
    CallV Tryd.prog 43 #[v, .int .i64 n] w R := by
  subst hni
  obtain ⟨o0, p0, rfl⟩ := hr.form
  refine ref04_number_vc ?_
  unfold ref04_number_VC
  have hcap := hr.len.2.1
  have e1 : IntKind.wrap .i64 (9 + IntKind.wrap .i64 (8 * (i : Int))) = ((1 + 8 * i + 8 : Nat) : Int) := by rw [wrap_i64 (n := 8 * (i : Int)) (by omega) (by omega), wrap_i64 (by omega) (by omega)]; omega
  have e2 : IntKind.wrap .i64 (1 + IntKind.wrap .i64 (8 * (i : Int))) = ((1 + 8 * i : Nat) : Int) := by rw [wrap_i64 (n := 8 * (i : Int)) (by omega) (by omega), wrap_i64 (by omega) (by omega)]; omega
  rw [e1, e2]
  refine Req.bndle ⟨by omega, by omega⟩ (Req.bndle ⟨by omega, by omega⟩ ?_)
  rw [Int.toNat_natCast, Int.toNat_natCast]
  have hm := hr.mid (k := 1 + 8 * i) (m := 8) (by omega)
  rw [Nat.mul_one, Nat.mul_one, ← bvs_drop, ← bvs_take] at hm
  have h8 : ((l.drop (1 + 8 * i)).take 8).length = 8 := by rw [List.length_take, List.length_drop]; omega
  refine ref_Number (l := (l.drop (1 + 8 * i)).take 8) (by rw [h8]; exact hm) (by omega) (TInt.mk ?_)
  rw [vlS_eq (by omega) hi] at h
  exact h

theorem RefReadSuper_c (c : Nat → Nat) (j : Nat) {w : World} {v : Value} {l : List UInt8} {R : Value → World → Prop} (hr : RdS (wv w) v 1 l.length (bvs l))
    (h : ∀ c' w', Step c [] [j] w c' w' → R (.tuple #[.agg (rdS l).1.cells.toArray, .int .i64 (rdS l).2]) w') : CallV Tryd.prog 25 #[v] w R := by
  obtain ⟨o0, p0, rfl⟩ := hr.form
  have D : RdS (view (fun _ => 0) 0 w) (.slice o0 l.length p0) 1 l.length (bvs l) := by rw [view0]; exact hr
  have S := Fr.start w
  refine ref04_ReadSuper_vc ?_
  unfold ref04_ReadSuper_VC
  refine AllocC.col (fun _ => 0) 1 fun a1 c1 w1 st1 b1 _ => ?_
  replace S := S.go st1.step (by decide) (by decide); replace D := D.mono (st1.step.sub (by decide))
  replace b1 : view c1 1 w1 a1 = some (.cells SupR.zero.cells.toArray 42 (0, 0)) := b1
  have hzero : ∀ {c' w'}, Fr w c' w' → view c' 1 w' a1 = some (.cells SupR.zero.cells.toArray 42 (0, 0)) → ¬ okS l →
      RunU Tryd.prog (storeVar 42 ⟨a1, 0, none⟩ (.agg SupR.zero.cells.toArray)) w' fun w9 => LoadA w9 ⟨a1, 0, none⟩ 37 fun csR => R (.tuple #[.agg csR, .int .i64 22]) w9 := fun {c' w'} S b1 he => by
    refine RunU.var b1 (sup_size SupR.zero_ok) rfl (sup_all _) fun w9 st9 b1 => ?_
    replace S := S.go st9.step (by decide) (by decide)
    refine LoadA.all (view_sub _ _ _) b1 (by simp [sup_cells_len SupR.zero_ok]) ?_
    have := h _ _ (S.leave c j)
    rw [rdS_no he] at this
    exact this
  refine BS.ne (fun hne => ?_) (fun heq => ?_)
  · unfold ref04_ReadSuper_K1
    exact BS.yes rfl (hzero S b1 fun hk => hne (by rw [hk.1]; rfl))
  have hl : l.length = 512 := by omega
  obtain ⟨x0, hx0⟩ := get_of_lt (l := l) (i := 0) (by omega)
  refine Req.bnd ⟨by omega, by omega⟩ (D.eltc (k := 0) (view_sub _ _ _) (by rw [bvs_get, hx0]; rfl) (TInt.mk ?_))
  unfold ref04_ReadSuper_K1
  refine BS.ne (fun hne => hzero S b1 fun hk => hne ?_) (fun h83 => ?_)
  · have := hk.2.1
    rw [hx0] at this
    have : x0 = 83 := by simpa using this
    subst this; rfl
  have hx83 : x0 = 83 := UInt8.toNat_inj.1 (by rw [show (83 : UInt8).toNat = 83 from rfl]; omega)
  subst hx83
  have hcap := D.len.2.1
  refine Req.bndle ⟨by omega, by omega⟩ ?_
  have ht := D.take (k := 73) (by omega)
  rw [Nat.mul_one, ← bvs_take] at ht
  have h73 : (l.take 73).length = 73 := by rw [List.length_take]; omega
  refine Ref_Sha_c c1 2 (l := l.take 73) (by rw [h73]; exact ht.mono (view_sub _ _ _)) (by omega) fun c2 w2 st2 => TAgg.mk ?_
  replace S := S.go st2 (by decide) (by decide); replace D := D.mono (st2.sub (by decide)); replace b1 := st2.sub (by decide) _ _ b1
  refine AllocC.col c2 3 fun a4 c3 w3 st3 b3 _ => ?_
  replace S := S.go st3.step (by decide) (by decide); replace D := D.mono (st3.step.sub (by decide)); replace b1 := st3.step.sub (by decide) _ _ b1
  have h32 : (bvs (shaB (l.take 73))).toArray.size = 32 := by simp
  refine RunU.var b3 (by rw [h32]; kernel_rfl) (by rw [h32]; rfl) (bvs_all _) fun w4 st4 b3 => ?_
  replace S := S.go st4.step (by decide) (by decide); replace D := D.mono (st4.step.sub (by decide)); replace b1 := st4.step.sub (by decide) _ _ b1
  refine LoopI.up 439 (fun i w' => Fr w c3 w' ∧ RdS (view c3 0 w') (.slice o0 l.length p0) 1 l.length (bvs l) ∧ view c3 1 w' a1 = some (.cells SupR.zero.cells.toArray 42 (0, 0)) ∧ view c3 3 w' a4 = some (.cells (bvs (shaB (l.take 73))).toArray 25 (0, 0)) ∧
    (∀ k, k < i → k < 32 → l[73 + k]? = (shaB (l.take 73))[k]?) ∧ ∀ k, k < i → 32 ≤ k → l[73 + k]? = some 0) ⟨S, D, b1, b3, fun k h1 => by omega, fun k h1 => by omega⟩ ?_
  clear S D b1 b3 ht
  rintro i w5 B hi ⟨S, D, b1, b3, hz1, hz2⟩ back
  refine BS.dec (fun hlt => ?_) (fun hge => ?_)
  · refine DrewC.col c3 fun w6 st6 => ?_
    replace S := S.go st6 (by decide) (by decide); replace D := D.mono (st6.sub (by decide)); replace b1 := st6.sub (by decide) _ _ b1; replace b3 := st6.sub (by decide) _ _ b3
    obtain ⟨y, hy⟩ := get_of_lt (l := l) (i := 73 + i) (by omega)
    have e1 : IntKind.wrap .i64 (73 + (i : Int)) = ((73 + i : Nat) : Int) := by rw [wrap_i64 (by omega) (by omega)]; omega
    rw [e1, wrap_i64 (n := (i : Int) + 1) (by omega) (by omega)]
    refine BS.dec (fun h32 => ?_) (fun h32 => ?_)
    · refine Req.bnd ⟨by omega, by omega⟩ (D.elt (view_sub _ _ _) (by rw [bvs_get, hy]; rfl) (TInt.mk ?_))
      obtain ⟨z, hz⟩ := get_of_lt (l := shaB (l.take 73)) (i := i) (by rw [shaB_length]; omega)
      refine Req.bnd ⟨by omega, by omega⟩ ?_
      rw [Int.toNat_natCast, Nat.mul_one]
      refine LoadC.ad (view_sub _ _ _) (.int .u8 (z.toNat : Int)) b3 (by rw [List.getElem?_toArray, bvs_get, hz]; rfl) (TInt.mk ?_)
      refine BS.ne (fun hne => ?_) (fun heq => ?_)
      · unfold ref04_ReadSuper_K2
        refine BS.yes rfl (hzero S b1 fun hk => hne ?_)
        have := hk.2.2.1 i (by omega)
        rw [hy, hz] at this
        simp at this; rw [this]
      · refine BS.dec (fun h => by omega) (fun _ => ?_)
        refine back _ (by omega) ⟨S, D, b1, b3, fun k h1 h2 => ?_, fun k h1 h2 => hz2 k (by omega) h2⟩
        by_cases hk : k = i
        · subst hk
          rw [hy, hz, show y = z from UInt8.toNat_inj.1 (by omega)]
        · exact hz1 k (by omega) h2
    · refine BS.dec (fun _ => ?_) (fun h => by omega)
      refine Req.bnd ⟨by omega, by omega⟩ (D.elt (view_sub _ _ _) (by rw [bvs_get, hy]; rfl) (TInt.mk ?_))
      unfold ref04_ReadSuper_K2
      rw [wrap_i64 (n := (i : Int) + 1) (by omega) (by omega)]
      refine BS.ne (fun hne => hzero S b1 fun hk => hne ?_) (fun h0 => ?_)
      · have := hk.2.2.2 i (by omega) (by omega)
        rw [hy] at this
        have : y = 0 := by simpa using this
        subst this; rfl
      · refine back _ (by omega) ⟨S, D, b1, b3, fun k h1 h2 => hz1 k (by omega) h2, fun k h1 h2 => ?_⟩
        by_cases hk : k = i
        · subst hk
          rw [hy, show y = 0 from UInt8.toNat_inj.1 (by rw [show (0 : UInt8).toNat = 0 from rfl]; omega)]
        · exact hz2 k (by omega) h2
  · have hok : okS l := ⟨hl, hx0, fun k hk => hz1 k (by omega) hk, fun k h1 h2 => hz2 k (by omega) h1⟩
    clear hz1 hz2 back
    have h73l : 73 ≤ l.length := by omega
    have hdok := decS_ok h73l
    have Dw := D.mono (view_sub _ _ _)
    refine number_c 0 Dw hl (by decide) rfl (TInt.mk ?_)
    refine number_c 1 Dw hl (by decide) rfl (TInt.mk ?_)
    refine number_c 2 Dw hl (by decide) rfl (TInt.mk ?_)
    refine number_c 3 Dw hl (by decide) rfl (TInt.mk ?_)
    refine number_c 4 Dw hl (by decide) rfl (TInt.mk ?_)
    refine AllocC.col c3 4 fun a6 c6 w6 st6 b6 _ => ?_
    replace S := S.go st6.step (by decide) (by decide); replace D := D.mono (st6.step.sub (by decide)); replace b1 := st6.step.sub (by decide) _ _ b1
    replace b6 : view c6 4 w6 a6 = some (.cells SupR.zero.cells.toArray 42 (0, 0)) := b6
    have hz32 : (nvs ((List.range 5).map (vlS l)) ++ bvs (List.replicate 32 (0 : UInt8))).toArray.size = 37 := by simp
    refine RunU.var (cells := (nvs ((List.range 5).map (vlS l)) ++ bvs (List.replicate 32 (0 : UInt8))).toArray) b6 (by rw [hz32]; kernel_rfl) (by rw [hz32]; rfl) (sup_all ⟨((List.range 5).map (vlS l)), (List.replicate 32 (0 : UInt8))⟩) fun w7 st7 b6 => ?_
    replace S := S.go st7.step (by decide) (by decide); replace D := D.mono (st7.step.sub (by decide)); replace b1 := st7.step.sub (by decide) _ _ b1
    have hAB : (hdS l).1.length = (List.replicate 32 (0 : UInt8)).length := by rw [hdS_head h73l]; simp
    refine LoopI.up 32 (fun i w' => Fr w c6 w' ∧ RdS (view c6 0 w') (.slice o0 l.length p0) 1 l.length (bvs l) ∧ view c6 1 w' a1 = some (.cells SupR.zero.cells.toArray 42 (0, 0)) ∧ view c6 4 w' a6 = some (.cells (nvs ((List.range 5).map (vlS l)) ++ bvs (upto (hdS l).1 (List.replicate 32 (0 : UInt8)) i)).toArray 42 (0, 0))) ⟨S, D, b1, by rw [upto_zero]; exact b6⟩ ?_
    clear S D b1 b6 Dw
    rintro k w8 B2 hk ⟨S, D, b1, b6⟩ back
    have hul : (upto (hdS l).1 (List.replicate 32 (0 : UInt8)) k).length = 32 := by rw [upto_length hAB]; simp
    refine BS.dec (fun hlt => ?_) (fun hge => ?_)
    · obtain ⟨y, hy⟩ := get_of_lt (l := l) (i := 41 + k) (by omega)
      have e1 : IntKind.wrap .i64 (41 + (k : Int)) = ((41 + k : Nat) : Int) := by rw [wrap_i64 (by omega) (by omega)]; omega
      rw [e1, wrap_i64 (n := (k : Int) + 1) (by omega) (by omega)]
      refine Req.bnd ⟨by omega, by omega⟩ (D.elt (view_sub _ _ _) (by rw [bvs_get, hy]; rfl) (TInt.mk ?_))
      refine Req.bnd ⟨by omega, by omega⟩ ?_
      rw [Int.toNat_natCast, Nat.mul_one, show ((⟨a6, 0, none⟩ : Addr).add 5).add k = (⟨a6, 0, none⟩ : Addr).add (5 + k) by rw [addr_add, addr_add, addr_add]; simp]
      refine StoreC.ad b6 (by rw [List.size_toArray, List.length_append, nvs_length, bvs_length, hul]; simp; omega) fun w9 _ st9 b6 => ?_
      replace S := S.go st9 (by decide) (by decide); replace D := D.mono (st9.sub (by decide)); replace b1 := st9.sub (by decide) _ _ b1
      refine back _ (by omega) ⟨S, D, b1, ?_⟩
      rw [toArray_set, List.set_append_right _ _ (by simp)] at b6
      have e : (bvs (upto (hdS l).1 (List.replicate 32 (0 : UInt8)) k)).set (5 + k - (nvs ((List.range 5).map (vlS l))).length) (.int .u8 (y.toNat : Int)) = bvs (upto (hdS l).1 (List.replicate 32 (0 : UInt8)) (k + 1)) := by
        rw [← upto_set hAB (x := y) (by rw [hdS_eq h73l]; show ((l.drop 41).take 32)[k]? = some y; rw [List.getElem?_take, if_pos (by omega), List.getElem?_drop]; exact hy)]
        unfold bvs
        rw [List.map_set, show 5 + k - (nvs ((List.range 5).map (vlS l))).length = k by simp]; rfl
      rw [e] at b6
      exact b6
    · have : k = 32 := by omega
      subst this
      rw [upto_full 32 (Nat.le_of_eq (hdS_head h73l)) (by simp), ← dec_cells] at b6
      refine LoadA.all (view_sub _ _ _) b6 (by simp [sup_cells_len hdok]) ?_
      refine RunU.var b1 (sup_size hdok) (by simp [sup_cells_len hdok, sup_cells_len SupR.zero_ok]) (sup_all _) fun w12 st12 b1 => ?_
      replace S := S.go st12.step (by decide) (by decide)
      refine LoadA.all (view_sub _ _ _) b1 (by simp [sup_cells_len hdok]) ?_
      have := h _ _ (S.leave c j)
      rw [rdS_yes hok] at this
      exact this
end Go.Proofs.YtpblhjgpfmmafaaDoor

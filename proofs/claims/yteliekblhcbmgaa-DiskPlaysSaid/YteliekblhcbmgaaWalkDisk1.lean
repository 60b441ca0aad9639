/-
  Chapter 01's statements, walked (the example; DiskNames, DiskReads).
-/
import Derived.Test.YteliekblhcbmgaaDk7
set_option linter.unusedVariables false
set_option linter.unusedSimpArgs false
namespace Go.Vc
open Go
theorem useK_live {D : DkR} (h : D.left < 0) : useK D = (D, true) := by unfold useK; rw [if_neg (by omega), if_neg (by omega)]
theorem wrK_live {D : DkR} {i : Nat} {l : List UInt8} (h : D.left < 0) (hd : D.down = false) (hi : i < D.last.length) (hl : l.length = 512) : wrK D i l = ({ D with opn := D.opn ++ [(i, l)] }, 0) := by
  unfold wrK
  rw [if_neg (by rw [hd]; simp), if_neg (by omega), if_neg (by omega), useK_live h, Int.toNat_natCast]
  rfl
theorem rdK_live {D : DkR} {i : Nat} (hd : D.down = false) (hi : i < D.last.length) : rdK D i = (curK D i, 0) := by
  unfold rdK
  rw [if_neg (by rw [hd]; simp), if_pos (by omega), Int.toNat_natCast]
def oneK : List UInt8 := cyc [7]
theorem oneK_eq : bytesK false [7] = oneK := rfl
def D3 : DkR := (wrK (flK (wrK (newK 2) 0 oneK).1).1 1 oneK).1
theorem D3a : (rdK (crK D3 []) 0).1 = oneK := by decide +kernel
theorem D3b : (rdK (crK D3 []) 1).1 = zero512 := by decide +kernel
theorem D3c : (rdK (crK D3 [1]) 1).1 = oneK := by decide +kernel
theorem D3d : (rdK (crK D3 [42]) 1).1.length = 512 ∧ (rdK (crK D3 [42]) 1).1[9]? = some 7 ∧ (rdK (crK D3 [42]) 1).1[10]? = some 0 := by decide +kernel
end Go.Vc
namespace Go.Proofs.Yteliekblhcbmgaa
open Go.Vc Go.ChangeShapes Go.WideShapes Go.ChangeAt Go.RowKit
attribute [local irreducible] TInt TBool TStr TPtr TSl TAgg TMap TChan T2 T3 T4 BS Req TSome TCell TByte LoadC LoadA StoreC AllocC RunV RunU CallV ExtV EqA StableC StableA StableV TCells ReadV
attribute [local irreducible] DrewC
attribute [local irreducible] D3 oneK rdK crK wrK flK newK

theorem newK_ok' (n : Nat) (h : n ≤ 4096) : (newK n).ok := newK_ok h
theorem newK_opn (n : Nat) : (newK n).opn.length = 0 := by unfold newK; rfl
theorem newK_facts (n : Nat) : (newK n).down = false ∧ (newK n).left = -1 ∧ (newK n).opn = [] ∧ (newK n).last = List.replicate n zero512 := by unfold newK; exact ⟨rfl, rfl, rfl, rfl⟩
theorem crK_facts (D : DkR) (fs : List Int) : (crK D fs).down = false ∧ (crK D fs).left = -1 ∧ (crK D fs).opn = [] := by unfold crK; exact ⟨rfl, rfl, rfl⟩
theorem ok_one (n : Int) (h : i64ok n) : ∀ f ∈ [n], i64ok f := fun f hf => by rw [List.mem_singleton.1 hf]; exact h
theorem speaks01 (c : Nat → Nat) (j : Nat) {w : World} {R : Value → World → Prop} (h : ∀ c' w', Step c [] [j] w c' w' → R (.bool true) w') : CallV Try.prog 9 #[] w R := by
  have S := Fw.start w
  have ok0 := newK_ok' 2 (by decide)
  have n0 := newK_opn 2
  refine law01_speaks_vc ?_
  unfold law01_speaks_VC
  refine dNew_c (fun _ => 0) 10 (fun hb => by omega) fun m hm _ _ a c1 w1 st1 hd => T2.mk (TPtr.mk (TInt.mk (BS.no rfl ?_)))
  obtain rfl : m = 2 := by omega
  replace S := S.go st1 (by decide) (by decide)
  unfold law01_speaks_K1
  refine BS.no rfl ?_
  refine AllocC.col c1 37 fun x c2 w2 st2 b2 _ => ?_
  replace S := S.go st2.fresh (by decide) (by decide)
  replace hd := hd.mono st2.fresh (by decide) (by decide) (by decide) (by decide)
  refine bytes_c c2 15 (o := ⟨0, 0, [7], false, []⟩) (v := .slice (some ⟨x, 0, none⟩) 1 1) (u := .slice none 0 0) (RdS.block (xs := bvs [7]) (view_sub _ _ _ _ _ b2) rfl (Nat.le_refl _)) rfl (fun e => by simp at e) fun v3 c3 w3 st3 r3 => ?_
  replace S := S.go st3 (by decide) (by decide)
  replace hd := hd.mono st3 (by decide) (by decide) (by decide) (by decide)
  have e7 : bytesK (OpK.raw ⟨0, 0, [7], false, []⟩) (OpK.data ⟨0, 0, [7], false, []⟩) = oneK := oneK_eq
  rw [e7] at r3
  obtain ⟨o3, p3, rfl⟩ := r3.form
  refine TSl.mk ?_
  have k1 := wrK_ok ok0 0 oneK
  have m1 := wrK_opn (newK 2) 0 oneK
  refine dWrite_c (q := 15) hd ok0 (r3.rd) (by decide) (by omega) fun c4 w4 st4 hd => TInt.mk ?_
  replace S := S.go st4 (by decide) (by decide); replace r3 := r3.mono (st4.sub (by decide))
  have k2 := flK_ok k1
  have m2 := flK_opn (wrK (newK 2) 0 oneK).1
  refine dFlush_c hd k1 (by omega) fun c5 w5 st5 hd => TInt.mk ?_
  replace S := S.go st5 (by decide) (by decide); replace r3 := r3.mono (st5.sub (by decide))
  have k3 := wrK_ok k2 1 oneK
  have m3 := wrK_opn (flK (wrK (newK 2) 0 oneK).1).1 1 oneK
  refine dWrite_c (q := 15) hd k2 (r3.rd) (by decide) (by omega) fun c6 w6 st6 hd => TInt.mk ?_
  replace S := S.go st6 (by decide) (by decide); replace r3 := r3.mono (st6.sub (by decide))
  have eD : (wrK (flK (wrK (newK 2) 0 oneK).1).1 1 oneK).1 = D3 := by unfold D3; rfl
  rw [eD] at hd k3 m3
  refine dCrash_c c6 20 (fs := []) hd k3 (by omega) (RdS.nil ..) (fun f hf => by simp at hf) fun ax c7 w7 st7 hx => TPtr.mk ?_
  replace S := S.go st7 (by decide) (by decide); replace r3 := r3.mono (st7.sub (by decide))
  replace hd := hd.mono st7 (by decide) (by decide) (by decide) (by decide)
  refine AllocC.col c7 37 fun y c8 w8 st8 b8 _ => ?_
  replace S := S.go st8.fresh (by decide) (by decide); replace r3 := r3.mono (st8.fresh.sub (by decide))
  replace hd := hd.mono st8.fresh (by decide) (by decide) (by decide) (by decide); replace hx := hx.mono st8.fresh (by decide) (by decide) (by decide) (by decide)
  refine dCrash_c c8 25 (fs := [1]) hd k3 (by omega) (RdS.block (xs := jvs [1]) (view_sub _ _ _ _ _ b8) rfl (Nat.le_refl _)) (ok_one 1 ⟨by omega, by omega⟩) fun ay c9 w9 st9 hy => TPtr.mk ?_
  replace S := S.go st9 (by decide) (by decide); replace r3 := r3.mono (st9.sub (by decide))
  replace hd := hd.mono st9 (by decide) (by decide) (by decide) (by decide); replace hx := hx.mono st9 (by decide) (by decide) (by decide) (by decide)
  refine AllocC.col c9 38 fun z c10 w10 st10 b10 _ => ?_
  replace S := S.go st10.fresh (by decide) (by decide); replace r3 := r3.mono (st10.fresh.sub (by decide))
  replace hd := hd.mono st10.fresh (by decide) (by decide) (by decide) (by decide); replace hx := hx.mono st10.fresh (by decide) (by decide) (by decide) (by decide); replace hy := hy.mono st10.fresh (by decide) (by decide) (by decide) (by decide)
  refine dCrash_c c10 30 (fs := [42]) hd k3 (by omega) (RdS.block (xs := jvs [42]) (view_sub _ _ _ _ _ b10) rfl (Nat.le_refl _)) (ok_one 42 ⟨by omega, by omega⟩) fun az c11 w11 st11 hz => TPtr.mk ?_
  replace S := S.go st11 (by decide) (by decide); replace r3 := r3.mono (st11.sub (by decide))
  replace hx := hx.mono st11 (by decide) (by decide) (by decide) (by decide); replace hy := hy.mono st11 (by decide) (by decide) (by decide) (by decide)
  refine BS.no rfl (BS.no rfl ?_)
  unfold law01_speaks_K2
  refine BS.no rfl ?_
  have op0 : ∀ fs, (crK D3 fs).opn.length = 0 := fun fs => by rw [(crK_facts D3 fs).2.2]; rfl
  refine dRead_c c11 16 hx (crK_ok k3 []) (by rw [op0]; omega) fun v12 c12 w12 st12 r12 => ?_
  replace S := S.go st12 (by decide) (by decide); replace r3 := r3.mono (st12.sub (by decide))
  replace hx := hx.mono st12 (by decide) (by decide) (by decide) (by decide); replace hy := hy.mono st12 (by decide) (by decide) (by decide) (by decide); replace hz := hz.mono st12 (by decide) (by decide) (by decide) (by decide)
  obtain ⟨o12, p12, rfl⟩ := r12.form
  refine T2.mk (TSl.mk (TInt.mk ?_))
  refine dRead_c c12 17 hx (crK_ok k3 []) (by rw [op0]; omega) fun v13 c13 w13 st13 r13 => ?_
  replace S := S.go st13 (by decide) (by decide); replace r3 := r3.mono (st13.sub (by decide)); replace r12 := r12.mono (st13.sub (by decide))
  replace hy := hy.mono st13 (by decide) (by decide) (by decide) (by decide); replace hz := hz.mono st13 (by decide) (by decide) (by decide) (by decide)
  obtain ⟨o13, p13, rfl⟩ := r13.form
  refine T2.mk (TSl.mk (TInt.mk ?_))
  refine dRead_c c13 18 hy (crK_ok k3 [1]) (by rw [op0]; omega) fun v14 c14 w14 st14 r14 => ?_
  replace S := S.go st14 (by decide) (by decide); replace r3 := r3.mono (st14.sub (by decide)); replace r12 := r12.mono (st14.sub (by decide)); replace r13 := r13.mono (st14.sub (by decide))
  replace hz := hz.mono st14 (by decide) (by decide) (by decide) (by decide)
  obtain ⟨o14, p14, rfl⟩ := r14.form
  refine T2.mk (TSl.mk (TInt.mk ?_))
  refine dRead_c c14 19 hz (crK_ok k3 [42]) (by rw [op0]; omega) fun v15 c15 w15 st15 r15 => ?_
  replace S := S.go st15 (by decide) (by decide); replace r3 := r3.mono (st15.sub (by decide)); replace r12 := r12.mono (st15.sub (by decide)); replace r13 := r13.mono (st15.sub (by decide)); replace r14 := r14.mono (st15.sub (by decide))
  obtain ⟨o15, p15, rfl⟩ := r15.form
  refine T2.mk (TSl.mk (TInt.mk ?_))
  rw [D3a] at r12 ⊢
  rw [D3b] at r13 ⊢
  rw [D3c] at r14 ⊢
  obtain ⟨d1, d2, d3⟩ := D3d
  refine DrewC.col c15 fun w16 st16 => ?_
  replace S := S.go st16 (by decide) (by decide); replace r3 := r3.mono (st16.sub (by decide)); replace r12 := r12.mono (st16.sub (by decide)); replace r13 := r13.mono (st16.sub (by decide)); replace r14 := r14.mono (st16.sub (by decide)); replace r15 := r15.mono (st16.sub (by decide))
  refine string_rule strU8 (r12.rd.mono (view_sub _ _ _)) (TStr.mk (string_rule strU8 (r3.rd.mono (view_sub _ _ _)) (TStr.mk ?_)))
  rw [strEq_of, decide_eq_true rfl]
  refine BS.yes rfl ?_
  refine string_rule strU8 (r13.rd.mono (view_sub _ _ _)) (TStr.mk ?_)
  refine make_col (n := 512) (l := 512) Try.underlying30 zU8b c15 36 (Nat.le_refl _) (by omega) (by omega) fun q c17 w17 st17 b17 _ => TSl.mk ?_
  replace S := S.go st17.fresh (by decide) (by decide); replace r3 := r3.mono (st17.fresh.sub (by decide)); replace r12 := r12.mono (st17.fresh.sub (by decide)); replace r13 := r13.mono (st17.fresh.sub (by decide)); replace r14 := r14.mono (st17.fresh.sub (by decide)); replace r15 := r15.mono (st17.fresh.sub (by decide))
  rw [made_zero] at b17
  refine ⟨StableV.string strU8 (r13.rd.mono (view_sub _ _ _)), ?_⟩
  refine string_rule strU8 (RdS.block (h := wv w17) (n := 512) (z := 1) (xs := bvs zero512) (view_sub _ _ _ _ _ b17) (by rw [bvs_length, zero512_len]) (Nat.le_refl _)) (TStr.mk ?_)
  rw [strEq_of, decide_eq_true rfl]
  refine BS.yes rfl ?_
  refine string_rule strU8 (r14.rd.mono (view_sub _ _ _)) (TStr.mk (string_rule strU8 (r3.rd.mono (view_sub _ _ _)) (TStr.mk ?_)))
  rw [strEq_of, decide_eq_true rfl]
  refine BS.yes rfl ?_
  refine BS.yes (by rw [d1]; rfl) ?_
  refine Req.bnd ⟨by omega, by omega⟩ (r15.rd.eltc (k := 9) (view_sub _ _ _) (by rw [bvs_get, d2]; rfl) (TInt.mk (BS.yes rfl ?_)))
  refine Req.bnd ⟨by omega, by omega⟩ (r15.rd.eltc (k := 10) (view_sub _ _ _) (by rw [bvs_get, d3]; rfl) (TInt.mk ?_))
  exact h _ _ (S.leave c j)
end Go.Proofs.Yteliekblhcbmgaa
namespace Go.Proofs.Yteliekblhcbmgaa.walkDisk
open Go.Vc Go.ChangeShapes Go.WideShapes Go.ChangeAt Go.RowKit
attribute [local irreducible] TInt TBool TStr TPtr TSl TAgg TMap TChan T2 T3 T4 BS Req TSome TCell TByte LoadC LoadA StoreC AllocC RunV RunU CallV ExtV EqA StableC StableA StableV TCells ReadV
attribute [local irreducible] DrewC
theorem names (w : World) : CallV Try.prog 3 #[] w fun r w' => r = .bool true ∧ Below w.heap.size w w' := by
  refine law01_DiskNames_vc ?_
  unfold law01_DiskNames_VC
  refine speaks01 (fun _ => 0) 9 fun c1 w1 st1 => TBool.mk (BS.no rfl ?_)
  exact ⟨rfl, ((Fw.start w).go st1 (by decide) (by decide)).below⟩
end Go.Proofs.Yteliekblhcbmgaa.walkDisk

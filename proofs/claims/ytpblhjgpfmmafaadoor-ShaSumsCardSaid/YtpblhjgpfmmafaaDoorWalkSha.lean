/-
  Chapter 03's statements: the walks.
-/
import Derived.Test.YtpblhjgpfmmafaaDoorSha4
import Derived.Test.YtpblhjgpfmmafaaDoorShaE
import Derived.Test.YtpblhjgpfmmafaaDoorArgs2
import Derived.Test.YtpblhjgpfmmafaaDoorLists
set_option linter.unusedVariables false
set_option linter.unusedSimpArgs false
namespace Go.Proofs.YtpblhjgpfmmafaaDoor.walkSha
open Go.Vc Go.ChangeShapes Go.WideShapes Go.ChangeAt Go.RowKit
attribute [local irreducible] TInt TBool TStr TPtr TSl TAgg TMap TChan T2 T3 T4 BS Req TSome TCell TByte LoadC LoadA StoreC AllocC RunV RunU CallV ExtV EqA StableC StableA StableV TCells ReadV
attribute [local irreducible] DrewC

theorem fin {w : World} {c' w'} (S : Fr w c' w') : Below w.heap.size w w' := Step.below S fun _ => by simp
theorem speaks03 (c : Nat → Nat) (j : Nat) {w : World} {R : Value → World → Prop} (hG : GlobS (wv w)) (h : ∀ c' w', Step c [] [j] w c' w' → R (.bool true) w') : CallV Tryd.prog 12 #[] w R := by
  have G : GlobS (view (fun _ => 0) 0 w) := by rw [view0]; exact hG
  have S := Fr.start w
  refine law03_speaks_vc ?_
  unfold law03_speaks_VC
  refine Sha_c (fun _ => 0) 5 (l := []) (RdS.none_bytes ..) (G.mono (view_sub _ _ _)) (by simp) fun c1 w1 st1 => TAgg.mk ?_
  replace S := S.go st1 (by decide) (by decide); replace G := G.mono (st1.sub (by decide))
  refine AllocC.col c1 2 fun a4 c2 w2 st2 b2 _ => ?_
  replace S := S.go st2.step (by decide) (by decide); replace G := G.mono (st2.step.sub (by decide))
  refine mark_col Tryd.underlying22 Tryd.underlying5 b2 fun w3 _ st3 b3 => TSl.mk ?_
  replace S := S.go st3 (by decide) (by decide); replace G := G.mono (st3.sub (by decide))
  refine Sha_c c2 5 (l := [97, 98, 99]) (RdS.block (xs := bvs [97, 98, 99]) (view_sub _ _ _ _ _ b3) rfl (Nat.le_refl _)) (G.mono (view_sub _ _ _)) (by decide) fun c4 w4 st4 => TAgg.mk ?_
  replace S := S.go st4 (by decide) (by decide); replace G := G.mono (st4.sub (by decide))
  refine AllocC.col c4 3 fun a1 c5 w5 st5 b5 _ => ?_
  replace S := S.go st5.step (by decide) (by decide); replace G := G.mono (st5.step.sub (by decide))
  refine AllocC.col c5 4 fun a2 c6 w6 st6 b6 _ => ?_
  replace S := S.go st6.step (by decide) (by decide); replace G := G.mono (st6.step.sub (by decide)); replace b5 := st6.step.sub (by decide) _ _ b5
  have z1 : (bvs (shaB [])).toArray.size = 32 := by simp
  have z2 : (bvs (shaB [97, 98, 99])).toArray.size = 32 := by simp
  refine RunU.var b5 (by rw [z1]; kernel_rfl) (by rw [z1]; rfl) (bvs_all _) fun w7 st7 b5 => ?_
  replace S := S.go st7.step (by decide) (by decide); replace G := G.mono (st7.step.sub (by decide)); replace b6 := st7.step.sub (by decide) _ _ b6
  refine RunU.var b6 (by rw [z2]; kernel_rfl) (by rw [z2]; rfl) (bvs_all _) fun w8 st8 b6 => ?_
  replace S := S.go st8.step (by decide) (by decide); replace G := G.mono (st8.step.sub (by decide)); replace b5 := st8.step.sub (by decide) _ _ b5
  have r5 := (RdS.block (h := wv w8) (n := 32) (c := 32) (z := 1) (view_sub _ _ _ _ _ b5) (by simp) (Nat.le_refl _)).take (k := 4) (by omega)
  have r6 := (RdS.block (h := wv w8) (n := 32) (c := 32) (z := 1) (view_sub _ _ _ _ _ b6) (by simp) (Nat.le_refl _)).take (k := 4) (by omega)
  rw [Nat.mul_one, ← bvs_take, sha_nil] at r5
  rw [Nat.mul_one, ← bvs_take, sha_abc] at r6
  refine string_rule strU8 r5 (TStr.mk ?_)
  rw [show (⟨#[227, 176, 196, 66]⟩ : ByteArray) = strOf [227, 176, 196, 66] from rfl, strEq_of, decide_eq_true rfl]
  refine BS.yes rfl ?_
  refine string_rule strU8 r6 (TStr.mk ?_)
  rw [show (⟨#[186, 120, 22, 191]⟩ : ByteArray) = strOf [186, 120, 22, 191] from rfl, strEq_of, decide_eq_true rfl]
  exact h _ _ (S.leave c j)

theorem sums (v : Value) (l : List UInt8) (w : World) (hr : RdS (wv w) v 1 l.length (bvs l)) (hG : GlobS (wv w)) : CallV Tryd.prog 3 #[v] w fun r w' => r = .bool true ∧ Below w.heap.size w w' := by
  obtain ⟨o0, p0, rfl⟩ := hr.form
  have G : GlobS (view (fun _ => 0) 0 w) := by rw [view0]; exact hG
  have D : RdS (view (fun _ => 0) 0 w) (.slice o0 l.length p0) 1 l.length (bvs l) := by rw [view0]; exact hr
  have S := Fr.start w
  refine law03_ShaSums_vc ?_
  unfold law03_ShaSums_VC
  refine speaks03 (fun _ => 0) 5 (G.mono (view_sub _ _ _)) fun c1 w1 st1 => TBool.mk (BS.no rfl ?_)
  replace S := S.go st1 (by decide) (by decide); replace G := G.mono (st1.sub (by decide)); replace D := D.mono (st1.sub (by decide))
  refine BS.dec (fun _ => ⟨rfl, fin S⟩) (fun hl => ?_)
  refine AllocC.col c1 2 fun x c2 w2 st2 b2 _ => ?_
  replace S := S.go st2.step (by decide) (by decide); replace G := G.mono (st2.step.sub (by decide)); replace D := D.mono (st2.step.sub (by decide))
  refine app_bytes slU8 (OwS.some_bytes b2) (D.mono (view_sub _ _ _)) (by simp; omega) fun o3 p3 c3 w3 st3 r3 => ?_
  replace S := S.go st3.step (by decide) (by decide); replace G := G.mono (st3.step.sub (by decide)); replace D := D.mono (st3.step.sub (by decide))
  rw [List.nil_append] at r3 ⊢
  refine TSl.mk ?_
  refine Sha_c c3 5 (r3.rd.mono (view_sub _ _ _)) (G.mono (view_sub _ _ _)) (by omega) fun c4 w4 st4 => TAgg.mk ?_
  replace S := S.go st4 (by decide) (by decide); replace G := G.mono (st4.sub (by decide)); replace D := D.mono (st4.sub (by decide)); replace r3 := r3.mono (st4.sub (by decide))
  refine Ref_Sha_c c4 5 (D.mono (view_sub _ _ _)) (by omega) fun c5 w5 st5 => TAgg.mk ?_
  replace S := S.go st5 (by decide) (by decide); replace G := G.mono (st5.sub (by decide)); replace D := D.mono (st5.sub (by decide)); replace r3 := r3.mono (st5.sub (by decide))
  refine EqA.hash_eq (by simp) (by simp) ?_
  refine BS.yes (by simp) ?_
  refine string_rule strU8 (r3.rd.mono (view_sub _ _ _)) (TStr.mk ?_)
  refine string_rule strU8 (D.mono (view_sub _ _ _)) (TStr.mk ?_)
  rw [strEq_of, decide_eq_true rfl]
  exact ⟨rfl, fin S⟩

theorem nothing (v u : Value) (l m : List UInt8) (w : World) (hr : RdS (wv w) v 1 l.length (bvs l)) (hs : RdS (wv w) u 1 m.length (bvs m)) (hG : GlobS (wv w)) : CallV Tryd.prog 6 #[v, u] w fun r w' => r = .bool true ∧ Below w.heap.size w w' := by
  obtain ⟨o0, p0, rfl⟩ := hr.form
  obtain ⟨q0, t0, rfl⟩ := hs.form
  have G : GlobS (view (fun _ => 0) 0 w) := by rw [view0]; exact hG
  have D : RdS (view (fun _ => 0) 0 w) (.slice o0 l.length p0) 1 l.length (bvs l) := by rw [view0]; exact hr
  have E : RdS (view (fun _ => 0) 0 w) (.slice q0 m.length t0) 1 m.length (bvs m) := by rw [view0]; exact hs
  have S := Fr.start w
  refine law03_ShaNothing_vc ?_
  unfold law03_ShaNothing_VC
  refine speaks03 (fun _ => 0) 5 (G.mono (view_sub _ _ _)) fun c1 w1 st1 => TBool.mk (BS.no rfl ?_)
  replace S := S.go st1 (by decide) (by decide); replace G := G.mono (st1.sub (by decide)); replace D := D.mono (st1.sub (by decide)); replace E := E.mono (st1.sub (by decide))
  refine BS.dec (fun _ => ⟨rfl, fin S⟩) (fun hl => ?_)
  unfold law03_ShaNothing_K1
  refine BS.dec (fun _ => ⟨rfl, fin S⟩) (fun hm => ?_)
  refine New_c c1 1 (G.mono (view_sub _ _ _)) fun x c2 w2 st2 X => TPtr.mk ?_
  replace S := S.go st2 (by decide) (by decide); replace G := G.mono (st2.sub (by decide)); replace D := D.mono (st2.sub (by decide)); replace E := E.mono (st2.sub (by decide))
  refine New_c c2 2 (G.mono (view_sub _ _ _)) fun y c3 w3 st3 Y => TPtr.mk ?_
  replace S := S.go st3 (by decide) (by decide); replace G := G.mono (st3.sub (by decide)); replace D := D.mono (st3.sub (by decide)); replace E := E.mono (st3.sub (by decide)); replace X := X.mono (st3.sub (by decide))
  refine BS.no rfl ?_
  unfold law03_ShaNothing_K2
  refine BS.no rfl ?_
  refine Add_c (i := 1) (k := 0) (g := 0) (ys := []) X (RdS.none_bytes ..) (by decide) G (by decide) (by simp) (by omega) fun c4 w4 st4 X => ?_
  replace S := S.go st4 (by decide) (by decide); replace G := G.mono (st4.sub (by decide)); replace D := D.mono (st4.sub (by decide)); replace E := E.mono (st4.sub (by decide)); replace Y := Y.mono (st4.sub (by decide))
  refine Add_c (i := 1) (k := 0) (g := 0) X D (by decide) G (by decide) (by omega) (by simp) fun c5 w5 st5 X => ?_
  replace S := S.go st5 (by decide) (by decide); replace G := G.mono (st5.sub (by decide)); replace D := D.mono (st5.sub (by decide)); replace E := E.mono (st5.sub (by decide)); replace Y := Y.mono (st5.sub (by decide))
  refine AllocC.col c5 3 fun z c6 w6 st6 b6 _ => ?_
  replace S := S.go st6.step (by decide) (by decide); replace G := G.mono (st6.step.sub (by decide)); replace D := D.mono (st6.step.sub (by decide)); replace E := E.mono (st6.step.sub (by decide)); replace X := X.mono (st6.step.sub (by decide)); replace Y := Y.mono (st6.step.sub (by decide))
  refine Add_c (i := 1) (k := 3) (g := 0) (ys := []) X (OwS.some_bytes b6).rd (by decide) G (by decide) (by simp) (by simp; omega) fun c7 w7 st7 X => ?_
  replace S := S.go st7 (by decide) (by decide); replace G := G.mono (st7.sub (by decide)); replace D := D.mono (st7.sub (by decide)); replace E := E.mono (st7.sub (by decide)); replace Y := Y.mono (st7.sub (by decide))
  refine Add_c (i := 1) (k := 0) (g := 0) X E (by decide) G (by decide) (by omega) (by simp; omega) fun c8 w8 st8 X => ?_
  replace S := S.go st8 (by decide) (by decide); replace G := G.mono (st8.sub (by decide)); replace D := D.mono (st8.sub (by decide)); replace E := E.mono (st8.sub (by decide)); replace Y := Y.mono (st8.sub (by decide))
  refine Add_c (i := 1) (k := 0) (g := 0) (ys := []) X (RdS.none_bytes ..) (by decide) G (by decide) (by simp) (by simp; omega) fun c9 w9 st9 X => ?_
  replace S := S.go st9 (by decide) (by decide); replace G := G.mono (st9.sub (by decide)); replace D := D.mono (st9.sub (by decide)); replace E := E.mono (st9.sub (by decide)); replace Y := Y.mono (st9.sub (by decide))
  have eX : ([] ++ [] ++ l ++ [] ++ m ++ [] : List UInt8) = l ++ m := by simp
  have nX : 0 + ([] : List UInt8).length + l.length + ([] : List UInt8).length + m.length + ([] : List UInt8).length = (l ++ m).length := by simp
  rw [eX, nX] at X
  refine AllocC.col c9 3 fun z2 c10 w10 st10 b10 _ => ?_
  replace S := S.go st10.step (by decide) (by decide); replace G := G.mono (st10.step.sub (by decide)); replace D := D.mono (st10.step.sub (by decide)); replace E := E.mono (st10.step.sub (by decide)); replace X := X.mono (st10.step.sub (by decide)); replace Y := Y.mono (st10.step.sub (by decide))
  refine app_bytes slU8 (OwS.some_bytes b10) (D.mono (view_sub _ _ _)) (by simp; omega) fun o11 p11 c11 w11 st11 r11 => ?_
  replace S := S.go st11.step (by decide) (by decide); replace G := G.mono (st11.step.sub (by decide)); replace D := D.mono (st11.step.sub (by decide)); replace E := E.mono (st11.step.sub (by decide)); replace X := X.mono (st11.step.sub (by decide)); replace Y := Y.mono (st11.step.sub (by decide))
  refine TSl.mk (app_bytes slU8 r11 (E.mono (view_sub _ _ _)) (by simp; omega) fun o12 p12 c12 w12 st12 r12 => TSl.mk ?_)
  replace S := S.go st12.step (by decide) (by decide); replace G := G.mono (st12.step.sub (by decide)); replace D := D.mono (st12.step.sub (by decide)); replace E := E.mono (st12.step.sub (by decide)); replace X := X.mono (st12.step.sub (by decide)); replace Y := Y.mono (st12.step.sub (by decide))
  rw [List.nil_append] at r12 ⊢
  refine Add_c (i := 2) (k := 3) (g := 0) Y r12.rd (by decide) G (by decide) (by simp; omega) (by omega) fun c13 w13 st13 Y => ?_
  replace S := S.go st13 (by decide) (by decide); replace G := G.mono (st13.sub (by decide)); replace D := D.mono (st13.sub (by decide)); replace E := E.mono (st13.sub (by decide)); replace X := X.mono (st13.sub (by decide))
  rw [List.nil_append, Nat.zero_add] at Y
  have hlm : (l ++ m).length ≤ 2000 := by simp; omega
  refine HSum_c c13 5 (X.mono (view_sub _ _ _)) (G.mono (view_sub _ _ _)) (by omega) fun c14 w14 st14 => TAgg.mk ?_
  replace S := S.go st14 (by decide) (by decide); replace G := G.mono (st14.sub (by decide)); replace D := D.mono (st14.sub (by decide)); replace E := E.mono (st14.sub (by decide)); replace X := X.mono (st14.sub (by decide)); replace Y := Y.mono (st14.sub (by decide))
  refine HSum_c c14 5 (Y.mono (view_sub _ _ _)) (G.mono (view_sub _ _ _)) (by omega) fun c15 w15 st15 => TAgg.mk ?_
  replace S := S.go st15 (by decide) (by decide); replace G := G.mono (st15.sub (by decide)); replace D := D.mono (st15.sub (by decide)); replace E := E.mono (st15.sub (by decide)); replace X := X.mono (st15.sub (by decide))
  refine EqA.hash_eq (by simp) (by simp) (BS.yes (by simp) ?_)
  refine HSum_c c15 5 (X.mono (view_sub _ _ _)) (G.mono (view_sub _ _ _)) (by omega) fun c16 w16 st16 => TAgg.mk ?_
  replace S := S.go st16 (by decide) (by decide); replace G := G.mono (st16.sub (by decide)); replace D := D.mono (st16.sub (by decide)); replace E := E.mono (st16.sub (by decide))
  refine AllocC.col c16 3 fun z3 c17 w17 st17 b17 _ => ?_
  replace S := S.go st17.step (by decide) (by decide); replace G := G.mono (st17.step.sub (by decide)); replace D := D.mono (st17.step.sub (by decide)); replace E := E.mono (st17.step.sub (by decide))
  refine app_bytes slU8 (OwS.some_bytes b17) (D.mono (view_sub _ _ _)) (by simp; omega) fun o18 p18 c18 w18 st18 r18 => ?_
  replace S := S.go st18.step (by decide) (by decide); replace G := G.mono (st18.step.sub (by decide)); replace D := D.mono (st18.step.sub (by decide)); replace E := E.mono (st18.step.sub (by decide))
  refine TSl.mk (app_bytes slU8 r18 (E.mono (view_sub _ _ _)) (by simp; omega) fun o19 p19 c19 w19 st19 r19 => TSl.mk ?_)
  replace S := S.go st19.step (by decide) (by decide); replace G := G.mono (st19.step.sub (by decide)); replace D := D.mono (st19.step.sub (by decide)); replace E := E.mono (st19.step.sub (by decide))
  rw [List.nil_append] at r19 ⊢
  refine Sha_c c19 5 (r19.rd.mono (view_sub _ _ _)) (G.mono (view_sub _ _ _)) (by omega) fun c20 w20 st20 => TAgg.mk ?_
  replace S := S.go st20 (by decide) (by decide)
  refine EqA.hash_eq (by simp) (by simp) ?_
  rw [decide_eq_true rfl]
  exact ⟨rfl, fin S⟩

theorem take_more {l : List UInt8} {i : Nat} {x : UInt8} (h : l[i]? = some x) : l.take (i + 1) = l.take i ++ [x] := by rw [List.take_add_one, h]; rfl
theorem one_of {o : Option Addr} {n p i : Nat} {l : List UInt8} {h : View} {x : UInt8} (D : RdS h (.slice o l.length p) 1 l.length (bvs l)) (hx : l[i]? = some x) : RdS h (.slice (slBase o p i 1) (i + 1 - i) (p - i)) 1 [x].length (bvs [x]) := by
  have hlt := lt_of_get hx
  have := D.mid (k := i) (m := 1) (by omega)
  rw [Nat.mul_one, Nat.mul_one] at this
  have e : (bvs l |>.drop i).take 1 = bvs [x] := by
    rw [← bvs_drop, ← bvs_take]
    congr 1
    apply List.ext_getElem?
    intro k
    rw [List.getElem?_take, List.getElem?_drop]
    match k with
    | 0 => simp [hx]
    | k + 1 => simp
  rw [e] at this
  exact this
theorem apart (v u : Value) (l m : List UInt8) (w : World) (hr : RdS (wv w) v 1 l.length (bvs l)) (hs : RdS (wv w) u 1 m.length (bvs m)) (hG : GlobS (wv w)) : CallV Tryd.prog 5 #[v, u] w fun r w' => r = .bool true ∧ Below w.heap.size w w' := by
  obtain ⟨o0, p0, rfl⟩ := hr.form
  obtain ⟨q0, t0, rfl⟩ := hs.form
  have G : GlobS (view (fun _ => 0) 0 w) := by rw [view0]; exact hG
  have D : RdS (view (fun _ => 0) 0 w) (.slice o0 l.length p0) 1 l.length (bvs l) := by rw [view0]; exact hr
  have E : RdS (view (fun _ => 0) 0 w) (.slice q0 m.length t0) 1 m.length (bvs m) := by rw [view0]; exact hs
  have S := Fr.start w
  refine law03_ShaApart_vc ?_
  unfold law03_ShaApart_VC
  refine speaks03 (fun _ => 0) 5 (G.mono (view_sub _ _ _)) fun c1 w1 st1 => TBool.mk (BS.no rfl ?_)
  replace S := S.go st1 (by decide) (by decide); replace G := G.mono (st1.sub (by decide)); replace D := D.mono (st1.sub (by decide)); replace E := E.mono (st1.sub (by decide))
  refine BS.dec (fun _ => ⟨rfl, fin S⟩) (fun hl => ?_)
  unfold law03_ShaApart_K1
  refine BS.dec (fun _ => ⟨rfl, fin S⟩) (fun hm => ?_)
  refine New_c c1 1 (G.mono (view_sub _ _ _)) fun x c2 w2 st2 X => TPtr.mk ?_
  replace S := S.go st2 (by decide) (by decide); replace G := G.mono (st2.sub (by decide)); replace D := D.mono (st2.sub (by decide)); replace E := E.mono (st2.sub (by decide))
  refine New_c c2 2 (G.mono (view_sub _ _ _)) fun y c3 w3 st3 Y => TPtr.mk ?_
  replace S := S.go st3 (by decide) (by decide); replace G := G.mono (st3.sub (by decide)); replace D := D.mono (st3.sub (by decide)); replace E := E.mono (st3.sub (by decide)); replace X := X.mono (st3.sub (by decide))
  refine BS.no rfl ?_
  unfold law03_ShaApart_K2
  refine BS.no rfl ?_
  refine LoopI.up (max l.length m.length) (fun i w' => ∃ c', (Fr w c' w' ∧ GlobS (view c' 0 w') ∧ RdS (view c' 0 w') (.slice o0 l.length p0) 1 l.length (bvs l) ∧ RdS (view c' 0 w') (.slice q0 m.length t0) 1 m.length (bvs m)) ∧ HashV (view c' 1 w') ⟨x, 0, none⟩ (l.take i) (l.take i).length ∧ HashV (view c' 2 w') ⟨y, 0, none⟩ (m.take i) (m.take i).length) ⟨c3, ⟨S, G, D, E⟩, by simpa using X, by simpa using Y⟩ ?_
  clear S G D E X Y
  rintro i w4 B hi ⟨c4, ⟨S, G, D, E⟩, X, Y⟩ back
  have w1' : IntKind.wrap .i64 ((i : Int) + 1) = ((i + 1 : Nat) : Int) := by rw [wrap_i64 (by omega) (by omega)]; omega
  -- the second text's piece
  have five : i < max l.length m.length → ∀ {c5 w5}, Fr w c5 w5 → GlobS (view c5 0 w5) → RdS (view c5 0 w5) (.slice o0 l.length p0) 1 l.length (bvs l) → RdS (view c5 0 w5) (.slice q0 m.length t0) 1 m.length (bvs m) →
      HashV (view c5 1 w5) ⟨x, 0, none⟩ (l.take (i + 1)) (l.take (i + 1)).length → HashV (view c5 2 w5) ⟨y, 0, none⟩ (m.take i) (m.take i).length → law03_ShaApart_K5 o0 l.length p0 q0 m.length t0 (some ⟨x, 0, none⟩) (some ⟨y, 0, none⟩) i B w5 (fun r w' => r = .bool true ∧ Below w.heap.size w w') := by
    intro hlt c5 w5 S G D E X Y
    unfold law03_ShaApart_K5
    rw [w1']
    refine BS.dec (fun hlm => ?_) (fun hlm => ?_)
    · have hcap := E.len.2.1
      refine Req.bndle ⟨by omega, by omega⟩ (Req.bndle ⟨by omega, by omega⟩ ?_)
      rw [Int.toNat_natCast, Int.toNat_natCast]
      obtain ⟨z, hz⟩ := get_of_lt (l := m) (i := i) (by omega)
      refine Add_c (i := 2) (k := 0) (g := 0) Y (one_of (n := 0) E hz) (by decide) G (by decide) (by simp) (by rw [List.length_take]; omega) fun c6 w6 st6 Y => ?_
      replace S := S.go st6 (by decide) (by decide); replace G := G.mono (st6.sub (by decide)); replace D := D.mono (st6.sub (by decide)); replace E := E.mono (st6.sub (by decide)); replace X := X.mono (st6.sub (by decide))
      rw [← take_more hz, ← List.length_append, ← take_more hz] at Y
      exact back _ hlt ⟨c6, ⟨S, G, D, E⟩, X, Y⟩
    · rw [show m.take i = m.take (i + 1) by rw [List.take_of_length_le (by omega), List.take_of_length_le (by omega)]] at Y
      exact back _ hlt ⟨c5, ⟨S, G, D, E⟩, X, Y⟩
  have three : i < max l.length m.length → law03_ShaApart_K3 o0 l.length p0 q0 m.length t0 (some ⟨x, 0, none⟩) (some ⟨y, 0, none⟩) i true B w4 (fun r w' => r = .bool true ∧ Below w.heap.size w w') := by
    intro hlt
    unfold law03_ShaApart_K3
    refine BS.yes rfl ?_
    unfold law03_ShaApart_K4
    rw [w1']
    refine BS.dec (fun hll => ?_) (fun hll => ?_)
    · have hcap := D.len.2.1
      refine Req.bndle ⟨by omega, by omega⟩ (Req.bndle ⟨by omega, by omega⟩ ?_)
      rw [Int.toNat_natCast, Int.toNat_natCast]
      obtain ⟨z, hz⟩ := get_of_lt (l := l) (i := i) (by omega)
      refine Add_c (i := 1) (k := 0) (g := 0) X (one_of (n := 0) D hz) (by decide) G (by decide) (by simp) (by rw [List.length_take]; omega) fun c6 w6 st6 X => ?_
      replace S := S.go st6 (by decide) (by decide); replace G := G.mono (st6.sub (by decide)); replace D := D.mono (st6.sub (by decide)); replace E := E.mono (st6.sub (by decide)); replace Y := Y.mono (st6.sub (by decide))
      rw [← take_more hz, ← List.length_append, ← take_more hz] at X
      exact five hlt S G D E X Y
    · rw [show l.take i = l.take (i + 1) by rw [List.take_of_length_le (by omega), List.take_of_length_le (by omega)]] at X
      exact five hlt S G D E X Y
  refine BS.dec (fun hll => three (by omega)) (fun hll => ?_)
  by_cases hlm : (i : Int) < ((m.length : Nat) : Int)
  · rw [decide_eq_true hlm]; exact three (by omega)
  · rw [decide_eq_false hlm]
    clear three five
    unfold law03_ShaApart_K3
    refine BS.no rfl ?_
    rw [List.take_of_length_le (by omega)] at X Y
    refine HSum_c c4 5 (X.mono (view_sub _ _ _)) (G.mono (view_sub _ _ _)) (by omega) fun c14 w14 st14 => TAgg.mk ?_
    replace S := S.go st14 (by decide) (by decide); replace G := G.mono (st14.sub (by decide)); replace D := D.mono (st14.sub (by decide)); replace E := E.mono (st14.sub (by decide)); replace Y := Y.mono (st14.sub (by decide))
    refine Sha_c c14 5 (D.mono (view_sub _ _ _)) (G.mono (view_sub _ _ _)) (by omega) fun c15 w15 st15 => TAgg.mk ?_
    replace S := S.go st15 (by decide) (by decide); replace G := G.mono (st15.sub (by decide)); replace D := D.mono (st15.sub (by decide)); replace E := E.mono (st15.sub (by decide)); replace Y := Y.mono (st15.sub (by decide))
    refine EqA.hash_eq (by simp) (by simp) (BS.yes (by simp) ?_)
    refine HSum_c c15 5 (Y.mono (view_sub _ _ _)) (G.mono (view_sub _ _ _)) (by omega) fun c16 w16 st16 => TAgg.mk ?_
    replace S := S.go st16 (by decide) (by decide); replace G := G.mono (st16.sub (by decide)); replace D := D.mono (st16.sub (by decide)); replace E := E.mono (st16.sub (by decide))
    refine Sha_c c16 5 (E.mono (view_sub _ _ _)) (G.mono (view_sub _ _ _)) (by omega) fun c17 w17 st17 => TAgg.mk ?_
    replace S := S.go st17 (by decide) (by decide)
    refine EqA.hash_eq (by simp) (by simp) ?_
    rw [decide_eq_true rfl]
    exact ⟨rfl, fin S⟩

theorem pieces (v : Value) (ls : List (List UInt8)) (w : World) (hr : BlsV (wv w) v ls) (hG : GlobS (wv w)) (hmax : ls.length ≤ maxLen) : CallV Tryd.prog 4 #[v] w fun r w' => r = .bool true ∧ Below w.heap.size w w' := by
  obtain ⟨o0, p0, rfl⟩ := LsV.form hr
  have hmax : ls.length ≤ 9223372036854775807 := by simp only [maxLen] at hmax; omega
  have G : GlobS (view (fun _ => 0) 0 w) := by rw [view0]; exact hG
  have D : BlsV (view (fun _ => 0) 0 w) (.slice o0 ls.length p0) ls := by rw [view0]; exact hr
  have S := Fr.start w
  refine law03_ShaPieces_vc ?_
  unfold law03_ShaPieces_VC
  refine speaks03 (fun _ => 0) 5 (G.mono (view_sub _ _ _)) fun c1 w1 st1 => TBool.mk (BS.no rfl ?_)
  replace S := S.go st1 (by decide) (by decide); replace G := G.mono (st1.sub (by decide)); replace D := D.mono (st1.sub (by decide))
  refine New_c c1 1 (G.mono (view_sub _ _ _)) fun x c2 w2 st2 X => TPtr.mk ?_
  replace S := S.go st2 (by decide) (by decide); replace G := G.mono (st2.sub (by decide)); replace D := D.mono (st2.sub (by decide))
  refine AllocC.col c2 2 fun a c3 w3 st3 b3 _ => ?_
  replace S := S.go st3.step (by decide) (by decide); replace G := G.mono (st3.step.sub (by decide)); replace D := D.mono (st3.step.sub (by decide)); replace X := X.mono (st3.step.sub (by decide))
  refine BS.no rfl ?_
  refine LoopSI.up ls.length (fun i o l p w' => ∃ c', Fr w c' w' ∧ GlobS (view c' 0 w') ∧ BlsV (view c' 0 w') (.slice o0 ls.length p0) ls ∧ HashV (view c' 1 w') ⟨x, 0, none⟩ (ls.take i).flatten (ls.take i).flatten.length ∧ OwS (view c' 2 w') (.slice o l p) 5 1 (ls.take i).flatten.length (bvs (ls.take i).flatten) ∧ (ls.take i).flatten.length ≤ 3000)
    ⟨c3, S, G, D, by simpa using X, by simpa using OwS.some_bytes b3, by simp⟩ ?_
  clear S G D X b3
  rintro i o l p w4 B hi ⟨c4, S, G, D, X, ho, hfl⟩ back
  have hle := ho.len.1
  subst hle
  refine BS.dec (fun hlt => ?_) (fun hge => ?_)
  · obtain ⟨y, hy⟩ := get_of_lt (l := ls) (i := i) (by omega)
    obtain ⟨es, ⟨vy, rfl, ry⟩, El⟩ := LsV.at (by omega) D hy
    obtain ⟨oy, py, rfl⟩ := ry.form
    refine Req.bnd ⟨by omega, by omega⟩ (El.ld0 (view_sub _ _ _) rfl (TSl.mk ?_))
    rw [wrap_i64 (by omega) (by omega)]
    refine BS.dec (fun _ => ⟨rfl, fin S⟩) (fun hbig => ?_)
    refine AllocC.col c4 3 fun z c5 w5 st5 b5 _ => ?_
    replace S := S.go st5.step (by decide) (by decide); replace G := G.mono (st5.step.sub (by decide)); replace D := D.mono (st5.step.sub (by decide)); replace X := X.mono (st5.step.sub (by decide)); replace ry := ry.mono (st5.step.sub (by decide))
    replace ho := ho.mono (st5.step.sub (by decide))
    refine app_bytes slU8 (OwS.some_bytes b5) (ry.mono (view_sub _ _ _)) (by simp; omega) fun o6 p6 c6 w6 st6 r6 => ?_
    replace S := S.go st6.step (by decide) (by decide); replace G := G.mono (st6.step.sub (by decide)); replace D := D.mono (st6.step.sub (by decide)); replace X := X.mono (st6.step.sub (by decide)); replace ry := ry.mono (st6.step.sub (by decide))
    replace ho := ho.mono (st6.step.sub (by decide))
    rw [List.nil_append] at r6 ⊢
    refine TSl.mk ?_
    refine Add_c (i := 1) (k := 3) (g := 0) X r6.rd (by decide) G (by decide) (by omega) (by omega) fun c7 w7 st7 X => ?_
    replace S := S.go st7 (by decide) (by decide); replace G := G.mono (st7.sub (by decide)); replace D := D.mono (st7.sub (by decide)); replace ry := ry.mono (st7.sub (by decide)); replace r6 := r6.mono (st7.sub (by decide))
    replace ho := ho.mono (st7.sub (by decide))
    refine app_bytes slU8 ho (ry.mono (view_sub _ _ _)) (by omega) fun o8 p8 c8 w8 st8 ho => TSl.mk ?_
    replace S := S.go st8.step (by decide) (by decide); replace G := G.mono (st8.step.sub (by decide)); replace D := D.mono (st8.step.sub (by decide)); replace X := X.mono (st8.step.sub (by decide)); replace r6 := r6.mono (st8.step.sub (by decide))
    rw [← List.length_append] at X
    have ef : (ls.take i).flatten ++ y = (ls.take (i + 1)).flatten := by rw [List.take_add_one, hy, Option.toList_some, List.flatten_append]; simp
    rw [ef] at X ho ⊢
    have hfl2 : (ls.take (i + 1)).flatten.length ≤ 3000 := by rw [← ef, List.length_append]; omega
    refine LoopI.up y.length (fun k w' => ∃ ys : List Value, Fr w c8 w' ∧ GlobS (view c8 0 w') ∧ BlsV (view c8 0 w') (.slice o0 ls.length p0) ls ∧ HashV (view c8 1 w') ⟨x, 0, none⟩ (ls.take (i + 1)).flatten (ls.take (i + 1)).flatten.length ∧ OwS (view c8 2 w') (.slice o8 (ls.take (i + 1)).flatten.length p8) 5 1 (ls.take (i + 1)).flatten.length (bvs (ls.take (i + 1)).flatten) ∧
      OwS (view c8 3 w') (.slice o6 y.length p6) 5 1 y.length ys) ⟨_, S, G, D, X, ho, r6⟩ ?_
    clear S G D X ho r6 ry El
    rintro k w9 B2 hk ⟨ys, S, G, D, X, ho, r6⟩ back2
    refine BS.dec (fun hlk => ?_) (fun hgk => ?_)
    · refine Req.bnd ⟨by omega, hlk⟩ ?_
      rcases r6.2 with ⟨e, hn0⟩ | ⟨g, cap, cur, e, hg, hnc, hcm, hcs, htake⟩
      · omega
      · cases e
        refine TSome.mk ?_
        rw [addr_add, Int.toNat_natCast, Nat.mul_one, Nat.zero_add]
        refine StoreC.col hg (by omega) fun w12 st12 st12' hg2 => ?_
        rw [wrap_i64 (by omega) (by omega)]
        replace S := S.go st12' (by decide) (by decide); replace G := G.mono (st12'.sub (by decide)); replace D := D.mono (st12'.sub (by decide)); replace X := X.mono (st12'.sub (by decide))
        replace ho := ho.mono (st12'.sub (by decide))
        refine back2 _ (by omega) ⟨_, S, G, D, X, ho, ?_, .inr ⟨g, p6, _, rfl, hg2, hnc, hcm, by simpa using hcs, rfl⟩⟩
        rw [List.length_take]; simp; omega
    · refine HSum_c c8 5 (X.mono (view_sub _ _ _)) (G.mono (view_sub _ _ _)) (by omega) fun c14 w14 st14 => TAgg.mk ?_
      replace S := S.go st14 (by decide) (by decide); replace G := G.mono (st14.sub (by decide)); replace D := D.mono (st14.sub (by decide)); replace X := X.mono (st14.sub (by decide))
      replace ho := ho.mono (st14.sub (by decide))
      refine Sha_c c14 5 (ho.rd.mono (view_sub _ _ _)) (G.mono (view_sub _ _ _)) (by omega) fun c15 w15 st15 => TAgg.mk ?_
      replace S := S.go st15 (by decide) (by decide); replace G := G.mono (st15.sub (by decide)); replace D := D.mono (st15.sub (by decide)); replace X := X.mono (st15.sub (by decide))
      replace ho := ho.mono (st15.sub (by decide))
      refine EqA.hash_ne (by simp) (by simp) (BS.no (by simp) ?_)
      refine HSum_c c15 5 (X.mono (view_sub _ _ _)) (G.mono (view_sub _ _ _)) (by omega) fun c16 w16 st16 => TAgg.mk ?_
      replace S := S.go st16 (by decide) (by decide); replace G := G.mono (st16.sub (by decide)); replace D := D.mono (st16.sub (by decide)); replace X := X.mono (st16.sub (by decide))
      replace ho := ho.mono (st16.sub (by decide))
      refine Sha_c c16 5 (ho.rd.mono (view_sub _ _ _)) (G.mono (view_sub _ _ _)) (by omega) fun c17 w17 st17 => TAgg.mk ?_
      replace S := S.go st17 (by decide) (by decide); replace G := G.mono (st17.sub (by decide)); replace D := D.mono (st17.sub (by decide)); replace X := X.mono (st17.sub (by decide))
      replace ho := ho.mono (st17.sub (by decide))
      refine EqA.hash_ne (by simp) (by simp) (BS.no (by simp) ?_)
      rw [wrap_i64 (by omega) (by omega)]
      exact back _ _ _ _ (by omega) ⟨c17, S, G, D, X, ho, hfl2⟩
  · refine HSum_c c4 5 (X.mono (view_sub _ _ _)) (G.mono (view_sub _ _ _)) (by omega) fun c14 w14 st14 => TAgg.mk ?_
    replace S := S.go st14 (by decide) (by decide); replace G := G.mono (st14.sub (by decide)); replace D := D.mono (st14.sub (by decide))
    replace ho := ho.mono (st14.sub (by decide))
    refine Sha_c c14 5 (ho.rd.mono (view_sub _ _ _)) (G.mono (view_sub _ _ _)) (by omega) fun c15 w15 st15 => TAgg.mk ?_
    replace S := S.go st15 (by decide) (by decide)
    refine EqA.hash_eq (by simp) (by simp) ?_
    rw [decide_eq_true rfl]
    exact ⟨rfl, fin S⟩
end Go.Proofs.YtpblhjgpfmmafaaDoor.walkSha

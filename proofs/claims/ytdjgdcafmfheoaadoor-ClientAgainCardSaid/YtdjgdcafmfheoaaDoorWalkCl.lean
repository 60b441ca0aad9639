/-
  Chapter 25's laws, walked: each returns true, whatever its arguments, and leaves what lay there.
-/
import Derived.Test.YtdjgdcafmfheoaaDoorCl2
set_option linter.unusedVariables false
set_option linter.unusedSimpArgs false
namespace Go.Vc
open Go
theorem ClV.go {T : Nat} {c c' : Nat → Nat} {i k : Nat} {w w' : World} {W N : List Nat} {a : Addr} {s : ClR} (H : ClV T (view c i w) (view c k w) a s) (st : Step c W N w c' w') (hi : i ∉ W) (hk : k ∉ W) : ClV T (view c' i w') (view c' k w') a s := H.mono (st.sub hi) (st.sub hk)
theorem ClV.all {T : Nat} {c : Nat → Nat} {i k : Nat} {w : World} {a : Addr} {s : ClR} (H : ClV T (view c i w) (view c k w) a s) : ClV T (wv w) (wv w) a s := H.mono (view_sub _ _ _) (view_sub _ _ _)
theorem LsO.at' {α : Type} {P : View → α → List Value → Prop} {T z : Nat} (hz : 0 < z) {h g : View} {o : Option Addr} {n c : Nat} {l : List α} (hl : LsO P T z h g (.slice o n c) l) {i : Nat} {a : α} (hi : l[i]? = some a) : ∃ es, P g a es ∧ Elt h o z i es := by
  obtain ⟨xs, hr, hx⟩ := hl
  exact LsV.at (P := fun _ => P g) hz ⟨xs, hr.rd, hx⟩ hi
theorem Elt.ld2 {h : View} {o : Option Addr} {z i : Nat} {es : List Value} (E : Elt h o z i es) (hz : 0 < z) {w : World} (hs : Sub h (Vc.wv w)) {j m : Nat} {u : Value} (hu : es[j + m]? = some u) {K : Value → Prop} (hK : K u) : TSome o fun a => LoadC w (((a.add ((i : Int).toNat * z)).add j).add m) K := by
  obtain ⟨b, off, cs, T, fz, rfl, hb, hc⟩ := E.blk hz
  refine TSome.mk ?_
  rw [addr_add, addr_add, addr_add, Int.toNat_natCast]
  exact LoadC.at hs hb (by rw [show off + i * z + j + m = off + i * z + (j + m) by omega]; exact hc _ _ hu) hK
theorem Elt.ld3 {h : View} {o : Option Addr} {z i : Nat} {es : List Value} (E : Elt h o z i es) (hz : 0 < z) {w : World} (hs : Sub h (Vc.wv w)) {j m n : Nat} {u : Value} (hu : es[j + m + n]? = some u) {K : Value → Prop} (hK : K u) : TSome o fun a => LoadC w ((((a.add ((i : Int).toNat * z)).add j).add m).add n) K := by
  obtain ⟨b, off, cs, T, fz, rfl, hb, hc⟩ := E.blk hz
  refine TSome.mk ?_
  rw [addr_add, addr_add, addr_add, addr_add, Int.toNat_natCast]
  exact LoadC.at hs hb (by rw [show off + i * z + j + m + n = off + i * z + (j + m + n) by omega]; exact hc _ _ hu) hK
theorem LoopNBI.up {w : World} {k : IntKind} {n0 : Int} {b0 : Bool} (n : Nat) (Inv : Nat → Int → Bool → World → Prop) (F : (List Value → World → Prop) → Int → Bool → Int → World → Prop) (h0 : Inv 0 n0 b0 w)
    (hs : ∀ i x b w1 B, i ≤ n → Inv i x b w1 → (∀ x b w2, i < n → Inv (i + 1) x b w2 → B [.int k x, .bool b, .int .i64 ((i : Int) + 1)] w2) → F B x b (i : Int) w1) :
    ∃ (I : List Value → World → Prop) (m : List Value → World → Nat), I [.int k n0, .bool b0, .int .i64 0] w ∧ ∀ (_ : Env) (w2 : World), ∀ (n7 : Int) (b8 : Bool) (n9 : Int), I [.int k n7, .bool b8, .int .i64 n9] w2 → F (Back I m [.int k n7, .bool b8, .int .i64 n9] w2) n7 b8 n9 w2 := by
  refine ⟨fun vs w' => ∃ (i : Nat) (x : Int) (b : Bool), i ≤ n ∧ vs = [.int k x, .bool b, .int .i64 i] ∧ Inv i x b w', fun vs _ => ((n : Int) - thirdI vs).toNat, ⟨0, n0, b0, Nat.zero_le _, rfl, h0⟩, ?_⟩
  rintro _ w1 x b _ ⟨i, x', b', hi, e, hI⟩
  simp only [List.cons.injEq, Value.int.injEq, Value.bool.injEq, true_and, and_true] at e
  obtain ⟨rfl, rfl, rfl⟩ := e
  refine hs i _ _ w1 _ hi hI fun x b w2 hlt hI2 => ⟨⟨i + 1, x, b, hlt, by simp, hI2⟩, ?_⟩
  show ((n : Int) - ((i : Int) + 1)).toNat < ((n : Int) - i).toNat
  omega
def oS : OpR := ⟨9, [47], [], 0, 0, []⟩
theorem callS : clCall ⟨2, 0, OpR.zero, false⟩ oS = (⟨2, 1, oS, true⟩, 1, 0) := by
  unfold clCall; rw [if_neg (by simp), if_pos (by decide)]; rfl
def mS : MsgR := ⟨2, 0, 0, 0, 0, 0, 0, List.replicate 32 0, 2, 1, OpR.zero, ⟨0, 7, [], []⟩, [], []⟩
theorem mS_ok : mS.ok := by unfold MsgR.ok mS; simp
theorem mS_right : mS.right := by unfold MsgR.right mS; simp [AnsR.right]
theorem hitS : clHit ⟨2, 1, oS, true⟩ mS := ⟨rfl, mS_right, rfl, rfl, rfl⟩
end Go.Vc
namespace Go.Proofs.YtdjgdcafmfheoaaDoor
open Go.Vc
attribute [local irreducible] TInt TBool TStr TPtr TSl TAgg TMap TChan T2 T3 T4 BS Req TSome TCell TByte LoadC LoadA StoreC AllocC RunV RunU CallV ExtV EqA StableC StableA StableV TCells ReadV
attribute [local irreducible] eU eT eE
attribute [local irreducible] DrewC eH many rdM wrM eHb rdOp rdAns
theorem AskL.go {s : ClR} {c c' : Nat → Nat} {w w' : World} {W N : List Nat} {T : Nat} {g : View} {v : Value} {l : List (Nat × MsgR)} (L : LsO (AskP s c w) T 53 (view c 4 w) g v l) (st : Step c W N w c' w') (h4 : 4 ∉ W) (h20 : ∀ i, 20 + i ∉ W) : LsO (AskP s c' w') T 53 (view c' 4 w') g v l :=
  L.map (fun _ _ hp => hp.mono (st.sub (h20 _))) (st.sub h4)
def OpQ (h : View) (o : OpR) (es : List Value) : Prop := ∃ v, es = o.cells v ∧ OpRV h o v
theorem OpQ.mono {h h' : View} {o : OpR} {es : List Value} (H : OpQ h o es) (hs : Sub h h') : OpQ h' o es := by
  obtain ⟨v, e, hv⟩ := H; exact ⟨v, e, RdS.mono hv hs⟩
theorem ans_all {h : View} {a : AnsR} {x y : Value} (A : AnsV h a x y) : (a.cells x y).toArray.all (·.oneCell') = true := by
  rw [Array.all_eq_true']; intro u hu; exact (ans_one A.d A.n (a := a)).2 u (by simpa using hu)
end Go.Proofs.YtdjgdcafmfheoaaDoor
namespace Go.Proofs.YtdjgdcafmfheoaaDoor.walkCl
open Go.Vc Go.ChangeShapes Go.WideShapes Go.ChangeAt Go.RowKit
attribute [local irreducible] TInt TBool TStr TPtr TSl TAgg TMap TChan T2 T3 T4 BS Req TSome TCell TByte LoadC LoadA StoreC AllocC RunV RunU CallV ExtV EqA StableC StableA StableV TCells ReadV
attribute [local irreducible] eU eT eE
attribute [local irreducible] DrewC eH many rdM wrM eHb rdOp rdAns
theorem fin {w : World} {c' w'} (S : Fx w c' w') : Below w.heap.size w w' := Step.below S fun _ => by simp
theorem speaks25 (c0 : Nat → Nat) {w : World} {R : Value → World → Prop} (hG : GlobS (wv w)) (h : ∀ c' w', Step c0 [] [0, 1, 2, 3, 4, 5, 6, 7, 8, 9, 20, 21, 22, 23, 24, 25, 26] w c' w' → R (.bool true) w') : CallV Tryd.prog 34 #[] w R := by
  have G : GlobS (view (fun _ => 0) 0 w) := by rw [view0]; exact hG
  have S := Fx.start w
  refine law25_speaks_vc ?_
  unfold law25_speaks_VC
  refine New_cl (fun _ => 0) 1 (fun hb => absurd (by omega) hb) (fun _ a c1 w1 st1 H => ?_)
  replace S := S.go st1 (by decide) (by decide); replace G := G.mono (st1.sub (by decide))
  refine T2.mk (TPtr.mk (TInt.mk (BS.no rfl ?_)))
  unfold law25_speaks_K1
  refine BS.no rfl ?_
  replace H := H (view c1 2 w1)
  refine Call_cl (i := 1) (k := 2) (t := 6) (o := oS) (v := nilV) (by decide) (by decide) (by decide) H (RdS.none_bytes ..) fun c2 w2 st2 H => ?_
  replace S := S.go st2 (by decide) (by decide); replace G := G.mono (st2.sub (by decide))
  rw [callS] at H ⊢
  refine T2.mk (TInt.mk (TInt.mk ?_))
  refine Ask_cl c2 H.all (fun _ => by decide) fun v3 c3 w3 st3 L1 => ?_
  replace H := H.go st3 (by decide) (by decide)
  replace S := S.go st3 (by decide) (by decide); replace G := G.mono (st3.sub (by decide))
  obtain ⟨o3, p3, rfl⟩ := L1.form
  refine TSl.mk ?_
  refine AllocC.col c3 8 fun a6 c4 w4 st4 b8 _ => ?_
  replace H := H.go st4.fresh (by decide) (by decide); replace L1 := AskL.go L1 st4.fresh (by decide) (fun i => by simp <;> omega)
  replace S := S.go st4.step (by decide) (by decide); replace G := G.mono (st4.step.sub (by decide))
  refine RunU.msg (m := mS) (v := nilV) (va := nilV) (ua := nilV) (vh := nilV) (vb := nilV) (h := view c4 0 w4) b8 rfl ⟨RdS.none_bytes .., ⟨RdS.none_bytes .., RdS.none_strs ..⟩, LsV.nil .., LsV.nil ..⟩ mS_ok fun w5 st5 b8 => ?_
  replace H := H.go st5.step (by decide) (by decide); replace L1 := AskL.go L1 st5.step (by decide) (fun i => by simp <;> omega)
  replace S := S.go st5.step (by decide) (by decide); replace G := G.mono (st5.step.sub (by decide))
  refine LoadA.all (view_sub _ _ _) b8 (msg_sz mS_ok) ?_
  refine Take_cl 1 2 0 5 6 7 9 (by decide) H (m := mS) ⟨RdS.none_bytes .., ⟨RdS.none_bytes .., RdS.none_strs ..⟩, LsV.nil .., LsV.nil ..⟩ mS_ok (G.mono (view_sub _ _ _)) fun x y c6 w6 st6 H A => ?_
  rw [clTake_yes hitS] at H A ⊢
  replace L1 := AskL.go L1 st6 (by decide) (fun i => by simp <;> omega); replace b8 := st6.sub (by decide) _ _ b8
  replace S := S.go st6 (by decide) (by decide); replace G := G.mono (st6.sub (by decide))
  refine T2.mk (TAgg.mk (TBool.mk ?_))
  refine AllocC.col c6 3 fun a7 c7 w7 st7 b3 _ => ?_
  replace H := H.go st7.fresh (by decide) (by decide); replace L1 := AskL.go L1 st7.fresh (by decide) (fun i => by simp <;> omega); replace b8 := st7.fresh.sub (by decide) _ _ b8; replace A := A.mono (st7.fresh.sub (by decide))
  replace S := S.go st7.step (by decide) (by decide); replace G := G.mono (st7.step.sub (by decide))
  refine RunU.var b3 (by kernel_rfl) rfl (ans_all A) fun w8 st8 b3 => ?_
  replace H := H.go st8.step (by decide) (by decide); replace L1 := AskL.go L1 st8.step (by decide) (fun i => by simp <;> omega); replace b8 := st8.step.sub (by decide) _ _ b8
  replace S := S.go st8.step (by decide) (by decide); replace G := G.mono (st8.step.sub (by decide))
  refine LoadA.all (view_sub _ _ _) b8 (msg_sz mS_ok) ?_
  refine Take_cl 1 2 0 5 6 7 9 (by decide) H (m := mS) ⟨RdS.none_bytes .., ⟨RdS.none_bytes .., RdS.none_strs ..⟩, LsV.nil .., LsV.nil ..⟩ mS_ok (G.mono (view_sub _ _ _)) fun x' y' c9 w9 st9 H A => ?_
  rw [clTake_no (fun hc => by simpa using hc.1)] at H A ⊢
  replace L1 := AskL.go L1 st9 (by decide) (fun i => by simp <;> omega); replace b3 := st9.sub (by decide) _ _ b3
  replace S := S.go st9 (by decide) (by decide); replace G := G.mono (st9.sub (by decide))
  refine T2.mk (TAgg.mk (TBool.mk ?_))
  refine AllocC.col c9 8 fun a9 c10 w10 st10 b8 _ => ?_
  replace H := H.go st10.fresh (by decide) (by decide); replace L1 := AskL.go L1 st10.fresh (by decide) (fun i => by simp <;> omega); replace b3 := st10.fresh.sub (by decide) _ _ b3; replace A := A.mono (st10.fresh.sub (by decide))
  replace S := S.go st10.step (by decide) (by decide); replace G := G.mono (st10.step.sub (by decide))
  refine RunU.var b8 (by kernel_rfl) rfl (ans_all A) fun w11 st11 b8 => ?_
  replace H := H.go st11.step (by decide) (by decide); replace L1 := AskL.go L1 st11.step (by decide) (fun i => by simp <;> omega); replace b3 := st11.step.sub (by decide) _ _ b3
  replace S := S.go st11.step (by decide) (by decide); replace G := G.mono (st11.step.sub (by decide))
  refine BS.yes rfl (BS.yes rfl (BS.yes rfl ?_))
  obtain ⟨es, ⟨_, v, rfl, hv⟩, E⟩ := LsO.at' (by omega) L1 (i := 2) (a := (2, askMsg ⟨2, 1, oS, true⟩ 2)) rfl
  refine Req.bnd ⟨by decide, by decide⟩ (E.ld (k := 2) (view_sub _ _ _) (u := .int .i64 2) rfl (TInt.mk (BS.yes rfl ?_)))
  refine Req.bnd ⟨by decide, by decide⟩ (E.ld (k := 1) (view_sub _ _ _) (u := .int .i64 102) rfl (TInt.mk (BS.yes rfl (BS.yes rfl ?_))))
  refine LoadC.ad (view_sub _ _ _) (.int .i64 7) b3 rfl (TInt.mk (BS.yes rfl ?_))
  exact h _ _ (S.leave c0)

theorem askL_len (s : ClR) : ((askL s 3).length : Int) = if s.waits = true then 3 else 0 := by
  cases h : s.waits
  · rw [askL_no h]; rfl
  · rw [askL_yes h, upL_length]; rfl
theorem once (ops : List OpR) (told : List MsgR) (o0 o1 : Option Addr) (p0 p1 : Nat) (w : World) (hO : LsV OpQ 6 (wv w) (.slice o0 ops.length p0) ops) (hT : LsV MsgP 53 (wv w) (.slice o1 told.length p1) told) (hG : GlobS (wv w)) :
    CallV Tryd.prog 12 #[.slice o0 ops.length p0, .slice o1 told.length p1] w fun r w' => r = .bool true ∧ Below w.heap.size w w' := by
  have G : GlobS (view (fun _ => 0) 0 w) := by rw [view0]; exact hG
  have t0 : LsV OpQ 6 (view (fun _ => 0) 0 w) (.slice o0 ops.length p0) ops := by rw [view0]; exact hO
  have t1 : LsV MsgP 53 (view (fun _ => 0) 0 w) (.slice o1 told.length p1) told := by rw [view0]; exact hT
  have S := Fx.start w
  refine law25_ClientOnce_vc ?_
  unfold law25_ClientOnce_VC
  refine speaks25 (fun _ => 0) (G.mono (view_sub _ _ _)) fun c1 w1 st1 => TBool.mk (BS.no rfl ?_)
  replace t0 := t0.mono' (fun _ _ hp => hp.mono (st1.sub (by decide))) (st1.sub (by decide)); replace t1 := t1.mono' (fun _ _ hp => hp.mono (st1.sub (by decide))) (st1.sub (by decide))
  replace S := S.go st1 (by decide) (by decide); replace G := G.mono (st1.sub (by decide))
  refine BS.dec (fun _ => ⟨rfl, fin S⟩) (fun hl0 => ?_)
  unfold law25_ClientOnce_K1
  refine BS.dec (fun _ => ⟨rfl, fin S⟩) (fun hl1 => ?_)
  refine New_cl c1 1 (fun hb => absurd (by omega) hb) (fun _ a c2 w2 st2 H => ?_)
  replace t0 := t0.mono' (fun _ _ hp => hp.mono (st2.sub (by decide))) (st2.sub (by decide)); replace t1 := t1.mono' (fun _ _ hp => hp.mono (st2.sub (by decide))) (st2.sub (by decide))
  replace S := S.go st2 (by decide) (by decide); replace G := G.mono (st2.sub (by decide))
  refine T2.mk (TPtr.mk (TInt.mk (BS.no rfl ?_)))
  replace H := H (view c2 2 w2)
  refine LoopNBI.up (max ops.length told.length) (fun _ x b w' => ∃ (s : ClR) (c' : Nat → Nat), x = (s.number : Int) ∧ b = s.waits ∧ Fx w c' w' ∧ GlobS (view c' 0 w') ∧ LsV OpQ 6 (view c' 0 w') (.slice o0 ops.length p0) ops ∧ LsV MsgP 53 (view c' 0 w') (.slice o1 told.length p1) told ∧ ClV 140 (view c' 1 w') (view c' 2 w') a s ∧ s.id = 1 ∧ (s.waits = true → s.op.data.length ≤ 64))
    (fun B n7 b8 n9 w2 => BS (decide (n9 < ((ops.length : Nat) : Int))) (law25_ClientOnce_K2 o0 ops.length p0 o1 told.length p1 (some a) n7 b8 n9 true B w2 (fun r w' => r = .bool true ∧ Below w.heap.size w w')) (law25_ClientOnce_K2 o0 ops.length p0 o1 told.length p1 (some a) n7 b8 n9 (decide (n9 < ((told.length : Nat) : Int))) B w2 (fun r w' => r = .bool true ∧ Below w.heap.size w w')))
    ⟨⟨1, 0, OpR.zero, false⟩, c2, rfl, rfl, S, G, t0, t1, H, rfl, fun h => by simp at h⟩ ?_
  clear S G t0 t1 H
  rintro i _ _ w3 B hi ⟨s, c3, rfl, rfl, S, G, t0, t1, H, hid, h64⟩ back
  have hm : i ≤ 40 := by omega
  -- the end of a round
  have k10 : ∀ (s : ClR) c' w', i < max ops.length told.length → Fx w c' w' ∧ GlobS (view c' 0 w') ∧ LsV OpQ 6 (view c' 0 w') (.slice o0 ops.length p0) ops ∧ LsV MsgP 53 (view c' 0 w') (.slice o1 told.length p1) told ∧ ClV 140 (view c' 1 w') (view c' 2 w') a s ∧ s.id = 1 ∧ (s.waits = true → s.op.data.length ≤ 64) → law25_ClientOnce_K10 o0 ops.length p0 o1 told.length p1 (some a) (s.number : Int) s.waits (i : Int) B w' (fun r w' => r = .bool true ∧ Below w.heap.size w w') := by
    clear S G t0 t1 H hid h64
    rintro s c4 w4 hlt ⟨S, G, t0, t1, H, hid, h64⟩
    unfold law25_ClientOnce_K10
    refine Waiting_c H (view_sub _ _ _) (TBool.mk (BS.no (by simp) ?_))
    refine Ask_cl c4 H.all h64 fun v5 c5 w5 st5 L1 => ?_
    replace t0 := t0.mono' (fun _ _ hp => hp.mono (st5.sub (by decide))) (st5.sub (by decide)); replace t1 := t1.mono' (fun _ _ hp => hp.mono (st5.sub (by decide))) (st5.sub (by decide)); replace H := H.go st5 (by decide) (by decide)
    replace S := S.go st5 (by decide) (by decide); replace G := G.mono (st5.sub (by decide))
    obtain ⟨o5, p5, rfl⟩ := L1.form
    refine TSl.mk ?_
    rw [askL_len]
    refine BS.no (by cases s.waits <;> rfl) ?_
    rw [wrap_i64 (by omega) (by omega)]
    exact back _ _ _ hlt ⟨s, c5, rfl, rfl, S, G, t0, t1, H, hid, h64⟩
  -- a message is told
  have k6 : ∀ (s : ClR) c' w', i < max ops.length told.length → Fx w c' w' ∧ GlobS (view c' 0 w') ∧ LsV OpQ 6 (view c' 0 w') (.slice o0 ops.length p0) ops ∧ LsV MsgP 53 (view c' 0 w') (.slice o1 told.length p1) told ∧ ClV 140 (view c' 1 w') (view c' 2 w') a s ∧ s.id = 1 ∧ (s.waits = true → s.op.data.length ≤ 64) → law25_ClientOnce_K6 o0 ops.length p0 o1 told.length p1 (some a) (s.number : Int) s.waits (i : Int) (decide ((i : Int) < ((told.length : Nat) : Int))) B w' (fun r w' => r = .bool true ∧ Below w.heap.size w w') := by
    clear S G t0 t1 H hid h64
    rintro s c4 w4 hlt ⟨S, G, t0, t1, H, hid, h64⟩
    unfold law25_ClientOnce_K6
    refine BS.dec (fun hl => ?_) (fun _ => k10 s c4 w4 hlt ⟨S, G, t0, t1, H, hid, h64⟩)
    obtain ⟨m, hm⟩ := get_of_lt (l := told) (i := i) (by omega)
    obtain ⟨es, ⟨v, va, ua, vh, vb, rfl, M, ok⟩, E1⟩ := LsV.at (by omega) t1 hm
    refine Req.bnd ⟨by omega, by omega⟩ (E1.all (view_sub _ _ _) ?_)
    refine Take_cl 1 2 0 5 6 7 9 (by decide) H M ok (G.mono (view_sub _ _ _)) fun x y c6 w6 st6 H A => ?_
    replace t0 := t0.mono' (fun _ _ hp => hp.mono (st6.sub (by decide))) (st6.sub (by decide)); replace t1 := t1.mono' (fun _ _ hp => hp.mono (st6.sub (by decide))) (st6.sub (by decide)); replace E1 := E1.mono (st6.sub (by decide))
    replace S := S.go st6 (by decide) (by decide); replace G := G.mono (st6.sub (by decide))
    refine T2.mk (TAgg.mk (TBool.mk ?_))
    refine AllocC.col c6 3 fun a7 c7 w7 st7 b3 _ => ?_
    replace t0 := t0.mono' (fun _ _ hp => hp.mono (st7.fresh.sub (by decide))) (st7.fresh.sub (by decide)); replace t1 := t1.mono' (fun _ _ hp => hp.mono (st7.fresh.sub (by decide))) (st7.fresh.sub (by decide)); replace H := H.go st7.fresh (by decide) (by decide); replace A := A.mono (st7.fresh.sub (by decide)); replace E1 := E1.mono (st7.fresh.sub (by decide))
    replace S := S.go st7.step (by decide) (by decide); replace G := G.mono (st7.step.sub (by decide))
    refine RunU.var b3 (by kernel_rfl) rfl (ans_all A) fun w8 st8 b3 => ?_
    replace t0 := t0.mono' (fun _ _ hp => hp.mono (st8.step.sub (by decide))) (st8.step.sub (by decide)); replace t1 := t1.mono' (fun _ _ hp => hp.mono (st8.step.sub (by decide))) (st8.step.sub (by decide)); replace H := H.go st8.step (by decide) (by decide); replace E1 := E1.mono (st8.step.sub (by decide))
    replace S := S.go st8.step (by decide) (by decide); replace G := G.mono (st8.step.sub (by decide))
    have g := msg_gets (m := m) (v := v) (va := va) (ua := ua) (vh := vh) (vb := vb) ok.2.2.2.2.2.1
    unfold law25_ClientOnce_K7
    by_cases hit : clHit s m
    · rw [clTake_yes hit] at H ⊢
      refine BS.yes rfl ?_
      refine BS.nb (fun hw => by rw [hit.1] at hw; simp at hw) (fun hw => ?_)
      refine Req.bnd ⟨by omega, by omega⟩ (E1.ld2 (by omega) (view_sub _ _ _) (j := 39) (m := 1) (by rw [← List.getElem?_toArray]; exact g.g40) (TInt.mk ?_))
      refine BS.no (by rw [hit.2.2.2.2]; simp) ?_
      refine Req.bnd ⟨by omega, by omega⟩ (E1.ld2 (by omega) (view_sub _ _ _) (j := 39) (m := 0) (by rw [← List.getElem?_toArray]; exact g.g39) (TInt.mk ?_))
      unfold law25_ClientOnce_K8
      refine BS.no (by rw [hit.2.2.2.1, hid]; rfl) ?_
      unfold law25_ClientOnce_K9
      refine BS.yes hw ?_
      exact k10 ⟨s.id, s.number, s.op, false⟩ _ _ hlt ⟨S, G, t0, t1, H, hid, fun h => by simp at h⟩
    · rw [clTake_no hit] at H ⊢
      refine BS.no rfl ?_
      have := k10 s _ _ hlt ⟨S, G, t0, t1, H, hid, h64⟩
      refine BS.mk (fun hw => ?_) (fun hw => ?_)
      · rw [hw] at this; exact this
      · rw [hw] at this; exact this
  have k3 : i < max ops.length told.length → law25_ClientOnce_K3 o0 ops.length p0 o1 told.length p1 (some a) (s.number : Int) s.waits (i : Int) B w3 (fun r w' => r = .bool true ∧ Below w.heap.size w w') := by
    intro hlt
    unfold law25_ClientOnce_K3
    refine BS.dec (fun hl => ?_) (fun _ => k6 s c3 w3 hlt ⟨S, G, t0, t1, H, hid, h64⟩)
    obtain ⟨o, ho⟩ := get_of_lt (l := ops) (i := i) (by omega)
    obtain ⟨es, ⟨v, rfl, hv⟩, E⟩ := LsV.at (by omega) t0 ho
    refine Req.bnd ⟨by omega, by omega⟩ (E.all (view_sub _ _ _) ?_)
    refine Call_cl (i := 1) (k := 2) (t := 6) (by decide) (by decide) (by decide) H (RdS.mono hv (view_sub _ _ _)) fun c4 w4 st4 H => ?_
    replace t0 := t0.mono' (fun _ _ hp => hp.mono (st4.sub (by decide))) (st4.sub (by decide)); replace t1 := t1.mono' (fun _ _ hp => hp.mono (st4.sub (by decide))) (st4.sub (by decide))
    replace S := S.go st4 (by decide) (by decide); replace G := G.mono (st4.sub (by decide))
    refine T2.mk (TInt.mk (TInt.mk ?_))
    cases hw : s.waits
    · by_cases hr : o.right
      · have e : clCall s o = (⟨s.id, (s.number + 1) % 18446744073709551616, o, true⟩, (s.number + 1) % 18446744073709551616, 0) := by unfold clCall; rw [if_neg (by simp [hw]), if_pos hr]
        rw [e] at H ⊢
        refine BS.yes rfl (BS.no rfl ?_)
        unfold law25_ClientOnce_K4
        refine BS.no (by rw [wrap_next]; simp) ?_
        unfold law25_ClientOnce_K5
        exact k6 ⟨s.id, (s.number + 1) % 18446744073709551616, o, true⟩ _ _ hlt ⟨S, G, t0, t1, H, hid, fun _ => hr.2.2.2.2.2.2.2.2⟩
      · have e : clCall s o = (s, 0, 1) := by unfold clCall; rw [if_neg (by simp [hw]), if_neg hr]
        rw [e] at H ⊢
        refine BS.no rfl ?_
        have := k6 s _ _ hlt ⟨S, G, t0, t1, H, hid, h64⟩
        rw [hw] at this; exact this
    · have e : clCall s o = (s, 0, 261) := by unfold clCall; rw [if_pos hw]
      rw [e] at H ⊢
      refine BS.no rfl ?_
      have := k6 s _ _ hlt ⟨S, G, t0, t1, H, hid, h64⟩
      rw [hw] at this; exact this
  unfold law25_ClientOnce_K2
  refine BS.dec (fun hl => BS.yes rfl (k3 (by omega))) (fun _ => BS.dec (fun hl => k3 (by omega)) (fun _ => ⟨rfl, fin S⟩))

theorem askL_full {s : ClR} (h : s.waits = true) (n : Int) : ((askL s n).length : Int) = max 0 (min n 7) := by
  rw [askL_yes h, upL_length]; unfold askN; omega
theorem again (o : OpR) (vo : Value) (told : List MsgR) (o1 : Option Addr) (p1 : Nat) (n : Int) (w : World) (hO : OpRV (wv w) o vo) (hT : LsV MsgP 53 (wv w) (.slice o1 told.length p1) told) (hG : GlobS (wv w)) :
    CallV Tryd.prog 13 #[.agg (o.cells vo).toArray, .slice o1 told.length p1, .int .i64 n] w fun r w' => r = .bool true ∧ Below w.heap.size w w' := by
  have G : GlobS (view (fun _ => 0) 0 w) := by rw [view0]; exact hG
  obtain ⟨ov, pv, rfl⟩ := RdS.form hO
  have D : RdS (view (fun _ => 0) 0 w) (.slice ov o.data.length pv) 1 o.data.length (bvs o.data) := by rw [view0]; exact hO
  have t1 : LsV MsgP 53 (view (fun _ => 0) 0 w) (.slice o1 told.length p1) told := by rw [view0]; exact hT
  have S := Fx.start w
  refine law25_ClientAgain_vc ?_
  unfold law25_ClientAgain_VC
  refine AllocC.col (fun _ => 0) 8 fun a3 c1 w1 st1 b8 _ => ?_
  replace D := D.mono (st1.fresh.sub (by decide)); replace t1 := t1.mono' (fun _ _ hp => hp.mono (st1.fresh.sub (by decide))) (st1.fresh.sub (by decide))
  replace S := S.go st1.step (by decide) (by decide); replace G := G.mono (st1.step.sub (by decide))
  refine speaks25 c1 (G.mono (view_sub _ _ _)) fun c2 w2 st2 => TBool.mk (BS.no rfl ?_)
  replace D := D.mono (st2.sub (by decide)); replace t1 := t1.mono' (fun _ _ hp => hp.mono (st2.sub (by decide))) (st2.sub (by decide)); replace b8 := st2.sub (by decide) _ _ b8
  replace S := S.go st2 (by decide) (by decide); replace G := G.mono (st2.sub (by decide))
  refine LoadA.all (view_sub _ _ _) b8 rfl ?_
  refine Great_c c2 9 (h0 := view c2 0 w2) D fun c3 w3 st3 => TBool.mk ?_
  replace D := D.mono (st3.sub (by decide)); replace t1 := t1.mono' (fun _ _ hp => hp.mono (st3.sub (by decide))) (st3.sub (by decide)); replace b8 := st3.sub (by decide) _ _ b8
  replace S := S.go st3 (by decide) (by decide); replace G := G.mono (st3.sub (by decide))
  refine BS.dec (fun _ => ⟨rfl, fin S⟩) (fun _ => ?_)
  unfold law25_ClientAgain_K1
  refine BS.dec (fun _ => ⟨rfl, fin S⟩) (fun hl1 => ?_)
  refine New_cl c3 1 (fun hb => absurd (by omega) hb) (fun _ a c4 w4 st4 H => ?_)
  replace D := D.mono (st4.sub (by decide)); replace t1 := t1.mono' (fun _ _ hp => hp.mono (st4.sub (by decide))) (st4.sub (by decide)); replace b8 := st4.sub (by decide) _ _ b8
  replace S := S.go st4 (by decide) (by decide); replace G := G.mono (st4.sub (by decide))
  refine T2.mk (TPtr.mk (TInt.mk (BS.no rfl ?_)))
  replace H := H (view c4 2 w4)
  refine LoadA.all (view_sub _ _ _) b8 rfl ?_
  refine Call_cl (i := 1) (k := 2) (t := 6) (by decide) (by decide) (by decide) H (RdS.mono D (view_sub _ _ _)) fun c5 w5 st5 H => ?_
  replace D := D.mono (st5.sub (by decide)); replace t1 := t1.mono' (fun _ _ hp => hp.mono (st5.sub (by decide))) (st5.sub (by decide))
  replace S := S.go st5 (by decide) (by decide); replace G := G.mono (st5.sub (by decide))
  refine T2.mk (TInt.mk (TInt.mk ?_))
  by_cases hr : o.right
  · have e : clCall ⟨2, 0, OpR.zero, false⟩ o = (⟨2, 1, o, true⟩, 1, 0) := by unfold clCall; rw [if_neg (by simp), if_pos hr]; rfl
    rw [e] at H ⊢
    refine BS.no rfl ?_
    have h64 := hr.2.2.2.2.2.2.2.2
    refine Ask_cl c5 H.all (fun _ => h64) fun v6 c6 w6 st6 L1 => ?_
    replace D := D.mono (st6.sub (by decide)); replace t1 := t1.mono' (fun _ _ hp => hp.mono (st6.sub (by decide))) (st6.sub (by decide)); replace H := H.go st6 (by decide) (by decide)
    replace S := S.go st6 (by decide) (by decide); replace G := G.mono (st6.sub (by decide))
    obtain ⟨oL, pL, rfl⟩ := L1.form
    refine TSl.mk ?_
    refine BS.no (by rw [askL_full rfl]; simp) ?_
    generalize wv w5 = g at L1
    refine LoopI.up told.length (fun i w' => ∃ c', Fx w c' w' ∧ GlobS (view c' 0 w') ∧ LsV MsgP 53 (view c' 0 w') (.slice o1 told.length p1) told ∧ ClV 140 (view c' 1 w') (view c' 2 w') a ⟨2, 1, o, true⟩ ∧ LsO (AskP ⟨2, 1, o, true⟩ c' w') 38 53 (view c' 4 w') g (.slice oL (askL ⟨2, 1, o, true⟩ n).length pL) (askL ⟨2, 1, o, true⟩ n)) ⟨c6, S, G, t1, H, L1⟩ ?_
    clear S G t1 H L1 D
    rintro i w7 B hi ⟨c7, S, G, t1, H, L1⟩ back
    refine BS.dec (fun hl => ?_) (fun _ => ?_)
    · obtain ⟨m, hm⟩ := get_of_lt (l := told) (i := i) (by omega)
      obtain ⟨es, ⟨v, va, ua, vh, vb, rfl, M, ok⟩, E1⟩ := LsV.at (by omega) t1 hm
      refine Req.bnd ⟨by omega, by omega⟩ (E1.all (view_sub _ _ _) ?_)
      refine AllocC.col c7 8 fun a8 c8 w8 st8 b8 _ => ?_
      replace t1 := t1.mono' (fun _ _ hp => hp.mono (st8.fresh.sub (by decide))) (st8.fresh.sub (by decide)); replace H := H.go st8.fresh (by decide) (by decide); replace M := M.mono (st8.fresh.sub (by decide)); replace L1 := AskL.go L1 st8.fresh (by decide) (fun i => by simp <;> omega)
      replace S := S.go st8.step (by decide) (by decide); replace G := G.mono (st8.step.sub (by decide))
      refine RunU.msg b8 rfl M ok fun w9 st9 b8 => ?_
      replace t1 := t1.mono' (fun _ _ hp => hp.mono (st9.step.sub (by decide))) (st9.step.sub (by decide)); replace H := H.go st9.step (by decide) (by decide); replace L1 := AskL.go L1 st9.step (by decide) (fun i => by simp <;> omega)
      replace M := M.mono (st9.step.sub (by decide))
      replace S := S.go st9.step (by decide) (by decide); replace G := G.mono (st9.step.sub (by decide))
      have g' := msg_gets (m := m) (v := v) (va := va) (ua := ua) (vh := vh) (vb := vb) ok.2.2.2.2.2.1
      have k3 : ¬ clHit ⟨2, 1, o, true⟩ m → law25_ClientAgain_K3 n (some a) 1 oL (askL ⟨2, 1, o, true⟩ n).length pL ⟨a8, 0, none⟩ o1 told.length p1 (told.length : Int) (i : Int) B w9 (fun r w' => r = .bool true ∧ Below w.heap.size w w') := by
        intro hno
        unfold law25_ClientAgain_K3
        refine LoadA.all (view_sub _ _ _) b8 (msg_sz ok) ?_
        refine Take_cl 1 2 0 5 6 7 9 (by decide) H M ok (G.mono (view_sub _ _ _)) fun x y c10 w10 st10 H A => ?_
        rw [clTake_no hno] at H A ⊢
        replace t1 := t1.mono' (fun _ _ hp => hp.mono (st10.sub (by decide))) (st10.sub (by decide)); replace L1 := AskL.go L1 st10 (by decide) (fun i => by simp <;> omega)
        replace S := S.go st10 (by decide) (by decide); replace G := G.mono (st10.sub (by decide))
        refine T2.mk (TAgg.mk (TBool.mk ?_))
        refine AllocC.col c10 3 fun a11 c11 w11 st11 b3 _ => ?_
        replace t1 := t1.mono' (fun _ _ hp => hp.mono (st11.fresh.sub (by decide))) (st11.fresh.sub (by decide)); replace H := H.go st11.fresh (by decide) (by decide); replace A := A.mono (st11.fresh.sub (by decide)); replace L1 := AskL.go L1 st11.fresh (by decide) (fun i => by simp <;> omega)
        replace S := S.go st11.step (by decide) (by decide); replace G := G.mono (st11.step.sub (by decide))
        refine RunU.var b3 (by kernel_rfl) rfl (ans_all A) fun w12 st12 b3 => ?_
        replace t1 := t1.mono' (fun _ _ hp => hp.mono (st12.step.sub (by decide))) (st12.step.sub (by decide)); replace H := H.go st12.step (by decide) (by decide); replace L1 := AskL.go L1 st12.step (by decide) (fun i => by simp <;> omega)
        replace S := S.go st12.step (by decide) (by decide); replace G := G.mono (st12.step.sub (by decide))
        refine BS.no rfl ?_
        refine Ask_cl c11 H.all (fun _ => h64) fun v13 c13 w13 st13 L2 => ?_
        replace t1 := t1.mono' (fun _ _ hp => hp.mono (st13.sub (by decide))) (st13.sub (by decide)); replace H := H.go st13 (by decide) (by decide); replace L1 := AskL.go L1 st13 (by decide) (fun i => by simp <;> omega)
        replace S := S.go st13 (by decide) (by decide); replace G := G.mono (st13.sub (by decide))
        replace L2 : LsO (AskP ⟨2, 1, o, true⟩ c13 w13) 38 53 (view c13 4 w13) (wv w12) v13 (askL ⟨2, 1, o, true⟩ n) := L2
        obtain ⟨oM, pM, rfl⟩ := L2.form
        have hN : (askL ⟨2, 1, o, true⟩ n).length ≤ 7 := by rw [askL_yes rfl, upL_length]; exact askN_le n
        refine TSl.mk ?_
        generalize wv w12 = g2 at L2
        refine LoopI.up (askL ⟨2, 1, o, true⟩ n).length (fun j w' => ∃ c', (Fx w c' w' ∧ GlobS (view c' 0 w') ∧ LsV MsgP 53 (view c' 0 w') (.slice o1 told.length p1) told ∧ ClV 140 (view c' 1 w') (view c' 2 w') a ⟨2, 1, o, true⟩ ∧ LsO (AskP ⟨2, 1, o, true⟩ c' w') 38 53 (view c' 4 w') g (.slice oL (askL ⟨2, 1, o, true⟩ n).length pL) (askL ⟨2, 1, o, true⟩ n)) ∧ LsO (AskP ⟨2, 1, o, true⟩ c' w') 38 53 (view c' 4 w') g2 (.slice oM (askL ⟨2, 1, o, true⟩ n).length pM) (askL ⟨2, 1, o, true⟩ n)) ⟨c13, ⟨S, G, t1, H, L1⟩, L2⟩ ?_
        clear S G t1 H L1 L2 M b8 A b3
        rintro j w14 B2 hj ⟨c14, ⟨S, G, t1, H, L1⟩, L2⟩ back2
        refine BS.dec (fun hlj => ?_) (fun _ => ?_)
        · refine DrewC.col c14 fun w15 st15 => ?_
          replace t1 := t1.mono' (fun _ _ hp => hp.mono (st15.sub (by decide))) (st15.sub (by decide)); replace H := H.go st15 (by decide) (by decide); replace L1 := AskL.go L1 st15 (by decide) (fun i => by simp <;> omega); replace L2 := AskL.go L2 st15 (by decide) (fun i => by simp <;> omega)
          replace S := S.go st15 (by decide) (by decide); replace G := G.mono (st15.sub (by decide))
          have hask := askL_yes (s := ⟨2, 1, o, true⟩) rfl n
          obtain ⟨p, hp⟩ := get_of_lt (l := askL ⟨2, 1, o, true⟩ n) (i := j) (by omega)
          obtain ⟨es1, ⟨e1, v1, rfl, hv1⟩, F1⟩ := LsO.at' (by omega) L2 hp
          obtain ⟨es2, ⟨e2, v2, rfl, hv2⟩, F2⟩ := LsO.at' (by omega) L1 hp
          refine Req.bnd ⟨by omega, by omega⟩ (F1.all (view_sub _ _ _) (Req.bnd ⟨by omega, by omega⟩ (F2.all (view_sub _ _ _) ?_)))
          refine Same19_c c14 9 (askV (hv1.rd.mono (view_sub _ _ _))) (askV (hv2.rd.mono (view_sub _ _ _))) (askMsg_ok (s := ⟨2, 1, o, true⟩) (show 1 < 18446744073709551616 by omega) _) (askMsg_ok (s := ⟨2, 1, o, true⟩) (show 1 < 18446744073709551616 by omega) _) (askMsg_fair _ _) fun b c16 w16 st16 hb => TBool.mk ?_
          replace t1 := t1.mono' (fun _ _ hp => hp.mono (st16.sub (by decide))) (st16.sub (by decide)); replace H := H.go st16 (by decide) (by decide); replace L1 := AskL.go L1 st16 (by decide) (fun i => by simp <;> omega); replace L2 := AskL.go L2 st16 (by decide) (fun i => by simp <;> omega)
          replace S := S.go st16 (by decide) (by decide); replace G := G.mono (st16.sub (by decide))
          rw [hb.2 rfl]
          refine BS.no rfl ?_
          rw [wrap_i64 (by omega) (by omega)]
          exact back2 _ (by omega) ⟨c16, ⟨S, G, t1, H, L1⟩, L2⟩
        · rw [wrap_i64 (by omega) (by omega)]
          exact back _ (by omega) ⟨c14, S, G, t1, H, L1⟩
      refine LoadC.ad (view_sub _ _ _) (.int .i64 m.kind) b8 rfl (TInt.mk ?_)
      refine BS.eq (fun hk => ?_) (fun hk => k3 (fun hc => hk hc.2.2.1))
      simp only [add_add]
      refine LoadC.ad (view_sub _ _ _) _ b8 g'.g39 (TInt.mk ?_)
      refine BS.eq (fun hk => ?_) (fun hk => k3 (fun hc => hk hc.2.2.2.1))
      refine LoadC.ad (view_sub _ _ _) _ b8 g'.g40 (TInt.mk ?_)
      unfold law25_ClientAgain_K2
      refine BS.eq (fun hk => ?_) (fun hk => k3 (fun hc => hk (by have := hc.2.2.2.2; simp at this; rw [this])))
      rw [wrap_i64 (by omega) (by omega)]
      exact back _ (by omega) ⟨c8, S, G, t1, H, L1⟩
    · refine Waiting_c H (view_sub _ _ _) (TBool.mk ⟨rfl, fin S⟩)
  · have e : clCall ⟨2, 0, OpR.zero, false⟩ o = (⟨2, 0, OpR.zero, false⟩, 0, 1) := by unfold clCall; rw [if_neg (by simp), if_neg hr]
    rw [e] at H ⊢
    refine BS.yes rfl ?_
    refine Waiting_c H (view_sub _ _ _) (TBool.mk (BS.yes rfl ?_))
    refine Ask_cl c5 H.all (fun h => by simp at h) fun v6 c6 w6 st6 L1 => ?_
    replace H := H.go st6 (by decide) (by decide)
    replace S := S.go st6 (by decide) (by decide); replace G := G.mono (st6.sub (by decide))
    obtain ⟨oL, pL, rfl⟩ := L1.form
    refine TSl.mk ?_
    rw [askL_no rfl]
    exact ⟨rfl, fin S⟩
end Go.Proofs.YtdjgdcafmfheoaaDoor.walkCl

/-
  Blocks in sectors: what the functions do, each once.
-/
import Derived.Test.YtpblhjgpfmmafaaDoorGenSec
import Derived.Test.YtpblhjgpfmmafaaDoorSecD
import Derived.Test.YtpblhjgpfmmafaaDoorApp0
import Derived.Test.YtpblhjgpfmmafaaDoorSlEq
import Derived.Test.YtpblhjgpfmmafaaDoorRef02
import Derived.Test.YtpblhjgpfmmafaaDoorSha4
set_option linter.unusedVariables false
set_option linter.unusedSimpArgs false
namespace Go.Proofs.YtpblhjgpfmmafaaDoor
open Go.Vc
attribute [local irreducible] TInt TBool TStr TPtr TSl TAgg TMap TChan T2 T3 T4 BS Req TSome TCell TByte LoadC LoadA StoreC AllocC RunV RunU CallV ExtV EqA StableC StableA StableV TCells ReadV
attribute [local irreducible] DrewC

theorem made_u8 (n : Nat) : madeCells #[Value.int .u8 0] (n * 1) = (bvs (List.replicate n 0)).toArray := by
  apply Array.ext'
  apply List.ext_getElem?
  intro i
  rw [Nat.mul_one]
  rcases Nat.lt_or_ge i n with h | h
  · simp [madeCells, bvs, bv, h, Nat.mod_one]
  · rw [List.getElem?_eq_none (by simp [madeCells]; omega), List.getElem?_eq_none (by simp; omega)]
/-- a number of bytes of an eye -/
theorem Eye_R {c : Nat → Nat} {i : Nat} {w : World} {a : Addr} {l : List UInt8} {n : Int} {R : Value → World → Prop}
    (hp : EyeV (view c i w) a l) (j : Nat) (hm : l.length ≤ 140737488355328) (k : Nat) (hn : n = k)
    (h : ∀ v c' w', Step c [i] [j] w c' w' → EyeV (view c' i w') a (eR k l).2.1 → OwS (view c' j w') v 5 1 (eR k l).1.length (bvs (eR k l).1) → R (.tuple #[v, .int .i64 (eR k l).2.2]) w') :
    CallV Tryd.prog 39 #[.pointer (some a), .int .i64 n] w R := by
  subst hn
  refine Eye_Raw hp j hm (fun hb => by omega) (fun _ hs => ?_) (fun _ hs v c1 w1 st _ he ho => ?_)
  · have := h (.slice none 0 0) c w (.refl ..)
    unfold eR at this
    rw [if_neg (by omega)] at this
    exact this hp (OwS.nil ..)
  · have := h v c1 w1 st
    unfold eR at this
    rw [if_pos (by omega)] at this
    rw [Int.toNat_natCast] at *
    refine this he ?_
    have hl2 : (l.take k).length = k := by rw [List.length_take]; omega
    show OwS _ _ _ _ (l.take k).length _
    rw [hl2]; exact ho

theorem zeroU8 : (Tryd.prog.info? 5).bind (·.zero) = some (.int .u8 0) := by kernel_rfl
theorem full_c (c : Nat → Nat) (j : Nat) {w : World} {a : Addr} {l : List UInt8} {R : Value → World → Prop} (hp : PenV (wv w) a l) (hm : l.length ≤ 512)
    (h : ∀ v c' w', Step c [] [j] w c' w' → OwS (view c' j w') v 5 1 (pad512 l).length (bvs (pad512 l)) → R v w') : CallV Tryd.prog 35 #[.pointer (some a)] w R := by
  have P : PenV (view (fun _ => 0) 0 w) a l := by rw [view0]; exact hp
  have S := Fr.start w
  refine sector_full_vc ?_
  unfold sector_full_VC
  refine Pen_Data 1 P (by omega) fun v1 c1 w1 st1 ho => ?_
  replace S := S.go st1 (by decide) (by decide); replace P := P.mono (st1.sub (by decide))
  obtain ⟨o1, p1, rfl⟩ := ho.form
  refine TSl.mk ?_
  rw [wrap_i64 (by omega) (by omega), show (512 : Int) - ((l.length : Nat) : Int) = ((512 - l.length : Nat) : Int) by omega]
  refine app_zeros slU8 Tryd.underlying3 zeroU8 ho (by omega) fun o2 p2 c2 w2 st2 ho => TSl.mk ?_
  replace S := S.go st2.step (by decide) (by decide); replace P := P.mono (st2.step.sub (by decide))
  exact h _ _ _ (S.leave c j) (ho.mono (S.out c j (by omega)))

theorem Wrap_c (c : Nat → Nat) (j : Nat) {w : World} {v : Value} {l : List UInt8} {R : Value → World → Prop} (hr : RdS (wv w) v 1 l.length (bvs l))
    (h : ∀ v c' w', Step c [] [j] w c' w' → OwS (view c' j w') v 5 1 (wrP l).1.length (bvs (wrP l).1) → R (.tuple #[v, .int .i64 (wrP l).2]) w') : CallV Tryd.prog 19 #[v] w R := by
  obtain ⟨o0, p0, rfl⟩ := hr.form
  have D : RdS (view (fun _ => 0) 0 w) (.slice o0 l.length p0) 1 l.length (bvs l) := by rw [view0]; exact hr
  have S := Fr.start w
  refine sector_Wrap_vc ?_
  unfold sector_Wrap_VC
  refine BS.dec (fun hbig => ?_) (fun hs => ?_)
  · have := h (.slice none 0 0) c w (.refl ..)
    unfold wrP at this
    rw [if_neg (by omega)] at this
    exact this (OwS.nil ..)
  have hw : wrP l = (wrapB l, 0) := by unfold wrP; rw [if_pos (by omega)]
  refine AllocC.col (fun _ => 0) 1 fun a1 c1 w1 st1 b1 _ => ?_
  replace S := S.go st1.step (by decide) (by decide); replace D := D.mono (st1.step.sub (by decide))
  have P : PenV (view c1 1 w1) ⟨a1, 0, none⟩ [] := ⟨a1, _, rfl, b1, OwS.nil ..⟩
  refine AllocC.col c1 2 fun a2 c2 w2 st2 b2 _ => ?_
  replace S := S.go st2.step (by decide) (by decide); replace D := D.mono (st2.step.sub (by decide)); replace P := P.mono (st2.step.sub (by decide))
  refine Pen_Raw P (ys := [66]) ((RdS.block (xs := bvs [66]) b2 rfl (Nat.le_refl _)).mono (view_sub _ _ _)) (by simp) fun c3 w3 st3 P => ?_
  replace S := S.go st3 (by decide) (by decide); replace D := D.mono (st3.sub (by decide))
  rw [wrap_u64 (by omega) (by omega)]
  refine Pen_U P l.length 2 rfl rfl (by omega) (by omega) (by omega) (by simp) fun c4 w4 st4 P => TInt.mk ?_
  replace S := S.go st4 (by decide) (by decide); replace D := D.mono (st4.sub (by decide))
  refine Pen_Raw P (D.mono (view_sub _ _ _)) (by simp; omega) fun c5 w5 st5 P => ?_
  replace S := S.go st5 (by decide) (by decide); replace D := D.mono (st5.sub (by decide))
  refine full_c c5 3 (P.mono (view_sub _ _ _)) (by simp; omega) fun v6 c6 w6 st6 ho => ?_
  replace S := S.go st6 (by decide) (by decide); replace D := D.mono (st6.sub (by decide))
  obtain ⟨o6, p6, rfl⟩ := ho.form
  refine TSl.mk ?_
  have e : pad512 ([] ++ [66] ++ be l.length 2 ++ l) = wrapB l := rfl
  rw [e] at ho ⊢
  have := h (.slice o6 (wrapB l).length p6) _ _ (S.leave c j)
  rw [hw] at this
  exact this (ho.mono (S.out c j (by omega)))

theorem Unwrap_c (c : Nat → Nat) (j : Nat) {w : World} {v : Value} {l : List UInt8} {R : Value → World → Prop} (hr : RdS (wv w) v 1 l.length (bvs l)) (hl : l.length ≤ 140737488355328)
    (h : ∀ v c' w', Step c [] [j] w c' w' → OwS (view c' j w') v 5 1 (unP l).1.length (bvs (unP l).1) → R (.tuple #[v, .int .i64 (unP l).2]) w') : CallV Tryd.prog 21 #[v] w R := by
  obtain ⟨o0, p0, rfl⟩ := hr.form
  have D : RdS (view (fun _ => 0) 0 w) (.slice o0 l.length p0) 1 l.length (bvs l) := by rw [view0]; exact hr
  have S := Fr.start w
  refine sector_Unwrap_vc ?_
  unfold sector_Unwrap_VC
  have nilR : ∀ {c' w'}, Fr w c' w' → unP l = ([], 22) → R (.tuple #[.slice none 0 0, .int .i64 22]) w' := fun S he => by
    have := h (.slice none 0 0) _ _ (S.leave c j)
    rw [he] at this
    exact this (OwS.none_bytes ..)
  refine NewEye (fun _ => 0) 1 (D.mono (view_sub _ _ _)) (by omega) fun a c1 w1 st1 he => TPtr.mk ?_
  replace S := S.go st1 (by decide) (by decide); replace D := D.mono (st1.sub (by decide))
  refine Eye_U he 2 (by decide) (by omega) 1 rfl (by omega) (by omega) fun c2 w2 st2 he => ?_
  replace S := S.go st2 (by decide) (by decide); replace D := D.mono (st2.sub (by decide))
  have l1 := eU_len 1 l
  (repeat (first | refine TInt.mk ?_ | refine TBool.mk ?_ | refine TStr.mk ?_ | refine TSl.mk ?_ | refine TPtr.mk ?_ | refine TAgg.mk ?_ | refine T2.mk ?_ | refine T3.mk ?_ | refine TSome.mk ?_))
  refine Eye_U he 2 (by decide) (by omega) 2 rfl (by omega) (by omega) fun c3 w3 st3 he => ?_
  replace S := S.go st3 (by decide) (by decide); replace D := D.mono (st3.sub (by decide))
  have l2 := eU_len 2 (eU 1 l).2.1
  have n2 := eU_lt 2 (eU 1 l).2.1
  (repeat (first | refine TInt.mk ?_ | refine TBool.mk ?_ | refine TStr.mk ?_ | refine TSl.mk ?_ | refine TPtr.mk ?_ | refine TAgg.mk ?_ | refine T2.mk ?_ | refine T3.mk ?_ | refine TSome.mk ?_))
  refine Eye_R he 3 (by omega) (eU 2 (eU 1 l).2.1).1 (by rw [wrap_i64 (by omega) (by omega)]) fun v4 c4 w4 st4 he r4 => ?_
  replace S := S.go st4 (by decide) (by decide); replace D := D.mono (st4.sub (by decide))
  obtain ⟨o4, p4, rfl⟩ := r4.form
  change OwS _ (.slice o4 (unR l).1.length p4) _ _ (unR l).1.length (bvs (unR l).1) at r4
  (repeat (first | refine TInt.mk ?_ | refine TBool.mk ?_ | refine TStr.mk ?_ | refine TSl.mk ?_ | refine TPtr.mk ?_ | refine TAgg.mk ?_ | refine T2.mk ?_ | refine T3.mk ?_ | refine TSome.mk ?_))
  change BS ((unR l).2.2 != 0) _ _
  have hno : ∀ h' : ¬ ((unR l).2.2 = 0 ∧ (unR l).1.length ≤ 470 ∧ wrapB (unR l).1 = l), unP l = ([], 22) := fun h' => by unfold unP; rw [if_neg h']
  refine BS.ne (fun hne => nilR S (hno fun h' => hne h'.1)) (fun h0 => ?_)
  refine Wrap_c c4 4 (r4.rd.mono (view_sub _ _ _)) fun v5 c5 w5 st5 r5 => ?_
  replace S := S.go st5 (by decide) (by decide); replace D := D.mono (st5.sub (by decide)); replace r4 := r4.mono (st5.sub (by decide))
  obtain ⟨o5, p5, rfl⟩ := r5.form
  (repeat (first | refine TInt.mk ?_ | refine TBool.mk ?_ | refine TStr.mk ?_ | refine TSl.mk ?_ | refine TPtr.mk ?_ | refine TAgg.mk ?_ | refine T2.mk ?_ | refine T3.mk ?_ | refine TSome.mk ?_))
  by_cases hlen : (unR l).1.length ≤ 470
  · have hw : wrP (unR l).1 = (wrapB (unR l).1, 0) := by unfold wrP; rw [if_pos hlen]
    rw [hw] at r5 ⊢
    refine BS.ne (fun hne => absurd rfl hne) (fun _ => ?_)
    refine Equal_bytes c5 (r5.rd.mono (view_sub _ _ _)) (D.mono (view_sub _ _ _)) (by rw [wrapB_len hlen]; omega) fun w6 st6 => TBool.mk ?_
    replace S := S.go st6 (by decide) (by decide); replace D := D.mono (st6.sub (by decide)); replace r4 := r4.mono (st6.sub (by decide))
    by_cases he : wrapB (unR l).1 = l
    · rw [decide_eq_true he]
      refine BS.no rfl ?_
      have hu : unP l = ((unR l).1, 0) := by unfold unP; rw [if_pos ⟨h0, hlen, he⟩]
      have := h (.slice o4 (unR l).1.length p4) _ _ (S.leave c j)
      rw [hu] at this
      exact this (r4.mono (S.out c j (by omega)))
    · rw [decide_eq_false he]
      exact BS.yes rfl (nilR S (hno fun h' => he h'.2.2))
  · have hw : wrP (unR l).1 = ([], 23) := by unfold wrP; rw [if_neg hlen]
    rw [hw]
    exact BS.ne (fun _ => nilR S (hno fun h' => hlen h'.2.1)) (fun e => by simp at e)

/-! the document's -/
theorem RefPad_c (c : Nat → Nat) (j : Nat) {w : World} {v : Value} {l : List UInt8} {R : Value → World → Prop} (hr : RdS (wv w) v 1 l.length (bvs l)) (hl : l.length ≤ 512)
    (h : ∀ v c' w', Step c [] [j] w c' w' → OwS (view c' j w') v 5 1 (pad512 l).length (bvs (pad512 l)) → R v w') : CallV Tryd.prog 36 #[v] w R := by
  obtain ⟨o0, p0, rfl⟩ := hr.form
  have D : RdS (view (fun _ => 0) 0 w) (.slice o0 l.length p0) 1 l.length (bvs l) := by rw [view0]; exact hr
  have S := Fr.start w
  refine ref04_pad_vc ?_
  unfold ref04_pad_VC
  refine make_col (n := 512) (l := 512) Tryd.underlying22 zU8 (fun _ => 0) 1 (Nat.le_refl _) (by omega) (by omega) fun b c1 w1 st1 b1 _ => TSl.mk ?_
  replace S := S.go st1.step (by decide) (by decide); replace D := D.mono (st1.step.sub (by decide))
  rw [made_u8] at b1
  have hAB : (pad512 l).length = (List.replicate 512 (0 : UInt8)).length := by rw [pad512_len hl, List.length_replicate]
  refine LoopI.up l.length (fun i w' => Fr w c1 w' ∧ RdS (view c1 0 w') (.slice o0 l.length p0) 1 l.length (bvs l) ∧ view c1 1 w' b = some (.cells (bvs (upto (pad512 l) (List.replicate 512 0) i)).toArray 5 (0, 0))) ⟨S, D, by rw [upto_zero]; exact b1⟩ ?_
  clear S D b1
  rintro i w2 B hi ⟨S, D, b1⟩ back
  refine BS.dec (fun hlt => ?_) (fun hge => ?_)
  · obtain ⟨x, hx⟩ := get_of_lt (l := l) (i := i) (by omega)
    refine Req.bnd ⟨by omega, by omega⟩ (D.elt (view_sub _ _ _) (by rw [bvs_get, hx]; rfl) (TInt.mk ?_))
    refine Req.bnd ⟨by omega, by omega⟩ (TSome.mk ?_)
    rw [Int.toNat_natCast, Nat.mul_one]
    refine storeBy b1 (by rw [upto_length hAB, List.length_replicate]; omega) fun w3 _ st3 b1 => ?_
    replace S := S.go st3 (by decide) (by decide); replace D := D.mono (st3.sub (by decide))
    rw [wrap_i64 (by omega) (by omega)]
    refine back _ (by omega) ⟨S, D, ?_⟩
    rw [upto_set hAB (by unfold pad512; rw [List.getElem?_append_left (by omega)]; exact hx)] at b1
    exact b1
  · have : i = l.length := by omega
    subst this
    have e : upto (pad512 l) (List.replicate 512 0) l.length = pad512 l := by
      unfold upto pad512
      rw [List.take_left, List.drop_replicate]
    rw [e] at b1
    have hp : (pad512 l).length = 512 := pad512_len hl
    have := h (.slice (some ⟨b, 0, none⟩) 512 512) _ _ (S.leave c j)
    rw [hp] at this
    exact this ((OwS.whole (h := view c1 1 w2) (z := 1) b1 rfl (by rw [bvs_length, hp]) (by simp [maxLen])).mono (S.out c j (by omega)))
theorem RefWrap_c (c : Nat → Nat) (j : Nat) {w : World} {v : Value} {l : List UInt8} {R : Value → World → Prop} (hr : RdS (wv w) v 1 l.length (bvs l))
    (h : ∀ v c' w', Step c [] [j] w c' w' → OwS (view c' j w') v 5 1 (wrP l).1.length (bvs (wrP l).1) → R (.tuple #[v, .int .i64 (wrP l).2]) w') : CallV Tryd.prog 20 #[v] w R := by
  obtain ⟨o0, p0, rfl⟩ := hr.form
  have D : RdS (view (fun _ => 0) 0 w) (.slice o0 l.length p0) 1 l.length (bvs l) := by rw [view0]; exact hr
  have S := Fr.start w
  refine ref04_Wrap_vc ?_
  unfold ref04_Wrap_VC
  refine BS.dec (fun hbig => ?_) (fun hs => ?_)
  · refine AllocC.col (fun _ => 0) 1 fun a1 c1 w1 st1 b1 _ => ?_
    replace S := S.go st1.step (by decide) (by decide)
    have := h (.slice (some ⟨a1, 0, none⟩) 0 0) _ _ (S.leave c j)
    have e : wrP l = ([], 23) := by unfold wrP; rw [if_neg (by omega)]
    rw [e] at this
    exact this ((OwS.some_bytes b1).mono (S.out c j (by omega)))
  have hw : wrP l = (wrapB l, 0) := by unfold wrP; rw [if_pos (by omega)]
  refine AllocC.col (fun _ => 0) 1 fun a1 c1 w1 st1 b1 _ => ?_
  replace S := S.go st1.step (by decide) (by decide); replace D := D.mono (st1.step.sub (by decide))
  have e1 : IntKind.wrap .u8 (IntKind.wrap .i64 (Int.tdiv ((l.length : Nat) : Int) 256)) = ((byteAt l.length 1).toNat : Int) := by
    rw [Int.tdiv_eq_ediv_of_nonneg (by omega), wrap_i64 (by omega) (by omega), wrap_u8_mod, byteAt_toNat]; omega
  have e2 : IntKind.wrap .u8 (Int.tmod ((l.length : Nat) : Int) 256) = ((byteAt l.length 0).toNat : Int) := by
    rw [Int.tmod_eq_emod_of_nonneg (by omega), wrap_u8_mod, byteAt_toNat]; omega
  rw [e1, e2] at b1
  have ho : OwS (view c1 1 w1) (.slice (some ⟨a1, 0, none⟩) 3 3) 5 1 (66 :: be l.length 2).length (bvs (66 :: be l.length 2)) := OwS.lit b1 (66 :: be l.length 2) rfl rfl (by simp [maxLen])
  refine app_bytes slU8 ho (D.mono (view_sub _ _ _)) (by simp; omega) fun o2 p2 c2 w2 st2 ho => TSl.mk ?_
  replace S := S.go st2.step (by decide) (by decide); replace D := D.mono (st2.step.sub (by decide))
  refine RefPad_c c2 2 (ho.rd.mono (view_sub _ _ _)) (by simp; omega) fun v3 c3 w3 st3 ho => ?_
  replace S := S.go st3 (by decide) (by decide)
  obtain ⟨o3, p3, rfl⟩ := ho.form
  refine TSl.mk ?_
  have e : pad512 (66 :: be l.length 2 ++ l) = wrapB l := rfl
  rw [e] at ho ⊢
  have := h (.slice o3 (wrapB l).length p3) _ _ (S.leave c j)
  rw [hw] at this
  exact this (ho.mono (S.out c j (by omega)))
end Go.Proofs.YtpblhjgpfmmafaaDoor

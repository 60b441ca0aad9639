/-
  Answers are read, each function once.
-/
import Derived.Test.YtpmpfahedbfppaaAns2
set_option linter.unusedVariables false
set_option linter.unusedSimpArgs false
namespace Go.Proofs.Ytpmpfahedbfppaa
open Go.Vc
attribute [local irreducible] TInt TBool TStr TPtr TSl TAgg TMap TChan T2 T3 T4 BS Req TSome TCell TByte LoadC LoadA StoreC AllocC RunV RunU CallV EqA StableC StableA StableV TCells ReadV
attribute [local irreducible] eU eT eE

theorem oper_ReadAnswer_c (c : Nat → Nat) (j : Nat) {w : World} {v : Value} {l : List UInt8} {R : Value → World → Prop} (hr : RdS (wv w) v 1 l.length (bvs l)) (hl : l.length ≤ 1000000)
    (h : ∀ v u c' w', Step c [] [j] w c' w' → AnsV (view c' j w') (rdAns l).1 v u → R (.tuple #[.agg ((rdAns l).1.cells v u).toArray, .int .i64 (rdAns l).2]) w') :
    CallV Try.prog 36 #[v] w R := by
  obtain ⟨o0, p0, rfl⟩ := hr.form
  have D : RdS (view (fun _ => 0) 0 w) (.slice o0 l.length p0) 1 l.length (bvs l) := by rw [view0]; exact hr
  have S := Fr.start w
  refine oper_ReadAnswer_vc ?_
  unfold oper_ReadAnswer_VC
  refine AllocC.col (fun _ => 0) 3 fun a c1 w1 st1 b2 _ => ?_
  replace S := S.go st1.step (by decide) (by decide); replace D := D.mono (st1.step.sub (by decide))
  refine NewEye c1 2 (D.mono (view_sub _ _ _)) (by omega) fun ax c2 w2 st2 he => ?_
  replace S := S.go st2 (by decide) (by decide); replace D := D.mono (st2.sub (by decide)); replace b2 := st2.sub (by decide) _ _ b2
  (repeat (first | refine TInt.mk ?_ | refine TBool.mk ?_ | refine TStr.mk ?_ | refine TSl.mk ?_ | refine TPtr.mk ?_ | refine TAgg.mk ?_ | refine T2.mk ?_ | refine T3.mk ?_ | refine TSome.mk ?_))
  refine AllocC.col c2 1 fun r c3 w3 st3 b4 _ => ?_
  replace S := S.go st3.step (by decide) (by decide); replace D := D.mono (st3.step.sub (by decide)); replace b2 := st3.step.sub (by decide) _ _ b2; replace he := he.mono (st3.step.sub (by decide))
  refine RunU.var b4 (by kernel_rfl) rfl (by first | (simp [Value.oneCell']; done) | (simp [Value.oneCell', OpR.cells, sv]; done) | (simp [Value.oneCell', AnsR.cells, sv]; done) | rfl) fun w4 st4 b4 => ?_
  replace S := S.go st4.step (by decide) (by decide); replace D := D.mono (st4.step.sub (by decide)); replace b2 := st4.step.sub (by decide) _ _ b2; replace he := he.mono (st4.step.sub (by decide))
  refine DrewC.col c3 fun w5 st5 => ?_
  replace S := S.go st5 (by decide) (by decide); replace D := D.mono (st5.sub (by decide)); replace b2 := st5.sub (by decide) _ _ b2; replace b4 := st5.sub (by decide) _ _ b4; replace he := he.mono (st5.sub (by decide))
  refine LoadA.all (view_sub _ _ _) b4 rfl (LoadA.all (view_sub _ _ _) b4 rfl (LoadA.all (view_sub _ _ _) b4 rfl ?_))
  have L1 := eU_len 2 l
  have L2 := eU_len 2 (eU 2 l).2.1
  have L3 := (eT_len (eU 2 (eU 2 l).2.1).2.1)
  have L4 := (eU_len 1 (eT (eU 2 (eU 2 l).2.1).2.1).2.1)
  have num : ∀ {c' w' l'} (n : Int) (k : Nat) {K : Value → World → Prop}, EyeV (view c' 2 w') ax l' → l'.length ≤ l.length → n = k → 1 ≤ k → k ≤ 2 → (∀ c'' w'', Step c' [2] [5] w' c'' w'' → EyeV (view c'' 2 w'') ax (eU k l').2.1 → K (.int .i64 ((eU k l').1 : Nat)) w'') → CallV Try.prog 54 #[.agg #[.pointer (some ax)], .int .i64 n] w' K :=
    fun n k _ he hl' hn h1 h2 hK => reader_number he 5 (by omega) (by omega) k hn h1 h2 hK
  have k1 : ∀ a5 od pd c' w', Fr w c' w' → RdS (view c' 0 w') (.slice o0 l.length p0) 1 l.length (bvs l) → view c' 3 w' a = some (.cells #[.int .i64 0, .int .i64 0, .slice none 0 0, .slice none 0 0] 64 (0, 0)) →
      view c' 1 w' r = some (.cells #[.pointer (some ax)] 97 (0, 0)) → view c' 4 w' a5 = some (.cells #[.int .i64 ((eU 2 l).1 : Nat), .int .i64 ((eU 2 (eU 2 l).2.1).1 : Nat), .slice od (eT (eU 2 (eU 2 l).2.1).2.1).1.length pd, .slice none 0 0] 64 (0, 0)) →
      EyeV (view c' 2 w') ax (eT (eU 2 (eU 2 l).2.1).2.1).2.1 → OwS (view c' 5 w') (.slice od (eT (eU 2 (eU 2 l).2.1).2.1).1.length pd) 5 1 (eT (eU 2 (eU 2 l).2.1).2.1).1.length (bvs (eT (eU 2 (eU 2 l).2.1).2.1).1) → oper_ReadAnswer_K1 o0 l.length p0 ⟨a, 0, none⟩ ⟨r, 0, none⟩ ⟨a5, 0, none⟩ w' R := by
    intro a5 od pd c6 w6 S D b2 b4 b5 he hd
    unfold oper_ReadAnswer_K1
    refine LoadA.all (view_sub _ _ _) b4 rfl ?_
    refine num 1 1 he (by omega) rfl (by omega) (by omega) fun c7 w7 st7 he => TInt.mk ?_
    replace S := S.go st7 (by decide) (by decide); replace D := D.mono (st7.sub (by decide)); replace b2 := st7.sub (by decide) _ _ b2; replace b4 := st7.sub (by decide) _ _ b4; replace b5 := st7.sub (by decide) _ _ b5; replace hd := hd.mono (st7.sub (by decide))
    refine LoopI.up (min (eU 1 (eT (eU 2 (eU 2 l).2.1).2.1).2.1).1 7) (fun i w' => ∃ c' o n p, Fr w c' w' ∧ RdS (view c' 0 w') (.slice o0 l.length p0) 1 l.length (bvs l) ∧ view c' 3 w' a = some (.cells #[.int .i64 0, .int .i64 0, .slice none 0 0, .slice none 0 0] 64 (0, 0)) ∧
      view c' 1 w' r = some (.cells #[.pointer (some ax)] 97 (0, 0)) ∧ view c' 4 w' a5 = some (.cells #[.int .i64 ((eU 2 l).1 : Nat), .int .i64 ((eU 2 (eU 2 l).2.1).1 : Nat), .slice od (eT (eU 2 (eU 2 l).2.1).2.1).1.length pd, .slice o n p] 64 (0, 0)) ∧
      EyeV (view c' 2 w') ax (nT i (eU 1 (eT (eU 2 (eU 2 l).2.1).2.1).2.1).2.1).2.1 ∧ OwS (view c' 5 w') (.slice od (eT (eU 2 (eU 2 l).2.1).2.1).1.length pd) 5 1 (eT (eU 2 (eU 2 l).2.1).2.1).1.length (bvs (eT (eU 2 (eU 2 l).2.1).2.1).1) ∧ OwS (view c' 6 w') (.slice o n p) 9 1 (nT i (eU 1 (eT (eU 2 (eU 2 l).2.1).2.1).2.1).2.1).1.length (svs (nT i (eU 1 (eT (eU 2 (eU 2 l).2.1).2.1).2.1).2.1).1))
      ⟨c7, none, 0, 0, S, D, b2, b4, b5, he, hd, OwS.none_strs ..⟩ ?_
    rintro i w8 B hi ⟨c8, o, n, p, S, D, b2, b4, b5, he, hd, hs⟩ back
    have hil := nT_length i (eU 1 (eT (eU 2 (eU 2 l).2.1).2.1).2.1).2.1
    have hir := nT_rest i (eU 1 (eT (eU 2 (eU 2 l).2.1).2.1).2.1).2.1
    refine BS.dec (fun hlt => ?_) (fun hge => ?_)
    · refine DrewC.col c8 fun w9 st9 => ?_
      replace S := S.go st9 (by decide) (by decide); replace D := D.mono (st9.sub (by decide)); replace b2 := st9.sub (by decide) _ _ b2; replace b4 := st9.sub (by decide) _ _ b4; replace b5 := st9.sub (by decide) _ _ b5; replace he := he.mono (st9.sub (by decide)); replace hd := hd.mono (st9.sub (by decide)); replace hs := hs.mono (st9.sub (by decide))
      (repeat (first | refine TInt.mk ?_ | refine TBool.mk ?_ | refine TStr.mk ?_ | refine TSl.mk ?_ | refine TPtr.mk ?_ | refine TAgg.mk ?_ | refine T2.mk ?_ | refine T3.mk ?_ | refine TSome.mk ?_ | refine LoadC.ad (view_sub _ _ _) _ (by assumption) rfl ?_))
      refine LoadA.all (view_sub _ _ _) b4 rfl ?_
      refine reader_text he 5 (by omega) (by omega) fun v10 c10 w10 st10 he r10 => ?_
      replace S := S.go st10 (by decide) (by decide); replace D := D.mono (st10.sub (by decide)); replace b2 := st10.sub (by decide) _ _ b2; replace b4 := st10.sub (by decide) _ _ b4; replace b5 := st10.sub (by decide) _ _ b5; replace hd := hd.mono (st10.sub (by decide)); replace hs := hs.mono (st10.sub (by decide))
      obtain ⟨o10, p10, rfl⟩ := r10.form
      (repeat (first | refine TInt.mk ?_ | refine TBool.mk ?_ | refine TStr.mk ?_ | refine TSl.mk ?_ | refine TPtr.mk ?_ | refine TAgg.mk ?_ | refine T2.mk ?_ | refine T3.mk ?_ | refine TSome.mk ?_))
      refine ⟨StableC.ad (view_sub _ _ _) b5 rfl, string_rule strU8 (r10.rd.mono (view_sub _ _ _)) (TStr.mk ?_)⟩
      refine AllocC.col c10 7 fun y c11 w11 st11 b11 _ => ?_
      replace S := S.go st11.step (by decide) (by decide); replace D := D.mono (st11.step.sub (by decide)); replace b2 := st11.step.sub (by decide) _ _ b2; replace b4 := st11.step.sub (by decide) _ _ b4; replace b5 := st11.step.sub (by decide) _ _ b5; replace hd := hd.mono (st11.step.sub (by decide)); replace hs := hs.mono (st11.step.sub (by decide)); replace he := he.mono (st11.step.sub (by decide))
      refine ⟨StableC.ad (view_sub _ _ _) b5 rfl, ?_⟩
      refine app_strs slStr hs (m := [(eT (nT i (eU 1 (eT (eU 2 (eU 2 l).2.1).2.1).2.1).2.1).2.1).1]) ((RdS.block (xs := svs [(eT (nT i (eU 1 (eT (eU 2 (eU 2 l).2.1).2.1).2.1).2.1).2.1).1]) b11 rfl (Nat.le_refl _)).mono (view_sub _ _ _)) (by rw [hil]; simp; omega) fun o12 p12 c12 w12 st12 hs => ?_
      replace S := S.go st12.step (by decide) (by decide); replace D := D.mono (st12.step.sub (by decide)); replace b2 := st12.step.sub (by decide) _ _ b2; replace b4 := st12.step.sub (by decide) _ _ b4; replace b5 := st12.step.sub (by decide) _ _ b5; replace hd := hd.mono (st12.step.sub (by decide)); replace he := he.mono (st12.step.sub (by decide))
      (repeat (first | refine TInt.mk ?_ | refine TBool.mk ?_ | refine TStr.mk ?_ | refine TSl.mk ?_ | refine TPtr.mk ?_ | refine TAgg.mk ?_ | refine T2.mk ?_ | refine T3.mk ?_ | refine TSome.mk ?_))
      refine StoreC.ad b5 (by simp) fun w13 st13 _ b5 => ?_
      replace S := S.go st13.step (by decide) (by decide); replace D := D.mono (st13.step.sub (by decide)); replace b2 := st13.step.sub (by decide) _ _ b2; replace b4 := st13.step.sub (by decide) _ _ b4; replace hd := hd.mono (st13.step.sub (by decide)); replace he := he.mono (st13.step.sub (by decide)); replace hs := hs.mono (st13.step.sub (by decide))
      rw [wrap_i64 (by omega) (by omega)]
      exact back _ (by omega) ⟨c12, o12, _, p12, S, D, b2, b4, b5, he, hd, hs⟩
    · have : i = min (eU 1 (eT (eU 2 (eU 2 l).2.1).2.1).2.1).1 7 := by omega
      subst this
      have := hs.len.1
      subst this
      refine LoadA.all (cs := ((decAns l 7).1.cells (.slice od (decAns l 7).1.data.length pd) (.slice o (decAns l 7).1.names.length p)).toArray) (view_sub _ _ _) b5 rfl ?_
      refine WriteAnswer_c c8 8 (a := (decAns l 7).1) ⟨hd.rd.mono (view_sub _ _ _), hs.rd.mono (view_sub _ _ _)⟩ fun v14 c14 w14 st14 r14 => ?_
      replace S := S.go st14 (by decide) (by decide); replace D := D.mono (st14.sub (by decide)); replace b2 := st14.sub (by decide) _ _ b2; replace b4 := st14.sub (by decide) _ _ b4; replace b5 := st14.sub (by decide) _ _ b5; replace hd := hd.mono (st14.sub (by decide)); replace hs := hs.mono (st14.sub (by decide))
      obtain ⟨o14, p14, rfl⟩ := r14.form
      (repeat (first | refine TInt.mk ?_ | refine TBool.mk ?_ | refine TStr.mk ?_ | refine TSl.mk ?_ | refine TPtr.mk ?_ | refine TAgg.mk ?_ | refine T2.mk ?_ | refine T3.mk ?_ | refine TSome.mk ?_))
      refine exactly_c c14 (D.mono (view_sub _ _ _)) (r14.rd.mono (view_sub _ _ _)) (by omega) fun w15 st15 => ?_
      replace S := S.go st15 (by decide) (by decide); replace D := D.mono (st15.sub (by decide)); replace b2 := st15.sub (by decide) _ _ b2; replace b4 := st15.sub (by decide) _ _ b4; replace b5 := st15.sub (by decide) _ _ b5; replace hd := hd.mono (st15.sub (by decide)); replace hs := hs.mono (st15.sub (by decide))
      refine TBool.mk (BS.ndec (fun hn => ?_) (fun hy => ?_))
      · rw [wrAns_iff] at hn
        refine RunU.var b2 (by kernel_rfl) rfl (by first | (simp [Value.oneCell']; done) | (simp [Value.oneCell', OpR.cells, sv]; done) | (simp [Value.oneCell', AnsR.cells, sv]; done) | rfl) fun w16 st16 b2 => ?_
        replace S := S.go st16.step (by decide) (by decide); replace D := D.mono (st16.step.sub (by decide))
        refine LoadA.all (view_sub _ _ _) b2 rfl ?_
        have := h (.slice none 0 0) (.slice none 0 0) _ _ (S.leave c j)
        rw [rdAns, if_neg hn] at this
        exact this ⟨RdS.none_bytes .., RdS.none_strs ..⟩
      · rw [wrAns_iff] at hy
        refine LoadA.all (cs := ((decAns l 7).1.cells (.slice od (decAns l 7).1.data.length pd) (.slice o (decAns l 7).1.names.length p)).toArray) (view_sub _ _ _) b5 rfl ?_
        refine RunU.var b2 (by kernel_rfl) rfl (by first | (simp [Value.oneCell']; done) | (simp [Value.oneCell', OpR.cells, sv]; done) | (simp [Value.oneCell', AnsR.cells, sv]; done) | rfl) fun w16 st16 b2 => ?_
        replace S := S.go st16.step (by decide) (by decide); replace D := D.mono (st16.step.sub (by decide)); replace hd := hd.mono (st16.step.sub (by decide)); replace hs := hs.mono (st16.step.sub (by decide))
        refine LoadA.all (view_sub _ _ _) b2 rfl ?_
        have := h (.slice od (decAns l 7).1.data.length pd) (.slice o (decAns l 7).1.names.length p) _ _ (S.leave c j)
        rw [rdAns, if_pos hy] at this
        exact this ⟨hd.rd.mono (S.out c j (by omega)), hs.rd.mono (S.out c j (by omega))⟩
  have txt' : ∀ {c' w' l'} {K : Value → World → Prop}, EyeV (view c' 2 w') ax l' → l'.length ≤ l.length → (∀ o p c'' w'', Step c' [2] [5] w' c'' w'' → EyeV (view c'' 2 w'') ax (eT l').2.1 → OwS (view c'' 5 w'') (.slice o (eT l').1.length p) 5 1 (eT l').1.length (bvs (eT l').1) → K (.slice o (eT l').1.length p) w'') → CallV Try.prog 55 #[.agg #[.pointer (some ax)]] w' K :=
    fun he hl' hK => reader_text he 5 (by omega) (by omega) fun v c w st he r => by obtain ⟨o, p, rfl⟩ := r.form; exact hK _ _ _ _ st he r
  refine ⟨?_, ?_⟩
  · refine num 2 2 he (by omega) rfl (by omega) (by omega) fun c8 w8 st8 he => TInt.mk ?_
    replace S := S.go st8 (by decide) (by decide); replace D := D.mono (st8.sub (by decide)); replace b2 := st8.sub (by decide) _ _ b2; replace b4 := st8.sub (by decide) _ _ b4
    refine ⟨StableA.all (view_sub _ _ _) b4 rfl, StableA.all (view_sub _ _ _) b4 rfl, ?_, ?_⟩
    · refine num 2 2 he (by omega) rfl (by omega) (by omega) fun c8 w8 st8 he => TInt.mk ?_
      replace S := S.go st8 (by decide) (by decide); replace D := D.mono (st8.sub (by decide)); replace b2 := st8.sub (by decide) _ _ b2; replace b4 := st8.sub (by decide) _ _ b4
      refine ⟨StableA.all (view_sub _ _ _) b4 rfl, ?_, ?_⟩
      · refine txt' he (by omega) fun od pd c8 w8 st8 he hd => TSl.mk ?_
        replace S := S.go st8 (by decide) (by decide); replace D := D.mono (st8.sub (by decide)); replace b2 := st8.sub (by decide) _ _ b2; replace b4 := st8.sub (by decide) _ _ b4
        refine AllocC.col c8 4 fun a5 c9 w9 st9 b5 _ => ?_
        replace S := S.go st9.step (by decide) (by decide); replace D := D.mono (st9.step.sub (by decide)); replace b2 := st9.step.sub (by decide) _ _ b2; replace b4 := st9.step.sub (by decide) _ _ b4; replace he := he.mono (st9.step.sub (by decide)); replace hd := hd.mono (st9.step.sub (by decide))
        refine ⟨StableA.all (view_sub _ _ _) b4 rfl, StableA.all (view_sub _ _ _) b4 rfl, StableA.all (view_sub _ _ _) b4 rfl, ?_⟩
        refine RunU.var b5 (by kernel_rfl) rfl (by first | (simp [Value.oneCell']; done) | (simp [Value.oneCell', OpR.cells, sv]; done) | (simp [Value.oneCell', AnsR.cells, sv]; done) | rfl) fun w10 st10 b5 => ?_
        replace S := S.go st10.step (by decide) (by decide); replace D := D.mono (st10.step.sub (by decide)); replace b2 := st10.step.sub (by decide) _ _ b2; replace b4 := st10.step.sub (by decide) _ _ b4; replace he := he.mono (st10.step.sub (by decide)); replace hd := hd.mono (st10.step.sub (by decide))
        exact k1 _ _ _ _ _ S D b2 b4 b5 he hd
      · refine AllocC.col c8 4 fun a5 c9 w9 st9 b5 _ => ?_
        replace S := S.go st9.step (by decide) (by decide); replace D := D.mono (st9.step.sub (by decide)); replace b2 := st9.step.sub (by decide) _ _ b2; replace b4 := st9.step.sub (by decide) _ _ b4; replace he := he.mono (st9.step.sub (by decide))
        refine ⟨StableA.all (view_sub _ _ _) b4 rfl, StableA.all (view_sub _ _ _) b4 rfl, StableA.all (view_sub _ _ _) b4 rfl, ?_⟩
        refine txt' he (by omega) fun od pd c8 w8 st8 he hd => TSl.mk ?_
        replace S := S.go st8 (by decide) (by decide); replace D := D.mono (st8.sub (by decide)); replace b2 := st8.sub (by decide) _ _ b2; replace b4 := st8.sub (by decide) _ _ b4; replace b5 := st8.sub (by decide) _ _ b5
        refine RunU.var b5 (by kernel_rfl) rfl (by first | (simp [Value.oneCell']; done) | (simp [Value.oneCell', OpR.cells, sv]; done) | (simp [Value.oneCell', AnsR.cells, sv]; done) | rfl) fun w10 st10 b5 => ?_
        replace S := S.go st10.step (by decide) (by decide); replace D := D.mono (st10.step.sub (by decide)); replace b2 := st10.step.sub (by decide) _ _ b2; replace b4 := st10.step.sub (by decide) _ _ b4; replace he := he.mono (st10.step.sub (by decide)); replace hd := hd.mono (st10.step.sub (by decide))
        exact k1 _ _ _ _ _ S D b2 b4 b5 he hd
    · refine AllocC.col c8 4 fun a5 c9 w9 st9 b5 _ => ?_
      replace S := S.go st9.step (by decide) (by decide); replace D := D.mono (st9.step.sub (by decide)); replace b2 := st9.step.sub (by decide) _ _ b2; replace b4 := st9.step.sub (by decide) _ _ b4; replace he := he.mono (st9.step.sub (by decide))
      refine ⟨StableA.all (view_sub _ _ _) b4 rfl, StableA.all (view_sub _ _ _) b4 rfl, StableA.all (view_sub _ _ _) b4 rfl, ?_⟩
      refine num 2 2 he (by omega) rfl (by omega) (by omega) fun c8 w8 st8 he => TInt.mk ?_
      replace S := S.go st8 (by decide) (by decide); replace D := D.mono (st8.sub (by decide)); replace b2 := st8.sub (by decide) _ _ b2; replace b4 := st8.sub (by decide) _ _ b4; replace b5 := st8.sub (by decide) _ _ b5
      refine ⟨StableA.all (view_sub _ _ _) b4 rfl, ?_⟩
      refine txt' he (by omega) fun od pd c8 w8 st8 he hd => TSl.mk ?_
      replace S := S.go st8 (by decide) (by decide); replace D := D.mono (st8.sub (by decide)); replace b2 := st8.sub (by decide) _ _ b2; replace b4 := st8.sub (by decide) _ _ b4; replace b5 := st8.sub (by decide) _ _ b5
      refine RunU.var b5 (by kernel_rfl) rfl (by first | (simp [Value.oneCell']; done) | (simp [Value.oneCell', OpR.cells, sv]; done) | (simp [Value.oneCell', AnsR.cells, sv]; done) | rfl) fun w10 st10 b5 => ?_
      replace S := S.go st10.step (by decide) (by decide); replace D := D.mono (st10.step.sub (by decide)); replace b2 := st10.step.sub (by decide) _ _ b2; replace b4 := st10.step.sub (by decide) _ _ b4; replace he := he.mono (st10.step.sub (by decide)); replace hd := hd.mono (st10.step.sub (by decide))
      exact k1 _ _ _ _ _ S D b2 b4 b5 he hd
  · refine AllocC.col c3 4 fun a5 c9 w9 st9 b5 _ => ?_
    replace S := S.go st9.step (by decide) (by decide); replace D := D.mono (st9.step.sub (by decide)); replace b2 := st9.step.sub (by decide) _ _ b2; replace b4 := st9.step.sub (by decide) _ _ b4; replace he := he.mono (st9.step.sub (by decide))
    refine ⟨StableA.all (view_sub _ _ _) b4 rfl, StableA.all (view_sub _ _ _) b4 rfl, StableA.all (view_sub _ _ _) b4 rfl, ?_⟩
    refine num 2 2 he (by omega) rfl (by omega) (by omega) fun c8 w8 st8 he => TInt.mk ?_
    replace S := S.go st8 (by decide) (by decide); replace D := D.mono (st8.sub (by decide)); replace b2 := st8.sub (by decide) _ _ b2; replace b4 := st8.sub (by decide) _ _ b4; replace b5 := st8.sub (by decide) _ _ b5
    refine ⟨StableA.all (view_sub _ _ _) b4 rfl, StableA.all (view_sub _ _ _) b4 rfl, ?_⟩
    refine num 2 2 he (by omega) rfl (by omega) (by omega) fun c8 w8 st8 he => TInt.mk ?_
    replace S := S.go st8 (by decide) (by decide); replace D := D.mono (st8.sub (by decide)); replace b2 := st8.sub (by decide) _ _ b2; replace b4 := st8.sub (by decide) _ _ b4; replace b5 := st8.sub (by decide) _ _ b5
    refine ⟨StableA.all (view_sub _ _ _) b4 rfl, ?_⟩
    refine txt' he (by omega) fun od pd c8 w8 st8 he hd => TSl.mk ?_
    replace S := S.go st8 (by decide) (by decide); replace D := D.mono (st8.sub (by decide)); replace b2 := st8.sub (by decide) _ _ b2; replace b4 := st8.sub (by decide) _ _ b4; replace b5 := st8.sub (by decide) _ _ b5
    refine RunU.var b5 (by kernel_rfl) rfl (by first | (simp [Value.oneCell']; done) | (simp [Value.oneCell', OpR.cells, sv]; done) | (simp [Value.oneCell', AnsR.cells, sv]; done) | rfl) fun w10 st10 b5 => ?_
    replace S := S.go st10.step (by decide) (by decide); replace D := D.mono (st10.step.sub (by decide)); replace b2 := st10.step.sub (by decide) _ _ b2; replace b4 := st10.step.sub (by decide) _ _ b4; replace he := he.mono (st10.step.sub (by decide)); replace hd := hd.mono (st10.step.sub (by decide))
    exact k1 _ _ _ _ _ S D b2 b4 b5 he hd

theorem ref_ReadAnswer_c (c : Nat → Nat) (j : Nat) {w : World} {v : Value} {l : List UInt8} {R : Value → World → Prop} (hr : RdS (wv w) v 1 l.length (bvs l)) (hl : l.length ≤ 1000000)
    (h : ∀ v u c' w', Step c [] [j] w c' w' → AnsV (view c' j w') (rdAns l).1 v u → R (.tuple #[.agg ((rdAns l).1.cells v u).toArray, .int .i64 (rdAns l).2]) w') :
    CallV Try.prog 37 #[v] w R := by
  obtain ⟨o0, p0, rfl⟩ := hr.form
  have D : RdS (view (fun _ => 0) 0 w) (.slice o0 l.length p0) 1 l.length (bvs l) := by rw [view0]; exact hr
  have S := Fr.start w
  refine ref10_ReadAnswer_vc ?_
  unfold ref10_ReadAnswer_VC
  refine AllocC.col (fun _ => 0) 3 fun a c1 w1 st1 b2 _ => ?_
  replace S := S.go st1.step (by decide) (by decide); replace D := D.mono (st1.step.sub (by decide))
  refine AllocC.col c1 2 fun x c2 w2 st2 bx _ => ?_
  replace S := S.go st2.step (by decide) (by decide); replace D := D.mono (st2.step.sub (by decide)); replace b2 := st2.step.sub (by decide) _ _ b2
  have he : REye (view c2 2 w2) ⟨x, 0, none⟩ (.slice o0 l.length p0) l l := ⟨0, ⟨x, rfl, bx⟩, by omega, by simp⟩
  refine REye_U 5 (by omega) (by omega) he D (by omega) 2 rfl (by omega) (by omega) fun c3 w3 st3 he => ?_
  replace S := S.go st3 (by decide) (by decide); replace D := D.mono (st3.sub (by decide)); replace b2 := st3.sub (by decide) _ _ b2
  (repeat (first | refine TInt.mk ?_ | refine TBool.mk ?_ | refine TStr.mk ?_ | refine TSl.mk ?_ | refine TPtr.mk ?_ | refine TAgg.mk ?_ | refine T2.mk ?_ | refine T3.mk ?_ | refine TSome.mk ?_))
  refine REye_U 5 (by omega) (by omega) he D (by omega) 2 rfl (by omega) (by omega) fun c4 w4 st4 he => ?_
  replace S := S.go st4 (by decide) (by decide); replace D := D.mono (st4.sub (by decide)); replace b2 := st4.sub (by decide) _ _ b2
  (repeat (first | refine TInt.mk ?_ | refine TBool.mk ?_ | refine TStr.mk ?_ | refine TSl.mk ?_ | refine TPtr.mk ?_ | refine TAgg.mk ?_ | refine T2.mk ?_ | refine T3.mk ?_ | refine TSome.mk ?_))
  refine REye_T 5 (by omega) (by omega) he D (by omega) fun v6 c6 w6 st6 he hd => ?_
  replace S := S.go st6 (by decide) (by decide); replace D := D.mono (st6.sub (by decide)); replace b2 := st6.sub (by decide) _ _ b2
  obtain ⟨od, pd, rfl⟩ := hd.form
  (repeat (first | refine TInt.mk ?_ | refine TBool.mk ?_ | refine TStr.mk ?_ | refine TSl.mk ?_ | refine TPtr.mk ?_ | refine TAgg.mk ?_ | refine T2.mk ?_ | refine T3.mk ?_ | refine TSome.mk ?_))
  refine REye_U 5 (by omega) (by omega) he D (by omega) 1 rfl (by omega) (by omega) fun c5 w5 st5 he => ?_
  replace S := S.go st5 (by decide) (by decide); replace D := D.mono (st5.sub (by decide)); replace b2 := st5.sub (by decide) _ _ b2; replace hd := hd.mono (st5.sub (by decide))
  (repeat (first | refine TInt.mk ?_ | refine TBool.mk ?_ | refine TStr.mk ?_ | refine TSl.mk ?_ | refine TPtr.mk ?_ | refine TAgg.mk ?_ | refine T2.mk ?_ | refine T3.mk ?_ | refine TSome.mk ?_))
  have q1 := eU_lt 2 l
  have q2 := eU_lt 2 (eU 2 l).2.1
  have q4 := eU_lt 1 (eT (eU 2 (eU 2 l).2.1).2.1).2.1
  have c1 := eU_bd 2 l
  have c2 := eU_bd 2 (eU 2 l).2.1
  have c3 := eT_bd (eU 2 (eU 2 l).2.1).2.1
  have c4 := eU_bd 1 (eT (eU 2 (eU 2 l).2.1).2.1).2.1
  rw [wrap_i64_nat _ (by omega), wrap_i64_nat _ (by omega)]
  refine AllocC.col c5 4 fun y c9 w9 st9 b5 _ => ?_
  replace S := S.go st9.step (by decide) (by decide); replace D := D.mono (st9.step.sub (by decide)); replace b2 := st9.step.sub (by decide) _ _ b2; replace hd := hd.mono (st9.step.sub (by decide)); replace he := he.mono (st9.step.sub (by decide))
  refine RunU.var b5 (by kernel_rfl) rfl (by first | (simp [Value.oneCell']; done) | (simp [Value.oneCell', OpR.cells, sv]; done) | (simp [Value.oneCell', AnsR.cells, sv]; done) | rfl) fun w10 st10 b5 => ?_
  replace S := S.go st10.step (by decide) (by decide); replace D := D.mono (st10.step.sub (by decide)); replace b2 := st10.step.sub (by decide) _ _ b2; replace hd := hd.mono (st10.step.sub (by decide)); replace he := he.mono (st10.step.sub (by decide))
  have hboth := decAns_both l
  have e256 : min (eU 1 (eT (eU 2 (eU 2 l).2.1).2.1).2.1).1 256 = (eU 1 (eT (eU 2 (eU 2 l).2.1).2.1).2.1).1 := by omega
  have hsum : (decAns l 256).2.2 = (eU 2 l).2.2 + (eU 2 (eU 2 l).2.1).2.2 + (eT (eU 2 (eU 2 l).2.1).2.1).2.2 + (eU 1 (eT (eU 2 (eU 2 l).2.1).2.1).2.1).2.2 + (nT (eU 1 (eT (eU 2 (eU 2 l).2.1).2.1).2.1).1 (eU 1 (eT (eU 2 (eU 2 l).2.1).2.1).2.1).2.1).2.2 + eE (nT (eU 1 (eT (eU 2 (eU 2 l).2.1).2.1).2.1).1 (eU 1 (eT (eU 2 (eU 2 l).2.1).2.1).2.1).2.1).2.1 := by simp only [decAns, e256]
  have hfst : (decAns l 256).1 = ⟨(eU 2 l).1, (eU 2 (eU 2 l).2.1).1, (eT (eU 2 (eU 2 l).2.1).2.1).1, (nT (eU 1 (eT (eU 2 (eU 2 l).2.1).2.1).2.1).1 (eU 1 (eT (eU 2 (eU 2 l).2.1).2.1).2.1).2.1).1⟩ := by simp only [decAns, e256]
  rw [wrap_i64 (n := (eU 2 l).2.2 + (eU 2 (eU 2 l).2.1).2.2) (by omega) (by omega), wrap_i64 (n := (eU 2 l).2.2 + (eU 2 (eU 2 l).2.1).2.2 + (eT (eU 2 (eU 2 l).2.1).2.1).2.2) (by omega) (by omega), wrap_i64 (n := (eU 2 l).2.2 + (eU 2 (eU 2 l).2.1).2.2 + (eT (eU 2 (eU 2 l).2.1).2.1).2.2 + (eU 1 (eT (eU 2 (eU 2 l).2.1).2.1).2.1).2.2) (by omega) (by omega), wrap_i64_nat _ (by omega)]
  have k3 : ∀ (b : Bool) c' w' o n p, Fr w c' w' → view c' 3 w' a = some (.cells #[.int .i64 0, .int .i64 0, .slice none 0 0, .slice none 0 0] 64 (0, 0)) →
      view c' 4 w' y = some (.cells #[.int .i64 ((eU 2 l).1 : Nat), .int .i64 ((eU 2 (eU 2 l).2.1).1 : Nat), .slice od (eT (eU 2 (eU 2 l).2.1).2.1).1.length pd, .slice o n p] 64 (0, 0)) → OwS (view c' 5 w') (.slice od (eT (eU 2 (eU 2 l).2.1).2.1).1.length pd) 5 1 (eT (eU 2 (eU 2 l).2.1).2.1).1.length (bvs (eT (eU 2 (eU 2 l).2.1).2.1).1) →
      (b = false ↔ ((decAns l 7).1.right ∧ (decAns l 7).1.enc = l)) → (b = false → OwS (view c' 6 w') (.slice o n p) 9 1 (nT (eU 1 (eT (eU 2 (eU 2 l).2.1).2.1).2.1).1 (eU 1 (eT (eU 2 (eU 2 l).2.1).2.1).2.1).2.1).1.length (svs (nT (eU 1 (eT (eU 2 (eU 2 l).2.1).2.1).2.1).1 (eU 1 (eT (eU 2 (eU 2 l).2.1).2.1).2.1).2.1).1)) → ref10_ReadAnswer_K3 ⟨a, 0, none⟩ ⟨y, 0, none⟩ b w' R := by
    intro b c' w' o n p S b2 b5 hd hb hs
    unfold ref10_ReadAnswer_K3
    cases b
    · have hs := hs rfl
      have hacc := hb.1 rfl
      have := hs.len.1
      subst this
      refine BS.no rfl ?_
      refine LoadA.all (view_sub _ _ _) b5 rfl ?_
      refine RunU.var b2 (by kernel_rfl) rfl (by first | (simp [Value.oneCell']; done) | (simp [Value.oneCell', OpR.cells, sv]; done) | (simp [Value.oneCell', AnsR.cells, sv]; done) | rfl) fun w16 st16 b2 => ?_
      replace S := S.go st16.step (by decide) (by decide); replace hd := hd.mono (st16.step.sub (by decide)); replace hs := hs.mono (st16.step.sub (by decide))
      refine LoadA.all (view_sub _ _ _) b2 rfl ?_
      have := h (.slice od (eT (eU 2 (eU 2 l).2.1).2.1).1.length pd) (.slice o (nT (eU 1 (eT (eU 2 (eU 2 l).2.1).2.1).2.1).1 (eU 1 (eT (eU 2 (eU 2 l).2.1).2.1).2.1).2.1).1.length p) _ _ (S.leave c j)
      rw [rdAns, if_pos hacc, ← decAns_same hacc, hfst] at this
      exact this ⟨hd.rd.mono (S.out c j (by omega)), hs.rd.mono (S.out c j (by omega))⟩
    · refine BS.yes rfl ?_
      refine RunU.var b2 (by kernel_rfl) rfl (by first | (simp [Value.oneCell']; done) | (simp [Value.oneCell', OpR.cells, sv]; done) | (simp [Value.oneCell', AnsR.cells, sv]; done) | rfl) fun w16 st16 b2 => ?_
      replace S := S.go st16.step (by decide) (by decide); replace hd := hd.mono (st16.step.sub (by decide))
      refine LoadA.all (view_sub _ _ _) b2 rfl ?_
      have := h (.slice none 0 0) (.slice none 0 0) _ _ (S.leave c j)
      rw [rdAns, if_neg (fun hh => by simpa using hb.2 hh)] at this
      exact this ⟨RdS.none_bytes .., RdS.none_strs ..⟩
  have k2 : ∀ (i : Nat) (x' : Int) c' w' o n p, i ≤ (eU 1 (eT (eU 2 (eU 2 l).2.1).2.1).2.1).1 → (i = (eU 1 (eT (eU 2 (eU 2 l).2.1).2.1).2.1).1 ∨ x' ≠ 0) → Fr w c' w' → RdS (view c' 0 w') (.slice o0 l.length p0) 1 l.length (bvs l) → view c' 3 w' a = some (.cells #[.int .i64 0, .int .i64 0, .slice none 0 0, .slice none 0 0] 64 (0, 0)) →
      view c' 4 w' y = some (.cells #[.int .i64 ((eU 2 l).1 : Nat), .int .i64 ((eU 2 (eU 2 l).2.1).1 : Nat), .slice od (eT (eU 2 (eU 2 l).2.1).2.1).1.length pd, .slice o n p] 64 (0, 0)) → OwS (view c' 5 w') (.slice od (eT (eU 2 (eU 2 l).2.1).2.1).1.length pd) 5 1 (eT (eU 2 (eU 2 l).2.1).2.1).1.length (bvs (eT (eU 2 (eU 2 l).2.1).2.1).1) →
      REye (view c' 2 w') ⟨x, 0, none⟩ (.slice o0 l.length p0) l (nT i (eU 1 (eT (eU 2 (eU 2 l).2.1).2.1).2.1).2.1).2.1 → OwS (view c' 6 w') (.slice o n p) 9 1 (nT i (eU 1 (eT (eU 2 (eU 2 l).2.1).2.1).2.1).2.1).1.length (svs (nT i (eU 1 (eT (eU 2 (eU 2 l).2.1).2.1).2.1).2.1).1) →
      (x' = 0 ↔ (eU 2 l).2.2 + (eU 2 (eU 2 l).2.1).2.2 + (eT (eU 2 (eU 2 l).2.1).2.1).2.2 + (eU 1 (eT (eU 2 (eU 2 l).2.1).2.1).2.1).2.2 = 0 ∧ (nT i (eU 1 (eT (eU 2 (eU 2 l).2.1).2.1).2.1).2.1).2.2 = 0) → ref10_ReadAnswer_K2 ⟨a, 0, none⟩ ⟨x, 0, none⟩ ⟨y, 0, none⟩ x' w' R := by
    intro i x' c' w' o n p hi hix S D b2 b5 hd he hs hx
    have m1 := nT_mono hi (eU 1 (eT (eU 2 (eU 2 l).2.1).2.1).2.1).2.1
    have m2 := nT_code i (eU 1 (eT (eU 2 (eU 2 l).2.1).2.1).2.1).2.1
    have m3 := eE_bd (nT (eU 1 (eT (eU 2 (eU 2 l).2.1).2.1).2.1).1 (eU 1 (eT (eU 2 (eU 2 l).2.1).2.1).2.1).2.1).2.1
    unfold ref10_ReadAnswer_K2
    refine BS.ne (fun hne => ?_) (fun he0 => ?_)
    · exact k3 true _ _ _ _ _ S b2 b5 hd ⟨fun h => by simp at h, fun hh => by have := (hboth.2 hh).1; exact absurd (hx.2 ⟨by omega, by omega⟩) hne⟩ (fun h => by simp at h)
    · have hik : i = (eU 1 (eT (eU 2 (eU 2 l).2.1).2.1).2.1).1 := by omega
      subst hik
      have hx := hx.1 he0
      refine REye_E he D fun w11 st11 => TInt.mk ?_
      replace S := S.go st11 (by decide) (by decide); replace D := D.mono (st11.sub (by decide)); replace b2 := st11.sub (by decide) _ _ b2; replace b5 := st11.sub (by decide) _ _ b5; replace hd := hd.mono (st11.sub (by decide)); replace hs := hs.mono (st11.sub (by decide))
      refine BS.ne (fun hne => ?_) (fun he1 => ?_)
      · exact k3 true _ _ _ _ _ S b2 b5 hd ⟨fun h => by simp at h, fun hh => by have := (hboth.2 hh).1; omega⟩ (fun h => by simp at h)
      · have h0 : (decAns l 256).2.2 = 0 := by omega
        have := hs.len.1
        subst this
        refine LoadA.all (cs := ((⟨(eU 2 l).1, (eU 2 (eU 2 l).2.1).1, (eT (eU 2 (eU 2 l).2.1).2.1).1, (nT (eU 1 (eT (eU 2 (eU 2 l).2.1).2.1).2.1).1 (eU 1 (eT (eU 2 (eU 2 l).2.1).2.1).2.1).2.1).1⟩ : AnsR).cells (.slice od (eT (eU 2 (eU 2 l).2.1).2.1).1.length pd) (.slice o (nT (eU 1 (eT (eU 2 (eU 2 l).2.1).2.1).2.1).1 (eU 1 (eT (eU 2 (eU 2 l).2.1).2.1).2.1).2.1).1.length p)).toArray) (view_sub _ _ _) b5 rfl ?_
        refine RightAnswer_c c' 0 ⟨hd.rd.mono (view_sub _ _ _), hs.rd.mono (view_sub _ _ _)⟩ fun c12 w12 st12 => TBool.mk ?_
        replace S := S.go st12 (by decide) (by decide); replace b2 := st12.sub (by decide) _ _ b2; replace b5 := st12.sub (by decide) _ _ b5; replace hd := hd.mono (st12.sub (by decide)); replace hs := hs.mono (st12.sub (by decide))
        refine k3 _ _ _ _ _ _ S b2 b5 hd ?_ (fun _ => hs)
        rw [← hboth, hfst]
        simp [h0]
  refine LoopNI.up (eU 1 (eT (eU 2 (eU 2 l).2.1).2.1).2.1).1 (fun i x' w' => ∃ c' o n p, Fr w c' w' ∧ RdS (view c' 0 w') (.slice o0 l.length p0) 1 l.length (bvs l) ∧ view c' 3 w' a = some (.cells #[.int .i64 0, .int .i64 0, .slice none 0 0, .slice none 0 0] 64 (0, 0)) ∧
      view c' 4 w' y = some (.cells #[.int .i64 ((eU 2 l).1 : Nat), .int .i64 ((eU 2 (eU 2 l).2.1).1 : Nat), .slice od (eT (eU 2 (eU 2 l).2.1).2.1).1.length pd, .slice o n p] 64 (0, 0)) ∧ OwS (view c' 5 w') (.slice od (eT (eU 2 (eU 2 l).2.1).2.1).1.length pd) 5 1 (eT (eU 2 (eU 2 l).2.1).2.1).1.length (bvs (eT (eU 2 (eU 2 l).2.1).2.1).1) ∧
      REye (view c' 2 w') ⟨x, 0, none⟩ (.slice o0 l.length p0) l (nT i (eU 1 (eT (eU 2 (eU 2 l).2.1).2.1).2.1).2.1).2.1 ∧ OwS (view c' 6 w') (.slice o n p) 9 1 (nT i (eU 1 (eT (eU 2 (eU 2 l).2.1).2.1).2.1).2.1).1.length (svs (nT i (eU 1 (eT (eU 2 (eU 2 l).2.1).2.1).2.1).2.1).1) ∧
      (x' = 0 ↔ (eU 2 l).2.2 + (eU 2 (eU 2 l).2.1).2.2 + (eT (eU 2 (eU 2 l).2.1).2.1).2.2 + (eU 1 (eT (eU 2 (eU 2 l).2.1).2.1).2.1).2.2 = 0 ∧ (nT i (eU 1 (eT (eU 2 (eU 2 l).2.1).2.1).2.1).2.1).2.2 = 0))
    ⟨c9, none, 0, 0, S, D, b2, b5, hd, he, OwS.none_strs .., by simp [nT]⟩ ?_
  rintro i x' w11 B hi ⟨c11, o, n, p, S, D, b2, b5, hd, he, hs, hx⟩ back
  refine BS.dec (fun hlt => ?_) (fun hge => k2 i _ _ _ _ _ _ hi (.inl (by omega)) S D b2 b5 hd he hs hx)
  unfold ref10_ReadAnswer_K1
  refine BS.eq (fun hz => ?_) (fun hne => k2 i _ _ _ _ _ _ hi (.inr hne) S D b2 b5 hd he hs hx)
  have hil := nT_length i (eU 1 (eT (eU 2 (eU 2 l).2.1).2.1).2.1).2.1
  refine REye_T 5 (by omega) (by omega) he D (by omega) fun v12 c12 w12 st12 he r12 => ?_
  replace S := S.go st12 (by decide) (by decide); replace D := D.mono (st12.sub (by decide)); replace b2 := st12.sub (by decide) _ _ b2; replace b5 := st12.sub (by decide) _ _ b5; replace hd := hd.mono (st12.sub (by decide)); replace hs := hs.mono (st12.sub (by decide))
  obtain ⟨o12, p12, rfl⟩ := r12.form
  (repeat (first | refine TInt.mk ?_ | refine TBool.mk ?_ | refine TStr.mk ?_ | refine TSl.mk ?_ | refine TPtr.mk ?_ | refine TAgg.mk ?_ | refine T2.mk ?_ | refine T3.mk ?_ | refine TSome.mk ?_ | refine LoadC.ad (view_sub _ _ _) _ (by assumption) rfl ?_))
  refine string_rule strU8 (r12.rd.mono (view_sub _ _ _)) (TStr.mk ?_)
  refine AllocC.col c12 7 fun z c13 w13 st13 b13 _ => ?_
  replace S := S.go st13.step (by decide) (by decide); replace D := D.mono (st13.step.sub (by decide)); replace b2 := st13.step.sub (by decide) _ _ b2; replace b5 := st13.step.sub (by decide) _ _ b5; replace hd := hd.mono (st13.step.sub (by decide)); replace hs := hs.mono (st13.step.sub (by decide)); replace he := he.mono (st13.step.sub (by decide))
  refine app_strs slStr hs (m := [(eT (nT i (eU 1 (eT (eU 2 (eU 2 l).2.1).2.1).2.1).2.1).2.1).1]) ((RdS.block (xs := svs [(eT (nT i (eU 1 (eT (eU 2 (eU 2 l).2.1).2.1).2.1).2.1).2.1).1]) b13 rfl (Nat.le_refl _)).mono (view_sub _ _ _)) (by rw [hil]; simp; omega) fun o14 p14 c14 w14 st14 hs => ?_
  replace S := S.go st14.step (by decide) (by decide); replace D := D.mono (st14.step.sub (by decide)); replace b2 := st14.step.sub (by decide) _ _ b2; replace b5 := st14.step.sub (by decide) _ _ b5; replace hd := hd.mono (st14.step.sub (by decide)); replace he := he.mono (st14.step.sub (by decide))
  (repeat (first | refine TInt.mk ?_ | refine TBool.mk ?_ | refine TStr.mk ?_ | refine TSl.mk ?_ | refine TPtr.mk ?_ | refine TAgg.mk ?_ | refine T2.mk ?_ | refine T3.mk ?_ | refine TSome.mk ?_))
  refine StoreC.ad b5 (by simp) fun w15 st15 _ b5 => ?_
  replace S := S.go st15.step (by decide) (by decide); replace D := D.mono (st15.step.sub (by decide)); replace b2 := st15.step.sub (by decide) _ _ b2; replace hd := hd.mono (st15.step.sub (by decide)); replace he := he.mono (st15.step.sub (by decide)); replace hs := hs.mono (st15.step.sub (by decide))
  rw [wrap_i64 (by omega) (by omega)]
  refine back _ _ (by omega) ⟨c14, o14, _, p14, S, D, b2, b5, hd, he, hs, ?_⟩
  have hx := hx.1 hz
  simp only [nT]
  omega
end Go.Proofs.Ytpmpfahedbfppaa

/-
  Operations are read, each function once.
-/
import Derived.Test.YtpmpfahedbfppaaOper3
set_option linter.unusedVariables false
set_option linter.unusedSimpArgs false
namespace Go.Proofs.Ytpmpfahedbfppaa
open Go.Vc
attribute [local irreducible] TInt TBool TStr TPtr TSl TAgg TMap TChan T2 T3 T4 BS Req TSome TCell TByte LoadC LoadA StoreC AllocC RunV RunU CallV EqA StableC StableA StableV TCells ReadV
attribute [local irreducible] eU eT eE

theorem wrOp_iff (o : OpR) (l : List UInt8) : ((wrOp o).2 = 0 ∧ l = (wrOp o).1) ↔ (o.right ∧ o.enc = l) := by
  unfold wrOp
  split
  · rename_i h; simp [h]; exact eq_comm
  · rename_i h; simp [h]

theorem oper_Read_c (c : Nat → Nat) (j : Nat) {w : World} {v : Value} {l : List UInt8} {R : Value → World → Prop} (hr : RdS (wv w) v 1 l.length (bvs l)) (hl : l.length ≤ 1000000)
    (h : ∀ v c' w', Step c [] [j] w c' w' → OpRV (view c' j w') (rdOp l).1 v → R (.tuple #[.agg ((rdOp l).1.cells v).toArray, .int .i64 (rdOp l).2]) w') :
    CallV Try.prog 43 #[v] w R := by
  obtain ⟨o0, p0, rfl⟩ := hr.form
  have D : RdS (view (fun _ => 0) 0 w) (.slice o0 l.length p0) 1 l.length (bvs l) := by rw [view0]; exact hr
  have S := Fr.start w
  refine oper_Read_vc ?_
  unfold oper_Read_VC
  refine AllocC.col (fun _ => 0) 3 fun a c1 w1 st1 b2 _ => ?_
  replace S := S.go st1.step (by decide) (by decide); replace D := D.mono (st1.step.sub (by decide))
  refine NewEye c1 2 (D.mono (view_sub _ _ _)) (by omega) fun ax c2 w2 st2 he => ?_
  replace S := S.go st2 (by decide) (by decide); replace D := D.mono (st2.sub (by decide)); replace b2 := st2.sub (by decide) _ _ b2
  (repeat (first | refine TInt.mk ?_ | refine TBool.mk ?_ | refine TStr.mk ?_ | refine TSl.mk ?_ | refine TPtr.mk ?_ | refine TAgg.mk ?_ | refine T2.mk ?_ | refine T3.mk ?_ | refine TSome.mk ?_))
  refine AllocC.col c2 1 fun r c3 w3 st3 b4 _ => ?_
  replace S := S.go st3.step (by decide) (by decide); replace D := D.mono (st3.step.sub (by decide)); replace b2 := st3.step.sub (by decide) _ _ b2; replace he := he.mono (st3.step.sub (by decide))
  refine RunU.var b4 (by kernel_rfl) rfl (by first | (simp [Value.oneCell']; done) | (simp [Value.oneCell', OpR.cells, sv]; done) | (simp [Value.oneCell', AnsR.cells, sv]; done) | rfl) fun w4 st4 b4 => ?_
  replace S := S.go st4.step (by decide) (by decide); replace D := D.mono (st4.step.sub (by decide)); replace b2 := st4.step.sub (by decide) _ _ b2; replace he := he.mono (st4.step.sub (by decide))
  refine DrewC.col c3 fun w5 st5 => ?_
  replace S := S.go st5 (by decide) (by decide); replace D := D.mono (st5.sub (by decide)); replace b2 := st5.sub (by decide) _ _ b2; replace b4 := st5.sub (by decide) _ _ b4; replace he := he.mono (st5.sub (by decide))
  refine LoadA.all (view_sub _ _ _) b4 rfl (LoadA.all (view_sub _ _ _) b4 rfl (LoadA.all (view_sub _ _ _) b4 rfl ?_))
  have L1 := eU_len 1 l
  have L2 := eU_len 2 (eU 1 l).2.1
  have L3 := eU_len 2 (eU 2 (eU 1 l).2.1).2.1
  have L4 := (eT_len (eU 2 (eU 2 (eU 1 l).2.1).2.1).2.1).1
  have L5 := (eT_len (eT (eU 2 (eU 2 (eU 1 l).2.1).2.1).2.1).2.1).1
  have k1 : ∀ a5 c' w', Fr w c' w' → RdS (view c' 0 w') (.slice o0 l.length p0) 1 l.length (bvs l) → view c' 3 w' a = some (.cells #[.int .i64 0, .string ByteArray.empty, .string ByteArray.empty, .int .i64 0, .int .i64 0, .slice none 0 0] 61 (0, 0)) →
      view c' 1 w' r = some (.cells #[.pointer (some ax)] 97 (0, 0)) → view c' 4 w' a5 = some (.cells #[.int .i64 ((eU 1 l).1 : Nat), .string ByteArray.empty, .string ByteArray.empty, .int .i64 ((eU 2 (eU 1 l).2.1).1 : Nat), .int .i64 ((eU 2 (eU 2 (eU 1 l).2.1).2.1).1 : Nat), .slice none 0 0] 61 (0, 0)) →
      EyeV (view c' 2 w') ax (eU 2 (eU 2 (eU 1 l).2.1).2.1).2.1 → oper_Read_K1 o0 l.length p0 ⟨a, 0, none⟩ ⟨r, 0, none⟩ ⟨a5, 0, none⟩ w' R := by
    intro a5 c6 w6 S D b2 b4 b5 he
    unfold oper_Read_K1
    refine DrewC.col c6 fun w7 st7 => ?_
    replace S := S.go st7 (by decide) (by decide); replace D := D.mono (st7.sub (by decide)); replace b2 := st7.sub (by decide) _ _ b2; replace b4 := st7.sub (by decide) _ _ b4; replace b5 := st7.sub (by decide) _ _ b5; replace he := he.mono (st7.sub (by decide))
    refine LoadA.all (view_sub _ _ _) b4 rfl (LoadA.all (view_sub _ _ _) b4 rfl (LoadA.all (view_sub _ _ _) b4 rfl ?_))
    refine reader_text he 5 (by omega) (by omega) fun v8 c8 w8 st8 he r8 => ?_
    replace S := S.go st8 (by decide) (by decide); replace D := D.mono (st8.sub (by decide)); replace b2 := st8.sub (by decide) _ _ b2; replace b4 := st8.sub (by decide) _ _ b4; replace b5 := st8.sub (by decide) _ _ b5
    obtain ⟨o8, p8, rfl⟩ := r8.form
    (repeat (first | refine TInt.mk ?_ | refine TBool.mk ?_ | refine TStr.mk ?_ | refine TSl.mk ?_ | refine TPtr.mk ?_ | refine TAgg.mk ?_ | refine T2.mk ?_ | refine T3.mk ?_ | refine TSome.mk ?_))
    refine ⟨StableA.all (view_sub _ _ _) b4 rfl, StableA.all (view_sub _ _ _) b4 rfl, string_rule strU8 (r8.rd.mono (view_sub _ _ _)) (TStr.mk ?_)⟩
    refine reader_text he 5 (by omega) (by omega) fun v9 c9 w9 st9 he r9 => ?_
    replace S := S.go st9 (by decide) (by decide); replace D := D.mono (st9.sub (by decide)); replace b2 := st9.sub (by decide) _ _ b2; replace b4 := st9.sub (by decide) _ _ b4; replace b5 := st9.sub (by decide) _ _ b5; replace r8 := r8.mono (st9.sub (by decide))
    obtain ⟨o9, p9, rfl⟩ := r9.form
    (repeat (first | refine TInt.mk ?_ | refine TBool.mk ?_ | refine TStr.mk ?_ | refine TSl.mk ?_ | refine TPtr.mk ?_ | refine TAgg.mk ?_ | refine T2.mk ?_ | refine T3.mk ?_ | refine TSome.mk ?_))
    refine ⟨StableV.string strU8 (r8.rd.mono (view_sub _ _ _)), StableA.all (view_sub _ _ _) b4 rfl, string_rule strU8 (r9.rd.mono (view_sub _ _ _)) (TStr.mk ?_)⟩
    refine reader_text he 5 (by omega) (by omega) fun v10 c10 w10 st10 he r10 => ?_
    replace S := S.go st10 (by decide) (by decide); replace D := D.mono (st10.sub (by decide)); replace b2 := st10.sub (by decide) _ _ b2; replace b4 := st10.sub (by decide) _ _ b4; replace b5 := st10.sub (by decide) _ _ b5; replace r8 := r8.mono (st10.sub (by decide)); replace r9 := r9.mono (st10.sub (by decide))
    obtain ⟨o10, p10, rfl⟩ := r10.form
    (repeat (first | refine TInt.mk ?_ | refine TBool.mk ?_ | refine TStr.mk ?_ | refine TSl.mk ?_ | refine TPtr.mk ?_ | refine TAgg.mk ?_ | refine T2.mk ?_ | refine T3.mk ?_ | refine TSome.mk ?_))
    refine ⟨StableV.string strU8 (r8.rd.mono (view_sub _ _ _)), StableV.string strU8 (r9.rd.mono (view_sub _ _ _)), ?_⟩
    refine StoreC.ad b5 (by simp) fun w11 st11 _ b5 => ?_
    replace S := S.go st11.step (by decide) (by decide); replace D := D.mono (st11.step.sub (by decide)); replace b2 := st11.step.sub (by decide) _ _ b2; replace b4 := st11.step.sub (by decide) _ _ b4; replace r8 := r8.mono (st11.step.sub (by decide)); replace r9 := r9.mono (st11.step.sub (by decide)); replace r10 := r10.mono (st11.step.sub (by decide))
    refine ⟨StableV.string strU8 (r9.rd.mono (view_sub _ _ _)), ?_⟩
    refine StoreC.ad b5 (by simp) fun w12 st12 _ b5 => ?_
    replace S := S.go st12.step (by decide) (by decide); replace D := D.mono (st12.step.sub (by decide)); replace b2 := st12.step.sub (by decide) _ _ b2; replace b4 := st12.step.sub (by decide) _ _ b4; replace r8 := r8.mono (st12.step.sub (by decide)); replace r9 := r9.mono (st12.step.sub (by decide)); replace r10 := r10.mono (st12.step.sub (by decide))
    refine StoreC.ad b5 (by simp) fun w13 st13 _ b5 => ?_
    replace S := S.go st13.step (by decide) (by decide); replace D := D.mono (st13.step.sub (by decide)); replace b2 := st13.step.sub (by decide) _ _ b2; replace b4 := st13.step.sub (by decide) _ _ b4; replace r8 := r8.mono (st13.step.sub (by decide)); replace r9 := r9.mono (st13.step.sub (by decide)); replace r10 := r10.mono (st13.step.sub (by decide))
    refine LoadA.all (cs := ((decOp l).1.cells (.slice o10 (decOp l).1.data.length p10)).toArray) (view_sub _ _ _) b5 rfl ?_
    refine oper_Write_c c10 6 (o := (decOp l).1) (r10.rd.mono (view_sub _ _ _)) fun v14 c14 w14 st14 r14 => ?_
    replace S := S.go st14 (by decide) (by decide); replace D := D.mono (st14.sub (by decide)); replace b2 := st14.sub (by decide) _ _ b2; replace b4 := st14.sub (by decide) _ _ b4; replace b5 := st14.sub (by decide) _ _ b5; replace r8 := r8.mono (st14.sub (by decide)); replace r9 := r9.mono (st14.sub (by decide)); replace r10 := r10.mono (st14.sub (by decide))
    obtain ⟨o14, p14, rfl⟩ := r14.form
    (repeat (first | refine TInt.mk ?_ | refine TBool.mk ?_ | refine TStr.mk ?_ | refine TSl.mk ?_ | refine TPtr.mk ?_ | refine TAgg.mk ?_ | refine T2.mk ?_ | refine T3.mk ?_ | refine TSome.mk ?_))
    refine exactly_c c14 (D.mono (view_sub _ _ _)) (r14.rd.mono (view_sub _ _ _)) (by omega) fun w15 st15 => ?_
    replace S := S.go st15 (by decide) (by decide); replace D := D.mono (st15.sub (by decide)); replace b2 := st15.sub (by decide) _ _ b2; replace b4 := st15.sub (by decide) _ _ b4; replace b5 := st15.sub (by decide) _ _ b5; replace r10 := r10.mono (st15.sub (by decide))
    refine TBool.mk (BS.ndec (fun hn => ?_) (fun hy => ?_))
    · rw [wrOp_iff] at hn
      refine RunU.var b2 (by kernel_rfl) rfl (by first | (simp [Value.oneCell']; done) | (simp [Value.oneCell', OpR.cells, sv]; done) | (simp [Value.oneCell', AnsR.cells, sv]; done) | rfl) fun w16 st16 b2 => ?_
      replace S := S.go st16.step (by decide) (by decide); replace D := D.mono (st16.step.sub (by decide))
      refine LoadA.all (view_sub _ _ _) b2 rfl ?_
      have := h (.slice none 0 0) _ _ (S.leave c j)
      rw [rdOp_no hn] at this
      exact this (RdS.none_bytes ..)
    · rw [wrOp_iff] at hy
      refine LoadA.all (cs := ((decOp l).1.cells (.slice o10 (decOp l).1.data.length p10)).toArray) (view_sub _ _ _) b5 rfl ?_
      refine RunU.var b2 (by kernel_rfl) rfl (by first | (simp [Value.oneCell']; done) | (simp [Value.oneCell', OpR.cells, sv]; done) | (simp [Value.oneCell', AnsR.cells, sv]; done) | rfl) fun w16 st16 b2 => ?_
      replace S := S.go st16.step (by decide) (by decide); replace D := D.mono (st16.step.sub (by decide)); replace r10 := r10.mono (st16.step.sub (by decide))
      refine LoadA.all (view_sub _ _ _) b2 rfl ?_
      have := h (.slice o10 (decOp l).1.data.length p10) _ _ (S.leave c j)
      rw [rdOp_yes hy] at this
      exact this (r10.rd.mono (S.out c j (by omega)))
  have num : ∀ {c' w' l'} (n : Int) (k : Nat) {K : Value → World → Prop}, EyeV (view c' 2 w') ax l' → l'.length ≤ l.length → n = k → 1 ≤ k → k ≤ 2 → (∀ c'' w'', Step c' [2] [5] w' c'' w'' → EyeV (view c'' 2 w'') ax (eU k l').2.1 → K (.int .i64 ((eU k l').1 : Nat)) w'') → CallV Try.prog 54 #[.agg #[.pointer (some ax)], .int .i64 n] w' K :=
    fun n k _ he hl' hn h1 h2 hK => reader_number he 5 (by omega) (by omega) k hn h1 h2 hK
  refine ⟨?_, ?_⟩
  · refine num 1 1 he (by omega) rfl (by omega) (by omega) fun c6 w6 st6 he => TInt.mk ?_
    replace S := S.go st6 (by decide) (by decide); replace D := D.mono (st6.sub (by decide)); replace b2 := st6.sub (by decide) _ _ b2; replace b4 := st6.sub (by decide) _ _ b4
    refine ⟨StableA.all (view_sub _ _ _) b4 rfl, StableA.all (view_sub _ _ _) b4 rfl, ?_, ?_⟩
    · refine num 2 2 he (by omega) rfl (by omega) (by omega) fun c7 w7 st7 he => TInt.mk ?_
      replace S := S.go st7 (by decide) (by decide); replace D := D.mono (st7.sub (by decide)); replace b2 := st7.sub (by decide) _ _ b2; replace b4 := st7.sub (by decide) _ _ b4
      refine ⟨StableA.all (view_sub _ _ _) b4 rfl, ?_, ?_⟩
      · refine num 2 2 he (by omega) rfl (by omega) (by omega) fun c8 w8 st8 he => TInt.mk ?_
        replace S := S.go st8 (by decide) (by decide); replace D := D.mono (st8.sub (by decide)); replace b2 := st8.sub (by decide) _ _ b2; replace b4 := st8.sub (by decide) _ _ b4
        refine AllocC.col c8 4 fun a5 c9 w9 st9 b5 _ => ?_
        replace S := S.go st9.step (by decide) (by decide); replace D := D.mono (st9.step.sub (by decide)); replace b2 := st9.step.sub (by decide) _ _ b2; replace b4 := st9.step.sub (by decide) _ _ b4; replace he := he.mono (st9.step.sub (by decide))
        refine ⟨StableA.all (view_sub _ _ _) b4 rfl, StableA.all (view_sub _ _ _) b4 rfl, StableA.all (view_sub _ _ _) b4 rfl, ?_⟩
        refine RunU.var b5 (by kernel_rfl) rfl (by first | (simp [Value.oneCell']; done) | (simp [Value.oneCell', OpR.cells, sv]; done) | (simp [Value.oneCell', AnsR.cells, sv]; done) | rfl) fun w10 st10 b5 => ?_
        replace S := S.go st10.step (by decide) (by decide); replace D := D.mono (st10.step.sub (by decide)); replace b2 := st10.step.sub (by decide) _ _ b2; replace b4 := st10.step.sub (by decide) _ _ b4; replace he := he.mono (st10.step.sub (by decide))
        exact k1 _ _ _ S D b2 b4 b5 he
      · refine AllocC.col c7 4 fun a5 c9 w9 st9 b5 _ => ?_
        replace S := S.go st9.step (by decide) (by decide); replace D := D.mono (st9.step.sub (by decide)); replace b2 := st9.step.sub (by decide) _ _ b2; replace b4 := st9.step.sub (by decide) _ _ b4; replace he := he.mono (st9.step.sub (by decide))
        refine ⟨StableA.all (view_sub _ _ _) b4 rfl, StableA.all (view_sub _ _ _) b4 rfl, StableA.all (view_sub _ _ _) b4 rfl, ?_⟩
        refine num 2 2 he (by omega) rfl (by omega) (by omega) fun c8 w8 st8 he => TInt.mk ?_
        replace S := S.go st8 (by decide) (by decide); replace D := D.mono (st8.sub (by decide)); replace b2 := st8.sub (by decide) _ _ b2; replace b4 := st8.sub (by decide) _ _ b4; replace b5 := st8.sub (by decide) _ _ b5
        refine RunU.var b5 (by kernel_rfl) rfl (by first | (simp [Value.oneCell']; done) | (simp [Value.oneCell', OpR.cells, sv]; done) | (simp [Value.oneCell', AnsR.cells, sv]; done) | rfl) fun w10 st10 b5 => ?_
        replace S := S.go st10.step (by decide) (by decide); replace D := D.mono (st10.step.sub (by decide)); replace b2 := st10.step.sub (by decide) _ _ b2; replace b4 := st10.step.sub (by decide) _ _ b4; replace he := he.mono (st10.step.sub (by decide))
        exact k1 _ _ _ S D b2 b4 b5 he
    · refine AllocC.col c6 4 fun a5 c9 w9 st9 b5 _ => ?_
      replace S := S.go st9.step (by decide) (by decide); replace D := D.mono (st9.step.sub (by decide)); replace b2 := st9.step.sub (by decide) _ _ b2; replace b4 := st9.step.sub (by decide) _ _ b4; replace he := he.mono (st9.step.sub (by decide))
      refine ⟨StableA.all (view_sub _ _ _) b4 rfl, StableA.all (view_sub _ _ _) b4 rfl, StableA.all (view_sub _ _ _) b4 rfl, ?_⟩
      refine num 2 2 he (by omega) rfl (by omega) (by omega) fun c7 w7 st7 he => TInt.mk ?_
      replace S := S.go st7 (by decide) (by decide); replace D := D.mono (st7.sub (by decide)); replace b2 := st7.sub (by decide) _ _ b2; replace b4 := st7.sub (by decide) _ _ b4; replace b5 := st7.sub (by decide) _ _ b5
      refine ⟨StableA.all (view_sub _ _ _) b4 rfl, ?_⟩
      refine num 2 2 he (by omega) rfl (by omega) (by omega) fun c8 w8 st8 he => TInt.mk ?_
      replace S := S.go st8 (by decide) (by decide); replace D := D.mono (st8.sub (by decide)); replace b2 := st8.sub (by decide) _ _ b2; replace b4 := st8.sub (by decide) _ _ b4; replace b5 := st8.sub (by decide) _ _ b5
      refine RunU.var b5 (by kernel_rfl) rfl (by first | (simp [Value.oneCell']; done) | (simp [Value.oneCell', OpR.cells, sv]; done) | (simp [Value.oneCell', AnsR.cells, sv]; done) | rfl) fun w10 st10 b5 => ?_
      replace S := S.go st10.step (by decide) (by decide); replace D := D.mono (st10.step.sub (by decide)); replace b2 := st10.step.sub (by decide) _ _ b2; replace b4 := st10.step.sub (by decide) _ _ b4; replace he := he.mono (st10.step.sub (by decide))
      exact k1 _ _ _ S D b2 b4 b5 he
  · refine AllocC.col c3 4 fun a5 c9 w9 st9 b5 _ => ?_
    replace S := S.go st9.step (by decide) (by decide); replace D := D.mono (st9.step.sub (by decide)); replace b2 := st9.step.sub (by decide) _ _ b2; replace b4 := st9.step.sub (by decide) _ _ b4; replace he := he.mono (st9.step.sub (by decide))
    refine ⟨StableA.all (view_sub _ _ _) b4 rfl, StableA.all (view_sub _ _ _) b4 rfl, StableA.all (view_sub _ _ _) b4 rfl, ?_⟩
    refine num 1 1 he (by omega) rfl (by omega) (by omega) fun c6 w6 st6 he => TInt.mk ?_
    replace S := S.go st6 (by decide) (by decide); replace D := D.mono (st6.sub (by decide)); replace b2 := st6.sub (by decide) _ _ b2; replace b4 := st6.sub (by decide) _ _ b4; replace b5 := st6.sub (by decide) _ _ b5
    refine ⟨StableA.all (view_sub _ _ _) b4 rfl, StableA.all (view_sub _ _ _) b4 rfl, ?_⟩
    refine num 2 2 he (by omega) rfl (by omega) (by omega) fun c7 w7 st7 he => TInt.mk ?_
    replace S := S.go st7 (by decide) (by decide); replace D := D.mono (st7.sub (by decide)); replace b2 := st7.sub (by decide) _ _ b2; replace b4 := st7.sub (by decide) _ _ b4; replace b5 := st7.sub (by decide) _ _ b5
    refine ⟨StableA.all (view_sub _ _ _) b4 rfl, ?_⟩
    refine num 2 2 he (by omega) rfl (by omega) (by omega) fun c8 w8 st8 he => TInt.mk ?_
    replace S := S.go st8 (by decide) (by decide); replace D := D.mono (st8.sub (by decide)); replace b2 := st8.sub (by decide) _ _ b2; replace b4 := st8.sub (by decide) _ _ b4; replace b5 := st8.sub (by decide) _ _ b5
    refine RunU.var b5 (by kernel_rfl) rfl (by first | (simp [Value.oneCell']; done) | (simp [Value.oneCell', OpR.cells, sv]; done) | (simp [Value.oneCell', AnsR.cells, sv]; done) | rfl) fun w10 st10 b5 => ?_
    replace S := S.go st10.step (by decide) (by decide); replace D := D.mono (st10.step.sub (by decide)); replace b2 := st10.step.sub (by decide) _ _ b2; replace b4 := st10.step.sub (by decide) _ _ b4; replace he := he.mono (st10.step.sub (by decide))
    exact k1 _ _ _ S D b2 b4 b5 he

theorem ref_Read_c (c : Nat → Nat) (j : Nat) {w : World} {v : Value} {l : List UInt8} {R : Value → World → Prop} (hr : RdS (wv w) v 1 l.length (bvs l)) (hl : l.length ≤ 1000000)
    (h : ∀ v c' w', Step c [] [j] w c' w' → OpRV (view c' j w') (rdOp l).1 v → R (.tuple #[.agg ((rdOp l).1.cells v).toArray, .int .i64 (rdOp l).2]) w') :
    CallV Try.prog 44 #[v] w R := by
  obtain ⟨o0, p0, rfl⟩ := hr.form
  have D : RdS (view (fun _ => 0) 0 w) (.slice o0 l.length p0) 1 l.length (bvs l) := by rw [view0]; exact hr
  have S := Fr.start w
  refine ref10_Read_vc ?_
  unfold ref10_Read_VC
  refine AllocC.col (fun _ => 0) 3 fun a c1 w1 st1 b2 _ => ?_
  replace S := S.go st1.step (by decide) (by decide); replace D := D.mono (st1.step.sub (by decide))
  refine AllocC.col c1 2 fun x c2 w2 st2 bx _ => ?_
  replace S := S.go st2.step (by decide) (by decide); replace D := D.mono (st2.step.sub (by decide)); replace b2 := st2.step.sub (by decide) _ _ b2
  have he : REye (view c2 2 w2) ⟨x, 0, none⟩ (.slice o0 l.length p0) l l := ⟨0, ⟨x, rfl, bx⟩, by omega, by simp⟩
  have L1 := eU_len 1 l
  have L2 := eU_len 2 (eU 1 l).2.1
  have L3 := eU_len 2 (eU 2 (eU 1 l).2.1).2.1
  have L4 := (eT_len (eU 2 (eU 2 (eU 1 l).2.1).2.1).2.1).1
  have L5 := (eT_len (eT (eU 2 (eU 2 (eU 1 l).2.1).2.1).2.1).2.1).1
  refine REye_U 5 (by omega) (by omega) he D (by omega) 1 rfl (by omega) (by omega) fun c3 w3 st3 he => ?_
  replace S := S.go st3 (by decide) (by decide); replace D := D.mono (st3.sub (by decide)); replace b2 := st3.sub (by decide) _ _ b2
  (repeat (first | refine TInt.mk ?_ | refine TBool.mk ?_ | refine TStr.mk ?_ | refine TSl.mk ?_ | refine TPtr.mk ?_ | refine TAgg.mk ?_ | refine T2.mk ?_ | refine T3.mk ?_ | refine TSome.mk ?_))
  refine REye_U 5 (by omega) (by omega) he D (by omega) 2 rfl (by omega) (by omega) fun c4 w4 st4 he => ?_
  replace S := S.go st4 (by decide) (by decide); replace D := D.mono (st4.sub (by decide)); replace b2 := st4.sub (by decide) _ _ b2
  (repeat (first | refine TInt.mk ?_ | refine TBool.mk ?_ | refine TStr.mk ?_ | refine TSl.mk ?_ | refine TPtr.mk ?_ | refine TAgg.mk ?_ | refine T2.mk ?_ | refine T3.mk ?_ | refine TSome.mk ?_))
  refine REye_U 5 (by omega) (by omega) he D (by omega) 2 rfl (by omega) (by omega) fun c5 w5 st5 he => ?_
  replace S := S.go st5 (by decide) (by decide); replace D := D.mono (st5.sub (by decide)); replace b2 := st5.sub (by decide) _ _ b2
  (repeat (first | refine TInt.mk ?_ | refine TBool.mk ?_ | refine TStr.mk ?_ | refine TSl.mk ?_ | refine TPtr.mk ?_ | refine TAgg.mk ?_ | refine T2.mk ?_ | refine T3.mk ?_ | refine TSome.mk ?_))
  refine REye_T 5 (by omega) (by omega) he D (by omega) fun v6 c6 w6 st6 he r6 => ?_
  replace S := S.go st6 (by decide) (by decide); replace D := D.mono (st6.sub (by decide)); replace b2 := st6.sub (by decide) _ _ b2
  obtain ⟨o6, p6, rfl⟩ := r6.form
  (repeat (first | refine TInt.mk ?_ | refine TBool.mk ?_ | refine TStr.mk ?_ | refine TSl.mk ?_ | refine TPtr.mk ?_ | refine TAgg.mk ?_ | refine T2.mk ?_ | refine T3.mk ?_ | refine TSome.mk ?_))
  refine REye_T 5 (by omega) (by omega) he D (by omega) fun v7 c7 w7 st7 he r7 => ?_
  replace S := S.go st7 (by decide) (by decide); replace D := D.mono (st7.sub (by decide)); replace b2 := st7.sub (by decide) _ _ b2; replace r6 := r6.mono (st7.sub (by decide))
  obtain ⟨o7, p7, rfl⟩ := r7.form
  (repeat (first | refine TInt.mk ?_ | refine TBool.mk ?_ | refine TStr.mk ?_ | refine TSl.mk ?_ | refine TPtr.mk ?_ | refine TAgg.mk ?_ | refine T2.mk ?_ | refine T3.mk ?_ | refine TSome.mk ?_))
  refine REye_T 5 (by omega) (by omega) he D (by omega) fun v8 c8 w8 st8 he r8 => ?_
  replace S := S.go st8 (by decide) (by decide); replace D := D.mono (st8.sub (by decide)); replace b2 := st8.sub (by decide) _ _ b2; replace r6 := r6.mono (st8.sub (by decide)); replace r7 := r7.mono (st8.sub (by decide))
  obtain ⟨o8, p8, rfl⟩ := r8.form
  (repeat (first | refine TInt.mk ?_ | refine TBool.mk ?_ | refine TStr.mk ?_ | refine TSl.mk ?_ | refine TPtr.mk ?_ | refine TAgg.mk ?_ | refine T2.mk ?_ | refine T3.mk ?_ | refine TSome.mk ?_))
  refine string_rule strU8 (r6.rd.mono (view_sub _ _ _)) (TStr.mk ?_)
  refine string_rule strU8 (r7.rd.mono (view_sub _ _ _)) (TStr.mk ?_)
  have q1 := eU_lt 1 l
  have q2 := eU_lt 2 (eU 1 l).2.1
  have q3 := eU_lt 2 (eU 2 (eU 1 l).2.1).2.1
  rw [wrap_i64_nat _ (by omega), wrap_i64_nat _ (by omega), wrap_i64_nat _ (by omega)]
  refine AllocC.col c8 4 fun y c9 w9 st9 b5 _ => ?_
  replace S := S.go st9.step (by decide) (by decide); replace D := D.mono (st9.step.sub (by decide)); replace b2 := st9.step.sub (by decide) _ _ b2; replace r8 := r8.mono (st9.step.sub (by decide)); replace he := he.mono (st9.step.sub (by decide))
  refine RunU.var b5 (by kernel_rfl) rfl (by first | (simp [Value.oneCell']; done) | (simp [Value.oneCell', OpR.cells, sv]; done) | (simp [Value.oneCell', AnsR.cells, sv]; done) | rfl) fun w10 st10 b5 => ?_
  replace S := S.go st10.step (by decide) (by decide); replace D := D.mono (st10.step.sub (by decide)); replace b2 := st10.step.sub (by decide) _ _ b2; replace r8 := r8.mono (st10.step.sub (by decide)); replace he := he.mono (st10.step.sub (by decide))
  refine REye_E he D fun w11 st11 => ?_
  replace S := S.go st11 (by decide) (by decide); replace D := D.mono (st11.sub (by decide)); replace b2 := st11.sub (by decide) _ _ b2; replace b5 := st11.sub (by decide) _ _ b5; replace r8 := r8.mono (st11.sub (by decide)); replace he := he.mono (st11.sub (by decide))
  (repeat (first | refine TInt.mk ?_ | refine TBool.mk ?_ | refine TStr.mk ?_ | refine TSl.mk ?_ | refine TPtr.mk ?_ | refine TAgg.mk ?_ | refine T2.mk ?_ | refine T3.mk ?_ | refine TSome.mk ?_))
  have k1 : ∀ (b : Bool) c' w', Fr w c' w' → view c' 3 w' a = some (.cells #[.int .i64 0, .string ByteArray.empty, .string ByteArray.empty, .int .i64 0, .int .i64 0, .slice none 0 0] 61 (0, 0)) →
      view c' 4 w' y = some (.cells ((decOp l).1.cells (.slice o8 (decOp l).1.data.length p8)).toArray 61 (0, 0)) → RdS (view c' 5 w') (.slice o8 (decOp l).1.data.length p8) 1 (decOp l).1.data.length (bvs (decOp l).1.data) → (b = false ↔ ((decOp l).1.right ∧ (decOp l).1.enc = l)) → ref10_Read_K1 ⟨a, 0, none⟩ ⟨y, 0, none⟩ b w' R := by
    intro b c' w' S b2 b5 r8 hb
    unfold ref10_Read_K1
    cases b
    · refine BS.no rfl ?_
      refine LoadA.all (view_sub _ _ _) b5 rfl ?_
      refine RunU.var b2 (by kernel_rfl) rfl (by first | (simp [Value.oneCell']; done) | (simp [Value.oneCell', OpR.cells, sv]; done) | (simp [Value.oneCell', AnsR.cells, sv]; done) | rfl) fun w16 st16 b2 => ?_
      replace S := S.go st16.step (by decide) (by decide); replace r8 := r8.mono (st16.step.sub (by decide))
      refine LoadA.all (view_sub _ _ _) b2 rfl ?_
      have := h (.slice o8 (decOp l).1.data.length p8) _ _ (S.leave c j)
      rw [rdOp_yes (hb.1 rfl)] at this
      exact this (r8.mono (S.out c j (by omega)))
    · refine BS.yes rfl ?_
      refine RunU.var b2 (by kernel_rfl) rfl (by first | (simp [Value.oneCell']; done) | (simp [Value.oneCell', OpR.cells, sv]; done) | (simp [Value.oneCell', AnsR.cells, sv]; done) | rfl) fun w16 st16 b2 => ?_
      replace S := S.go st16.step (by decide) (by decide); replace r8 := r8.mono (st16.step.sub (by decide))
      refine LoadA.all (view_sub _ _ _) b2 rfl ?_
      have := h (.slice none 0 0) _ _ (S.leave c j)
      rw [rdOp_no (fun hh => by simpa using hb.2 hh)] at this
      exact this (RdS.none_bytes ..)
  have c1 := eU_bd 1 l
  have c2 := eU_bd 2 (eU 1 l).2.1
  have c3 := eU_bd 2 (eU 2 (eU 1 l).2.1).2.1
  have c4 := eT_bd (eU 2 (eU 2 (eU 1 l).2.1).2.1).2.1
  have c5 := eT_bd (eT (eU 2 (eU 2 (eU 1 l).2.1).2.1).2.1).2.1
  have c6 := eT_bd (eT (eT (eU 2 (eU 2 (eU 1 l).2.1).2.1).2.1).2.1).2.1
  have c7 := eE_bd (eT (eT (eT (eU 2 (eU 2 (eU 1 l).2.1).2.1).2.1).2.1).2.1).2.1
  have hsum : (decOp l).2.2 = (eU 1 l).2.2 + (eU 2 (eU 1 l).2.1).2.2 + (eU 2 (eU 2 (eU 1 l).2.1).2.1).2.2 + (eT (eU 2 (eU 2 (eU 1 l).2.1).2.1).2.1).2.2 + (eT (eT (eU 2 (eU 2 (eU 1 l).2.1).2.1).2.1).2.1).2.2 + (eT (eT (eT (eU 2 (eU 2 (eU 1 l).2.1).2.1).2.1).2.1).2.1).2.2 + eE (eT (eT (eT (eU 2 (eU 2 (eU 1 l).2.1).2.1).2.1).2.1).2.1).2.1 := rfl
  have hboth := dec_both l
  refine BS.ne (fun hne => ?_) (fun he0 => ?_)
  · simp only [IntKind.wrap_i64] at hne
    exact k1 true _ _ S b2 b5 r8.rd ⟨fun h => by simp at h, fun h => absurd (hboth.2 h).1 (by omega)⟩
  · simp only [IntKind.wrap_i64] at he0
    have h0 : (decOp l).2.2 = 0 := by omega
    refine LoadA.all (cs := ((decOp l).1.cells (.slice o8 (decOp l).1.data.length p8)).toArray) (view_sub _ _ _) b5 rfl ?_
    refine ref_Right c9 0 (o := (decOp l).1) r8.rd fun c12 w12 st12 => TBool.mk ?_
    replace S := S.go st12 (by decide) (by decide); replace b2 := st12.sub (by decide) _ _ b2; replace b5 := st12.sub (by decide) _ _ b5; replace r8 := r8.mono (st12.sub (by decide))
    refine k1 _ _ _ S b2 b5 r8.rd ?_
    rw [← hboth]
    simp [h0]
end Go.Proofs.Ytpmpfahedbfppaa

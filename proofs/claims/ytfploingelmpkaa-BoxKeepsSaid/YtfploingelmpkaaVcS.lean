/-
  The conditions are sound, operation by operation: over any program.
-/
import Derived.Test.YtfploingelmpkaaVc
set_option linter.unusedSimpArgs false
set_option linter.unusedVariables false
namespace Go.Vc
open Go

structure Rel (Df : List Deferred) (N : Nat) (a : Act) (g : Env) : Prop where
  defers : a.defers = Df
  size : a.tmps.size = N
  get : ∀ t, a.tmps.getD t undef = g t

variable {Df : List Deferred}
theorem Rel.eval {N : Nat} {a : Act} {g : Env} (h : Rel Df N a g) : a.eval = ev g := by
  funext x
  cases x <;> simp [Act.eval, ev, h.get]

theorem Rel.put {N : Nat} {a : Act} {g : Env} (h : Rel Df N a g) (d : Option Nat) (v : Value) (hd : ∀ x, d = some x → x < N) : Rel Df N (a.put d v) (putO g d v) := by
  cases d with
  | none => exact h
  | some x =>
    have hx := hd x rfl
    refine ⟨h.defers, by simp [Act.put, h.size], fun t => ?_⟩
    have hg := h.get t
    simp only [Act.put, putO, Vc.put]
    rw [Array.getD_eq_getD_getElem?, Array.getElem?_setIfInBounds]
    by_cases ht : t = x
    · subst ht; simp [h.size, hx]
    · have h1 : Nat.beq t x = false := by rw [← Bool.not_eq_true, Nat.beq_eq]; exact ht
      rw [h1, if_neg (fun e => ht e.symm), ← hg, Array.getD_eq_getD_getElem?]

/-! the pure ones -/
section
variable {P : Program} {K : Value → Prop}

theorem Req.out {b : Bool} {C : Prop} (h : Req b C) : b = true ∧ C := by cases b <;> simp_all [Req]
theorem kindEq_eq {a b : IntKind} (h : kindEq a b = true) : a = b := of_decide_eq_true h

def Yld (P : Program) (s : Sem Value) (K : Value → Prop) : Prop := ∃ v, (∀ w, s.run P w = .ok v w) ∧ K v

theorem intK_sound {op : BinOp} {k k' : IntKind} {a b : Int} (t : TypeId) (h : intK op k a k' b K) : Yld P (binOp op t (.int k a) (.int k' b)) K := by
  unfold intK at h
  split at h
  · obtain ⟨h1, h2⟩ := h.out
    refine ⟨_, fun w => ?_, h2⟩
    have hb : ¬ b < 0 := by simpa using h1
    simp [binOp, Op.shift, hb, shlV]
  · obtain ⟨h1, h2⟩ := h.out
    refine ⟨_, fun w => ?_, h2⟩
    have hb : ¬ b < 0 := by simpa using h1
    simp [binOp, Op.shift, hb, shrV]
  · split at h
    · exact h.elim
    · rename_i hk
      have hk := kindEq_eq hk
      subst hk
      split at h <;> first
        | exact h.elim
        | (refine ⟨_, fun w => ?_, h⟩; simp [binOp, Op.intArith]; done)
        | (refine ⟨_, fun w => ?_, h⟩; simp [binOp, Op.intBits, bitsV]; done)
        | (refine ⟨_, fun w => ?_, h⟩; simp [binOp, Op.intCmp]; done)
        | (obtain ⟨h1, h2⟩ := h.out
           have hb : ¬ b = 0 := by simpa using h1
           refine ⟨_, fun w => ?_, h2⟩; simp [binOp, Op.intDiv, hb]; done)

theorem strK_sound {op : BinOp} {a b : ByteArray} (t : TypeId) (h : strK op a b K) : Yld P (binOp op t (.string a) (.string b)) K := by
  unfold strK at h
  split at h <;> first
    | exact h.elim
    | (refine ⟨_, fun w => ?_, h⟩; simp [binOp, Op.stringOp, strEq, strLt]; done)
    | (obtain ⟨h1, h2⟩ := h.out
       have hb : ¬ ((a.size + b.size : Nat) : Int) > IntKind.i64.max := by
         have := of_decide_eq_true h1
         simp [IntKind.max, IntKind.signed, IntKind.bits]; omega
       exact ⟨_, fun w => by simp only [binOp, Op.stringOp, hb, if_false, Sem.run_pure], h2⟩)

theorem run_eqGuard_other (op : BinOp) (t : TypeId) (x y : Operand) (a b : Value) (w : World) (h : match a, b with | .nilIface, .nilIface => False | .agg _, .agg _ => False | _, _ => True) :
    (eqGuard op t x y a b).run P w = .ok () w := by
  unfold eqGuard
  cases op <;> simp <;> cases a <;> cases b <;> simp_all

theorem run_equalIn_boolD {t : TypeId} (hu : P.underlying t = some .bool) (d : Nat) (m n : Bool) (w : World) : (Op.equalIn (d + 1) t (.bool m) (.bool n)).run P w = .ok (m == n) w := by
  simp [Op.equalIn, run_underlying hu]
theorem run_equalIn_ptrD {t e : TypeId} (hu : P.underlying t = some (.pointer e)) (d : Nat) (m : Option Addr) (w : World) : (Op.equalIn (d + 1) t (.pointer m) (.pointer none)).run P w = .ok m.isNone w := by
  cases m <;> simp [Op.equalIn, run_underlying hu]
theorem run_equalIn_sliceD {t e : TypeId} (hu : P.underlying t = some (.slice e)) (d : Nat) (m : Option Addr) (l c : Nat) (w : World) : (Op.equalIn (d + 1) t (.slice m l c) (.slice none 0 0)).run P w = .ok m.isNone w := by
  cases m <;> simp [Op.equalIn, run_underlying hu]
theorem isBoolT_out {t : TypeId} (h : isBoolT P t = true) : P.underlying t = some .bool := by
  unfold isBoolT at h; split at h <;> first | assumption | simp at h
theorem isPtrT_out {t : TypeId} (h : isPtrT P t = true) : ∃ e, P.underlying t = some (.pointer e) := by
  unfold isPtrT at h; split at h <;> first | exact ⟨_, ‹_›⟩ | simp at h
theorem isSliceT_out {t : TypeId} (h : isSliceT P t = true) : ∃ e, P.underlying t = some (.slice e) := by
  unfold isSliceT at h; split at h <;> first | exact ⟨_, ‹_›⟩ | simp at h
theorem run_eql_D {t : TypeId} {a b : Value} {r : Bool} (w : World) (h : ∀ d, (Op.equalIn (d + 1) t a b).run P w = .ok r w) : (Op.equal t a b).run P w = .ok r w := h 9999

theorem binK_sound {op : BinOp} {t : TypeId} {x y : Operand} {a b : Value} (h : binK P op t x y a b K) :
    Yld P (do eqGuard op t x y a b; binOp op t a b) K := by
  unfold binK at h
  split at h
  · obtain ⟨v, hv, hK⟩ := intK_sound (P := P) t h
    exact ⟨v, fun w => by simp [run_eqGuard_other, hv], hK⟩
  · obtain ⟨v, hv, hK⟩ := strK_sound (P := P) t h
    exact ⟨v, fun w => by simp [run_eqGuard_other, hv], hK⟩
  · split at h
    · rename_i hb
      refine ⟨_, fun w => ?_, h⟩
      simp only [Sem.run_bind, run_eqGuard_other, Result.andThen_ok, binOp, run_eql_D w (run_equalIn_boolD (isBoolT_out hb) · _ _ w), Sem.run_pure]
    · rename_i hb
      refine ⟨_, fun w => ?_, h⟩
      simp only [Sem.run_bind, run_eqGuard_other, Result.andThen_ok, binOp, run_eql_D w (run_equalIn_boolD (isBoolT_out hb) · _ _ w), Sem.run_pure]
    · exact h.elim
  · split at h
    · rename_i hb
      obtain ⟨e, hu⟩ := isPtrT_out hb
      refine ⟨_, fun w => ?_, h⟩
      simp only [Sem.run_bind, run_eqGuard_other, Result.andThen_ok, binOp, run_eql_D w (run_equalIn_ptrD hu · _ w), Sem.run_pure]
    · rename_i hb
      obtain ⟨e, hu⟩ := isPtrT_out hb
      refine ⟨_, fun w => ?_, h⟩
      simp only [Sem.run_bind, run_eqGuard_other, Result.andThen_ok, binOp, run_eql_D w (run_equalIn_ptrD hu · _ w), Sem.run_pure]
    · exact h.elim
  · split at h
    · rename_i hb
      obtain ⟨e, hu⟩ := isSliceT_out hb
      refine ⟨_, fun w => ?_, h⟩
      simp only [Sem.run_bind, run_eqGuard_other, Result.andThen_ok, binOp, run_eql_D w (run_equalIn_sliceD hu · _ _ _ w), Sem.run_pure]
    · rename_i hb
      obtain ⟨e, hu⟩ := isSliceT_out hb
      refine ⟨_, fun w => ?_, h⟩
      simp only [Sem.run_bind, run_eqGuard_other, Result.andThen_ok, binOp, run_eql_D w (run_equalIn_sliceD hu · _ _ _ w), Sem.run_pure]
    · exact h.elim
  · split at h
    · obtain ⟨r, hr, hK⟩ := h; exact ⟨_, hr, hK⟩
    · obtain ⟨r, hr, hK⟩ := h; exact ⟨_, hr, hK⟩
    · exact h.elim
  · exact h.elim

theorem unK_sound {op : UnOp} {a : Value} (h : unK op a K) : Yld P (Op.unary op a) K := by
  unfold unK at h
  split at h <;> first
    | exact h.elim
    | (refine ⟨_, fun w => ?_, h⟩; simp [Op.unary, Op.intArith, Op.intBits, bitsV]; done)

theorem convK_sound {s t : TypeId} {v : Value} (h : convK P s t v K) : Yld P (convert s t v) K := by
  unfold convK at h
  split at h
  · rename_i h1 h2
    exact ⟨_, fun w => by simp [convert, run_underlying h1, run_underlying h2, Conv.intToInt], h⟩
  · rename_i h1 h2
    exact ⟨_, fun w => by simp [convert, run_underlying h1, run_underlying h2], h⟩
  · exact h.elim

theorem run_typeInfo' {t : TypeId} {i : TypeInfo} (h : P.info? t = some i) (w : World) : (typeInfo t).run P w = .ok i w := by simp [typeInfo, h]
theorem run_sizeB {t : TypeId} {n : Nat} (h : sizeB P t = some n) (w : World) : (sizeOf t).run P w = .ok n w := by
  unfold sizeB at h
  split at h
  · rename_i i hi; simp [sizeOf, typeInfo, hi]; simpa using h
  · simp at h
theorem run_isAggB {t : TypeId} {b : Bool} (h : isAggB P t = some b) (w : World) : (isAgg t).run P w = .ok b w := by
  unfold isAggB at h
  split at h
  · rename_i hu; simp at h; subst h; simp [isAgg, run_underlying hu]
  · rename_i hu; simp at h; subst h; simp [isAgg, run_underlying hu]
  · rename_i d h1 h2 hu; simp at h; subst h
    simp only [isAgg, Sem.run_bind, run_underlying hu, Result.andThen_ok]
    cases d <;> first | rfl | exact (h1 _ rfl).elim | exact (h2 _ _ rfl).elim
  · simp at h

theorem TInt_out {k : IntKind} {v : Value} {C : Int → Prop} (h : TInt k v C) : ∃ n, v = .int k n ∧ C n := by
  unfold TInt at h
  split at h
  · split at h
    · rename_i hk; have := kindEq_eq hk; subst this; exact ⟨_, rfl, h⟩
    · exact h.elim
  · exact h.elim

theorem TV1_out {t : TypeId} {v : Value} {C : Value → Prop} (h : TV1 P t v C) : C v := by
  unfold TV1 at h
  split at h
  · obtain ⟨n, rfl, h'⟩ := TInt_out h; exact h'
  · unfold TBool at h; split at h <;> first | exact h | exact h.elim
  · unfold TStr at h; split at h <;> first | exact h | exact h.elim
  · unfold TPtr at h; split at h <;> first | exact h | exact h.elim
  · unfold TSl at h; split at h <;> first | exact h | exact h.elim
  · unfold TAgg at h; split at h <;> first | exact h | exact h.elim
  · unfold TAgg at h; split at h <;> first | exact h | exact h.elim
  · unfold TMap at h; split at h <;> first | exact h | exact h.elim
  · unfold TChan at h; split at h <;> first | exact h | exact h.elim
  · exact h

theorem TV_out {t : TypeId} {v : Value} {C : Value → Prop} (h : TV P t v C) : C v := by
  unfold TV at h
  split at h
  · split at h
    · exact h
    · unfold T2 at h
      split at h
      · rename_i vs
        split at h
        · rename_i hl
          have := TV1_out (TV1_out h)
          rw [← Array.toArray_toList (xs := vs), hl]; exact this
        · exact h.elim
      · exact h.elim
    · unfold T3 at h
      split at h
      · rename_i vs
        split at h
        · rename_i hl
          have := TV1_out (TV1_out (TV1_out h))
          rw [← Array.toArray_toList (xs := vs), hl]; exact this
        · exact h.elim
      · exact h.elim
    · unfold T4 at h
      split at h
      · rename_i vs
        split at h
        · rename_i hl
          have := TV1_out (TV1_out (TV1_out (TV1_out h)))
          rw [← Array.toArray_toList (xs := vs), hl]; exact this
        · exact h.elim
      · exact h.elim
    · exact h.elim
  · exact TV1_out h

theorem TCell_out {cs : Array Value} {i : Nat} {C : Value → Prop} (h : TCell cs i C) : ∃ v, cs[i]? = some v ∧ C v := by
  unfold TCell at h
  split at h
  · exact ⟨_, ‹_›, h⟩
  · exact h.elim

theorem partK_sound {t : TypeId} {cs : Array Value} {off : Nat} (h : partK P t cs off K) : Yld P (part t cs off) K := by
  unfold partK at h
  split at h
  · rename_i ha
    split at h
    · rename_i n hn
      exact ⟨_, fun w => by simp [part, run_isAggB ha, run_sizeB hn], h⟩
    · exact h.elim
  · rename_i ha
    obtain ⟨v, hv, h⟩ := TCell_out h
    exact ⟨v, fun w => by simp [part, run_isAggB ha, hv], TV1_out h⟩
  · exact h.elim

theorem fieldK_sound {s : TypeId} {v : Value} {f : Nat} (h : fieldK P s v f K) : Yld P (Instr.field s v f) K := by
  unfold fieldK at h
  split at h
  · rename_i hu
    split at h
    · rename_i fd hf
      obtain ⟨v, hv, hK⟩ := partK_sound h
      exact ⟨v, fun w => by simp [Instr.field, run_underlying hu, hf, asAgg, hv], hK⟩
    · exact h.elim
  · exact h.elim

theorem TSome_out {o : Option Addr} {C : Addr → Prop} (h : TSome o C) : ∃ a, o = some a ∧ C a := by
  cases o with
  | none => exact h.elim
  | some a => exact ⟨a, rfl, h⟩

theorem indexAddrK_sound {t : TypeId} {x i : Value} (h : indexAddrK P t x i K) : Yld P (Instr.indexAt t x i) K := by
  unfold indexAddrK at h
  split at h
  · split at h
    · rename_i hu
      split at h
      · rename_i z hz
        obtain ⟨h1, h2⟩ := h.out
        have hb := of_decide_eq_true h1
        refine ⟨_, fun w => ?_, h2⟩
        simp only [Instr.indexAt, asIntOf, Sem.run_bind, Sem.run_pure, Result.andThen_ok, run_underlying hu, Instr.sureAddr, if_pos hb, run_sizeB hz]
      · exact h.elim
    · rename_i hu
      split at h
      · rename_i z hz
        obtain ⟨h1, h2⟩ := h.out
        have hb := of_decide_eq_true h1
        obtain ⟨a, rfl, h3⟩ := TSome_out h2
        refine ⟨_, fun w => ?_, h3⟩
        simp only [Instr.indexAt, asIntOf, Sem.run_bind, Sem.run_pure, Result.andThen_ok, run_underlying hu, if_pos hb, run_sizeB hz]
      · exact h.elim
    · exact h.elim
  · exact h.elim

theorem indexK_sound {t : TypeId} {x i : Value} (h : indexK P t x i K) : Yld P (Instr.index t x i) K := by
  unfold indexK at h
  split at h
  · split at h
    · rename_i hu
      split at h
      · rename_i z hz
        obtain ⟨h1, h2⟩ := h.out
        have hb := of_decide_eq_true h1
        obtain ⟨v, hv, hK⟩ := partK_sound h2
        refine ⟨v, fun w => ?_, hK⟩
        simp only [Instr.index, asIntOf, Sem.run_bind, Sem.run_pure, Result.andThen_ok, run_underlying hu, if_pos hb, run_sizeB hz, hv]
      · exact h.elim
    · rename_i hu
      obtain ⟨h1, h2⟩ := h.out
      have hb := of_decide_eq_true h1
      unfold TByte at h2
      split at h2
      · rename_i b hs
        refine ⟨_, fun w => ?_, h2⟩
        simp only [Instr.index, asIntOf, Sem.run_bind, Sem.run_pure, Result.andThen_ok, run_underlying hu, if_pos hb.1, hs]
      · exact h2.elim
    · exact h.elim
  · exact h.elim

theorem run_bndle {k : IntKind} {i : Int} {y : Nat} {code : BoundsCode} (h : bndle i y = true) (w : World) :
    (Instr.sliceBound (.int k i) y code).run P w = .ok i.toNat w := by
  have hb := of_decide_eq_true h
  simp only [Instr.sliceBound, asIntOf, Sem.run_bind, Sem.run_pure, Result.andThen_ok, if_pos hb]

theorem slice3K_sound {t : TypeId} {x : Value} {lo hi : Option Value} {mv : Value} (h : slice3K P t x lo hi mv K) : Yld P (Instr.sliceAt t x lo hi (some mv)) K := by
  unfold slice3K at h
  split at h
  · rename_i hu
    split at h
    · rename_i hz
      obtain ⟨h1, h⟩ := h.out
      obtain ⟨h2, h⟩ := h.out
      obtain ⟨h3, h⟩ := h.out
      exact ⟨_, fun w => by simp [Instr.sliceAt, Instr.slice, Instr.sliceBounds, run_underlying hu, run_bndle h1, run_bndle h2, run_bndle h3, run_sizeB hz, slBase], h⟩
    · exact h.elim
  · exact h.elim

theorem sliceK_sound {t : TypeId} {x : Value} {lo hi mx : Option Value} (h : sliceK P t x lo hi mx K) : Yld P (Instr.sliceAt t x lo hi mx) K := by
  unfold sliceK at h
  split at h
  · exact slice3K_sound h
  split at h
  · rename_i hu
    split at h
    · exact ⟨_, fun w => by simp [Instr.sliceAt, Instr.slice, Instr.sliceBounds, run_underlying hu], h⟩
    · obtain ⟨h1, h⟩ := h.out
      exact ⟨_, fun w => by simp [Instr.sliceAt, Instr.slice, Instr.sliceBounds, run_underlying hu, run_bndle h1], h⟩
    · obtain ⟨h1, h⟩ := h.out
      exact ⟨_, fun w => by simp [Instr.sliceAt, Instr.slice, Instr.sliceBounds, run_underlying hu, run_bndle h1], h⟩
    · obtain ⟨h1, h⟩ := h.out
      obtain ⟨h2, h⟩ := h.out
      exact ⟨_, fun w => by simp [Instr.sliceAt, Instr.slice, Instr.sliceBounds, run_underlying hu, run_bndle h1, run_bndle h2], h⟩
    · exact h.elim
  · rename_i hu
    split at h
    · exact h.elim
    rename_i z hz
    split at h
    · exact ⟨_, fun w => by simp [Instr.sliceAt, Instr.slice, Instr.sliceBounds, run_underlying hu, run_sizeB hz, slBase], h⟩
    · obtain ⟨h1, h⟩ := h.out
      exact ⟨_, fun w => by simp [Instr.sliceAt, Instr.slice, Instr.sliceBounds, run_underlying hu, run_bndle h1, run_sizeB hz, slBase], h⟩
    · obtain ⟨h1, h⟩ := h.out
      exact ⟨_, fun w => by simp [Instr.sliceAt, Instr.slice, Instr.sliceBounds, run_underlying hu, run_bndle h1, run_sizeB hz, slBase], h⟩
    · obtain ⟨h1, h⟩ := h.out
      obtain ⟨h2, h⟩ := h.out
      exact ⟨_, fun w => by simp [Instr.sliceAt, Instr.slice, Instr.sliceBounds, run_underlying hu, run_bndle h1, run_bndle h2, run_sizeB hz, slBase], h⟩
    · exact h.elim
  · rename_i hu
    split at h
    · exact h.elim
    rename_i z hz
    split at h
    · refine ⟨_, fun w => ?_, h⟩
      simp only [Instr.sliceAt, Instr.sliceBounds, run_underlying hu, run_sizeB hz, slBase, Instr.sureAddr, Sem.run_bind, Sem.run_pure, Result.andThen_ok]
      split <;> simp
    · obtain ⟨h1, h⟩ := h.out
      refine ⟨_, fun w => ?_, h⟩
      simp only [Instr.sliceAt, Instr.sliceBounds, run_underlying hu, run_sizeB hz, slBase, Instr.sureAddr, Sem.run_bind, Sem.run_pure, Result.andThen_ok, run_bndle h1, Bool.false_eq_true, if_false]
      split <;> simp
    · obtain ⟨h1, h⟩ := h.out
      refine ⟨_, fun w => ?_, h⟩
      simp only [Instr.sliceAt, Instr.sliceBounds, run_underlying hu, run_sizeB hz, slBase, Instr.sureAddr, Sem.run_bind, Sem.run_pure, Result.andThen_ok, run_bndle h1, Bool.false_eq_true, if_false]
      split <;> simp [*]
    · obtain ⟨h1, h⟩ := h.out
      obtain ⟨h2, h⟩ := h.out
      refine ⟨_, fun w => ?_, h⟩
      simp only [Instr.sliceAt, Instr.sliceBounds, run_underlying hu, run_sizeB hz, slBase, Instr.sureAddr, Sem.run_bind, Sem.run_pure, Result.andThen_ok, run_bndle h1, run_bndle h2, Bool.false_eq_true, if_false]
      split <;> simp [*]
    · exact h.elim
  · exact h.elim

/-- what a pure operation hands on -/
def YldN (P : Program) (s : Sem Next) (K : Value → Prop) : Prop := ∃ v, (∀ w, s.run P w = .ok (.value v) w) ∧ K v
theorem Yld.next {s : Sem Value} (h : Yld P s K) : YldN P (do pure (.value (← s))) K := by
  obtain ⟨v, hv, hK⟩ := h
  exact ⟨v, fun w => by simp [hv], hK⟩

theorem lenK_sound {ts : Array TypeId} {t : TypeId} {vs : Array Value} (h : lenK P ts vs K) : Yld P (Builtin.len_ ts t vs) K := by
  unfold lenK at h
  split at h
  · rename_i h1 h2
    split at h
    · rename_i hu
      exact ⟨_, fun w => by simp [Builtin.len_, h1, h2, run_underlying hu, goInt], h⟩
    · rename_i hu
      exact ⟨_, fun w => by simp [Builtin.len_, h1, h2, run_underlying hu, goInt], h⟩
    · rename_i v _ _ hu
      refine ⟨_, fun w => ?_, h⟩
      simp only [Builtin.len_, h1, h2, Sem.run_bind, run_underlying hu, Result.andThen_ok]
      cases v <;> simp [goInt]
    · exact h.elim
  · exact h.elim

theorem maxK_sound {ts : Array TypeId} {t : TypeId} {vs : Array Value} (h : maxK true vs K) : Yld P (Builtin.max_ ts t vs) K := by
  unfold maxK at h
  split at h
  · rename_i hv
    split at h
    · refine ⟨_, fun w => ?_, h⟩
      simp [Builtin.max_, hv, Builtin.max2]
      split <;> omega
    · simp at *
    · exact h.elim
  · exact h.elim
theorem minK_sound {ts : Array TypeId} {t : TypeId} {vs : Array Value} (h : maxK false vs K) : Yld P (Builtin.min_ ts t vs) K := by
  unfold maxK at h
  split at h
  · rename_i hv
    split at h
    · simp at *
    · refine ⟨_, fun w => ?_, h⟩
      simp [Builtin.min_, hv, Builtin.min2]
      split <;> omega
    · exact h.elim
  · exact h.elim

theorem resolve_builtin (ρ : Operand → Value) (b : Builtin) (as : Array Operand) (ts : Array TypeId) (t : TypeId) (w : World) :
    ((do let d ← resolve ρ { callee := .builtin b, args := as, argTypes := ts } t; invoke d.target d.args : Sem Next)).run P w = (builtin b ts t (as.map fun | .const _ => true | _ => false) (as.map ρ)).run P w := by
  simp only [resolve, Sem.run_bind, Sem.run_pure, Result.andThen_ok, invoke]
  rfl

theorem pureK_sound {g : Env} {o : Oper} (hp : isPure P o.op = true) (h : pureK P g o.op K) : YldN P (execOp (ev g) o) K := by
  obtain ⟨dst, op, ty, pos, after, guard⟩ := o
  cases op <;> simp only [isPure, Bool.false_eq_true] at hp <;> simp only [pureK] at h <;> unfold execOp <;> dsimp only
  case move => exact ⟨_, fun w => rfl, h⟩
  case assign => exact ⟨_, fun w => rfl, h⟩
  case pick c x y =>
    split at h
    · rename_i t ht
      refine ⟨_, fun w => ?_, h⟩
      rw [ht]
      simp only [asBool, Sem.run_bind, Sem.run_pure, Result.andThen_ok]
      congr 2
      generalize ev g x = vx
      generalize ev g y = vy
      cases t <;> cases vx <;> cases vy <;> rfl
    · exact h.elim
  case binOp => exact (binK_sound h).next
  case unOp => exact (unK_sound h).next
  case convert => exact (convK_sound h).next
  case fieldAddr s x f =>
    split at h
    · rename_i n a hf hx
      refine Yld.next ⟨_, fun w => ?_, h⟩
      rw [hx]
      unfold fieldOff at hf
      split at hf
      · rename_i fs hu
        split at hf
        · rename_i fd hfd
          split at hf
          · rename_i i hi
            split at hf
            · simp at hf
            · rename_i hb
              have hb' : ¬ i.size = 0 := fun e => by rw [e] at hb; simp at hb
              simp at hf
              subst hf
              simp [Instr.fieldAt, run_underlying hu, hfd, Instr.sureAddr, fieldPlace, sizeOf, typeInfo, hi, hb']
          · simp at hf
        · simp at hf
      · simp at hf
    · exact h.elim
  case field => exact (fieldK_sound h).next
  case indexAddr => exact (indexAddrK_sound h).next
  case index => exact (indexK_sound h).next
  case extract x i =>
    unfold extractK at h
    split at h
    · rename_i vs hx
      obtain ⟨v, hv, hK⟩ := TCell_out h
      exact Yld.next ⟨v, fun w => by simp [Instr.extract, hx, hv], hK⟩
    · exact h.elim
  case nilCheck x =>
    unfold nilK at h
    split at h
    · rename_i o hx
      obtain ⟨a, rfl, hK⟩ := TSome_out h
      exact ⟨_, fun w => by simp [hx], hK⟩
    · rename_i f x' c hx
      exact ⟨_, fun w => by simp [hx], h⟩
    · exact h.elim
  case slice t x lo hi mx => exact (sliceK_sound h).next
  case makeInterface t x =>
    split at h
    · rename_i hc
      refine Yld.next ⟨_, fun w => ?_, h⟩
      unfold concreteB at hc
      split at hc
      · simp at hc
      · rename_i d hn hu
        simp only [Instr.makeInterface, Sem.run_bind, run_underlying hu, Result.andThen_ok]
        cases d <;> first | rfl | exact (hn _ rfl).elim
      · simp at hc
    · exact h.elim
  case makeFunc fn first captured => exact Yld.next ⟨_, fun w => by simp [Instr.makeFunc], h⟩
  case build t parts =>
    unfold TCells at h
    split at h
    · rename_i cs hc
      refine Yld.next ⟨_, fun w => ?_, h⟩
      refine run_build w t _ cs ?_
      rw [← hc, buildCells]
      simp
    · exact h.elim
  case sliceToArrayPointer t x =>
    unfold arrPtrK at h
    split at h
    · rename_i hu hx
      obtain ⟨h1, h2⟩ := h.out
      have hb := of_decide_eq_true h1
      unfold OptP at h2
      split at h2
      · refine Yld.next ⟨_, fun w => ?_, h2⟩
        simp [Instr.arrayAt, run_underlying hu, hx, Nat.not_lt.2 hb]
      · exact h2.elim
    · exact h.elim
  case call c =>
    obtain ⟨callee, as, ts⟩ := c
    cases callee <;> simp only [Bool.false_eq_true] at hp <;> simp only at h
    rename_i b
    cases b <;> simp only [Bool.false_eq_true] at hp <;> simp only at h
    · obtain ⟨v, hv, hK⟩ := lenK_sound (t := ty) h
      exact ⟨v, fun w => by rw [resolve_builtin]; simp [builtin, hv], hK⟩
    · obtain ⟨v, hv, hK⟩ := maxK_sound (P := P) (ts := ts) (t := ty) h
      exact ⟨v, fun w => by rw [resolve_builtin]; simp [builtin, hv], hK⟩
    · obtain ⟨v, hv, hK⟩ := minK_sound (P := P) (ts := ts) (t := ty) h
      exact ⟨v, fun w => by rw [resolve_builtin]; simp [builtin, hv], hK⟩

end

/-! the others -/
def okNames (P : Program) : Bool := P.funcs.all fun fn => !(fn.name == "runtime.NumGoroutine")
section
variable {P : Program}

theorem RunV.out {s : Sem Value} {w : World} {C : Value → World → Prop} (h : RunV P s w C) : ∃ v w', s.run P w = .ok v w' ∧ C v w' := by
  unfold RunV at h
  split at h
  · exact ⟨_, _, ‹_›, h⟩
  · exact h.elim
theorem RunU.out {s : Sem Unit} {w : World} {C : World → Prop} (h : RunU P s w C) : ∃ w', s.run P w = .ok () w' ∧ C w' := by
  unfold RunU at h
  split at h
  · exact ⟨_, ‹_›, h⟩
  · exact h.elim

/-- what an operation comes to -/
def Comes' (P : Program) (s : Sem Next) (w : World) (K : Value → World → Prop) : Prop :=
  (∃ v w', s.run P w = .ok (.value v) w' ∧ K v w') ∨ (∃ w', s.run P w = .ok .skip w' ∧ K undef w') ∨
  (∃ f args w', s.run P w = .ok (.enter f args) w' ∧ CallV P f args w' K)

theorem Comes'.value {s : Sem Value} {w : World} {K : Value → World → Prop} (h : RunV P s w K) : Comes' P (do pure (.value (← s))) w K := by
  obtain ⟨v, w', hr, hK⟩ := h.out
  exact .inl ⟨v, w', by simp [hr], hK⟩
theorem Comes'.skip {s : Sem Unit} {w : World} {K : Value → World → Prop} (h : RunU P s w (K undef)) : Comes' P (do s; pure .skip) w K := by
  obtain ⟨w', hr, hK⟩ := h.out
  exact .inr (.inl ⟨w', by simp [hr], hK⟩)
theorem RunV.mk {s : Sem Value} {w w' : World} {v : Value} {C : Value → World → Prop} (hr : s.run P w = .ok v w') (h : C v w') : RunV P s w C := by
  unfold RunV; rw [hr]; exact h
theorem RunU.mk {s : Sem Unit} {w w' : World} {C : World → Prop} (hr : s.run P w = .ok () w') (h : C w') : RunU P s w C := by
  unfold RunU; rw [hr]; exact h
theorem RunV.mono {s : Sem Value} {w : World} {C D : Value → World → Prop} (h : RunV P s w C) (hCD : ∀ v w', C v w' → D v w') : RunV P s w D := by
  obtain ⟨v, w', hr, hC⟩ := h.out
  exact .mk hr (hCD _ _ hC)
theorem LoadC.out {w : World} {a : Addr} {C : Value → Prop} (h : LoadC w a C) : ∃ v, w.cell? a = some v ∧ C v := by
  unfold LoadC at h
  split at h
  · exact ⟨_, ‹_›, h⟩
  · exact h.elim
theorem oneCellB_eq (v : Value) : oneCellB v = v.oneCell' := by cases v <;> rfl
theorem TCells_out {o : Option (Array Value)} {C : Array Value → Prop} (h : TCells o C) : ∃ cs, o = some cs ∧ C cs := by
  cases o with
  | none => exact h.elim
  | some a => exact ⟨a, rfl, h⟩

theorem add_zero (a : Addr) : a.add 0 = a := by simp [Addr.add]
theorem cells_one {v : Value} (h : v.oneCell' = true) : v.cells = #[v] := by cases v <;> simp_all [Value.oneCell', Value.cells]

theorem run_fillB {P : Program} (w : World) (t : TypeId) (len : Nat) (parts : Array (Nat × Value)) (e : TypeId) (cs : Array Value) (h : sliceCells P t len parts.toList = some (e, cs)) :
    (Instr.buildSlice t len parts).run P w = .ok (.slice (some ⟨w.heap.size, 0, none⟩) len len) (w.alloc (.cells cs e)) := by
  unfold sliceCells at h
  split at h
  · rename_i e' hu
    split at h
    · rename_i i hi
      have hs : (sizeOf e').run P w = .ok i.size w := by simp [sizeOf, typeInfo, hi]
      split at h
      · rename_i hle
        have hle' : ¬ len * i.size > 2 ^ 24 := by simpa using Nat.le_of_ble_eq_true hle
        split at h
        · rename_i hz
          have hz' : len * i.size = 0 := Nat.eq_of_beq_eq_true hz
          split at h
          · rename_i cs' hf
            simp at h; obtain ⟨rfl, rfl⟩ := h
            have hr0 : ∀ f : Nat → Value, Array.map f (Array.range 0) = #[] := fun _ => by simp
            simp only [Instr.buildSlice, Sem.run_bind, run_underlying hu, hs, Result.andThen_ok, hz', hle', if_true, if_false, Sem.run_pure, hr0, hf, newRow, run_newObj]
            simp
          · simp at h
        · rename_i hz
          have hz' : ¬ len * i.size = 0 := fun e => by rw [e] at hz; simp at hz
          split at h
          · rename_i z hzero
            split at h
            · rename_i cs' hf
              simp at h; obtain ⟨rfl, rfl⟩ := h
              simp only [Instr.buildSlice, Sem.run_bind, run_underlying hu, hs, Result.andThen_ok, hle', hz', if_false, zeroValue, typeInfo, Sem.run_pure, run_program, hi, hzero, hf, newRow, run_newObj]
              simp
            · simp at h
          · simp at h
      · simp at h
    · simp at h
  · simp at h

theorem foldl_set (l : List Value) : ∀ (k : Nat) (base : Array Value) (i : Nat),
    ((l.zipIdx k).foldl (fun cs p => cs.setIfInBounds p.2 p.1) base)[i]? = if k ≤ i ∧ i < k + l.length ∧ i < base.size then l[i - k]? else base[i]? := by
  induction l with
  | nil => intro k base i; simp; intros; omega
  | cons v l ih =>
    intro k base i
    simp only [List.zipIdx_cons, List.foldl_cons]
    rw [ih]
    simp only [Array.size_setIfInBounds, List.length_cons]
    by_cases h1 : k + 1 ≤ i ∧ i < k + 1 + l.length ∧ i < base.size
    · rw [if_pos h1, if_pos (by omega)]
      rw [show i - k = (i - (k + 1)) + 1 by omega]
      simp
    · rw [if_neg h1, Array.getElem?_setIfInBounds]
      by_cases h2 : k = i
      · subst h2
        rw [if_pos rfl]
        by_cases h3 : k < base.size
        · rw [if_pos h3, if_pos (by omega)]; simp
        · rw [if_neg h3, if_neg (by omega)]; rw [Array.getElem?_eq_none (by omega)]
      · rw [if_neg h2, if_neg (by omega)]

theorem run_fillOne {P : Program} (w : World) (t : TypeId) (v : Value) (e : TypeId) (i : TypeInfo) (hu : P.underlying t = some (.slice e)) (hi : P.info? e = some i)
    (hs : v.cells.size = i.size) (h1 : 1 ≤ i.size) (h2 : i.size ≤ 16777216) (hz : ∃ z, i.zero = some z) :
    (Instr.buildSlice t 1 #[(0, v)]).run P w = .ok (.slice (some ⟨w.heap.size, 0, none⟩) 1 1) (w.alloc (.cells v.cells e)) := by
  obtain ⟨z, hz⟩ := hz
  have hsz : (sizeOf e).run P w = .ok i.size w := by simp [sizeOf, typeInfo, hi]
  have hle' : ¬ 1 * i.size > 2 ^ 24 := by omega
  have hz' : ¬ 1 * i.size = 0 := by omega
  have key : ∀ (base : Array Value), base.size = i.size → Instr.fill (fun k => some (k * i.size, i.size)) base [(0, v)] = some v.cells := by
    intro base hb
    simp only [Instr.fill, Nat.zero_mul, Nat.zero_add, hs, hb, Nat.lt_irrefl, gt_iff_lt, ne_eq, not_true_eq_false, decide_false, Bool.or_false, Bool.false_eq_true, if_false, Option.some.injEq]
    apply Array.ext_getElem?
    intro k
    have := foldl_set v.cells.toList 0 base k
    rw [← Array.foldl_toList, Array.toList_zipIdx, this]
    simp only [Nat.sub_zero, Array.getElem?_toList, Array.length_toList]
    split
    · rfl
    · rw [Array.getElem?_eq_none (by omega), Array.getElem?_eq_none (by omega)]
  simp only [Instr.buildSlice, Sem.run_bind, run_underlying hu, hsz, Result.andThen_ok, hle', hz', if_false, zeroValue, typeInfo, Sem.run_pure, run_program, hi, hz, newRow]
  rw [key _ (by simp)]
  simp

theorem load_sound {t : TypeId} {a : Addr} {K : Value → World → Prop} {w : World}
    (h : match isAggB P t with
      | some true => (match sizeB P t with | some n => LoadA w a n fun cs => K (.agg cs) w | none => False)
      | some false => LoadC w a fun v => TV1 P t v fun v => K v w
      | none => False) : RunV P (Instr.loadAt t (.pointer (some a))) w K := by
  split at h
  · rename_i ha
    split at h
    · rename_i n hn
      obtain ⟨cs, ⟨hs, hc⟩, hK⟩ := h
      refine .mk (v := .agg cs) (w' := w) ?_ hK
      have := run_loadCells_list (P := P) w a cs.toList (fun j v hj => by
        have hj' : cs[j]? = some v := by simpa using hj
        have hlt : j < cs.size := by
          rcases Nat.lt_or_ge j cs.size with h | h
          · exact h
          · rw [Array.getElem?_eq_none h] at hj'; simp at hj'
        rw [hc j (by omega), hj'])
      simp only [Array.length_toList, hs, Array.toArray_toList] at this
      simp [Instr.loadAt, Instr.sureAddr, loadVar, run_isAggB ha, run_sizeB hn, this]
    · exact h.elim
  · rename_i ha
    obtain ⟨v, hv, hK⟩ := h.out
    exact .mk (v := v) (w' := w) (by simp [Instr.loadAt, Instr.sureAddr, loadVar, run_isAggB ha, hv]) (TV1_out hK)
  · exact h.elim

theorem run_storeScalar {t : TypeId} {a : Addr} {v : Value} {w : World} (hn : sizeB P t = some 1) (hv : v.oneCell' = true) (hc : (w.cell? a).isSome = true) (hf : w.frozen? a = false) :
    (storeVar t a v).run P w = .ok () (w.setCell a v) := by
  obtain ⟨u, hu⟩ := Option.isSome_iff_exists.1 hc
  simp only [storeVar, Sem.run_bind, run_sizeB hn, Result.andThen_ok, cells_one hv, List.size_toArray, List.length_cons, List.length_nil, ne_eq, Nat.zero_add, not_true_eq_false, if_false, Sem.run_pure]
  simp [storeCells, run_store P w _ v .plain hv, add_zero, hu, hf]

theorem store_sound {t : TypeId} {a : Addr} {v : Value} {K : Value → World → Prop} {w : World}
    (h : match isAggB P t with
      | some true => RunU P (storeVar t a v) w fun w' => K undef w'
      | some false => (match sizeB P t with
        | some n => (match Nat.beq n 1 with
          | true => Req (oneCellB v) (StoreC w a v fun w' => K undef w')
          | false => False)
        | none => False)
      | none => False) : RunU P (Instr.storeAt t (.pointer (some a)) v) w (K undef) := by
  split at h
  · obtain ⟨w', hr, hK⟩ := h.out
    exact .mk (w' := w') (by simpa [Instr.storeAt, Instr.sureAddr] using hr) hK
  · split at h
    · rename_i n hn
      split at h
      · rename_i hb
        have := Nat.eq_of_beq_eq_true hb
        subst this
        obtain ⟨h1, ⟨hc, hf⟩, hK⟩ := h.out
        rw [oneCellB_eq] at h1
        exact .mk (w' := w.setCell a v) (by simpa [Instr.storeAt, Instr.sureAddr] using run_storeScalar hn h1 hc hf) hK
      · exact h.elim
    · exact h.elim
  · exact h.elim

theorem buildSlice_sound {t : TypeId} {len : Nat} {parts : List (Nat × Value)} {w : World} {K : Value → World → Prop} (h : buildSliceK P t len parts w K) :
    RunV P (Instr.buildSlice t len parts.toArray) w K := by
  unfold buildSliceK at h
  split at h
  · rename_i v hlen
    have := Nat.eq_of_beq_eq_true hlen
    subst this
    split at h
    · rename_i e hu
      split at h
      · rename_i i hi
        split at h
        · rename_i z hz
          obtain ⟨h1, h2⟩ := h.out
          simp only [Bool.and_eq_true] at h1
          refine .mk (run_fillOne w t v e i hu hi (Nat.eq_of_beq_eq_true h1.1) (Nat.le_of_ble_eq_true h1.2.1) (Nat.le_of_ble_eq_true h1.2.2) ⟨z, hz⟩) h2
        · exact h.elim
      · exact h.elim
    · exact h.elim
  · unfold TElems at h
    split at h
    · rename_i x hx
      exact .mk (run_fillB w t len (List.toArray _) x.1 x.2 (by simpa using hx)) h
    · exact h.elim

theorem hasBody_out {f : FuncId} (h : hasBody P f = true) : ∃ fn c, P.funcs[f]? = some fn ∧ fn.body = some c := by
  unfold hasBody at h
  split at h
  · split at h
    · exact ⟨_, _, ‹_›, ‹_›⟩
    · simp at h
  · simp at h

theorem run_callFunc {f : FuncId} {args : Array Value} (hP : okNames P = true) (h : hasBody P f = true) (w : World) : (callFunc f args).run P w = .ok (.enter f args) w := by
  obtain ⟨fn, c, hf, hb⟩ := hasBody_out h
  have hn : (fn.name == "runtime.NumGoroutine") = false := by
    have := Array.all_eq_true'.1 hP fn (Array.mem_of_getElem? hf)
    simpa using this
  simp only [callFunc, Sem.run_bind, run_program, Result.andThen_ok, hf, hn, hb, Option.isNone_some, Bool.false_eq_true, if_false, Sem.run_pure]

theorem effK_sound {g : Env} {o : Oper} {K : Value → World → Prop} {w : World} (hP : okNames P = true) (h : effK P g o K w) : Comes' P (execOp (ev g) o) w K := by
  obtain ⟨dst, op, ty, pos, after, guard⟩ := o
  unfold effK at h
  cases op <;> simp only at h <;> unfold execOp <;> dsimp only
  case load t x =>
    split at h
    · rename_i a hx
      rw [hx]
      exact .value (load_sound h)
    · exact h.elim
  case store t x v =>
    split at h
    · rename_i a hx
      rw [hx]
      exact .skip (store_sound h)
    · exact h.elim
  case alloc t =>
    split at h
    · rename_i z hz
      have hz' : ∃ i, P.info? t = some i ∧ i.zero = some z := by
        unfold zeroB at hz
        split at hz
        · exact ⟨_, ‹_›, hz⟩
        · simp at hz
      obtain ⟨i, hi, hz⟩ := hz'
      exact .value (.mk (v := .pointer (some ⟨w.heap.size, 0, none⟩)) (w' := w.alloc (.cells z.cells t)) (by simp [Instr.alloc, zeroValue, typeInfo, hi, hz, newVar, newRow]) h)
    · exact h.elim
  case box t x => exact .value (.mk (v := .pointer (some ⟨w.heap.size, 0, none⟩)) (w' := w.alloc (.cells (ev g x).cells t)) (by simp [Instr.box, newVar, newRow]) h)
  case buildSlice t len parts =>
    refine .value ?_
    have := buildSlice_sound h
    have e : (parts.map fun x => (x.1, ev g x.2)) = (parts.toList.map fun x => (x.1, ev g x.2)).toArray := Array.ext' (by simp)
    rw [← e] at this
    exact this
  case convert s t x =>
    split at h
    · obtain ⟨v, hr, hk⟩ := h
      exact .value (.mk hr (TV_out hk))
    · exact .value (h.mono fun v w' h => TV_out h)
  case makeSlice t l c => exact .value (h.mono fun v w' h => TV_out h)
  case makeChan t n => exact .value (h.mono fun v w' h => TV_out h)
  case makeMap t r => exact .value (h.mono fun v w' h => TV_out h)
  case lookup t x i ok => exact .value (h.mono fun v w' h => TV_out h)
  case mapUpdate t m k x => exact .skip h
  case range t x => exact .value h
  case next it s => exact .value h
  case typeAssert x t a ok => exact .value (h.mono fun v w' h => TV_out h)
  case call c =>
    obtain ⟨callee, as, ts⟩ := c
    cases callee with
    | builtin b =>
      simp only at h
      split at h
      · rename_i hb
        obtain ⟨v, w', hr, hK⟩ := h.out
        refine .inl ⟨v, w', ?_, TV_out hK⟩
        rw [resolve_builtin]
        cases b <;> simp only [builtinOk, Bool.false_eq_true] at hb <;> simp only [builtinV] at hr <;> simp [builtin, hr]
      · exact h.elim
    | value f =>
      simp only at h
      split at h
      · rename_i fid first captured hf
        split at h
        · rename_i hb
          refine .inr (.inr ⟨fid, first ++ as.map (ev g) ++ captured, w, ?_, ?_⟩)
          · simp only [resolve, hf, Deferred.ofValue, Sem.run_bind, Sem.run_pure, Result.andThen_ok, invoke, run_callFunc hP hb]
          · exact Calls.mono h fun e w' ⟨v, he, hv⟩ => ⟨v, he, TV_out hv⟩
        · obtain ⟨v, w', hr, hk⟩ := h
          refine .inl ⟨v, w', ?_, TV_out hk⟩
          simp only [resolve, hf, Deferred.ofValue, Sem.run_bind, Sem.run_pure, Result.andThen_ok, invoke, hr]
      · exact h.elim
    | invoke r m => exact h.elim
  all_goals exact h.elim

theorem Comes'.wp {N : Nat} {g : Env} {o : Oper} {a : Act} {w : World} {K : Value → World → Prop} {next : Act → World → Prop} {Q : Exit → Act → World → Prop}
    (h : Comes' P (execOp (ev g) o) w K) (he : a.eval = ev g) (hK : ∀ v w', K v w' → next (a.put o.dst v) w') : o.wp P a w next Q := by
  unfold Oper.wp
  rw [he]
  rcases h with ⟨v, w', hr, hk⟩ | ⟨w', hr, hk⟩ | ⟨f, args, w', hr, hk⟩
  · rw [hr]; exact hK _ _ hk
  · rw [hr]; exact hK _ _ hk
  · rw [hr]
    exact Calls.mono hk fun e w'' ⟨v, he, hv⟩ => by subst he; exact hK _ _ hv

theorem opK_sound {g : Env} {o : Oper} {K : Value → World → Prop} {w : World} (hP : okNames P = true) (h : opK P g o K w) : Comes' P (execOp (ev g) o) w K := by
  unfold opK at h
  split at h
  · rename_i hp
    obtain ⟨v, hv, hk⟩ := pureK_sound hp h
    exact .inl ⟨v, w, hv w, hk⟩
  · exact effK_sound hP h
end
end Go.Vc

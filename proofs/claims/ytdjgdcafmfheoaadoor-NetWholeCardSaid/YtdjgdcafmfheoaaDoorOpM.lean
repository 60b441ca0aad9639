/-
  Several texts in one: OperD, AnsD, Oper1, Oper2, Oper3, Oper4, Ans1, Ans2, Ans3.
-/
import Derived.Test.YtdjgdcafmfheoaaDoorEyeX
import Derived.Test.YtdjgdcafmfheoaaDoorHpM
import Derived.Test.YtdjgdcafmfheoaaDoorGenOper
import Derived.Test.YtdjgdcafmfheoaaDoorSlEq
set_option linter.unusedVariables false
namespace Go.Vc

structure OpR where
  kind : Int
  path : List UInt8
  to : List UInt8
  off : Int
  n : Int
  data : List UInt8
  deriving DecidableEq
def OpR.cells (o : OpR) (v : Value) : List Value := [.int .i64 o.kind, sv o.path, sv o.to, .int .i64 o.off, .int .i64 o.n, v]
def OpR.zero : OpR := ⟨0, [], [], 0, 0, []⟩
def OpR.right (o : OpR) : Prop := 1 ≤ o.kind ∧ o.kind ≤ 13 ∧ o.path.length ≤ 32 ∧ o.to.length ≤ 32 ∧ 0 ≤ o.off ∧ o.off < 65536 ∧ 0 ≤ o.n ∧ o.n < 65536 ∧ o.data.length ≤ 64
instance (o : OpR) : Decidable o.right := by unfold OpR.right; infer_instance
def OpR.enc (o : OpR) : List UInt8 := be o.kind.toNat 1 ++ (be o.off.toNat 2 ++ (be o.n.toNat 2 ++ (txt o.path ++ (txt o.to ++ txt o.data))))

/-- what is read of bytes, as if all were there -/
def decOp (l : List UInt8) : OpR × List UInt8 × Int :=
  let a := eU 1 l
  let b := eU 2 a.2.1
  let c := eU 2 b.2.1
  let d := eT c.2.1
  let e := eT d.2.1
  let f := eT e.2.1
  (⟨a.1, d.1, e.1, b.1, c.1, f.1⟩, f.2.1, a.2.2 + b.2.2 + c.2.2 + d.2.2 + e.2.2 + f.2.2 + eE f.2.1)
def readOp (l : List UInt8) : Option OpR := if (decOp l).1.right ∧ (decOp l).1.enc = l then some (decOp l).1 else none

theorem OpR.dec {o : OpR} (h : o.right) : decOp o.enc = (o, [], 0) := by
  obtain ⟨h1, h2, h3, h4, h5, h6, h7, h8, h9⟩ := h
  unfold decOp OpR.enc
  have e1 : eU 1 (be o.kind.toNat 1 ++ (be o.off.toNat 2 ++ (be o.n.toNat 2 ++ (txt o.path ++ (txt o.to ++ txt o.data))))) = _ := eU_be _ _ _ (by omega)
  have e2 : eU 2 (be o.off.toNat 2 ++ (be o.n.toNat 2 ++ (txt o.path ++ (txt o.to ++ txt o.data)))) = _ := eU_be _ _ _ (by omega)
  have e3 : eU 2 (be o.n.toNat 2 ++ (txt o.path ++ (txt o.to ++ txt o.data))) = _ := eU_be _ _ _ (by omega)
  have e4 : eT (txt o.path ++ (txt o.to ++ txt o.data)) = _ := eT_txt _ _ (by omega)
  have e5 : eT (txt o.to ++ txt o.data) = _ := eT_txt _ _ (by omega)
  have e6 : eT (txt o.data ++ []) = _ := eT_txt _ _ (by omega)
  rw [List.append_nil] at e6
  simp only [e1, e2, e3, e4, e5, e6]
  have : eE [] = 0 := rfl
  rw [this]
  obtain ⟨kind, path, to, off, n, data⟩ := o
  simp only [Prod.mk.injEq, OpR.mk.injEq] at *
  refine ⟨⟨by omega, trivial, trivial, by omega, by omega, trivial⟩, trivial, by omega⟩
theorem OpR.enc_inj {o p : OpR} (ho : o.right) (hp : p.right) (h : o.enc = p.enc) : o = p := by
  have h1 := OpR.dec ho
  rw [h, OpR.dec hp] at h1
  exact (Prod.ext_iff.1 h1).1.symm
/-- the code's way and the document's way refuse the same -/
theorem dec_both (l : List UInt8) : ((decOp l).2.2 = 0 ∧ (decOp l).1.right) ↔ ((decOp l).1.right ∧ (decOp l).1.enc = l) := by
  constructor
  · rintro ⟨h, hr⟩
    refine ⟨hr, ?_⟩
    simp only [decOp] at h ⊢
    have c1 := eU_code 1 l
    have c2 := eU_code 2 (eU 1 l).2.1
    have c3 := eU_code 2 (eU 2 (eU 1 l).2.1).2.1
    have c4 := eT_code (eU 2 (eU 2 (eU 1 l).2.1).2.1).2.1
    have c5 := eT_code (eT (eU 2 (eU 2 (eU 1 l).2.1).2.1).2.1).2.1
    have c6 := eT_code (eT (eT (eU 2 (eU 2 (eU 1 l).2.1).2.1).2.1).2.1).2.1
    have c7 := eE_code (eT (eT (eT (eU 2 (eU 2 (eU 1 l).2.1).2.1).2.1).2.1).2.1).2.1
    have k1 := (eU_ok (n := 1) (l := l) (by omega)).1
    have k2 := (eU_ok (n := 2) (l := (eU 1 l).2.1) (by omega)).1
    have k3 := (eU_ok (n := 2) (l := (eU 2 (eU 1 l).2.1).2.1) (by omega)).1
    have k4 := (eT_ok (l := (eU 2 (eU 2 (eU 1 l).2.1).2.1).2.1) (by omega)).1
    have k5 := (eT_ok (l := (eT (eU 2 (eU 2 (eU 1 l).2.1).2.1).2.1).2.1) (by omega)).1
    have k6 := (eT_ok (l := (eT (eT (eU 2 (eU 2 (eU 1 l).2.1).2.1).2.1).2.1).2.1) (by omega)).1
    have k7 := eE_ok (l := (eT (eT (eT (eU 2 (eU 2 (eU 1 l).2.1).2.1).2.1).2.1).2.1).2.1) (by omega)
    rw [k7, List.append_nil] at k6
    unfold OpR.enc
    simp only [Int.toNat_natCast]
    rw [← k6, ← k5, ← k4, ← k3, ← k2, ← k1]
  · rintro ⟨hr, he⟩
    refine ⟨?_, hr⟩
    have := OpR.dec hr
    rw [he] at this
    rw [this]
theorem OpR.read {o : OpR} (h : o.right) : readOp o.enc = some o := by
  unfold readOp
  rw [OpR.dec h, if_pos ⟨h, rfl⟩]
def wrOp (o : OpR) : List UInt8 × Int := if o.right then (o.enc, 0) else ([], 1)
def rdOp (l : List UInt8) : OpR × Int := match readOp l with | some o => (o, 0) | none => (OpR.zero, 22)
theorem rdOp_yes {l : List UInt8} (h : (decOp l).1.right ∧ (decOp l).1.enc = l) : rdOp l = ((decOp l).1, 0) := by unfold rdOp readOp; rw [if_pos h]
theorem rdOp_no {l : List UInt8} (h : ¬ ((decOp l).1.right ∧ (decOp l).1.enc = l)) : rdOp l = (OpR.zero, 22) := by unfold rdOp readOp; rw [if_neg h]
theorem OpR.enc_len {o : OpR} (h : o.right) : o.enc.length ≤ 1000 := by
  obtain ⟨h1, h2, h3, h4, h5, h6, h7, h8, h9⟩ := h
  unfold OpR.enc; simp; omega
end Go.Vc
set_option linter.unusedVariables false
namespace Go.Vc

structure AnsR where
  code : Int
  n : Int
  data : List UInt8
  names : List (List UInt8)
  deriving DecidableEq
def AnsR.cells (a : AnsR) (v u : Value) : List Value := [.int .i64 a.code, .int .i64 a.n, v, u]
def AnsR.zero : AnsR := ⟨0, 0, [], []⟩
def okName (s : List UInt8) : Prop := 1 ≤ s.length ∧ s.length ≤ 8
instance (s : List UInt8) : Decidable (okName s) := by unfold okName; infer_instance
def AnsR.right (a : AnsR) : Prop := 0 ≤ a.code ∧ a.code < 65536 ∧ 0 ≤ a.n ∧ a.n < 65536 ∧ a.data.length ≤ 64 ∧ a.names.length ≤ 6 ∧ ∀ s ∈ a.names, okName s
instance (a : AnsR) : Decidable a.right := by unfold AnsR.right; infer_instance
def AnsR.enc (a : AnsR) : List UInt8 := be a.code.toNat 2 ++ (be a.n.toNat 2 ++ (txt a.data ++ (be a.names.length 1 ++ a.names.flatMap txt)))
def wrAns (a : AnsR) : List UInt8 × Int := if a.right then (a.enc, 0) else ([], 1)

/-- so many texts, as if all were there -/
def nT : Nat → List UInt8 → List (List UInt8) × List UInt8 × Int
  | 0, l => ([], l, 0)
  | m + 1, l => ((nT m l).1 ++ [(eT (nT m l).2.1).1], (eT (nT m l).2.1).2.1, (nT m l).2.2 + (eT (nT m l).2.1).2.2)
theorem nT_length (m : Nat) (l : List UInt8) : (nT m l).1.length = m := by
  induction m with
  | zero => rfl
  | succ m ih => simp [nT, ih]
theorem nT_code (m : Nat) (l : List UInt8) : 0 ≤ (nT m l).2.2 := by
  induction m with
  | zero => simp [nT]
  | succ m ih => have := eT_code (nT m l).2.1; simp only [nT]; omega
theorem nT_mono {i k : Nat} (h : i ≤ k) (l : List UInt8) : (nT i l).2.2 ≤ (nT k l).2.2 := by
  induction k with
  | zero => rw [Nat.le_zero.1 h]; exact Int.le_refl _
  | succ k ih =>
    rcases Nat.lt_or_ge i (k + 1) with h' | h'
    · have := ih (by omega)
      have h2 := eT_code (nT k l).2.1
      simp only [nT]; omega
    · rw [Nat.le_antisymm h h']; exact Int.le_refl _
theorem nT_rest (m : Nat) (l : List UInt8) : (nT m l).2.1.length ≤ l.length := by
  induction m with
  | zero => simp [nT]
  | succ m ih => have := eT_len (nT m l).2.1; simp only [nT]; omega
theorem nT_short (m : Nat) (l : List UInt8) : ∀ s ∈ (nT m l).1, s.length < 65536 := by
  induction m with
  | zero => simp [nT]
  | succ m ih =>
    simp only [nT, List.mem_append, List.mem_singleton]
    rintro s (h | rfl)
    · exact ih s h
    · exact eT_short _
theorem nT_ok (m : Nat) (l : List UInt8) (h : (nT m l).2.2 = 0) : l = (nT m l).1.flatMap txt ++ (nT m l).2.1 := by
  induction m with
  | zero => simp [nT]
  | succ m ih =>
    simp only [nT] at h ⊢
    have h1 := nT_code m l
    have h2 := eT_code (nT m l).2.1
    have e1 := ih (by omega)
    have e2 := (eT_ok (l := (nT m l).2.1) (by omega)).1
    rw [List.flatMap_append, List.append_assoc]
    simp only [List.flatMap_cons, List.flatMap_nil, List.append_nil]
    rw [← e2]; exact e1
theorem nT_txt (ns : List (List UInt8)) (r : List UInt8) (h : ∀ s ∈ ns, s.length < 65536) : nT ns.length (ns.flatMap txt ++ r) = (ns, r, 0) := by
  have key : ∀ k, ∀ (ns : List (List UInt8)) (r : List UInt8), ns.length = k → (∀ s ∈ ns, s.length < 65536) → nT k (ns.flatMap txt ++ r) = (ns, r, 0) := by
    intro k
    induction k with
    | zero => intro ns r hl _; rw [List.eq_nil_of_length_eq_zero hl]; simp [nT]
    | succ k ih =>
      intro ns r hl h
      obtain ⟨ms, s, rfl⟩ : ∃ ms s, ns = ms ++ [s] := ⟨ns.dropLast, ns.getLast (by intro e; simp [e] at hl), (List.dropLast_concat_getLast _).symm⟩
      have h1 : (ms ++ [s]).flatMap txt ++ r = ms.flatMap txt ++ (txt s ++ r) := by simp
      rw [h1]
      simp only [nT]
      rw [ih ms (txt s ++ r) (by simpa using hl) (fun x hx => h x (by simp [hx]))]
      simp only
      rw [eT_txt s r (h s (by simp))]
      simp
  exact key _ ns r rfl h

/-- what is read, as if all were there -/
def decAns (l : List UInt8) (lim : Nat) : AnsR × List UInt8 × Int :=
  let a := eU 2 l
  let b := eU 2 a.2.1
  let c := eT b.2.1
  let d := eU 1 c.2.1
  let e := nT (min d.1 lim) d.2.1
  (⟨a.1, b.1, c.1, e.1⟩, e.2.1, a.2.2 + b.2.2 + c.2.2 + d.2.2 + e.2.2 + eE e.2.1)
def rdAns (l : List UInt8) : AnsR × Int := if (decAns l 7).1.right ∧ (decAns l 7).1.enc = l then ((decAns l 7).1, 0) else (AnsR.zero, 22)
theorem AnsR.dec {a : AnsR} (h : a.right) (lim : Nat) (hl : 6 ≤ lim) : decAns a.enc lim = (a, [], 0) ∧ (eU 1 (eT (eU 2 (eU 2 a.enc).2.1).2.1).2.1).1 = a.names.length := by
  obtain ⟨h1, h2, h3, h4, h5, h6, h7⟩ := h
  unfold decAns AnsR.enc
  have e1 : eU 2 (be a.code.toNat 2 ++ (be a.n.toNat 2 ++ (txt a.data ++ (be a.names.length 1 ++ a.names.flatMap txt)))) = _ := eU_be _ _ _ (by omega)
  have e2 : eU 2 (be a.n.toNat 2 ++ (txt a.data ++ (be a.names.length 1 ++ a.names.flatMap txt))) = _ := eU_be _ _ _ (by omega)
  have e3 : eT (txt a.data ++ (be a.names.length 1 ++ a.names.flatMap txt)) = _ := eT_txt _ _ (by omega)
  have e4 : eU 1 (be a.names.length 1 ++ a.names.flatMap txt) = _ := eU_be _ _ _ (by omega)
  have e5 := nT_txt a.names [] (fun s hs => by have := h7 s hs; unfold okName at this; omega)
  rw [List.append_nil] at e5
  have e6 : min a.names.length lim = a.names.length := by omega
  simp only [e1, e2, e3, e4, e6, e5]
  have : eE [] = 0 := rfl
  rw [this]
  obtain ⟨code, n, data, names⟩ := a
  simp only [Prod.mk.injEq, AnsR.mk.injEq] at *
  refine ⟨⟨⟨by omega, by omega, trivial, trivial⟩, trivial, by omega⟩, trivial⟩
theorem AnsR.enc_inj {a b : AnsR} (ha : a.right) (hb : b.right) (h : a.enc = b.enc) : a = b := by
  have h1 := (AnsR.dec ha 7 (by omega)).1
  rw [h, (AnsR.dec hb 7 (by omega)).1] at h1
  exact (Prod.ext_iff.1 h1).1.symm
theorem AnsR.read {a : AnsR} (h : a.right) : rdAns a.enc = (a, 0) := by
  unfold rdAns; rw [(AnsR.dec h 7 (by omega)).1, if_pos ⟨h, rfl⟩]
theorem wrAns_iff (a : AnsR) (l : List UInt8) : ((wrAns a).2 = 0 ∧ l = (wrAns a).1) ↔ (a.right ∧ a.enc = l) := by
  unfold wrAns
  split
  · rename_i h; simp [h]; exact eq_comm
  · rename_i h; simp [h]
/-- the document's way: all there, and right -/
theorem decAns_both (l : List UInt8) : ((decAns l 256).2.2 = 0 ∧ (decAns l 256).1.right) ↔ ((decAns l 7).1.right ∧ (decAns l 7).1.enc = l) := by
  constructor
  · rintro ⟨h, hr⟩
    have hn : (eU 1 (eT (eU 2 (eU 2 l).2.1).2.1).2.1).1 ≤ 6 := by
      have := hr.2.2.2.2.2.1
      simp only [decAns, nT_length] at this
      omega
    have hm : decAns l 7 = decAns l 256 := by
      simp only [decAns]
      rw [show min (eU 1 (eT (eU 2 (eU 2 l).2.1).2.1).2.1).1 7 = min (eU 1 (eT (eU 2 (eU 2 l).2.1).2.1).2.1).1 256 by omega]
    rw [hm]
    refine ⟨hr, ?_⟩
    simp only [decAns] at h ⊢
    generalize hk : min (eU 1 (eT (eU 2 (eU 2 l).2.1).2.1).2.1).1 256 = k at h ⊢
    have c1 := eU_code 2 l
    have c2 := eU_code 2 (eU 2 l).2.1
    have c3 := eT_code (eU 2 (eU 2 l).2.1).2.1
    have c4 := eU_code 1 (eT (eU 2 (eU 2 l).2.1).2.1).2.1
    have c5 := nT_code k (eU 1 (eT (eU 2 (eU 2 l).2.1).2.1).2.1).2.1
    have c6 := eE_code (nT k (eU 1 (eT (eU 2 (eU 2 l).2.1).2.1).2.1).2.1).2.1
    have k1 := (eU_ok (n := 2) (l := l) (by omega)).1
    have k2 := (eU_ok (n := 2) (l := (eU 2 l).2.1) (by omega)).1
    have k3 := (eT_ok (l := (eU 2 (eU 2 l).2.1).2.1) (by omega)).1
    have k4 := (eU_ok (n := 1) (l := (eT (eU 2 (eU 2 l).2.1).2.1).2.1) (by omega)).1
    have k5 := nT_ok k (eU 1 (eT (eU 2 (eU 2 l).2.1).2.1).2.1).2.1 (by omega)
    have k6 := eE_ok (l := (nT k (eU 1 (eT (eU 2 (eU 2 l).2.1).2.1).2.1).2.1).2.1) (by omega)
    rw [k6, List.append_nil] at k5
    unfold AnsR.enc
    simp only [Int.toNat_natCast, nT_length]
    have : k = (eU 1 (eT (eU 2 (eU 2 l).2.1).2.1).2.1).1 := by omega
    rw [← k5, this, ← k4, ← k3, ← k2, ← k1]
  · rintro ⟨hr, he⟩
    have h1 := AnsR.dec hr 256 (by omega)
    rw [he] at h1
    rw [h1.1]; exact ⟨rfl, hr⟩
theorem decAns_same {l : List UInt8} (h : (decAns l 7).1.right ∧ (decAns l 7).1.enc = l) : decAns l 256 = decAns l 7 := by
  have h1 := AnsR.dec h.1 256 (by omega)
  have h2 := AnsR.dec h.1 7 (by omega)
  rw [h.2] at h1 h2
  rw [h1.1, h2.1]
theorem AnsR.enc_len {a : AnsR} (h : a.right) : a.enc.length ≤ 1000 := by
  obtain ⟨h1, h2, h3, h4, h5, h6, h7⟩ := h
  have : ∀ ns : List (List UInt8), (∀ s ∈ ns, okName s) → (ns.flatMap txt).length ≤ 10 * ns.length := by
    intro ns
    induction ns with
    | nil => simp
    | cons s ns ih =>
      intro hs
      have := ih (fun x hx => hs x (by simp [hx]))
      have h0 := hs s (by simp)
      unfold okName at h0
      simp only [List.flatMap_cons, List.length_append, txt_length, List.length_cons]; omega
  have := this a.names h7
  unfold AnsR.enc; simp only [List.length_append, be_length, txt_length]; omega
end Go.Vc
set_option linter.unusedVariables false
namespace Go.Proofs.YtdjgdcafmfheoaaDoor
open Go.Vc
attribute [local irreducible] TInt TBool TStr TPtr TSl TAgg TMap TChan T2 T3 T4 BS Req TSome TCell TByte LoadC LoadA StoreC AllocC RunV RunU CallV ExtV EqA StableC StableA StableV TCells ReadV

theorem oper_short_c {n : Int} {w : World} {R : Value → World → Prop} (h : R (.bool (decide (0 ≤ n ∧ n < 65536))) w) : CallV Tryd.prog 107 #[.int .i64 n] w R := by
  refine oper_short_vc ?_
  unfold oper_short_VC
  refine BS.dec (fun h1 => ?_) (fun h1 => ?_)
  · have : (decide (n ≤ (65535 : Int))) = decide (0 ≤ n ∧ n < 65536) := by rw [decide_eq_decide]; omega
    rw [this]; exact h
  · rwa [decide_eq_false (by omega)] at h

theorem reader_number {c : Nat → Nat} {i : Nat} {w : World} {ax : Addr} {l : List UInt8} {n : Int} {R : Value → World → Prop}
    (hp : EyeV (view c i w) ax l) (j : Nat) (hij : i < j) (hm : l.length ≤ 140737488355328) (k : Nat) (hn : n = k) (h1 : 1 ≤ k) (h2 : k ≤ 2)
    (h : ∀ c' w', Step c [i] [j] w c' w' → EyeV (view c' i w') ax (eU k l).2.1 → R (.int .i64 ((eU k l).1 : Nat)) w') :
    CallV Tryd.prog 94 #[.agg #[.pointer (some ax)], .int .i64 n] w R := by
  refine oper_reader_number_vc ?_
  unfold oper_reader_number_VC
  refine AllocC.col c j fun b c1 w1 st1 hb _ => ?_
  refine LoadC.ad (view_sub c1 j w1) (.pointer (some ax)) hb rfl ?_
  refine TPtr.mk ?_
  refine Eye_U (hp.mono (st1.step.sub (by simp; omega))) j (by omega) hm k hn h1 (by omega) fun c2 w2 st2 he2 => ?_
  refine T2.mk (TInt.mk (TInt.mk ?_))
  have hlt := eU_lt k l
  have : 256 ^ k ≤ 65536 := Nat.pow_le_pow_right (by omega) (show k ≤ 2 by omega)
  rw [wrap_i64_nat _ (by omega)]
  exact h c2 w2 ((st1.fresh.weak (by simp) (by simp)).trans st2) he2

theorem reader_text {c : Nat → Nat} {i : Nat} {w : World} {ax : Addr} {l : List UInt8} {R : Value → World → Prop}
    (hp : EyeV (view c i w) ax l) (j : Nat) (hij : i < j) (hm : l.length ≤ 140737488355328)
    (h : ∀ v c' w', Step c [i] [j] w c' w' → EyeV (view c' i w') ax (eT l).2.1 → OwS (view c' j w') v 5 1 (eT l).1.length (bvs (eT l).1) → R v w') :
    CallV Tryd.prog 95 #[.agg #[.pointer (some ax)]] w R := by
  refine oper_reader_text_vc ?_
  unfold oper_reader_text_VC
  refine AllocC.col c j fun b c1 w1 st1 hb _ => ?_
  refine LoadC.ad (view_sub c1 j w1) (.pointer (some ax)) hb rfl ?_
  refine TPtr.mk ?_
  refine Eye_T (hp.mono (st1.step.sub (by simp; omega))) j hm fun v c2 w2 st2 he2 ho2 => ?_
  obtain ⟨o2, cp2, rfl⟩ := ho2.form
  refine T2.mk (TSl.mk (TInt.mk ?_))
  exact h _ c2 w2 ((st1.fresh.weak (by simp) (by simp)).trans st2) he2 ho2

theorem exactly_c (c : Nat → Nat) {w : World} {v1 v2 : Value} {l m : List UInt8} {e : Int} {R : Value → World → Prop} (h1 : RdS (wv w) v1 1 l.length (bvs l)) (h2 : RdS (wv w) v2 1 m.length (bvs m)) (hl : l.length ≤ 1099511627776)
    (h : ∀ w', Step c [] [] w c w' → R (.bool (decide (e = 0 ∧ l = m))) w') : CallV Tryd.prog 96 #[v1, v2, .int .i64 e] w R := by
  obtain ⟨o1, cp1, rfl⟩ := h1.form
  obtain ⟨o2, cp2, rfl⟩ := h2.form
  refine oper_exactly_vc ?_
  unfold oper_exactly_VC
  refine BS.eq (fun he => ?_) (fun he => ?_)
  · refine Equal_bytes c h1 h2 hl fun w1 st => TBool.mk ?_
    have := h w1 st
    simpa [he] using this
  · have := h w (.refl ..)
    rwa [decide_eq_false (fun h => he h.1)] at this

/-- an operation's data can be read -/
def OpRV (h : View) (o : OpR) (v : Value) : Prop := RdS h v 1 o.data.length (bvs o.data)

theorem ref_Right (c : Nat → Nat) (j : Nat) {w : World} {o : OpR} {v : Value} {h0 : View} {R : Value → World → Prop} (hv : OpRV h0 o v)
    (h : ∀ c' w', Step c [] [j] w c' w' → R (.bool (decide o.right)) w') : CallV Tryd.prog 81 #[.agg (o.cells v).toArray] w R := by
  obtain ⟨ov, cv, rfl⟩ := RdS.form hv
  refine ref10_Right_vc ?_
  unfold ref10_Right_VC
  refine AllocC.col c j fun b c1 w1 st1 hb _ => ?_
  have hR := h c1 w1 st1.fresh
  have fls : ¬ o.right → R (.bool false) w1 := fun hn => by rwa [decide_eq_false hn] at hR
  have ld : ∀ {k : Nat} (u : Value) {C : Value → Prop}, (o.cells (.slice ov o.data.length cv)).toArray[k]? = some u → C u → LoadC w1 ((⟨b, 0, none⟩ : Addr).add k) C := fun {k} u {C} hu hC => LoadC.ad (view_sub c1 j w1) u hb hu hC
  refine ld (.int .i64 o.kind) rfl (TInt.mk ?_)
  refine BS.dec (fun k1 => ?_) (fun k => fls fun h => by unfold OpR.right at h; omega)
  refine ld (.int .i64 o.kind) rfl (TInt.mk ?_)
  refine BS.dec (fun k2 => ?_) (fun k => fls fun h => by unfold OpR.right at h; omega)
  refine ld (sv o.path) rfl (TStr.mk ?_)
  rw [strOf_size]
  refine BS.dec (fun k3 => ?_) (fun k => fls fun h => by unfold OpR.right at h; omega)
  refine ld (sv o.to) rfl (TStr.mk ?_)
  rw [strOf_size]
  refine BS.dec (fun k4 => ?_) (fun k => fls fun h => by unfold OpR.right at h; omega)
  refine ld (.int .i64 o.off) rfl (TInt.mk ?_)
  refine BS.dec (fun k5 => ?_) (fun k => fls fun h => by unfold OpR.right at h; omega)
  refine ld (.int .i64 o.off) rfl (TInt.mk ?_)
  refine BS.dec (fun k6 => ?_) (fun k => fls fun h => by unfold OpR.right at h; omega)
  refine ld (.int .i64 o.n) rfl (TInt.mk ?_)
  refine BS.dec (fun k7 => ?_) (fun k => fls fun h => by unfold OpR.right at h; omega)
  refine ld (.int .i64 o.n) rfl (TInt.mk ?_)
  refine BS.dec (fun k8 => ?_) (fun k => fls fun h => by unfold OpR.right at h; omega)
  refine ld (.slice ov o.data.length cv) rfl (TSl.mk ?_)
  have : decide (((o.data.length : Nat) : Int) ≤ (64 : Int)) = decide o.right := by rw [decide_eq_decide]; unfold OpR.right; omega
  rw [this]; exact hR

theorem Great_c (c : Nat → Nat) (j : Nat) {w : World} {o : OpR} {v : Value} {h0 : View} {R : Value → World → Prop} (hv : OpRV h0 o v)
    (h : ∀ c' w', Step c [] [j] w c' w' → R (.bool (decide (o.path.length > 400 ∨ o.to.length > 400 ∨ o.data.length > 400))) w') : CallV Tryd.prog 36 #[.agg (o.cells v).toArray] w R := by
  obtain ⟨ov, cv, rfl⟩ := RdS.form hv
  refine ref10_Great_vc ?_
  unfold ref10_Great_VC
  refine AllocC.col c j fun b c1 w1 st1 hb _ => ?_
  have hR := h c1 w1 st1.fresh
  have ld : ∀ {k : Nat} (u : Value) {C : Value → Prop}, (o.cells (.slice ov o.data.length cv)).toArray[k]? = some u → C u → LoadC w1 ((⟨b, 0, none⟩ : Addr).add k) C := fun {k} u {C} hu hC => LoadC.ad (view_sub c1 j w1) u hb hu hC
  refine ld (sv o.path) rfl (TStr.mk ?_)
  rw [strOf_size]
  refine BS.dec (fun k1 => by rwa [decide_eq_true (by omega)] at hR) (fun k1 => ?_)
  refine ld (sv o.to) rfl (TStr.mk ?_)
  rw [strOf_size]
  refine BS.dec (fun k2 => by rwa [decide_eq_true (by omega)] at hR) (fun k2 => ?_)
  refine ld (.slice ov o.data.length cv) rfl (TSl.mk ?_)
  have : decide (((o.data.length : Nat) : Int) > (400 : Int)) = decide (o.path.length > 400 ∨ o.to.length > 400 ∨ o.data.length > 400) := by rw [decide_eq_decide]; omega
  rw [this]; exact hR

theorem SameOp_c (c : Nat → Nat) (j : Nat) {w : World} {o p : OpR} {v u : Value} {q r : Nat} {R : Value → World → Prop} (hv : OpRV (view c q w) o v) (hu : OpRV (view c r w) p u)
    (h : ∀ c' w', Step c [] [j] w c' w' → R (.bool (decide (o = p))) w') : CallV Tryd.prog 55 #[.agg (o.cells v).toArray, .agg (p.cells u).toArray] w R := by
  obtain ⟨ov, cv, rfl⟩ := RdS.form hv
  obtain ⟨ou, cu, rfl⟩ := RdS.form hu
  refine ref10_SameOp_vc ?_
  unfold ref10_SameOp_VC
  refine AllocC.col c j fun b c1 w1 st1 hb _ => ?_
  refine AllocC.col c1 j fun b2 c2 w2 st2 hb2 _ => ?_
  have hb := st2.sub _ _ hb
  have st := st1.fresh.trans st2.fresh
  have hR := h c2 w2 st
  have fls : o ≠ p → R (.bool false) w2 := fun hn => by rwa [decide_eq_false hn] at hR
  have ld : ∀ {k : Nat} (u : Value) {C : Value → Prop}, (o.cells (.slice ov o.data.length cv)).toArray[k]? = some u → C u → LoadC w2 ((⟨b, 0, none⟩ : Addr).add k) C := fun {k} u {C} hu hC => LoadC.ad (view_sub c2 j w2) u hb hu hC
  have ld2 : ∀ {k : Nat} (u : Value) {C : Value → Prop}, (p.cells (.slice ou p.data.length cu)).toArray[k]? = some u → C u → LoadC w2 ((⟨b2, 0, none⟩ : Addr).add k) C := fun {k} u {C} hu hC => LoadC.ad (view_sub c2 j w2) u hb2 hu hC
  refine ld (.int .i64 o.kind) rfl (TInt.mk ?_)
  refine ld2 (.int .i64 p.kind) rfl (TInt.mk ?_)
  refine BS.eq (fun e1 => ?_) (fun e => fls (by rintro rfl; exact e rfl))
  refine ld (sv o.path) rfl (TStr.mk ?_)
  refine ld2 (sv p.path) rfl (TStr.mk ?_)
  rw [strEq_of]
  refine BS.dec (fun e2 => ?_) (fun e => fls (by rintro rfl; exact e rfl))
  refine ld (sv o.to) rfl (TStr.mk ?_)
  refine ld2 (sv p.to) rfl (TStr.mk ?_)
  rw [strEq_of]
  refine BS.dec (fun e3 => ?_) (fun e => fls (by rintro rfl; exact e rfl))
  refine ld (.int .i64 o.off) rfl (TInt.mk ?_)
  refine ld2 (.int .i64 p.off) rfl (TInt.mk ?_)
  refine BS.eq (fun e4 => ?_) (fun e => fls (by rintro rfl; exact e rfl))
  refine ld (.int .i64 o.n) rfl (TInt.mk ?_)
  refine ld2 (.int .i64 p.n) rfl (TInt.mk ?_)
  refine BS.eq (fun e5 => ?_) (fun e => fls (by rintro rfl; exact e rfl))
  refine ld (.slice ov o.data.length cv) rfl (TSl.mk ?_)
  refine string_rule strU8 ((hv.mono (st.sub (by simp))).mono (view_sub _ _ _)) (TStr.mk ?_)
  refine ld2 (.slice ou p.data.length cu) rfl (TSl.mk ?_)
  refine string_rule strU8 ((hu.mono (st.sub (by simp))).mono (view_sub _ _ _)) (TStr.mk ?_)
  rw [strEq_of]
  have : decide (o.data = p.data) = decide (o = p) := by
    rw [decide_eq_decide]
    obtain ⟨a1, a2, a3, a4, a5, a6⟩ := o
    obtain ⟨b1, b2, b3, b4, b5, b6⟩ := p
    simp only [OpR.mk.injEq] at *
    exact ⟨fun h => ⟨e1, e2, e3, e4, e5, h⟩, fun h => h.2.2.2.2.2⟩
  rw [this]; exact hR

theorem two_c (c : Nat → Nat) (j : Nat) {w : World} {n : Int} {R : Value → World → Prop} (h0 : 0 ≤ n) (h1 : n < 65536) (h : ∀ v c' w', Step c [] [j] w c' w' → OwS (view c' j w') v 5 1 (be n.toNat 2).length (bvs (be n.toNat 2)) → R v w') :
    CallV Tryd.prog 104 #[.int .i64 n] w R := by
  refine ref10_two_vc ?_
  unfold ref10_two_VC
  obtain ⟨m, rfl⟩ : ∃ m : Nat, n = m := ⟨n.toNat, by omega⟩
  refine AllocC.col c j fun b c1 w1 st1 hb _ => ?_
  refine h _ c1 w1 st1.fresh (OwS.lit hb _ ?_ (by simp) (by simp [maxLen]))
  rw [Int.toNat_natCast]
  have e1 : IntKind.wrap .u8 (IntKind.wrap .i64 (Int.tdiv (m : Int) 256)) = ((byteAt m 1).toNat : Int) := by
    rw [Int.tdiv_eq_ediv_of_nonneg (by omega), wrap_i64 (by omega) (by omega), wrap_u8_mod, byteAt_toNat]; omega
  have e2 : IntKind.wrap .u8 (Int.tmod (m : Int) 256) = ((byteAt m 0).toNat : Int) := by
    rw [Int.tmod_eq_emod_of_nonneg (by omega), wrap_u8_mod, byteAt_toNat]; omega
  rw [e1, e2]; rfl

theorem text_c (c : Nat → Nat) (j : Nat) {w : World} {v : Value} {l : List UInt8} {R : Value → World → Prop} (hr : RdS (wv w) v 1 l.length (bvs l)) (hl : l.length < 65536)
    (h : ∀ v c' w', Step c [] [j] w c' w' → OwS (view c' j w') v 5 1 (txt l).length (bvs (txt l)) → R v w') : CallV Tryd.prog 105 #[v] w R := by
  obtain ⟨o, cp, rfl⟩ := hr.form
  refine ref10_text_vc ?_
  unfold ref10_text_VC
  refine ref_T c j hr (by omega) fun v2 c2 w2 st2 ho2 => ?_
  rw [if_pos hl] at ho2
  obtain ⟨o2, cp2, rfl⟩ := ho2.form
  refine T2.mk (TSl.mk (TInt.mk ?_))
  exact h _ c2 w2 st2 ho2
end Go.Proofs.YtdjgdcafmfheoaaDoor
set_option linter.unusedVariables false
set_option linter.unusedSimpArgs false
namespace Go.Proofs.YtdjgdcafmfheoaaDoor
open Go.Vc
attribute [local irreducible] TInt TBool TStr TPtr TSl TAgg TMap TChan T2 T3 T4 BS Req TSome TCell TByte LoadC LoadA StoreC AllocC RunV RunU CallV ExtV EqA StableC StableA StableV TCells ReadV

theorem oper_Write_c (c : Nat → Nat) (j : Nat) {w : World} {o : OpR} {v : Value} {R : Value → World → Prop} (hv : OpRV (wv w) o v)
    (h : ∀ v c' w', Step c [] [j] w c' w' → OwS (view c' j w') v 5 1 (wrOp o).1.length (bvs (wrOp o).1) → R (.tuple #[v, .int .i64 (wrOp o).2]) w') :
    CallV Tryd.prog 79 #[.agg (o.cells v).toArray] w R := by
  obtain ⟨ov, cv, rfl⟩ := RdS.form hv
  have D : RdS (view (fun _ => 0) 0 w) (.slice ov o.data.length cv) 1 o.data.length (bvs o.data) := by rw [view0]; exact hv
  have S := Fr.start w
  refine oper_Write_vc ?_
  unfold oper_Write_VC
  refine AllocC.col (fun _ => 0) 1 fun b c1 w1 st1 b1 _ => ?_
  replace S := S.go st1.step (by decide) (by decide); replace D := D.mono (st1.step.sub (by decide))
  have fls : ¬ o.right → R (.tuple #[.slice none 0 0, .int .i64 1]) w1 := fun hn => by
    have := h (.slice none 0 0) _ _ (S.leave c j)
    rw [wrOp, if_neg hn] at this
    exact this (OwS.none_bytes ..)
  (repeat (first | refine TInt.mk ?_ | refine TBool.mk ?_ | refine TStr.mk ?_ | refine TSl.mk ?_ | refine TPtr.mk ?_ | refine TAgg.mk ?_ | refine T2.mk ?_ | refine T3.mk ?_ | refine TSome.mk ?_ | refine LoadC.ad (view_sub _ _ _) _ (by assumption) rfl ?_))
  refine BS.dec (fun k => fls fun h => by unfold OpR.right at h; omega) (fun k1 => ?_)
  (repeat (first | refine TInt.mk ?_ | refine TBool.mk ?_ | refine TStr.mk ?_ | refine TSl.mk ?_ | refine TPtr.mk ?_ | refine TAgg.mk ?_ | refine T2.mk ?_ | refine T3.mk ?_ | refine TSome.mk ?_ | refine LoadC.ad (view_sub _ _ _) _ (by assumption) rfl ?_))
  refine BS.dec (fun k => fls fun h => by unfold OpR.right at h; omega) (fun k2 => ?_)
  (repeat (first | refine TInt.mk ?_ | refine TBool.mk ?_ | refine TStr.mk ?_ | refine TSl.mk ?_ | refine TPtr.mk ?_ | refine TAgg.mk ?_ | refine T2.mk ?_ | refine T3.mk ?_ | refine TSome.mk ?_ | refine LoadC.ad (view_sub _ _ _) _ (by assumption) rfl ?_))
  refine BS.dec (fun k => fls fun h => by unfold OpR.right at h; rw [strOf_size] at k; omega) (fun k3 => ?_)
  (repeat (first | refine TInt.mk ?_ | refine TBool.mk ?_ | refine TStr.mk ?_ | refine TSl.mk ?_ | refine TPtr.mk ?_ | refine TAgg.mk ?_ | refine T2.mk ?_ | refine T3.mk ?_ | refine TSome.mk ?_ | refine LoadC.ad (view_sub _ _ _) _ (by assumption) rfl ?_))
  refine BS.dec (fun k => fls fun h => by unfold OpR.right at h; rw [strOf_size] at k; omega) (fun k4 => ?_)
  (repeat (first | refine TInt.mk ?_ | refine TBool.mk ?_ | refine TStr.mk ?_ | refine TSl.mk ?_ | refine TPtr.mk ?_ | refine TAgg.mk ?_ | refine T2.mk ?_ | refine T3.mk ?_ | refine TSome.mk ?_ | refine LoadC.ad (view_sub _ _ _) _ (by assumption) rfl ?_))
  refine oper_short_c (TBool.mk (BS.ndec (fun k => fls fun h => by unfold OpR.right at h; omega) (fun k5 => ?_)))
  (repeat (first | refine TInt.mk ?_ | refine TBool.mk ?_ | refine TStr.mk ?_ | refine TSl.mk ?_ | refine TPtr.mk ?_ | refine TAgg.mk ?_ | refine T2.mk ?_ | refine T3.mk ?_ | refine TSome.mk ?_ | refine LoadC.ad (view_sub _ _ _) _ (by assumption) rfl ?_))
  refine oper_short_c (TBool.mk (BS.ndec (fun k => fls fun h => by unfold OpR.right at h; omega) (fun k6 => ?_)))
  (repeat (first | refine TInt.mk ?_ | refine TBool.mk ?_ | refine TStr.mk ?_ | refine TSl.mk ?_ | refine TPtr.mk ?_ | refine TAgg.mk ?_ | refine T2.mk ?_ | refine T3.mk ?_ | refine TSome.mk ?_ | refine LoadC.ad (view_sub _ _ _) _ (by assumption) rfl ?_))
  unfold oper_Write_K1
  refine BS.dec (fun k => fls fun h => by unfold OpR.right at h; omega) (fun k7 => ?_)
  rw [strOf_size] at k3 k4
  have hR : o.right := by unfold OpR.right; omega
  refine AllocC.col c1 2 fun p c2 w2 st2 b2 _ => ?_
  replace S := S.go st2.step (by decide) (by decide); replace D := D.mono (st2.step.sub (by decide)); replace b1 := st2.step.sub (by decide) _ _ b1
  have P : PenV (view c2 2 w2) ⟨p, 0, none⟩ [] := ⟨p, _, rfl, b2, OwS.nil ..⟩
  (repeat (first | refine TInt.mk ?_ | refine TBool.mk ?_ | refine TStr.mk ?_ | refine TSl.mk ?_ | refine TPtr.mk ?_ | refine TAgg.mk ?_ | refine T2.mk ?_ | refine T3.mk ?_ | refine TSome.mk ?_ | refine LoadC.ad (view_sub _ _ _) _ (by assumption) rfl ?_))
  refine Pen_U P o.kind.toNat 1 (by rw [wrap_u64 (by omega) (by omega)]; omega) rfl (by omega) (by omega) (by omega) (by simp) fun c3 w3 st3 P => ?_
  replace S := S.go st3 (by decide) (by decide); replace D := D.mono (st3.sub (by decide)); replace b1 := st3.sub (by decide) _ _ b1
  (repeat (first | refine TInt.mk ?_ | refine TBool.mk ?_ | refine TStr.mk ?_ | refine TSl.mk ?_ | refine TPtr.mk ?_ | refine TAgg.mk ?_ | refine T2.mk ?_ | refine T3.mk ?_ | refine TSome.mk ?_ | refine LoadC.ad (view_sub _ _ _) _ (by assumption) rfl ?_))
  refine Pen_U P o.off.toNat 2 (by rw [wrap_u64 (by omega) (by omega)]; omega) rfl (by omega) (by omega) (by omega) (by simp) fun c4 w4 st4 P => ?_
  replace S := S.go st4 (by decide) (by decide); replace D := D.mono (st4.sub (by decide)); replace b1 := st4.sub (by decide) _ _ b1
  (repeat (first | refine TInt.mk ?_ | refine TBool.mk ?_ | refine TStr.mk ?_ | refine TSl.mk ?_ | refine TPtr.mk ?_ | refine TAgg.mk ?_ | refine T2.mk ?_ | refine T3.mk ?_ | refine TSome.mk ?_ | refine LoadC.ad (view_sub _ _ _) _ (by assumption) rfl ?_))
  refine Pen_U P o.n.toNat 2 (by rw [wrap_u64 (by omega) (by omega)]; omega) rfl (by omega) (by omega) (by omega) (by simp) fun c5 w5 st5 P => ?_
  replace S := S.go st5 (by decide) (by decide); replace D := D.mono (st5.sub (by decide)); replace b1 := st5.sub (by decide) _ _ b1
  (repeat (first | refine TInt.mk ?_ | refine TBool.mk ?_ | refine TStr.mk ?_ | refine TSl.mk ?_ | refine TPtr.mk ?_ | refine TAgg.mk ?_ | refine T2.mk ?_ | refine T3.mk ?_ | refine TSome.mk ?_ | refine LoadC.ad (view_sub _ _ _) _ (by assumption) rfl ?_))
  refine bytes_col Tryd.underlying9 Tryd.underlying26 Tryd.underlying5 c5 0 fun v1 c6 w6 st6 r1 => ?_
  replace S := S.go st6 (by decide) (by decide); replace D := D.mono (st6.sub (by decide)); replace b1 := st6.sub (by decide) _ _ b1; replace P := P.mono (st6.sub (by decide))
  obtain ⟨o1, p1, rfl⟩ := r1.form
  (repeat (first | refine TInt.mk ?_ | refine TBool.mk ?_ | refine TStr.mk ?_ | refine TSl.mk ?_ | refine TPtr.mk ?_ | refine TAgg.mk ?_ | refine T2.mk ?_ | refine T3.mk ?_ | refine TSome.mk ?_ | refine LoadC.ad (view_sub _ _ _) _ (by assumption) rfl ?_))
  refine bytes_col Tryd.underlying9 Tryd.underlying26 Tryd.underlying5 c6 0 fun v2 c7 w7 st7 r2 => ?_
  replace S := S.go st7 (by decide) (by decide); replace D := D.mono (st7.sub (by decide)); replace b1 := st7.sub (by decide) _ _ b1; replace P := P.mono (st7.sub (by decide)); replace r1 := r1.mono (st7.sub (by decide))
  obtain ⟨o2, p2, rfl⟩ := r2.form
  (repeat (first | refine TInt.mk ?_ | refine TBool.mk ?_ | refine TStr.mk ?_ | refine TSl.mk ?_ | refine TPtr.mk ?_ | refine TAgg.mk ?_ | refine T2.mk ?_ | refine T3.mk ?_ | refine TSome.mk ?_ | refine LoadC.ad (view_sub _ _ _) _ (by assumption) rfl ?_))
  generalize hb : [] ++ be o.kind.toNat 1 ++ be o.off.toNat 2 ++ be o.n.toNat 2 = B at P
  have hB : B.length = 5 := by rw [← hb]; simp
  have hE : o.enc = B ++ (txt o.path ++ (txt o.to ++ txt o.data)) := by rw [← hb]; unfold OpR.enc; simp
  refine ⟨fun vs w' => ∃ (m : Nat) (c' : Nat → Nat), m ≤ 3 ∧ vs = [.int .i64 m] ∧ Fr w c' w' ∧ PenV (view c' 2 w') ⟨p, 0, none⟩ (B ++ (([o.path, o.to, o.data].take m).flatMap txt)) ∧
    RdS (view c' 0 w') (.slice o1 o.path.length p1) 1 o.path.length (bvs o.path) ∧ RdS (view c' 0 w') (.slice o2 o.to.length p2) 1 o.to.length (bvs o.to) ∧ RdS (view c' 0 w') (.slice ov o.data.length cv) 1 o.data.length (bvs o.data),
    fun vs _ => match vs with | [.int _ x] => (3 - x).toNat | _ => 0, ⟨0, c7, by omega, rfl, S, by simpa using P, r1, r2, D⟩, ?_⟩
  rintro _ w8 n ⟨m, c8, hm, e, S, P, r1, r2, D⟩
  simp only [List.cons.injEq, Value.int.injEq, Value.bool.injEq, Value.slice.injEq, true_and, and_true] at e
  subst e
  refine BS.dec (fun hlt => ?_) (fun hge => ?_)
  · have step : ∀ (x : Value) (l : List UInt8), RdS (view c8 0 w8) x 1 l.length (bvs l) → l.length < 65536 → [o.path, o.to, o.data][m]? = some l → CallV Tryd.prog 52 #[.pointer (some ⟨p, 0, none⟩), x] w8 fun v w' => TInt .i64 v fun n => Back (fun vs w' => ∃ (m : Nat) (c' : Nat → Nat), m ≤ 3 ∧ vs = [.int .i64 m] ∧ Fr w c' w' ∧ PenV (view c' 2 w') ⟨p, 0, none⟩ (B ++ (([o.path, o.to, o.data].take m).flatMap txt)) ∧
    RdS (view c' 0 w') (.slice o1 o.path.length p1) 1 o.path.length (bvs o.path) ∧ RdS (view c' 0 w') (.slice o2 o.to.length p2) 1 o.to.length (bvs o.to) ∧ RdS (view c' 0 w') (.slice ov o.data.length cv) 1 o.data.length (bvs o.data)) (fun vs _ => match vs with | [.int _ x] => (3 - x).toNat | _ => 0) [.int .i64 (m : Int)] w8 [.int .i64 (IntKind.wrap .i64 ((m : Int) + (1 : Int)))] w' := by
      intro x l hx hl hml
      refine Pen_T P 0 (by omega) hx hl ?_ fun c9 w9 st9 P => ?_
      · have : (([o.path, o.to, o.data].take m).flatMap txt).length ≤ 3 * 70 := by
          rcases m with _ | _ | _ | m
          · simp
          · simp; omega
          · simp; omega
          · omega
        rw [List.length_append]; omega
      replace S := S.go st9 (by decide) (by decide); replace r1 := r1.mono (st9.sub (by decide)); replace r2 := r2.mono (st9.sub (by decide)); replace D := D.mono (st9.sub (by decide))
      refine TInt.mk ⟨⟨m + 1, c9, by omega, by rw [wrap_i64 (by omega) (by omega)]; rfl, S, ?_, r1, r2, D⟩, ?_⟩
      · rw [List.take_add_one, hml, Option.toList_some, List.flatMap_append, ← List.append_assoc]; simpa using P
      · rw [wrap_i64 (by omega) (by omega)]; show ((3 : Int) - (m + 1)).toNat < ((3 : Int) - m).toNat; omega
    refine Req.bnd ⟨by omega, by omega⟩ ?_
    rw [Int.toNat_natCast, Nat.mul_one]
    rcases m with _ | _ | _ | m
    · exact TCell.mk rfl (TSl.mk (step _ _ r1 (by omega) rfl))
    · exact TCell.mk rfl (TSl.mk (step _ _ r2 (by omega) rfl))
    · exact TCell.mk rfl (TSl.mk (step _ _ D (by omega) rfl))
    · omega
  · have : m = 3 := by omega
    subst this
    have e3 : B ++ (([o.path, o.to, o.data].take 3).flatMap txt) = o.enc := by rw [hE]; simp
    rw [e3] at P
    have hl := OpR.enc_len hR
    refine Pen_Data 3 P (by omega) fun v9 c9 w9 st9 ho => ?_
    replace S := S.go st9 (by decide) (by decide); replace D := D.mono (st9.sub (by decide))
    obtain ⟨o9, p9, rfl⟩ := ho.form
    refine TSl.mk ?_
    have := h (.slice o9 o.enc.length p9) _ _ (S.leave c j)
    rw [wrOp, if_pos hR] at this
    exact this (ho.mono (S.out c j (by omega)))
end Go.Proofs.YtdjgdcafmfheoaaDoor
set_option linter.unusedVariables false
set_option linter.unusedSimpArgs false
namespace Go.Proofs.YtdjgdcafmfheoaaDoor
open Go.Vc
attribute [local irreducible] TInt TBool TStr TPtr TSl TAgg TMap TChan T2 T3 T4 BS Req TSome TCell TByte LoadC LoadA StoreC AllocC RunV RunU CallV ExtV EqA StableC StableA StableV TCells ReadV

theorem byte_u8 {n : Int} (h0 : 0 ≤ n) : IntKind.wrap .u8 n = ((byteAt n.toNat 0).toNat : Int) := by
  rw [wrap_u8_mod, byteAt_toNat]; omega

theorem CopyOp_c (c : Nat → Nat) (j : Nat) {w : World} {o : OpR} {v : Value} {R : Value → World → Prop} (hv : OpRV (wv w) o v) (hl : o.data.length ≤ 1099511627776)
    (h : ∀ v c' w', Step c [] [j] w c' w' → OwS (view c' j w') v 5 1 o.data.length (bvs o.data) → R (.agg (o.cells v).toArray) w') :
    CallV Tryd.prog 37 #[.agg (o.cells v).toArray] w R := by
  obtain ⟨ov, cv, rfl⟩ := RdS.form hv
  have D : RdS (view (fun _ => 0) 0 w) (.slice ov o.data.length cv) 1 o.data.length (bvs o.data) := by rw [view0]; exact hv
  have S := Fr.start w
  refine ref10_CopyOp_vc ?_
  unfold ref10_CopyOp_VC
  refine AllocC.col (fun _ => 0) 1 fun b c1 w1 st1 b1 _ => ?_
  replace S := S.go st1.step (by decide) (by decide); replace D := D.mono (st1.step.sub (by decide))
  refine AllocC.col c1 3 fun p c2 w2 st2 b2 _ => ?_
  replace S := S.go st2.step (by decide) (by decide); replace D := D.mono (st2.step.sub (by decide)); replace b1 := st2.step.sub (by decide) _ _ b1
  (repeat (first | refine TInt.mk ?_ | refine TBool.mk ?_ | refine TStr.mk ?_ | refine TSl.mk ?_ | refine TPtr.mk ?_ | refine TAgg.mk ?_ | refine T2.mk ?_ | refine T3.mk ?_ | refine TSome.mk ?_ | refine LoadC.ad (view_sub _ _ _) _ (by assumption) rfl ?_))
  refine AllocC.col c2 4 fun q c3 w3 st3 b3 _ => ?_
  replace S := S.go st3.step (by decide) (by decide); replace D := D.mono (st3.step.sub (by decide)); replace b1 := st3.step.sub (by decide) _ _ b1; replace b2 := st3.step.sub (by decide) _ _ b2
  refine RunU.var b3 (by kernel_rfl) rfl (by simp [Value.oneCell']) fun w4 st4 b3 => ?_
  replace S := S.go st4.step (by decide) (by decide); replace D := D.mono (st4.step.sub (by decide)); replace b1 := st4.step.sub (by decide) _ _ b1; replace b2 := st4.step.sub (by decide) _ _ b2
  refine AllocC.col c3 2 fun r c5 w5 st5 b5 _ => ?_
  replace S := S.go st5.step (by decide) (by decide); replace D := D.mono (st5.step.sub (by decide)); replace b1 := st5.step.sub (by decide) _ _ b1; replace b2 := st5.step.sub (by decide) _ _ b2; replace b3 := st5.step.sub (by decide) _ _ b3
  (repeat (first | refine TInt.mk ?_ | refine TBool.mk ?_ | refine TStr.mk ?_ | refine TSl.mk ?_ | refine TPtr.mk ?_ | refine TAgg.mk ?_ | refine T2.mk ?_ | refine T3.mk ?_ | refine TSome.mk ?_ | refine LoadC.ad (view_sub _ _ _) _ (by assumption) rfl ?_))
  refine app_bytes slU8 (OwS.some_bytes b5) (D.mono (view_sub _ _ _)) (by simp; omega) fun o6 p6 c6 w6 st6 ho => ?_
  replace S := S.go st6.step (by decide) (by decide); replace D := D.mono (st6.step.sub (by decide)); replace b1 := st6.step.sub (by decide) _ _ b1; replace b2 := st6.step.sub (by decide) _ _ b2; replace b3 := st6.step.sub (by decide) _ _ b3
  rw [List.nil_append] at ho ⊢
  (repeat (first | refine TInt.mk ?_ | refine TBool.mk ?_ | refine TStr.mk ?_ | refine TSl.mk ?_ | refine TPtr.mk ?_ | refine TAgg.mk ?_ | refine T2.mk ?_ | refine T3.mk ?_ | refine TSome.mk ?_))
  refine StoreC.ad b3 (by simp) fun w7 st7 _ b3 => ?_
  replace S := S.go st7.step (by decide) (by decide); replace D := D.mono (st7.step.sub (by decide)); replace b1 := st7.step.sub (by decide) _ _ b1; replace b2 := st7.step.sub (by decide) _ _ b2; replace ho := ho.mono (st7.step.sub (by decide))
  refine LoadA.all (cs := (o.cells (.slice o6 o.data.length p6)).toArray) (view_sub _ _ _) b3 rfl ?_
  refine RunU.var b2 (by kernel_rfl) rfl (by simp [OpR.cells, sv, Value.oneCell']) fun w8 st8 b2 => ?_
  replace S := S.go st8.step (by decide) (by decide); replace D := D.mono (st8.step.sub (by decide)); replace b1 := st8.step.sub (by decide) _ _ b1; replace ho := ho.mono (st8.step.sub (by decide))
  refine LoadA.all (view_sub _ _ _) b2 rfl ?_
  exact h (.slice o6 o.data.length p6) _ _ (S.leave c j) (ho.mono (S.out c j (by omega)))

theorem ref_Write_c (c : Nat → Nat) (j : Nat) {w : World} {o : OpR} {v : Value} {R : Value → World → Prop} (hv : OpRV (wv w) o v)
    (h : ∀ v c' w', Step c [] [j] w c' w' → OwS (view c' j w') v 5 1 (wrOp o).1.length (bvs (wrOp o).1) → R (.tuple #[v, .int .i64 (wrOp o).2]) w') :
    CallV Tryd.prog 75 #[.agg (o.cells v).toArray] w R := by
  obtain ⟨ov, cv, rfl⟩ := RdS.form hv
  have D : RdS (view (fun _ => 0) 0 w) (.slice ov o.data.length cv) 1 o.data.length (bvs o.data) := by rw [view0]; exact hv
  have S := Fr.start w
  refine ref10_Write_vc ?_
  unfold ref10_Write_VC
  refine AllocC.col (fun _ => 0) 1 fun b c1 w1 st1 b1 _ => ?_
  replace S := S.go st1.step (by decide) (by decide); replace D := D.mono (st1.step.sub (by decide))
  refine LoadA.all (view_sub _ _ _) b1 rfl ?_
  refine ref_Right c1 0 D fun c2 w2 st2 => TBool.mk ?_
  replace S := S.go st2 (by decide) (by decide); replace D := D.mono (st2.sub (by decide)); replace b1 := st2.sub (by decide) _ _ b1
  refine BS.ndec (fun hn => ?_) (fun hR => ?_)
  · refine AllocC.col c2 2 fun b c3 w3 st3 b3 _ => ?_
    replace S := S.go st3.step (by decide) (by decide); replace D := D.mono (st3.step.sub (by decide))
    have := h (.slice (some ⟨b, 0, none⟩) 0 0) _ _ (S.leave c j)
    rw [wrOp, if_neg hn] at this
    exact this ((OwS.some_bytes b3).mono (S.out c j (by omega)))
  · refine DrewC.col c2 fun w3 st3 => ?_
    replace S := S.go st3 (by decide) (by decide); replace D := D.mono (st3.sub (by decide)); replace b1 := st3.sub (by decide) _ _ b1
    (repeat (first | refine TInt.mk ?_ | refine TBool.mk ?_ | refine TStr.mk ?_ | refine TSl.mk ?_ | refine TPtr.mk ?_ | refine TAgg.mk ?_ | refine T2.mk ?_ | refine T3.mk ?_ | refine TSome.mk ?_ | refine LoadC.ad (view_sub _ _ _) _ (by assumption) rfl ?_))
    obtain ⟨q1, q2, q3, q4, q5, q6, q7, q8, q9⟩ := id hR
    have k1 : ∀ o4 n4 p4 c' w', Fr w c' w' → view c' 1 w' b = some (.cells (o.cells (.slice ov o.data.length cv)).toArray 28 (0, 0)) → RdS (view c' 0 w') (.slice ov o.data.length cv) 1 o.data.length (bvs o.data) →
        OwS (view c' 2 w') (.slice o4 n4 p4) 5 1 ([byteAt o.kind.toNat 0] ++ be o.off.toNat 2).length (bvs ([byteAt o.kind.toNat 0] ++ be o.off.toNat 2)) → ref10_Write_K1 ⟨b, 0, none⟩ o4 n4 p4 w' R := by
      intro o4 n4 p4 c4 w4 S b1 D ho
      unfold ref10_Write_K1
      (repeat (first | refine TInt.mk ?_ | refine TBool.mk ?_ | refine TStr.mk ?_ | refine TSl.mk ?_ | refine TPtr.mk ?_ | refine TAgg.mk ?_ | refine T2.mk ?_ | refine T3.mk ?_ | refine TSome.mk ?_ | refine LoadC.ad (view_sub _ _ _) _ (by assumption) rfl ?_))
      refine two_c c4 0 q7 q8 fun v5 c5 w5 st5 r5 => ?_
      replace S := S.go st5 (by decide) (by decide); replace D := D.mono (st5.sub (by decide)); replace b1 := st5.sub (by decide) _ _ b1; replace ho := ho.mono (st5.sub (by decide))
      obtain ⟨o5, p5, rfl⟩ := r5.form
      (repeat (first | refine TInt.mk ?_ | refine TBool.mk ?_ | refine TStr.mk ?_ | refine TSl.mk ?_ | refine TPtr.mk ?_ | refine TAgg.mk ?_ | refine T2.mk ?_ | refine T3.mk ?_ | refine TSome.mk ?_ | refine LoadC.ad (view_sub _ _ _) _ (by assumption) rfl ?_))
      refine app_bytes slU8 ho (r5.rd.mono (view_sub _ _ _)) (by simp) fun o6 p6 c6 w6 st6 ho => ?_
      replace S := S.go st6.step (by decide) (by decide); replace D := D.mono (st6.step.sub (by decide)); replace b1 := st6.step.sub (by decide) _ _ b1
      (repeat (first | refine TInt.mk ?_ | refine TBool.mk ?_ | refine TStr.mk ?_ | refine TSl.mk ?_ | refine TPtr.mk ?_ | refine TAgg.mk ?_ | refine T2.mk ?_ | refine T3.mk ?_ | refine TSome.mk ?_ | refine LoadC.ad (view_sub _ _ _) _ (by assumption) rfl ?_))
      refine bytes_col Tryd.underlying9 Tryd.underlying26 Tryd.underlying5 c6 0 fun v7 c7 w7 st7 r7 => ?_
      replace S := S.go st7 (by decide) (by decide); replace D := D.mono (st7.sub (by decide)); replace b1 := st7.sub (by decide) _ _ b1; replace ho := ho.mono (st7.sub (by decide))
      obtain ⟨o7, p7, rfl⟩ := r7.form
      (repeat (first | refine TInt.mk ?_ | refine TBool.mk ?_ | refine TStr.mk ?_ | refine TSl.mk ?_ | refine TPtr.mk ?_ | refine TAgg.mk ?_ | refine T2.mk ?_ | refine T3.mk ?_ | refine TSome.mk ?_ | refine LoadC.ad (view_sub _ _ _) _ (by assumption) rfl ?_))
      refine text_c c7 0 (r7.mono (view_sub _ _ _)) (by omega) fun v8 c8 w8 st8 r8 => ?_
      replace S := S.go st8 (by decide) (by decide); replace D := D.mono (st8.sub (by decide)); replace b1 := st8.sub (by decide) _ _ b1; replace ho := ho.mono (st8.sub (by decide))
      obtain ⟨o8, p8, rfl⟩ := r8.form
      (repeat (first | refine TInt.mk ?_ | refine TBool.mk ?_ | refine TStr.mk ?_ | refine TSl.mk ?_ | refine TPtr.mk ?_ | refine TAgg.mk ?_ | refine T2.mk ?_ | refine T3.mk ?_ | refine TSome.mk ?_ | refine LoadC.ad (view_sub _ _ _) _ (by assumption) rfl ?_))
      refine app_bytes slU8 ho (r8.rd.mono (view_sub _ _ _)) (by simp; omega) fun o9 p9 c9 w9 st9 ho => ?_
      replace S := S.go st9.step (by decide) (by decide); replace D := D.mono (st9.step.sub (by decide)); replace b1 := st9.step.sub (by decide) _ _ b1
      (repeat (first | refine TInt.mk ?_ | refine TBool.mk ?_ | refine TStr.mk ?_ | refine TSl.mk ?_ | refine TPtr.mk ?_ | refine TAgg.mk ?_ | refine T2.mk ?_ | refine T3.mk ?_ | refine TSome.mk ?_ | refine LoadC.ad (view_sub _ _ _) _ (by assumption) rfl ?_))
      refine bytes_col Tryd.underlying9 Tryd.underlying26 Tryd.underlying5 c9 0 fun v10 c10 w10 st10 r10 => ?_
      replace S := S.go st10 (by decide) (by decide); replace D := D.mono (st10.sub (by decide)); replace b1 := st10.sub (by decide) _ _ b1; replace ho := ho.mono (st10.sub (by decide))
      obtain ⟨o10, p10, rfl⟩ := r10.form
      (repeat (first | refine TInt.mk ?_ | refine TBool.mk ?_ | refine TStr.mk ?_ | refine TSl.mk ?_ | refine TPtr.mk ?_ | refine TAgg.mk ?_ | refine T2.mk ?_ | refine T3.mk ?_ | refine TSome.mk ?_ | refine LoadC.ad (view_sub _ _ _) _ (by assumption) rfl ?_))
      refine text_c c10 0 (r10.mono (view_sub _ _ _)) (by omega) fun v11 c11 w11 st11 r11 => ?_
      replace S := S.go st11 (by decide) (by decide); replace D := D.mono (st11.sub (by decide)); replace b1 := st11.sub (by decide) _ _ b1; replace ho := ho.mono (st11.sub (by decide))
      obtain ⟨o11, p11, rfl⟩ := r11.form
      (repeat (first | refine TInt.mk ?_ | refine TBool.mk ?_ | refine TStr.mk ?_ | refine TSl.mk ?_ | refine TPtr.mk ?_ | refine TAgg.mk ?_ | refine T2.mk ?_ | refine T3.mk ?_ | refine TSome.mk ?_ | refine LoadC.ad (view_sub _ _ _) _ (by assumption) rfl ?_))
      refine app_bytes slU8 ho (r11.rd.mono (view_sub _ _ _)) (by simp; omega) fun o12 p12 c12 w12 st12 ho => ?_
      replace S := S.go st12.step (by decide) (by decide); replace D := D.mono (st12.step.sub (by decide)); replace b1 := st12.step.sub (by decide) _ _ b1
      (repeat (first | refine TInt.mk ?_ | refine TBool.mk ?_ | refine TStr.mk ?_ | refine TSl.mk ?_ | refine TPtr.mk ?_ | refine TAgg.mk ?_ | refine T2.mk ?_ | refine T3.mk ?_ | refine TSome.mk ?_ | refine LoadC.ad (view_sub _ _ _) _ (by assumption) rfl ?_))
      refine text_c c12 0 (D.mono (view_sub _ _ _)) (by omega) fun v13 c13 w13 st13 r13 => ?_
      replace S := S.go st13 (by decide) (by decide); replace ho := ho.mono (st13.sub (by decide))
      obtain ⟨o13, p13, rfl⟩ := r13.form
      (repeat (first | refine TInt.mk ?_ | refine TBool.mk ?_ | refine TStr.mk ?_ | refine TSl.mk ?_ | refine TPtr.mk ?_ | refine TAgg.mk ?_ | refine T2.mk ?_ | refine T3.mk ?_ | refine TSome.mk ?_ | refine LoadC.ad (view_sub _ _ _) _ (by assumption) rfl ?_))
      refine app_bytes slU8 ho (r13.rd.mono (view_sub _ _ _)) (by simp; omega) fun o14 p14 c14 w14 st14 ho => ?_
      replace S := S.go st14.step (by decide) (by decide)
      (repeat (first | refine TInt.mk ?_ | refine TBool.mk ?_ | refine TStr.mk ?_ | refine TSl.mk ?_ | refine TPtr.mk ?_ | refine TAgg.mk ?_ | refine T2.mk ?_ | refine T3.mk ?_ | refine TSome.mk ?_ | refine LoadC.ad (view_sub _ _ _) _ (by assumption) rfl ?_))
      have hE : [byteAt o.kind.toNat 0] ++ be o.off.toNat 2 ++ be o.n.toNat 2 ++ txt o.path ++ txt o.to ++ txt o.data = o.enc := by unfold OpR.enc; simp [be]
      rw [hE] at ho ⊢
      have := h (.slice o14 o.enc.length p14) _ _ (S.leave c j)
      rw [wrOp, if_pos hR] at this
      exact this (ho.mono (S.out c j (by omega)))
    refine ⟨?_, ?_⟩
    · rw [byte_u8 (by omega)]
      refine AllocC.col c2 2 fun a c4 w4 st4 b4 _ => ?_
      replace S := S.go st4.step (by decide) (by decide); replace D := D.mono (st4.step.sub (by decide)); replace b1 := st4.step.sub (by decide) _ _ b1
      refine ⟨StableC.ad (view_sub _ _ _) b1 rfl, ?_⟩
      refine two_c c4 0 q5 q6 fun v5 c5 w5 st5 r5 => ?_
      replace S := S.go st5 (by decide) (by decide); replace D := D.mono (st5.sub (by decide)); replace b1 := st5.sub (by decide) _ _ b1; replace b4 := st5.sub (by decide) _ _ b4
      obtain ⟨o5, p5, rfl⟩ := r5.form
      (repeat (first | refine TInt.mk ?_ | refine TBool.mk ?_ | refine TStr.mk ?_ | refine TSl.mk ?_ | refine TPtr.mk ?_ | refine TAgg.mk ?_ | refine T2.mk ?_ | refine T3.mk ?_ | refine TSome.mk ?_))
      refine ⟨StableC.ad (view_sub _ _ _) b1 rfl, ?_⟩
      refine app_bytes slU8 (OwS.lit b4 [byteAt o.kind.toNat 0] rfl rfl (by simp [maxLen])) (r5.rd.mono (view_sub _ _ _)) (by simp) fun o6 p6 c6 w6 st6 ho => ?_
      replace S := S.go st6.step (by decide) (by decide); replace D := D.mono (st6.step.sub (by decide)); replace b1 := st6.step.sub (by decide) _ _ b1
      (repeat (first | refine TInt.mk ?_ | refine TBool.mk ?_ | refine TStr.mk ?_ | refine TSl.mk ?_ | refine TPtr.mk ?_ | refine TAgg.mk ?_ | refine T2.mk ?_ | refine T3.mk ?_ | refine TSome.mk ?_))
      exact k1 _ _ _ _ _ S b1 D ho
    · refine two_c c2 0 q5 q6 fun v5 c5 w5 st5 r5 => ?_
      replace S := S.go st5 (by decide) (by decide); replace D := D.mono (st5.sub (by decide)); replace b1 := st5.sub (by decide) _ _ b1
      obtain ⟨o5, p5, rfl⟩ := r5.form
      (repeat (first | refine TInt.mk ?_ | refine TBool.mk ?_ | refine TStr.mk ?_ | refine TSl.mk ?_ | refine TPtr.mk ?_ | refine TAgg.mk ?_ | refine T2.mk ?_ | refine T3.mk ?_ | refine TSome.mk ?_))
      refine ⟨StableC.ad (view_sub _ _ _) b1 rfl, ?_⟩
      rw [byte_u8 (by omega)]
      refine AllocC.col c5 2 fun a c4 w4 st4 b4 _ => ?_
      replace S := S.go st4.step (by decide) (by decide); replace D := D.mono (st4.step.sub (by decide)); replace b1 := st4.step.sub (by decide) _ _ b1; replace r5 := r5.mono (st4.step.sub (by decide))
      refine ⟨StableC.ad (view_sub _ _ _) b1 rfl, ?_⟩
      refine app_bytes slU8 (OwS.lit b4 [byteAt o.kind.toNat 0] rfl rfl (by simp [maxLen])) (r5.rd.mono (view_sub _ _ _)) (by simp) fun o6 p6 c6 w6 st6 ho => ?_
      replace S := S.go st6.step (by decide) (by decide); replace D := D.mono (st6.step.sub (by decide)); replace b1 := st6.step.sub (by decide) _ _ b1
      (repeat (first | refine TInt.mk ?_ | refine TBool.mk ?_ | refine TStr.mk ?_ | refine TSl.mk ?_ | refine TPtr.mk ?_ | refine TAgg.mk ?_ | refine T2.mk ?_ | refine T3.mk ?_ | refine TSome.mk ?_))
      exact k1 _ _ _ _ _ S b1 D ho
end Go.Proofs.YtdjgdcafmfheoaaDoor
set_option linter.unusedVariables false
set_option linter.unusedSimpArgs false
namespace Go.Proofs.YtdjgdcafmfheoaaDoor
open Go.Vc
attribute [local irreducible] TInt TBool TStr TPtr TSl TAgg TMap TChan T2 T3 T4 BS Req TSome TCell TByte LoadC LoadA StoreC AllocC RunV RunU CallV ExtV EqA StableC StableA StableV TCells ReadV
attribute [local irreducible] eU eT eE

theorem wrOp_iff (o : OpR) (l : List UInt8) : ((wrOp o).2 = 0 ∧ l = (wrOp o).1) ↔ (o.right ∧ o.enc = l) := by
  unfold wrOp
  split
  · rename_i h; simp [h]; exact eq_comm
  · rename_i h; simp [h]

theorem oper_Read_c (c : Nat → Nat) (j : Nat) {w : World} {v : Value} {l : List UInt8} {R : Value → World → Prop} (hr : RdS (wv w) v 1 l.length (bvs l)) (hl : l.length ≤ 1000000)
    (h : ∀ v c' w', Step c [] [j] w c' w' → OpRV (view c' j w') (rdOp l).1 v → R (.tuple #[.agg ((rdOp l).1.cells v).toArray, .int .i64 (rdOp l).2]) w') :
    CallV Tryd.prog 60 #[v] w R := by
  obtain ⟨o0, p0, rfl⟩ := hr.form
  have D : RdS (view (fun _ => 0) 0 w) (.slice o0 l.length p0) 1 l.length (bvs l) := by rw [view0]; exact hr
  have S := Fr.start w
  refine oper_Read_vc ?_
  unfold oper_Read_VC
  refine AllocC.col (fun _ => 0) 3 fun a c1 w1 st1 b2 _ => ?_
  replace S := S.go st1.step (by decide) (by decide); replace D := D.mono (st1.step.sub (by decide))
  refine NewEye c1 2 (D.mono (view_sub _ _ _)) (by omega) fun ax c2 w2 st2 he => ?_
  replace S := S.go st2 (by decide) (by decide); replace D := D.mono (st2.sub (by decide)); replace b2 := st2.sub (by decide) _ _ b2
  (repeat (first | refine TInt.mk ?_ | refine TBool.mk ?_ | refine TStr.mk ?_ | refine TSl.mk ?_ | refine TPtr.mk ?_ | refine TAgg.mk ?_ | refine T2.mk ?_ | refine T3.mk ?_ | refine TSome.mk ?_))
  refine AllocC.col c2 1 fun r c3 w3 st3 b4 _ => ?_
  replace S := S.go st3.step (by decide) (by decide); replace D := D.mono (st3.step.sub (by decide)); replace b2 := st3.step.sub (by decide) _ _ b2; replace he := he.mono (st3.step.sub (by decide))
  refine RunU.var b4 (by kernel_rfl) rfl (by first | (simp [Value.oneCell']; done) | (simp [Value.oneCell', OpR.cells, sv]; done) | (simp [Value.oneCell', AnsR.cells, sv]; done) | rfl) fun w4 st4 b4 => ?_
  replace S := S.go st4.step (by decide) (by decide); replace D := D.mono (st4.step.sub (by decide)); replace b2 := st4.step.sub (by decide) _ _ b2; replace he := he.mono (st4.step.sub (by decide))
  refine DrewC.col c3 fun w5 st5 => ?_
  replace S := S.go st5 (by decide) (by decide); replace D := D.mono (st5.sub (by decide)); replace b2 := st5.sub (by decide) _ _ b2; replace b4 := st5.sub (by decide) _ _ b4; replace he := he.mono (st5.sub (by decide))
  refine LoadA.all (view_sub _ _ _) b4 rfl (LoadA.all (view_sub _ _ _) b4 rfl (LoadA.all (view_sub _ _ _) b4 rfl ?_))
  have L1 := eU_len 1 l
  have L2 := eU_len 2 (eU 1 l).2.1
  have L3 := eU_len 2 (eU 2 (eU 1 l).2.1).2.1
  have L4 := (eT_len (eU 2 (eU 2 (eU 1 l).2.1).2.1).2.1).1
  have L5 := (eT_len (eT (eU 2 (eU 2 (eU 1 l).2.1).2.1).2.1).2.1).1
  have k1 : ∀ a5 c' w', Fr w c' w' → RdS (view c' 0 w') (.slice o0 l.length p0) 1 l.length (bvs l) → view c' 3 w' a = some (.cells #[.int .i64 0, .string ByteArray.empty, .string ByteArray.empty, .int .i64 0, .int .i64 0, .slice none 0 0] 28 (0, 0)) →
      view c' 1 w' r = some (.cells #[.pointer (some ax)] 153 (0, 0)) → view c' 4 w' a5 = some (.cells #[.int .i64 ((eU 1 l).1 : Nat), .string ByteArray.empty, .string ByteArray.empty, .int .i64 ((eU 2 (eU 1 l).2.1).1 : Nat), .int .i64 ((eU 2 (eU 2 (eU 1 l).2.1).2.1).1 : Nat), .slice none 0 0] 28 (0, 0)) →
      EyeV (view c' 2 w') ax (eU 2 (eU 2 (eU 1 l).2.1).2.1).2.1 → oper_Read_K1 o0 l.length p0 ⟨a, 0, none⟩ ⟨r, 0, none⟩ ⟨a5, 0, none⟩ w' R := by
    intro a5 c6 w6 S D b2 b4 b5 he
    unfold oper_Read_K1
    refine DrewC.col c6 fun w7 st7 => ?_
    replace S := S.go st7 (by decide) (by decide); replace D := D.mono (st7.sub (by decide)); replace b2 := st7.sub (by decide) _ _ b2; replace b4 := st7.sub (by decide) _ _ b4; replace b5 := st7.sub (by decide) _ _ b5; replace he := he.mono (st7.sub (by decide))
    refine LoadA.all (view_sub _ _ _) b4 rfl (LoadA.all (view_sub _ _ _) b4 rfl (LoadA.all (view_sub _ _ _) b4 rfl ?_))
    refine reader_text he 5 (by omega) (by omega) fun v8 c8 w8 st8 he r8 => ?_
    replace S := S.go st8 (by decide) (by decide); replace D := D.mono (st8.sub (by decide)); replace b2 := st8.sub (by decide) _ _ b2; replace b4 := st8.sub (by decide) _ _ b4; replace b5 := st8.sub (by decide) _ _ b5
    obtain ⟨o8, p8, rfl⟩ := r8.form
    (repeat (first | refine TInt.mk ?_ | refine TBool.mk ?_ | refine TStr.mk ?_ | refine TSl.mk ?_ | refine TPtr.mk ?_ | refine TAgg.mk ?_ | refine T2.mk ?_ | refine T3.mk ?_ | refine TSome.mk ?_))
    refine ⟨StableA.all (view_sub _ _ _) b4 rfl, StableA.all (view_sub _ _ _) b4 rfl, string_rule strU8 (r8.rd.mono (view_sub _ _ _)) (TStr.mk ?_)⟩
    refine reader_text he 5 (by omega) (by omega) fun v9 c9 w9 st9 he r9 => ?_
    replace S := S.go st9 (by decide) (by decide); replace D := D.mono (st9.sub (by decide)); replace b2 := st9.sub (by decide) _ _ b2; replace b4 := st9.sub (by decide) _ _ b4; replace b5 := st9.sub (by decide) _ _ b5; replace r8 := r8.mono (st9.sub (by decide))
    obtain ⟨o9, p9, rfl⟩ := r9.form
    (repeat (first | refine TInt.mk ?_ | refine TBool.mk ?_ | refine TStr.mk ?_ | refine TSl.mk ?_ | refine TPtr.mk ?_ | refine TAgg.mk ?_ | refine T2.mk ?_ | refine T3.mk ?_ | refine TSome.mk ?_))
    refine ⟨StableV.string strU8 (r8.rd.mono (view_sub _ _ _)), StableA.all (view_sub _ _ _) b4 rfl, string_rule strU8 (r9.rd.mono (view_sub _ _ _)) (TStr.mk ?_)⟩
    refine reader_text he 5 (by omega) (by omega) fun v10 c10 w10 st10 he r10 => ?_
    replace S := S.go st10 (by decide) (by decide); replace D := D.mono (st10.sub (by decide)); replace b2 := st10.sub (by decide) _ _ b2; replace b4 := st10.sub (by decide) _ _ b4; replace b5 := st10.sub (by decide) _ _ b5; replace r8 := r8.mono (st10.sub (by decide)); replace r9 := r9.mono (st10.sub (by decide))
    obtain ⟨o10, p10, rfl⟩ := r10.form
    (repeat (first | refine TInt.mk ?_ | refine TBool.mk ?_ | refine TStr.mk ?_ | refine TSl.mk ?_ | refine TPtr.mk ?_ | refine TAgg.mk ?_ | refine T2.mk ?_ | refine T3.mk ?_ | refine TSome.mk ?_))
    refine ⟨StableV.string strU8 (r8.rd.mono (view_sub _ _ _)), StableV.string strU8 (r9.rd.mono (view_sub _ _ _)), ?_⟩
    refine StoreC.ad b5 (by simp) fun w11 st11 _ b5 => ?_
    replace S := S.go st11.step (by decide) (by decide); replace D := D.mono (st11.step.sub (by decide)); replace b2 := st11.step.sub (by decide) _ _ b2; replace b4 := st11.step.sub (by decide) _ _ b4; replace r8 := r8.mono (st11.step.sub (by decide)); replace r9 := r9.mono (st11.step.sub (by decide)); replace r10 := r10.mono (st11.step.sub (by decide))
    refine ⟨StableV.string strU8 (r9.rd.mono (view_sub _ _ _)), ?_⟩
    refine StoreC.ad b5 (by simp) fun w12 st12 _ b5 => ?_
    replace S := S.go st12.step (by decide) (by decide); replace D := D.mono (st12.step.sub (by decide)); replace b2 := st12.step.sub (by decide) _ _ b2; replace b4 := st12.step.sub (by decide) _ _ b4; replace r8 := r8.mono (st12.step.sub (by decide)); replace r9 := r9.mono (st12.step.sub (by decide)); replace r10 := r10.mono (st12.step.sub (by decide))
    refine StoreC.ad b5 (by simp) fun w13 st13 _ b5 => ?_
    replace S := S.go st13.step (by decide) (by decide); replace D := D.mono (st13.step.sub (by decide)); replace b2 := st13.step.sub (by decide) _ _ b2; replace b4 := st13.step.sub (by decide) _ _ b4; replace r8 := r8.mono (st13.step.sub (by decide)); replace r9 := r9.mono (st13.step.sub (by decide)); replace r10 := r10.mono (st13.step.sub (by decide))
    refine LoadA.all (cs := ((decOp l).1.cells (.slice o10 (decOp l).1.data.length p10)).toArray) (view_sub _ _ _) b5 rfl ?_
    refine oper_Write_c c10 6 (o := (decOp l).1) (r10.rd.mono (view_sub _ _ _)) fun v14 c14 w14 st14 r14 => ?_
    replace S := S.go st14 (by decide) (by decide); replace D := D.mono (st14.sub (by decide)); replace b2 := st14.sub (by decide) _ _ b2; replace b4 := st14.sub (by decide) _ _ b4; replace b5 := st14.sub (by decide) _ _ b5; replace r8 := r8.mono (st14.sub (by decide)); replace r9 := r9.mono (st14.sub (by decide)); replace r10 := r10.mono (st14.sub (by decide))
    obtain ⟨o14, p14, rfl⟩ := r14.form
    (repeat (first | refine TInt.mk ?_ | refine TBool.mk ?_ | refine TStr.mk ?_ | refine TSl.mk ?_ | refine TPtr.mk ?_ | refine TAgg.mk ?_ | refine T2.mk ?_ | refine T3.mk ?_ | refine TSome.mk ?_))
    refine exactly_c c14 (D.mono (view_sub _ _ _)) (r14.rd.mono (view_sub _ _ _)) (by omega) fun w15 st15 => ?_
    replace S := S.go st15 (by decide) (by decide); replace D := D.mono (st15.sub (by decide)); replace b2 := st15.sub (by decide) _ _ b2; replace b4 := st15.sub (by decide) _ _ b4; replace b5 := st15.sub (by decide) _ _ b5; replace r10 := r10.mono (st15.sub (by decide))
    refine TBool.mk (BS.ndec (fun hn => ?_) (fun hy => ?_))
    · rw [wrOp_iff] at hn
      refine RunU.var b2 (by kernel_rfl) rfl (by first | (simp [Value.oneCell']; done) | (simp [Value.oneCell', OpR.cells, sv]; done) | (simp [Value.oneCell', AnsR.cells, sv]; done) | rfl) fun w16 st16 b2 => ?_
      replace S := S.go st16.step (by decide) (by decide); replace D := D.mono (st16.step.sub (by decide))
      refine LoadA.all (view_sub _ _ _) b2 rfl ?_
      have := h (.slice none 0 0) _ _ (S.leave c j)
      rw [rdOp_no hn] at this
      exact this (RdS.none_bytes ..)
    · rw [wrOp_iff] at hy
      refine LoadA.all (cs := ((decOp l).1.cells (.slice o10 (decOp l).1.data.length p10)).toArray) (view_sub _ _ _) b5 rfl ?_
      refine RunU.var b2 (by kernel_rfl) rfl (by first | (simp [Value.oneCell']; done) | (simp [Value.oneCell', OpR.cells, sv]; done) | (simp [Value.oneCell', AnsR.cells, sv]; done) | rfl) fun w16 st16 b2 => ?_
      replace S := S.go st16.step (by decide) (by decide); replace D := D.mono (st16.step.sub (by decide)); replace r10 := r10.mono (st16.step.sub (by decide))
      refine LoadA.all (view_sub _ _ _) b2 rfl ?_
      have := h (.slice o10 (decOp l).1.data.length p10) _ _ (S.leave c j)
      rw [rdOp_yes hy] at this
      exact this (r10.rd.mono (S.out c j (by omega)))
  have num : ∀ {c' w' l'} (n : Int) (k : Nat) {K : Value → World → Prop}, EyeV (view c' 2 w') ax l' → l'.length ≤ l.length → n = k → 1 ≤ k → k ≤ 2 → (∀ c'' w'', Step c' [2] [5] w' c'' w'' → EyeV (view c'' 2 w'') ax (eU k l').2.1 → K (.int .i64 ((eU k l').1 : Nat)) w'') → CallV Tryd.prog 94 #[.agg #[.pointer (some ax)], .int .i64 n] w' K :=
    fun n k _ he hl' hn h1 h2 hK => reader_number he 5 (by omega) (by omega) k hn h1 h2 hK
  refine ⟨?_, ?_⟩
  · refine num 1 1 he (by omega) rfl (by omega) (by omega) fun c6 w6 st6 he => TInt.mk ?_
    replace S := S.go st6 (by decide) (by decide); replace D := D.mono (st6.sub (by decide)); replace b2 := st6.sub (by decide) _ _ b2; replace b4 := st6.sub (by decide) _ _ b4
    refine ⟨StableA.all (view_sub _ _ _) b4 rfl, StableA.all (view_sub _ _ _) b4 rfl, ?_, ?_⟩
    · refine num 2 2 he (by omega) rfl (by omega) (by omega) fun c7 w7 st7 he => TInt.mk ?_
      replace S := S.go st7 (by decide) (by decide); replace D := D.mono (st7.sub (by decide)); replace b2 := st7.sub (by decide) _ _ b2; replace b4 := st7.sub (by decide) _ _ b4
      refine ⟨StableA.all (view_sub _ _ _) b4 rfl, ?_, ?_⟩
      · refine num 2 2 he (by omega) rfl (by omega) (by omega) fun c8 w8 st8 he => TInt.mk ?_
        replace S := S.go st8 (by decide) (by decide); replace D := D.mono (st8.sub (by decide)); replace b2 := st8.sub (by decide) _ _ b2; replace b4 := st8.sub (by decide) _ _ b4
        refine AllocC.col c8 4 fun a5 c9 w9 st9 b5 _ => ?_
        replace S := S.go st9.step (by decide) (by decide); replace D := D.mono (st9.step.sub (by decide)); replace b2 := st9.step.sub (by decide) _ _ b2; replace b4 := st9.step.sub (by decide) _ _ b4; replace he := he.mono (st9.step.sub (by decide))
        refine ⟨StableA.all (view_sub _ _ _) b4 rfl, StableA.all (view_sub _ _ _) b4 rfl, StableA.all (view_sub _ _ _) b4 rfl, ?_⟩
        refine RunU.var b5 (by kernel_rfl) rfl (by first | (simp [Value.oneCell']; done) | (simp [Value.oneCell', OpR.cells, sv]; done) | (simp [Value.oneCell', AnsR.cells, sv]; done) | rfl) fun w10 st10 b5 => ?_
        replace S := S.go st10.step (by decide) (by decide); replace D := D.mono (st10.step.sub (by decide)); replace b2 := st10.step.sub (by decide) _ _ b2; replace b4 := st10.step.sub (by decide) _ _ b4; replace he := he.mono (st10.step.sub (by decide))
        exact k1 _ _ _ S D b2 b4 b5 he
      · refine AllocC.col c7 4 fun a5 c9 w9 st9 b5 _ => ?_
        replace S := S.go st9.step (by decide) (by decide); replace D := D.mono (st9.step.sub (by decide)); replace b2 := st9.step.sub (by decide) _ _ b2; replace b4 := st9.step.sub (by decide) _ _ b4; replace he := he.mono (st9.step.sub (by decide))
        refine ⟨StableA.all (view_sub _ _ _) b4 rfl, StableA.all (view_sub _ _ _) b4 rfl, StableA.all (view_sub _ _ _) b4 rfl, ?_⟩
        refine num 2 2 he (by omega) rfl (by omega) (by omega) fun c8 w8 st8 he => TInt.mk ?_
        replace S := S.go st8 (by decide) (by decide); replace D := D.mono (st8.sub (by decide)); replace b2 := st8.sub (by decide) _ _ b2; replace b4 := st8.sub (by decide) _ _ b4; replace b5 := st8.sub (by decide) _ _ b5
        refine RunU.var b5 (by kernel_rfl) rfl (by first | (simp [Value.oneCell']; done) | (simp [Value.oneCell', OpR.cells, sv]; done) | (simp [Value.oneCell', AnsR.cells, sv]; done) | rfl) fun w10 st10 b5 => ?_
        replace S := S.go st10.step (by decide) (by decide); replace D := D.mono (st10.step.sub (by decide)); replace b2 := st10.step.sub (by decide) _ _ b2; replace b4 := st10.step.sub (by decide) _ _ b4; replace he := he.mono (st10.step.sub (by decide))
        exact k1 _ _ _ S D b2 b4 b5 he
    · refine AllocC.col c6 4 fun a5 c9 w9 st9 b5 _ => ?_
      replace S := S.go st9.step (by decide) (by decide); replace D := D.mono (st9.step.sub (by decide)); replace b2 := st9.step.sub (by decide) _ _ b2; replace b4 := st9.step.sub (by decide) _ _ b4; replace he := he.mono (st9.step.sub (by decide))
      refine ⟨StableA.all (view_sub _ _ _) b4 rfl, StableA.all (view_sub _ _ _) b4 rfl, StableA.all (view_sub _ _ _) b4 rfl, ?_⟩
      refine num 2 2 he (by omega) rfl (by omega) (by omega) fun c7 w7 st7 he => TInt.mk ?_
      replace S := S.go st7 (by decide) (by decide); replace D := D.mono (st7.sub (by decide)); replace b2 := st7.sub (by decide) _ _ b2; replace b4 := st7.sub (by decide) _ _ b4; replace b5 := st7.sub (by decide) _ _ b5
      refine ⟨StableA.all (view_sub _ _ _) b4 rfl, ?_⟩
      refine num 2 2 he (by omega) rfl (by omega) (by omega) fun c8 w8 st8 he => TInt.mk ?_
      replace S := S.go st8 (by decide) (by decide); replace D := D.mono (st8.sub (by decide)); replace b2 := st8.sub (by decide) _ _ b2; replace b4 := st8.sub (by decide) _ _ b4; replace b5 := st8.sub (by decide) _ _ b5
      refine RunU.var b5 (by kernel_rfl) rfl (by first | (simp [Value.oneCell']; done) | (simp [Value.oneCell', OpR.cells, sv]; done) | (simp [Value.oneCell', AnsR.cells, sv]; done) | rfl) fun w10 st10 b5 => ?_
      replace S := S.go st10.step (by decide) (by decide); replace D := D.mono (st10.step.sub (by decide)); replace b2 := st10.step.sub (by decide) _ _ b2; replace b4 := st10.step.sub (by decide) _ _ b4; replace he := he.mono (st10.step.sub (by decide))
      exact k1 _ _ _ S D b2 b4 b5 he
  · refine AllocC.col c3 4 fun a5 c9 w9 st9 b5 _ => ?_
    replace S := S.go st9.step (by decide) (by decide); replace D := D.mono (st9.step.sub (by decide)); replace b2 := st9.step.sub (by decide) _ _ b2; replace b4 := st9.step.sub (by decide) _ _ b4; replace he := he.mono (st9.step.sub (by decide))
    refine ⟨StableA.all (view_sub _ _ _) b4 rfl, StableA.all (view_sub _ _ _) b4 rfl, StableA.all (view_sub _ _ _) b4 rfl, ?_⟩
    refine num 1 1 he (by omega) rfl (by omega) (by omega) fun c6 w6 st6 he => TInt.mk ?_
    replace S := S.go st6 (by decide) (by decide); replace D := D.mono (st6.sub (by decide)); replace b2 := st6.sub (by decide) _ _ b2; replace b4 := st6.sub (by decide) _ _ b4; replace b5 := st6.sub (by decide) _ _ b5
    refine ⟨StableA.all (view_sub _ _ _) b4 rfl, StableA.all (view_sub _ _ _) b4 rfl, ?_⟩
    refine num 2 2 he (by omega) rfl (by omega) (by omega) fun c7 w7 st7 he => TInt.mk ?_
    replace S := S.go st7 (by decide) (by decide); replace D := D.mono (st7.sub (by decide)); replace b2 := st7.sub (by decide) _ _ b2; replace b4 := st7.sub (by decide) _ _ b4; replace b5 := st7.sub (by decide) _ _ b5
    refine ⟨StableA.all (view_sub _ _ _) b4 rfl, ?_⟩
    refine num 2 2 he (by omega) rfl (by omega) (by omega) fun c8 w8 st8 he => TInt.mk ?_
    replace S := S.go st8 (by decide) (by decide); replace D := D.mono (st8.sub (by decide)); replace b2 := st8.sub (by decide) _ _ b2; replace b4 := st8.sub (by decide) _ _ b4; replace b5 := st8.sub (by decide) _ _ b5
    refine RunU.var b5 (by kernel_rfl) rfl (by first | (simp [Value.oneCell']; done) | (simp [Value.oneCell', OpR.cells, sv]; done) | (simp [Value.oneCell', AnsR.cells, sv]; done) | rfl) fun w10 st10 b5 => ?_
    replace S := S.go st10.step (by decide) (by decide); replace D := D.mono (st10.step.sub (by decide)); replace b2 := st10.step.sub (by decide) _ _ b2; replace b4 := st10.step.sub (by decide) _ _ b4; replace he := he.mono (st10.step.sub (by decide))
    exact k1 _ _ _ S D b2 b4 b5 he

theorem ref_Read_c (c : Nat → Nat) (j : Nat) {w : World} {v : Value} {l : List UInt8} {R : Value → World → Prop} (hr : RdS (wv w) v 1 l.length (bvs l)) (hl : l.length ≤ 1000000)
    (h : ∀ v c' w', Step c [] [j] w c' w' → OpRV (view c' j w') (rdOp l).1 v → R (.tuple #[.agg ((rdOp l).1.cells v).toArray, .int .i64 (rdOp l).2]) w') :
    CallV Tryd.prog 68 #[v] w R := by
  obtain ⟨o0, p0, rfl⟩ := hr.form
  have D : RdS (view (fun _ => 0) 0 w) (.slice o0 l.length p0) 1 l.length (bvs l) := by rw [view0]; exact hr
  have S := Fr.start w
  refine ref10_Read_vc ?_
  unfold ref10_Read_VC
  refine AllocC.col (fun _ => 0) 3 fun a c1 w1 st1 b2 _ => ?_
  replace S := S.go st1.step (by decide) (by decide); replace D := D.mono (st1.step.sub (by decide))
  refine AllocC.col c1 2 fun x c2 w2 st2 bx _ => ?_
  replace S := S.go st2.step (by decide) (by decide); replace D := D.mono (st2.step.sub (by decide)); replace b2 := st2.step.sub (by decide) _ _ b2
  have he : REye (view c2 2 w2) ⟨x, 0, none⟩ (.slice o0 l.length p0) l l := ⟨0, ⟨x, rfl, bx⟩, by omega, by simp⟩
  have L1 := eU_len 1 l
  have L2 := eU_len 2 (eU 1 l).2.1
  have L3 := eU_len 2 (eU 2 (eU 1 l).2.1).2.1
  have L4 := (eT_len (eU 2 (eU 2 (eU 1 l).2.1).2.1).2.1).1
  have L5 := (eT_len (eT (eU 2 (eU 2 (eU 1 l).2.1).2.1).2.1).2.1).1
  refine REye_U 5 (by omega) (by omega) he D (by omega) 1 rfl (by omega) (by omega) fun c3 w3 st3 he => ?_
  replace S := S.go st3 (by decide) (by decide); replace D := D.mono (st3.sub (by decide)); replace b2 := st3.sub (by decide) _ _ b2
  (repeat (first | refine TInt.mk ?_ | refine TBool.mk ?_ | refine TStr.mk ?_ | refine TSl.mk ?_ | refine TPtr.mk ?_ | refine TAgg.mk ?_ | refine T2.mk ?_ | refine T3.mk ?_ | refine TSome.mk ?_))
  refine REye_U 5 (by omega) (by omega) he D (by omega) 2 rfl (by omega) (by omega) fun c4 w4 st4 he => ?_
  replace S := S.go st4 (by decide) (by decide); replace D := D.mono (st4.sub (by decide)); replace b2 := st4.sub (by decide) _ _ b2
  (repeat (first | refine TInt.mk ?_ | refine TBool.mk ?_ | refine TStr.mk ?_ | refine TSl.mk ?_ | refine TPtr.mk ?_ | refine TAgg.mk ?_ | refine T2.mk ?_ | refine T3.mk ?_ | refine TSome.mk ?_))
  refine REye_U 5 (by omega) (by omega) he D (by omega) 2 rfl (by omega) (by omega) fun c5 w5 st5 he => ?_
  replace S := S.go st5 (by decide) (by decide); replace D := D.mono (st5.sub (by decide)); replace b2 := st5.sub (by decide) _ _ b2
  (repeat (first | refine TInt.mk ?_ | refine TBool.mk ?_ | refine TStr.mk ?_ | refine TSl.mk ?_ | refine TPtr.mk ?_ | refine TAgg.mk ?_ | refine T2.mk ?_ | refine T3.mk ?_ | refine TSome.mk ?_))
  refine REye_T 5 (by omega) (by omega) he D (by omega) fun v6 c6 w6 st6 he r6 => ?_
  replace S := S.go st6 (by decide) (by decide); replace D := D.mono (st6.sub (by decide)); replace b2 := st6.sub (by decide) _ _ b2
  obtain ⟨o6, p6, rfl⟩ := r6.form
  (repeat (first | refine TInt.mk ?_ | refine TBool.mk ?_ | refine TStr.mk ?_ | refine TSl.mk ?_ | refine TPtr.mk ?_ | refine TAgg.mk ?_ | refine T2.mk ?_ | refine T3.mk ?_ | refine TSome.mk ?_))
  refine REye_T 5 (by omega) (by omega) he D (by omega) fun v7 c7 w7 st7 he r7 => ?_
  replace S := S.go st7 (by decide) (by decide); replace D := D.mono (st7.sub (by decide)); replace b2 := st7.sub (by decide) _ _ b2; replace r6 := r6.mono (st7.sub (by decide))
  obtain ⟨o7, p7, rfl⟩ := r7.form
  (repeat (first | refine TInt.mk ?_ | refine TBool.mk ?_ | refine TStr.mk ?_ | refine TSl.mk ?_ | refine TPtr.mk ?_ | refine TAgg.mk ?_ | refine T2.mk ?_ | refine T3.mk ?_ | refine TSome.mk ?_))
  refine REye_T 5 (by omega) (by omega) he D (by omega) fun v8 c8 w8 st8 he r8 => ?_
  replace S := S.go st8 (by decide) (by decide); replace D := D.mono (st8.sub (by decide)); replace b2 := st8.sub (by decide) _ _ b2; replace r6 := r6.mono (st8.sub (by decide)); replace r7 := r7.mono (st8.sub (by decide))
  obtain ⟨o8, p8, rfl⟩ := r8.form
  (repeat (first | refine TInt.mk ?_ | refine TBool.mk ?_ | refine TStr.mk ?_ | refine TSl.mk ?_ | refine TPtr.mk ?_ | refine TAgg.mk ?_ | refine T2.mk ?_ | refine T3.mk ?_ | refine TSome.mk ?_))
  refine string_rule strU8 (r6.rd.mono (view_sub _ _ _)) (TStr.mk ?_)
  refine string_rule strU8 (r7.rd.mono (view_sub _ _ _)) (TStr.mk ?_)
  have q1 := eU_lt 1 l
  have q2 := eU_lt 2 (eU 1 l).2.1
  have q3 := eU_lt 2 (eU 2 (eU 1 l).2.1).2.1
  rw [wrap_i64_nat _ (by omega), wrap_i64_nat _ (by omega), wrap_i64_nat _ (by omega)]
  refine AllocC.col c8 4 fun y c9 w9 st9 b5 _ => ?_
  replace S := S.go st9.step (by decide) (by decide); replace D := D.mono (st9.step.sub (by decide)); replace b2 := st9.step.sub (by decide) _ _ b2; replace r8 := r8.mono (st9.step.sub (by decide)); replace he := he.mono (st9.step.sub (by decide))
  refine RunU.var b5 (by kernel_rfl) rfl (by first | (simp [Value.oneCell']; done) | (simp [Value.oneCell', OpR.cells, sv]; done) | (simp [Value.oneCell', AnsR.cells, sv]; done) | rfl) fun w10 st10 b5 => ?_
  replace S := S.go st10.step (by decide) (by decide); replace D := D.mono (st10.step.sub (by decide)); replace b2 := st10.step.sub (by decide) _ _ b2; replace r8 := r8.mono (st10.step.sub (by decide)); replace he := he.mono (st10.step.sub (by decide))
  refine REye_E he D fun w11 st11 => ?_
  replace S := S.go st11 (by decide) (by decide); replace D := D.mono (st11.sub (by decide)); replace b2 := st11.sub (by decide) _ _ b2; replace b5 := st11.sub (by decide) _ _ b5; replace r8 := r8.mono (st11.sub (by decide)); replace he := he.mono (st11.sub (by decide))
  (repeat (first | refine TInt.mk ?_ | refine TBool.mk ?_ | refine TStr.mk ?_ | refine TSl.mk ?_ | refine TPtr.mk ?_ | refine TAgg.mk ?_ | refine T2.mk ?_ | refine T3.mk ?_ | refine TSome.mk ?_))
  have k1 : ∀ (b : Bool) c' w', Fr w c' w' → view c' 3 w' a = some (.cells #[.int .i64 0, .string ByteArray.empty, .string ByteArray.empty, .int .i64 0, .int .i64 0, .slice none 0 0] 28 (0, 0)) →
      view c' 4 w' y = some (.cells ((decOp l).1.cells (.slice o8 (decOp l).1.data.length p8)).toArray 28 (0, 0)) → RdS (view c' 5 w') (.slice o8 (decOp l).1.data.length p8) 1 (decOp l).1.data.length (bvs (decOp l).1.data) → (b = false ↔ ((decOp l).1.right ∧ (decOp l).1.enc = l)) → ref10_Read_K1 ⟨a, 0, none⟩ ⟨y, 0, none⟩ b w' R := by
    intro b c' w' S b2 b5 r8 hb
    unfold ref10_Read_K1
    cases b
    · refine BS.no rfl ?_
      refine LoadA.all (view_sub _ _ _) b5 rfl ?_
      refine RunU.var b2 (by kernel_rfl) rfl (by first | (simp [Value.oneCell']; done) | (simp [Value.oneCell', OpR.cells, sv]; done) | (simp [Value.oneCell', AnsR.cells, sv]; done) | rfl) fun w16 st16 b2 => ?_
      replace S := S.go st16.step (by decide) (by decide); replace r8 := r8.mono (st16.step.sub (by decide))
      refine LoadA.all (view_sub _ _ _) b2 rfl ?_
      have := h (.slice o8 (decOp l).1.data.length p8) _ _ (S.leave c j)
      rw [rdOp_yes (hb.1 rfl)] at this
      exact this (r8.mono (S.out c j (by omega)))
    · refine BS.yes rfl ?_
      refine RunU.var b2 (by kernel_rfl) rfl (by first | (simp [Value.oneCell']; done) | (simp [Value.oneCell', OpR.cells, sv]; done) | (simp [Value.oneCell', AnsR.cells, sv]; done) | rfl) fun w16 st16 b2 => ?_
      replace S := S.go st16.step (by decide) (by decide); replace r8 := r8.mono (st16.step.sub (by decide))
      refine LoadA.all (view_sub _ _ _) b2 rfl ?_
      have := h (.slice none 0 0) _ _ (S.leave c j)
      rw [rdOp_no (fun hh => by simpa using hb.2 hh)] at this
      exact this (RdS.none_bytes ..)
  have c1 := eU_bd 1 l
  have c2 := eU_bd 2 (eU 1 l).2.1
  have c3 := eU_bd 2 (eU 2 (eU 1 l).2.1).2.1
  have c4 := eT_bd (eU 2 (eU 2 (eU 1 l).2.1).2.1).2.1
  have c5 := eT_bd (eT (eU 2 (eU 2 (eU 1 l).2.1).2.1).2.1).2.1
  have c6 := eT_bd (eT (eT (eU 2 (eU 2 (eU 1 l).2.1).2.1).2.1).2.1).2.1
  have c7 := eE_bd (eT (eT (eT (eU 2 (eU 2 (eU 1 l).2.1).2.1).2.1).2.1).2.1).2.1
  have hsum : (decOp l).2.2 = (eU 1 l).2.2 + (eU 2 (eU 1 l).2.1).2.2 + (eU 2 (eU 2 (eU 1 l).2.1).2.1).2.2 + (eT (eU 2 (eU 2 (eU 1 l).2.1).2.1).2.1).2.2 + (eT (eT (eU 2 (eU 2 (eU 1 l).2.1).2.1).2.1).2.1).2.2 + (eT (eT (eT (eU 2 (eU 2 (eU 1 l).2.1).2.1).2.1).2.1).2.1).2.2 + eE (eT (eT (eT (eU 2 (eU 2 (eU 1 l).2.1).2.1).2.1).2.1).2.1).2.1 := rfl
  have hboth := dec_both l
  refine BS.ne (fun hne => ?_) (fun he0 => ?_)
  · simp only [IntKind.wrap_i64] at hne
    exact k1 true _ _ S b2 b5 r8.rd ⟨fun h => by simp at h, fun h => absurd (hboth.2 h).1 (by omega)⟩
  · simp only [IntKind.wrap_i64] at he0
    have h0 : (decOp l).2.2 = 0 := by omega
    refine LoadA.all (cs := ((decOp l).1.cells (.slice o8 (decOp l).1.data.length p8)).toArray) (view_sub _ _ _) b5 rfl ?_
    refine ref_Right c9 0 (o := (decOp l).1) r8.rd fun c12 w12 st12 => TBool.mk ?_
    replace S := S.go st12 (by decide) (by decide); replace b2 := st12.sub (by decide) _ _ b2; replace b5 := st12.sub (by decide) _ _ b5; replace r8 := r8.mono (st12.sub (by decide))
    refine k1 _ _ _ S b2 b5 r8.rd ?_
    rw [← hboth]
    simp [h0]
end Go.Proofs.YtdjgdcafmfheoaaDoor
set_option linter.unusedVariables false
set_option linter.unusedSimpArgs false
namespace Go.Proofs.YtdjgdcafmfheoaaDoor
open Go.Vc
attribute [local irreducible] TInt TBool TStr TPtr TSl TAgg TMap TChan T2 T3 T4 BS Req TSome TCell TByte LoadC LoadA StoreC AllocC RunV RunU CallV ExtV EqA StableC StableA StableV TCells ReadV
attribute [local irreducible] eU eT eE

theorem slStr : SlT Tryd.prog 32 9 1 16 := .of (by kernel_rfl)
structure AnsV (h : View) (a : AnsR) (v u : Value) : Prop where
  d : RdS h v 1 a.data.length (bvs a.data)
  n : RdS h u 1 a.names.length (svs a.names)
theorem AnsV.mono {h h' : View} {a : AnsR} {v u : Value} (H : AnsV h a v u) (hs : Sub h h') : AnsV h' a v u := ⟨H.d.mono hs, H.n.mono hs⟩

theorem wrong_c {w : World} {s : List UInt8} {R : Value → World → Prop} (h : R (.bool (!decide (okName s))) w) : CallV Tryd.prog 108 #[.string (strOf s)] w R := by
  refine oper_WriteAnswer_1_vc ?_
  unfold oper_WriteAnswer_1_VC
  rw [strEq_emp, strOf_size]
  refine BS.dec (fun e => ?_) (fun e => ?_)
  · subst e; exact h
  · have : decide (((s.length : Nat) : Int) > (8 : Int)) = !decide (okName s) := by
      have : s.length ≠ 0 := fun h => e (List.eq_nil_of_length_eq_zero h)
      by_cases h8 : s.length ≤ 8
      · rw [decide_eq_false (by omega), decide_eq_true (show okName s from ⟨by omega, h8⟩)]; rfl
      · rw [decide_eq_true (by omega), decide_eq_false (show ¬ okName s from fun h => h8 h.2)]; rfl
    rw [this]; exact h
theorem ContainsFunc_c {w : World} {v : Value} {names : List (List UInt8)} {R : Value → World → Prop} (hr : RdS (wv w) v 1 names.length (svs names)) (hl : names.length ≤ 1099511627776)
    (h : R (.bool (!decide (∀ s ∈ names, okName s))) w) : CallV Tryd.prog 109 #[v, .func (.func 108) #[] #[]] w R := by
  obtain ⟨o, p, rfl⟩ := hr.form
  refine slices_ContainsFunc_string_string_vc ?_
  unfold slices_ContainsFunc_string_string_VC
  refine slices_IndexFunc_string_string_vc ?_
  unfold slices_IndexFunc_string_string_VC
  refine LoopI.up names.length (fun i w1 => w1 = w ∧ ∀ s ∈ names.take i, okName s) ⟨rfl, by simp⟩ ?_
  rintro i _ B hi ⟨rfl, hok⟩ back
  refine BS.dec (fun hlt => ?_) (fun hge => ?_)
  · obtain ⟨s, hs⟩ := get_of_lt (l := names) (i := i) (by omega)
    refine Req.bnd ⟨by omega, hlt⟩ (hr.elt (Sub.refl _) (u := sv s) (by rw [svs_get, hs]; rfl) ?_)
    refine TStr.mk (wrong_c (TBool.mk ?_))
    refine BS.nb (fun hb => ?_) (fun hb => ?_)
    · refine TInt.mk ?_
      have hm : s ∈ names := List.mem_of_getElem? hs
      have : (!decide (∀ s ∈ names, okName s)) = true := by
        simp only [Bool.not_eq_true', decide_eq_false_iff_not]
        exact fun h => by simp [h s hm] at hb
      rw [this] at h
      rw [decide_eq_true (by omega)]; exact h
    · rw [wrap_i64 (by omega) (by omega)]
      refine back _ (by omega) ⟨rfl, fun x hx => ?_⟩
      rw [List.take_add_one, hs] at hx
      simp only [Option.toList_some, List.mem_append, List.mem_singleton] at hx
      rcases hx with hx | rfl
      · exact hok x hx
      · simpa using hb
  · refine TInt.mk ?_
    have : i = names.length := by omega
    subst this
    rw [List.take_length] at hok
    rw [decide_eq_true hok] at h
    exact h

theorem WriteAnswer_c (c : Nat → Nat) (j : Nat) {w : World} {a : AnsR} {v u : Value} {R : Value → World → Prop} (hv : AnsV (wv w) a v u)
    (h : ∀ v c' w', Step c [] [j] w c' w' → OwS (view c' j w') v 5 1 (wrAns a).1.length (bvs (wrAns a).1) → R (.tuple #[v, .int .i64 (wrAns a).2]) w') :
    CallV Tryd.prog 85 #[.agg (a.cells v u).toArray] w R := by
  obtain ⟨ov, cv, rfl⟩ := hv.d.form
  obtain ⟨ou, cu, rfl⟩ := hv.n.form
  have D : AnsV (view (fun _ => 0) 0 w) a (.slice ov a.data.length cv) (.slice ou a.names.length cu) := by rw [view0]; exact hv
  have S := Fr.start w
  refine oper_WriteAnswer_vc ?_
  unfold oper_WriteAnswer_VC
  refine AllocC.col (fun _ => 0) 1 fun b c1 w1 st1 b1 _ => ?_
  replace S := S.go st1.step (by decide) (by decide); replace D := D.mono (st1.step.sub (by decide))
  have fls : ¬ a.right → R (.tuple #[.slice none 0 0, .int .i64 1]) w1 := fun hn => by
    have := h (.slice none 0 0) _ _ (S.leave c j)
    rw [wrAns, if_neg hn] at this
    exact this (OwS.none_bytes ..)
  (repeat (first | refine TInt.mk ?_ | refine TBool.mk ?_ | refine TStr.mk ?_ | refine TSl.mk ?_ | refine TPtr.mk ?_ | refine TAgg.mk ?_ | refine T2.mk ?_ | refine T3.mk ?_ | refine TSome.mk ?_ | refine LoadC.ad (view_sub _ _ _) _ (by assumption) rfl ?_))
  refine oper_short_c (TBool.mk (BS.ndec (fun k => fls fun h => by unfold AnsR.right at h; omega) (fun k1 => ?_)))
  (repeat (first | refine TInt.mk ?_ | refine TBool.mk ?_ | refine TStr.mk ?_ | refine TSl.mk ?_ | refine TPtr.mk ?_ | refine TAgg.mk ?_ | refine T2.mk ?_ | refine T3.mk ?_ | refine TSome.mk ?_ | refine LoadC.ad (view_sub _ _ _) _ (by assumption) rfl ?_))
  refine oper_short_c (TBool.mk (BS.ndec (fun k => fls fun h => by unfold AnsR.right at h; omega) (fun k2 => ?_)))
  (repeat (first | refine TInt.mk ?_ | refine TBool.mk ?_ | refine TStr.mk ?_ | refine TSl.mk ?_ | refine TPtr.mk ?_ | refine TAgg.mk ?_ | refine T2.mk ?_ | refine T3.mk ?_ | refine TSome.mk ?_ | refine LoadC.ad (view_sub _ _ _) _ (by assumption) rfl ?_))
  refine BS.dec (fun k => fls fun h => by unfold AnsR.right at h; omega) (fun k3 => ?_)
  (repeat (first | refine TInt.mk ?_ | refine TBool.mk ?_ | refine TStr.mk ?_ | refine TSl.mk ?_ | refine TPtr.mk ?_ | refine TAgg.mk ?_ | refine T2.mk ?_ | refine T3.mk ?_ | refine TSome.mk ?_ | refine LoadC.ad (view_sub _ _ _) _ (by assumption) rfl ?_))
  refine BS.dec (fun k => fls fun h => by unfold AnsR.right at h; omega) (fun k4 => ?_)
  (repeat (first | refine TInt.mk ?_ | refine TBool.mk ?_ | refine TStr.mk ?_ | refine TSl.mk ?_ | refine TPtr.mk ?_ | refine TAgg.mk ?_ | refine T2.mk ?_ | refine T3.mk ?_ | refine TSome.mk ?_ | refine LoadC.ad (view_sub _ _ _) _ (by assumption) rfl ?_))
  refine ContainsFunc_c (D.n.mono (view_sub _ _ _)) (by omega) (TBool.mk ?_)
  unfold oper_WriteAnswer_K1
  refine BS.ndec (fun k => fls fun h => k h.2.2.2.2.2.2) (fun k5 => ?_)
  have hR : a.right := ⟨by omega, by omega, by omega, by omega, by omega, by omega, k5⟩
  refine AllocC.col c1 2 fun p c2 w2 st2 b2 _ => ?_
  replace S := S.go st2.step (by decide) (by decide); replace D := D.mono (st2.step.sub (by decide)); replace b1 := st2.step.sub (by decide) _ _ b1
  have P : PenV (view c2 2 w2) ⟨p, 0, none⟩ [] := ⟨p, _, rfl, b2, OwS.nil ..⟩
  (repeat (first | refine TInt.mk ?_ | refine TBool.mk ?_ | refine TStr.mk ?_ | refine TSl.mk ?_ | refine TPtr.mk ?_ | refine TAgg.mk ?_ | refine T2.mk ?_ | refine T3.mk ?_ | refine TSome.mk ?_ | refine LoadC.ad (view_sub _ _ _) _ (by assumption) rfl ?_))
  refine Pen_U P a.code.toNat 2 (by rw [wrap_u64 (by omega) (by omega)]; omega) rfl (by omega) (by omega) (by omega) (by simp) fun c3 w3 st3 P => ?_
  replace S := S.go st3 (by decide) (by decide); replace D := D.mono (st3.sub (by decide)); replace b1 := st3.sub (by decide) _ _ b1
  (repeat (first | refine TInt.mk ?_ | refine TBool.mk ?_ | refine TStr.mk ?_ | refine TSl.mk ?_ | refine TPtr.mk ?_ | refine TAgg.mk ?_ | refine T2.mk ?_ | refine T3.mk ?_ | refine TSome.mk ?_ | refine LoadC.ad (view_sub _ _ _) _ (by assumption) rfl ?_))
  refine Pen_U P a.n.toNat 2 (by rw [wrap_u64 (by omega) (by omega)]; omega) rfl (by omega) (by omega) (by omega) (by simp) fun c4 w4 st4 P => ?_
  replace S := S.go st4 (by decide) (by decide); replace D := D.mono (st4.sub (by decide)); replace b1 := st4.sub (by decide) _ _ b1
  (repeat (first | refine TInt.mk ?_ | refine TBool.mk ?_ | refine TStr.mk ?_ | refine TSl.mk ?_ | refine TPtr.mk ?_ | refine TAgg.mk ?_ | refine T2.mk ?_ | refine T3.mk ?_ | refine TSome.mk ?_ | refine LoadC.ad (view_sub _ _ _) _ (by assumption) rfl ?_))
  refine Pen_T P 0 (by omega) D.d (by omega) (by simp) fun c5 w5 st5 P => ?_
  replace S := S.go st5 (by decide) (by decide); replace D := D.mono (st5.sub (by decide)); replace b1 := st5.sub (by decide) _ _ b1
  (repeat (first | refine TInt.mk ?_ | refine TBool.mk ?_ | refine TStr.mk ?_ | refine TSl.mk ?_ | refine TPtr.mk ?_ | refine TAgg.mk ?_ | refine T2.mk ?_ | refine T3.mk ?_ | refine TSome.mk ?_ | refine LoadC.ad (view_sub _ _ _) _ (by assumption) rfl ?_))
  refine Pen_U P a.names.length 1 (by rw [wrap_u64 (by omega) (by omega)]) rfl (by omega) (by omega) (by omega) (by simp; omega) fun c6 w6 st6 P => ?_
  replace S := S.go st6 (by decide) (by decide); replace D := D.mono (st6.sub (by decide)); replace b1 := st6.sub (by decide) _ _ b1
  (repeat (first | refine TInt.mk ?_ | refine TBool.mk ?_ | refine TStr.mk ?_ | refine TSl.mk ?_ | refine TPtr.mk ?_ | refine TAgg.mk ?_ | refine T2.mk ?_ | refine T3.mk ?_ | refine TSome.mk ?_ | refine LoadC.ad (view_sub _ _ _) _ (by assumption) rfl ?_))
  generalize hb : [] ++ be a.code.toNat 2 ++ be a.n.toNat 2 ++ txt a.data ++ be a.names.length 1 = B at P
  have hB : B.length ≤ 71 := by rw [← hb]; simp; omega
  have hE : a.enc = B ++ a.names.flatMap txt := by rw [← hb]; unfold AnsR.enc; simp
  have hle := AnsR.enc_len hR
  refine LoopI.up a.names.length (fun i w' => ∃ c', Fr w c' w' ∧ PenV (view c' 2 w') ⟨p, 0, none⟩ (B ++ (a.names.take i).flatMap txt) ∧ AnsV (view c' 0 w') a (.slice ov a.data.length cv) (.slice ou a.names.length cu)) ⟨c6, S, by simpa using P, D⟩ ?_
  rintro i w7 B' hi ⟨c7, S, P, D⟩ back
  refine BS.dec (fun hlt => ?_) (fun hge => ?_)
  · obtain ⟨s, hs⟩ := get_of_lt (l := a.names) (i := i) (by omega)
    have hs8 := k5 s (List.mem_of_getElem? hs)
    unfold okName at hs8
    refine Req.bnd ⟨by omega, hlt⟩ (D.n.elt (view_sub _ _ _) (u := sv s) (by rw [svs_get, hs]; rfl) (TStr.mk ?_))
    refine bytes_col Tryd.underlying9 Tryd.underlying26 Tryd.underlying5 c7 0 fun v8 c8 w8 st8 r8 => ?_
    replace S := S.go st8 (by decide) (by decide); replace D := D.mono (st8.sub (by decide)); replace P := P.mono (st8.sub (by decide))
    obtain ⟨o8, p8, rfl⟩ := r8.form
    (repeat (first | refine TInt.mk ?_ | refine TBool.mk ?_ | refine TStr.mk ?_ | refine TSl.mk ?_ | refine TPtr.mk ?_ | refine TAgg.mk ?_ | refine T2.mk ?_ | refine T3.mk ?_ | refine TSome.mk ?_))
    refine Pen_T P 0 (by omega) r8 (by omega) ?_ fun c9 w9 st9 P => ?_
    · have h1 : (a.names.take i).flatMap txt ++ (a.names.drop i).flatMap txt = a.names.flatMap txt := by rw [← List.flatMap_append, List.take_append_drop]
      have h2 := congrArg List.length h1
      have h3 := congrArg List.length hE
      rw [List.length_append] at h2 h3 ⊢
      omega
    replace S := S.go st9 (by decide) (by decide); replace D := D.mono (st9.sub (by decide))
    refine TInt.mk ?_
    rw [wrap_i64 (by omega) (by omega)]
    refine back _ (by omega) ⟨c9, S, ?_, D⟩
    rw [List.take_add_one, hs, Option.toList_some, List.flatMap_append, ← List.append_assoc]; simpa using P
  · have : i = a.names.length := by omega
    subst this
    rw [List.take_length, ← hE] at P
    refine Pen_Data 3 P (by omega) fun v9 c9 w9 st9 ho => ?_
    replace S := S.go st9 (by decide) (by decide); replace D := D.mono (st9.sub (by decide))
    obtain ⟨o9, p9, rfl⟩ := ho.form
    refine TSl.mk ?_
    have := h (.slice o9 a.enc.length p9) _ _ (S.leave c j)
    rw [wrAns, if_pos hR] at this
    exact this (ho.mono (S.out c j (by omega)))

theorem RightAnswer_c (c : Nat → Nat) (j : Nat) {w : World} {a : AnsR} {v u : Value} {R : Value → World → Prop} (hv : AnsV (wv w) a v u)
    (h : ∀ c' w', Step c [] [j] w c' w' → R (.bool (decide a.right)) w') : CallV Tryd.prog 102 #[.agg (a.cells v u).toArray] w R := by
  obtain ⟨ov, cv, rfl⟩ := hv.d.form
  obtain ⟨ou, cu, rfl⟩ := hv.n.form
  have D : AnsV (view (fun _ => 0) 0 w) a (.slice ov a.data.length cv) (.slice ou a.names.length cu) := by rw [view0]; exact hv
  have S := Fr.start w
  refine ref10_RightAnswer_vc ?_
  unfold ref10_RightAnswer_VC
  refine AllocC.col (fun _ => 0) 1 fun b c1 w1 st1 b1 _ => ?_
  replace S := S.go st1.step (by decide) (by decide); replace D := D.mono (st1.step.sub (by decide))
  have hR := h _ _ (S.leave c j)
  have fls : ¬ a.right → R (.bool false) w1 := fun hn => by rwa [decide_eq_false hn] at hR
  (repeat (first | refine TInt.mk ?_ | refine TBool.mk ?_ | refine TStr.mk ?_ | refine TSl.mk ?_ | refine TPtr.mk ?_ | refine TAgg.mk ?_ | refine T2.mk ?_ | refine T3.mk ?_ | refine TSome.mk ?_ | refine LoadC.ad (view_sub _ _ _) _ (by assumption) rfl ?_))
  refine BS.dec (fun k => fls fun h => by unfold AnsR.right at h; omega) (fun k1 => ?_)
  (repeat (first | refine TInt.mk ?_ | refine TBool.mk ?_ | refine TStr.mk ?_ | refine TSl.mk ?_ | refine TPtr.mk ?_ | refine TAgg.mk ?_ | refine T2.mk ?_ | refine T3.mk ?_ | refine TSome.mk ?_ | refine LoadC.ad (view_sub _ _ _) _ (by assumption) rfl ?_))
  refine BS.dec (fun k => fls fun h => by unfold AnsR.right at h; omega) (fun k2 => ?_)
  (repeat (first | refine TInt.mk ?_ | refine TBool.mk ?_ | refine TStr.mk ?_ | refine TSl.mk ?_ | refine TPtr.mk ?_ | refine TAgg.mk ?_ | refine T2.mk ?_ | refine T3.mk ?_ | refine TSome.mk ?_ | refine LoadC.ad (view_sub _ _ _) _ (by assumption) rfl ?_))
  refine BS.dec (fun k => fls fun h => by unfold AnsR.right at h; omega) (fun k3 => ?_)
  (repeat (first | refine TInt.mk ?_ | refine TBool.mk ?_ | refine TStr.mk ?_ | refine TSl.mk ?_ | refine TPtr.mk ?_ | refine TAgg.mk ?_ | refine T2.mk ?_ | refine T3.mk ?_ | refine TSome.mk ?_ | refine LoadC.ad (view_sub _ _ _) _ (by assumption) rfl ?_))
  refine BS.dec (fun k => fls fun h => by unfold AnsR.right at h; omega) (fun k4 => ?_)
  (repeat (first | refine TInt.mk ?_ | refine TBool.mk ?_ | refine TStr.mk ?_ | refine TSl.mk ?_ | refine TPtr.mk ?_ | refine TAgg.mk ?_ | refine T2.mk ?_ | refine T3.mk ?_ | refine TSome.mk ?_ | refine LoadC.ad (view_sub _ _ _) _ (by assumption) rfl ?_))
  refine BS.dec (fun k => fls fun h => by unfold AnsR.right at h; omega) (fun k5 => ?_)
  (repeat (first | refine TInt.mk ?_ | refine TBool.mk ?_ | refine TStr.mk ?_ | refine TSl.mk ?_ | refine TPtr.mk ?_ | refine TAgg.mk ?_ | refine T2.mk ?_ | refine T3.mk ?_ | refine TSome.mk ?_ | refine LoadC.ad (view_sub _ _ _) _ (by assumption) rfl ?_))
  unfold ref10_RightAnswer_K1
  refine BS.dec (fun k => fls fun h => by unfold AnsR.right at h; omega) (fun k6 => ?_)
  refine LoopI.up a.names.length (fun i w' => w' = w1 ∧ ∀ s ∈ a.names.take i, okName s) ⟨rfl, by simp⟩ ?_
  rintro i _ B' hi ⟨rfl, hok⟩ back
  (repeat (first | refine TInt.mk ?_ | refine TBool.mk ?_ | refine TStr.mk ?_ | refine TSl.mk ?_ | refine TPtr.mk ?_ | refine TAgg.mk ?_ | refine T2.mk ?_ | refine T3.mk ?_ | refine TSome.mk ?_ | refine LoadC.ad (view_sub _ _ _) _ (by assumption) rfl ?_))
  refine BS.dec (fun hlt => ?_) (fun hge => ?_)
  · obtain ⟨s, hs⟩ := get_of_lt (l := a.names) (i := i) (by omega)
    have hm : s ∈ a.names := List.mem_of_getElem? hs
    (repeat (first | refine TInt.mk ?_ | refine TBool.mk ?_ | refine TStr.mk ?_ | refine TSl.mk ?_ | refine TPtr.mk ?_ | refine TAgg.mk ?_ | refine T2.mk ?_ | refine T3.mk ?_ | refine TSome.mk ?_ | refine LoadC.ad (view_sub _ _ _) _ (by assumption) rfl ?_))
    refine Req.bnd ⟨by omega, hlt⟩ (D.n.elt (view_sub _ _ _) (u := sv s) (by rw [svs_get, hs]; rfl) (TStr.mk ?_))
    rw [strOf_size]
    refine BS.dec (fun k => fls fun h => by have := h.2.2.2.2.2.2 s hm; unfold okName at this; omega) (fun k7 => ?_)
    (repeat (first | refine TInt.mk ?_ | refine TBool.mk ?_ | refine TStr.mk ?_ | refine TSl.mk ?_ | refine TPtr.mk ?_ | refine TAgg.mk ?_ | refine T2.mk ?_ | refine T3.mk ?_ | refine TSome.mk ?_ | refine LoadC.ad (view_sub _ _ _) _ (by assumption) rfl ?_))
    refine Req.bnd ⟨by omega, hlt⟩ (D.n.elt (view_sub _ _ _) (u := sv s) (by rw [svs_get, hs]; rfl) (TStr.mk ?_))
    rw [strOf_size]
    refine BS.dec (fun k => fls fun h => by have := h.2.2.2.2.2.2 s hm; unfold okName at this; omega) (fun k8 => ?_)
    rw [wrap_i64 (by omega) (by omega)]
    refine back _ (by omega) ⟨rfl, fun x hx => ?_⟩
    rw [List.take_add_one, hs] at hx
    simp only [Option.toList_some, List.mem_append, List.mem_singleton] at hx
    rcases hx with hx | rfl
    · exact hok x hx
    · unfold okName; omega
  · have : i = a.names.length := by omega
    subst this
    rw [List.take_length] at hok
    rw [decide_eq_true ⟨by omega, by omega, by omega, by omega, by omega, by omega, hok⟩] at hR
    exact hR

theorem Same_strs (c : Nat → Nat) {w : World} {v u : Value} {l m : List (List UInt8)} {R : Value → World → Prop} (h1 : RdS (wv w) v 1 l.length (svs l)) (h2 : RdS (wv w) u 1 m.length (svs m)) (hl : l.length ≤ 1099511627776)
    (h : ∀ w', Step c [] [] w c w' → R (.bool (decide (l = m))) w') : CallV Tryd.prog 83 #[v, u] w R := by
  obtain ⟨o1, cp1, rfl⟩ := h1.form
  obtain ⟨o2, cp2, rfl⟩ := h2.form
  refine ref09_Same_vc ?_
  unfold ref09_Same_VC
  refine BS.ne (fun hne => ?_) (fun heq => ?_)
  · have := h w (.refl ..)
    rwa [decide_eq_false (by rintro rfl; exact hne rfl)] at this
  have hlen : l.length = m.length := by omega
  refine LoopI.up l.length (fun i w' => Step c [] [] w c w' ∧ l.take i = m.take i) ⟨.refl .., by simp⟩ ?_
  rintro i w1 B hi ⟨st, heq⟩ back
  refine BS.dec (fun hlt => ?_) (fun hge => ?_)
  · refine DrewC.col c fun w2 st2 => ?_
    have st := st.trans st2
    obtain ⟨s, hs⟩ := get_of_lt (l := l) (i := i) (by omega)
    obtain ⟨t, ht⟩ := get_of_lt (l := m) (i := i) (by omega)
    refine Req.bnd ⟨by omega, hlt⟩ (h1.elt st.wv (u := sv s) (by rw [svs_get, hs]; rfl) (TStr.mk ?_))
    refine Req.bnd ⟨by omega, by omega⟩ (h2.elt st.wv (u := sv t) (by rw [svs_get, ht]; rfl) (TStr.mk ?_))
    rw [strEq_of]
    refine BS.ndec (fun hne => ?_) (fun he => ?_)
    · have := h w2 st
      rwa [decide_eq_false (by rintro rfl; rw [hs] at ht; exact hne (by simpa using ht))] at this
    · rw [wrap_i64 (by omega) (by omega)]
      refine back _ (by omega) ⟨st, ?_⟩
      rw [List.take_add_one, List.take_add_one, heq, hs, ht, he]
  · have : i = l.length := by omega
    subst this
    rw [List.take_length, hlen, List.take_length] at heq
    have := h w1 st
    rwa [decide_eq_true heq] at this

theorem SameAns_c (c : Nat → Nat) (j : Nat) {w : World} {a b : AnsR} {v u v' u' : Value} {R : Value → World → Prop} (ha : AnsV (wv w) a v u) (hb : AnsV (wv w) b v' u') (hl : a.names.length ≤ 1099511627776)
    (h : ∀ c' w', Step c [] [j] w c' w' → R (.bool (decide (a = b))) w') : CallV Tryd.prog 44 #[.agg (a.cells v u).toArray, .agg (b.cells v' u').toArray] w R := by
  obtain ⟨ov, cv, rfl⟩ := ha.d.form
  obtain ⟨ou, cu, rfl⟩ := ha.n.form
  obtain ⟨pv, dv, rfl⟩ := hb.d.form
  obtain ⟨pu, du, rfl⟩ := hb.n.form
  have D : AnsV (view (fun _ => 0) 0 w) a (.slice ov a.data.length cv) (.slice ou a.names.length cu) := by rw [view0]; exact ha
  have E : AnsV (view (fun _ => 0) 0 w) b (.slice pv b.data.length dv) (.slice pu b.names.length du) := by rw [view0]; exact hb
  have S := Fr.start w
  refine ref10_Same_vc ?_
  unfold ref10_Same_VC
  refine AllocC.col (fun _ => 0) 1 fun x c1 w1 st1 b1 _ => ?_
  replace S := S.go st1.step (by decide) (by decide); replace D := D.mono (st1.step.sub (by decide)); replace E := E.mono (st1.step.sub (by decide))
  refine AllocC.col c1 1 fun y c2 w2 st2 b2 _ => ?_
  replace b1 := st2.old _ _ b1 (by simp)
  replace S := S.go st2.step (by decide) (by decide); replace D := D.mono (st2.step.sub (by decide)); replace E := E.mono (st2.step.sub (by decide))
  have hR := h _ _ (S.leave c j)
  have fls : a ≠ b → R (.bool false) w2 := fun hn => by rwa [decide_eq_false hn] at hR
  (repeat (first | refine TInt.mk ?_ | refine TBool.mk ?_ | refine TStr.mk ?_ | refine TSl.mk ?_ | refine TPtr.mk ?_ | refine TAgg.mk ?_ | refine T2.mk ?_ | refine T3.mk ?_ | refine TSome.mk ?_ | refine LoadC.ad (view_sub _ _ _) _ (by assumption) rfl ?_))
  refine BS.eq (fun e1 => ?_) (fun e => fls (by rintro rfl; exact e rfl))
  (repeat (first | refine TInt.mk ?_ | refine TBool.mk ?_ | refine TStr.mk ?_ | refine TSl.mk ?_ | refine TPtr.mk ?_ | refine TAgg.mk ?_ | refine T2.mk ?_ | refine T3.mk ?_ | refine TSome.mk ?_ | refine LoadC.ad (view_sub _ _ _) _ (by assumption) rfl ?_))
  refine BS.eq (fun e2 => ?_) (fun e => fls (by rintro rfl; exact e rfl))
  (repeat (first | refine TInt.mk ?_ | refine TBool.mk ?_ | refine TStr.mk ?_ | refine TSl.mk ?_ | refine TPtr.mk ?_ | refine TAgg.mk ?_ | refine T2.mk ?_ | refine T3.mk ?_ | refine TSome.mk ?_ | refine LoadC.ad (view_sub _ _ _) _ (by assumption) rfl ?_))
  refine string_rule strU8 (D.d.mono (view_sub _ _ _)) (TStr.mk ?_)
  (repeat (first | refine TInt.mk ?_ | refine TBool.mk ?_ | refine TStr.mk ?_ | refine TSl.mk ?_ | refine TPtr.mk ?_ | refine TAgg.mk ?_ | refine T2.mk ?_ | refine T3.mk ?_ | refine TSome.mk ?_ | refine LoadC.ad (view_sub _ _ _) _ (by assumption) rfl ?_))
  refine string_rule strU8 (E.d.mono (view_sub _ _ _)) (TStr.mk ?_)
  rw [strEq_of]
  refine BS.dec (fun e3 => ?_) (fun e => fls (by rintro rfl; exact e rfl))
  (repeat (first | refine TInt.mk ?_ | refine TBool.mk ?_ | refine TStr.mk ?_ | refine TSl.mk ?_ | refine TPtr.mk ?_ | refine TAgg.mk ?_ | refine T2.mk ?_ | refine T3.mk ?_ | refine TSome.mk ?_ | refine LoadC.ad (view_sub _ _ _) _ (by assumption) rfl ?_))
  refine Same_strs c2 (D.n.mono (view_sub _ _ _)) (E.n.mono (view_sub _ _ _)) hl fun w3 st3 => ?_
  replace S := S.go st3 (by decide) (by decide)
  have hR := h _ _ (S.leave c j)
  refine TBool.mk ?_
  have : decide (a.names = b.names) = decide (a = b) := by
    rw [decide_eq_decide]
    obtain ⟨a1, a2, a3, a4⟩ := a
    obtain ⟨b1, b2, b3, b4⟩ := b
    simp only [AnsR.mk.injEq] at *
    exact ⟨fun h => ⟨e1, e2, e3, h⟩, fun h => h.2.2.2⟩
  rw [this]; exact hR
end Go.Proofs.YtdjgdcafmfheoaaDoor
set_option linter.unusedVariables false
set_option linter.unusedSimpArgs false
namespace Go.Proofs.YtdjgdcafmfheoaaDoor
open Go.Vc
attribute [local irreducible] TInt TBool TStr TPtr TSl TAgg TMap TChan T2 T3 T4 BS Req TSome TCell TByte LoadC LoadA StoreC AllocC RunV RunU CallV ExtV EqA StableC StableA StableV TCells ReadV
attribute [local irreducible] eU eT eE



theorem ref_WriteAnswer_c (c : Nat → Nat) (j : Nat) {w : World} {a : AnsR} {v u : Value} {R : Value → World → Prop} (hv : AnsV (wv w) a v u)
    (h : ∀ v c' w', Step c [] [j] w c' w' → OwS (view c' j w') v 5 1 (wrAns a).1.length (bvs (wrAns a).1) → R (.tuple #[v, .int .i64 (wrAns a).2]) w') :
    CallV Tryd.prog 76 #[.agg (a.cells v u).toArray] w R := by
  obtain ⟨ov, cv, rfl⟩ := hv.d.form
  obtain ⟨ou, cu, rfl⟩ := hv.n.form
  have D : AnsV (view (fun _ => 0) 0 w) a (.slice ov a.data.length cv) (.slice ou a.names.length cu) := by rw [view0]; exact hv
  have S := Fr.start w
  refine ref10_WriteAnswer_vc ?_
  unfold ref10_WriteAnswer_VC
  refine AllocC.col (fun _ => 0) 1 fun b c1 w1 st1 b1 _ => ?_
  replace S := S.go st1.step (by decide) (by decide); replace D := D.mono (st1.step.sub (by decide))
  refine LoadA.all (view_sub _ _ _) b1 rfl ?_
  refine RightAnswer_c c1 0 ⟨D.d.mono (view_sub _ _ _), D.n.mono (view_sub _ _ _)⟩ fun c2 w2 st2 => TBool.mk ?_
  replace S := S.go st2 (by decide) (by decide); replace D := D.mono (st2.sub (by decide)); replace b1 := st2.sub (by decide) _ _ b1
  refine BS.ndec (fun hn => ?_) (fun hR => ?_)
  · refine AllocC.col c2 2 fun b c3 w3 st3 b3 _ => ?_
    replace S := S.go st3.step (by decide) (by decide); replace D := D.mono (st3.step.sub (by decide))
    have := h (.slice (some ⟨b, 0, none⟩) 0 0) _ _ (S.leave c j)
    rw [wrAns, if_neg hn] at this
    exact this ((OwS.some_bytes b3).mono (S.out c j (by omega)))
  obtain ⟨q1, q2, q3, q4, q5, q6, q7⟩ := id hR
  have hle := AnsR.enc_len hR
  refine DrewC.col c2 fun w3 st3 => ?_
  replace S := S.go st3 (by decide) (by decide); replace D := D.mono (st3.sub (by decide)); replace b1 := st3.sub (by decide) _ _ b1
  (repeat (first | refine TInt.mk ?_ | refine TBool.mk ?_ | refine TStr.mk ?_ | refine TSl.mk ?_ | refine TPtr.mk ?_ | refine TAgg.mk ?_ | refine T2.mk ?_ | refine T3.mk ?_ | refine TSome.mk ?_ | refine LoadC.ad (view_sub _ _ _) _ (by assumption) rfl ?_))
  refine two_c c2 2 q1 q2 fun v4 c4 w4 st4 ho => ?_
  replace S := S.go st4 (by decide) (by decide); replace D := D.mono (st4.sub (by decide)); replace b1 := st4.sub (by decide) _ _ b1
  obtain ⟨o4, p4, rfl⟩ := ho.form
  (repeat (first | refine TInt.mk ?_ | refine TBool.mk ?_ | refine TStr.mk ?_ | refine TSl.mk ?_ | refine TPtr.mk ?_ | refine TAgg.mk ?_ | refine T2.mk ?_ | refine T3.mk ?_ | refine TSome.mk ?_))
  refine ⟨StableC.ad (view_sub _ _ _) b1 rfl, ?_⟩
  refine two_c c4 0 q3 q4 fun v5 c5 w5 st5 r5 => ?_
  replace S := S.go st5 (by decide) (by decide); replace D := D.mono (st5.sub (by decide)); replace b1 := st5.sub (by decide) _ _ b1; replace ho := ho.mono (st5.sub (by decide))
  obtain ⟨o5, p5, rfl⟩ := r5.form
  (repeat (first | refine TInt.mk ?_ | refine TBool.mk ?_ | refine TStr.mk ?_ | refine TSl.mk ?_ | refine TPtr.mk ?_ | refine TAgg.mk ?_ | refine T2.mk ?_ | refine T3.mk ?_ | refine TSome.mk ?_))
  refine app_bytes slU8 ho (r5.rd.mono (view_sub _ _ _)) (by simp) fun o6 p6 c6 w6 st6 ho => ?_
  replace S := S.go st6.step (by decide) (by decide); replace D := D.mono (st6.step.sub (by decide)); replace b1 := st6.step.sub (by decide) _ _ b1
  (repeat (first | refine TInt.mk ?_ | refine TBool.mk ?_ | refine TStr.mk ?_ | refine TSl.mk ?_ | refine TPtr.mk ?_ | refine TAgg.mk ?_ | refine T2.mk ?_ | refine T3.mk ?_ | refine TSome.mk ?_))
  refine DrewC.col c6 fun w7 st7 => ?_
  replace S := S.go st7 (by decide) (by decide); replace D := D.mono (st7.sub (by decide)); replace b1 := st7.sub (by decide) _ _ b1; replace ho := ho.mono (st7.sub (by decide))
  (repeat (first | refine TInt.mk ?_ | refine TBool.mk ?_ | refine TStr.mk ?_ | refine TSl.mk ?_ | refine TPtr.mk ?_ | refine TAgg.mk ?_ | refine T2.mk ?_ | refine T3.mk ?_ | refine TSome.mk ?_ | refine LoadC.ad (view_sub _ _ _) _ (by assumption) rfl ?_))
  generalize hb : be a.code.toNat 2 ++ be a.n.toNat 2 = B at ho ⊢
  have hB : B.length = 4 := by rw [← hb]; simp
  have hE : a.enc = B ++ txt a.data ++ [byteAt a.names.length 0] ++ a.names.flatMap txt := by rw [← hb]; unfold AnsR.enc; simp [be]
  have k1 : ∀ o4 n4 p4 c' w', Fr w c' w' → view c' 1 w' b = some (.cells (a.cells (.slice ov a.data.length cv) (.slice ou a.names.length cu)).toArray 34 (0, 0)) → AnsV (view c' 0 w') a (.slice ov a.data.length cv) (.slice ou a.names.length cu) →
      OwS (view c' 2 w') (.slice o4 n4 p4) 5 1 (B ++ txt a.data ++ [byteAt a.names.length 0]).length (bvs (B ++ txt a.data ++ [byteAt a.names.length 0])) → ref10_WriteAnswer_K1 ⟨b, 0, none⟩ o4 n4 p4 w' R := by
    intro o4 n4 p4 c8 w8 S b1 D ho
    unfold ref10_WriteAnswer_K1
    refine LoopSI.up a.names.length (fun i o l p w' => ∃ c', Fr w c' w' ∧ view c' 1 w' b = some (.cells (a.cells (.slice ov a.data.length cv) (.slice ou a.names.length cu)).toArray 34 (0, 0)) ∧ AnsV (view c' 0 w') a (.slice ov a.data.length cv) (.slice ou a.names.length cu) ∧
      OwS (view c' 2 w') (.slice o l p) 5 1 (B ++ txt a.data ++ [byteAt a.names.length 0] ++ (a.names.take i).flatMap txt).length (bvs (B ++ txt a.data ++ [byteAt a.names.length 0] ++ (a.names.take i).flatMap txt))) ⟨c8, S, b1, D, by simpa using ho⟩ ?_
    rintro i o l p w9 B' hi ⟨c9, S, b1, D, ho⟩ back
    (repeat (first | refine TInt.mk ?_ | refine TBool.mk ?_ | refine TStr.mk ?_ | refine TSl.mk ?_ | refine TPtr.mk ?_ | refine TAgg.mk ?_ | refine T2.mk ?_ | refine T3.mk ?_ | refine TSome.mk ?_ | refine LoadC.ad (view_sub _ _ _) _ (by assumption) rfl ?_))
    refine BS.dec (fun hlt => ?_) (fun hge => ?_)
    · obtain ⟨s, hs⟩ := get_of_lt (l := a.names) (i := i) (by omega)
      have hs8 := q7 s (List.mem_of_getElem? hs)
      unfold okName at hs8
      (repeat (first | refine TInt.mk ?_ | refine TBool.mk ?_ | refine TStr.mk ?_ | refine TSl.mk ?_ | refine TPtr.mk ?_ | refine TAgg.mk ?_ | refine T2.mk ?_ | refine T3.mk ?_ | refine TSome.mk ?_ | refine LoadC.ad (view_sub _ _ _) _ (by assumption) rfl ?_))
      refine Req.bnd ⟨by omega, hlt⟩ (D.n.elt (view_sub _ _ _) (u := sv s) (by rw [svs_get, hs]; rfl) (TStr.mk ?_))
      refine bytes_col Tryd.underlying9 Tryd.underlying26 Tryd.underlying5 c9 0 fun v10 c10 w10 st10 r10 => ?_
      replace S := S.go st10 (by decide) (by decide); replace D := D.mono (st10.sub (by decide)); replace b1 := st10.sub (by decide) _ _ b1; replace ho := ho.mono (st10.sub (by decide))
      obtain ⟨o10, p10, rfl⟩ := r10.form
      (repeat (first | refine TInt.mk ?_ | refine TBool.mk ?_ | refine TStr.mk ?_ | refine TSl.mk ?_ | refine TPtr.mk ?_ | refine TAgg.mk ?_ | refine T2.mk ?_ | refine T3.mk ?_ | refine TSome.mk ?_))
      refine text_c c10 0 (r10.mono (view_sub _ _ _)) (by omega) fun v11 c11 w11 st11 r11 => ?_
      replace S := S.go st11 (by decide) (by decide); replace D := D.mono (st11.sub (by decide)); replace b1 := st11.sub (by decide) _ _ b1; replace ho := ho.mono (st11.sub (by decide))
      obtain ⟨o11, p11, rfl⟩ := r11.form
      (repeat (first | refine TInt.mk ?_ | refine TBool.mk ?_ | refine TStr.mk ?_ | refine TSl.mk ?_ | refine TPtr.mk ?_ | refine TAgg.mk ?_ | refine T2.mk ?_ | refine T3.mk ?_ | refine TSome.mk ?_))
      refine app_bytes slU8 ho (r11.rd.mono (view_sub _ _ _)) ?_ fun o12 p12 c12 w12 st12 ho => ?_
      · have h1 : (a.names.take i).flatMap txt ++ (a.names.drop i).flatMap txt = a.names.flatMap txt := by rw [← List.flatMap_append, List.take_append_drop]
        have h2 := congrArg List.length h1
        have h3 := congrArg List.length hE
        rw [List.length_append] at h2 h3 ⊢
        rw [txt_length]
        omega
      replace S := S.go st12.step (by decide) (by decide); replace D := D.mono (st12.step.sub (by decide)); replace b1 := st12.step.sub (by decide) _ _ b1
      (repeat (first | refine TInt.mk ?_ | refine TBool.mk ?_ | refine TStr.mk ?_ | refine TSl.mk ?_ | refine TPtr.mk ?_ | refine TAgg.mk ?_ | refine T2.mk ?_ | refine T3.mk ?_ | refine TSome.mk ?_))
      rw [wrap_i64 (by omega) (by omega)]
      refine back _ _ _ _ (by omega) ⟨c12, S, b1, D, ?_⟩
      have e : B ++ txt a.data ++ [byteAt a.names.length 0] ++ (a.names.take (i + 1)).flatMap txt = B ++ txt a.data ++ [byteAt a.names.length 0] ++ (a.names.take i).flatMap txt ++ txt s := by
        rw [List.take_add_one, hs, Option.toList_some, List.flatMap_append]; simp
      rw [e]; exact ho
    · have : i = a.names.length := by omega
      subst this
      rw [List.take_length, ← hE] at ho
      have := ho.len.1
      subst this
      have := h (.slice o a.enc.length p) _ _ (S.leave c j)
      rw [wrAns, if_pos hR] at this
      exact this (ho.mono (S.out c j (by omega)))
  have eb : IntKind.wrap .u8 ((a.names.length : Nat) : Int) = ((byteAt a.names.length 0).toNat : Int) := by rw [byte_u8 (by omega)]; rfl
  rw [eb]
  refine ⟨?_, ?_⟩
  · refine text_c c6 0 (D.d.mono (view_sub _ _ _)) (by omega) fun v8 c8 w8 st8 r8 => ?_
    replace S := S.go st8 (by decide) (by decide); replace D := D.mono (st8.sub (by decide)); replace b1 := st8.sub (by decide) _ _ b1; replace ho := ho.mono (st8.sub (by decide))
    obtain ⟨o8, p8, rfl⟩ := r8.form
    (repeat (first | refine TInt.mk ?_ | refine TBool.mk ?_ | refine TStr.mk ?_ | refine TSl.mk ?_ | refine TPtr.mk ?_ | refine TAgg.mk ?_ | refine T2.mk ?_ | refine T3.mk ?_ | refine TSome.mk ?_))
    refine ⟨StableC.ad (view_sub _ _ _) b1 rfl, ?_, ?_⟩
    · refine app_bytes slU8 ho (r8.rd.mono (view_sub _ _ _)) (by rw [txt_length]; omega) fun o9 p9 c9 w9 st9 ho => ?_
      replace S := S.go st9.step (by decide) (by decide); replace D := D.mono (st9.step.sub (by decide)); replace b1 := st9.step.sub (by decide) _ _ b1
      (repeat (first | refine TInt.mk ?_ | refine TBool.mk ?_ | refine TStr.mk ?_ | refine TSl.mk ?_ | refine TPtr.mk ?_ | refine TAgg.mk ?_ | refine T2.mk ?_ | refine T3.mk ?_ | refine TSome.mk ?_))
      refine ⟨StableC.ad (view_sub _ _ _) b1 rfl, ?_⟩
      refine AllocC.col c9 3 fun y c10 w10 st10 b10 _ => ?_
      replace S := S.go st10.step (by decide) (by decide); replace D := D.mono (st10.step.sub (by decide)); replace b1 := st10.step.sub (by decide) _ _ b1; replace ho := ho.mono (st10.step.sub (by decide))
      refine ⟨StableC.ad (view_sub _ _ _) b1 rfl, ?_⟩
      refine app_bytes slU8 ho ((OwS.lit b10 [byteAt a.names.length 0] rfl rfl (by simp [maxLen])).rd.mono (view_sub _ _ _)) (by simp; omega) fun o11 p11 c11 w11 st11 ho => ?_
      replace S := S.go st11.step (by decide) (by decide); replace D := D.mono (st11.step.sub (by decide)); replace b1 := st11.step.sub (by decide) _ _ b1
      (repeat (first | refine TInt.mk ?_ | refine TBool.mk ?_ | refine TStr.mk ?_ | refine TSl.mk ?_ | refine TPtr.mk ?_ | refine TAgg.mk ?_ | refine T2.mk ?_ | refine T3.mk ?_ | refine TSome.mk ?_))
      exact k1 _ _ _ _ _ S b1 D ho
    · refine AllocC.col c8 3 fun y c10 w10 st10 b10 _ => ?_
      replace S := S.go st10.step (by decide) (by decide); replace D := D.mono (st10.step.sub (by decide)); replace b1 := st10.step.sub (by decide) _ _ b1; replace ho := ho.mono (st10.step.sub (by decide)); replace r8 := r8.mono (st10.step.sub (by decide))
      refine ⟨StableC.ad (view_sub _ _ _) b1 rfl, ?_⟩
      refine app_bytes slU8 ho (r8.rd.mono (view_sub _ _ _)) (by rw [txt_length]; omega) fun o9 p9 c9 w9 st9 ho => ?_
      replace S := S.go st9.step (by decide) (by decide); replace D := D.mono (st9.step.sub (by decide)); replace b1 := st9.step.sub (by decide) _ _ b1; replace b10 := st9.step.sub (by decide) _ _ b10
      (repeat (first | refine TInt.mk ?_ | refine TBool.mk ?_ | refine TStr.mk ?_ | refine TSl.mk ?_ | refine TPtr.mk ?_ | refine TAgg.mk ?_ | refine T2.mk ?_ | refine T3.mk ?_ | refine TSome.mk ?_))
      refine ⟨StableC.ad (view_sub _ _ _) b1 rfl, ?_⟩
      refine app_bytes slU8 ho ((OwS.lit b10 [byteAt a.names.length 0] rfl rfl (by simp [maxLen])).rd.mono (view_sub _ _ _)) (by simp; omega) fun o11 p11 c11 w11 st11 ho => ?_
      replace S := S.go st11.step (by decide) (by decide); replace D := D.mono (st11.step.sub (by decide)); replace b1 := st11.step.sub (by decide) _ _ b1
      (repeat (first | refine TInt.mk ?_ | refine TBool.mk ?_ | refine TStr.mk ?_ | refine TSl.mk ?_ | refine TPtr.mk ?_ | refine TAgg.mk ?_ | refine T2.mk ?_ | refine T3.mk ?_ | refine TSome.mk ?_))
      exact k1 _ _ _ _ _ S b1 D ho
  · refine AllocC.col c6 3 fun y c10 w10 st10 b10 _ => ?_
    replace S := S.go st10.step (by decide) (by decide); replace D := D.mono (st10.step.sub (by decide)); replace b1 := st10.step.sub (by decide) _ _ b1; replace ho := ho.mono (st10.step.sub (by decide))
    refine ⟨StableC.ad (view_sub _ _ _) b1 rfl, ?_⟩
    refine text_c c10 0 (D.d.mono (view_sub _ _ _)) (by omega) fun v8 c8 w8 st8 r8 => ?_
    replace S := S.go st8 (by decide) (by decide); replace D := D.mono (st8.sub (by decide)); replace b1 := st8.sub (by decide) _ _ b1; replace ho := ho.mono (st8.sub (by decide)); replace b10 := st8.sub (by decide) _ _ b10
    obtain ⟨o8, p8, rfl⟩ := r8.form
    (repeat (first | refine TInt.mk ?_ | refine TBool.mk ?_ | refine TStr.mk ?_ | refine TSl.mk ?_ | refine TPtr.mk ?_ | refine TAgg.mk ?_ | refine T2.mk ?_ | refine T3.mk ?_ | refine TSome.mk ?_))
    refine ⟨StableC.ad (view_sub _ _ _) b1 rfl, ?_⟩
    refine app_bytes slU8 ho (r8.rd.mono (view_sub _ _ _)) (by rw [txt_length]; omega) fun o9 p9 c9 w9 st9 ho => ?_
    replace S := S.go st9.step (by decide) (by decide); replace D := D.mono (st9.step.sub (by decide)); replace b1 := st9.step.sub (by decide) _ _ b1; replace b10 := st9.step.sub (by decide) _ _ b10
    (repeat (first | refine TInt.mk ?_ | refine TBool.mk ?_ | refine TStr.mk ?_ | refine TSl.mk ?_ | refine TPtr.mk ?_ | refine TAgg.mk ?_ | refine T2.mk ?_ | refine T3.mk ?_ | refine TSome.mk ?_))
    refine ⟨StableC.ad (view_sub _ _ _) b1 rfl, ?_⟩
    refine app_bytes slU8 ho ((OwS.lit b10 [byteAt a.names.length 0] rfl rfl (by simp [maxLen])).rd.mono (view_sub _ _ _)) (by simp; omega) fun o11 p11 c11 w11 st11 ho => ?_
    replace S := S.go st11.step (by decide) (by decide); replace D := D.mono (st11.step.sub (by decide)); replace b1 := st11.step.sub (by decide) _ _ b1
    (repeat (first | refine TInt.mk ?_ | refine TBool.mk ?_ | refine TStr.mk ?_ | refine TSl.mk ?_ | refine TPtr.mk ?_ | refine TAgg.mk ?_ | refine T2.mk ?_ | refine T3.mk ?_ | refine TSome.mk ?_))
    exact k1 _ _ _ _ _ S b1 D ho
end Go.Proofs.YtdjgdcafmfheoaaDoor
set_option linter.unusedVariables false
set_option linter.unusedSimpArgs false
namespace Go.Proofs.YtdjgdcafmfheoaaDoor
open Go.Vc
attribute [local irreducible] TInt TBool TStr TPtr TSl TAgg TMap TChan T2 T3 T4 BS Req TSome TCell TByte LoadC LoadA StoreC AllocC RunV RunU CallV ExtV EqA StableC StableA StableV TCells ReadV
attribute [local irreducible] eU eT eE

theorem oper_ReadAnswer_c (c : Nat → Nat) (j : Nat) {w : World} {v : Value} {l : List UInt8} {R : Value → World → Prop} (hr : RdS (wv w) v 1 l.length (bvs l)) (hl : l.length ≤ 1000000)
    (h : ∀ v u c' w', Step c [] [j] w c' w' → AnsV (view c' j w') (rdAns l).1 v u → R (.tuple #[.agg ((rdAns l).1.cells v u).toArray, .int .i64 (rdAns l).2]) w') :
    CallV Tryd.prog 62 #[v] w R := by
  obtain ⟨o0, p0, rfl⟩ := hr.form
  have D : RdS (view (fun _ => 0) 0 w) (.slice o0 l.length p0) 1 l.length (bvs l) := by rw [view0]; exact hr
  have S := Fr.start w
  refine oper_ReadAnswer_vc ?_
  unfold oper_ReadAnswer_VC
  refine AllocC.col (fun _ => 0) 3 fun a c1 w1 st1 b2 _ => ?_
  replace S := S.go st1.step (by decide) (by decide); replace D := D.mono (st1.step.sub (by decide))
  refine NewEye c1 2 (D.mono (view_sub _ _ _)) (by omega) fun ax c2 w2 st2 he => ?_
  replace S := S.go st2 (by decide) (by decide); replace D := D.mono (st2.sub (by decide)); replace b2 := st2.sub (by decide) _ _ b2
  (repeat (first | refine TInt.mk ?_ | refine TBool.mk ?_ | refine TStr.mk ?_ | refine TSl.mk ?_ | refine TPtr.mk ?_ | refine TAgg.mk ?_ | refine T2.mk ?_ | refine T3.mk ?_ | refine TSome.mk ?_))
  refine AllocC.col c2 1 fun r c3 w3 st3 b4 _ => ?_
  replace S := S.go st3.step (by decide) (by decide); replace D := D.mono (st3.step.sub (by decide)); replace b2 := st3.step.sub (by decide) _ _ b2; replace he := he.mono (st3.step.sub (by decide))
  refine RunU.var b4 (by kernel_rfl) rfl (by first | (simp [Value.oneCell']; done) | (simp [Value.oneCell', OpR.cells, sv]; done) | (simp [Value.oneCell', AnsR.cells, sv]; done) | rfl) fun w4 st4 b4 => ?_
  replace S := S.go st4.step (by decide) (by decide); replace D := D.mono (st4.step.sub (by decide)); replace b2 := st4.step.sub (by decide) _ _ b2; replace he := he.mono (st4.step.sub (by decide))
  refine DrewC.col c3 fun w5 st5 => ?_
  replace S := S.go st5 (by decide) (by decide); replace D := D.mono (st5.sub (by decide)); replace b2 := st5.sub (by decide) _ _ b2; replace b4 := st5.sub (by decide) _ _ b4; replace he := he.mono (st5.sub (by decide))
  refine LoadA.all (view_sub _ _ _) b4 rfl (LoadA.all (view_sub _ _ _) b4 rfl (LoadA.all (view_sub _ _ _) b4 rfl ?_))
  have L1 := eU_len 2 l
  have L2 := eU_len 2 (eU 2 l).2.1
  have L3 := (eT_len (eU 2 (eU 2 l).2.1).2.1)
  have L4 := (eU_len 1 (eT (eU 2 (eU 2 l).2.1).2.1).2.1)
  have num : ∀ {c' w' l'} (n : Int) (k : Nat) {K : Value → World → Prop}, EyeV (view c' 2 w') ax l' → l'.length ≤ l.length → n = k → 1 ≤ k → k ≤ 2 → (∀ c'' w'', Step c' [2] [5] w' c'' w'' → EyeV (view c'' 2 w'') ax (eU k l').2.1 → K (.int .i64 ((eU k l').1 : Nat)) w'') → CallV Tryd.prog 94 #[.agg #[.pointer (some ax)], .int .i64 n] w' K :=
    fun n k _ he hl' hn h1 h2 hK => reader_number he 5 (by omega) (by omega) k hn h1 h2 hK
  have k1 : ∀ a5 od pd c' w', Fr w c' w' → RdS (view c' 0 w') (.slice o0 l.length p0) 1 l.length (bvs l) → view c' 3 w' a = some (.cells #[.int .i64 0, .int .i64 0, .slice none 0 0, .slice none 0 0] 34 (0, 0)) →
      view c' 1 w' r = some (.cells #[.pointer (some ax)] 153 (0, 0)) → view c' 4 w' a5 = some (.cells #[.int .i64 ((eU 2 l).1 : Nat), .int .i64 ((eU 2 (eU 2 l).2.1).1 : Nat), .slice od (eT (eU 2 (eU 2 l).2.1).2.1).1.length pd, .slice none 0 0] 34 (0, 0)) →
      EyeV (view c' 2 w') ax (eT (eU 2 (eU 2 l).2.1).2.1).2.1 → OwS (view c' 5 w') (.slice od (eT (eU 2 (eU 2 l).2.1).2.1).1.length pd) 5 1 (eT (eU 2 (eU 2 l).2.1).2.1).1.length (bvs (eT (eU 2 (eU 2 l).2.1).2.1).1) → oper_ReadAnswer_K1 o0 l.length p0 ⟨a, 0, none⟩ ⟨r, 0, none⟩ ⟨a5, 0, none⟩ w' R := by
    intro a5 od pd c6 w6 S D b2 b4 b5 he hd
    unfold oper_ReadAnswer_K1
    refine LoadA.all (view_sub _ _ _) b4 rfl ?_
    refine num 1 1 he (by omega) rfl (by omega) (by omega) fun c7 w7 st7 he => TInt.mk ?_
    replace S := S.go st7 (by decide) (by decide); replace D := D.mono (st7.sub (by decide)); replace b2 := st7.sub (by decide) _ _ b2; replace b4 := st7.sub (by decide) _ _ b4; replace b5 := st7.sub (by decide) _ _ b5; replace hd := hd.mono (st7.sub (by decide))
    refine LoopI.up (min (eU 1 (eT (eU 2 (eU 2 l).2.1).2.1).2.1).1 7) (fun i w' => ∃ c' o n p, Fr w c' w' ∧ RdS (view c' 0 w') (.slice o0 l.length p0) 1 l.length (bvs l) ∧ view c' 3 w' a = some (.cells #[.int .i64 0, .int .i64 0, .slice none 0 0, .slice none 0 0] 34 (0, 0)) ∧
      view c' 1 w' r = some (.cells #[.pointer (some ax)] 153 (0, 0)) ∧ view c' 4 w' a5 = some (.cells #[.int .i64 ((eU 2 l).1 : Nat), .int .i64 ((eU 2 (eU 2 l).2.1).1 : Nat), .slice od (eT (eU 2 (eU 2 l).2.1).2.1).1.length pd, .slice o n p] 34 (0, 0)) ∧
      EyeV (view c' 2 w') ax (nT i (eU 1 (eT (eU 2 (eU 2 l).2.1).2.1).2.1).2.1).2.1 ∧ OwS (view c' 5 w') (.slice od (eT (eU 2 (eU 2 l).2.1).2.1).1.length pd) 5 1 (eT (eU 2 (eU 2 l).2.1).2.1).1.length (bvs (eT (eU 2 (eU 2 l).2.1).2.1).1) ∧ OwS (view c' 6 w') (.slice o n p) 9 1 (nT i (eU 1 (eT (eU 2 (eU 2 l).2.1).2.1).2.1).2.1).1.length (svs (nT i (eU 1 (eT (eU 2 (eU 2 l).2.1).2.1).2.1).2.1).1))
      ⟨c7, none, 0, 0, S, D, b2, b4, b5, he, hd, OwS.none_strs ..⟩ ?_
    rintro i w8 B hi ⟨c8, o, n, p, S, D, b2, b4, b5, he, hd, hs⟩ back
    have hil := nT_length i (eU 1 (eT (eU 2 (eU 2 l).2.1).2.1).2.1).2.1
    have hir := nT_rest i (eU 1 (eT (eU 2 (eU 2 l).2.1).2.1).2.1).2.1
    refine BS.dec (fun hlt => ?_) (fun hge => ?_)
    · refine DrewC.col c8 fun w9 st9 => ?_
      replace S := S.go st9 (by decide) (by decide); replace D := D.mono (st9.sub (by decide)); replace b2 := st9.sub (by decide) _ _ b2; replace b4 := st9.sub (by decide) _ _ b4; replace b5 := st9.sub (by decide) _ _ b5; replace he := he.mono (st9.sub (by decide)); replace hd := hd.mono (st9.sub (by decide)); replace hs := hs.mono (st9.sub (by decide))
      (repeat (first | refine TInt.mk ?_ | refine TBool.mk ?_ | refine TStr.mk ?_ | refine TSl.mk ?_ | refine TPtr.mk ?_ | refine TAgg.mk ?_ | refine T2.mk ?_ | refine T3.mk ?_ | refine TSome.mk ?_ | refine LoadC.ad (view_sub _ _ _) _ (by assumption) rfl ?_))
      refine LoadA.all (view_sub _ _ _) b4 rfl ?_
      refine reader_text he 5 (by omega) (by omega) fun v10 c10 w10 st10 he r10 => ?_
      replace S := S.go st10 (by decide) (by decide); replace D := D.mono (st10.sub (by decide)); replace b2 := st10.sub (by decide) _ _ b2; replace b4 := st10.sub (by decide) _ _ b4; replace b5 := st10.sub (by decide) _ _ b5; replace hd := hd.mono (st10.sub (by decide)); replace hs := hs.mono (st10.sub (by decide))
      obtain ⟨o10, p10, rfl⟩ := r10.form
      (repeat (first | refine TInt.mk ?_ | refine TBool.mk ?_ | refine TStr.mk ?_ | refine TSl.mk ?_ | refine TPtr.mk ?_ | refine TAgg.mk ?_ | refine T2.mk ?_ | refine T3.mk ?_ | refine TSome.mk ?_))
      refine ⟨StableC.ad (view_sub _ _ _) b5 rfl, string_rule strU8 (r10.rd.mono (view_sub _ _ _)) (TStr.mk ?_)⟩
      refine AllocC.col c10 7 fun y c11 w11 st11 b11 _ => ?_
      replace S := S.go st11.step (by decide) (by decide); replace D := D.mono (st11.step.sub (by decide)); replace b2 := st11.step.sub (by decide) _ _ b2; replace b4 := st11.step.sub (by decide) _ _ b4; replace b5 := st11.step.sub (by decide) _ _ b5; replace hd := hd.mono (st11.step.sub (by decide)); replace hs := hs.mono (st11.step.sub (by decide)); replace he := he.mono (st11.step.sub (by decide))
      refine ⟨StableC.ad (view_sub _ _ _) b5 rfl, ?_⟩
      refine app_strs slStr hs (m := [(eT (nT i (eU 1 (eT (eU 2 (eU 2 l).2.1).2.1).2.1).2.1).2.1).1]) ((RdS.block (xs := svs [(eT (nT i (eU 1 (eT (eU 2 (eU 2 l).2.1).2.1).2.1).2.1).2.1).1]) b11 rfl (Nat.le_refl _)).mono (view_sub _ _ _)) (by rw [hil]; simp; omega) fun o12 p12 c12 w12 st12 hs => ?_
      replace S := S.go st12.step (by decide) (by decide); replace D := D.mono (st12.step.sub (by decide)); replace b2 := st12.step.sub (by decide) _ _ b2; replace b4 := st12.step.sub (by decide) _ _ b4; replace b5 := st12.step.sub (by decide) _ _ b5; replace hd := hd.mono (st12.step.sub (by decide)); replace he := he.mono (st12.step.sub (by decide))
      (repeat (first | refine TInt.mk ?_ | refine TBool.mk ?_ | refine TStr.mk ?_ | refine TSl.mk ?_ | refine TPtr.mk ?_ | refine TAgg.mk ?_ | refine T2.mk ?_ | refine T3.mk ?_ | refine TSome.mk ?_))
      refine StoreC.ad b5 (by simp) fun w13 st13 _ b5 => ?_
      replace S := S.go st13.step (by decide) (by decide); replace D := D.mono (st13.step.sub (by decide)); replace b2 := st13.step.sub (by decide) _ _ b2; replace b4 := st13.step.sub (by decide) _ _ b4; replace hd := hd.mono (st13.step.sub (by decide)); replace he := he.mono (st13.step.sub (by decide)); replace hs := hs.mono (st13.step.sub (by decide))
      rw [wrap_i64 (by omega) (by omega)]
      exact back _ (by omega) ⟨c12, o12, _, p12, S, D, b2, b4, b5, he, hd, hs⟩
    · have : i = min (eU 1 (eT (eU 2 (eU 2 l).2.1).2.1).2.1).1 7 := by omega
      subst this
      have := hs.len.1
      subst this
      refine LoadA.all (cs := ((decAns l 7).1.cells (.slice od (decAns l 7).1.data.length pd) (.slice o (decAns l 7).1.names.length p)).toArray) (view_sub _ _ _) b5 rfl ?_
      refine WriteAnswer_c c8 8 (a := (decAns l 7).1) ⟨hd.rd.mono (view_sub _ _ _), hs.rd.mono (view_sub _ _ _)⟩ fun v14 c14 w14 st14 r14 => ?_
      replace S := S.go st14 (by decide) (by decide); replace D := D.mono (st14.sub (by decide)); replace b2 := st14.sub (by decide) _ _ b2; replace b4 := st14.sub (by decide) _ _ b4; replace b5 := st14.sub (by decide) _ _ b5; replace hd := hd.mono (st14.sub (by decide)); replace hs := hs.mono (st14.sub (by decide))
      obtain ⟨o14, p14, rfl⟩ := r14.form
      (repeat (first | refine TInt.mk ?_ | refine TBool.mk ?_ | refine TStr.mk ?_ | refine TSl.mk ?_ | refine TPtr.mk ?_ | refine TAgg.mk ?_ | refine T2.mk ?_ | refine T3.mk ?_ | refine TSome.mk ?_))
      refine exactly_c c14 (D.mono (view_sub _ _ _)) (r14.rd.mono (view_sub _ _ _)) (by omega) fun w15 st15 => ?_
      replace S := S.go st15 (by decide) (by decide); replace D := D.mono (st15.sub (by decide)); replace b2 := st15.sub (by decide) _ _ b2; replace b4 := st15.sub (by decide) _ _ b4; replace b5 := st15.sub (by decide) _ _ b5; replace hd := hd.mono (st15.sub (by decide)); replace hs := hs.mono (st15.sub (by decide))
      refine TBool.mk (BS.ndec (fun hn => ?_) (fun hy => ?_))
      · rw [wrAns_iff] at hn
        refine RunU.var b2 (by kernel_rfl) rfl (by first | (simp [Value.oneCell']; done) | (simp [Value.oneCell', OpR.cells, sv]; done) | (simp [Value.oneCell', AnsR.cells, sv]; done) | rfl) fun w16 st16 b2 => ?_
        replace S := S.go st16.step (by decide) (by decide); replace D := D.mono (st16.step.sub (by decide))
        refine LoadA.all (view_sub _ _ _) b2 rfl ?_
        have := h (.slice none 0 0) (.slice none 0 0) _ _ (S.leave c j)
        rw [rdAns, if_neg hn] at this
        exact this ⟨RdS.none_bytes .., RdS.none_strs ..⟩
      · rw [wrAns_iff] at hy
        refine LoadA.all (cs := ((decAns l 7).1.cells (.slice od (decAns l 7).1.data.length pd) (.slice o (decAns l 7).1.names.length p)).toArray) (view_sub _ _ _) b5 rfl ?_
        refine RunU.var b2 (by kernel_rfl) rfl (by first | (simp [Value.oneCell']; done) | (simp [Value.oneCell', OpR.cells, sv]; done) | (simp [Value.oneCell', AnsR.cells, sv]; done) | rfl) fun w16 st16 b2 => ?_
        replace S := S.go st16.step (by decide) (by decide); replace D := D.mono (st16.step.sub (by decide)); replace hd := hd.mono (st16.step.sub (by decide)); replace hs := hs.mono (st16.step.sub (by decide))
        refine LoadA.all (view_sub _ _ _) b2 rfl ?_
        have := h (.slice od (decAns l 7).1.data.length pd) (.slice o (decAns l 7).1.names.length p) _ _ (S.leave c j)
        rw [rdAns, if_pos hy] at this
        exact this ⟨hd.rd.mono (S.out c j (by omega)), hs.rd.mono (S.out c j (by omega))⟩
  have txt' : ∀ {c' w' l'} {K : Value → World → Prop}, EyeV (view c' 2 w') ax l' → l'.length ≤ l.length → (∀ o p c'' w'', Step c' [2] [5] w' c'' w'' → EyeV (view c'' 2 w'') ax (eT l').2.1 → OwS (view c'' 5 w'') (.slice o (eT l').1.length p) 5 1 (eT l').1.length (bvs (eT l').1) → K (.slice o (eT l').1.length p) w'') → CallV Tryd.prog 95 #[.agg #[.pointer (some ax)]] w' K :=
    fun he hl' hK => reader_text he 5 (by omega) (by omega) fun v c w st he r => by obtain ⟨o, p, rfl⟩ := r.form; exact hK _ _ _ _ st he r
  refine ⟨?_, ?_⟩
  · refine num 2 2 he (by omega) rfl (by omega) (by omega) fun c8 w8 st8 he => TInt.mk ?_
    replace S := S.go st8 (by decide) (by decide); replace D := D.mono (st8.sub (by decide)); replace b2 := st8.sub (by decide) _ _ b2; replace b4 := st8.sub (by decide) _ _ b4
    refine ⟨StableA.all (view_sub _ _ _) b4 rfl, StableA.all (view_sub _ _ _) b4 rfl, ?_, ?_⟩
    · refine num 2 2 he (by omega) rfl (by omega) (by omega) fun c8 w8 st8 he => TInt.mk ?_
      replace S := S.go st8 (by decide) (by decide); replace D := D.mono (st8.sub (by decide)); replace b2 := st8.sub (by decide) _ _ b2; replace b4 := st8.sub (by decide) _ _ b4
      refine ⟨StableA.all (view_sub _ _ _) b4 rfl, ?_, ?_⟩
      · refine txt' he (by omega) fun od pd c8 w8 st8 he hd => TSl.mk ?_
        replace S := S.go st8 (by decide) (by decide); replace D := D.mono (st8.sub (by decide)); replace b2 := st8.sub (by decide) _ _ b2; replace b4 := st8.sub (by decide) _ _ b4
        refine AllocC.col c8 4 fun a5 c9 w9 st9 b5 _ => ?_
        replace S := S.go st9.step (by decide) (by decide); replace D := D.mono (st9.step.sub (by decide)); replace b2 := st9.step.sub (by decide) _ _ b2; replace b4 := st9.step.sub (by decide) _ _ b4; replace he := he.mono (st9.step.sub (by decide)); replace hd := hd.mono (st9.step.sub (by decide))
        refine ⟨StableA.all (view_sub _ _ _) b4 rfl, StableA.all (view_sub _ _ _) b4 rfl, StableA.all (view_sub _ _ _) b4 rfl, ?_⟩
        refine RunU.var b5 (by kernel_rfl) rfl (by first | (simp [Value.oneCell']; done) | (simp [Value.oneCell', OpR.cells, sv]; done) | (simp [Value.oneCell', AnsR.cells, sv]; done) | rfl) fun w10 st10 b5 => ?_
        replace S := S.go st10.step (by decide) (by decide); replace D := D.mono (st10.step.sub (by decide)); replace b2 := st10.step.sub (by decide) _ _ b2; replace b4 := st10.step.sub (by decide) _ _ b4; replace he := he.mono (st10.step.sub (by decide)); replace hd := hd.mono (st10.step.sub (by decide))
        exact k1 _ _ _ _ _ S D b2 b4 b5 he hd
      · refine AllocC.col c8 4 fun a5 c9 w9 st9 b5 _ => ?_
        replace S := S.go st9.step (by decide) (by decide); replace D := D.mono (st9.step.sub (by decide)); replace b2 := st9.step.sub (by decide) _ _ b2; replace b4 := st9.step.sub (by decide) _ _ b4; replace he := he.mono (st9.step.sub (by decide))
        refine ⟨StableA.all (view_sub _ _ _) b4 rfl, StableA.all (view_sub _ _ _) b4 rfl, StableA.all (view_sub _ _ _) b4 rfl, ?_⟩
        refine txt' he (by omega) fun od pd c8 w8 st8 he hd => TSl.mk ?_
        replace S := S.go st8 (by decide) (by decide); replace D := D.mono (st8.sub (by decide)); replace b2 := st8.sub (by decide) _ _ b2; replace b4 := st8.sub (by decide) _ _ b4; replace b5 := st8.sub (by decide) _ _ b5
        refine RunU.var b5 (by kernel_rfl) rfl (by first | (simp [Value.oneCell']; done) | (simp [Value.oneCell', OpR.cells, sv]; done) | (simp [Value.oneCell', AnsR.cells, sv]; done) | rfl) fun w10 st10 b5 => ?_
        replace S := S.go st10.step (by decide) (by decide); replace D := D.mono (st10.step.sub (by decide)); replace b2 := st10.step.sub (by decide) _ _ b2; replace b4 := st10.step.sub (by decide) _ _ b4; replace he := he.mono (st10.step.sub (by decide)); replace hd := hd.mono (st10.step.sub (by decide))
        exact k1 _ _ _ _ _ S D b2 b4 b5 he hd
    · refine AllocC.col c8 4 fun a5 c9 w9 st9 b5 _ => ?_
      replace S := S.go st9.step (by decide) (by decide); replace D := D.mono (st9.step.sub (by decide)); replace b2 := st9.step.sub (by decide) _ _ b2; replace b4 := st9.step.sub (by decide) _ _ b4; replace he := he.mono (st9.step.sub (by decide))
      refine ⟨StableA.all (view_sub _ _ _) b4 rfl, StableA.all (view_sub _ _ _) b4 rfl, StableA.all (view_sub _ _ _) b4 rfl, ?_⟩
      refine num 2 2 he (by omega) rfl (by omega) (by omega) fun c8 w8 st8 he => TInt.mk ?_
      replace S := S.go st8 (by decide) (by decide); replace D := D.mono (st8.sub (by decide)); replace b2 := st8.sub (by decide) _ _ b2; replace b4 := st8.sub (by decide) _ _ b4; replace b5 := st8.sub (by decide) _ _ b5
      refine ⟨StableA.all (view_sub _ _ _) b4 rfl, ?_⟩
      refine txt' he (by omega) fun od pd c8 w8 st8 he hd => TSl.mk ?_
      replace S := S.go st8 (by decide) (by decide); replace D := D.mono (st8.sub (by decide)); replace b2 := st8.sub (by decide) _ _ b2; replace b4 := st8.sub (by decide) _ _ b4; replace b5 := st8.sub (by decide) _ _ b5
      refine RunU.var b5 (by kernel_rfl) rfl (by first | (simp [Value.oneCell']; done) | (simp [Value.oneCell', OpR.cells, sv]; done) | (simp [Value.oneCell', AnsR.cells, sv]; done) | rfl) fun w10 st10 b5 => ?_
      replace S := S.go st10.step (by decide) (by decide); replace D := D.mono (st10.step.sub (by decide)); replace b2 := st10.step.sub (by decide) _ _ b2; replace b4 := st10.step.sub (by decide) _ _ b4; replace he := he.mono (st10.step.sub (by decide)); replace hd := hd.mono (st10.step.sub (by decide))
      exact k1 _ _ _ _ _ S D b2 b4 b5 he hd
  · refine AllocC.col c3 4 fun a5 c9 w9 st9 b5 _ => ?_
    replace S := S.go st9.step (by decide) (by decide); replace D := D.mono (st9.step.sub (by decide)); replace b2 := st9.step.sub (by decide) _ _ b2; replace b4 := st9.step.sub (by decide) _ _ b4; replace he := he.mono (st9.step.sub (by decide))
    refine ⟨StableA.all (view_sub _ _ _) b4 rfl, StableA.all (view_sub _ _ _) b4 rfl, StableA.all (view_sub _ _ _) b4 rfl, ?_⟩
    refine num 2 2 he (by omega) rfl (by omega) (by omega) fun c8 w8 st8 he => TInt.mk ?_
    replace S := S.go st8 (by decide) (by decide); replace D := D.mono (st8.sub (by decide)); replace b2 := st8.sub (by decide) _ _ b2; replace b4 := st8.sub (by decide) _ _ b4; replace b5 := st8.sub (by decide) _ _ b5
    refine ⟨StableA.all (view_sub _ _ _) b4 rfl, StableA.all (view_sub _ _ _) b4 rfl, ?_⟩
    refine num 2 2 he (by omega) rfl (by omega) (by omega) fun c8 w8 st8 he => TInt.mk ?_
    replace S := S.go st8 (by decide) (by decide); replace D := D.mono (st8.sub (by decide)); replace b2 := st8.sub (by decide) _ _ b2; replace b4 := st8.sub (by decide) _ _ b4; replace b5 := st8.sub (by decide) _ _ b5
    refine ⟨StableA.all (view_sub _ _ _) b4 rfl, ?_⟩
    refine txt' he (by omega) fun od pd c8 w8 st8 he hd => TSl.mk ?_
    replace S := S.go st8 (by decide) (by decide); replace D := D.mono (st8.sub (by decide)); replace b2 := st8.sub (by decide) _ _ b2; replace b4 := st8.sub (by decide) _ _ b4; replace b5 := st8.sub (by decide) _ _ b5
    refine RunU.var b5 (by kernel_rfl) rfl (by first | (simp [Value.oneCell']; done) | (simp [Value.oneCell', OpR.cells, sv]; done) | (simp [Value.oneCell', AnsR.cells, sv]; done) | rfl) fun w10 st10 b5 => ?_
    replace S := S.go st10.step (by decide) (by decide); replace D := D.mono (st10.step.sub (by decide)); replace b2 := st10.step.sub (by decide) _ _ b2; replace b4 := st10.step.sub (by decide) _ _ b4; replace he := he.mono (st10.step.sub (by decide)); replace hd := hd.mono (st10.step.sub (by decide))
    exact k1 _ _ _ _ _ S D b2 b4 b5 he hd

theorem ref_ReadAnswer_c (c : Nat → Nat) (j : Nat) {w : World} {v : Value} {l : List UInt8} {R : Value → World → Prop} (hr : RdS (wv w) v 1 l.length (bvs l)) (hl : l.length ≤ 1000000)
    (h : ∀ v u c' w', Step c [] [j] w c' w' → AnsV (view c' j w') (rdAns l).1 v u → R (.tuple #[.agg ((rdAns l).1.cells v u).toArray, .int .i64 (rdAns l).2]) w') :
    CallV Tryd.prog 69 #[v] w R := by
  obtain ⟨o0, p0, rfl⟩ := hr.form
  have D : RdS (view (fun _ => 0) 0 w) (.slice o0 l.length p0) 1 l.length (bvs l) := by rw [view0]; exact hr
  have S := Fr.start w
  refine ref10_ReadAnswer_vc ?_
  unfold ref10_ReadAnswer_VC
  refine AllocC.col (fun _ => 0) 3 fun a c1 w1 st1 b2 _ => ?_
  replace S := S.go st1.step (by decide) (by decide); replace D := D.mono (st1.step.sub (by decide))
  refine AllocC.col c1 2 fun x c2 w2 st2 bx _ => ?_
  replace S := S.go st2.step (by decide) (by decide); replace D := D.mono (st2.step.sub (by decide)); replace b2 := st2.step.sub (by decide) _ _ b2
  have he : REye (view c2 2 w2) ⟨x, 0, none⟩ (.slice o0 l.length p0) l l := ⟨0, ⟨x, rfl, bx⟩, by omega, by simp⟩
  refine REye_U 5 (by omega) (by omega) he D (by omega) 2 rfl (by omega) (by omega) fun c3 w3 st3 he => ?_
  replace S := S.go st3 (by decide) (by decide); replace D := D.mono (st3.sub (by decide)); replace b2 := st3.sub (by decide) _ _ b2
  (repeat (first | refine TInt.mk ?_ | refine TBool.mk ?_ | refine TStr.mk ?_ | refine TSl.mk ?_ | refine TPtr.mk ?_ | refine TAgg.mk ?_ | refine T2.mk ?_ | refine T3.mk ?_ | refine TSome.mk ?_))
  refine REye_U 5 (by omega) (by omega) he D (by omega) 2 rfl (by omega) (by omega) fun c4 w4 st4 he => ?_
  replace S := S.go st4 (by decide) (by decide); replace D := D.mono (st4.sub (by decide)); replace b2 := st4.sub (by decide) _ _ b2
  (repeat (first | refine TInt.mk ?_ | refine TBool.mk ?_ | refine TStr.mk ?_ | refine TSl.mk ?_ | refine TPtr.mk ?_ | refine TAgg.mk ?_ | refine T2.mk ?_ | refine T3.mk ?_ | refine TSome.mk ?_))
  refine REye_T 5 (by omega) (by omega) he D (by omega) fun v6 c6 w6 st6 he hd => ?_
  replace S := S.go st6 (by decide) (by decide); replace D := D.mono (st6.sub (by decide)); replace b2 := st6.sub (by decide) _ _ b2
  obtain ⟨od, pd, rfl⟩ := hd.form
  (repeat (first | refine TInt.mk ?_ | refine TBool.mk ?_ | refine TStr.mk ?_ | refine TSl.mk ?_ | refine TPtr.mk ?_ | refine TAgg.mk ?_ | refine T2.mk ?_ | refine T3.mk ?_ | refine TSome.mk ?_))
  refine REye_U 5 (by omega) (by omega) he D (by omega) 1 rfl (by omega) (by omega) fun c5 w5 st5 he => ?_
  replace S := S.go st5 (by decide) (by decide); replace D := D.mono (st5.sub (by decide)); replace b2 := st5.sub (by decide) _ _ b2; replace hd := hd.mono (st5.sub (by decide))
  (repeat (first | refine TInt.mk ?_ | refine TBool.mk ?_ | refine TStr.mk ?_ | refine TSl.mk ?_ | refine TPtr.mk ?_ | refine TAgg.mk ?_ | refine T2.mk ?_ | refine T3.mk ?_ | refine TSome.mk ?_))
  have q1 := eU_lt 2 l
  have q2 := eU_lt 2 (eU 2 l).2.1
  have q4 := eU_lt 1 (eT (eU 2 (eU 2 l).2.1).2.1).2.1
  have c1 := eU_bd 2 l
  have c2 := eU_bd 2 (eU 2 l).2.1
  have c3 := eT_bd (eU 2 (eU 2 l).2.1).2.1
  have c4 := eU_bd 1 (eT (eU 2 (eU 2 l).2.1).2.1).2.1
  rw [wrap_i64_nat _ (by omega), wrap_i64_nat _ (by omega)]
  refine AllocC.col c5 4 fun y c9 w9 st9 b5 _ => ?_
  replace S := S.go st9.step (by decide) (by decide); replace D := D.mono (st9.step.sub (by decide)); replace b2 := st9.step.sub (by decide) _ _ b2; replace hd := hd.mono (st9.step.sub (by decide)); replace he := he.mono (st9.step.sub (by decide))
  refine RunU.var b5 (by kernel_rfl) rfl (by first | (simp [Value.oneCell']; done) | (simp [Value.oneCell', OpR.cells, sv]; done) | (simp [Value.oneCell', AnsR.cells, sv]; done) | rfl) fun w10 st10 b5 => ?_
  replace S := S.go st10.step (by decide) (by decide); replace D := D.mono (st10.step.sub (by decide)); replace b2 := st10.step.sub (by decide) _ _ b2; replace hd := hd.mono (st10.step.sub (by decide)); replace he := he.mono (st10.step.sub (by decide))
  have hboth := decAns_both l
  have e256 : min (eU 1 (eT (eU 2 (eU 2 l).2.1).2.1).2.1).1 256 = (eU 1 (eT (eU 2 (eU 2 l).2.1).2.1).2.1).1 := by omega
  have hsum : (decAns l 256).2.2 = (eU 2 l).2.2 + (eU 2 (eU 2 l).2.1).2.2 + (eT (eU 2 (eU 2 l).2.1).2.1).2.2 + (eU 1 (eT (eU 2 (eU 2 l).2.1).2.1).2.1).2.2 + (nT (eU 1 (eT (eU 2 (eU 2 l).2.1).2.1).2.1).1 (eU 1 (eT (eU 2 (eU 2 l).2.1).2.1).2.1).2.1).2.2 + eE (nT (eU 1 (eT (eU 2 (eU 2 l).2.1).2.1).2.1).1 (eU 1 (eT (eU 2 (eU 2 l).2.1).2.1).2.1).2.1).2.1 := by simp only [decAns, e256]
  have hfst : (decAns l 256).1 = ⟨(eU 2 l).1, (eU 2 (eU 2 l).2.1).1, (eT (eU 2 (eU 2 l).2.1).2.1).1, (nT (eU 1 (eT (eU 2 (eU 2 l).2.1).2.1).2.1).1 (eU 1 (eT (eU 2 (eU 2 l).2.1).2.1).2.1).2.1).1⟩ := by simp only [decAns, e256]
  rw [wrap_i64 (n := (eU 2 l).2.2 + (eU 2 (eU 2 l).2.1).2.2) (by omega) (by omega), wrap_i64 (n := (eU 2 l).2.2 + (eU 2 (eU 2 l).2.1).2.2 + (eT (eU 2 (eU 2 l).2.1).2.1).2.2) (by omega) (by omega), wrap_i64 (n := (eU 2 l).2.2 + (eU 2 (eU 2 l).2.1).2.2 + (eT (eU 2 (eU 2 l).2.1).2.1).2.2 + (eU 1 (eT (eU 2 (eU 2 l).2.1).2.1).2.1).2.2) (by omega) (by omega), wrap_i64_nat _ (by omega)]
  have k3 : ∀ (b : Bool) c' w' o n p, Fr w c' w' → view c' 3 w' a = some (.cells #[.int .i64 0, .int .i64 0, .slice none 0 0, .slice none 0 0] 34 (0, 0)) →
      view c' 4 w' y = some (.cells #[.int .i64 ((eU 2 l).1 : Nat), .int .i64 ((eU 2 (eU 2 l).2.1).1 : Nat), .slice od (eT (eU 2 (eU 2 l).2.1).2.1).1.length pd, .slice o n p] 34 (0, 0)) → OwS (view c' 5 w') (.slice od (eT (eU 2 (eU 2 l).2.1).2.1).1.length pd) 5 1 (eT (eU 2 (eU 2 l).2.1).2.1).1.length (bvs (eT (eU 2 (eU 2 l).2.1).2.1).1) →
      (b = false ↔ ((decAns l 7).1.right ∧ (decAns l 7).1.enc = l)) → (b = false → OwS (view c' 6 w') (.slice o n p) 9 1 (nT (eU 1 (eT (eU 2 (eU 2 l).2.1).2.1).2.1).1 (eU 1 (eT (eU 2 (eU 2 l).2.1).2.1).2.1).2.1).1.length (svs (nT (eU 1 (eT (eU 2 (eU 2 l).2.1).2.1).2.1).1 (eU 1 (eT (eU 2 (eU 2 l).2.1).2.1).2.1).2.1).1)) → ref10_ReadAnswer_K3 ⟨a, 0, none⟩ ⟨y, 0, none⟩ b w' R := by
    intro b c' w' o n p S b2 b5 hd hb hs
    unfold ref10_ReadAnswer_K3
    cases b
    · have hs := hs rfl
      have hacc := hb.1 rfl
      have := hs.len.1
      subst this
      refine BS.no rfl ?_
      refine LoadA.all (view_sub _ _ _) b5 rfl ?_
      refine RunU.var b2 (by kernel_rfl) rfl (by first | (simp [Value.oneCell']; done) | (simp [Value.oneCell', OpR.cells, sv]; done) | (simp [Value.oneCell', AnsR.cells, sv]; done) | rfl) fun w16 st16 b2 => ?_
      replace S := S.go st16.step (by decide) (by decide); replace hd := hd.mono (st16.step.sub (by decide)); replace hs := hs.mono (st16.step.sub (by decide))
      refine LoadA.all (view_sub _ _ _) b2 rfl ?_
      have := h (.slice od (eT (eU 2 (eU 2 l).2.1).2.1).1.length pd) (.slice o (nT (eU 1 (eT (eU 2 (eU 2 l).2.1).2.1).2.1).1 (eU 1 (eT (eU 2 (eU 2 l).2.1).2.1).2.1).2.1).1.length p) _ _ (S.leave c j)
      rw [rdAns, if_pos hacc, ← decAns_same hacc, hfst] at this
      exact this ⟨hd.rd.mono (S.out c j (by omega)), hs.rd.mono (S.out c j (by omega))⟩
    · refine BS.yes rfl ?_
      refine RunU.var b2 (by kernel_rfl) rfl (by first | (simp [Value.oneCell']; done) | (simp [Value.oneCell', OpR.cells, sv]; done) | (simp [Value.oneCell', AnsR.cells, sv]; done) | rfl) fun w16 st16 b2 => ?_
      replace S := S.go st16.step (by decide) (by decide); replace hd := hd.mono (st16.step.sub (by decide))
      refine LoadA.all (view_sub _ _ _) b2 rfl ?_
      have := h (.slice none 0 0) (.slice none 0 0) _ _ (S.leave c j)
      rw [rdAns, if_neg (fun hh => by simpa using hb.2 hh)] at this
      exact this ⟨RdS.none_bytes .., RdS.none_strs ..⟩
  have k2 : ∀ (i : Nat) (x' : Int) c' w' o n p, i ≤ (eU 1 (eT (eU 2 (eU 2 l).2.1).2.1).2.1).1 → (i = (eU 1 (eT (eU 2 (eU 2 l).2.1).2.1).2.1).1 ∨ x' ≠ 0) → Fr w c' w' → RdS (view c' 0 w') (.slice o0 l.length p0) 1 l.length (bvs l) → view c' 3 w' a = some (.cells #[.int .i64 0, .int .i64 0, .slice none 0 0, .slice none 0 0] 34 (0, 0)) →
      view c' 4 w' y = some (.cells #[.int .i64 ((eU 2 l).1 : Nat), .int .i64 ((eU 2 (eU 2 l).2.1).1 : Nat), .slice od (eT (eU 2 (eU 2 l).2.1).2.1).1.length pd, .slice o n p] 34 (0, 0)) → OwS (view c' 5 w') (.slice od (eT (eU 2 (eU 2 l).2.1).2.1).1.length pd) 5 1 (eT (eU 2 (eU 2 l).2.1).2.1).1.length (bvs (eT (eU 2 (eU 2 l).2.1).2.1).1) →
      REye (view c' 2 w') ⟨x, 0, none⟩ (.slice o0 l.length p0) l (nT i (eU 1 (eT (eU 2 (eU 2 l).2.1).2.1).2.1).2.1).2.1 → OwS (view c' 6 w') (.slice o n p) 9 1 (nT i (eU 1 (eT (eU 2 (eU 2 l).2.1).2.1).2.1).2.1).1.length (svs (nT i (eU 1 (eT (eU 2 (eU 2 l).2.1).2.1).2.1).2.1).1) →
      (x' = 0 ↔ (eU 2 l).2.2 + (eU 2 (eU 2 l).2.1).2.2 + (eT (eU 2 (eU 2 l).2.1).2.1).2.2 + (eU 1 (eT (eU 2 (eU 2 l).2.1).2.1).2.1).2.2 = 0 ∧ (nT i (eU 1 (eT (eU 2 (eU 2 l).2.1).2.1).2.1).2.1).2.2 = 0) → ref10_ReadAnswer_K2 ⟨a, 0, none⟩ ⟨x, 0, none⟩ ⟨y, 0, none⟩ x' w' R := by
    intro i x' c' w' o n p hi hix S D b2 b5 hd he hs hx
    have m1 := nT_mono hi (eU 1 (eT (eU 2 (eU 2 l).2.1).2.1).2.1).2.1
    have m2 := nT_code i (eU 1 (eT (eU 2 (eU 2 l).2.1).2.1).2.1).2.1
    have m3 := eE_bd (nT (eU 1 (eT (eU 2 (eU 2 l).2.1).2.1).2.1).1 (eU 1 (eT (eU 2 (eU 2 l).2.1).2.1).2.1).2.1).2.1
    unfold ref10_ReadAnswer_K2
    refine BS.ne (fun hne => ?_) (fun he0 => ?_)
    · exact k3 true _ _ _ _ _ S b2 b5 hd ⟨fun h => by simp at h, fun hh => by have := (hboth.2 hh).1; exact absurd (hx.2 ⟨by omega, by omega⟩) hne⟩ (fun h => by simp at h)
    · have hik : i = (eU 1 (eT (eU 2 (eU 2 l).2.1).2.1).2.1).1 := by omega
      subst hik
      have hx := hx.1 he0
      refine REye_E he D fun w11 st11 => TInt.mk ?_
      replace S := S.go st11 (by decide) (by decide); replace D := D.mono (st11.sub (by decide)); replace b2 := st11.sub (by decide) _ _ b2; replace b5 := st11.sub (by decide) _ _ b5; replace hd := hd.mono (st11.sub (by decide)); replace hs := hs.mono (st11.sub (by decide))
      refine BS.ne (fun hne => ?_) (fun he1 => ?_)
      · exact k3 true _ _ _ _ _ S b2 b5 hd ⟨fun h => by simp at h, fun hh => by have := (hboth.2 hh).1; omega⟩ (fun h => by simp at h)
      · have h0 : (decAns l 256).2.2 = 0 := by omega
        have := hs.len.1
        subst this
        refine LoadA.all (cs := ((⟨(eU 2 l).1, (eU 2 (eU 2 l).2.1).1, (eT (eU 2 (eU 2 l).2.1).2.1).1, (nT (eU 1 (eT (eU 2 (eU 2 l).2.1).2.1).2.1).1 (eU 1 (eT (eU 2 (eU 2 l).2.1).2.1).2.1).2.1).1⟩ : AnsR).cells (.slice od (eT (eU 2 (eU 2 l).2.1).2.1).1.length pd) (.slice o (nT (eU 1 (eT (eU 2 (eU 2 l).2.1).2.1).2.1).1 (eU 1 (eT (eU 2 (eU 2 l).2.1).2.1).2.1).2.1).1.length p)).toArray) (view_sub _ _ _) b5 rfl ?_
        refine RightAnswer_c c' 0 ⟨hd.rd.mono (view_sub _ _ _), hs.rd.mono (view_sub _ _ _)⟩ fun c12 w12 st12 => TBool.mk ?_
        replace S := S.go st12 (by decide) (by decide); replace b2 := st12.sub (by decide) _ _ b2; replace b5 := st12.sub (by decide) _ _ b5; replace hd := hd.mono (st12.sub (by decide)); replace hs := hs.mono (st12.sub (by decide))
        refine k3 _ _ _ _ _ _ S b2 b5 hd ?_ (fun _ => hs)
        rw [← hboth, hfst]
        simp [h0]
  refine LoopNI.up (eU 1 (eT (eU 2 (eU 2 l).2.1).2.1).2.1).1 (fun i x' w' => ∃ c' o n p, Fr w c' w' ∧ RdS (view c' 0 w') (.slice o0 l.length p0) 1 l.length (bvs l) ∧ view c' 3 w' a = some (.cells #[.int .i64 0, .int .i64 0, .slice none 0 0, .slice none 0 0] 34 (0, 0)) ∧
      view c' 4 w' y = some (.cells #[.int .i64 ((eU 2 l).1 : Nat), .int .i64 ((eU 2 (eU 2 l).2.1).1 : Nat), .slice od (eT (eU 2 (eU 2 l).2.1).2.1).1.length pd, .slice o n p] 34 (0, 0)) ∧ OwS (view c' 5 w') (.slice od (eT (eU 2 (eU 2 l).2.1).2.1).1.length pd) 5 1 (eT (eU 2 (eU 2 l).2.1).2.1).1.length (bvs (eT (eU 2 (eU 2 l).2.1).2.1).1) ∧
      REye (view c' 2 w') ⟨x, 0, none⟩ (.slice o0 l.length p0) l (nT i (eU 1 (eT (eU 2 (eU 2 l).2.1).2.1).2.1).2.1).2.1 ∧ OwS (view c' 6 w') (.slice o n p) 9 1 (nT i (eU 1 (eT (eU 2 (eU 2 l).2.1).2.1).2.1).2.1).1.length (svs (nT i (eU 1 (eT (eU 2 (eU 2 l).2.1).2.1).2.1).2.1).1) ∧
      (x' = 0 ↔ (eU 2 l).2.2 + (eU 2 (eU 2 l).2.1).2.2 + (eT (eU 2 (eU 2 l).2.1).2.1).2.2 + (eU 1 (eT (eU 2 (eU 2 l).2.1).2.1).2.1).2.2 = 0 ∧ (nT i (eU 1 (eT (eU 2 (eU 2 l).2.1).2.1).2.1).2.1).2.2 = 0))
    ⟨c9, none, 0, 0, S, D, b2, b5, hd, he, OwS.none_strs .., by simp [nT]⟩ ?_
  rintro i x' w11 B hi ⟨c11, o, n, p, S, D, b2, b5, hd, he, hs, hx⟩ back
  refine BS.dec (fun hlt => ?_) (fun hge => k2 i _ _ _ _ _ _ hi (.inl (by omega)) S D b2 b5 hd he hs hx)
  unfold ref10_ReadAnswer_K1
  refine BS.eq (fun hz => ?_) (fun hne => k2 i _ _ _ _ _ _ hi (.inr hne) S D b2 b5 hd he hs hx)
  have hil := nT_length i (eU 1 (eT (eU 2 (eU 2 l).2.1).2.1).2.1).2.1
  refine REye_T 5 (by omega) (by omega) he D (by omega) fun v12 c12 w12 st12 he r12 => ?_
  replace S := S.go st12 (by decide) (by decide); replace D := D.mono (st12.sub (by decide)); replace b2 := st12.sub (by decide) _ _ b2; replace b5 := st12.sub (by decide) _ _ b5; replace hd := hd.mono (st12.sub (by decide)); replace hs := hs.mono (st12.sub (by decide))
  obtain ⟨o12, p12, rfl⟩ := r12.form
  (repeat (first | refine TInt.mk ?_ | refine TBool.mk ?_ | refine TStr.mk ?_ | refine TSl.mk ?_ | refine TPtr.mk ?_ | refine TAgg.mk ?_ | refine T2.mk ?_ | refine T3.mk ?_ | refine TSome.mk ?_ | refine LoadC.ad (view_sub _ _ _) _ (by assumption) rfl ?_))
  refine string_rule strU8 (r12.rd.mono (view_sub _ _ _)) (TStr.mk ?_)
  refine AllocC.col c12 7 fun z c13 w13 st13 b13 _ => ?_
  replace S := S.go st13.step (by decide) (by decide); replace D := D.mono (st13.step.sub (by decide)); replace b2 := st13.step.sub (by decide) _ _ b2; replace b5 := st13.step.sub (by decide) _ _ b5; replace hd := hd.mono (st13.step.sub (by decide)); replace hs := hs.mono (st13.step.sub (by decide)); replace he := he.mono (st13.step.sub (by decide))
  refine app_strs slStr hs (m := [(eT (nT i (eU 1 (eT (eU 2 (eU 2 l).2.1).2.1).2.1).2.1).2.1).1]) ((RdS.block (xs := svs [(eT (nT i (eU 1 (eT (eU 2 (eU 2 l).2.1).2.1).2.1).2.1).2.1).1]) b13 rfl (Nat.le_refl _)).mono (view_sub _ _ _)) (by rw [hil]; simp; omega) fun o14 p14 c14 w14 st14 hs => ?_
  replace S := S.go st14.step (by decide) (by decide); replace D := D.mono (st14.step.sub (by decide)); replace b2 := st14.step.sub (by decide) _ _ b2; replace b5 := st14.step.sub (by decide) _ _ b5; replace hd := hd.mono (st14.step.sub (by decide)); replace he := he.mono (st14.step.sub (by decide))
  (repeat (first | refine TInt.mk ?_ | refine TBool.mk ?_ | refine TStr.mk ?_ | refine TSl.mk ?_ | refine TPtr.mk ?_ | refine TAgg.mk ?_ | refine T2.mk ?_ | refine T3.mk ?_ | refine TSome.mk ?_))
  refine StoreC.ad b5 (by simp) fun w15 st15 _ b5 => ?_
  replace S := S.go st15.step (by decide) (by decide); replace D := D.mono (st15.step.sub (by decide)); replace b2 := st15.step.sub (by decide) _ _ b2; replace hd := hd.mono (st15.step.sub (by decide)); replace he := he.mono (st15.step.sub (by decide)); replace hs := hs.mono (st15.step.sub (by decide))
  rw [wrap_i64 (by omega) (by omega)]
  refine back _ _ (by omega) ⟨c14, o14, _, p14, S, D, b2, b5, hd, he, hs, ?_⟩
  have hx := hx.1 hz
  simp only [nT]
  omega
end Go.Proofs.YtdjgdcafmfheoaaDoor

/-
  Plain: operations and answers, their bytes, and what is read of bytes.
-/
import Derived.Test.YtpmpfahedbfppaaEyeX
import Derived.Test.YtpmpfahedbfppaaFrame
set_option linter.unusedVariables false
namespace Go.Vc

structure OpR where
  kind : Int
  path : List UInt8
  to : List UInt8
  off : Int
  n : Int
  data : List UInt8
  deriving DecidableEq
def OpR.cells (o : OpR) (v : Value) : List Value := [.int .i64 o.kind, sv o.path, sv o.to, .int .i64 o.off, .int .i64 o.n, v]
def OpR.zero : OpR := ⟨0, [], [], 0, 0, []⟩
def OpR.right (o : OpR) : Prop := 1 ≤ o.kind ∧ o.kind ≤ 13 ∧ o.path.length ≤ 32 ∧ o.to.length ≤ 32 ∧ 0 ≤ o.off ∧ o.off < 65536 ∧ 0 ≤ o.n ∧ o.n < 65536 ∧ o.data.length ≤ 64
instance (o : OpR) : Decidable o.right := by unfold OpR.right; infer_instance
def OpR.enc (o : OpR) : List UInt8 := be o.kind.toNat 1 ++ (be o.off.toNat 2 ++ (be o.n.toNat 2 ++ (txt o.path ++ (txt o.to ++ txt o.data))))

/-- what is read of bytes, as if all were there -/
def decOp (l : List UInt8) : OpR × List UInt8 × Int :=
  let a := eU 1 l
  let b := eU 2 a.2.1
  let c := eU 2 b.2.1
  let d := eT c.2.1
  let e := eT d.2.1
  let f := eT e.2.1
  (⟨a.1, d.1, e.1, b.1, c.1, f.1⟩, f.2.1, a.2.2 + b.2.2 + c.2.2 + d.2.2 + e.2.2 + f.2.2 + eE f.2.1)
def readOp (l : List UInt8) : Option OpR := if (decOp l).1.right ∧ (decOp l).1.enc = l then some (decOp l).1 else none

theorem OpR.dec {o : OpR} (h : o.right) : decOp o.enc = (o, [], 0) := by
  obtain ⟨h1, h2, h3, h4, h5, h6, h7, h8, h9⟩ := h
  unfold decOp OpR.enc
  have e1 : eU 1 (be o.kind.toNat 1 ++ (be o.off.toNat 2 ++ (be o.n.toNat 2 ++ (txt o.path ++ (txt o.to ++ txt o.data))))) = _ := eU_be _ _ _ (by omega)
  have e2 : eU 2 (be o.off.toNat 2 ++ (be o.n.toNat 2 ++ (txt o.path ++ (txt o.to ++ txt o.data)))) = _ := eU_be _ _ _ (by omega)
  have e3 : eU 2 (be o.n.toNat 2 ++ (txt o.path ++ (txt o.to ++ txt o.data))) = _ := eU_be _ _ _ (by omega)
  have e4 : eT (txt o.path ++ (txt o.to ++ txt o.data)) = _ := eT_txt _ _ (by omega)
  have e5 : eT (txt o.to ++ txt o.data) = _ := eT_txt _ _ (by omega)
  have e6 : eT (txt o.data ++ []) = _ := eT_txt _ _ (by omega)
  rw [List.append_nil] at e6
  simp only [e1, e2, e3, e4, e5, e6]
  have : eE [] = 0 := rfl
  rw [this]
  obtain ⟨kind, path, to, off, n, data⟩ := o
  simp only [Prod.mk.injEq, OpR.mk.injEq] at *
  refine ⟨⟨by omega, trivial, trivial, by omega, by omega, trivial⟩, trivial, by omega⟩
theorem OpR.enc_inj {o p : OpR} (ho : o.right) (hp : p.right) (h : o.enc = p.enc) : o = p := by
  have h1 := OpR.dec ho
  rw [h, OpR.dec hp] at h1
  exact (Prod.ext_iff.1 h1).1.symm
/-- the code's way and the document's way refuse the same -/
theorem dec_both (l : List UInt8) : ((decOp l).2.2 = 0 ∧ (decOp l).1.right) ↔ ((decOp l).1.right ∧ (decOp l).1.enc = l) := by
  constructor
  · rintro ⟨h, hr⟩
    refine ⟨hr, ?_⟩
    simp only [decOp] at h ⊢
    have c1 := eU_code 1 l
    have c2 := eU_code 2 (eU 1 l).2.1
    have c3 := eU_code 2 (eU 2 (eU 1 l).2.1).2.1
    have c4 := eT_code (eU 2 (eU 2 (eU 1 l).2.1).2.1).2.1
    have c5 := eT_code (eT (eU 2 (eU 2 (eU 1 l).2.1).2.1).2.1).2.1
    have c6 := eT_code (eT (eT (eU 2 (eU 2 (eU 1 l).2.1).2.1).2.1).2.1).2.1
    have c7 := eE_code (eT (eT (eT (eU 2 (eU 2 (eU 1 l).2.1).2.1).2.1).2.1).2.1).2.1
    have k1 := (eU_ok (n := 1) (l := l) (by omega)).1
    have k2 := (eU_ok (n := 2) (l := (eU 1 l).2.1) (by omega)).1
    have k3 := (eU_ok (n := 2) (l := (eU 2 (eU 1 l).2.1).2.1) (by omega)).1
    have k4 := (eT_ok (l := (eU 2 (eU 2 (eU 1 l).2.1).2.1).2.1) (by omega)).1
    have k5 := (eT_ok (l := (eT (eU 2 (eU 2 (eU 1 l).2.1).2.1).2.1).2.1) (by omega)).1
    have k6 := (eT_ok (l := (eT (eT (eU 2 (eU 2 (eU 1 l).2.1).2.1).2.1).2.1).2.1) (by omega)).1
    have k7 := eE_ok (l := (eT (eT (eT (eU 2 (eU 2 (eU 1 l).2.1).2.1).2.1).2.1).2.1).2.1) (by omega)
    rw [k7, List.append_nil] at k6
    unfold OpR.enc
    simp only [Int.toNat_natCast]
    rw [← k6, ← k5, ← k4, ← k3, ← k2, ← k1]
  · rintro ⟨hr, he⟩
    refine ⟨?_, hr⟩
    have := OpR.dec hr
    rw [he] at this
    rw [this]
theorem OpR.read {o : OpR} (h : o.right) : readOp o.enc = some o := by
  unfold readOp
  rw [OpR.dec h, if_pos ⟨h, rfl⟩]
def wrOp (o : OpR) : List UInt8 × Int := if o.right then (o.enc, 0) else ([], 1)
def rdOp (l : List UInt8) : OpR × Int := match readOp l with | some o => (o, 0) | none => (OpR.zero, 22)
theorem rdOp_yes {l : List UInt8} (h : (decOp l).1.right ∧ (decOp l).1.enc = l) : rdOp l = ((decOp l).1, 0) := by unfold rdOp readOp; rw [if_pos h]
theorem rdOp_no {l : List UInt8} (h : ¬ ((decOp l).1.right ∧ (decOp l).1.enc = l)) : rdOp l = (OpR.zero, 22) := by unfold rdOp readOp; rw [if_neg h]
theorem OpR.enc_len {o : OpR} (h : o.right) : o.enc.length ≤ 1000 := by
  obtain ⟨h1, h2, h3, h4, h5, h6, h7, h8, h9⟩ := h
  unfold OpR.enc; simp; omega
end Go.Vc

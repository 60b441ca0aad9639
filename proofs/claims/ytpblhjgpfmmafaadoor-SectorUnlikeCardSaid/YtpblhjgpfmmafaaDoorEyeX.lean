/-
  What an eye answers, as plain functions of the bytes ahead; the code's eye and the document's.
-/
import Derived.Test.YtpblhjgpfmmafaaDoorRef02
import Derived.Test.YtpblhjgpfmmafaaDoorFrame
set_option linter.unusedVariables false
namespace Go.Vc

def txt (l : List UInt8) : List UInt8 := be l.length 2 ++ l
@[simp] theorem txt_length (l : List UInt8) : (txt l).length = 2 + l.length := by simp [txt]
/-- a number of n bytes: the number, what is ahead then, the error's number -/
def eU (n : Nat) (l : List UInt8) : Nat × List UInt8 × Int := if n ≤ l.length then (num (l.take n), l.drop n, 0) else (0, l, 20)
/-- a text -/
def eT (l : List UInt8) : List UInt8 × List UInt8 × Int := if 2 ≤ l.length ∧ num (l.take 2) ≤ l.length - 2 then ((l.drop 2).take (num (l.take 2)), (l.drop 2).drop (num (l.take 2)), 0) else ([], l, 20)
def eE (l : List UInt8) : Int := if l = [] then 0 else 21

theorem eU_be (n v : Nat) (r : List UInt8) (h : v < 256 ^ n) : eU n (be v n ++ r) = (v, r, 0) := by
  unfold eU
  have h1 : (be v n ++ r).take n = be v n := by
    have := List.take_left (l₁ := be v n) (l₂ := r); rwa [be_length] at this
  have h2 : (be v n ++ r).drop n = r := by
    have := List.drop_left (l₁ := be v n) (l₂ := r); rwa [be_length] at this
  rw [if_pos (by simp), h1, h2, num_be, Nat.mod_eq_of_lt h]
theorem eT_txt (t r : List UInt8) (h : t.length < 65536) : eT (txt t ++ r) = (t, r, 0) := by
  have h1 : (txt t ++ r).take 2 = be t.length 2 := by
    unfold txt
    have := List.take_left (l₁ := be t.length 2) (l₂ := t ++ r)
    rw [be_length] at this; rw [List.append_assoc]; exact this
  have h2 : (txt t ++ r).drop 2 = t ++ r := by
    unfold txt
    have := List.drop_left (l₁ := be t.length 2) (l₂ := t ++ r)
    rw [be_length] at this; rw [List.append_assoc]; exact this
  unfold eT
  rw [h1, h2, num_be, Nat.mod_eq_of_lt (by omega), if_pos (by simp; omega), List.take_left, List.drop_left]
theorem eU_ok {n : Nat} {l : List UInt8} (h : (eU n l).2.2 = 0) : l = be (eU n l).1 n ++ (eU n l).2.1 ∧ (eU n l).1 < 256 ^ n := by
  unfold eU at h ⊢
  split at h
  · rename_i hn
    rw [if_pos hn]
    have hl : (l.take n).length = n := by rw [List.length_take]; omega
    have hb := be_num (l.take n)
    have hlt := num_lt (l.take n)
    rw [hl] at hb hlt
    refine ⟨?_, hlt⟩
    show l = be (num (l.take n)) n ++ l.drop n
    rw [hb, List.take_append_drop]
  · simp at h
theorem eT_ok {l : List UInt8} (h : (eT l).2.2 = 0) : l = txt (eT l).1 ++ (eT l).2.1 ∧ (eT l).1.length < 65536 := by
  unfold eT at h ⊢
  split at h
  · rename_i hn
    rw [if_pos hn]
    have hl : (l.take 2).length = 2 := by rw [List.length_take]; omega
    have hb := be_num (l.take 2)
    have hlt := num_lt (l.take 2)
    rw [hl] at hb hlt
    have hl2 : ((l.drop 2).take (num (l.take 2))).length = num (l.take 2) := by rw [List.length_take, List.length_drop]; omega
    refine ⟨?_, by show List.length _ < _; rw [hl2]; exact hlt⟩
    show l = txt ((l.drop 2).take (num (l.take 2))) ++ (l.drop 2).drop (num (l.take 2))
    unfold txt
    rw [hl2, hb, List.append_assoc, List.take_append_drop, List.take_append_drop]
  · simp at h
theorem eU_code (n : Nat) (l : List UInt8) : (eU n l).2.2 = 0 ∨ (eU n l).2.2 = 20 := by unfold eU; split <;> simp
theorem eT_code (l : List UInt8) : (eT l).2.2 = 0 ∨ (eT l).2.2 = 20 := by unfold eT; split <;> simp
theorem eE_code (l : List UInt8) : eE l = 0 ∨ eE l = 21 := by unfold eE; split <;> simp
theorem eU_bd (n : Nat) (l : List UInt8) : 0 ≤ (eU n l).2.2 ∧ (eU n l).2.2 ≤ 21 := by have := eU_code n l; omega
theorem eT_bd (l : List UInt8) : 0 ≤ (eT l).2.2 ∧ (eT l).2.2 ≤ 21 := by have := eT_code l; omega
theorem eE_bd (l : List UInt8) : 0 ≤ eE l ∧ eE l ≤ 21 := by have := eE_code l; omega
theorem eE_ok {l : List UInt8} (h : eE l = 0) : l = [] := by unfold eE at h; split at h; assumption; simp at h
theorem eU_len (n : Nat) (l : List UInt8) : (eU n l).2.1.length ≤ l.length := by unfold eU; split <;> simp
theorem eT_len (l : List UInt8) : (eT l).2.1.length ≤ l.length ∧ (eT l).1.length ≤ l.length := by
  unfold eT; split
  · simp; omega
  · simp
theorem eT_short (l : List UInt8) : (eT l).1.length < 65536 := by
  rcases eT_code l with h | h
  · exact (eT_ok h).2
  · unfold eT at h ⊢; split <;> simp_all
theorem eU_lt (n : Nat) (l : List UInt8) : (eU n l).1 < 256 ^ n := by
  rcases eU_code n l with h | h
  · exact (eU_ok h).2
  · unfold eU at h ⊢; split
    · simp_all
    · exact Nat.pow_pos (by omega)
end Go.Vc

namespace Go.Proofs.YtpblhjgpfmmafaaDoor
open Go.Vc
attribute [local irreducible] TInt TBool TStr TPtr TSl TAgg TMap TChan T2 T3 T4 BS Req TSome TCell TByte LoadC LoadA StoreC AllocC RunV RunU CallV ExtV EqA StableC StableA StableV TCells ReadV

theorem Pen_U {c : Nat → Nat} {i : Nat} {w : World} {a : Addr} {l : List UInt8} {n s : Int} {R : Value → World → Prop} (hp : PenV (view c i w) a l) (v k : Nat) (hn : n = v) (hs : s = k) (h1 : 1 ≤ k) (h8 : k ≤ 8) (hv : v < 256 ^ k) (hm : l.length ≤ 70368744177664)
    (h : ∀ c' w', Step c [i] [i] w c' w' → PenV (view c' i w') a (l ++ be v k) → R (.int .i64 0) w') : CallV Tryd.prog 34 #[.pointer (some a), .int .u64 n, .int .i64 s] w R := by
  subst hn hs
  have h2 : 256 ^ k ≤ 256 ^ 8 := Nat.pow_le_pow_right (by omega) h8
  refine Pen_Uint hp (by omega) (by omega) (fun hb => absurd ⟨by omega, by omega, by simpa using hv⟩ hb) (fun _ c1 w1 st hp => h c1 w1 st (by simpa using hp))
theorem Eye_U {c : Nat → Nat} {i : Nat} {w : World} {a : Addr} {l : List UInt8} {n : Int} {R : Value → World → Prop}
    (hp : EyeV (view c i w) a l) (j : Nat) (hij : j ≠ i) (hm : l.length ≤ 140737488355328) (k : Nat) (hn : n = k) (h1 : 1 ≤ k) (h8 : k ≤ 8)
    (h : ∀ c' w', Step c [i] [j] w c' w' → EyeV (view c' i w') a (eU k l).2.1 → R (.tuple #[.int .u64 ((eU k l).1 : Nat), .int .i64 (eU k l).2.2]) w') :
    CallV Tryd.prog 38 #[.pointer (some a), .int .i64 n] w R := by
  subst hn
  refine Eye_Uint hp j hm (fun hb => absurd ⟨by omega, by omega⟩ hb) (fun _ _ hs => ?_) (fun _ _ hs c1 w1 st _ he => ?_)
  · have := h c w (.refl ..)
    unfold eU at this
    rw [if_neg (by omega)] at this
    exact this hp
  · have := h c1 w1 st
    unfold eU at this
    rw [if_pos (by omega)] at this
    rw [Int.toNat_natCast] at *
    exact this he
end Go.Proofs.YtpblhjgpfmmafaaDoor

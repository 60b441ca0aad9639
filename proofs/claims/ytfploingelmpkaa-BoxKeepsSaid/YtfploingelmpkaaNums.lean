/-
  Plain: numbers in bytes, the great one first.
-/
import Derived.Test.YtfploingelmpkaaHp
namespace Go.Vc
open Go

def byteAt (n k : Nat) : UInt8 := UInt8.ofNat (n / 256 ^ k)
/-- the k low bytes of n, the great one first -/
def be (n : Nat) : Nat → List UInt8
  | 0 => []
  | k + 1 => byteAt n k :: be n k
@[simp] theorem be_length (n k : Nat) : (be n k).length = k := by
  induction k with
  | zero => rfl
  | succ k ih => simp [be, ih]
def num (l : List UInt8) : Nat := l.foldl (fun a x => a * 256 + x.toNat) 0
theorem num_snoc (l : List UInt8) (x : UInt8) : num (l ++ [x]) = num l * 256 + x.toNat := by simp [num]
theorem foldl_num (l : List UInt8) : ∀ a : Nat, l.foldl (fun a x => a * 256 + x.toNat) a = a * 256 ^ l.length + num l := by
  induction l with
  | nil => intro a; simp [num]
  | cons x l ih =>
    intro a
    simp only [List.foldl_cons, List.length_cons, num]
    rw [ih, ih (0 * 256 + x.toNat), Nat.pow_succ]
    simp only [Nat.zero_mul, Nat.zero_add, Nat.add_mul, Nat.mul_assoc, Nat.mul_comm 256, Nat.add_assoc]
theorem num_cons (x : UInt8) (l : List UInt8) : num (x :: l) = x.toNat * 256 ^ l.length + num l := by
  show (x :: l).foldl (fun a x => a * 256 + x.toNat) 0 = _
  simp only [List.foldl_cons]
  rw [foldl_num]; simp
theorem num_lt (l : List UInt8) : num l < 256 ^ l.length := by
  induction l with
  | nil => simp [num]
  | cons x l ih =>
    rw [num_cons, List.length_cons, Nat.pow_succ]
    have hx : x.toNat ≤ 255 := by have := x.toNat_lt; omega
    have := Nat.mul_le_mul_right (256 ^ l.length) hx
    omega
theorem byteAt_toNat (n k : Nat) : (byteAt n k).toNat = n / 256 ^ k % 256 := by simp [byteAt]
theorem num_be (n k : Nat) : num (be n k) = n % 256 ^ k := by
  induction k with
  | zero => simp [be, num, Nat.mod_one]
  | succ k ih =>
    rw [be, num_cons, be_length, ih, byteAt_toNat]
    have h1 : n % 256 ^ (k + 1) = n % 256 ^ k + 256 ^ k * (n / 256 ^ k % 256) := by
      rw [Nat.pow_succ, Nat.mod_mul]
    rw [h1, Nat.mul_comm]; omega
theorem be_mod (n k : Nat) : be (n % 256 ^ k) k = be n k := by
  have key : ∀ j, j ≤ k → be (n % 256 ^ k) j = be n j := by
    intro j
    induction j with
    | zero => intro _; rfl
    | succ j ih =>
      intro hj
      rw [be, be, ih (by omega)]
      congr 1
      have : (byteAt (n % 256 ^ k) j).toNat = (byteAt n j).toNat := by
        rw [byteAt_toNat, byteAt_toNat]
        have e : 256 ^ k = 256 ^ j * 256 ^ (k - j) := by rw [← Nat.pow_add]; congr 1; omega
        rw [e, Nat.mod_mul_right_div_self]
        have e2 : 256 ^ (k - j) = 256 * 256 ^ (k - j - 1) := by rw [← Nat.pow_succ']; congr 1; omega
        rw [e2, Nat.mod_mul_right_mod]
      exact UInt8.toNat_inj.1 this
  exact key k (Nat.le_refl _)
theorem be_num (l : List UInt8) : be (num l) l.length = l := by
  induction l with
  | nil => rfl
  | cons x l ih =>
    have hlt := num_lt l
    rw [List.length_cons, be]
    have h1 : be (num (x :: l)) l.length = l := by
      rw [← be_mod, num_cons, Nat.mul_comm, Nat.mul_add_mod, Nat.mod_eq_of_lt hlt, ih]
    rw [h1]
    congr 1
    have : (byteAt (num (x :: l)) l.length).toNat = x.toNat := by
      rw [byteAt_toNat, num_cons, Nat.mul_comm, Nat.mul_add_div (Nat.pow_pos (by omega)), Nat.div_eq_of_lt hlt]
      have := x.toNat_lt; omega
    exact UInt8.toNat_inj.1 this
theorem be_inj {n m k : Nat} (hn : n < 256 ^ k) (hm : m < 256 ^ k) (h : be n k = be m k) : n = m := by
  have := congrArg num h
  rwa [num_be, num_be, Nat.mod_eq_of_lt hn, Nat.mod_eq_of_lt hm] at this
theorem num_inj {l m : List UInt8} (hl : l.length = m.length) (h : num l = num m) : l = m := by
  rw [← be_num l, ← be_num m, h, hl]

theorem pow_256 (k : Nat) : 256 ^ k = 2 ^ (8 * k) := by rw [Nat.pow_mul]
theorem shr_u64 {n s : Int} (hn : 0 ≤ n) (hs : 0 ≤ s) (h64 : s ≤ 64) : shrV .u64 n s = ((n.toNat / 2 ^ s.toNat : Nat) : Int) := by
  have hm : min s.toNat (IntKind.bits .u64) = s.toNat := by simp only [IntKind.bits]; omega
  unfold shrV
  rw [hm]
  generalize s.toNat = k
  have hp : (0 : Int) ≤ 2 ^ k := Int.le_of_lt (Int.pow_pos (by omega))
  rw [Int.fdiv_eq_ediv_of_nonneg _ hp, Int.natCast_ediv, Int.toNat_of_nonneg hn, Int.natCast_pow]
  rfl
theorem byte_of {n : Int} {k : Nat} (hn : 0 ≤ n) (hk : k ≤ 8) : IntKind.wrap .u8 (shrV .u64 n (8 * (k : Int))) = ((byteAt n.toNat k).toNat : Int) := by
  rw [shr_u64 hn (by omega) (by omega), byteAt_toNat, wrap_u8_mod]
  have : ((8 * (k : Int)).toNat) = 8 * k := by omega
  rw [this, ← pow_256]
  generalize n.toNat / 256 ^ k = q
  omega
theorem bv_byte (n k : Nat) : Value.int .u8 ((byteAt n k).toNat : Int) = bv (byteAt n k) := rfl
theorem be_get (n k m : Nat) (h : m < k) : (be n k)[m]? = some (byteAt n (k - 1 - m)) := by
  induction k generalizing m with
  | zero => omega
  | succ k ih =>
    cases m with
    | zero => simp [be]
    | succ m =>
      rw [be, List.getElem?_cons_succ, ih m (by omega)]
      congr 2; omega
theorem be_take (n k m : Nat) (h : m < k) : (be n k).take (m + 1) = (be n k).take m ++ [byteAt n (k - 1 - m)] := by
  rw [List.take_add_one, be_get n k m h]; rfl
theorem wrap_i64_nat (n : Nat) (h : n < 9223372036854775808) : IntKind.wrap .i64 (n : Int) = n := wrap_i64 (by omega) (by omega)
/-- and with a mask -/
theorem and_mask (n : Int) (m : Nat) (hm : m < 9223372036854775808) : ∃ k : Nat, bitsV .and .i64 n m = k ∧ k ≤ m := by
  refine ⟨((BitVec.ofInt 64 n).toNat &&& m), ?_, Nat.and_le_right⟩
  show IntKind.wrap .i64 ((BitVec.ofInt 64 n &&& BitVec.ofInt 64 (m : Int) : BitVec 64).toNat : Int) = _
  rw [BitVec.toNat_and, BitVec.ofInt_natCast, BitVec.toNat_ofNat, Nat.mod_eq_of_lt (by omega)]
  have := Nat.and_le_right (n := (BitVec.ofInt 64 n).toNat) (m := m)
  exact wrap_i64_nat _ (by omega)
end Go.Vc

/-
  Plain: marks, leaves and inner nodes.
-/
import Derived.Test.YthkboikbpbcdeaaLists
import Derived.Test.YthkboikbpbcdeaaNums
set_option linter.unusedVariables false
set_option linter.unusedSimpArgs false
namespace Go.Vc

def fnvStep (h : Nat) (b : UInt8) : Nat := (h ^^^ b.toNat) * 16777619 % 4294967296
def fnv (key : List UInt8) : Nat := key.foldl fnvStep 2166136261
theorem fnvStep_lt (h : Nat) (b : UInt8) : fnvStep h b < 4294967296 := Nat.mod_lt _ (by omega)
theorem fnv_snoc (l : List UInt8) (x : UInt8) : fnv (l ++ [x]) = fnvStep (fnv l) x := by unfold fnv; rw [List.foldl_append, List.foldl_cons, List.foldl_nil]
theorem fnv_lt (key : List UInt8) : fnv key < 4294967296 := by
  rcases List.eq_nil_or_concat key with rfl | ⟨l, x, rfl⟩
  · unfold fnv; rw [List.foldl_nil]; omega
  · rw [List.concat_eq_append, fnv_snoc]; exact fnvStep_lt _ _
def gmark (key : List UInt8) (level : Int) : Bool := decide (0 ≤ level ∧ level < 16) && decide (fnv key / 4 ^ level.toNat % 4 = 0)

def own (p : PairR) : Nat := 4 + p.1.length + p.2.length
/-- the leaves of what comes, behind a leaf of c pairs and s bytes -/
def lv (c s : Nat) : List PairR → List Nat
  | [] => if c > 0 then [c] else []
  | p :: ps =>
    if c > 0 ∧ s + own p > 200 then c :: (if gmark p.1 0 then 1 :: lv 0 0 ps else lv 1 (own p) ps)
    else if gmark p.1 0 then (c + 1) :: lv 0 0 ps else lv (c + 1) (s + own p) ps
def leaves (ps : List PairR) : List Nat := if ps = [] then [0] else lv 0 0 ps
theorem lv_pos (c s : Nat) (ps : List PairR) (hc : 0 < c) : lv c s ps ≠ [] := by
  induction ps generalizing c s with
  | nil => simp [lv, hc]
  | cons p ps ih =>
    rw [lv]
    split
    · simp
    · split
      · simp
      · exact ih _ _ (by omega)
theorem lv_ne (ps : List PairR) (h : ps ≠ []) : lv 0 0 ps ≠ [] := by
  cases ps with
  | nil => exact absurd rfl h
  | cons p ps =>
    rw [lv, if_neg (by omega)]
    split
    · simp
    · exact lv_pos _ _ _ (by omega)
def osum (ps : List PairR) : Nat := (ps.map own).sum
/-- the first leaf, and what comes behind it -/
theorem lv_cons {c s : Nat} {ps : List PairR} {x : Nat} {r : List Nat} (h : lv c s ps = x :: r) (h0 : c = 0 → s = 0) (h1 : c ≤ 1 ∨ s ≤ 200) :
    c ≤ x ∧ 1 ≤ x ∧ x - c ≤ ps.length ∧ r = lv 0 0 (ps.drop (x - c)) ∧ (x ≤ 1 ∨ s + osum (ps.take (x - c)) ≤ 200) := by
  induction ps generalizing c s with
  | nil =>
    rw [lv] at h
    split at h
    · simp only [List.cons.injEq] at h
      obtain ⟨rfl, rfl⟩ := h
      refine ⟨by omega, by omega, by simp, by simp [lv], ?_⟩
      simp [osum]; omega
    · simp at h
  | cons p ps ih =>
    rw [lv] at h
    split at h
    · rename_i hc
      simp only [List.cons.injEq] at h
      obtain ⟨rfl, rfl⟩ := h
      refine ⟨by omega, by omega, by simp, ?_, ?_⟩
      · rw [Nat.sub_self, List.drop_zero]; simp [lv]
      · simp [osum]; omega
    · rename_i hc
      split at h
      · simp only [List.cons.injEq] at h
        obtain ⟨rfl, rfl⟩ := h
        refine ⟨by omega, by omega, by simp, ?_, ?_⟩
        · rw [show c + 1 - c = 1 by omega]; simp
        · rw [show c + 1 - c = 1 by omega]; simp [osum]; omega
      · have := ih h (by omega) (by omega)
        obtain ⟨a1, a2, a3, a4, a5⟩ := this
        have e : x - c = (x - (c + 1)) + 1 := by omega
        refine ⟨by omega, a2, by rw [e, List.length_cons]; omega, ?_, ?_⟩
        · rw [e, List.drop_succ_cons]; exact a4
        · rw [e, List.take_succ_cons]
          rcases a5 with a5 | a5
          · left; exact a5
          · right; simp only [osum, List.map_cons, List.sum_cons] at a5 ⊢; omega
theorem lv_drop (ps : List PairR) (n : Nat) (hn : n ≤ (lv 0 0 ps).length) : ((lv 0 0 ps).take n).sum ≤ ps.length ∧ (lv 0 0 ps).drop n = lv 0 0 (ps.drop ((lv 0 0 ps).take n).sum) := by
  induction n generalizing ps with
  | zero => simp
  | succ n ih =>
    cases hL : lv 0 0 ps with
    | nil => rw [hL] at hn; simp at hn
    | cons x r =>
      obtain ⟨a1, a2, a3, a4, a5⟩ := lv_cons hL (by omega) (by omega)
      rw [Nat.sub_zero] at a3 a4
      rw [hL] at hn
      have := ih (ps.drop x) (by rw [← a4]; simpa using hn)
      rw [← a4] at this
      rw [List.take_succ_cons, List.drop_succ_cons, List.sum_cons]
      refine ⟨?_, ?_⟩
      · have h1 := this.1; rw [List.length_drop] at h1; omega
      · rw [this.2, List.drop_drop]
theorem lv_sum (ps : List PairR) : (lv 0 0 ps).sum = ps.length := by
  have := lv_drop ps (lv 0 0 ps).length (Nat.le_refl _)
  rw [List.take_length, List.drop_length] at this
  rcases Nat.lt_or_ge (lv 0 0 ps).sum ps.length with h | h
  · exact absurd this.2.symm (lv_ne _ (by intro e; have := congrArg List.length e; rw [List.length_drop, List.length_nil] at this; omega))
  · omega

/-- inner nodes, behind a node of c kids -/
def inn (level : Int) (c : Nat) : List (List UInt8) → List Nat
  | [] => if c > 0 then [c] else []
  | k :: ks => if c + 1 = 4 ∨ (c + 1 ≥ 2 ∧ gmark k level = true) then (c + 1) :: inn level 0 ks else inn level (c + 1) ks
theorem inn_facts (level : Int) (c : Nat) (ks : List (List UInt8)) (hc : c < 4) : (∀ n ∈ inn level c ks, 1 ≤ n ∧ n ≤ 4) ∧ (inn level c ks).sum = ks.length + c ∧ 2 * (inn level c ks).length ≤ ks.length + c + 1 := by
  induction ks generalizing c with
  | nil =>
    rw [inn]
    split
    · simp; omega
    · simp; omega
  | cons k ks ih =>
    rw [inn]
    split
    · obtain ⟨a, b, d⟩ := ih 0 (by omega)
      refine ⟨?_, ?_, ?_⟩
      · intro n hn
        simp only [List.mem_cons] at hn
        rcases hn with rfl | hn
        · omega
        · exact a n hn
      · simp only [List.sum_cons, b, List.length_cons]; omega
      · simp only [List.length_cons]; omega
    · rename_i hn
      obtain ⟨a, b, d⟩ := ih (c + 1) (by omega)
      refine ⟨a, ?_, ?_⟩
      · rw [b, List.length_cons]; omega
      · rw [List.length_cons]; omega

theorem wrap_u32_nat (n : Nat) : IntKind.wrap .u32 (n : Int) = ((n % 4294967296 : Nat) : Int) := by rw [wrap_u32_mod]; omega
theorem xor_u32 {a b : Nat} (ha : a < 4294967296) (hb : b < 4294967296) : bitsV .xor .u32 (a : Int) (b : Int) = ((a ^^^ b : Nat) : Int) := by
  have hx : a ^^^ b < 2 ^ 32 := Nat.xor_lt_two_pow ha hb
  show IntKind.wrap .u32 ((BitVec.ofInt 32 (a : Int) ^^^ BitVec.ofInt 32 (b : Int) : BitVec 32).toNat : Int) = _
  rw [BitVec.toNat_xor, BitVec.ofInt_natCast, BitVec.ofInt_natCast, BitVec.toNat_ofNat, BitVec.toNat_ofNat, Nat.mod_eq_of_lt (by omega), Nat.mod_eq_of_lt (by omega), wrap_u32_nat, Nat.mod_eq_of_lt (by omega)]
theorem xor_u64 {a b : Nat} (ha : a < 4294967296) (hb : b < 4294967296) : bitsV .xor .u64 (a : Int) (b : Int) = ((a ^^^ b : Nat) : Int) := by
  have hx : a ^^^ b < 2 ^ 32 := Nat.xor_lt_two_pow ha hb
  show IntKind.wrap .u64 ((BitVec.ofInt 64 (a : Int) ^^^ BitVec.ofInt 64 (b : Int) : BitVec 64).toNat : Int) = _
  rw [BitVec.toNat_xor, BitVec.ofInt_natCast, BitVec.ofInt_natCast, BitVec.toNat_ofNat, BitVec.toNat_ofNat, Nat.mod_eq_of_lt (by omega), Nat.mod_eq_of_lt (by omega), wrap_u64 (by omega) (by omega)]
theorem shr_u32 {n s : Nat} (h : s ≤ 32) : shrV .u32 (n : Int) (s : Int) = ((n / 2 ^ s : Nat) : Int) := by
  unfold shrV
  have hm : min (s : Int).toNat (IntKind.bits .u32) = s := by simp only [IntKind.bits]; omega
  rw [hm, Int.fdiv_eq_ediv_of_nonneg _ (Int.le_of_lt (Int.pow_pos (by omega))), Int.natCast_ediv, Int.natCast_pow]; rfl
theorem and3_u32 {n : Nat} (h : n < 4294967296) : bitsV .and .u32 (n : Int) 3 = ((n % 4 : Nat) : Int) := by
  show IntKind.wrap .u32 ((BitVec.ofInt 32 (n : Int) &&& BitVec.ofInt 32 ((3 : Nat) : Int) : BitVec 32).toNat : Int) = _
  rw [BitVec.toNat_and, BitVec.ofInt_natCast, BitVec.ofInt_natCast, BitVec.toNat_ofNat, BitVec.toNat_ofNat, Nat.mod_eq_of_lt (by omega), Nat.mod_eq_of_lt (by omega)]
  have : n &&& 3 = n % 4 := Nat.and_two_pow_sub_one_eq_mod n 2
  rw [this, wrap_u32_nat, Nat.mod_eq_of_lt (by omega)]
end Go.Vc

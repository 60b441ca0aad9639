/-
  Plain: what stands in sectors.
-/
import Derived.Test.YtpblhjgpfmmafaaDoorShaD
import Derived.Test.YtpblhjgpfmmafaaDoorEyeX
set_option linter.unusedVariables false
set_option linter.unusedSimpArgs false
namespace Go.Vc
open Go

def pad512 (l : List UInt8) : List UInt8 := l ++ List.replicate (512 - l.length) 0
theorem pad512_len {l : List UInt8} (h : l.length ≤ 512) : (pad512 l).length = 512 := by simp [pad512]; omega

/-! blocks -/
def wrapB (l : List UInt8) : List UInt8 := pad512 (66 :: be l.length 2 ++ l)
theorem wrapB_len {l : List UInt8} (h : l.length ≤ 470) : (wrapB l).length = 512 := pad512_len (by simp; omega)
def wrP (l : List UInt8) : List UInt8 × Int := if l.length ≤ 470 then (wrapB l, 0) else ([], 23)
/-- n bytes -/
def eR (n : Nat) (l : List UInt8) : List UInt8 × List UInt8 × Int := if n ≤ l.length then (l.take n, l.drop n, 0) else ([], l, 20)
def unR (l : List UInt8) : List UInt8 × List UInt8 × Int := eR (eU 2 (eU 1 l).2.1).1 (eU 2 (eU 1 l).2.1).2.1
def unP (l : List UInt8) : List UInt8 × Int := if (unR l).2.2 = 0 ∧ (unR l).1.length ≤ 470 ∧ wrapB (unR l).1 = l then ((unR l).1, 0) else ([], 22)
def lenW (l : List UInt8) : Nat := num ((l.drop 1).take 2)
/-- the document's way of accepting -/
def okU (l : List UInt8) : Prop := l.length = 512 ∧ l[0]? = some 66 ∧ lenW l ≤ 470 ∧ ∀ i, 3 + lenW l ≤ i → i < 512 → l[i]? = some 0
theorem eR_code (n : Nat) (l : List UInt8) : (eR n l).2.2 = 0 ∨ (eR n l).2.2 = 20 := by unfold eR; split <;> simp
theorem take_be (n k : Nat) (r : List UInt8) : (be n k ++ r).take k = be n k := by
  have := List.take_left (l₁ := be n k) (l₂ := r); rwa [be_length] at this
theorem drop_be (n k : Nat) (r : List UInt8) : (be n k ++ r).drop k = r := by
  have := List.drop_left (l₁ := be n k) (l₂ := r); rwa [be_length] at this
theorem take_cat {x y : List UInt8} {n m : Nat} (h : x.length = n) : (x ++ y).take (n + m) = x ++ y.take m := by
  subst h; rw [List.take_append, List.take_of_length_le (by omega), Nat.add_sub_cancel_left]
theorem take_l {x y : List UInt8} {n : Nat} (h : x.length = n) : (x ++ y).take n = x := by
  subst h; exact List.take_left
theorem eU_one (x : UInt8) (r : List UInt8) : eU 1 (x :: r) = (x.toNat, r, 0) := by
  unfold eU; simp [num]
theorem wrap_parts {b : List UInt8} (h : b.length ≤ 470) : (wrapB b).length = 512 ∧ (wrapB b)[0]? = some 66 ∧ lenW (wrapB b) = b.length ∧ ((wrapB b).drop 3).take b.length = b ∧ ∀ i, 3 + b.length ≤ i → i < 512 → (wrapB b)[i]? = some 0 := by
  have e : wrapB b = 66 :: (be b.length 2 ++ (b ++ List.replicate (509 - b.length) 0)) := by
    unfold wrapB pad512
    have : 512 - (66 :: be b.length 2 ++ b).length = 509 - b.length := by simp; omega
    rw [this]; simp
  refine ⟨wrapB_len h, by rw [e]; rfl, ?_, ?_, ?_⟩
  · unfold lenW
    rw [e, List.drop_succ_cons, List.drop_zero, take_be, num_be]
    omega
  · rw [e]
    have : (66 :: (be b.length 2 ++ (b ++ List.replicate (509 - b.length) 0)) : List UInt8).drop 3 = b ++ List.replicate (509 - b.length) 0 := by
      rw [List.drop_succ_cons, drop_be]
    rw [this, List.take_left]
  · intro i h1 h2
    rw [e, show (66 :: (be b.length 2 ++ (b ++ List.replicate (509 - b.length) 0)) : List UInt8) = (66 :: be b.length 2 ++ b) ++ List.replicate (509 - b.length) 0 by simp]
    rw [List.getElem?_append_right (by simp; omega), List.getElem?_replicate, if_pos (by simp; omega)]
theorem ext_512 {l m : List UInt8} (hl : l.length = 512) (hm : m.length = 512) (h : ∀ i, i < 512 → l[i]? = m[i]?) : l = m := by
  apply List.ext_getElem?
  intro i
  rcases Nat.lt_or_ge i 512 with hi | hi
  · exact h i hi
  · rw [List.getElem?_eq_none (by omega), List.getElem?_eq_none (by omega)]
theorem unP_yes {l : List UInt8} (h : okU l) : unP l = ((l.drop 3).take (lenW l), 0) := by
  obtain ⟨h1, h2, h3, h4⟩ := h
  obtain ⟨x1, x2, r, rfl⟩ : ∃ x1 x2 r, l = 66 :: x1 :: x2 :: r := by
    match l, h1, h2 with
    | x0 :: x1 :: x2 :: r, _, h2 => exact ⟨x1, x2, r, by simpa using h2⟩
  have hr : r.length = 509 := by simpa using h1
  have e0 : (eU 1 (66 :: x1 :: x2 :: r)).2.1 = x1 :: x2 :: r := by unfold eU; simp
  have e1 : eU 2 (x1 :: x2 :: r) = (num [x1, x2], r, 0) := by unfold eU; simp
  have hn : lenW (66 :: x1 :: x2 :: r) = num [x1, x2] := by unfold lenW; simp
  have e2 : unR (66 :: x1 :: x2 :: r) = (r.take (num [x1, x2]), r.drop (num [x1, x2]), 0) := by
    unfold unR
    rw [e0, e1]
    show eR (num [x1, x2]) r = _
    unfold eR
    rw [if_pos (by omega)]
  rw [hn] at h3 h4 ⊢
  have hb : (r.take (num [x1, x2])).length = num [x1, x2] := by rw [List.length_take]; omega
  have hw : wrapB (r.take (num [x1, x2])) = 66 :: x1 :: x2 :: r := by
    obtain ⟨p1, p2, p3, p4, p5⟩ := wrap_parts (b := r.take (num [x1, x2])) (by omega)
    rw [hb] at p4 p5
    refine ext_512 p1 h1 fun i hi => ?_
    rcases Nat.lt_or_ge i (3 + num [x1, x2]) with hlt | hge
    · have e : wrapB (r.take (num [x1, x2])) = (66 :: be (num [x1, x2]) 2 ++ r.take (num [x1, x2])) ++ List.replicate (512 - (66 :: be (num [x1, x2]) 2 ++ r.take (num [x1, x2])).length) 0 := by
        unfold wrapB pad512; rw [hb]
      have hbe : be (num [x1, x2]) 2 = [x1, x2] := be_num [x1, x2]
      rw [e, List.getElem?_append_left (by simp; omega), hbe]
      rw [show (66 :: [x1, x2] ++ r.take (num [x1, x2]) : List UInt8) = (66 :: x1 :: x2 :: r).take (3 + num [x1, x2]) by rw [Nat.add_comm]; rfl, List.getElem?_take, if_pos hlt]
    · rw [p5 i hge hi, h4 i hge hi]
  unfold unP
  rw [e2]
  rw [if_pos ⟨rfl, (by show (r.take (num [x1, x2])).length ≤ 470; omega), hw⟩]
  rfl
theorem unP_no {l : List UInt8} (h : ¬ okU l) : unP l = ([], 22) := by
  unfold unP
  rw [if_neg]
  rintro ⟨_, h2, h3⟩
  obtain ⟨p1, p2, p3, p4, p5⟩ := wrap_parts h2
  rw [h3] at p1 p2 p3 p5
  exact h ⟨p1, p2, by omega, fun i hi => p5 i (by omega)⟩
theorem unP_wrap {l : List UInt8} (h : l.length ≤ 470) : unP (wrapB l) = (l, 0) := by
  obtain ⟨p1, p2, p3, p4, p5⟩ := wrap_parts h
  rw [unP_yes ⟨p1, p2, by omega, fun i hi => p5 i (by omega)⟩, p3, p4]
theorem wrapB_inj {l m : List UInt8} (hl : l.length ≤ 470) (hm : m.length ≤ 470) (h : wrapB l = wrapB m) : l = m := by
  have := unP_wrap hl
  rw [h, unP_wrap hm] at this
  exact (Prod.ext_iff.1 this).1.symm

/-! what a node knows of itself -/
structure SupR where
  nums : List Nat
  head : List UInt8
  deriving DecidableEq
def SupR.ok (s : SupR) : Prop := s.nums.length = 5 ∧ (∀ n ∈ s.nums, n < 18446744073709551616) ∧ s.head.length = 32
def SupR.zero : SupR := ⟨[0, 0, 0, 0, 0], List.replicate 32 0⟩
def nv (n : Nat) : Value := .int .u64 (n : Int)
def nvs (l : List Nat) : List Value := l.map nv
@[simp] theorem nvs_length (l : List Nat) : (nvs l).length = l.length := by simp [nvs]
def SupR.cells (s : SupR) : List Value := nvs s.nums ++ bvs s.head
theorem SupR.zero_ok : SupR.zero.ok := ⟨rfl, fun n hn => by
  have hn : n ∈ [0, 0, 0, 0, 0] := hn
  have : n = 0 := by simpa using hn
  omega, List.length_replicate⟩
theorem SupR.five {s : SupR} (h : s.ok) : ∃ a b c d e, s.nums = [a, b, c, d, e] := by
  obtain ⟨ns, hd⟩ := s
  obtain ⟨h1, _, _⟩ := h
  match ns, h1 with
  | [a, b, c, d, e], _ => exact ⟨a, b, c, d, e, rfl⟩
def b8 (n : Nat) : List UInt8 := be n 8
def supX (s : SupR) : List UInt8 := 83 :: (s.nums.flatMap b8 ++ s.head)
theorem flat8_len (l : List Nat) : (l.flatMap b8).length = 8 * l.length := by
  induction l with
  | nil => rfl
  | cons a l ih => rw [List.flatMap_cons, List.length_append, ih, b8, be_length, List.length_cons]; omega
theorem supX_len {s : SupR} (h : s.ok) : (supX s).length = 73 := by
  unfold supX
  rw [List.length_cons, List.length_append, flat8_len, h.1, h.2.2]
def supB (s : SupR) : List UInt8 := pad512 (supX s ++ shaB (supX s))
theorem supB_eq {s : SupR} (h : s.ok) : supB s = supX s ++ (shaB (supX s) ++ List.replicate 407 0) := by
  unfold supB pad512
  rw [List.length_append, supX_len h, shaB_length, List.append_assoc]
theorem supB_len {s : SupR} (h : s.ok) : (supB s).length = 512 := by
  rw [supB_eq h, List.length_append, List.length_append, supX_len h, shaB_length, List.length_replicate]
/-- what is read, as if all were there -/
def rsS (l : List UInt8) : Nat → List UInt8
  | 0 => (eU 1 l).2.1
  | i + 1 => (eU 8 (rsS l i)).2.1
def vlS (l : List UInt8) (i : Nat) : Nat := (eU 8 (rsS l i)).1
def hdS (l : List UInt8) : List UInt8 × List UInt8 × Int := eR 32 (rsS l 5)
def decS (l : List UInt8) : SupR := ⟨(List.range 5).map (vlS l), (hdS l).1⟩
def rdS (l : List UInt8) : SupR × Int := if (hdS l).2.2 = 0 ∧ supB (decS l) = l then (decS l, 0) else (SupR.zero, 22)
theorem eU_step (k : Nat) (l : List UInt8) : ((eU k l).2.1.length + k = l.length) ∨ ((eU k l).2.1.length = l.length ∧ l.length < k) := by
  unfold eU; split
  · left; simp; omega
  · right; simp; omega
theorem hdS_long {l : List UInt8} (h : (hdS l).2.2 = 0) : 73 ≤ l.length := by
  have h5 : 32 ≤ (rsS l 5).length := by
    unfold hdS eR at h
    split at h
    · assumption
    · simp at h
  have s0 := eU_step 1 l
  have s1 := eU_step 8 (rsS l 0)
  have s2 := eU_step 8 (rsS l 1)
  have s3 := eU_step 8 (rsS l 2)
  have s4 := eU_step 8 (rsS l 3)
  have s5 := eU_step 8 (rsS l 4)
  simp only [rsS] at *
  omega
theorem rsS_eq {l : List UInt8} (h : 73 ≤ l.length) : ∀ i, i ≤ 5 → rsS l i = l.drop (1 + 8 * i) := by
  intro i
  induction i with
  | zero => intro _; unfold rsS eU; rw [if_pos (by omega)]
  | succ i ih =>
    intro hi
    rw [rsS, ih (by omega)]
    unfold eU
    rw [if_pos (by rw [List.length_drop]; omega), List.drop_drop]
    rfl
theorem vlS_eq {l : List UInt8} (h : 73 ≤ l.length) {i : Nat} (hi : i < 5) : vlS l i = num ((l.drop (1 + 8 * i)).take 8) := by
  unfold vlS
  rw [rsS_eq h i (by omega)]
  unfold eU
  rw [if_pos (by rw [List.length_drop]; omega)]
theorem hdS_eq {l : List UInt8} (h : 73 ≤ l.length) : hdS l = ((l.drop 41).take 32, (l.drop 41).drop 32, 0) := by
  unfold hdS
  rw [rsS_eq h 5 (by omega)]
  unfold eR
  rw [if_pos (by rw [List.length_drop]; omega)]
theorem vlS_lt (l : List UInt8) (i : Nat) : vlS l i < 18446744073709551616 := by
  have := eU_lt 8 (rsS l i)
  unfold vlS; omega
theorem decS_ok {l : List UInt8} (h : 73 ≤ l.length) : (decS l).ok := by
  refine ⟨by simp [decS], fun n hn => ?_, ?_⟩
  · simp only [decS, List.mem_map] at hn
    obtain ⟨i, _, rfl⟩ := hn
    exact vlS_lt l i
  · unfold decS; rw [hdS_eq h]; simp; omega
theorem eight_be {l : List UInt8} {k : Nat} (h : k + 8 ≤ l.length) : b8 (num ((l.drop k).take 8)) = (l.drop k).take 8 := by
  have := be_num ((l.drop k).take 8)
  rwa [show ((l.drop k).take 8).length = 8 by rw [List.length_take, List.length_drop]; omega] at this
theorem drop_split {l : List UInt8} (k m : Nat) : l.drop k = (l.drop k).take m ++ l.drop (k + m) := by
  rw [← List.drop_drop]; exact (List.take_append_drop _ _).symm
theorem supX_dec {l : List UInt8} (h : 73 ≤ l.length) : supX (decS l) = 83 :: (l.drop 1).take 72 := by
  unfold supX decS
  rw [hdS_eq h]
  have e : (List.range 5).map (vlS l) = [vlS l 0, vlS l 1, vlS l 2, vlS l 3, vlS l 4] := rfl
  simp only [e, List.flatMap_cons, List.flatMap_nil, List.append_nil]
  rw [vlS_eq h (by omega), vlS_eq h (by omega), vlS_eq h (by omega), vlS_eq h (by omega), vlS_eq h (by omega)]
  simp only [Nat.mul_zero, Nat.add_zero, Nat.reduceMul, Nat.reduceAdd]
  rw [eight_be (by omega), eight_be (by omega), eight_be (by omega), eight_be (by omega), eight_be (by omega)]
  congr 1
  rw [drop_split (l := l) 1 8, drop_split (l := l) 9 8, drop_split (l := l) 17 8, drop_split (l := l) 25 8, drop_split (l := l) 33 8]
  simp only [Nat.reduceAdd]
  have l1 : ((l.drop 1).take 8).length = 8 := by rw [List.length_take, List.length_drop]; omega
  have l2 : ((l.drop 9).take 8).length = 8 := by rw [List.length_take, List.length_drop]; omega
  have l3 : ((l.drop 17).take 8).length = 8 := by rw [List.length_take, List.length_drop]; omega
  have l4 : ((l.drop 25).take 8).length = 8 := by rw [List.length_take, List.length_drop]; omega
  have l5 : ((l.drop 33).take 8).length = 8 := by rw [List.length_take, List.length_drop]; omega
  generalize (l.drop 1).take 8 = x1 at *
  generalize (l.drop 9).take 8 = x2 at *
  generalize (l.drop 17).take 8 = x3 at *
  generalize (l.drop 25).take 8 = x4 at *
  generalize (l.drop 33).take 8 = x5 at *
  generalize l.drop 41 = y
  rw [show (72 : Nat) = 8 + (8 + (8 + (8 + (8 + 32)))) from rfl, take_cat l1, take_cat l2, take_cat l3, take_cat l4, take_cat l5, take_l l1, take_l l2, take_l l3, take_l l4, take_l l5]
  simp only [List.append_assoc]
/-- the document's way of accepting -/
def okS (l : List UInt8) : Prop := l.length = 512 ∧ l[0]? = some 83 ∧ (∀ i, i < 32 → l[73 + i]? = (shaB (l.take 73))[i]?) ∧ ∀ i, 32 ≤ i → i < 439 → l[73 + i]? = some 0
theorem rdS_yes {l : List UInt8} (h : okS l) : rdS l = (decS l, 0) := by
  obtain ⟨h1, h2, h3, h4⟩ := h
  have hl : 73 ≤ l.length := by omega
  have hx : supX (decS l) = l.take 73 := by
    rw [supX_dec hl]
    match l, h2, h1 with
    | x :: r, h2, _ =>
      have : x = 83 := by simpa using h2
      subst this
      rfl
  have hb : supB (decS l) = l := by
    have hok := decS_ok hl
    refine ext_512 (supB_len hok) h1 fun i hi => ?_
    rw [supB_eq hok, hx]
    have lt : (l.take 73).length = 73 := by rw [List.length_take]; omega
    rcases Nat.lt_or_ge i 73 with a | a
    · rw [List.getElem?_append_left (by omega), List.getElem?_take, if_pos a]
    · rw [List.getElem?_append_right (by omega), lt]
      rcases Nat.lt_or_ge (i - 73) 32 with b | b
      · rw [List.getElem?_append_left (by simpa using b), ← h3 _ b, show 73 + (i - 73) = i by omega]
      · rw [List.getElem?_append_right (by simpa using b), shaB_length, List.getElem?_replicate, if_pos (by omega)]
        have := h4 (i - 73) b (by omega)
        rw [show 73 + (i - 73) = i by omega] at this
        rw [this]
  unfold rdS
  rw [hdS_eq hl]
  rw [if_pos ⟨rfl, hb⟩]
theorem rdS_no {l : List UInt8} (h : ¬ okS l) : rdS l = (SupR.zero, 22) := by
  unfold rdS
  rw [if_neg]
  rintro ⟨h1, h2⟩
  have hl := hdS_long h1
  have hok := decS_ok hl
  have hlen := supB_len hok
  have hx := supX_len hok
  have e := supB_eq hok
  have ht : l.take 73 = supX (decS l) := by
    rw [← h2, e]
    have : (supX (decS l) ++ (shaB (supX (decS l)) ++ List.replicate 407 0)).take (supX (decS l)).length = supX (decS l) := List.take_left
    rw [hx] at this
    rw [← e, h2] at this ⊢
    exact this
  refine h ⟨by rw [← h2]; exact hlen, ?_, fun i hi => ?_, fun i hi hi2 => ?_⟩
  · have : (l.take 73)[0]? = some 83 := by rw [ht, supX_dec hl]; rfl
    rwa [List.getElem?_take, if_pos (by omega)] at this
  · rw [ht]
    have : (supB (decS l))[73 + i]? = (shaB (supX (decS l)))[i]? := by
      rw [e, List.getElem?_append_right (by omega), hx, Nat.add_sub_cancel_left, List.getElem?_append_left (by simpa using hi)]
    rwa [h2] at this
  · have : (supB (decS l))[73 + i]? = some 0 := by
      rw [e, List.getElem?_append_right (by omega), hx, Nat.add_sub_cancel_left, List.getElem?_append_right (by simpa using hi), shaB_length, List.getElem?_replicate, if_pos (by omega)]
    rwa [h2] at this
/-- what was written is read -/
theorem supX_get {s : SupR} (h : s.ok) : decS (supB s) = s := by
  have hl : 73 ≤ (supB s).length := by rw [supB_len h]; omega
  have e := supB_eq h
  obtain ⟨a, b, c, d, f, hn⟩ := SupR.five h
  obtain ⟨ns, hd⟩ := s
  simp only at hn
  subst hn
  obtain ⟨_, hlt, hh⟩ := h
  obtain ⟨Z, hZ⟩ : ∃ Z, supB ⟨[a, b, c, d, f], hd⟩ = 83 :: (b8 a ++ (b8 b ++ (b8 c ++ (b8 d ++ (b8 f ++ (hd ++ Z)))))) := by
    refine ⟨shaB (supX ⟨[a, b, c, d, f], hd⟩) ++ List.replicate 407 0, ?_⟩
    rw [e]
    generalize shaB (supX ⟨[a, b, c, d, f], hd⟩) ++ List.replicate 407 0 = Y
    simp [supX]
  generalize supB ⟨[a, b, c, d, f], hd⟩ = L at hZ hl
  subst hZ
  have lt : ∀ n ∈ [a, b, c, d, f], n < 256 ^ 8 := fun n hn => by have := hlt n hn; omega
  have t0 : eU 8 (b8 a ++ (b8 b ++ (b8 c ++ (b8 d ++ (b8 f ++ (hd ++ Z)))))) = (a, b8 b ++ (b8 c ++ (b8 d ++ (b8 f ++ (hd ++ Z)))), 0) := eU_be 8 a _ (lt a (by simp))
  have t1 : eU 8 (b8 b ++ (b8 c ++ (b8 d ++ (b8 f ++ (hd ++ Z))))) = (b, b8 c ++ (b8 d ++ (b8 f ++ (hd ++ Z))), 0) := eU_be 8 b _ (lt b (by simp))
  have t2 : eU 8 (b8 c ++ (b8 d ++ (b8 f ++ (hd ++ Z)))) = (c, b8 d ++ (b8 f ++ (hd ++ Z)), 0) := eU_be 8 c _ (lt c (by simp))
  have t3 : eU 8 (b8 d ++ (b8 f ++ (hd ++ Z))) = (d, b8 f ++ (hd ++ Z), 0) := eU_be 8 d _ (lt d (by simp))
  have t4 : eU 8 (b8 f ++ (hd ++ Z)) = (f, hd ++ Z, 0) := eU_be 8 f _ (lt f (by simp))
  generalize hL : (83 :: (b8 a ++ (b8 b ++ (b8 c ++ (b8 d ++ (b8 f ++ (hd ++ Z)))))) : List UInt8) = L at *
  have q0 : rsS L 0 = b8 a ++ (b8 b ++ (b8 c ++ (b8 d ++ (b8 f ++ (hd ++ Z))))) := by rw [rsS, ← hL, eU_one]
  have q1 : rsS L 1 = b8 b ++ (b8 c ++ (b8 d ++ (b8 f ++ (hd ++ Z)))) := by rw [rsS, q0, t0]
  have q2 : rsS L 2 = b8 c ++ (b8 d ++ (b8 f ++ (hd ++ Z))) := by rw [rsS, q1, t1]
  have q3 : rsS L 3 = b8 d ++ (b8 f ++ (hd ++ Z)) := by rw [rsS, q2, t2]
  have q4 : rsS L 4 = b8 f ++ (hd ++ Z) := by rw [rsS, q3, t3]
  have q5 : rsS L 5 = hd ++ Z := by rw [rsS, q4, t4]
  have hh : hd.length = 32 := hh
  have hh5 : (hdS L).1 = hd := by
    unfold hdS
    rw [q5]
    unfold eR
    rw [if_pos (by simp; omega)]
    exact take_l hh
  unfold decS
  rw [hh5]
  have e5 : (List.range 5).map (vlS L) = [vlS L 0, vlS L 1, vlS L 2, vlS L 3, vlS L 4] := rfl
  rw [e5]
  simp only [vlS, q0, q1, q2, q3, q4, t0, t1, t2, t3, t4]
theorem rdS_sup {s : SupR} (h : s.ok) : rdS (supB s) = (s, 0) := by
  unfold rdS
  rw [supX_get h, hdS_eq (by rw [supB_len h]; omega)]
  rw [if_pos ⟨rfl, rfl⟩]
theorem supB_inj {s t : SupR} (hs : s.ok) (ht : t.ok) (h : supB s = supB t) : s = t := by
  have := supX_get hs
  rw [h, supX_get ht] at this; exact this.symm
theorem rdS_cases (l : List UInt8) : (rdS l = (SupR.zero, 22)) ∨ (rdS l = (decS l, 0) ∧ supB (decS l) = l ∧ (decS l).ok) := by
  unfold rdS
  split
  · rename_i h; exact .inr ⟨rfl, h.2, decS_ok (hdS_long h.1)⟩
  · exact .inl rfl
theorem rdS_okr (l : List UInt8) : (rdS l).1.ok := by
  rcases rdS_cases l with h | ⟨h, _, h2⟩
  · rw [h]; exact SupR.zero_ok
  · rw [h]; exact h2
/-- a block's sector begins otherwise -/
theorem okS_wrap {b : List UInt8} (h : b.length ≤ 470) : ¬ okS (wrapB b) := fun hk => by
  have := (wrap_parts h).2.1
  rw [hk.2.1] at this; simp at this
theorem supB_head {s : SupR} (h : s.ok) : (supB s)[0]? = some 83 := by
  rw [supB_eq h]; unfold supX; rfl
theorem okU_sup {s : SupR} (h : s.ok) : ¬ okU (supB s) := fun hk => by
  have := hk.2.1
  rw [supB_head h] at this; simp at this
end Go.Vc

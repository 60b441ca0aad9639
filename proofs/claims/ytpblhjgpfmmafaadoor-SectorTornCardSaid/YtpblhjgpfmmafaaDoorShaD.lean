/-
  Plain: the digest: words, rounds, chunks, pieces.
-/
import Derived.Test.YtpblhjgpfmmafaaDoorNums
set_option linter.unusedVariables false
set_option linter.unusedSimpArgs false
namespace Go.Vc
open Go

abbrev xor32 (x y : Int) : Int := bitsV .xor .u32 x y
abbrev and32 (x y : Int) : Int := bitsV .and .u32 x y
def add32 (x y : Int) : Int := IntKind.wrap .u32 (x + y)
def rot (x : Int) (n : Int) : Int := bitsV .or .u32 (shlV .u32 x (32 - n)) (shrV .u32 x n)
theorem or32_comm (x y : Int) : bitsV .or .u32 x y = bitsV .or .u32 y x := by
  simp only [bitsV, BitVec.or_comm]
theorem rot_comm (x n : Int) : bitsV .or .u32 (shrV .u32 x n) (shlV .u32 x (32 - n)) = rot x n := or32_comm _ _
theorem add32_comm (x y : Int) : add32 x y = add32 y x := by unfold add32; rw [Int.add_comm]
theorem or_add {a b i : Nat} (hb : b < 2 ^ i) (h : a * 2 ^ i + b < 4294967296) : bitsV .or .u32 ((a * 2 ^ i : Nat) : Int) (b : Int) = ((a * 2 ^ i + b : Nat) : Int) := by
  show IntKind.wrap .u32 ((BitVec.ofInt 32 ((a * 2 ^ i : Nat) : Int) ||| BitVec.ofInt 32 (b : Int) : BitVec 32).toNat : Int) = _
  rw [BitVec.toNat_or, BitVec.ofInt_natCast, BitVec.ofInt_natCast, BitVec.toNat_ofNat, BitVec.toNat_ofNat, Nat.mod_eq_of_lt (by omega), Nat.mod_eq_of_lt (by omega), Nat.mul_comm, ← Nat.two_pow_add_eq_or_of_lt hb]
  rw [Nat.mul_comm]
  exact wrap_u32 (by omega) (by omega)
theorem shl_u32 {a i : Nat} (hi : i ≤ 32) (h : a * 2 ^ i < 4294967296) : shlV .u32 (a : Int) (i : Int) = ((a * 2 ^ i : Nat) : Int) := by
  unfold shlV
  have : min ((i : Int)).toNat (IntKind.bits .u32) = i := by simp only [IntKind.bits, Int.toNat_natCast]; omega
  rw [this]
  have e : (a : Int) * 2 ^ i = ((a * 2 ^ i : Nat) : Int) := by simp
  rw [e]
  exact wrap_u32 (by omega) (by omega)

/-! words of a chunk -/
def word4 (p : List UInt8) (t : Nat) : Int := ((num ((p.drop (4 * t)).take 4) : Nat) : Int)
theorem word_next {l : List UInt8} {x : UInt8} (h : l.length < 4) : bitsV .or .u32 (shlV .u32 ((num l : Nat) : Int) 8) ((x.toNat : Nat) : Int) = ((num (l ++ [x]) : Nat) : Int) := by
  have hl := num_lt l
  have hp : 256 ^ l.length ≤ 256 ^ 3 := Nat.pow_le_pow_right (by omega) (by omega)
  have hx := x.toNat_lt
  rw [num_snoc, show (8 : Int) = ((8 : Nat) : Int) from rfl, shl_u32 (by omega) (by omega)]
  exact or_add (i := 8) (by omega) (by omega)
theorem or_mul {a b m : Nat} (i : Nat) (hm : m = 2 ^ i) (hb : b < m) (h : a * m + b < 4294967296) : bitsV .or .u32 ((a * m : Nat) : Int) (b : Int) = ((a * m + b : Nat) : Int) := by
  subst hm; exact or_add hb h
theorem shl_mul {a m : Nat} (i : Nat) (hm : m = 2 ^ i) (hi : i ≤ 32) (h : a * m < 4294967296) : shlV .u32 (a : Int) (i : Int) = ((a * m : Nat) : Int) := by
  subst hm; exact shl_u32 hi h
theorem word_ref {a b c d : UInt8} : bitsV .or .u32 (bitsV .or .u32 (bitsV .or .u32 (shlV .u32 ((a.toNat : Nat) : Int) 24) (shlV .u32 ((b.toNat : Nat) : Int) 16)) (shlV .u32 ((c.toNat : Nat) : Int) 8)) ((d.toNat : Nat) : Int) = ((num [a, b, c, d] : Nat) : Int) := by
  have ha := a.toNat_lt
  have hb := b.toNat_lt
  have hc := c.toNat_lt
  have hd := d.toNat_lt
  have p1 : (16777216 : Nat) = 2 ^ 24 := by decide +kernel
  have p2 : (65536 : Nat) = 2 ^ 16 := by decide +kernel
  have p3 : (256 : Nat) = 2 ^ 8 := by decide +kernel
  have e1 : shlV .u32 ((a.toNat : Nat) : Int) 24 = ((a.toNat * 16777216 : Nat) : Int) := shl_mul 24 p1 (by omega) (by omega)
  have e2 : shlV .u32 ((b.toNat : Nat) : Int) 16 = ((b.toNat * 65536 : Nat) : Int) := shl_mul 16 p2 (by omega) (by omega)
  have e3 : shlV .u32 ((c.toNat : Nat) : Int) 8 = ((c.toNat * 256 : Nat) : Int) := shl_mul 8 p3 (by omega) (by omega)
  have f1 : bitsV .or .u32 ((a.toNat * 16777216 : Nat) : Int) ((b.toNat * 65536 : Nat) : Int) = (((a.toNat * 256 + b.toNat) * 65536 : Nat) : Int) := by
    have g : a.toNat * 16777216 + b.toNat * 65536 = (a.toNat * 256 + b.toNat) * 65536 := by omega
    rw [or_mul 24 p1 (by omega) (by omega), g]
  have f2 : bitsV .or .u32 (((a.toNat * 256 + b.toNat) * 65536 : Nat) : Int) ((c.toNat * 256 : Nat) : Int) = ((((a.toNat * 256 + b.toNat) * 256 + c.toNat) * 256 : Nat) : Int) := by
    have g : (a.toNat * 256 + b.toNat) * 65536 + c.toNat * 256 = ((a.toNat * 256 + b.toNat) * 256 + c.toNat) * 256 := by omega
    rw [or_mul 16 p2 (by omega) (by omega), g]
  have hn : num [a, b, c, d] = ((a.toNat * 256 + b.toNat) * 256 + c.toNat) * 256 + d.toNat := by simp [num]
  rw [hn, e1, e2, e3, f1, f2]
  exact or_mul 8 p3 (by omega) (by omega)
theorem word_at {p : List UInt8} {t : Nat} (h : 4 * t + 4 ≤ p.length) : ∃ a b c d : UInt8, p[4 * t]? = some a ∧ p[4 * t + 1]? = some b ∧ p[4 * t + 2]? = some c ∧ p[4 * t + 3]? = some d ∧ word4 p t = ((num [a, b, c, d] : Nat) : Int) := by
  refine ⟨p[4 * t], p[4 * t + 1], p[4 * t + 2], p[4 * t + 3], List.getElem?_eq_getElem _, List.getElem?_eq_getElem _, List.getElem?_eq_getElem _, List.getElem?_eq_getElem _, ?_⟩
  unfold word4
  congr 2
  apply List.ext_getElem?
  intro i
  rw [List.getElem?_take]
  match i with
  | 0 => simp
  | 1 => simp
  | 2 => simp
  | 3 => simp
  | n + 4 => rw [if_neg (by omega), List.getElem?_eq_none (by simp)]

/-! words of the schedule -/
def sig0 (x : Int) : Int := xor32 (xor32 (rot x 7) (rot x 18)) (shrV .u32 x 3)
def sig1 (x : Int) : Int := xor32 (xor32 (rot x 17) (rot x 19)) (shrV .u32 x 10)
def schedW (a b c d : Int) : Int := add32 (add32 (add32 (sig1 a) b) (sig0 c)) d
theorem schedW_ref (a b c d : Int) : add32 (add32 (add32 d (sig0 c)) b) (sig1 a) = schedW a b c d := by
  unfold schedW add32
  simp only [wrap_u32_mod]
  omega
def sched (p : List UInt8) : Nat → List Int
  | 0 => []
  | t + 1 => sched p t ++ [if t < 16 then word4 p t else schedW ((sched p t).getD (t - 2) 0) ((sched p t).getD (t - 7) 0) ((sched p t).getD (t - 15) 0) ((sched p t).getD (t - 16) 0)]
@[simp] theorem sched_length (p : List UInt8) (t : Nat) : (sched p t).length = t := by
  induction t with
  | zero => rfl
  | succ t ih => simp [sched, ih]

theorem sched_take {p : List UInt8} {i n : Nat} (h : i ≤ n) : (sched p n).take i = sched p i := by
  induction n with
  | zero => have : i = 0 := by omega
            subst this; rfl
  | succ n ih =>
    by_cases he : i = n + 1
    · subst he; exact List.take_of_length_le (by simp)
    · rw [sched, List.take_append_of_le_length (by simp; omega)]; exact ih (by omega)
theorem sched_at {p : List UInt8} {k i n : Nat} (h : k < i) (hi : i ≤ n) : (sched p n)[k]? = some ((sched p i).getD k 0) := by
  rw [← sched_take hi, List.getD_eq_getElem?_getD, List.getElem?_take, if_pos h, List.getElem?_eq_getElem (by simp; omega)]; rfl
theorem sched_get {p : List UInt8} {i n : Nat} (h : i < n) : (sched p n)[i]? = some (if i < 16 then word4 p i else schedW ((sched p i).getD (i - 2) 0) ((sched p i).getD (i - 7) 0) ((sched p i).getD (i - 15) 0) ((sched p i).getD (i - 16) 0)) := by
  have h1 : (sched p n)[i]? = (sched p (i + 1))[i]? := by
    have := congrArg (fun l : List Int => l[i]?) (sched_take (p := p) (i := i + 1) (n := n) (by omega))
    simp only [List.getElem?_take] at this
    rw [if_pos (by omega)] at this
    exact this
  rw [h1, sched, List.getElem?_append_right (by simp), sched_length, Nat.sub_self]; rfl

/-! rounds -/
def S0 (a : Int) : Int := xor32 (xor32 (rot a 2) (rot a 13)) (rot a 22)
def S1 (e : Int) : Int := xor32 (xor32 (rot e 6) (rot e 11)) (rot e 25)
def chS (e f g : Int) : Int := xor32 (and32 e f) (and32 (xor32 4294967295 e) g)
def majS (a b c : Int) : Int := xor32 (xor32 (and32 a b) (and32 a c)) (and32 b c)
def t1S (e f g h k w : Int) : Int := add32 (add32 (add32 (add32 h (S1 e)) (chS e f g)) k) w
def rnd (k w : Int) : List Int → List Int
  | [a, b, c, d, e, f, g, h] => [add32 (add32 (t1S e f g h k w) (S0 a)) (majS a b c), a, b, c, add32 d (t1S e f g h k w), e, f, g]
  | v => v
def K32 : List Int := [1116352408, 1899447441, 3049323471, 3921009573, 961987163, 1508970993, 2453635748, 2870763221, 3624381080, 310598401, 607225278, 1426881987, 1925078388, 2162078206, 2614888103, 3248222580, 3835390401, 4022224774, 264347078, 604807628, 770255983, 1249150122, 1555081692, 1996064986, 2554220882, 2821834349, 2952996808, 3210313671, 3336571891, 3584528711, 113926993, 338241895, 666307205, 773529912, 1294757372, 1396182291, 1695183700, 1986661051, 2177026350, 2456956037, 2730485921, 2820302411, 3259730800, 3345764771, 3516065817, 3600352804, 4094571909, 275423344, 430227734, 506948616, 659060556, 883997877, 958139571, 1322822218, 1537002063, 1747873779, 1955562222, 2024104815, 2227730452, 2361852424, 2428436474, 2756734187, 3204031479, 3329325298]
def H32 : List Int := [1779033703, 3144134277, 1013904242, 2773480762, 1359893119, 2600822924, 528734635, 1541459225]
def rnds (st W : List Int) : Nat → List Int
  | 0 => st
  | t + 1 => rnd (K32.getD t 0) (W.getD t 0) (rnds st W t)
theorem rnd_length (k w : Int) (v : List Int) : (rnd k w v).length = v.length := by
  unfold rnd; split <;> rfl
theorem rnds_length (st W : List Int) (t : Nat) : (rnds st W t).length = st.length := by
  induction t with
  | zero => rfl
  | succ t ih => rw [rnds, rnd_length, ih]
theorem eight {v : List Int} (h : v.length = 8) : ∃ a b c d e f g k, v = [a, b, c, d, e, f, g, k] := by
  match v, h with
  | [a, b, c, d, e, f, g, k], _ => exact ⟨a, b, c, d, e, f, g, k, rfl⟩
def mixS (st : List Int) (p : List UInt8) : List Int := List.zipWith add32 (rnds st (sched p 64) 64) st
theorem mixS_length {st : List Int} (h : st.length = 8) (p : List UInt8) : (mixS st p).length = 8 := by
  unfold mixS; rw [List.length_zipWith, rnds_length, h]; rfl

/-! chunks -/
def absN : Nat → List Int → List UInt8 → List Int
  | 0, st, _ => st
  | n + 1, st, l => absN n (mixS st (l.take 64)) (l.drop 64)
theorem absN_length {n : Nat} : ∀ {st : List Int} {l : List UInt8}, st.length = 8 → (absN n st l).length = 8 := by
  induction n with
  | zero => intro st l h; exact h
  | succ n ih => intro st l h; exact ih (mixS_length h _)
theorem absN_add (a b : Nat) : ∀ (st : List Int) (l : List UInt8), absN (a + b) st l = absN b (absN a st l) (l.drop (64 * a)) := by
  induction a with
  | zero => intro st l; simp [absN]
  | succ a ih =>
    intro st l
    rw [show a + 1 + b = (a + b) + 1 by omega, absN, ih, absN, List.drop_drop]
    congr 2
    omega
theorem absN_app {n : Nat} : ∀ {st : List Int} {l : List UInt8} (m : List UInt8), 64 * n ≤ l.length → absN n st (l ++ m) = absN n st l := by
  induction n with
  | zero => intro st l m h; rfl
  | succ n ih =>
    intro st l m h
    rw [absN, absN, List.take_append_of_le_length (by omega), List.drop_append_of_le_length (by omega), ih _ (by rw [List.length_drop]; omega)]
/-- the state behind a text's whole chunks, and what is left of it -/
def digS (l : List UInt8) : List Int := absN (l.length / 64) H32 l
def restS (l : List UInt8) : List UInt8 := l.drop (64 * (l.length / 64))
theorem digS_length (l : List UInt8) : (digS l).length = 8 := absN_length rfl
theorem restS_length (l : List UInt8) : (restS l).length = l.length % 64 := by unfold restS; rw [List.length_drop]; omega
theorem rest_app (l b : List UInt8) : restS l ++ b = (l ++ b).drop (64 * (l.length / 64)) := by
  unfold restS; rw [List.drop_append_of_le_length (by omega)]
/-- k chunks of what is there -/
theorem dig_part {l b : List UInt8} {k : Nat} (h : 64 * k ≤ (restS l ++ b).length) : absN k (digS l) (restS l ++ b) = absN (l.length / 64 + k) H32 (l ++ b) ∧ (restS l ++ b).drop (64 * k) = (l ++ b).drop (64 * (l.length / 64 + k)) := by
  constructor
  · rw [absN_add, rest_app]
    unfold digS
    rw [absN_app (n := l.length / 64) b (by omega)]
  · rw [rest_app, List.drop_drop]; congr 1; omega
theorem dig_end {l b : List UInt8} {k : Nat} (h : 64 * k ≤ (restS l ++ b).length) (h2 : (restS l ++ b).length < 64 * k + 64) : absN k (digS l) (restS l ++ b) = digS (l ++ b) ∧ (restS l ++ b).drop (64 * k) = restS (l ++ b) := by
  have hr := restS_length l
  rw [List.length_append, hr] at h h2
  have : (l ++ b).length / 64 = l.length / 64 + k := by rw [List.length_append]; omega
  obtain ⟨h3, h4⟩ := dig_part (l := l) (b := b) (k := k) (by rw [List.length_append, hr]; exact h)
  rw [h3, h4]
  unfold digS restS
  rw [this]; exact ⟨rfl, rfl⟩

/-! the end -/
def padZ (n : Nat) : Nat := (119 - n % 64) % 64
def tailS (n : Nat) : List UInt8 := 128 :: (List.replicate (padZ n) 0 ++ be (n * 8) 8)
theorem padZ_le (n : Nat) : padZ n ≤ 63 := by unfold padZ; omega
theorem tailS_length (n : Nat) : (tailS n).length = 9 + padZ n := by unfold tailS; simp; omega
theorem pad_mod (n : Nat) : (n + (9 + padZ n)) % 64 = 0 := by unfold padZ; omega
/-- noughts are put in till there are enough -/
theorem pad_more {n i : Nat} (h : i < padZ n) : (n + (1 + i) + 8) % 64 ≠ 0 := by unfold padZ at h; omega
theorem pad_done (n : Nat) : (n + (1 + padZ n) + 8) % 64 = 0 := by unfold padZ; omega
def outI (st : List Int) (i k : Nat) : UInt8 := UInt8.ofNat (IntKind.wrap .u8 (shrV .u32 (st.getD i 0) (8 * (3 - (k : Int))))).toNat
def outB (st : List Int) : List UInt8 := (List.range 32).map fun i => outI st (i / 4) (i % 4)
@[simp] theorem outB_length (st : List Int) : (outB st).length = 32 := by simp [outB]
theorem outI_val (st : List Int) (i k : Nat) : IntKind.wrap .u8 (shrV .u32 (st.getD i 0) (8 * (3 - (k : Int)))) = ((outI st i k).toNat : Int) := by
  unfold outI
  rw [wrap_u8_mod]
  simp
  omega
def shaB (l : List UInt8) : List UInt8 := outB (digS (l ++ tailS l.length))
@[simp] theorem shaB_length (l : List UInt8) : (shaB l).length = 32 := by simp [shaB]

/-! rows of words -/
def uv (x : Int) : Value := .int .u32 x
def uvs (l : List Int) : List Value := l.map uv
@[simp] theorem uvs_length (l : List Int) : (uvs l).length = l.length := by simp [uvs]
@[simp] theorem uvs_append (l m : List Int) : uvs (l ++ m) = uvs l ++ uvs m := by simp [uvs]
theorem uvs_get (l : List Int) (k : Nat) : (uvs l)[k]? = l[k]?.map uv := by simp [uvs]
theorem uvs_one (l : List Int) : ∀ u ∈ uvs l, u.oneCell' = true := by
  intro u hu; obtain ⟨x, _, rfl⟩ := List.mem_map.1 hu; rfl
theorem uvs_getD {l : List Int} {k : Nat} (h : k < l.length) : (uvs l)[k]? = some (uv (l.getD k 0)) := by
  rw [uvs_get, List.getD_eq_getElem?_getD, List.getElem?_eq_getElem h]; rfl
end Go.Vc

/-
  Several texts in one: ShaD, ShaE, Sha1, Sha2, Sha3, Sha4.
-/
import Derived.Test.YtdjgdcafmfheoaaDoorHpM
import Derived.KernelRfl
import Derived.Test.YtdjgdcafmfheoaaDoorGenSha
import Derived.Test.YtdjgdcafmfheoaaDoorArM
set_option linter.unusedVariables false
set_option linter.unusedSimpArgs false
namespace Go.Vc
open Go

abbrev xor32 (x y : Int) : Int := bitsV .xor .u32 x y
abbrev and32 (x y : Int) : Int := bitsV .and .u32 x y
def add32 (x y : Int) : Int := IntKind.wrap .u32 (x + y)
def rot (x : Int) (n : Int) : Int := bitsV .or .u32 (shlV .u32 x (32 - n)) (shrV .u32 x n)
theorem or32_comm (x y : Int) : bitsV .or .u32 x y = bitsV .or .u32 y x := by
  simp only [bitsV, BitVec.or_comm]
theorem rot_comm (x n : Int) : bitsV .or .u32 (shrV .u32 x n) (shlV .u32 x (32 - n)) = rot x n := or32_comm _ _
theorem add32_comm (x y : Int) : add32 x y = add32 y x := by unfold add32; rw [Int.add_comm]
theorem or_add {a b i : Nat} (hb : b < 2 ^ i) (h : a * 2 ^ i + b < 4294967296) : bitsV .or .u32 ((a * 2 ^ i : Nat) : Int) (b : Int) = ((a * 2 ^ i + b : Nat) : Int) := by
  show IntKind.wrap .u32 ((BitVec.ofInt 32 ((a * 2 ^ i : Nat) : Int) ||| BitVec.ofInt 32 (b : Int) : BitVec 32).toNat : Int) = _
  rw [BitVec.toNat_or, BitVec.ofInt_natCast, BitVec.ofInt_natCast, BitVec.toNat_ofNat, BitVec.toNat_ofNat, Nat.mod_eq_of_lt (by omega), Nat.mod_eq_of_lt (by omega), Nat.mul_comm, ← Nat.two_pow_add_eq_or_of_lt hb]
  rw [Nat.mul_comm]
  exact wrap_u32 (by omega) (by omega)
theorem shl_u32 {a i : Nat} (hi : i ≤ 32) (h : a * 2 ^ i < 4294967296) : shlV .u32 (a : Int) (i : Int) = ((a * 2 ^ i : Nat) : Int) := by
  unfold shlV
  have : min ((i : Int)).toNat (IntKind.bits .u32) = i := by simp only [IntKind.bits, Int.toNat_natCast]; omega
  rw [this]
  have e : (a : Int) * 2 ^ i = ((a * 2 ^ i : Nat) : Int) := by simp
  rw [e]
  exact wrap_u32 (by omega) (by omega)

/-! words of a chunk -/
def word4 (p : List UInt8) (t : Nat) : Int := ((num ((p.drop (4 * t)).take 4) : Nat) : Int)
theorem word_next {l : List UInt8} {x : UInt8} (h : l.length < 4) : bitsV .or .u32 (shlV .u32 ((num l : Nat) : Int) 8) ((x.toNat : Nat) : Int) = ((num (l ++ [x]) : Nat) : Int) := by
  have hl := num_lt l
  have hp : 256 ^ l.length ≤ 256 ^ 3 := Nat.pow_le_pow_right (by omega) (by omega)
  have hx := x.toNat_lt
  rw [num_snoc, show (8 : Int) = ((8 : Nat) : Int) from rfl, shl_u32 (by omega) (by omega)]
  exact or_add (i := 8) (by omega) (by omega)
theorem or_mul {a b m : Nat} (i : Nat) (hm : m = 2 ^ i) (hb : b < m) (h : a * m + b < 4294967296) : bitsV .or .u32 ((a * m : Nat) : Int) (b : Int) = ((a * m + b : Nat) : Int) := by
  subst hm; exact or_add hb h
theorem shl_mul {a m : Nat} (i : Nat) (hm : m = 2 ^ i) (hi : i ≤ 32) (h : a * m < 4294967296) : shlV .u32 (a : Int) (i : Int) = ((a * m : Nat) : Int) := by
  subst hm; exact shl_u32 hi h
theorem word_ref {a b c d : UInt8} : bitsV .or .u32 (bitsV .or .u32 (bitsV .or .u32 (shlV .u32 ((a.toNat : Nat) : Int) 24) (shlV .u32 ((b.toNat : Nat) : Int) 16)) (shlV .u32 ((c.toNat : Nat) : Int) 8)) ((d.toNat : Nat) : Int) = ((num [a, b, c, d] : Nat) : Int) := by
  have ha := a.toNat_lt
  have hb := b.toNat_lt
  have hc := c.toNat_lt
  have hd := d.toNat_lt
  have p1 : (16777216 : Nat) = 2 ^ 24 := by decide +kernel
  have p2 : (65536 : Nat) = 2 ^ 16 := by decide +kernel
  have p3 : (256 : Nat) = 2 ^ 8 := by decide +kernel
  have e1 : shlV .u32 ((a.toNat : Nat) : Int) 24 = ((a.toNat * 16777216 : Nat) : Int) := shl_mul 24 p1 (by omega) (by omega)
  have e2 : shlV .u32 ((b.toNat : Nat) : Int) 16 = ((b.toNat * 65536 : Nat) : Int) := shl_mul 16 p2 (by omega) (by omega)
  have e3 : shlV .u32 ((c.toNat : Nat) : Int) 8 = ((c.toNat * 256 : Nat) : Int) := shl_mul 8 p3 (by omega) (by omega)
  have f1 : bitsV .or .u32 ((a.toNat * 16777216 : Nat) : Int) ((b.toNat * 65536 : Nat) : Int) = (((a.toNat * 256 + b.toNat) * 65536 : Nat) : Int) := by
    have g : a.toNat * 16777216 + b.toNat * 65536 = (a.toNat * 256 + b.toNat) * 65536 := by omega
    rw [or_mul 24 p1 (by omega) (by omega), g]
  have f2 : bitsV .or .u32 (((a.toNat * 256 + b.toNat) * 65536 : Nat) : Int) ((c.toNat * 256 : Nat) : Int) = ((((a.toNat * 256 + b.toNat) * 256 + c.toNat) * 256 : Nat) : Int) := by
    have g : (a.toNat * 256 + b.toNat) * 65536 + c.toNat * 256 = ((a.toNat * 256 + b.toNat) * 256 + c.toNat) * 256 := by omega
    rw [or_mul 16 p2 (by omega) (by omega), g]
  have hn : num [a, b, c, d] = ((a.toNat * 256 + b.toNat) * 256 + c.toNat) * 256 + d.toNat := by simp [num]
  rw [hn, e1, e2, e3, f1, f2]
  exact or_mul 8 p3 (by omega) (by omega)
theorem word_at {p : List UInt8} {t : Nat} (h : 4 * t + 4 ≤ p.length) : ∃ a b c d : UInt8, p[4 * t]? = some a ∧ p[4 * t + 1]? = some b ∧ p[4 * t + 2]? = some c ∧ p[4 * t + 3]? = some d ∧ word4 p t = ((num [a, b, c, d] : Nat) : Int) := by
  refine ⟨p[4 * t], p[4 * t + 1], p[4 * t + 2], p[4 * t + 3], List.getElem?_eq_getElem _, List.getElem?_eq_getElem _, List.getElem?_eq_getElem _, List.getElem?_eq_getElem _, ?_⟩
  unfold word4
  congr 2
  apply List.ext_getElem?
  intro i
  rw [List.getElem?_take]
  match i with
  | 0 => simp
  | 1 => simp
  | 2 => simp
  | 3 => simp
  | n + 4 => rw [if_neg (by omega), List.getElem?_eq_none (by simp)]

/-! words of the schedule -/
def sig0 (x : Int) : Int := xor32 (xor32 (rot x 7) (rot x 18)) (shrV .u32 x 3)
def sig1 (x : Int) : Int := xor32 (xor32 (rot x 17) (rot x 19)) (shrV .u32 x 10)
def schedW (a b c d : Int) : Int := add32 (add32 (add32 (sig1 a) b) (sig0 c)) d
theorem schedW_ref (a b c d : Int) : add32 (add32 (add32 d (sig0 c)) b) (sig1 a) = schedW a b c d := by
  unfold schedW add32
  simp only [wrap_u32_mod]
  omega
def sched (p : List UInt8) : Nat → List Int
  | 0 => []
  | t + 1 => sched p t ++ [if t < 16 then word4 p t else schedW ((sched p t).getD (t - 2) 0) ((sched p t).getD (t - 7) 0) ((sched p t).getD (t - 15) 0) ((sched p t).getD (t - 16) 0)]
@[simp] theorem sched_length (p : List UInt8) (t : Nat) : (sched p t).length = t := by
  induction t with
  | zero => rfl
  | succ t ih => simp [sched, ih]

theorem sched_take {p : List UInt8} {i n : Nat} (h : i ≤ n) : (sched p n).take i = sched p i := by
  induction n with
  | zero => have : i = 0 := by omega
            subst this; rfl
  | succ n ih =>
    by_cases he : i = n + 1
    · subst he; exact List.take_of_length_le (by simp)
    · rw [sched, List.take_append_of_le_length (by simp; omega)]; exact ih (by omega)
theorem sched_at {p : List UInt8} {k i n : Nat} (h : k < i) (hi : i ≤ n) : (sched p n)[k]? = some ((sched p i).getD k 0) := by
  rw [← sched_take hi, List.getD_eq_getElem?_getD, List.getElem?_take, if_pos h, List.getElem?_eq_getElem (by simp; omega)]; rfl
theorem sched_get {p : List UInt8} {i n : Nat} (h : i < n) : (sched p n)[i]? = some (if i < 16 then word4 p i else schedW ((sched p i).getD (i - 2) 0) ((sched p i).getD (i - 7) 0) ((sched p i).getD (i - 15) 0) ((sched p i).getD (i - 16) 0)) := by
  have h1 : (sched p n)[i]? = (sched p (i + 1))[i]? := by
    have := congrArg (fun l : List Int => l[i]?) (sched_take (p := p) (i := i + 1) (n := n) (by omega))
    simp only [List.getElem?_take] at this
    rw [if_pos (by omega)] at this
    exact this
  rw [h1, sched, List.getElem?_append_right (by simp), sched_length, Nat.sub_self]; rfl

/-! rounds -/
def S0 (a : Int) : Int := xor32 (xor32 (rot a 2) (rot a 13)) (rot a 22)
def S1 (e : Int) : Int := xor32 (xor32 (rot e 6) (rot e 11)) (rot e 25)
def chS (e f g : Int) : Int := xor32 (and32 e f) (and32 (xor32 4294967295 e) g)
def majS (a b c : Int) : Int := xor32 (xor32 (and32 a b) (and32 a c)) (and32 b c)
def t1S (e f g h k w : Int) : Int := add32 (add32 (add32 (add32 h (S1 e)) (chS e f g)) k) w
def rnd (k w : Int) : List Int → List Int
  | [a, b, c, d, e, f, g, h] => [add32 (add32 (t1S e f g h k w) (S0 a)) (majS a b c), a, b, c, add32 d (t1S e f g h k w), e, f, g]
  | v => v
def K32 : List Int := [1116352408, 1899447441, 3049323471, 3921009573, 961987163, 1508970993, 2453635748, 2870763221, 3624381080, 310598401, 607225278, 1426881987, 1925078388, 2162078206, 2614888103, 3248222580, 3835390401, 4022224774, 264347078, 604807628, 770255983, 1249150122, 1555081692, 1996064986, 2554220882, 2821834349, 2952996808, 3210313671, 3336571891, 3584528711, 113926993, 338241895, 666307205, 773529912, 1294757372, 1396182291, 1695183700, 1986661051, 2177026350, 2456956037, 2730485921, 2820302411, 3259730800, 3345764771, 3516065817, 3600352804, 4094571909, 275423344, 430227734, 506948616, 659060556, 883997877, 958139571, 1322822218, 1537002063, 1747873779, 1955562222, 2024104815, 2227730452, 2361852424, 2428436474, 2756734187, 3204031479, 3329325298]
def H32 : List Int := [1779033703, 3144134277, 1013904242, 2773480762, 1359893119, 2600822924, 528734635, 1541459225]
def rnds (st W : List Int) : Nat → List Int
  | 0 => st
  | t + 1 => rnd (K32.getD t 0) (W.getD t 0) (rnds st W t)
theorem rnd_length (k w : Int) (v : List Int) : (rnd k w v).length = v.length := by
  unfold rnd; split <;> rfl
theorem rnds_length (st W : List Int) (t : Nat) : (rnds st W t).length = st.length := by
  induction t with
  | zero => rfl
  | succ t ih => rw [rnds, rnd_length, ih]
theorem eight {v : List Int} (h : v.length = 8) : ∃ a b c d e f g k, v = [a, b, c, d, e, f, g, k] := by
  match v, h with
  | [a, b, c, d, e, f, g, k], _ => exact ⟨a, b, c, d, e, f, g, k, rfl⟩
def mixS (st : List Int) (p : List UInt8) : List Int := List.zipWith add32 (rnds st (sched p 64) 64) st
theorem mixS_length {st : List Int} (h : st.length = 8) (p : List UInt8) : (mixS st p).length = 8 := by
  unfold mixS; rw [List.length_zipWith, rnds_length, h]; rfl

/-! chunks -/
def absN : Nat → List Int → List UInt8 → List Int
  | 0, st, _ => st
  | n + 1, st, l => absN n (mixS st (l.take 64)) (l.drop 64)
theorem absN_length {n : Nat} : ∀ {st : List Int} {l : List UInt8}, st.length = 8 → (absN n st l).length = 8 := by
  induction n with
  | zero => intro st l h; exact h
  | succ n ih => intro st l h; exact ih (mixS_length h _)
theorem absN_add (a b : Nat) : ∀ (st : List Int) (l : List UInt8), absN (a + b) st l = absN b (absN a st l) (l.drop (64 * a)) := by
  induction a with
  | zero => intro st l; simp [absN]
  | succ a ih =>
    intro st l
    rw [show a + 1 + b = (a + b) + 1 by omega, absN, ih, absN, List.drop_drop]
    congr 2
    omega
theorem absN_app {n : Nat} : ∀ {st : List Int} {l : List UInt8} (m : List UInt8), 64 * n ≤ l.length → absN n st (l ++ m) = absN n st l := by
  induction n with
  | zero => intro st l m h; rfl
  | succ n ih =>
    intro st l m h
    rw [absN, absN, List.take_append_of_le_length (by omega), List.drop_append_of_le_length (by omega), ih _ (by rw [List.length_drop]; omega)]
/-- the state behind a text's whole chunks, and what is left of it -/
def digS (l : List UInt8) : List Int := absN (l.length / 64) H32 l
def restS (l : List UInt8) : List UInt8 := l.drop (64 * (l.length / 64))
theorem digS_length (l : List UInt8) : (digS l).length = 8 := absN_length rfl
theorem restS_length (l : List UInt8) : (restS l).length = l.length % 64 := by unfold restS; rw [List.length_drop]; omega
theorem rest_app (l b : List UInt8) : restS l ++ b = (l ++ b).drop (64 * (l.length / 64)) := by
  unfold restS; rw [List.drop_append_of_le_length (by omega)]
/-- k chunks of what is there -/
theorem dig_part {l b : List UInt8} {k : Nat} (h : 64 * k ≤ (restS l ++ b).length) : absN k (digS l) (restS l ++ b) = absN (l.length / 64 + k) H32 (l ++ b) ∧ (restS l ++ b).drop (64 * k) = (l ++ b).drop (64 * (l.length / 64 + k)) := by
  constructor
  · rw [absN_add, rest_app]
    unfold digS
    rw [absN_app (n := l.length / 64) b (by omega)]
  · rw [rest_app, List.drop_drop]; congr 1; omega
theorem dig_end {l b : List UInt8} {k : Nat} (h : 64 * k ≤ (restS l ++ b).length) (h2 : (restS l ++ b).length < 64 * k + 64) : absN k (digS l) (restS l ++ b) = digS (l ++ b) ∧ (restS l ++ b).drop (64 * k) = restS (l ++ b) := by
  have hr := restS_length l
  rw [List.length_append, hr] at h h2
  have : (l ++ b).length / 64 = l.length / 64 + k := by rw [List.length_append]; omega
  obtain ⟨h3, h4⟩ := dig_part (l := l) (b := b) (k := k) (by rw [List.length_append, hr]; exact h)
  rw [h3, h4]
  unfold digS restS
  rw [this]; exact ⟨rfl, rfl⟩

/-! the end -/
def padZ (n : Nat) : Nat := (119 - n % 64) % 64
def tailS (n : Nat) : List UInt8 := 128 :: (List.replicate (padZ n) 0 ++ be (n * 8) 8)
theorem padZ_le (n : Nat) : padZ n ≤ 63 := by unfold padZ; omega
theorem tailS_length (n : Nat) : (tailS n).length = 9 + padZ n := by unfold tailS; simp; omega
theorem pad_mod (n : Nat) : (n + (9 + padZ n)) % 64 = 0 := by unfold padZ; omega
/-- noughts are put in till there are enough -/
theorem pad_more {n i : Nat} (h : i < padZ n) : (n + (1 + i) + 8) % 64 ≠ 0 := by unfold padZ at h; omega
theorem pad_done (n : Nat) : (n + (1 + padZ n) + 8) % 64 = 0 := by unfold padZ; omega
def outI (st : List Int) (i k : Nat) : UInt8 := UInt8.ofNat (IntKind.wrap .u8 (shrV .u32 (st.getD i 0) (8 * (3 - (k : Int))))).toNat
def outB (st : List Int) : List UInt8 := (List.range 32).map fun i => outI st (i / 4) (i % 4)
@[simp] theorem outB_length (st : List Int) : (outB st).length = 32 := by simp [outB]
theorem outI_val (st : List Int) (i k : Nat) : IntKind.wrap .u8 (shrV .u32 (st.getD i 0) (8 * (3 - (k : Int)))) = ((outI st i k).toNat : Int) := by
  unfold outI
  rw [wrap_u8_mod]
  simp
  omega
def shaB (l : List UInt8) : List UInt8 := outB (digS (l ++ tailS l.length))
@[simp] theorem shaB_length (l : List UInt8) : (shaB l).length = 32 := by simp [shaB]

/-! rows of words -/
def uv (x : Int) : Value := .int .u32 x
def uvs (l : List Int) : List Value := l.map uv
@[simp] theorem uvs_length (l : List Int) : (uvs l).length = l.length := by simp [uvs]
@[simp] theorem uvs_append (l m : List Int) : uvs (l ++ m) = uvs l ++ uvs m := by simp [uvs]
theorem uvs_get (l : List Int) (k : Nat) : (uvs l)[k]? = l[k]?.map uv := by simp [uvs]
theorem uvs_one (l : List Int) : ∀ u ∈ uvs l, u.oneCell' = true := by
  intro u hu; obtain ⟨x, _, rfl⟩ := List.mem_map.1 hu; rfl
theorem uvs_getD {l : List Int} {k : Nat} (h : k < l.length) : (uvs l)[k]? = some (uv (l.getD k 0)) := by
  rw [uvs_get, List.getD_eq_getElem?_getD, List.getElem?_eq_getElem h]; rfl
end Go.Vc
namespace Go.Vc
open Go
theorem sha_nil : (shaB []).take 4 = [227, 176, 196, 66] := by kernel_rfl
theorem sha_abc : (shaB [97, 98, 99]).take 4 = [186, 120, 22, 191] := by kernel_rfl
end Go.Vc
set_option linter.unusedVariables false
set_option linter.unusedSimpArgs false
namespace Go.Proofs.YtdjgdcafmfheoaaDoor
open Go.Vc
attribute [local irreducible] TInt TBool TStr TPtr TSl TAgg TMap TChan T2 T3 T4 BS Req TSome TCell TByte LoadC LoadA StoreC AllocC RunV RunU CallV ExtV EqA StableC StableA StableV TCells ReadV
attribute [local irreducible] DrewC

theorem rotl_k : ∀ c : Fin 32, c.val ≠ 0 → bitsV .and .u64 (IntKind.wrap .u64 (IntKind.wrap .i64 (0 - (c.val : Int)))) 31 = 32 - (c.val : Int) := by decide +kernel
theorem RotL_c {x c : Int} {w : World} {R : Value → World → Prop} (h1 : 1 ≤ c) (h2 : c ≤ 31) (h : R (.int .u32 (rot x c)) w) : CallV Tryd.prog 113 #[.int .u32 x, .int .i64 (IntKind.wrap .i64 (0 - c))] w R := by
  obtain ⟨n, rfl⟩ := Int.eq_ofNat_of_zero_le (show 0 ≤ c by omega)
  have hk := rotl_k ⟨n, by omega⟩ (by simp; omega)
  simp only at hk
  refine math_bits_RotateLeft32_vc ?_
  unfold math_bits_RotateLeft32_VC
  rw [hk]
  have e : IntKind.wrap .u64 (32 - (32 - (n : Int))) = n := by rw [wrap_u64] <;> omega
  rw [e]
  exact Req.mk (by omega) (Req.mk (by omega) h)
theorem rotr_c {x c : Int} {w : World} {R : Value → World → Prop} (h1 : 1 ≤ c) (h2 : c ≤ 31) (h : R (.int .u32 (rot x c)) w) : CallV Tryd.prog 100 #[.int .u32 x, .int .i64 c] w R := by
  refine ref03_rotr_vc ?_
  unfold ref03_rotr_VC
  rw [wrap_u64 (n := c) (by omega) (by omega), wrap_i64 (by omega) (by omega), wrap_u64 (by omega) (by omega), rot_comm]
  exact Req.mk (by omega) (Req.mk (by omega) h)
theorem turn_c {x a b d : Int} {s : Bool} {w : World} {R : Value → World → Prop} (ha : 1 ≤ a ∧ a ≤ 31) (hb : 1 ≤ b ∧ b ≤ 31) (hd : 1 ≤ d ∧ d ≤ 31) (h : R (.int .u32 (xor32 (xor32 (rot x a) (rot x b)) (if s = true then shrV .u32 x d else rot x d))) w) :
    CallV Tryd.prog 112 #[.int .u32 x, .int .i64 a, .int .i64 b, .int .i64 d, .bool s] w R := by
  refine sha_turn_vc ?_
  unfold sha_turn_VC
  refine RotL_c hd.1 hd.2 (TInt.mk ?_)
  have fin : ∀ y, R (.int .u32 (xor32 (xor32 (rot x a) (rot x b)) y)) w → sha_turn_K1 x a b y w R := fun y hy => RotL_c ha.1 ha.2 (TInt.mk (RotL_c hb.1 hb.2 (TInt.mk hy)))
  cases s
  · exact BS.no rfl (fin _ (by simpa using h))
  · exact BS.yes rfl (Req.mk (by omega) (fin _ (by simpa using h)))

/-- the package's rows -/
def GlobS (h : View) : Prop := (∃ T fz, h 1 = some (.cells (uvs K32).toArray T fz)) ∧ (∃ T fz, h 0 = some (.cells (uvs H32).toArray T fz))
theorem GlobS.mono {h h' : View} (g : GlobS h) (hs : Sub h h') : GlobS h' := by
  obtain ⟨⟨T, fz, h1⟩, U, fy, h2⟩ := g
  exact ⟨⟨T, fz, hs _ _ h1⟩, U, fy, hs _ _ h2⟩

theorem set_self {α : Type} {l : List α} {i : Nat} {x : α} (h : l[i]? = some x) : l.set i x = l := by
  apply List.ext_getElem?
  intro k
  rw [List.getElem?_set]
  split
  · rename_i e; subst e
    rw [h]; rw [if_pos (lt_of_get h)]
  · rfl
theorem uvs_set (l : List Int) (i : Nat) (x : Int) : (uvs l).set i (.int .u32 x) = uvs (l.set i x) := by
  unfold uvs; rw [List.map_set]; rfl
theorem uvs_at {l : List Int} {k : Nat} {x : Int} (h : l[k]? = some x) : (uvs l).toArray[k]? = some (.int .u32 x) := by
  rw [List.getElem?_toArray, uvs_get, h]; rfl
theorem bvs_at {l : List UInt8} {k : Nat} {x : UInt8} (h : l[k]? = some x) : (bvs l).toArray[k]? = some (.int .u8 (x.toNat : Int)) := by
  rw [List.getElem?_toArray, bvs_get, h]; rfl
theorem uvs_all (l : List Int) : (uvs l).toArray.all (·.oneCell') = true := by
  rw [Array.all_eq_true']
  intro x hx
  exact uvs_one l x (by simpa using hx)
theorem bvs_all (l : List UInt8) : (bvs l).toArray.all (·.oneCell') = true := by
  rw [Array.all_eq_true']
  intro x hx
  exact bvs_one l x (by simpa using hx)
theorem storeU {c : Nat → Nat} {i : Nat} {w : World} {b k : Nat} {l : List Int} {T : Nat} {x : Int} {C : World → Prop} (hb : view c i w b = some (.cells (uvs l).toArray T (0, 0))) (hk : k < l.length)
    (h : ∀ w', Wr c i w c w' (some b) → Step c [i] [] w c w' → view c i w' b = some (.cells (uvs (l.set k x)).toArray T (0, 0)) → C w') : StoreC w ((⟨b, 0, none⟩ : Addr).add k) (.int .u32 x) C :=
  StoreC.ad hb (by simpa using hk) fun w' h1 h2 h3 => h w' h1 h2 (by rw [toArray_set, uvs_set] at h3; exact h3)
theorem i64_n (i : Nat) (k : Nat) (h : k ≤ i) (hi : i < 1000000000000) : IntKind.wrap .i64 ((i : Int) - (k : Int)) = ((i - k : Nat) : Int) := by rw [wrap_i64 (by omega) (by omega)]; omega

theorem mix_c (c : Nat → Nat) (j : Nat) {w : World} {st : List Int} {p : List UInt8} {R : Value → World → Prop} (hst : st.length = 8) (hp : p.length = 64) (hG : GlobS (wv w))
    (h : ∀ c' w', Step c [] [j] w c' w' → R (.agg (uvs (mixS st p)).toArray) w') : CallV Tryd.prog 110 #[.agg (uvs st).toArray, .agg (bvs p).toArray] w R := by
  have G : GlobS (view (fun _ => 0) 0 w) := by rw [view0]; exact hG
  have S := Fr.start w
  refine sha_mix_vc ?_
  unfold sha_mix_VC
  refine AllocC.col (fun _ => 0) 1 fun a2 c1 w1 st1 b1 _ => ?_
  replace S := S.go st1.step (by decide) (by decide); replace G := G.mono (st1.step.sub (by decide))
  refine AllocC.col c1 2 fun a3 c2 w2 st2 b2 _ => ?_
  replace S := S.go st2.step (by decide) (by decide); replace G := G.mono (st2.step.sub (by decide)); replace b1 := st2.step.sub (by decide) _ _ b1
  refine AllocC.col c2 3 fun a4 c3 w3 st3 b3 _ => ?_
  replace S := S.go st3.step (by decide) (by decide); replace G := G.mono (st3.step.sub (by decide)); replace b1 := st3.step.sub (by decide) _ _ b1; replace b2 := st3.step.sub (by decide) _ _ b2
  refine AllocC.col c3 4 fun a5 c4 w4 st4 b4 _ => ?_
  replace S := S.go st4.step (by decide) (by decide); replace G := G.mono (st4.step.sub (by decide)); replace b1 := st4.step.sub (by decide) _ _ b1; replace b2 := st4.step.sub (by decide) _ _ b2; replace b3 := st4.step.sub (by decide) _ _ b3
  have hAB : (sched p 64).length = (List.replicate 64 (0 : Int)).length := by simp
  have hA : (sched p 64).length = 64 := by simp
  have hB : (List.replicate 64 (0 : Int)).length = 64 := by simp
  replace b4 : view c4 4 w4 a5 = some (.cells (uvs (List.replicate 64 (0 : Int))).toArray 158 (0, 0)) := b4
  refine LoopI.up 64 (fun i w' => Fr w c4 w' ∧ GlobS (view c4 0 w') ∧ (view c4 1 w' a2 = some (.cells (uvs st).toArray 160 (0, 0))) ∧ (view c4 2 w' a3 = some (.cells (bvs p).toArray 173 (0, 0))) ∧ (∃ z : List Int, z.length = 8 ∧ view c4 3 w' a4 = some (.cells (uvs z).toArray 160 (0, 0))) ∧ view c4 4 w' a5 = some (.cells (uvs (upto (sched p 64) (List.replicate 64 (0 : Int)) i)).toArray 158 (0, 0)))
    ⟨S, G, b1, b2, ⟨List.replicate 8 0, by simp, b3⟩, by rw [upto_zero]; exact b4⟩ ?_
  clear S G b1 b2 b3 b4
  rintro i w5 K1 hi ⟨S, G, b1, b2, ⟨z, hz, b3⟩, b5⟩ back
  refine BS.dec (fun hlt => ?_) (fun hge => ?_)
  · have hul : (upto (sched p 64) (List.replicate 64 (0 : Int)) i).length = 64 := by rw [upto_length hAB, hB]
    refine BS.dec (fun h16 => ?_) (fun h16 => ?_)
    · have e1 : IntKind.wrap .i64 (4 * IntKind.wrap .i64 ((i : Int) + 1)) = ((4 * i + 4 : Nat) : Int) := by rw [wrap_i64 (n := (i : Int) + 1) (by omega) (by omega), wrap_i64 (by omega) (by omega)]; omega
      have e2 : IntKind.wrap .i64 (4 * (i : Int)) = ((4 * i : Nat) : Int) := by rw [wrap_i64 (by omega) (by omega)]; omega
      rw [e1, e2, Int.toNat_natCast, Int.toNat_natCast, show 4 * i + 4 - 4 * i = 4 by omega]
      refine Req.bndle ⟨by omega, by omega⟩ (Req.bndle ⟨by omega, by omega⟩ ?_)
      have hql : ((p.drop (4 * i)).take 4).length = 4 := by rw [List.length_take, List.length_drop]; omega
      have hBi : (upto (sched p 64) (List.replicate 64 (0 : Int)) i)[i]? = some 0 := by rw [upto_ge (Nat.le_refl _) (by omega)]; rw [List.getElem?_replicate, if_pos (by omega)]
      refine LoopI.up 4 (fun k w' => Fr w c4 w' ∧ GlobS (view c4 0 w') ∧ (view c4 1 w' a2 = some (.cells (uvs st).toArray 160 (0, 0))) ∧ (view c4 2 w' a3 = some (.cells (bvs p).toArray 173 (0, 0))) ∧ (view c4 3 w' a4 = some (.cells (uvs z).toArray 160 (0, 0))) ∧
        view c4 4 w' a5 = some (.cells (uvs ((upto (sched p 64) (List.replicate 64 (0 : Int)) i).set i ((num (((p.drop (4 * i)).take 4).take k) : Nat) : Int))).toArray 158 (0, 0)))
        ⟨S, G, b1, b2, b3, by rw [List.take_zero]; rw [show ((num [] : Nat) : Int) = 0 from rfl, set_self hBi]; exact b5⟩ ?_
      clear S G b1 b2 b3 b5
      rintro k w6 K2 hk ⟨S, G, b1, b2, b3, b5⟩ back2
      refine BS.dec (fun hlk => ?_) (fun hgk => ?_)
      · obtain ⟨x, hx⟩ := get_of_lt (l := (p.drop (4 * i)).take 4) (i := k) (by omega)
        have hx2 : p[4 * i + k]? = some x := by
          rw [List.getElem?_take, if_pos (by omega), List.getElem?_drop] at hx; exact hx
        refine Req.bnd ⟨by omega, by omega⟩ ?_
        rw [show slBase (some (⟨a3, 0, none⟩ : Addr)) 64 (4 * i) 1 = some ((⟨a3, 0, none⟩ : Addr).add (4 * i * 1)) by unfold slBase; rw [if_neg (by omega)]; rfl]
        refine TSome.mk ?_
        rw [Int.toNat_natCast, Int.toNat_natCast, addr_add, addr_add a3]
        refine LoadC.at (view_sub _ _ _) b2 (v := .int .u8 (x.toNat : Int)) (by rw [show 0 + 4 * i * 1 + k * 1 = 4 * i + k by omega]; exact bvs_at hx2) (TInt.mk ?_)
        refine Req.bnd ⟨by omega, by omega⟩ (LoadC.ad (view_sub _ _ _) (.int .u32 ((num (((p.drop (4 * i)).take 4).take k) : Nat) : Int)) b5 (by rw [Nat.mul_one]; exact uvs_at (by rw [List.getElem?_set_self (by omega)])) (TInt.mk ?_))
        rw [wrap_u32 (n := ((x.toNat : Nat) : Int)) (by omega) (by have := x.toNat_lt; omega), word_next (by rw [List.length_take]; omega)]
        refine Req.bnd ⟨by omega, by omega⟩ (storeU b5 (by rw [List.length_set]; omega) fun w7 _ st7 b5 => ?_)
        replace S := S.go st7 (by decide) (by decide); replace G := G.mono (st7.sub (by decide)); replace b1 := st7.sub (by decide) _ _ b1; replace b2 := st7.sub (by decide) _ _ b2; replace b3 := st7.sub (by decide) _ _ b3
        rw [wrap_i64 (by omega) (by omega)]
        refine back2 _ (by omega) ⟨S, G, b1, b2, b3, ?_⟩
        rw [Nat.mul_one, List.set_set] at b5
        rw [List.take_add_one, hx]
        exact b5
      · have : k = 4 := by omega
        subst this
        rw [wrap_i64 (by omega) (by omega)]
        refine back _ (by omega) ⟨S, G, b1, b2, ⟨z, hz, b3⟩, ?_⟩
        rw [List.take_of_length_le (by omega)] at b5
        rw [← upto_set hAB (x := word4 p i) (by rw [sched_get (by omega), if_pos (by omega)])]
        exact b5
    · refine DrewC.col c4 fun w8 st8 => ?_
      replace S := S.go st8 (by decide) (by decide); replace G := G.mono (st8.sub (by decide)); replace b1 := st8.sub (by decide) _ _ b1; replace b2 := st8.sub (by decide) _ _ b2; replace b3 := st8.sub (by decide) _ _ b3; replace b5 := st8.sub (by decide) _ _ b5
      have d2 : IntKind.wrap .i64 ((i : Int) - 2) = ((i - 2 : Nat) : Int) := i64_n i 2 (by omega) (by omega)
      have d7 : IntKind.wrap .i64 ((i : Int) - 7) = ((i - 7 : Nat) : Int) := i64_n i 7 (by omega) (by omega)
      have d15 : IntKind.wrap .i64 ((i : Int) - 15) = ((i - 15 : Nat) : Int) := i64_n i 15 (by omega) (by omega)
      have d16 : IntKind.wrap .i64 ((i : Int) - 16) = ((i - 16 : Nat) : Int) := i64_n i 16 (by omega) (by omega)
      rw [d2, d7, d15, d16]
      simp only [Int.toNat_natCast, Nat.mul_one]
      have get : ∀ k, k < i → (uvs (upto (sched p 64) (List.replicate 64 (0 : Int)) i)).toArray[k]? = some (.int .u32 ((sched p i).getD k 0)) := fun k hk => uvs_at (by rw [upto_lt hk (by omega), sched_at hk (by omega)])
      refine Req.bnd ⟨by omega, by omega⟩ (LoadC.ad (view_sub _ _ _) _ b5 (get (i - 2) (by omega)) (TInt.mk ?_))
      refine Req.bnd ⟨by omega, by omega⟩ (LoadC.ad (view_sub _ _ _) _ b5 (get (i - 7) (by omega)) (TInt.mk ?_))
      refine Req.bnd ⟨by omega, by omega⟩ (LoadC.ad (view_sub _ _ _) _ b5 (get (i - 15) (by omega)) (TInt.mk ?_))
      refine Req.bnd ⟨by omega, by omega⟩ (LoadC.ad (view_sub _ _ _) _ b5 (get (i - 16) (by omega)) (TInt.mk ?_))
      refine turn_c (by omega) (by omega) (by omega) (TInt.mk ?_)
      refine ⟨StableC.ad (view_sub _ _ _) b5 (get _ (by omega)), StableC.ad (view_sub _ _ _) b5 (get _ (by omega)), StableC.ad (view_sub _ _ _) b5 (get _ (by omega)), ?_⟩
      refine turn_c (by omega) (by omega) (by omega) (TInt.mk ?_)
      refine ⟨StableC.ad (view_sub _ _ _) b5 (get _ (by omega)), StableC.ad (view_sub _ _ _) b5 (get _ (by omega)), ?_⟩
      refine Req.bnd ⟨by omega, by omega⟩ (storeU b5 (by omega) fun w9 _ st9 b5 => ?_)
      replace S := S.go st9 (by decide) (by decide); replace G := G.mono (st9.sub (by decide)); replace b1 := st9.sub (by decide) _ _ b1; replace b2 := st9.sub (by decide) _ _ b2; replace b3 := st9.sub (by decide) _ _ b3
      rw [wrap_i64 (by omega) (by omega)]
      refine back _ (by omega) ⟨S, G, b1, b2, ⟨z, hz, b3⟩, ?_⟩
      rw [upto_set hAB (by rw [sched_get (by omega), if_neg (by omega)]; rfl)] at b5
      exact b5
  · have : i = 64 := by omega
    subst this
    rw [upto_full 64 (by omega) (by omega)] at b5
    clear back
    refine LoadA.all (view_sub _ _ _) b1 (by simp [hst]) ?_
    refine AllocC.col c4 5 fun a9 c6 w6 st6 b9 _ => ?_
    replace S := S.go st6.step (by decide) (by decide); replace G := G.mono (st6.step.sub (by decide)); replace b1 := st6.step.sub (by decide) _ _ b1; replace b2 := st6.step.sub (by decide) _ _ b2; replace b3 := st6.step.sub (by decide) _ _ b3; replace b5 := st6.step.sub (by decide) _ _ b5
    refine RunU.var b9 (by rw [show (uvs st).toArray.size = 8 by simp [hst]]; kernel_rfl) (by simp [hst]) (uvs_all _) fun w7 st7 b9 => ?_
    replace S := S.go st7.step (by decide) (by decide); replace G := G.mono (st7.step.sub (by decide)); replace b1 := st7.step.sub (by decide) _ _ b1; replace b2 := st7.step.sub (by decide) _ _ b2; replace b3 := st7.step.sub (by decide) _ _ b3; replace b5 := st7.step.sub (by decide) _ _ b5
    obtain ⟨⟨TG, fzG, g1⟩, _⟩ := id G
    refine LoadA.all (view_sub _ _ _) g1 (by simp; rfl) ?_
    refine LoopI.up 64 (fun i w' => Fr w c6 w' ∧ GlobS (view c6 0 w') ∧ view c6 1 w' a2 = some (.cells (uvs st).toArray 160 (0, 0)) ∧ view c6 3 w' a4 = some (.cells (uvs z).toArray 160 (0, 0)) ∧ view c6 4 w' a5 = some (.cells (uvs (sched p 64)).toArray 158 (0, 0)) ∧
      view c6 5 w' a9 = some (.cells (uvs (rnds st (sched p 64) i)).toArray 160 (0, 0))) ⟨S, G, b1, b3, b5, b9⟩ ?_
    clear S G b1 b2 b3 b5 b9 g1
    rintro i w14 K3 hi ⟨S, G, b1, b3, b5, b9⟩ back
    refine BS.dec (fun hlt => ?_) (fun hge => ?_)
    · have hK : (uvs K32).toArray[(i : Int).toNat * 1]? = some (.int .u32 (K32.getD i 0)) := by
        rw [Int.toNat_natCast, Nat.mul_one]; exact uvs_at (by rw [List.getD_eq_getElem?_getD, List.getElem?_eq_getElem (show i < K32.length from by show i < 64; omega)]; rfl)
      have hWi : (uvs (sched p 64)).toArray[(i : Int).toNat * 1]? = some (.int .u32 ((sched p 64).getD i 0)) := by
        rw [Int.toNat_natCast, Nat.mul_one]; exact uvs_at (by rw [List.getD_eq_getElem?_getD, List.getElem?_eq_getElem (by omega)]; rfl)
      refine Req.bnd ⟨by omega, by omega⟩ (TCell.mk hK (TInt.mk ?_))
      refine DrewC.col c6 fun w15 st15 => ?_
      replace S := S.go st15 (by decide) (by decide); replace G := G.mono (st15.sub (by decide)); replace b1 := st15.sub (by decide) _ _ b1; replace b3 := st15.sub (by decide) _ _ b3; replace b5 := st15.sub (by decide) _ _ b5; replace b9 := st15.sub (by decide) _ _ b9
      obtain ⟨s0, s1, s2, s3, s4, s5, s6, s7, hv⟩ := eight (v := rnds st (sched p 64) i) (by rw [rnds_length, hst])
      rw [hv] at b9
      (repeat (first | refine TInt.mk ?_ | refine TBool.mk ?_ | refine TStr.mk ?_ | refine TSl.mk ?_ | refine TPtr.mk ?_ | refine TAgg.mk ?_ | refine T2.mk ?_ | refine T3.mk ?_ | refine TSome.mk ?_ | refine LoadC.ad (view_sub _ _ _) _ (by assumption) rfl ?_))
      refine DrewC.col c6 fun w16 st16 => ?_
      replace S := S.go st16 (by decide) (by decide); replace G := G.mono (st16.sub (by decide)); replace b1 := st16.sub (by decide) _ _ b1; replace b3 := st16.sub (by decide) _ _ b3; replace b5 := st16.sub (by decide) _ _ b5; replace b9 := st16.sub (by decide) _ _ b9
      (repeat (first | refine TInt.mk ?_ | refine TBool.mk ?_ | refine TStr.mk ?_ | refine TSl.mk ?_ | refine TPtr.mk ?_ | refine TAgg.mk ?_ | refine T2.mk ?_ | refine T3.mk ?_ | refine TSome.mk ?_ | refine LoadC.ad (view_sub _ _ _) _ (by assumption) rfl ?_))
      refine Req.bnd ⟨by omega, by omega⟩ (LoadC.ad (view_sub _ _ _) _ b5 hWi (TInt.mk ?_))
      refine turn_c (by omega) (by omega) (by omega) (TInt.mk ?_)
      refine ⟨StableC.ad (view_sub _ _ _) b9 rfl, StableC.ad (view_sub _ _ _) b5 hWi, ?_⟩
      refine DrewC.col c6 fun w18 st18 => ?_
      replace S := S.go st18 (by decide) (by decide); replace G := G.mono (st18.sub (by decide)); replace b1 := st18.sub (by decide) _ _ b1; replace b3 := st18.sub (by decide) _ _ b3; replace b5 := st18.sub (by decide) _ _ b5; replace b9 := st18.sub (by decide) _ _ b9
      rw [show slBase (some (⟨a9, 0, none⟩ : Addr)) 8 1 1 = slBase (some ((⟨a9, 0, none⟩ : Addr).add 1)) 7 0 1 by rw [slBase_whole]; rfl, show slBase (some (⟨a9, 0, none⟩ : Addr)) 8 0 1 = some (⟨a9, 0, none⟩ : Addr) from slBase_whole _ _ _]
      refine copy_arr (e := 157) (m := 7) (ys := uvs [s0, s1, s2, s3, s4, s5, s6]) (cs := uvs [s0, s1, s2, s3, s4, s5, s6, s7]) Tryd.underlying176 (by kernel_rfl) b9 (by simp) ?_ (Nat.le_refl _) (uvs_one _) fun w19 _ st19 b9 => TInt.mk ?_
      · exact ⟨_, _, rfl, by omega, rfl, .inr ⟨a9, 0, _, _, _, rfl, (view_sub _ _ _ _ _ b9), fun k u hu => by
          match k, hu with
          | 0, hu => exact hu
          | 1, hu => exact hu
          | 2, hu => exact hu
          | 3, hu => exact hu
          | 4, hu => exact hu
          | 5, hu => exact hu
          | 6, hu => exact hu
          | n + 7, hu => simp [uvs] at hu⟩⟩
      replace S := S.go st19 (by decide) (by decide); replace G := G.mono (st19.sub (by decide)); replace b1 := st19.sub (by decide) _ _ b1; replace b3 := st19.sub (by decide) _ _ b3; replace b5 := st19.sub (by decide) _ _ b5
      replace b9 : view c6 5 w19 a9 = some (.cells (uvs [s0, s0, s1, s2, s3, s4, s5, s6]).toArray 160 (0, 0)) := b9
      (repeat (first | refine TInt.mk ?_ | refine TBool.mk ?_ | refine TStr.mk ?_ | refine TSl.mk ?_ | refine TPtr.mk ?_ | refine TAgg.mk ?_ | refine T2.mk ?_ | refine T3.mk ?_ | refine TSome.mk ?_ | refine LoadC.ad (view_sub _ _ _) _ (by assumption) rfl ?_))
      refine storeU b9 (by simp) fun w20 _ st20 b9 => ?_
      replace S := S.go st20 (by decide) (by decide); replace G := G.mono (st20.sub (by decide)); replace b1 := st20.sub (by decide) _ _ b1; replace b3 := st20.sub (by decide) _ _ b3; replace b5 := st20.sub (by decide) _ _ b5
      refine turn_c (by omega) (by omega) (by omega) (TInt.mk ?_)
      refine storeU b9 (by simp) fun w21 _ st21 b9 => ?_
      replace S := S.go st21 (by decide) (by decide); replace G := G.mono (st21.sub (by decide)); replace b1 := st21.sub (by decide) _ _ b1; replace b3 := st21.sub (by decide) _ _ b3; replace b5 := st21.sub (by decide) _ _ b5
      rw [wrap_i64 (by omega) (by omega)]
      refine back _ (by omega) ⟨S, G, b1, b3, b5, ?_⟩
      rw [rnds, hv]
      exact b9
    · have : i = 64 := by omega
      subst this
      clear back
      have hr : (rnds st (sched p 64) 64).length = 8 := by rw [rnds_length, hst]
      have hmx : (mixS st p).length = (rnds st (sched p 64) 64).length := by rw [hr]; exact mixS_length hst p
      refine LoadA.all (view_sub _ _ _) b1 (by simp [hst]) ?_
      refine LoopI.up 8 (fun i w' => Fr w c6 w' ∧ view c6 3 w' a4 = some (.cells (uvs z).toArray 160 (0, 0)) ∧
        view c6 5 w' a9 = some (.cells (uvs (upto (mixS st p) (rnds st (sched p 64) 64) i)).toArray 160 (0, 0))) ⟨S, b3, by rw [upto_zero]; exact b9⟩ ?_
      clear S G b1 b3 b5 b9
      rintro i w23 K4 hi ⟨S, b3, b9⟩ back
      refine BS.dec (fun hlt => ?_) (fun hge => ?_)
      · obtain ⟨x, hx⟩ := get_of_lt (l := st) (i := i) (by omega)
        obtain ⟨y, hy⟩ := get_of_lt (l := rnds st (sched p 64) 64) (i := i) (by omega)
        rw [Int.toNat_natCast, Nat.mul_one]
        refine Req.bnd ⟨by omega, by omega⟩ (TCell.mk (uvs_at hx) (TInt.mk ?_))
        refine Req.bnd ⟨by omega, by omega⟩ (LoadC.ad (view_sub _ _ _) _ b9 (uvs_at (by rw [upto_ge (Nat.le_refl _) (by omega)]; exact hy)) (TInt.mk ?_))
        refine Req.bnd ⟨by omega, by omega⟩ (storeU b9 (by rw [upto_length hmx]; omega) fun w24 _ st24 b9 => ?_)
        replace S := S.go st24 (by decide) (by decide); replace b3 := st24.sub (by decide) _ _ b3
        rw [wrap_i64 (by omega) (by omega)]
        refine back _ (by omega) ⟨S, b3, ?_⟩
        rw [upto_set hmx (by unfold mixS; rw [List.getElem?_zipWith, hx, hy]; rfl)] at b9
        exact b9
      · have : i = 8 := by omega
        subst this
        rw [upto_full 8 (by omega) (by omega)] at b9
        have hm8 : (mixS st p).length = 8 := mixS_length hst p
        refine LoadA.all (view_sub _ _ _) b9 (by simp [hm8]) ?_
        refine RunU.var b3 (by rw [show (uvs (mixS st p)).toArray.size = 8 by simp [hm8]]; kernel_rfl) (by simp [hz, hm8]) (uvs_all _) fun w25 st25 b3 => ?_
        replace S := S.go st25.step (by decide) (by decide)
        refine LoadA.all (view_sub _ _ _) b3 (by simp [hm8]) ?_
        exact h _ _ (S.leave c j)
end Go.Proofs.YtdjgdcafmfheoaaDoor
set_option linter.unusedVariables false
set_option linter.unusedSimpArgs false
namespace Go.Proofs.YtdjgdcafmfheoaaDoor
open Go.Vc
attribute [local irreducible] TInt TBool TStr TPtr TSl TAgg TMap TChan T2 T3 T4 BS Req TSome TCell TByte LoadC LoadA StoreC AllocC RunV RunU CallV ExtV EqA StableC StableA StableV TCells ReadV
attribute [local irreducible] DrewC

def hcells (st : List Int) (v : Value) (n : Int) : List Value := uvs st ++ [v, .int .u64 n]
theorem hc_len {st : List Int} (h : st.length = 8) (v : Value) (n : Int) : (hcells st v n).length = 10 := by simp [hcells, h]
theorem hc8 {st : List Int} (h : st.length = 8) (v : Value) (n : Int) : (hcells st v n).toArray[8]? = some v := by
  obtain ⟨a, b, c, d, e, f, g, k, rfl⟩ := eight h; rfl
theorem hc9 {st : List Int} (h : st.length = 8) (v : Value) (n : Int) : (hcells st v n).toArray[9]? = some (.int .u64 n) := by
  obtain ⟨a, b, c, d, e, f, g, k, rfl⟩ := eight h; rfl
theorem hs8 {st : List Int} (h : st.length = 8) (v u : Value) (n : Int) : (hcells st v n).toArray.setIfInBounds 8 u = (hcells st u n).toArray := by
  obtain ⟨a, b, c, d, e, f, g, k, rfl⟩ := eight h; rfl
theorem hs9 {st : List Int} (h : st.length = 8) (v : Value) (n m : Int) : (hcells st v n).toArray.setIfInBounds 9 (.int .u64 m) = (hcells st v m).toArray := by
  obtain ⟨a, b, c, d, e, f, g, k, rfl⟩ := eight h; rfl
theorem hc0 {st : List Int} (h : st.length = 8) (v : Value) (n : Int) (j : Nat) (u : Value) (hu : (uvs st)[j]? = some u) : (hcells st v n).toArray[0 + j]? = some u := by
  have := lt_of_get hu
  rw [Nat.zero_add, List.getElem?_toArray]
  unfold hcells
  rw [List.getElem?_append_left this]; exact hu
theorem hst {st s2 : List Int} (h : st.length = 8) (h2 : s2.length = 8) (v : Value) (n : Int) : (hcells st v n).take 0 ++ uvs s2 ++ (hcells st v n).drop (0 + (uvs s2).length) = hcells s2 v n := by
  unfold hcells
  rw [List.take_zero, List.nil_append, Nat.zero_add, uvs_length, h2, ← h, ← uvs_length st, List.drop_left]
def HashV (h : View) (a : Addr) (l : List UInt8) (n : Nat) : Prop := ∃ b v, a = ⟨b, 0, none⟩ ∧ h b = some (.cells (hcells (digS l) v n).toArray 171 (0, 0)) ∧ OwO h v 5 (restS l).length (bvs (restS l))
theorem HashV.mono {h h' : View} {a : Addr} {l : List UInt8} {n : Nat} (hp : HashV h a l n) (hs : Sub h h') : HashV h' a l n := by
  obtain ⟨b, v, e, hb, ho⟩ := hp; exact ⟨b, v, e, hs _ _ hb, ho.mono hs⟩
theorem OwO.keep {c c' : Nat → Nat} {i : Nat} {w w' : World} {row : Option Nat} (hW : Wr c i w c' w' row) {v : Value} {T n : Nat} {xs : List Value} (ho : OwO (view c i w) v T n xs) (hne : ∀ b, row = some b → ∀ cur, view c i w b ≠ some (.cells cur T (0, 0))) : OwO (view c' i w') v T n xs := by
  refine ⟨ho.1, ho.2.imp id ?_⟩
  rintro ⟨g, off, cap, cur, e, hg, r⟩
  exact ⟨g, off, cap, cur, e, hW.old g _ hg (fun e' => hne g e' _ hg), r⟩
theorem notU8 {h : View} {b : Nat} {cs : Array Value} (hb : h b = some (.cells cs 171 (0, 0))) : ∀ b', some b = some b' → ∀ cur, h b' ≠ some (.cells cur 5 (0, 0)) := by
  rintro _ e cur hc
  cases e
  rw [hb] at hc
  simp at hc

theorem Add_c {c : Nat → Nat} {i k g : Nat} {w : World} {a : Addr} {l ys : List UInt8} {n : Nat} {v : Value} {R : Value → World → Prop} (hp : HashV (view c i w) a l n) (hr : RdS (view c k w) v 1 ys.length (bvs ys)) (hk : k ≠ i)
    (hG : GlobS (view c g w)) (hg : g ≠ i) (hm : ys.length ≤ 1099511627776) (hn : n ≤ 1099511627776)
    (h : ∀ c' w', Step c [i] [i] w c' w' → HashV (view c' i w') a (l ++ ys) (n + ys.length) → R (.tuple #[]) w') : CallV Tryd.prog 89 #[.pointer (some a), v] w R := by
  obtain ⟨b, v0, rfl, hb, ho⟩ := hp
  obtain ⟨o1, p1, rfl⟩ := hr.form
  have hd := digS_length l
  refine sha_Hasher_Add_vc ?_
  unfold sha_Hasher_Add_VC
  refine LoadC.ad (view_sub _ _ _) _ hb (hc9 hd _ _) (TInt.mk ?_)
  rw [wrap_u64 (n := ((ys.length : Nat) : Int)) (by omega) (by omega), wrap_u64 (by omega) (by omega)]
  refine StoreC.ad hb (by simp [hc_len hd]) fun w1 hW1 st1 hb1 => ?_
  rw [hs9 hd] at hb1
  replace ho := OwO.keep hW1 ho (notU8 hb)
  replace hr := hr.mono (st1.sub (by simpa using hk))
  replace hG := hG.mono (st1.sub (by simpa using hg))
  refine LoadC.ad (view_sub _ _ _) _ hb1 (hc8 hd _ _) ?_
  obtain ⟨o0, p0, rfl⟩ := ho.form
  refine TSl.mk ?_
  have hrl := restS_length l
  refine appO slU8 ho (hr.mono (view_sub _ _ _)) (bvs_one _) (by omega) fun v2 c2 w2 r2 hW2 hr2 ho2 => ?_
  have hb2 := hW2.old b _ hb1 (fun e => by obtain ⟨cur, hc⟩ := hr2 b e; rw [hb1] at hc; simp at hc)
  replace hG := hG.mono (hW2.step.sub (by simpa using hg))
  obtain ⟨o2, p2, rfl⟩ := ho2.form
  refine TSl.mk ?_
  refine StoreC.ad hb2 (by simp [hc_len hd]) fun w3 hW3 st3 hb3 => ?_
  rw [hs8 hd] at hb3
  replace ho2 := OwO.keep hW3 ho2 (notU8 hb2)
  replace hG := hG.mono (st3.sub (by simpa using hg))
  have S3 : Step c [i] [i] w c2 w3 := ((st1.weak (by simp) (by simp)).trans hW2.step).trans (st3.weak (by simp) (by simp))
  rw [← bvs_append, ← List.length_append] at ho2
  rw [← List.length_append] at hb3
  generalize hM : restS l ++ ys = M at ho2 hb3
  have hMl : M.length ≤ 1099511627776 + 64 := by rw [← hM, List.length_append]; omega
  refine Loop0.up (M.length / 64) (fun q w' => ∃ c' u, Step c [i] [i] w c' w' ∧ GlobS (view c' g w') ∧ view c' i w' b = some (.cells (hcells (absN q (digS l) M) u ((n + ys.length : Nat) : Int)).toArray 171 (0, 0)) ∧
    OwO (view c' i w') u 5 (M.drop (64 * q)).length (bvs (M.drop (64 * q)))) ⟨c2, _, S3, hG, by rw [Int.natCast_add]; exact hb3, ho2⟩ ?_
  clear hb hb1 hb2 hb3 ho ho2 hG hr S3 hW1 hW2 hW3 st1 st3 hr2
  rintro q w4 B hq ⟨c4, u, S, hG, hb, ho⟩ back
  have hdq : (absN q (digS l) M).length = 8 := absN_length hd
  obtain ⟨ou, pu, rfl⟩ := ho.form
  refine LoadC.ad (view_sub _ _ _) _ hb (hc8 hdq _ _) (TSl.mk ?_)
  have hdl : (M.drop (64 * q)).length = M.length - 64 * q := List.length_drop
  refine BS.dec (fun hge => ?_) (fun hlt => ?_)
  · refine DrewC.col c4 fun w5 st5 => ?_
    replace hG := hG.mono (st5.sub (by simp))
    replace hb := st5.sub (by simp) _ _ hb
    replace ho := ho.mono (st5.sub (by simp))
    refine LoadA.part (k := 0) (view_sub _ _ _) hb (es := uvs (absN q (digS l) M)) (by simp [hdq]) (hc0 hdq _ _) ?_
    refine LoadC.ad (view_sub _ _ _) _ hb (hc8 hdq _ _) (TSl.mk ?_)
    have hcap := ho.len
    refine Req.bndle ⟨by omega, by omega⟩ ?_
    obtain ⟨b', off, cs, T, fz, rfl, hb', hcs⟩ := ho.rd.base (by
      intro e
      have := congrArg List.length e
      rw [bvs_length] at this
      simp at this; omega)
    rw [slBase_whole]
    refine TSome.mk ?_
    refine LoadA.at (view_sub _ _ _) hb' (es := bvs ((M.drop (64 * q)).take 64)) (by simp; omega) (fun j x hx => hcs j x (by
      rw [bvs_take, List.getElem?_take] at hx
      split at hx
      · exact hx
      · simp at hx)) ?_
    refine mix_c c4 i hdq (by rw [List.length_take]; omega) (hG.mono (view_sub _ _ _)) fun c6 w6 st6 => TAgg.mk ?_
    replace hG := hG.mono (st6.sub (by simp))
    replace hb := st6.sub (by simp) _ _ hb
    replace ho := ho.mono (st6.sub (by simp))
    have hd2 : (mixS (absN q (digS l) M) ((M.drop (64 * q)).take 64)).length = 8 := mixS_length hdq _
    refine RunU.part (k := 0) hb (by rw [uvs_length, hd2]; kernel_rfl) (by rw [uvs_length, hd2, hc_len hdq]; omega) (uvs_one _) fun w7 hW7 st7 hb7 => ?_
    rw [hst hdq hd2] at hb7
    replace ho := OwO.keep hW7 ho (notU8 hb)
    replace hG := hG.mono (st7.sub (by simpa using hg))
    refine LoadC.ad (view_sub _ _ _) _ hb7 (hc8 hd2 _ _) (TSl.mk ?_)
    refine Req.bndle ⟨by omega, by omega⟩ ?_
    refine StoreC.ad hb7 (by simp [hc_len hd2]) fun w8 hW8 st8 hb8 => ?_
    rw [hs8 hd2] at hb8
    replace ho := OwO.keep hW8 ho (notU8 hb7)
    replace hG := hG.mono (st8.sub (by simpa using hg))
    have ho8 := ho.drop (k := 64) (by omega)
    rw [← bvs_drop, List.drop_drop] at ho8
    have e1 : (M.drop (64 * q)).length - 64 = (M.drop (64 * (q + 1))).length := by rw [List.length_drop, List.length_drop]; omega
    have e2 : absN (q + 1) (digS l) M = mixS (absN q (digS l) M) ((M.drop (64 * q)).take 64) := by rw [absN_add]; rfl
    rw [e1, show 64 * q + 64 = 64 * (q + 1) by omega] at ho8
    rw [e1] at hb8
    refine back _ (by omega) ⟨c6, _, S.trans ((st5.weak (by simp) (by simp)).trans ((st6.weak (by simp) (by simp)).trans ((st7.weak (by simp) (by simp)).trans (st8.weak (by simp) (by simp))))), hG, ?_, ho8⟩
    rw [e2]; exact hb8
  · have hq2 : q = M.length / 64 := by omega
    have hq3 := dig_end (l := l) (b := ys) (k := q) (by rw [hM]; omega) (by rw [hM]; omega)
    rw [hM] at hq3
    rw [hq3.1] at hb
    rw [hq3.2] at ho hb
    exact h _ _ S ⟨b, _, rfl, hb, ho⟩

theorem placesHash : placesB Tryd.prog 171 = some (uvs (List.replicate 8 0) ++ [.slice none 0 0, .int .u64 0], [(0, 8), (8, 1), (9, 1)]) := by kernel_rfl
theorem built_hash {st : List Int} (h : st.length = 8) : buildCells Tryd.prog 171 [(0, .agg (uvs st).toArray)] = some (hcells st (.slice none 0 0) 0).toArray := by
  unfold buildCells
  rw [built_of placesHash]
  rw [fill_cons (off := 0) (vs := uvs st) (by simp [h]) rfl (by simp [h])]
  simp [Instr.fill, h, hcells, uvs]
theorem built_hash2 {st : List Int} (h : st.length = 8) (v : Value) (hv : v.cells = #[v]) : buildCells Tryd.prog 171 [(0, .agg (uvs st).toArray), (1, v)] = some (hcells st v 0).toArray := by
  unfold buildCells
  rw [built_of placesHash]
  rw [fill_cons (off := 0) (vs := uvs st) (by simp [h]) rfl (by simp [h])]
  rw [fill_cons (off := 8) (vs := [v]) rfl (by rw [hv]) (by simp [h])]
  obtain ⟨a, b, c, d, e, f, g, k, rfl⟩ := eight h
  rfl

theorem New_c (c : Nat → Nat) (j : Nat) {w : World} {R : Value → World → Prop} (hG : GlobS (wv w))
    (h : ∀ p c' w', Step c [] [j] w c' w' → HashV (view c' j w') ⟨p, 0, none⟩ [] 0 → R (.pointer (some ⟨p, 0, none⟩)) w') : CallV Tryd.prog 88 #[] w R := by
  refine sha_New_vc ?_
  unfold sha_New_VC
  obtain ⟨_, T, fz, g⟩ := hG
  refine LoadA.all (Sub.refl _) g (by simp; rfl) ?_
  refine TCells.mk (built_hash rfl) ?_
  refine AllocC.col c j fun p c1 w1 st1 b1 _ => h p c1 w1 st1.fresh ⟨p, _, rfl, b1, ?_⟩
  exact OwO.of (OwS.nil ..)

theorem storeBy {c : Nat → Nat} {i : Nat} {w : World} {b k : Nat} {l : List UInt8} {T : Nat} {x : UInt8} {C : World → Prop} (hb : view c i w b = some (.cells (bvs l).toArray T (0, 0))) (hk : k < l.length)
    (h : ∀ w', Wr c i w c w' (some b) → Step c [i] [] w c w' → view c i w' b = some (.cells (bvs (l.set k x)).toArray T (0, 0)) → C w') : StoreC w ((⟨b, 0, none⟩ : Addr).add k) (.int .u8 (x.toNat : Int)) C :=
  StoreC.ad hb (by simpa using hk) fun w' h1 h2 h3 => h w' h1 h2 (by
    rw [toArray_set] at h3
    rw [show bvs (l.set k x) = (bvs l).set k (.int .u8 (x.toNat : Int)) by unfold bvs; rw [List.map_set]; rfl]
    exact h3)
theorem outB_get (st : List Int) {i k : Nat} (hi : i < 8) (hk : k < 4) : (outB st)[4 * i + k]? = some (outI st i k) := by
  unfold outB
  rw [List.getElem?_map, List.getElem?_range (by omega)]
  simp only [Option.map_some]
  rw [show (4 * i + k) / 4 = i by omega, show (4 * i + k) % 4 = k by omega]
end Go.Proofs.YtdjgdcafmfheoaaDoor
set_option linter.unusedVariables false
set_option linter.unusedSimpArgs false
namespace Go.Proofs.YtdjgdcafmfheoaaDoor
open Go.Vc
attribute [local irreducible] TInt TBool TStr TPtr TSl TAgg TMap TChan T2 T3 T4 BS Req TSome TCell TByte LoadC LoadA StoreC AllocC RunV RunU CallV ExtV EqA StableC StableA StableV TCells ReadV
attribute [local irreducible] DrewC

theorem arrH : ArrT Tryd.prog 25 32 := .of (by kernel_rfl)
theorem EqA.hash_eq {x y : Operand} {l m : List UInt8} (hl : l.length = 32) (hm : m.length = 32) {C : Bool → Prop} (h : C (decide (l = m))) : EqA Tryd.prog .eql 25 x y (.agg (bvs l).toArray) (.agg (bvs m).toArray) C :=
  EqA.bytes_eq arrH (by kernel_rfl) hl hm h
theorem EqA.hash_ne {x y : Operand} {l m : List UInt8} (hl : l.length = 32) (hm : m.length = 32) {C : Bool → Prop} (h : C (!decide (l = m))) : EqA Tryd.prog .neq 25 x y (.agg (bvs l).toArray) (.agg (bvs m).toArray) C :=
  EqA.bytes_ne arrH (by kernel_rfl) hl hm h
theorem HashV.get {h : View} {a : Addr} {l : List UInt8} {n : Nat} (hp : HashV h a l n) : ∃ b o p, a = ⟨b, 0, none⟩ ∧ h b = some (.cells (hcells (digS l) (.slice o (restS l).length p) n).toArray 171 (0, 0)) ∧ OwO h (.slice o (restS l).length p) 5 (restS l).length (bvs (restS l)) := by
  obtain ⟨b, v, e, hb, ho⟩ := hp
  obtain ⟨o, p, rfl⟩ := ho.form
  exact ⟨b, o, p, e, hb, ho⟩

theorem hc_all (st : List Int) {v : Value} (hv : v.oneCell' = true) (n : Int) : (hcells st v n).toArray.all (·.oneCell') = true := by
  rw [Array.all_eq_true']
  intro u hu
  simp only [hcells, List.mem_toArray, List.mem_append, List.mem_cons, List.not_mem_nil, or_false] at hu
  rcases hu with hu | rfl | rfl
  · exact uvs_one _ u hu
  · exact hv
  · rfl
theorem Sum_K (c0 : Nat → Nat) (j : Nat) {w w0 : World} {c : Nat → Nat} {a : Addr} {a2 a3 : Nat} {l : List UInt8} {R : Value → World → Prop} (S : Fr w0 c w) (G : GlobS (view c 0 w)) (D : HashV (view c 0 w) a l l.length)
    (b2 : view c 1 w a2 = some (.cells (bvs (List.replicate 32 0)).toArray 25 (0, 0))) (E : HashV (view c 2 w) ⟨a3, 0, none⟩ l 0) (hl : l.length ≤ 1099511627776)
    (h : ∀ c' w', Step c0 [] [j] w0 c' w' → R (.agg (bvs (shaB l)).toArray) w') : sha_Hasher_Sum_K1 a ⟨a2, 0, none⟩ ⟨a3, 0, none⟩ w R := by
  obtain ⟨b, o, p, rfl, bD, hoD⟩ := D.get
  clear D
  have hd := digS_length l
  have hrl := restS_length l
  unfold sha_Hasher_Sum_K1
  refine AllocC.col c 3 fun x c1 w1 st1 b3 _ => ?_
  replace S := S.go st1.step (by decide) (by decide); replace G := G.mono (st1.step.sub (by decide)); replace bD := st1.step.sub (by decide) _ _ bD; replace b2 := st1.step.sub (by decide) _ _ b2; replace E := E.mono (st1.step.sub (by decide))
  replace b3 : view c1 3 w1 x = some (.cells (bvs [128]).toArray 5 (0, 0)) := b3
  refine LoopS.up (padZ l.length) (fun i o' l' p' w' => ∃ c', Fr w0 c' w' ∧ GlobS (view c' 0 w') ∧ view c' 0 w' b = some (.cells (hcells (digS l) (.slice o (restS l).length p) l.length).toArray 171 (0, 0)) ∧ view c' 1 w' a2 = some (.cells (bvs (List.replicate 32 0)).toArray 25 (0, 0)) ∧ HashV (view c' 2 w') ⟨a3, 0, none⟩ l 0 ∧
    OwS (view c' 3 w') (.slice o' l' p') 5 1 (128 :: List.replicate i 0).length (bvs (128 :: List.replicate i 0))) ⟨c1, S, G, bD, b2, E, OwS.lit b3 _ (by simp) rfl (by simp [maxLen])⟩ ?_
  clear S G bD b2 E b3 hoD
  rintro i o4 l4 p4 w2 B hi ⟨c2, S, G, bD, b2, E, ho⟩ back
  have hl4 := ho.len.1
  have hpz := padZ_le l.length
  simp only [List.length_cons, List.length_replicate] at hl4
  refine LoadC.ad (view_sub _ _ _) _ bD (hc8 hd _ _) (TSl.mk ?_)
  rw [wrap_i64 (n := ((restS l).length : Int) + (l4 : Int)) (by omega) (by omega), wrap_i64 (by omega) (by omega)]
  have etm : Int.tmod (((restS l).length : Int) + (l4 : Int) + 8) 64 = (((l.length % 64 + (1 + i) + 8) % 64 : Nat) : Int) := by
    rw [hrl, hl4, Int.tmod_eq_emod_of_nonneg (by omega)]; omega
  rw [etm]
  refine BS.ne (fun hne => ?_) (fun he => ?_)
  · have hlt : i < padZ l.length := by
      rcases Nat.lt_or_ge i (padZ l.length) with h' | h'
      · exact h'
      · have : i = padZ l.length := by omega
        have h2 := pad_done (l.length % 64)
        have h3 : padZ (l.length % 64) = padZ l.length := by unfold padZ; omega
        rw [h3, ← this] at h2
        rw [h2] at hne; exact absurd rfl hne
    refine AllocC.col c2 4 fun y c3 w3 st3 b4 _ => ?_
    replace S := S.go st3.step (by decide) (by decide); replace G := G.mono (st3.step.sub (by decide)); replace bD := st3.step.sub (by decide) _ _ bD; replace b2 := st3.step.sub (by decide) _ _ b2; replace E := E.mono (st3.step.sub (by decide))
    replace ho := ho.mono (st3.step.sub (by decide))
    refine app_bytes slU8 ho (m := [0]) ((RdS.block (xs := bvs [0]) b4 rfl (Nat.le_refl _)).mono (view_sub _ _ _)) (by simp; omega) fun o5 p5 c5 w5 st5 ho => ?_
    replace S := S.go st5.step (by decide) (by decide); replace G := G.mono (st5.step.sub (by decide)); replace bD := st5.step.sub (by decide) _ _ bD; replace b2 := st5.step.sub (by decide) _ _ b2; replace E := E.mono (st5.step.sub (by decide))
    have e1 : (128 :: List.replicate i 0 ++ [0] : List UInt8) = 128 :: List.replicate (i + 1) 0 := by rw [List.replicate_succ']; rfl
    rw [e1] at ho ⊢
    exact TSl.mk (back _ _ _ _ hlt ⟨c5, S, G, bD, b2, E, ho⟩)
  · have hiz : i = padZ l.length := by
      rcases Nat.lt_or_ge i (padZ l.length) with h' | h'
      · have h3 : padZ (l.length % 64) = padZ l.length := by unfold padZ; omega
        have := pad_more (n := l.length % 64) (i := i) (by omega)
        omega
      · omega
    subst hiz
    clear back
    refine LoadC.ad (view_sub _ _ _) _ bD (hc9 hd _ _) (TInt.mk ?_)
    rw [wrap_u64 (n := ((l.length : Nat) : Int) * 8) (by omega) (by omega), show ((l.length : Nat) : Int) * 8 = ((l.length * 8 : Nat) : Int) by omega]
    refine LoopSI.down 8 rfl (fun i o' l' p' w' => ∃ c', Fr w0 c' w' ∧ GlobS (view c' 0 w') ∧ view c' 1 w' a2 = some (.cells (bvs (List.replicate 32 0)).toArray 25 (0, 0)) ∧ HashV (view c' 2 w') ⟨a3, 0, none⟩ l 0 ∧
      OwS (view c' 3 w') (.slice o' l' p') 5 1 (128 :: List.replicate (padZ l.length) 0 ++ (be (l.length * 8) 8).take i).length (bvs (128 :: List.replicate (padZ l.length) 0 ++ (be (l.length * 8) 8).take i))) ⟨c2, S, G, b2, E, by rw [List.take_zero, List.append_nil]; exact ho⟩ ?_
    clear S G bD b2 E ho
    rintro i o5 l5 p5 w5 B hi ⟨c5, S, G, b2, E, ho⟩ back
    refine BS.dec (fun hge => ?_) (fun hlt => ?_)
    · have e1 : IntKind.wrap .i64 (8 * (((8 : Nat) : Int) - 1 - (i : Int))) = 8 * ((7 - i : Nat) : Int) := by rw [wrap_i64 (by omega) (by omega)]; omega
      rw [e1, byte_of (by omega) (by omega), Int.toNat_natCast]
      refine Req.mk (by omega) ?_
      refine AllocC.col c5 4 fun y c6 w6 st6 b4 _ => ?_
      replace S := S.go st6.step (by decide) (by decide); replace G := G.mono (st6.step.sub (by decide)); replace b2 := st6.step.sub (by decide) _ _ b2; replace E := E.mono (st6.step.sub (by decide))
      replace ho := ho.mono (st6.step.sub (by decide))
      refine app_bytes slU8 ho (m := [byteAt (l.length * 8) (7 - i)]) ((RdS.block (xs := bvs [byteAt (l.length * 8) (7 - i)]) b4 rfl (Nat.le_refl _)).mono (view_sub _ _ _)) (by simp; omega) fun o7 p7 c7 w7 st7 ho => ?_
      replace S := S.go st7.step (by decide) (by decide); replace G := G.mono (st7.step.sub (by decide)); replace b2 := st7.step.sub (by decide) _ _ b2; replace E := E.mono (st7.step.sub (by decide))
      rw [List.append_assoc, ← be_take (l.length * 8) 8 i (by omega)] at ho ⊢
      rw [wrap_i64 (by omega) (by omega)]
      exact TSl.mk (back _ _ _ _ (by omega) ⟨c7, S, G, b2, E, ho⟩)
    · have : i = 8 := by omega
      subst this
      clear back
      have et : (128 :: List.replicate (padZ l.length) 0 ++ (be (l.length * 8) 8).take 8 : List UInt8) = tailS l.length := by rw [List.take_of_length_le (by simp)]; rfl
      rw [et] at ho
      have htl := tailS_length l.length
      refine Add_c (i := 2) (k := 3) (g := 0) E ho.rd (by decide) G (by decide) (by omega) (by omega) fun c8 w8 st8 E => ?_
      replace S := S.go st8 (by decide) (by decide); replace b2 := st8.sub (by decide) _ _ b2
      obtain ⟨b', o', p', e', bE, hoE⟩ := E.get
      simp only [Addr.mk.injEq, and_true] at e'
      subst e'
      have hde := digS_length (l ++ tailS l.length)
      refine LoadA.part (k := 0) (view_sub _ _ _) bE (es := uvs (digS (l ++ tailS l.length))) (by simp [hde]) (hc0 hde _ _) ?_
      have hol : (outB (digS (l ++ tailS l.length))).length = (List.replicate 32 (0 : UInt8)).length := by simp
      refine LoopI.up 8 (fun i w' => Fr w0 c8 w' ∧ view c8 1 w' a2 = some (.cells (bvs (upto (outB (digS (l ++ tailS l.length))) (List.replicate 32 0) (4 * i))).toArray 25 (0, 0))) ⟨S, by rw [Nat.mul_zero, upto_zero]; exact b2⟩ ?_
      clear S G b2 E bE hoE ho
      rintro i w9 B2 hi ⟨S, b2⟩ back
      refine BS.dec (fun hlt => ?_) (fun hge => ?_)
      · rw [Int.toNat_natCast, Nat.mul_one]
        refine Req.bnd ⟨by omega, by omega⟩ (TCell.mk (uvs_at (x := (digS (l ++ tailS l.length)).getD i 0) (by rw [List.getD_eq_getElem?_getD, List.getElem?_eq_getElem (by omega)]; rfl)) (TInt.mk ?_))
        refine LoopI.up 4 (fun k w' => Fr w0 c8 w' ∧ view c8 1 w' a2 = some (.cells (bvs (upto (outB (digS (l ++ tailS l.length))) (List.replicate 32 0) (4 * i + k))).toArray 25 (0, 0))) ⟨S, b2⟩ ?_
        clear S b2
        rintro k w10 B3 hk ⟨S, b2⟩ back2
        refine BS.dec (fun hlk => ?_) (fun hgk => ?_)
        · have e1 : IntKind.wrap .i64 (8 * IntKind.wrap .i64 (3 - (k : Int))) = 8 * (3 - (k : Int)) := by rw [wrap_i64 (n := 3 - (k : Int)) (by omega) (by omega), wrap_i64 (by omega) (by omega)]
          have e2 : IntKind.wrap .i64 (IntKind.wrap .i64 (4 * (i : Int)) + (k : Int)) = ((4 * i + k : Nat) : Int) := by rw [wrap_i64 (n := 4 * (i : Int)) (by omega) (by omega), wrap_i64 (by omega) (by omega)]; omega
          rw [e1, e2, outI_val, Int.toNat_natCast, Nat.mul_one]
          refine Req.mk (by omega) (Req.bnd ⟨by omega, by omega⟩ ?_)
          refine storeBy b2 (by rw [upto_length hol]; simp; omega) fun w11 _ st11 b2 => ?_
          replace S := S.go st11 (by decide) (by decide)
          rw [wrap_i64 (by omega) (by omega)]
          refine back2 _ (by omega) ⟨S, ?_⟩
          rw [upto_set hol (outB_get _ (by omega) (by omega))] at b2
          exact b2
        · have : k = 4 := by omega
          subst this
          rw [wrap_i64 (by omega) (by omega)]
          exact back _ (by omega) ⟨S, b2⟩
      · have : i = 8 := by omega
        subst this
        rw [upto_full _ (by simp) (by simp)] at b2
        have h32 : (bvs (outB (digS (l ++ tailS l.length)))).toArray.size = 32 := by simp
        refine LoadA.all (view_sub _ _ _) b2 h32 ?_
        refine RunU.var b2 (by rw [h32]; kernel_rfl) rfl (bvs_all _) fun w12 st12 b2 => ?_
        replace S := S.go st12.step (by decide) (by decide)
        refine LoadA.all (view_sub _ _ _) b2 h32 ?_
        exact h _ _ (S.leave c0 j)

theorem HSum_c (c : Nat → Nat) (j : Nat) {w : World} {a : Addr} {l : List UInt8} {R : Value → World → Prop} (hp : HashV (wv w) a l l.length) (hG : GlobS (wv w)) (hl : l.length ≤ 1099511627776)
    (h : ∀ c' w', Step c [] [j] w c' w' → R (.agg (bvs (shaB l)).toArray) w') : CallV Tryd.prog 90 #[.pointer (some a)] w R := by
  have G : GlobS (view (fun _ => 0) 0 w) := by rw [view0]; exact hG
  have D : HashV (view (fun _ => 0) 0 w) a l l.length := by rw [view0]; exact hp
  have S := Fr.start w
  have hd := digS_length l
  have hrl := restS_length l
  refine sha_Hasher_Sum_vc ?_
  unfold sha_Hasher_Sum_VC
  refine AllocC.col (fun _ => 0) 1 fun a2 c1 w1 st1 b2 _ => ?_
  replace S := S.go st1.step (by decide) (by decide); replace G := G.mono (st1.step.sub (by decide)); replace D := D.mono (st1.step.sub (by decide))
  replace b2 : view c1 1 w1 a2 = some (.cells (bvs (List.replicate 32 0)).toArray 25 (0, 0)) := b2
  refine DrewC.col c1 fun w2 st2 => ?_
  replace S := S.go st2 (by decide) (by decide); replace G := G.mono (st2.sub (by decide)); replace D := D.mono (st2.sub (by decide)); replace b2 := st2.sub (by decide) _ _ b2
  obtain ⟨b, oD, pD, rfl, bD, hoD⟩ := D.get
  refine LoadA.part (k := 0) (view_sub _ _ _) bD (es := uvs (digS l)) (by simp [hd]) (hc0 hd _ _) ?_
  refine LoadC.ad (view_sub _ _ _) _ bD (hc8 hd _ _) (TSl.mk ?_)
  have sA : ∀ {c' w'}, view c' 0 w' b = some (.cells (hcells (digS l) (.slice oD (restS l).length pD) l.length).toArray 171 (0, 0)) → StableA w' ((⟨b, 0, none⟩ : Addr).add 0) 8 (.agg (uvs (digS l)).toArray) := fun {c' w'} hb => StableA.part (view_sub c' 0 w') hb (by simp [hd]) (hc0 hd _ _)
  have sC : ∀ {c' w'}, view c' 0 w' b = some (.cells (hcells (digS l) (.slice oD (restS l).length pD) l.length).toArray 171 (0, 0)) → StableC w' ((⟨b, 0, none⟩ : Addr).add 8) (.slice oD (restS l).length pD) := fun {c' w'} hb => StableC.ad (view_sub c' 0 w') hb (hc8 hd _ _)
  refine ⟨?_, ?_⟩
  · refine AllocC.col c1 2 fun x c3 w3 st3 b3 _ => ?_
    replace S := S.go st3.step (by decide) (by decide); replace G := G.mono (st3.step.sub (by decide)); replace D := D.mono (st3.step.sub (by decide)); replace bD := st3.step.sub (by decide) _ _ bD; replace b2 := st3.step.sub (by decide) _ _ b2
    replace hoD := hoD.mono (st3.step.sub (by decide))
    refine ⟨sA bD, sC bD, ?_, ?_⟩
    · refine app_bytes slU8 (OwS.some_bytes b3) (hoD.rd.mono (view_sub _ _ _)) (by simp; omega) fun o4 p4 c4 w4 st4 r4 => ?_
      replace S := S.go st4.step (by decide) (by decide); replace G := G.mono (st4.step.sub (by decide)); replace D := D.mono (st4.step.sub (by decide)); replace bD := st4.step.sub (by decide) _ _ bD; replace b2 := st4.step.sub (by decide) _ _ b2
      refine TSl.mk ⟨sA bD, TCells.mk (built_hash2 hd _ rfl) ?_⟩
      rw [List.nil_append] at r4 ⊢
      refine AllocC.col c4 2 fun y c5 w5 st5 b5 _ => ?_
      replace S := S.go st5.step (by decide) (by decide); replace G := G.mono (st5.step.sub (by decide)); replace D := D.mono (st5.step.sub (by decide)); replace bD := st5.step.sub (by decide) _ _ bD; replace b2 := st5.step.sub (by decide) _ _ b2
      replace r4 := r4.mono st5.sub
      refine ⟨sA bD, sC bD, ?_⟩
      refine RunU.var b5 (by rw [show (hcells (digS l) (.slice o4 (restS l).length p4) 0).toArray.size = 10 by simp [hc_len hd]]; kernel_rfl) (by simp [hc_len hd]) (hc_all _ rfl _) fun w6 st6 b6 => ?_
      have r6 := OwO.keep st6 (OwO.of r4) (notU8 b5)
      replace S := S.go st6.step (by decide) (by decide); replace G := G.mono (st6.step.sub (by decide)); replace D := D.mono (st6.step.sub (by decide)); replace bD := st6.step.sub (by decide) _ _ bD; replace b2 := st6.step.sub (by decide) _ _ b2
      exact Sum_K c j S G D b2 ⟨y, _, rfl, b6, r6⟩ hl h
    · refine AllocC.col c3 2 fun y c5 w5 st5 b5 _ => ?_
      replace S := S.go st5.step (by decide) (by decide); replace G := G.mono (st5.step.sub (by decide)); replace D := D.mono (st5.step.sub (by decide)); replace bD := st5.step.sub (by decide) _ _ bD; replace b2 := st5.step.sub (by decide) _ _ b2
      replace b3 := st5.old _ _ b3 (by simp)
      replace hoD := hoD.mono (st5.step.sub (by decide))
      refine ⟨sA bD, sC bD, ?_⟩
      refine append_col slU8 (OwS.some_bytes b3) (hoD.rd.mono (view_sub _ _ _)) (bvs_one _) (by simp; omega) (by simp; omega) fun v4 c4 w4 st4 r4 _ => ?_
      have b5' := st4.old _ _ b5 (by simp [Value.ownBlock]; rintro rfl; rw [b5] at b3; simp at b3)
      replace S := S.go st4.step (by decide) (by decide); replace G := G.mono (st4.step.sub (by decide)); replace D := D.mono (st4.step.sub (by decide)); replace bD := st4.step.sub (by decide) _ _ bD; replace b2 := st4.step.sub (by decide) _ _ b2
      rw [← bvs_append, List.nil_append, List.length_nil, Nat.zero_add] at r4
      obtain ⟨o4, p4, rfl⟩ := r4.form
      refine TSl.mk ⟨sA bD, TCells.mk (built_hash2 hd _ rfl) ?_⟩
      refine RunU.var b5' (by rw [show (hcells (digS l) (.slice o4 (restS l).length p4) 0).toArray.size = 10 by simp [hc_len hd]]; kernel_rfl) (by simp [hc_len hd]) (hc_all _ rfl _) fun w6 st6 b6 => ?_
      have r6 := OwO.keep st6 (OwO.of r4) (notU8 b5')
      replace S := S.go st6.step (by decide) (by decide); replace G := G.mono (st6.step.sub (by decide)); replace D := D.mono (st6.step.sub (by decide)); replace bD := st6.step.sub (by decide) _ _ bD; replace b2 := st6.step.sub (by decide) _ _ b2
      exact Sum_K c j S G D b2 ⟨y, _, rfl, b6, r6⟩ hl h
  · refine AllocC.col c1 2 fun y c5 w5 st5 b5 _ => ?_
    replace S := S.go st5.step (by decide) (by decide); replace G := G.mono (st5.step.sub (by decide)); replace D := D.mono (st5.step.sub (by decide)); replace bD := st5.step.sub (by decide) _ _ bD; replace b2 := st5.step.sub (by decide) _ _ b2
    replace hoD := hoD.mono (st5.step.sub (by decide))
    refine ⟨sA bD, sC bD, ?_⟩
    refine AllocC.col c5 2 fun x c3 w3 st3 b3 _ => ?_
    replace b5 := st3.old _ _ b5 (by simp)
    replace S := S.go st3.step (by decide) (by decide); replace G := G.mono (st3.step.sub (by decide)); replace D := D.mono (st3.step.sub (by decide)); replace bD := st3.step.sub (by decide) _ _ bD; replace b2 := st3.step.sub (by decide) _ _ b2
    replace hoD := hoD.mono (st3.step.sub (by decide))
    refine ⟨sA bD, sC bD, ?_⟩
    refine append_col slU8 (OwS.some_bytes b3) (hoD.rd.mono (view_sub _ _ _)) (bvs_one _) (by simp; omega) (by simp; omega) fun v4 c4 w4 st4 r4 _ => ?_
    have b5' := st4.old _ _ b5 (by simp [Value.ownBlock]; rintro rfl; rw [b5] at b3; simp at b3)
    replace S := S.go st4.step (by decide) (by decide); replace G := G.mono (st4.step.sub (by decide)); replace D := D.mono (st4.step.sub (by decide)); replace bD := st4.step.sub (by decide) _ _ bD; replace b2 := st4.step.sub (by decide) _ _ b2
    rw [← bvs_append, List.nil_append, List.length_nil, Nat.zero_add] at r4
    obtain ⟨o4, p4, rfl⟩ := r4.form
    refine TSl.mk ⟨sA bD, TCells.mk (built_hash2 hd _ rfl) ?_⟩
    refine RunU.var b5' (by rw [show (hcells (digS l) (.slice o4 (restS l).length p4) 0).toArray.size = 10 by simp [hc_len hd]]; kernel_rfl) (by simp [hc_len hd]) (hc_all _ rfl _) fun w6 st6 b6 => ?_
    have r6 := OwO.keep st6 (OwO.of r4) (notU8 b5')
    replace S := S.go st6.step (by decide) (by decide); replace G := G.mono (st6.step.sub (by decide)); replace D := D.mono (st6.step.sub (by decide)); replace bD := st6.step.sub (by decide) _ _ bD; replace b2 := st6.step.sub (by decide) _ _ b2
    exact Sum_K c j S G D b2 ⟨y, _, rfl, b6, r6⟩ hl h

theorem Sha_c (c : Nat → Nat) (j : Nat) {w : World} {v : Value} {l : List UInt8} {R : Value → World → Prop} (hr : RdS (wv w) v 1 l.length (bvs l)) (hG : GlobS (wv w)) (hl : l.length ≤ 1099511627776)
    (h : ∀ c' w', Step c [] [j] w c' w' → R (.agg (bvs (shaB l)).toArray) w') : CallV Tryd.prog 53 #[v] w R := by
  obtain ⟨o0, p0, rfl⟩ := hr.form
  have G : GlobS (view (fun _ => 0) 0 w) := by rw [view0]; exact hG
  have D : RdS (view (fun _ => 0) 0 w) (.slice o0 l.length p0) 1 l.length (bvs l) := by rw [view0]; exact hr
  have S := Fr.start w
  refine sha_Sum_vc ?_
  unfold sha_Sum_VC
  refine AllocC.col (fun _ => 0) 1 fun a2 c1 w1 st1 b2 _ => ?_
  replace S := S.go st1.step (by decide) (by decide); replace G := G.mono (st1.step.sub (by decide)); replace D := D.mono (st1.step.sub (by decide))
  refine New_c c1 2 (G.mono (view_sub _ _ _)) fun p c2 w2 st2 H => TPtr.mk ?_
  replace S := S.go st2 (by decide) (by decide); replace G := G.mono (st2.sub (by decide)); replace D := D.mono (st2.sub (by decide)); replace b2 := st2.sub (by decide) _ _ b2
  refine Add_c (i := 2) (k := 0) (g := 0) H D (by decide) G (by decide) hl (by omega) fun c3 w3 st3 H => ?_
  replace S := S.go st3 (by decide) (by decide); replace G := G.mono (st3.sub (by decide)); replace D := D.mono (st3.sub (by decide)); replace b2 := st3.sub (by decide) _ _ b2
  rw [List.nil_append, Nat.zero_add] at H
  refine HSum_c c3 3 (H.mono (view_sub _ _ _)) (G.mono (view_sub _ _ _)) hl fun c4 w4 st4 => TAgg.mk ?_
  replace S := S.go st4 (by decide) (by decide); replace b2 := st4.sub (by decide) _ _ b2
  have h32 : (bvs (shaB l)).toArray.size = 32 := by simp
  refine RunU.var b2 (by rw [h32]; kernel_rfl) (by simp) (bvs_all _) fun w5 st5 b2 => ?_
  replace S := S.go st5.step (by decide) (by decide)
  refine LoadA.all (view_sub _ _ _) b2 h32 ?_
  exact h _ _ (S.leave c j)
end Go.Proofs.YtdjgdcafmfheoaaDoor
set_option linter.unusedVariables false
set_option linter.unusedSimpArgs false
namespace Go.Proofs.YtdjgdcafmfheoaaDoor
open Go.Vc
attribute [local irreducible] TInt TBool TStr TPtr TSl TAgg TMap TChan T2 T3 T4 BS Req TSome TCell TByte LoadC LoadA StoreC AllocC RunV RunU CallV ExtV EqA StableC StableA StableV TCells ReadV
attribute [local irreducible] DrewC

theorem Pad_c (c : Nat → Nat) (j : Nat) {w : World} {v : Value} {l : List UInt8} {R : Value → World → Prop} (hr : RdS (wv w) v 1 l.length (bvs l)) (hl : l.length ≤ 1099511627776)
    (h : ∀ v c' w', Step c [] [j] w c' w' → OwS (view c' j w') v 5 1 (l ++ tailS l.length).length (bvs (l ++ tailS l.length)) → R v w') : CallV Tryd.prog 99 #[v] w R := by
  obtain ⟨o0, p0, rfl⟩ := hr.form
  have D : RdS (view (fun _ => 0) 0 w) (.slice o0 l.length p0) 1 l.length (bvs l) := by rw [view0]; exact hr
  have S := Fr.start w
  refine ref03_Pad_vc ?_
  unfold ref03_Pad_VC
  refine AllocC.col (fun _ => 0) 1 fun a1 c1 w1 st1 b1 _ => ?_
  replace S := S.go st1.step (by decide) (by decide); replace D := D.mono (st1.step.sub (by decide))
  refine app_bytes slU8 (OwS.some_bytes b1) (D.mono (view_sub _ _ _)) (by simp; omega) fun o2 p2 c2 w2 st2 ho => ?_
  replace S := S.go st2.step (by decide) (by decide); replace D := D.mono (st2.step.sub (by decide))
  rw [List.nil_append] at ho ⊢
  refine TSl.mk ?_
  refine AllocC.col c2 2 fun a3 c3 w3 st3 b3 _ => ?_
  replace S := S.go st3.step (by decide) (by decide); replace D := D.mono (st3.step.sub (by decide))
  replace ho := ho.mono (st3.step.sub (by decide))
  refine app_bytes slU8 ho (m := [128]) ((RdS.block (xs := bvs [128]) b3 rfl (Nat.le_refl _)).mono (view_sub _ _ _)) (by simp; omega) fun o4 p4 c4 w4 st4 ho => ?_
  replace S := S.go st4.step (by decide) (by decide); replace D := D.mono (st4.step.sub (by decide))
  refine TSl.mk ?_
  have hpz := padZ_le l.length
  refine LoopS.up (padZ l.length) (fun i o' l' p' w' => ∃ c', Fr w c' w' ∧ OwS (view c' 1 w') (.slice o' l' p') 5 1 (l ++ 128 :: List.replicate i 0).length (bvs (l ++ 128 :: List.replicate i 0))) ⟨c4, S, ho⟩ ?_
  clear S D ho b1 b3
  rintro i o5 l5 p5 w5 B hi ⟨c5, S, ho⟩ back
  have hl5 := ho.len.1
  simp only [List.length_append, List.length_cons, List.length_replicate] at hl5
  have etm : Int.tmod (l5 : Int) 64 = (((l.length + (1 + i)) % 64 : Nat) : Int) := by
    rw [hl5, Int.tmod_eq_emod_of_nonneg (by omega)]; omega
  rw [etm]
  refine BS.ne (fun hne => ?_) (fun he => ?_)
  · have hlt : i < padZ l.length := by
      rcases Nat.lt_or_ge i (padZ l.length) with h' | h'
      · exact h'
      · have : i = padZ l.length := by omega
        have h2 := pad_done l.length
        rw [← this] at h2
        omega
    refine AllocC.col c5 2 fun y c6 w6 st6 b6 _ => ?_
    replace S := S.go st6.step (by decide) (by decide)
    replace ho := ho.mono (st6.step.sub (by decide))
    refine app_bytes slU8 ho (m := [0]) ((RdS.block (xs := bvs [0]) b6 rfl (Nat.le_refl _)).mono (view_sub _ _ _)) (by simp; omega) fun o7 p7 c7 w7 st7 ho => ?_
    replace S := S.go st7.step (by decide) (by decide)
    have e1 : l ++ 128 :: List.replicate i 0 ++ [0] = l ++ 128 :: List.replicate (i + 1) 0 := by rw [List.replicate_succ']; simp
    rw [e1] at ho ⊢
    exact TSl.mk (back _ _ _ _ hlt ⟨c7, S, ho⟩)
  · have hiz : i = padZ l.length := by
      rcases Nat.lt_or_ge i (padZ l.length) with h' | h'
      · have := pad_more h'; omega
      · omega
    subst hiz
    clear back
    refine LoopSI.down 8 rfl (fun i o' l' p' w' => ∃ c', Fr w c' w' ∧ OwS (view c' 1 w') (.slice o' l' p') 5 1 (l ++ 128 :: List.replicate (padZ l.length) 0 ++ (be (l.length * 8) 8).take i).length (bvs (l ++ 128 :: List.replicate (padZ l.length) 0 ++ (be (l.length * 8) 8).take i))) ⟨c5, S, by rw [List.take_zero, List.append_nil]; exact ho⟩ ?_
    clear S ho
    rintro i o6 l6 p6 w6 B hi ⟨c6, S, ho⟩ back
    refine BS.dec (fun hge => ?_) (fun hlt => ?_)
    · have e1 : IntKind.wrap .u64 (IntKind.wrap .i64 (8 * (((8 : Nat) : Int) - 1 - (i : Int)))) = 8 * ((7 - i : Nat) : Int) := by rw [wrap_i64 (by omega) (by omega), wrap_u64 (by omega) (by omega)]; omega
      have e2 : IntKind.wrap .u64 (IntKind.wrap .u64 ((l.length : Nat) : Int) * 8) = ((l.length * 8 : Nat) : Int) := by rw [wrap_u64 (n := ((l.length : Nat) : Int)) (by omega) (by omega), wrap_u64 (by omega) (by omega)]; omega
      rw [e1, e2, byte_of (by omega) (by omega), Int.toNat_natCast]
      refine Req.mk (by omega) ?_
      refine AllocC.col c6 2 fun y c7 w7 st7 b7 _ => ?_
      replace S := S.go st7.step (by decide) (by decide)
      replace ho := ho.mono (st7.step.sub (by decide))
      refine app_bytes slU8 ho (m := [byteAt (l.length * 8) (7 - i)]) ((RdS.block (xs := bvs [byteAt (l.length * 8) (7 - i)]) b7 rfl (Nat.le_refl _)).mono (view_sub _ _ _)) (by simp; omega) fun o8 p8 c8 w8 st8 ho => ?_
      replace S := S.go st8.step (by decide) (by decide)
      rw [List.append_assoc, ← be_take (l.length * 8) 8 i (by omega)] at ho ⊢
      rw [wrap_i64 (by omega) (by omega)]
      exact TSl.mk (back _ _ _ _ (by omega) ⟨c8, S, ho⟩)
    · have : i = 8 := by omega
      subst this
      have et : (l ++ 128 :: List.replicate (padZ l.length) 0 ++ (be (l.length * 8) 8).take 8 : List UInt8) = l ++ tailS l.length := by rw [List.take_of_length_le (by simp)]; simp [tailS]
      rw [et] at ho
      exact h _ _ _ (S.leave c j) (ho.mono (S.out c j (by omega)))

theorem consts_c (c : Nat → Nat) (j : Nat) {w : World} {R : Value → World → Prop} (h : ∀ c' w', Step c [] [j] w c' w' → R (.agg (uvs K32).toArray) w') : CallV Tryd.prog 98 #[] w R := by
  have S := Fr.start w
  refine ref03_constants_vc ?_
  unfold ref03_constants_VC
  refine AllocC.col (fun _ => 0) 1 fun a1 c1 w1 st1 b1 _ => ?_
  replace S := S.go st1.step (by decide) (by decide)
  refine RunU.var b1 (by kernel_rfl) rfl (by kernel_rfl) fun w2 st2 b2 => ?_
  replace S := S.go st2.step (by decide) (by decide)
  refine LoadA.all (view_sub _ _ _) b2 rfl ?_
  exact h _ _ (S.leave c j)

theorem Ref_Sha_c (c : Nat → Nat) (j : Nat) {w : World} {v : Value} {l : List UInt8} {R : Value → World → Prop} (hr : RdS (wv w) v 1 l.length (bvs l)) (hl : l.length ≤ 1099511627776)
    (h : ∀ c' w', Step c [] [j] w c' w' → R (.agg (bvs (shaB l)).toArray) w') : CallV Tryd.prog 64 #[v] w R := by
  obtain ⟨o0, p0, rfl⟩ := hr.form
  have D : RdS (view (fun _ => 0) 0 w) (.slice o0 l.length p0) 1 l.length (bvs l) := by rw [view0]; exact hr
  have S := Fr.start w
  refine ref03_Sum_vc ?_
  unfold ref03_Sum_VC
  refine AllocC.col (fun _ => 0) 1 fun a2 c1 w1 st1 b1 _ => ?_
  replace S := S.go st1.step (by decide) (by decide); replace D := D.mono (st1.step.sub (by decide))
  refine consts_c c1 9 fun c2 w2 st2 => TAgg.mk ?_
  replace S := S.go st2 (by decide) (by decide); replace D := D.mono (st2.sub (by decide)); replace b1 := st2.sub (by decide) _ _ b1
  refine AllocC.col c2 2 fun a3 c3 w3 st3 b2 _ => ?_
  replace S := S.go st3.step (by decide) (by decide); replace D := D.mono (st3.step.sub (by decide)); replace b1 := st3.step.sub (by decide) _ _ b1
  refine RunU.var b2 (by kernel_rfl) rfl (by kernel_rfl) fun w4 st4 b2 => ?_
  replace S := S.go st4.step (by decide) (by decide); replace D := D.mono (st4.step.sub (by decide)); replace b1 := st4.step.sub (by decide) _ _ b1
  refine AllocC.col c3 3 fun a4 c5 w5 st5 b3 _ => ?_
  replace S := S.go st5.step (by decide) (by decide); replace D := D.mono (st5.step.sub (by decide)); replace b1 := st5.step.sub (by decide) _ _ b1; replace b2 := st5.step.sub (by decide) _ _ b2
  refine RunU.var b3 (by kernel_rfl) rfl (by kernel_rfl) fun w6 st6 b3 => ?_
  replace S := S.go st6.step (by decide) (by decide); replace D := D.mono (st6.step.sub (by decide)); replace b1 := st6.step.sub (by decide) _ _ b1; replace b2 := st6.step.sub (by decide) _ _ b2
  replace b3 : view c5 3 w6 a4 = some (.cells (uvs H32).toArray 160 (0, 0)) := b3
  replace b1 : view c5 1 w6 a2 = (some (.cells (bvs (List.replicate 32 0)).toArray 25 (0, 0))) := b1
  refine Pad_c c5 4 (D.mono (view_sub _ _ _)) hl fun v7 c7 w7 st7 P => ?_
  replace S := S.go st7 (by decide) (by decide); replace b1 := st7.sub (by decide) _ _ b1; replace b2 := st7.sub (by decide) _ _ b2; replace b3 := st7.sub (by decide) _ _ b3
  obtain ⟨o7, p7, rfl⟩ := P.form
  refine TSl.mk ?_
  have hLm : (l ++ tailS l.length).length % 64 = 0 := by rw [List.length_append, tailS_length]; exact pad_mod _
  have hLl : (l ++ tailS l.length).length ≤ 1099511627776 + 128 := by have := padZ_le l.length; rw [List.length_append, tailS_length]; omega
  have P := P.rd
  refine LoopI.by 64 ((l ++ tailS l.length).length / 64) (by omega) (fun q w' => ∃ c', Fr w c' w' ∧ view c' 1 w' a2 = (some (.cells (bvs (List.replicate 32 0)).toArray 25 (0, 0))) ∧ view c' 2 w' a3 = some (.cells (uvs K32).toArray 158 (0, 0)) ∧ view c' 3 w' a4 = some (.cells (uvs (absN q H32 (l ++ tailS l.length))).toArray 160 (0, 0)) ∧
    RdS (view c' 4 w') (.slice o7 (l ++ tailS l.length).length p7) 1 (l ++ tailS l.length).length (bvs (l ++ tailS l.length))) ⟨c7, S, b1, b2, b3, P⟩ ?_
  clear S b1 b2 b3 P D
  rintro q w8 B hq ⟨c8, S, b1, b2, b3, P⟩ back
  have hst : (absN q H32 (l ++ tailS l.length)).length = 8 := absN_length rfl
  refine BS.dec (fun hlt => ?_) (fun hge => ?_)
  · have hAB : (sched (((l ++ tailS l.length).drop (64 * q)).take 64) 64).length = (List.replicate 64 (0 : Int)).length := by simp
    have hA : (sched (((l ++ tailS l.length).drop (64 * q)).take 64) 64).length = 64 := by simp
    have hB : (List.replicate 64 (0 : Int)).length = 64 := by simp
    refine AllocC.col c8 5 fun a7 c9 w9 st9 b5 _ => ?_
    replace S := S.go st9.step (by decide) (by decide); replace b1 := st9.step.sub (by decide) _ _ b1; replace b2 := st9.step.sub (by decide) _ _ b2; replace b3 := st9.step.sub (by decide) _ _ b3; replace P := P.mono (st9.step.sub (by decide))
    refine RunU.var b5 (by kernel_rfl) rfl (by kernel_rfl) fun w10 st10 b5 => ?_
    replace S := S.go st10.step (by decide) (by decide); replace b1 := st10.step.sub (by decide) _ _ b1; replace b2 := st10.step.sub (by decide) _ _ b2; replace b3 := st10.step.sub (by decide) _ _ b3; replace P := P.mono (st10.step.sub (by decide))
    replace b5 : view c9 5 w10 a7 = some (.cells (uvs (List.replicate 64 (0 : Int))).toArray 158 (0, 0)) := b5
    refine LoopI.up 64 (fun i w' => Fr w c9 w' ∧ view c9 1 w' a2 = (some (.cells (bvs (List.replicate 32 0)).toArray 25 (0, 0))) ∧ view c9 2 w' a3 = some (.cells (uvs K32).toArray 158 (0, 0)) ∧ view c9 3 w' a4 = some (.cells (uvs (absN q H32 (l ++ tailS l.length))).toArray 160 (0, 0)) ∧
      RdS (view c9 4 w') (.slice o7 (l ++ tailS l.length).length p7) 1 (l ++ tailS l.length).length (bvs (l ++ tailS l.length)) ∧ view c9 5 w' a7 = some (.cells (uvs (upto (sched (((l ++ tailS l.length).drop (64 * q)).take 64) 64) (List.replicate 64 (0 : Int)) i)).toArray 158 (0, 0))) ⟨S, b1, b2, b3, P, by rw [upto_zero]; exact b5⟩ ?_
    clear S b1 b2 b3 b5 P
    rintro i w11 B2 hi ⟨S, b1, b2, b3, P, b5⟩ back2
    have hul : (upto (sched (((l ++ tailS l.length).drop (64 * q)).take 64) 64) (List.replicate 64 (0 : Int)) i).length = 64 := by rw [upto_length hAB, hB]
    refine BS.dec (fun hlti => ?_) (fun hgei => ?_)
    · refine BS.dec (fun h16 => ?_) (fun h16 => ?_)
      · refine DrewC.col c9 fun w12 st12 => ?_
        replace S := S.go st12 (by decide) (by decide); replace b1 := st12.sub (by decide) _ _ b1; replace b2 := st12.sub (by decide) _ _ b2; replace b3 := st12.sub (by decide) _ _ b3; replace b5 := st12.sub (by decide) _ _ b5; replace P := P.mono (st12.sub (by decide))
        have hcl : (((l ++ tailS l.length).drop (64 * q)).take 64).length = 64 := by rw [List.length_take, List.length_drop]; omega
        obtain ⟨x0, x1, x2, x3, g0, g1, g2, g3, hw4⟩ := word_at (p := ((l ++ tailS l.length).drop (64 * q)).take 64) (t := i) (by omega)
        have up : ∀ {k : Nat} {x : UInt8}, (((l ++ tailS l.length).drop (64 * q)).take 64)[k]? = some x → (bvs (l ++ tailS l.length))[64 * q + k]? = some (.int .u8 (x.toNat : Int)) := fun {k x} hx => by
          rw [List.getElem?_take] at hx
          split at hx
          · rw [List.getElem?_drop] at hx; rw [bvs_get, hx]; rfl
          · simp at hx
        have d0 : IntKind.wrap .i64 (((64 * q : Nat) : Int) + IntKind.wrap .i64 (4 * (i : Int))) = ((64 * q + 4 * i : Nat) : Int) := by rw [wrap_i64 (n := 4 * (i : Int)) (by omega) (by omega), wrap_i64 (by omega) (by omega)]; omega
        have d1 : IntKind.wrap .i64 (((64 * q + 4 * i : Nat) : Int) + 1) = ((64 * q + (4 * i + 1) : Nat) : Int) := by rw [wrap_i64 (by omega) (by omega)]; omega
        have d2 : IntKind.wrap .i64 (((64 * q + 4 * i : Nat) : Int) + 2) = ((64 * q + (4 * i + 2) : Nat) : Int) := by rw [wrap_i64 (by omega) (by omega)]; omega
        have d3 : IntKind.wrap .i64 (((64 * q + 4 * i : Nat) : Int) + 3) = ((64 * q + (4 * i + 3) : Nat) : Int) := by rw [wrap_i64 (by omega) (by omega)]; omega
        rw [d0, d1, d2, d3]
        refine Req.bnd ⟨by omega, by omega⟩ (P.elt (view_sub _ _ _) (up g0) (TInt.mk ?_))
        refine Req.bnd ⟨by omega, by omega⟩ (P.elt (view_sub _ _ _) (up g1) (TInt.mk ?_))
        refine Req.bnd ⟨by omega, by omega⟩ (P.elt (view_sub _ _ _) (up g2) (TInt.mk ?_))
        refine Req.bnd ⟨by omega, by omega⟩ (P.elt (view_sub _ _ _) (up g3) (TInt.mk ?_))
        have wu : ∀ x : UInt8, IntKind.wrap .u32 ((x.toNat : Nat) : Int) = ((x.toNat : Nat) : Int) := fun x => by have := x.toNat_lt; exact wrap_u32 (by omega) (by omega)
        rw [wu, wu, wu, wu, word_ref, ← hw4, Int.toNat_natCast, Nat.mul_one]
        refine Req.bnd ⟨by omega, by omega⟩ (storeU b5 (by omega) fun w13 _ st13 b5 => ?_)
        replace S := S.go st13 (by decide) (by decide); replace b1 := st13.sub (by decide) _ _ b1; replace b2 := st13.sub (by decide) _ _ b2; replace b3 := st13.sub (by decide) _ _ b3; replace P := P.mono (st13.sub (by decide))
        rw [wrap_i64 (by omega) (by omega)]
        refine back2 _ (by omega) ⟨S, b1, b2, b3, P, ?_⟩
        rw [upto_set hAB (by rw [sched_get (by omega), if_pos (by omega)])] at b5
        exact b5
      · refine DrewC.col c9 fun w12 st12 => ?_
        replace S := S.go st12 (by decide) (by decide); replace b1 := st12.sub (by decide) _ _ b1; replace b2 := st12.sub (by decide) _ _ b2; replace b3 := st12.sub (by decide) _ _ b3; replace b5 := st12.sub (by decide) _ _ b5; replace P := P.mono (st12.sub (by decide))
        have d2 : IntKind.wrap .i64 ((i : Int) - 2) = ((i - 2 : Nat) : Int) := i64_n i 2 (by omega) (by omega)
        have d7 : IntKind.wrap .i64 ((i : Int) - 7) = ((i - 7 : Nat) : Int) := i64_n i 7 (by omega) (by omega)
        have d15 : IntKind.wrap .i64 ((i : Int) - 15) = ((i - 15 : Nat) : Int) := i64_n i 15 (by omega) (by omega)
        have d16 : IntKind.wrap .i64 ((i : Int) - 16) = ((i - 16 : Nat) : Int) := i64_n i 16 (by omega) (by omega)
        rw [d2, d7, d15, d16]
        simp only [Int.toNat_natCast, Nat.mul_one]
        have get : ∀ k, k < i → (uvs (upto (sched (((l ++ tailS l.length).drop (64 * q)).take 64) 64) (List.replicate 64 (0 : Int)) i)).toArray[k]? = some (.int .u32 ((sched (((l ++ tailS l.length).drop (64 * q)).take 64) i).getD k 0)) := fun k hk => uvs_at (by rw [upto_lt hk (by omega), sched_at hk (by omega)])
        refine Req.bnd ⟨by omega, by omega⟩ (LoadC.ad (view_sub _ _ _) _ b5 (get (i - 15) (by omega)) (TInt.mk ?_))
        refine Req.bnd ⟨by omega, by omega⟩ (LoadC.ad (view_sub _ _ _) _ b5 (get (i - 2) (by omega)) (TInt.mk ?_))
        refine rotr_c (by omega) (by omega) (TInt.mk (rotr_c (by omega) (by omega) (TInt.mk (rotr_c (by omega) (by omega) (TInt.mk (rotr_c (by omega) (by omega) (TInt.mk ?_)))))))
        refine DrewC.col c9 fun w14 st14 => ?_
        replace S := S.go st14 (by decide) (by decide); replace b1 := st14.sub (by decide) _ _ b1; replace b2 := st14.sub (by decide) _ _ b2; replace b3 := st14.sub (by decide) _ _ b3; replace b5 := st14.sub (by decide) _ _ b5; replace P := P.mono (st14.sub (by decide))
        refine Req.bnd ⟨by omega, by omega⟩ (LoadC.ad (view_sub _ _ _) _ b5 (get (i - 16) (by omega)) (TInt.mk ?_))
        refine Req.bnd ⟨by omega, by omega⟩ (LoadC.ad (view_sub _ _ _) _ b5 (get (i - 7) (by omega)) (TInt.mk ?_))
        refine Req.bnd ⟨by omega, by omega⟩ (storeU b5 (by omega) fun w13 _ st13 b5 => ?_)
        replace S := S.go st13 (by decide) (by decide); replace b1 := st13.sub (by decide) _ _ b1; replace b2 := st13.sub (by decide) _ _ b2; replace b3 := st13.sub (by decide) _ _ b3; replace P := P.mono (st13.sub (by decide))
        rw [wrap_i64 (by omega) (by omega)]
        refine back2 _ (by omega) ⟨S, b1, b2, b3, P, ?_⟩
        rw [upto_set hAB (by rw [sched_get (by omega), if_neg (by omega), ← schedW_ref]; rfl)] at b5
        exact b5
    · have : i = 64 := by omega
      subst this
      rw [upto_full 64 (by omega) (by omega)] at b5
      clear back2
      refine LoadA.all (view_sub _ _ _) b3 (by simp [hst]) ?_
      refine AllocC.col c9 6 fun a14 c15 w15 st15 b6 _ => ?_
      replace S := S.go st15.step (by decide) (by decide); replace b1 := st15.step.sub (by decide) _ _ b1; replace b2 := st15.step.sub (by decide) _ _ b2; replace b3 := st15.step.sub (by decide) _ _ b3; replace b5 := st15.step.sub (by decide) _ _ b5; replace P := P.mono (st15.step.sub (by decide))
      refine RunU.var b6 (by rw [show (uvs (absN q H32 (l ++ tailS l.length))).toArray.size = 8 by simp [hst]]; kernel_rfl) (by simp [hst]) (uvs_all _) fun w16 st16 b6 => ?_
      replace S := S.go st16.step (by decide) (by decide); replace b1 := st16.step.sub (by decide) _ _ b1; replace b2 := st16.step.sub (by decide) _ _ b2; replace b3 := st16.step.sub (by decide) _ _ b3; replace b5 := st16.step.sub (by decide) _ _ b5; replace P := P.mono (st16.step.sub (by decide))
      refine LoopI.up 64 (fun i w' => Fr w c15 w' ∧ view c15 1 w' a2 = (some (.cells (bvs (List.replicate 32 0)).toArray 25 (0, 0))) ∧ view c15 2 w' a3 = some (.cells (uvs K32).toArray 158 (0, 0)) ∧ view c15 3 w' a4 = some (.cells (uvs (absN q H32 (l ++ tailS l.length))).toArray 160 (0, 0)) ∧
        RdS (view c15 4 w') (.slice o7 (l ++ tailS l.length).length p7) 1 (l ++ tailS l.length).length (bvs (l ++ tailS l.length)) ∧ view c15 5 w' a7 = some (.cells (uvs (sched (((l ++ tailS l.length).drop (64 * q)).take 64) 64)).toArray 158 (0, 0)) ∧ view c15 6 w' a14 = some (.cells (uvs (rnds (absN q H32 (l ++ tailS l.length)) (sched (((l ++ tailS l.length).drop (64 * q)).take 64) 64) i)).toArray 160 (0, 0))) ⟨S, b1, b2, b3, P, b5, b6⟩ ?_
      clear S b1 b2 b3 b5 b6 P
      rintro i w23 B3 hi ⟨S, b1, b2, b3, P, b5, b6⟩ back3
      have hrl : (rnds (absN q H32 (l ++ tailS l.length)) (sched (((l ++ tailS l.length).drop (64 * q)).take 64) 64) i).length = 8 := by rw [rnds_length, hst]
      refine BS.dec (fun hlti => ?_) (fun hgei => ?_)
      · have hK : (uvs K32).toArray[(i : Int).toNat * 1]? = some (.int .u32 (K32.getD i 0)) := by
          rw [Int.toNat_natCast, Nat.mul_one]; exact uvs_at (by rw [List.getD_eq_getElem?_getD, List.getElem?_eq_getElem (show i < K32.length from by show i < 64; omega)]; rfl)
        have hWi : (uvs (sched (((l ++ tailS l.length).drop (64 * q)).take 64) 64)).toArray[(i : Int).toNat * 1]? = some (.int .u32 ((sched (((l ++ tailS l.length).drop (64 * q)).take 64) 64).getD i 0)) := by
          rw [Int.toNat_natCast, Nat.mul_one]; exact uvs_at (by rw [List.getD_eq_getElem?_getD, List.getElem?_eq_getElem (by omega)]; rfl)
        refine DrewC.col c15 fun w24 st24 => ?_
        replace S := S.go st24 (by decide) (by decide); replace b1 := st24.sub (by decide) _ _ b1; replace b2 := st24.sub (by decide) _ _ b2; replace b3 := st24.sub (by decide) _ _ b3; replace b5 := st24.sub (by decide) _ _ b5; replace b6 := st24.sub (by decide) _ _ b6; replace P := P.mono (st24.sub (by decide))
        obtain ⟨s0, s1, s2, s3, s4, s5, s6, s7, hv⟩ := eight hrl
        rw [hv] at b6
        (repeat (first | refine TInt.mk ?_ | refine TBool.mk ?_ | refine TStr.mk ?_ | refine TSl.mk ?_ | refine TPtr.mk ?_ | refine TAgg.mk ?_ | refine T2.mk ?_ | refine T3.mk ?_ | refine TSome.mk ?_ | refine LoadC.ad (view_sub _ _ _) _ (by assumption) rfl ?_))
        refine rotr_c (by omega) (by omega) (TInt.mk (rotr_c (by omega) (by omega) (TInt.mk (rotr_c (by omega) (by omega) (TInt.mk ?_)))))
        refine DrewC.col c15 fun w28 st28 => ?_
        replace S := S.go st28 (by decide) (by decide); replace b1 := st28.sub (by decide) _ _ b1; replace b2 := st28.sub (by decide) _ _ b2; replace b3 := st28.sub (by decide) _ _ b3; replace b5 := st28.sub (by decide) _ _ b5; replace b6 := st28.sub (by decide) _ _ b6; replace P := P.mono (st28.sub (by decide))
        (repeat (first | refine TInt.mk ?_ | refine TBool.mk ?_ | refine TStr.mk ?_ | refine TSl.mk ?_ | refine TPtr.mk ?_ | refine TAgg.mk ?_ | refine T2.mk ?_ | refine T3.mk ?_ | refine TSome.mk ?_ | refine LoadC.ad (view_sub _ _ _) _ (by assumption) rfl ?_))
        refine Req.bnd ⟨by omega, by omega⟩ (LoadC.ad (view_sub _ _ _) _ b2 hK (TInt.mk ?_))
        refine Req.bnd ⟨by omega, by omega⟩ (LoadC.ad (view_sub _ _ _) _ b5 hWi (TInt.mk ?_))
        refine rotr_c (by omega) (by omega) (TInt.mk (rotr_c (by omega) (by omega) (TInt.mk (rotr_c (by omega) (by omega) (TInt.mk ?_)))))
        (repeat (first | refine TInt.mk ?_ | refine TBool.mk ?_ | refine TStr.mk ?_ | refine TSl.mk ?_ | refine TPtr.mk ?_ | refine TAgg.mk ?_ | refine T2.mk ?_ | refine T3.mk ?_ | refine TSome.mk ?_ | refine LoadC.ad (view_sub _ _ _) _ (by assumption) rfl ?_))
        refine RunU.var b6 (by kernel_rfl) rfl (by first | (simp [Value.oneCell']; done) | (simp [Value.oneCell', OpR.cells, sv]; done) | (simp [Value.oneCell', AnsR.cells, sv]; done) | rfl) fun w32 st32 b6 => ?_
        replace S := S.go st32.step (by decide) (by decide); replace b1 := st32.step.sub (by decide) _ _ b1; replace b2 := st32.step.sub (by decide) _ _ b2; replace b3 := st32.step.sub (by decide) _ _ b3; replace b5 := st32.step.sub (by decide) _ _ b5; replace P := P.mono (st32.step.sub (by decide))
        rw [wrap_i64 (by omega) (by omega)]
        refine back3 _ (by omega) ⟨S, b1, b2, b3, P, b5, ?_⟩
        rw [rnds, hv]
        exact b6
      · have : i = 64 := by omega
        subst this
        clear back3
        have hr : (rnds (absN q H32 (l ++ tailS l.length)) (sched (((l ++ tailS l.length).drop (64 * q)).take 64) 64) 64).length = 8 := hrl
        have hmx : (mixS (absN q H32 (l ++ tailS l.length)) (((l ++ tailS l.length).drop (64 * q)).take 64)).length = (absN q H32 (l ++ tailS l.length)).length := by rw [hst]; exact mixS_length hst _
        refine LoopI.up 8 (fun i w' => Fr w c15 w' ∧ view c15 1 w' a2 = (some (.cells (bvs (List.replicate 32 0)).toArray 25 (0, 0))) ∧ view c15 2 w' a3 = some (.cells (uvs K32).toArray 158 (0, 0)) ∧ view c15 3 w' a4 = some (.cells (uvs (upto (mixS (absN q H32 (l ++ tailS l.length)) (((l ++ tailS l.length).drop (64 * q)).take 64)) (absN q H32 (l ++ tailS l.length)) i)).toArray 160 (0, 0)) ∧
          RdS (view c15 4 w') (.slice o7 (l ++ tailS l.length).length p7) 1 (l ++ tailS l.length).length (bvs (l ++ tailS l.length)) ∧ view c15 6 w' a14 = some (.cells (uvs (rnds (absN q H32 (l ++ tailS l.length)) (sched (((l ++ tailS l.length).drop (64 * q)).take 64) 64) 64)).toArray 160 (0, 0))) ⟨S, b1, b2, by rw [upto_zero]; exact b3, P, b6⟩ ?_
        clear S b1 b2 b3 b5 b6 P
        rintro i w33 B4 hi ⟨S, b1, b2, b3, P, b6⟩ back4
        refine BS.dec (fun hlti => ?_) (fun hgei => ?_)
        · obtain ⟨x, hx⟩ := get_of_lt (l := (absN q H32 (l ++ tailS l.length))) (i := i) (by omega)
          obtain ⟨y, hy⟩ := get_of_lt (l := rnds (absN q H32 (l ++ tailS l.length)) (sched (((l ++ tailS l.length).drop (64 * q)).take 64) 64) 64) (i := i) (by omega)
          refine DrewC.col c15 fun w34 st34 => ?_
          replace S := S.go st34 (by decide) (by decide); replace b1 := st34.sub (by decide) _ _ b1; replace b2 := st34.sub (by decide) _ _ b2; replace b3 := st34.sub (by decide) _ _ b3; replace b6 := st34.sub (by decide) _ _ b6; replace P := P.mono (st34.sub (by decide))
          rw [Int.toNat_natCast, Nat.mul_one]
          refine Req.bnd ⟨by omega, by omega⟩ (LoadC.ad (view_sub _ _ _) _ b3 (uvs_at (by rw [upto_ge (Nat.le_refl _) (by omega)]; exact hx)) (TInt.mk ?_))
          refine Req.bnd ⟨by omega, by omega⟩ (LoadC.ad (view_sub _ _ _) _ b6 (uvs_at hy) (TInt.mk ?_))
          refine Req.bnd ⟨by omega, by omega⟩ (storeU b3 (by rw [upto_length hmx]; omega) fun w35 _ st35 b3 => ?_)
          replace S := S.go st35 (by decide) (by decide); replace b1 := st35.sub (by decide) _ _ b1; replace b2 := st35.sub (by decide) _ _ b2; replace b6 := st35.sub (by decide) _ _ b6; replace P := P.mono (st35.sub (by decide))
          rw [wrap_i64 (by omega) (by omega)]
          refine back4 _ (by omega) ⟨S, b1, b2, ?_, P, b6⟩
          have hz : (mixS (absN q H32 (l ++ tailS l.length)) (((l ++ tailS l.length).drop (64 * q)).take 64))[i]? = some (IntKind.wrap .u32 (x + y)) := by unfold mixS; rw [List.getElem?_zipWith, hx, hy]; exact congrArg some (add32_comm y x)
          rw [upto_set hmx hz] at b3
          exact b3
        · have : i = 8 := by omega
          subst this
          rw [upto_full 8 (by omega) (by omega)] at b3
          rw [wrap_i64 (by omega) (by omega), show ((64 * q : Nat) : Int) + 64 = ((64 * (q + 1) : Nat) : Int) by omega]
          refine back _ (by omega) ⟨c15, S, b1, b2, ?_, P⟩
          rw [absN_add]; exact b3
  · have hqe : q = (l ++ tailS l.length).length / 64 := by omega
    subst hqe
    clear back
    have hD : absN ((l ++ tailS l.length).length / 64) H32 (l ++ tailS l.length) = digS (l ++ tailS l.length) := rfl
    rw [hD] at b3 hst
    refine AllocC.col c8 7 fun a28 c36 w36 st36 b7 _ => ?_
    replace S := S.go st36.step (by decide) (by decide); replace b1 := st36.step.sub (by decide) _ _ b1; replace b3 := st36.step.sub (by decide) _ _ b3
    refine RunU.var b7 (by kernel_rfl) rfl (by kernel_rfl) fun w37 st37 b7 => ?_
    replace S := S.go st37.step (by decide) (by decide); replace b1 := st37.step.sub (by decide) _ _ b1; replace b3 := st37.step.sub (by decide) _ _ b3
    replace b7 : view c36 7 w37 a28 = (some (.cells (bvs (List.replicate 32 0)).toArray 25 (0, 0))) := b7
    have hol : (outB (digS (l ++ tailS l.length))).length = (List.replicate 32 (0 : UInt8)).length := by simp
    refine LoopI.up 32 (fun i w' => Fr w c36 w' ∧ view c36 1 w' a2 = (some (.cells (bvs (List.replicate 32 0)).toArray 25 (0, 0))) ∧ view c36 3 w' a4 = some (.cells (uvs (digS (l ++ tailS l.length))).toArray 160 (0, 0)) ∧ view c36 7 w' a28 = some (.cells (bvs (upto (outB (digS (l ++ tailS l.length))) (List.replicate 32 0) i)).toArray 25 (0, 0))) ⟨S, b1, b3, by rw [upto_zero]; exact b7⟩ ?_
    clear S b1 b3 b7 P
    rintro i w38 B5 hi ⟨S, b1, b3, b7⟩ back5
    refine BS.dec (fun hlti => ?_) (fun hgei => ?_)
    · have e1 : IntKind.wrap .i64 (Int.tdiv (i : Int) 4) = ((i / 4 : Nat) : Int) := by rw [Int.tdiv_eq_ediv_of_nonneg (by omega), wrap_i64 (by omega) (by omega)]; omega
      have e2 : IntKind.wrap .u64 (IntKind.wrap .i64 (24 - IntKind.wrap .i64 (8 * Int.tmod (i : Int) 4))) = 8 * (3 - ((i % 4 : Nat) : Int)) := by
        rw [Int.tmod_eq_emod_of_nonneg (by omega), wrap_i64 (n := 8 * ((i : Int) % 4)) (by omega) (by omega), wrap_i64 (by omega) (by omega), wrap_u64 (by omega) (by omega)]; omega
      rw [e1, e2, Int.toNat_natCast, Nat.mul_one]
      refine Req.bnd ⟨by omega, by omega⟩ (LoadC.ad (view_sub _ _ _) _ b3 (uvs_at (x := (digS (l ++ tailS l.length)).getD (i / 4) 0) (by rw [List.getD_eq_getElem?_getD, List.getElem?_eq_getElem (by omega)]; rfl)) (TInt.mk ?_))
      rw [outI_val, Int.toNat_natCast, Nat.mul_one]
      refine Req.mk (by omega) (Req.bnd ⟨by omega, by omega⟩ ?_)
      refine storeBy b7 (by rw [upto_length hol]; simp; omega) fun w39 _ st39 b7 => ?_
      replace S := S.go st39 (by decide) (by decide); replace b1 := st39.sub (by decide) _ _ b1; replace b3 := st39.sub (by decide) _ _ b3
      rw [wrap_i64 (by omega) (by omega)]
      refine back5 _ (by omega) ⟨S, b1, b3, ?_⟩
      have hg := outB_get (digS (l ++ tailS l.length)) (i := i / 4) (k := i % 4) (by omega) (by omega)
      rw [show 4 * (i / 4) + i % 4 = i by omega] at hg
      rw [upto_set hol hg] at b7
      exact b7
    · have : i = 32 := by omega
      subst this
      rw [upto_full _ (by simp) (by simp)] at b7
      have h32 : (bvs (outB (digS (l ++ tailS l.length)))).toArray.size = 32 := by simp
      refine LoadA.all (view_sub _ _ _) b7 h32 ?_
      refine RunU.var b1 (by rw [h32]; kernel_rfl) rfl (bvs_all _) fun w40 st40 b1 => ?_
      replace S := S.go st40.step (by decide) (by decide)
      refine LoadA.all (view_sub _ _ _) b1 h32 ?_
      exact h _ _ (S.leave c j)
end Go.Proofs.YtdjgdcafmfheoaaDoor

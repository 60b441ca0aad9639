/-
  What the functions of package pack do, each once.
-/
import Derived.Test.YtdjgdcafmfheoaaDoorGenPack
import Derived.Test.YtdjgdcafmfheoaaDoorHpM
set_option linter.unusedVariables false
namespace Go.Proofs.YtdjgdcafmfheoaaDoor
open Go.Vc
attribute [local irreducible] TInt TBool TStr TPtr TSl TAgg TMap TChan T2 T3 T4 BS Req TSome TCell TByte LoadC LoadA StoreC AllocC RunV RunU CallV ExtV EqA StableC StableA StableV TCells ReadV

/-- slices.Clone of bytes -/
theorem Clone_bytes (c : Nat → Nat) (i : Nat) {w : World} {v : Value} {n : Nat} {l : List UInt8} {R : Value → World → Prop}
    (hr : RdS (wv w) v 1 n (bvs l)) (hn : n ≤ 140737488355328)
    (h : ∀ v' c' w', Step c [] [i] w c' w' → OwS (view c' i w') v' 5 1 n (bvs l) → R v' w') :
    CallV Tryd.prog 91 #[v] w R := by
  obtain ⟨o, cp, rfl⟩ : ∃ o cp, v = .slice o n cp := by obtain ⟨o, cp, e, _⟩ := hr; exact ⟨o, cp, e⟩
  refine slices_Clone_byte_byte_vc ?_
  refine BS.mk (fun ho => ?_) (fun ho => ?_)
  · have : o = none := by simpa using ho
    subst this
    have hl : l = [] := by
      obtain ⟨o, cp, e, _, hl, hx⟩ := hr
      cases e
      rcases hx with h | ⟨b, off, cs, T, fz, e', _⟩
      · simpa [bvs] using h
      · simp at e'
    subst hl
    have hn0 : n = 0 := by obtain ⟨o, cp, e, _, hl, hx⟩ := hr; simpa using hl.symm
    subst hn0
    exact h _ c w (.refl ..) (OwS.nil ..)
  · refine AllocC.col c i fun b c1 w1 h1 hb hnew => ?_
    have hown : OwS (view c1 i w1) (.slice (some ⟨b, 0, none⟩) 0 0) 5 1 0 [] := ⟨by simp, .inr ⟨b, 0, _, rfl, hb, Nat.le_refl _, by simp [maxLen], by simp, by simp⟩⟩
    have hs1 : Sub (wv w) (wv w1) := by
      intro b' o' hb'
      exact ((h1.fresh).keep b' (lt_of_heap hb') (by simp)).trans hb'
    refine append_col slU8 hown (hr.mono hs1) (bvs_one l) (by omega) (by omega) fun v' c2 w2 h2 ho2 _ => ?_
    obtain ⟨o2, cp2, rfl⟩ := ho2.form
    refine TSl.mk ?_
    have := h _ c2 w2 (h2.stepNew h1.fresh (by simp) fun b' e => ?_) (by simpa using ho2)
    · simpa using this
    · simp [Value.ownBlock] at e; exact e ▸ size_le_of_none hnew

/-- a block of one cell: bytes that are a slice of its own -/
def PenV (h : View) (a : Addr) (l : List UInt8) : Prop := ∃ b v, a = ⟨b, 0, none⟩ ∧ h b = some (.cells #[v] 99 (0, 0)) ∧ OwS h v 5 1 l.length (bvs l)
theorem PenV.mono {h h' : View} {a : Addr} {l : List UInt8} (hp : PenV h a l) (hs : Sub h h') : PenV h' a l := by
  obtain ⟨b, v, e, hb, ho⟩ := hp; exact ⟨b, v, e, hs _ _ hb, ho.mono hs⟩

/-- p.out = append(p.out, x...): what is read first, and what comes of it in a later world -/
theorem Pen_app {c : Nat → Nat} {i : Nat} {w : World} {a : Addr} {l : List UInt8} (hp : PenV (view c i w) a l)
    {C : Value → Prop} (hC : ∀ o n cp, (∀ (c1 : Nat → Nat) (w1 : World) (x : Value) (m : Nat) (ys : List UInt8) (K : World → Prop), Sub (view c i w) (view c1 i w1) → RdS (wv w1) x 1 m (bvs ys) → l.length + m ≤ 140737488355328 →
      (∀ c' w', Step c1 [i] [i] w1 c' w' → PenV (view c' i w') a (l ++ ys) → K w') →
      StableC w1 (a.add 0) (.slice o n cp) ∧ RunV Tryd.prog (Builtin.append_ #[26, 26] 26 #[.slice o n cp, x]) w1 (fun v' w2 => TSl v' fun o n cp => StoreC w2 (a.add 0) (.slice o n cp) K)) → C (.slice o n cp)) : LoadC w (a.add 0) C := by
  obtain ⟨b, v, rfl, hb, ho⟩ := hp
  obtain ⟨o, cp, rfl⟩ := ho.form
  rw [addr_add]
  refine LoadC.at (view_sub c i w) hb rfl (hC _ _ _ fun c1 w1 x m ys K hs hr hm h => ⟨StableC.at (fun _ _ h => view_sub c1 i w1 _ _ (hs _ _ h)) hb rfl, ?_⟩)
  have hb := hs _ _ hb
  have ho := ho.mono hs
  have hym : ys.length = m := by obtain ⟨_, _, _, _, hl, _⟩ := hr; simpa using hl
  refine append_col slU8 ho hr (bvs_one ys) (by omega) (by omega) fun v' c1 w1 h1 ho1 _ => ?_
  obtain ⟨o, cp, rfl⟩ := ho1.form
  refine TSl.mk ?_
  have hb1 := h1.old b _ hb (ho.block_ne hb (by decide))
  refine StoreC.col hb1 (by simp) fun w2 h2 h2s hb2 => h c1 w2 (h1.step.trans h2.step) ⟨b, _, rfl, hb2, ?_⟩
  have hne := ho1.block_ne hb1 (by decide)
  rw [List.length_append, hym, bvs_append]
  rcases ho1.2 with ⟨e, hn0⟩ | ⟨g, cap, cur, e, hg, r⟩
  · exact ⟨ho1.1, .inl ⟨e, hn0⟩⟩
  · refine ⟨ho1.1, .inr ⟨g, cap, cur, e, h2.old g _ hg fun e' => hne ?_, r⟩⟩
    rw [e]; simp [Value.ownBlock]; simpa using e'.symm

/-- (*Pen).Raw -/
theorem Pen_Raw {c : Nat → Nat} {i : Nat} {w : World} {a : Addr} {l ys : List UInt8} {x : Value} {m : Nat} {R : Value → World → Prop}
    (hp : PenV (view c i w) a l) (hr : RdS (wv w) x 1 m (bvs ys)) (hm : l.length + m ≤ 140737488355328)
    (h : ∀ c' w', Step c [i] [i] w c' w' → PenV (view c' i w') a (l ++ ys) → R (.tuple #[]) w') :
    CallV Tryd.prog 50 #[.pointer (some a), x] w R := by
  obtain ⟨o, cp, rfl⟩ := hr.form
  refine pack_Pen_Raw_vc ?_
  unfold pack_Pen_Raw_VC
  refine Pen_app hp ?_
  intro o n cp happ
  refine TSl.mk ?_
  exact (happ c w _ m ys _ (Sub.refl _) hr hm h).2

def uintOk (n : Nat) (size : Int) : Prop := 1 ≤ size ∧ size ≤ 8 ∧ n < 256 ^ size.toNat
theorem Pen_Uint_loop {c : Nat → Nat} {i : Nat} {w : World} {a : Addr} {l : List UInt8} {n k : Nat} {R : Value → World → Prop}
    (hp : PenV (view c i w) a l) (hm : l.length + 8 ≤ 140737488355328) (h1 : 1 ≤ k) (h8 : k ≤ 8)
    (h : ∀ c' w', Step c [i] [i] w c' w' → PenV (view c' i w') a (l ++ be n k) → R (.int .i64 0) w') :
    pack_Pen_Uint_K2 a n k w R := by
  refine ⟨fun vs w' => ∃ (m : Nat) (c' : Nat → Nat), m ≤ k ∧ vs = [.int .i64 ((k : Int) - 1 - m)] ∧ Step c [i] [i] w c' w' ∧ PenV (view c' i w') a (l ++ (be n k).take m),
    fun vs _ => match vs with | [.int _ x] => (x + 1).toNat | _ => 0, ?_, ?_⟩
  · exact ⟨0, c, by omega, by rw [wrap_i64 (by omega) (by omega)]; simp, .refl .., by simpa using hp⟩
  · rintro _ w1 n7 ⟨m, c1, hmk, e, hs, hp1⟩
    simp only [List.cons.injEq, Value.int.injEq, true_and, and_true] at e
    refine BS.dec (fun hge => ?_) (fun hlt => ?_)
    · refine DrewC.mk ?_
      have hmk' : m < k := by omega
      have hbyte : IntKind.wrap .u8 (shrV .u64 (n : Int) (IntKind.wrap .i64 (8 * n7))) = ((byteAt n (k - 1 - m)).toNat : Int) := by
        rw [wrap_i64 (by omega) (by omega)]
        have : n7 = ((k - 1 - m : Nat) : Int) := by omega
        rw [this, byte_of (by omega) (by omega)]; simp
      refine Pen_app (w := w1.drew) hp1 ?_
      intro o n1 cp happ
      refine TSl.mk ?_
      refine Req.mk (by rw [wrap_i64 (by omega) (by omega)]; omega) ?_
      rw [hbyte]
      refine AllocC.col c1 i fun b c2 w2 h2 hb hnew => ?_
      refine happ c2 w2 (.slice (some ⟨b, 0, none⟩) 1 1) 1 [byteAt n (k - 1 - m)] _ h2.sub ((RdS.block (view_sub c2 i w2 _ _ hb) (by simp) (Nat.le_refl _))) (by simp; omega) ?_
      intro c' w' h3 hp3
      refine ⟨⟨m + 1, c', by omega, by rw [wrap_i64 (by omega) (by omega)]; congr 2; push_cast; omega, hs.drew.trans (h2.step.trans h3), ?_⟩, ?_⟩
      · rw [be_take n k m hmk', ← List.append_assoc]; exact hp3
      · rw [wrap_i64 (by omega) (by omega)]; show (n7 - 1 + 1).toNat < (n7 + 1).toNat; omega
    · have : m = k := by omega
      subst this
      exact h c1 w1 hs (by rwa [List.take_of_length_le (by simp)] at hp1)

/-- (*Pen).Uint -/
theorem Pen_Uint {c : Nat → Nat} {i : Nat} {w : World} {a : Addr} {l : List UInt8} {n : Nat} {size : Int} {R : Value → World → Prop}
    (hp : PenV (view c i w) a l) (hn : n < 18446744073709551616) (hm : l.length + 8 ≤ 140737488355328)
    (hbad : ¬ uintOk n size → R (.int .i64 1) w)
    (h : uintOk n size → ∀ c' w', Step c [i] [i] w c' w' → PenV (view c' i w') a (l ++ be n size.toNat) → R (.int .i64 0) w') :
    CallV Tryd.prog 51 #[.pointer (some a), .int .u64 n, .int .i64 size] w R := by
  refine pack_Pen_Uint_vc ?_
  refine BS.dec (fun h1 => hbad fun h => by have := h.1; omega) (fun h1 => ?_)
  refine BS.dec (fun h2 => hbad fun h => by have := h.2.1; omega) (fun h2 => ?_)
  obtain ⟨k, rfl⟩ : ∃ k : Nat, size = k := ⟨size.toNat, by omega⟩
  refine BS.dec (fun h3 => ?_) (fun h3 => ?_)
  · rw [wrap_i64 (by omega) (by omega)]
    refine Req.mk (by omega) ?_
    rw [shr_u64 (by omega) (by omega) (by omega)]
    have e : (8 * (k : Int)).toNat = 8 * k := by omega
    rw [e, ← pow_256]
    refine BS.dec (fun h4 => hbad fun h => ?_) (fun h4 => ?_)
    · have h5 := h.2.2
      simp only [Int.toNat_natCast] at h5 h4
      rw [Nat.div_eq_of_lt h5] at h4
      simp at h4
    · refine Pen_Uint_loop hp hm (by omega) (by omega) (h ⟨by omega, by omega, ?_⟩)
      rw [Int.toNat_natCast] at h4 ⊢
      have h0 : n / 256 ^ k = 0 := by generalize n / 256 ^ k = q at h4; omega
      exact (Nat.div_eq_zero_iff_lt (Nat.pow_pos (by omega))).1 h0
  · have : k = 8 := by omega
    subst this
    exact Pen_Uint_loop hp hm (by omega) (by omega) (h ⟨by omega, by omega, by simpa using hn⟩)

/-- (*Pen).Text -/
theorem Pen_Text {c : Nat → Nat} {i : Nat} {w : World} {a : Addr} {l ys : List UInt8} {x : Value} {m : Nat} {R : Value → World → Prop}
    (hp : PenV (view c i w) a l) (hr : RdS (wv w) x 1 m (bvs ys)) (hx : ∃ j, j ≠ i ∧ RdS (view c j w) x 1 m (bvs ys)) (hm : l.length + m + 8 ≤ 140737488355328)
    (hbad : ¬ m < 65536 → R (.int .i64 23) w)
    (h : m < 65536 → ∀ c' w', Step c [i] [i] w c' w' → PenV (view c' i w') a (l ++ be m 2 ++ ys) → R (.int .i64 0) w') :
    CallV Tryd.prog 52 #[.pointer (some a), x] w R := by
  obtain ⟨o, cp, rfl⟩ := hr.form
  refine pack_Pen_Text_vc ?_
  unfold pack_Pen_Text_VC
  rw [wrap_u64 (by omega) (by omega)]
  refine Pen_Uint hp (by omega) (by omega) (fun hb => ?_) (fun hg c1 w1 h1 hp1 => ?_)
  · refine TInt.mk (BS.ne (fun _ => hbad fun hlt => hb ⟨by omega, by omega, by simpa using hlt⟩) (fun e => by simp at e))
  · refine TInt.mk (BS.ne (fun e => by simp at e) (fun _ => ?_))
    obtain ⟨j, hj, hx⟩ := hx
    have hx1 := hx.mono (h1.sub (i := j) (by simp [hj]))
    refine Pen_Raw hp1 (hx1.mono (view_sub c1 j w1)) (by simp; omega) fun c2 w2 h2 hp2 => ?_
    exact h (by simpa using hg.2.2) c2 w2 (h1.trans h2) (by simpa using hp2)
/-- (*Pen).Data -/
theorem Pen_Data {c : Nat → Nat} {i : Nat} (j : Nat) {w : World} {a : Addr} {l : List UInt8} {R : Value → World → Prop}
    (hp : PenV (view c i w) a l) (hm : l.length ≤ 140737488355328)
    (h : ∀ v c' w', Step c [] [j] w c' w' → OwS (view c' j w') v 5 1 l.length (bvs l) → R v w') :
    CallV Tryd.prog 54 #[.pointer (some a)] w R := by
  obtain ⟨b, v, rfl, hb, ho⟩ := hp
  refine pack_Pen_Data_vc ?_
  unfold pack_Pen_Data_VC
  rw [addr_add]
  have hr := (ho.mono (view_sub c i w)).rd
  obtain ⟨o, cp, rfl⟩ := hr.form
  refine LoadC.at (v := .slice o l.length cp) (view_sub c i w) hb rfl ?_
  refine TSl.mk ?_
  refine Clone_bytes c j hr hm fun v' c1 w1 h1 ho1 => ?_
  obtain ⟨o, cp, rfl⟩ := ho1.form
  exact TSl.mk (h _ c1 w1 h1 ho1)

/-- the bytes that an eye has ahead -/
def EyeV (h : View) (a : Addr) (l : List UInt8) : Prop := ∃ b v, a = ⟨b, 0, none⟩ ∧ h b = some (.cells #[v] 150 (0, 0)) ∧ RdS (but h b) v 1 l.length (bvs l)
theorem EyeV.mono {h h' : View} {a : Addr} {l : List UInt8} (hp : EyeV h a l) (hs : Sub h h') : EyeV h' a l := by
  obtain ⟨b, v, e, hb, ho⟩ := hp; exact ⟨b, v, e, hs _ _ hb, ho.mono (but_mono hs b)⟩

/-- NewEye -/
theorem NewEye (c : Nat → Nat) (i : Nat) {w : World} {l : List UInt8} {v : Value} {n : Nat} {R : Value → World → Prop}
    (hr : RdS (wv w) v 1 n (bvs l)) (hn : n ≤ 140737488355328)
    (h : ∀ a c' w', Step c [] [i] w c' w' → EyeV (view c' i w') a l → R (.pointer (some a)) w') :
    CallV Tryd.prog 57 #[v] w R := by
  obtain ⟨o, cp, rfl⟩ := hr.form
  refine pack_NewEye_vc ?_
  unfold pack_NewEye_VC
  refine Clone_bytes c i hr hn fun v' c1 w1 h1 ho1 => ?_
  obtain ⟨o1, cp1, rfl⟩ := ho1.form
  refine TSl.mk ?_
  refine AllocC.col c1 i fun b c2 w2 h2 hb hnew => ?_
  have hl : l.length = n := by have := ho1.1; simpa using this
  exact h _ c2 w2 (h1.trans h2.fresh) ⟨b, _, rfl, hb, by rw [hl]; exact ho1.rd.mono (h2.but_new hnew)⟩

/-- (*Eye).Raw -/
theorem Eye_Raw {c : Nat → Nat} {i : Nat} {w : World} {a : Addr} {l : List UInt8} {n : Int} {R : Value → World → Prop}
    (hp : EyeV (view c i w) a l) (j : Nat) (hm : l.length ≤ 140737488355328)
    (hneg : n < 0 → R (.tuple #[.slice none 0 0, .int .i64 1]) w)
    (hshort : 0 ≤ n → (l.length : Int) < n → R (.tuple #[.slice none 0 0, .int .i64 20]) w)
    (h : 0 ≤ n → n ≤ l.length → ∀ v c' w', Step c [i] [j] w c' w' → Sub (but (view c i w) a.block) (but (view c' i w') a.block) → EyeV (view c' i w') a (l.drop n.toNat) → OwS (view c' j w') v 5 1 n.toNat (bvs (l.take n.toNat)) → R (.tuple #[v, .int .i64 0]) w') :
    CallV Tryd.prog 93 #[.pointer (some a), .int .i64 n] w R := by
  refine pack_Eye_Raw_vc ?_
  unfold pack_Eye_Raw_VC
  refine BS.dec (fun h1 => hneg h1) (fun h1 => ?_)
  obtain ⟨b, v, rfl, hb, hr⟩ := hp
  rw [addr_add]
  obtain ⟨o, cp, rfl⟩ := hr.form
  have hload : ∀ {C : Value → Prop}, C (.slice o l.length cp) → LoadC w ⟨b, 0 + 0, none⟩ C := fun hC => LoadC.at (v := .slice o l.length cp) (view_sub c i w) hb rfl hC
  refine hload ?_
  refine TSl.mk ?_
  refine BS.dec (fun h2 => hshort (by omega) h2) (fun h2 => ?_)
  refine hload ?_
  refine TSl.mk ?_
  obtain ⟨k, rfl⟩ : ∃ k : Nat, n = k := ⟨n.toNat, by omega⟩
  have hk : k ≤ l.length := by omega
  have hlc := hr.len.2.1
  refine Req.bndle ⟨by omega, by omega⟩ ?_
  rw [Int.toNat_natCast] at h ⊢
  have htake : RdS (wv w) (.slice (slBase o cp 0 1) k cp) 1 k (bvs (l.take k)) := by
    have := (hr.mono ((but_sub _ b).trans (view_sub c i w))).take hk
    rw [bvs_take]; simpa using this
  refine Clone_bytes c j htake (by omega) fun v1 c1 w1 h1 ho1 => ?_
  obtain ⟨o1, cp1, rfl⟩ := ho1.form
  refine TSl.mk ?_
  have hsub := h1.sub (i := i) (by simp)
  have hb1 := hsub _ _ hb
  refine LoadC.at (v := .slice o l.length cp) (view_sub c1 i w1) hb1 rfl ?_
  refine TSl.mk ?_
  refine Req.bndle ⟨by omega, by omega⟩ ?_
  refine StoreC.col hb1 (by simp) fun w2 h2 h2s hb2 => ?_
  have hst : Step c [i] [j] w c1 w2 := (h1.weak (by simp) (by simp)).trans (h2s.weak (by simp) (by simp))
  refine h (by omega) (by omega) _ c1 w2 hst ((but_mono hsub b).trans h2.but) ⟨b, _, rfl, hb2, ?_⟩ ?_
  · have := ((hr.mono (but_mono hsub b)).mono h2.but).drop hk
    rw [List.length_drop, bvs_drop]; simpa using this
  · by_cases hij : j = i
    · subst hij
      exact ((ho1.but hb1 (by decide)).mono h2.but).mono (but_sub _ _)
    · exact ho1.mono (h2.step.sub (by simpa using hij))

theorem wrap_or (a : Nat) (x : UInt8) (h : a < 72057594037927936) : bitsV .or .u64 (shlV .u64 (a : Int) 8) (IntKind.wrap .u64 (x.toNat : Int)) = ((a * 256 + x.toNat : Nat) : Int) := by
  have hx := x.toNat_lt
  rw [wrap_u64 (by omega) (by omega)]
  have h1 : shlV .u64 (a : Int) 8 = ((a * 256 : Nat) : Int) := by
    unfold shlV
    have : min (8 : Int).toNat (IntKind.bits .u64) = 8 := by decide
    rw [this, show (2 : Int) ^ 8 = 256 from rfl, wrap_u64 (by omega) (by omega)]; omega
  rw [h1]
  show IntKind.wrap .u64 ((BitVec.ofInt 64 ((a * 256 : Nat) : Int) ||| BitVec.ofInt 64 (x.toNat : Int) : BitVec 64).toNat : Int) = _
  rw [BitVec.toNat_or]
  have e1 : (BitVec.ofInt 64 ((a * 256 : Nat) : Int)).toNat = a * 256 := by
    rw [BitVec.ofInt_natCast, BitVec.toNat_ofNat]; exact Nat.mod_eq_of_lt (by omega)
  have e2 : (BitVec.ofInt 64 (x.toNat : Int)).toNat = x.toNat := by
    rw [BitVec.ofInt_natCast, BitVec.toNat_ofNat]; exact Nat.mod_eq_of_lt (by omega)
  rw [e1, e2]
  have e3 : a * 256 ||| x.toNat = a * 256 + x.toNat := by
    have := Nat.two_pow_add_eq_or_of_lt (i := 8) (show x.toNat < 2 ^ 8 by omega) a
    rw [Nat.mul_comm a 256]; exact this.symm
  rw [e3, wrap_u64 (by omega) (by omega)]

/-- (*Eye).Uint -/
theorem Eye_Uint {c : Nat → Nat} {i : Nat} {w : World} {a : Addr} {l : List UInt8} {n : Int} {R : Value → World → Prop}
    (hp : EyeV (view c i w) a l) (j : Nat) (hm : l.length ≤ 140737488355328)
    (hbad : ¬ (1 ≤ n ∧ n ≤ 8) → R (.tuple #[.int .u64 0, .int .i64 1]) w)
    (hshort : 1 ≤ n → n ≤ 8 → (l.length : Int) < n → R (.tuple #[.int .u64 0, .int .i64 20]) w)
    (h : 1 ≤ n → n ≤ 8 → n ≤ l.length → ∀ c' w', Step c [i] [j] w c' w' → Sub (but (view c i w) a.block) (but (view c' i w') a.block) → EyeV (view c' i w') a (l.drop n.toNat) → R (.tuple #[.int .u64 (num (l.take n.toNat)), .int .i64 0]) w') :
    CallV Tryd.prog 92 #[.pointer (some a), .int .i64 n] w R := by
  refine pack_Eye_Uint_vc ?_
  unfold pack_Eye_Uint_VC
  refine BS.dec (fun h1 => hbad (by omega)) (fun h1 => ?_)
  unfold pack_Eye_Uint_K1
  refine BS.dec (fun h1 => hbad (by omega)) (fun h2 => ?_)
  refine Eye_Raw hp j hm (fun h => by omega) (fun _ hs => ?_) (fun h3 h4 v c1 w1 hst hk1 hp1 ho => ?_)
  · refine T2.mk (TSl.mk (TInt.mk ?_))
    refine ⟨fun vs w' => vs = [.int .u64 0, .int .i64 0] ∧ w' = w, fun _ _ => 0, ⟨rfl, rfl⟩, ?_⟩
    rintro _ w2 n4 n23 ⟨e, rfl⟩
    simp only [List.cons.injEq, Value.int.injEq, true_and, and_true] at e
    obtain ⟨rfl, rfl⟩ := e
    exact BS.dec (fun h => by omega) (fun _ => hshort (by omega) (by omega) hs)
  · obtain ⟨o, cp, rfl⟩ := ho.form
    refine T2.mk (TSl.mk (TInt.mk ?_))
    obtain ⟨k, rfl⟩ : ∃ k : Nat, n = k := ⟨n.toNat, by omega⟩
    rw [Int.toNat_natCast] at *
    have hlen : (l.take k).length = k := by rw [List.length_take]; omega
    refine ⟨fun vs w' => ∃ m : Nat, m ≤ k ∧ vs = [.int .u64 (num ((l.take k).take m)), .int .i64 m] ∧ w' = w1, fun vs _ => match vs with | [_, .int _ x] => (k - x).toNat | _ => 0, ⟨0, by omega, by simp [num], rfl⟩, ?_⟩
    rintro _ w2 n4 n23 ⟨m, hmk, e, rfl⟩
    simp only [List.cons.injEq, Value.int.injEq, true_and, and_true] at e
    obtain ⟨rfl, rfl⟩ := e
    refine BS.dec (fun hlt => ?_) (fun hge => ?_)
    · have hmk' : m < k := by omega
      refine Req.bnd ⟨by omega, hlt⟩ ?_
      obtain ⟨x, hx⟩ : ∃ x, (l.take k)[m]? = some x := ⟨(l.take k)[m]'(by omega), List.getElem?_eq_getElem _⟩
      obtain ⟨a', rfl, hcell⟩ := RdS.cell (ho.mono (view_sub c1 j w2)).rd (i := m) (u := bv x) (by rw [bvs_get, hx]; rfl)
      refine TSome.mk ?_
      rw [Int.toNat_natCast, Nat.mul_one]
      refine LoadC.mk hcell (TInt.mk ?_)
      have hnum : num ((l.take k).take m) < 72057594037927936 := by
        have h6 := num_lt ((l.take k).take m)
        rw [List.length_take, hlen, Nat.min_eq_left hmk] at h6
        exact Nat.lt_of_lt_of_le h6 (Nat.pow_le_pow_right (by omega) (show m ≤ 7 by omega))
      refine ⟨⟨m + 1, by omega, ?_, rfl⟩, ?_⟩
      · rw [wrap_or _ _ hnum, wrap_i64 (by omega) (by omega), List.take_add_one, hx, Option.toList_some, num_snoc]
        simp
      · rw [wrap_i64 (by omega) (by omega)]; show ((k : Int) - (m + 1)).toNat < ((k : Int) - m).toNat; omega
    · have : m = k := by omega
      subst this
      have := h (by omega) (by omega) (by omega) c1 w2 hst hk1 hp1
      rw [List.take_take, Nat.min_self]; exact this

/-- (*Eye).Text -/
theorem Eye_Text {c : Nat → Nat} {i : Nat} {w : World} {a : Addr} {l : List UInt8} {R : Value → World → Prop}
    (hp : EyeV (view c i w) a l) (j : Nat) (hm : l.length ≤ 140737488355328)
    (hshort : ¬ (2 ≤ l.length ∧ num (l.take 2) ≤ l.length - 2) → ∀ c' w', Step c [i] [j] w c' w' → EyeV (view c' i w') a l → R (.tuple #[.slice none 0 0, .int .i64 20]) w')
    (h : 2 ≤ l.length → num (l.take 2) ≤ l.length - 2 → ∀ v c' w', Step c [i] [j] w c' w' → EyeV (view c' i w') a ((l.drop 2).drop (num (l.take 2))) → OwS (view c' j w') v 5 1 (num (l.take 2)) (bvs ((l.drop 2).take (num (l.take 2)))) → R (.tuple #[v, .int .i64 0]) w') :
    CallV Tryd.prog 97 #[.pointer (some a)] w R := by
  refine pack_Eye_Text_vc ?_
  unfold pack_Eye_Text_VC
  have hp0 := hp
  obtain ⟨b, v, rfl, hb, hr⟩ := hp
  rw [addr_add]
  obtain ⟨o, cp, rfl⟩ := hr.form
  refine LoadC.at (v := .slice o l.length cp) (view_sub c i w) hb rfl ?_
  refine TSl.mk ?_
  refine Eye_Uint hp0 j hm (fun h => by omega) (fun _ _ hs => ?_) (fun _ _ hs c1 w1 hst hk1 hp1 => ?_)
  · refine T2.mk (TInt.mk (TInt.mk ?_))
    exact BS.ne (fun _ => hshort (fun h => by omega) c w (.refl ..) hp0) (fun e => by simp at e)
  · refine T2.mk (TInt.mk (TInt.mk ?_))
    refine BS.ne (fun e => by simp at e) (fun _ => ?_)
    simp only [show (2 : Int).toNat = 2 from rfl] at *
    have hnum : num (l.take 2) < 65536 := by
      have h6 := num_lt (l.take 2)
      rw [List.length_take, Nat.min_eq_left (by omega)] at h6
      exact h6
    rw [wrap_i64 (by omega) (by omega)]
    refine Eye_Raw hp1 j (by simp; omega) (fun h => by omega) (fun _ hs2 => ?_) (fun _ hs2 v2 c2 w2 hst2 _ hp2 ho2 => ?_)
    · refine T2.mk (TSl.mk (TInt.mk ?_))
      refine BS.ne (fun _ => ?_) (fun e => by simp at e)
      obtain ⟨b1, v1, e1, hb1, hr1⟩ := hp1
      cases e1
      refine StoreC.col hb1 (by simp) fun w2 h2 h2s hb2 => ?_
      rw [List.length_drop] at hs2
      refine hshort (fun h => by omega) c1 w2 (hst.trans (h2s.weak (by simp) (by simp))) ⟨b, _, rfl, hb2, ?_⟩
      exact (hr.mono hk1).mono h2.but
    · obtain ⟨o2, cp2, rfl⟩ := ho2.form
      refine T2.mk (TSl.mk (TInt.mk ?_))
      refine BS.ne (fun e => by simp at e) (fun _ => ?_)
      rw [List.length_drop] at hs2
      rw [Int.toNat_natCast] at *
      exact h (by omega) (by omega) _ c2 w2 (hst.trans hst2) hp2 ho2
end Go.Proofs.YtdjgdcafmfheoaaDoor
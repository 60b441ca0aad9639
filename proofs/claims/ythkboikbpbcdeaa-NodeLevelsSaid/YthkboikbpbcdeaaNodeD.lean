/-
  Plain: nodes, their blocks, and what is read of a block.
-/
import Derived.Test.YthkboikbpbcdeaaMany
import Derived.Test.YthkboikbpbcdeaaLists
set_option linter.unusedVariables false
set_option linter.unusedSimpArgs false
namespace Go.Vc

structure KidR where
  first : List UInt8
  hash : List UInt8
  deriving DecidableEq
structure NodeR where
  level : Int
  pairs : List PairR
  kids : List KidR
  deriving DecidableEq
def NodeR.zero : NodeR := ⟨0, [], []⟩
def NodeR.cells (n : NodeR) (v u : Value) : List Value := [.int .i64 n.level, v, u]
/-- texts rise -/
def rise (l : List (List UInt8)) : Prop := ∀ i a b, l[i]? = some a → l[i + 1]? = some b → ltB a b = true
def NodeR.right (n : NodeR) : Prop := 0 ≤ n.level ∧ n.level < 16 ∧ ((n.level = 0 ∧ n.kids.length = 0 ∧ n.pairs.length ≤ 255 ∧ rise (n.pairs.map (·.1))) ∨ (n.level ≠ 0 ∧ n.pairs.length = 0 ∧ 1 ≤ n.kids.length ∧ n.kids.length ≤ 4 ∧ rise (n.kids.map (·.first))))
def pEnc (p : PairR) : List UInt8 := txt p.1 ++ txt p.2
def kEnc (k : KidR) : List UInt8 := txt k.first ++ k.hash
def NodeR.enc (n : NodeR) : List UInt8 := 84 :: byteAt n.level.toNat 0 :: byteAt (n.pairs.length + n.kids.length) 0 :: (n.pairs.flatMap pEnc ++ n.kids.flatMap kEnc)
noncomputable def wrN (n : NodeR) : List UInt8 × Int := @ite _ n.right (Classical.propDecidable _) (if n.enc.length ≤ 470 then (n.enc, 0) else ([], 23)) ([], 1)
theorem wrN_no {n : NodeR} (h : ¬ n.right) : wrN n = ([], 1) := by unfold wrN; rw [if_neg h]
theorem wrN_long {n : NodeR} (h : n.right) (hl : ¬ n.enc.length ≤ 470) : wrN n = ([], 23) := by unfold wrN; rw [if_pos h, if_neg hl]
theorem wrN_yes {n : NodeR} (h : n.right) (hl : n.enc.length ≤ 470) : wrN n = (n.enc, 0) := by unfold wrN; rw [if_pos h, if_pos hl]
theorem wrN_iff {n : NodeR} (l : List UInt8) : ((wrN n).2 = 0 ∧ l = (wrN n).1) ↔ (n.right ∧ n.enc.length ≤ 470 ∧ n.enc = l) := by
  by_cases h : n.right
  · by_cases hl : n.enc.length ≤ 470
    · rw [wrN_yes h hl]; simp [h, hl]; exact eq_comm
    · rw [wrN_long h hl]; simp [hl]
  · rw [wrN_no h]; simp [h]

/-- a pair; a digest of 32 bytes; a kid -/
def eP (l : List UInt8) : PairR × List UInt8 × Int := (((eT l).1, (eT (eT l).2.1).1), (eT (eT l).2.1).2.1, (eT l).2.2 + (eT (eT l).2.1).2.2)
def eH (l : List UInt8) : List UInt8 × List UInt8 × Int := if 32 ≤ l.length then (l.take 32, l.drop 32, 0) else (List.replicate 32 0, l, 20)
def eK (l : List UInt8) : KidR × List UInt8 × Int := (⟨(eT l).1, (eH (eT l).2.1).1⟩, (eH (eT l).2.1).2.1, (eT l).2.2 + (eH (eT l).2.1).2.2)
theorem eH_code (l : List UInt8) : (eH l).2.2 = 0 ∨ (eH l).2.2 = 20 := by unfold eH; split <;> simp
theorem eH_len (l : List UInt8) : (eH l).1.length = 32 ∧ (eH l).2.1.length ≤ l.length := by unfold eH; split <;> simp; omega
theorem eH_ok {l : List UInt8} (h : (eH l).2.2 = 0) : l = (eH l).1 ++ (eH l).2.1 := by
  unfold eH at h ⊢; split
  · simp
  · rename_i hn; rw [if_neg hn] at h; simp at h
theorem eH_app (g r : List UInt8) (h : g.length = 32) : eH (g ++ r) = (g, r, 0) := by
  unfold eH
  rw [if_pos (by simp; omega)]
  rw [show (g ++ r).take 32 = g by rw [← h]; exact List.take_left, show (g ++ r).drop 32 = r by rw [← h]; exact List.drop_left]
theorem eP_code (l : List UInt8) : 0 ≤ (eP l).2.2 := by have := eT_bd l; have := eT_bd (eT l).2.1; simp only [eP]; omega
theorem eK_code (l : List UInt8) : 0 ≤ (eK l).2.2 := by have := eT_bd l; have := eH_code (eT l).2.1; simp only [eK]; omega
theorem eP_len (l : List UInt8) : (eP l).2.1.length ≤ l.length := by have := (eT_len l).1; have := (eT_len (eT l).2.1).1; simp only [eP]; omega
theorem eK_len (l : List UInt8) : (eK l).2.1.length ≤ l.length := by have := (eT_len l).1; have := (eH_len (eT l).2.1).2; simp only [eK]; omega
theorem eP_ok {l : List UInt8} (h : (eP l).2.2 = 0) : l = pEnc (eP l).1 ++ (eP l).2.1 := by
  have h1 := eT_bd l
  have h2 := eT_bd (eT l).2.1
  simp only [eP] at h ⊢
  have e1 := (eT_ok (l := l) (by omega)).1
  have e2 := (eT_ok (l := (eT l).2.1) (by omega)).1
  unfold pEnc
  rw [List.append_assoc, ← e2, ← e1]
theorem eK_ok {l : List UInt8} (h : (eK l).2.2 = 0) : l = kEnc (eK l).1 ++ (eK l).2.1 := by
  have h1 := eT_bd l
  have h2 := eH_code (eT l).2.1
  simp only [eK] at h ⊢
  have e1 := (eT_ok (l := l) (by omega)).1
  have e2 := eH_ok (l := (eT l).2.1) (by omega)
  unfold kEnc
  rw [List.append_assoc, ← e2, ← e1]
theorem eP_app (p : PairR) (r : List UInt8) (h : p.1.length < 65536 ∧ p.2.length < 65536) : eP (pEnc p ++ r) = (p, r, 0) := by
  unfold eP pEnc
  rw [List.append_assoc, eT_txt _ _ h.1]
  simp only
  rw [eT_txt _ _ h.2]
  simp
theorem eK_app (k : KidR) (r : List UInt8) (h : k.first.length < 65536 ∧ k.hash.length = 32) : eK (kEnc k ++ r) = (k, r, 0) := by
  unfold eK kEnc
  rw [List.append_assoc, eT_txt _ _ h.1]
  simp only
  rw [eH_app _ _ h.2]
  simp

/-- what is read of a block, as if all were there -/
def decN (l : List UInt8) : NodeR × List UInt8 × Int :=
  if (eU 1 (eU 1 l).2.1).1 = 0 then (⟨(eU 1 (eU 1 l).2.1).1, (many eP (eU 1 (eU 1 (eU 1 l).2.1).2.1).1 (eU 1 (eU 1 (eU 1 l).2.1).2.1).2.1).1, []⟩, (many eP (eU 1 (eU 1 (eU 1 l).2.1).2.1).1 (eU 1 (eU 1 (eU 1 l).2.1).2.1).2.1).2.1, (eU 1 l).2.2 + (eU 1 (eU 1 l).2.1).2.2 + (eU 1 (eU 1 (eU 1 l).2.1).2.1).2.2 + (many eP (eU 1 (eU 1 (eU 1 l).2.1).2.1).1 (eU 1 (eU 1 (eU 1 l).2.1).2.1).2.1).2.2)
  else (⟨(eU 1 (eU 1 l).2.1).1, [], (many eK (eU 1 (eU 1 (eU 1 l).2.1).2.1).1 (eU 1 (eU 1 (eU 1 l).2.1).2.1).2.1).1⟩, (many eK (eU 1 (eU 1 (eU 1 l).2.1).2.1).1 (eU 1 (eU 1 (eU 1 l).2.1).2.1).2.1).2.1, (eU 1 l).2.2 + (eU 1 (eU 1 l).2.1).2.2 + (eU 1 (eU 1 (eU 1 l).2.1).2.1).2.2 + (many eK (eU 1 (eU 1 (eU 1 l).2.1).2.1).1 (eU 1 (eU 1 (eU 1 l).2.1).2.1).2.1).2.2)
def okN' (l : List UInt8) : Prop := (decN l).1.right ∧ (decN l).1.enc.length ≤ 470 ∧ (decN l).1.enc = l
noncomputable def rdN (l : List UInt8) : NodeR × Int := @ite _ (okN' l) (Classical.propDecidable _) ((decN l).1, 0) (NodeR.zero, 22)
theorem rdN_yes {l : List UInt8} (h : okN' l) : rdN l = ((decN l).1, 0) := by unfold rdN; rw [if_pos h]
theorem rdN_no {l : List UInt8} (h : ¬ okN' l) : rdN l = (NodeR.zero, 22) := by unfold rdN; rw [if_neg h]
/-- a node's digests have 32 bytes -/
def NodeR.hs (n : NodeR) : Prop := ∀ k ∈ n.kids, k.hash.length = 32
theorem flat_ge {α : Type} (g : α → List UInt8) (al : List α) (a : α) (h : a ∈ al) : (g a).length ≤ (al.flatMap g).length := by
  induction al with
  | nil => simp at h
  | cons b al ih =>
    simp only [List.mem_cons] at h
    simp only [List.flatMap_cons, List.length_append]
    rcases h with rfl | h
    · omega
    · have := ih h; omega
theorem NodeR.short {n : NodeR} (h : n.enc.length ≤ 470) : (∀ p ∈ n.pairs, p.1.length < 65536 ∧ p.2.length < 65536) ∧ (∀ k ∈ n.kids, k.first.length < 65536) := by
  unfold NodeR.enc at h
  simp only [List.length_cons, List.length_append] at h
  constructor
  · intro p hp
    have := flat_ge pEnc n.pairs p hp
    unfold pEnc at this
    simp only [List.length_append, txt_length] at this
    have : (txt p.1 ++ txt p.2).length ≤ _ := flat_ge pEnc n.pairs p hp
    constructor <;> (have h1 := flat_ge pEnc n.pairs p hp; simp only [pEnc, List.length_append, txt_length] at h1; omega)
  · intro k hk
    have h1 := flat_ge kEnc n.kids k hk
    simp only [kEnc, List.length_append, txt_length] at h1; omega
theorem byte_one (x : UInt8) (r : List UInt8) : eU 1 (x :: r) = (x.toNat, r, 0) := by
  unfold eU; simp [num]
theorem NodeR.decR {n : NodeR} (h : n.right) (hl : n.enc.length ≤ 470) (hh : n.hs) (r : List UInt8) : decN (n.enc ++ r) = (n, r, 0) := by
  obtain ⟨h0, h16, hc⟩ := h
  obtain ⟨sp, sk⟩ := NodeR.short hl
  have hb : (byteAt n.level.toNat 0).toNat = n.level.toNat := by rw [byteAt_toNat]; omega
  have hcnt : n.pairs.length + n.kids.length < 256 := by omega
  have hb2 : (byteAt (n.pairs.length + n.kids.length) 0).toNat = n.pairs.length + n.kids.length := by rw [byteAt_toNat]; omega
  have e1 : eU 1 (n.enc ++ r) = (84, byteAt n.level.toNat 0 :: byteAt (n.pairs.length + n.kids.length) 0 :: (n.pairs.flatMap pEnc ++ n.kids.flatMap kEnc ++ r), 0) := byte_one _ _
  unfold decN
  simp only [e1, byte_one, hb, hb2]
  rcases hc with ⟨c1, c2, c3, c4⟩ | ⟨c1, c2, c3, c4, c5⟩
  · have hk : n.kids = [] := List.eq_nil_of_length_eq_zero c2
    rw [if_pos (by omega), c2, Nat.add_zero, hk]
    have := many_enc (f := eP) (g := pEnc) (good := fun p => p.1.length < 65536 ∧ p.2.length < 65536) eP_app n.pairs r sp
    simp only [List.flatMap_nil, List.append_nil]
    rw [this]
    obtain ⟨lv, ps, ks⟩ := n
    simp only at *
    subst hk
    simp [c1]
  · have hp : n.pairs = [] := List.eq_nil_of_length_eq_zero c2
    rw [if_neg (by omega), c2, Nat.zero_add, hp]
    have := many_enc (f := eK) (g := kEnc) (good := fun k => k.first.length < 65536 ∧ k.hash.length = 32) eK_app n.kids r (fun k hk => ⟨sk k hk, hh k hk⟩)
    simp only [List.flatMap_nil, List.nil_append]
    rw [this]
    obtain ⟨lv, ps, ks⟩ := n
    simp only at *
    subst hp
    simp; omega
theorem NodeR.dec {n : NodeR} (h : n.right) (hl : n.enc.length ≤ 470) (hh : n.hs) : decN n.enc = (n, [], 0) := by
  have := NodeR.decR h hl hh []
  rwa [List.append_nil] at this
theorem decN_hs (l : List UInt8) : (decN l).1.hs := by
  unfold decN NodeR.hs
  split
  · simp
  · exact many_good (good := fun k : KidR => k.hash.length = 32) (fun l => by simp only [eK]; exact (eH_len _).1) _ _
theorem NodeR.read {n : NodeR} (h : n.right) (hl : n.enc.length ≤ 470) (hh : n.hs) : rdN n.enc = (n, 0) := by
  have hd := NodeR.dec h hl hh
  rw [rdN_yes (by unfold okN'; rw [hd]; exact ⟨h, hl, rfl⟩), hd]
theorem NodeR.enc_inj {a b : NodeR} (ha : a.right) (hb : b.right) (la : a.enc.length ≤ 470) (lb : b.enc.length ≤ 470) (ka : a.hs) (kb : b.hs) (h : a.enc = b.enc) : a = b := by
  have h1 := NodeR.dec ha la ka
  rw [h, NodeR.dec hb lb kb] at h1
  exact (Prod.ext_iff.1 h1).1.symm
theorem cons_of_eU {l : List UInt8} (h : (eU 1 l).2.2 = 0) : ∃ x : UInt8, l = x :: (eU 1 l).2.1 ∧ (eU 1 l).1 = x.toNat := by
  unfold eU at h ⊢
  split at h
  · rename_i h1
    rw [if_pos h1]
    cases l with
    | nil => simp at h1
    | cons x r => exact ⟨x, by simp, by simp [num]⟩
  · simp at h
/-- the document's way of accepting -/
theorem okN_iff (l : List UInt8) : okN' l ↔ (l.length ≤ 470 ∧ (eU 1 l).2.2 = 0 ∧ (eU 1 l).1 = 84 ∧ (decN l).2.2 = 0 ∧ (decN l).2.1 = [] ∧ (decN l).1.right) := by
  constructor
  · rintro ⟨hr, hl, he⟩
    have hd := NodeR.dec hr hl (decN_hs l)
    rw [he] at hd
    have hl2 : l.length ≤ 470 := by rw [← he]; exact hl
    refine ⟨hl2, ?_, ?_, by rw [hd], by rw [hd], hr⟩
    · have := byte_one 84 (byteAt (decN l).1.level.toNat 0 :: byteAt ((decN l).1.pairs.length + (decN l).1.kids.length) 0 :: ((decN l).1.pairs.flatMap pEnc ++ (decN l).1.kids.flatMap kEnc))
      have h2 : eU 1 l = eU 1 (decN l).1.enc := by rw [he]
      rw [h2]; unfold NodeR.enc; rw [this]
    · have := byte_one 84 (byteAt (decN l).1.level.toNat 0 :: byteAt ((decN l).1.pairs.length + (decN l).1.kids.length) 0 :: ((decN l).1.pairs.flatMap pEnc ++ (decN l).1.kids.flatMap kEnc))
      have h2 : eU 1 l = eU 1 (decN l).1.enc := by rw [he]
      rw [h2]; unfold NodeR.enc; rw [this]; rfl
  · rintro ⟨hl, hz, h84, hc, hrest, hr⟩
    have c2 := eU_bd 1 (eU 1 l).2.1
    have c3 := eU_bd 1 (eU 1 (eU 1 l).2.1).2.1
    have mP := many_code eP_code (eU 1 (eU 1 (eU 1 l).2.1).2.1).1 (eU 1 (eU 1 (eU 1 l).2.1).2.1).2.1
    have mK := many_code eK_code (eU 1 (eU 1 (eU 1 l).2.1).2.1).1 (eU 1 (eU 1 (eU 1 l).2.1).2.1).2.1
    have henc : (decN l).1.enc = l := by
      obtain ⟨x1, e1, v1⟩ := cons_of_eU hz
      unfold decN at hc hrest ⊢
      split at hc
      · rename_i h0
        rw [if_pos h0] at hrest ⊢
        simp only at hc hrest ⊢
        obtain ⟨x2, e2, v2⟩ := cons_of_eU (l := (eU 1 l).2.1) (by omega)
        obtain ⟨x3, e3, v3⟩ := cons_of_eU (l := (eU 1 (eU 1 l).2.1).2.1) (by omega)
        have e4 := many_ok eP_code (g := pEnc) (fun l h => eP_ok h) (eU 1 (eU 1 (eU 1 l).2.1).2.1).1 (eU 1 (eU 1 (eU 1 l).2.1).2.1).2.1 (by omega)
        rw [hrest, List.append_nil] at e4
        have hx1 : x1 = 84 := UInt8.toNat_inj.1 (by rw [← v1, h84]; rfl)
        have hx2 : byteAt (eU 1 (eU 1 l).2.1).1 0 = x2 := UInt8.toNat_inj.1 (by rw [byteAt_toNat, ← v2]; have := eU_lt 1 (eU 1 l).2.1; omega)
        have hx3 : byteAt ((eU 1 (eU 1 (eU 1 l).2.1).2.1).1 + 0) 0 = x3 := UInt8.toNat_inj.1 (by rw [byteAt_toNat, ← v3]; have := eU_lt 1 (eU 1 (eU 1 l).2.1).2.1; omega)
        unfold NodeR.enc
        simp only [Int.toNat_natCast, many_length, List.length_nil, List.flatMap_nil, List.append_nil, hx2, hx3]
        rw [← e4, ← hx1, ← e3, ← e2, ← e1]
      · rename_i h0
        rw [if_neg h0] at hrest ⊢
        simp only at hc hrest ⊢
        obtain ⟨x2, e2, v2⟩ := cons_of_eU (l := (eU 1 l).2.1) (by omega)
        obtain ⟨x3, e3, v3⟩ := cons_of_eU (l := (eU 1 (eU 1 l).2.1).2.1) (by omega)
        have e4 := many_ok eK_code (g := kEnc) (fun l h => eK_ok h) (eU 1 (eU 1 (eU 1 l).2.1).2.1).1 (eU 1 (eU 1 (eU 1 l).2.1).2.1).2.1 (by omega)
        rw [hrest, List.append_nil] at e4
        have hx1 : x1 = 84 := UInt8.toNat_inj.1 (by rw [← v1, h84]; rfl)
        have hx2 : byteAt (eU 1 (eU 1 l).2.1).1 0 = x2 := UInt8.toNat_inj.1 (by rw [byteAt_toNat, ← v2]; have := eU_lt 1 (eU 1 l).2.1; omega)
        have hx3 : byteAt (0 + (eU 1 (eU 1 (eU 1 l).2.1).2.1).1) 0 = x3 := UInt8.toNat_inj.1 (by rw [byteAt_toNat, ← v3]; have := eU_lt 1 (eU 1 (eU 1 l).2.1).2.1; omega)
        unfold NodeR.enc
        simp only [Int.toNat_natCast, many_length, List.length_nil, List.flatMap_nil, List.nil_append, hx2, hx3]
        rw [← e4, ← hx1, ← e3, ← e2, ← e1]
    exact ⟨hr, by rw [henc]; exact hl, henc⟩
/-- cut off, or with more behind, it is none -/
theorem okN_free {x y : List UInt8} (hx : okN' x) (hy : okN' (x ++ y)) : y = [] := by
  have h1 := NodeR.decR hx.1 hx.2.1 (decN_hs x) y
  rw [hx.2.2] at h1
  have h2 := ((okN_iff _).1 hy).2.2.2.2.1
  rw [h1] at h2; exact h2
theorem NodeR.ok {n : NodeR} (h : n.right) (hl : n.enc.length ≤ 470) (hh : n.hs) : okN' n.enc := by
  have hd := NodeR.dec h hl hh
  unfold okN'; rw [hd]; exact ⟨h, hl, rfl⟩
end Go.Vc

/-
  Plain: answers, their bytes, and what is read of bytes.
-/
import Derived.Test.YtpmpfahedbfppaaOperD
set_option linter.unusedVariables false
namespace Go.Vc

structure AnsR where
  code : Int
  n : Int
  data : List UInt8
  names : List (List UInt8)
  deriving DecidableEq
def AnsR.cells (a : AnsR) (v u : Value) : List Value := [.int .i64 a.code, .int .i64 a.n, v, u]
def AnsR.zero : AnsR := ⟨0, 0, [], []⟩
def okName (s : List UInt8) : Prop := 1 ≤ s.length ∧ s.length ≤ 8
instance (s : List UInt8) : Decidable (okName s) := by unfold okName; infer_instance
def AnsR.right (a : AnsR) : Prop := 0 ≤ a.code ∧ a.code < 65536 ∧ 0 ≤ a.n ∧ a.n < 65536 ∧ a.data.length ≤ 64 ∧ a.names.length ≤ 6 ∧ ∀ s ∈ a.names, okName s
instance (a : AnsR) : Decidable a.right := by unfold AnsR.right; infer_instance
def AnsR.enc (a : AnsR) : List UInt8 := be a.code.toNat 2 ++ (be a.n.toNat 2 ++ (txt a.data ++ (be a.names.length 1 ++ a.names.flatMap txt)))
def wrAns (a : AnsR) : List UInt8 × Int := if a.right then (a.enc, 0) else ([], 1)

/-- so many texts, as if all were there -/
def nT : Nat → List UInt8 → List (List UInt8) × List UInt8 × Int
  | 0, l => ([], l, 0)
  | m + 1, l => ((nT m l).1 ++ [(eT (nT m l).2.1).1], (eT (nT m l).2.1).2.1, (nT m l).2.2 + (eT (nT m l).2.1).2.2)
theorem nT_length (m : Nat) (l : List UInt8) : (nT m l).1.length = m := by
  induction m with
  | zero => rfl
  | succ m ih => simp [nT, ih]
theorem nT_code (m : Nat) (l : List UInt8) : 0 ≤ (nT m l).2.2 := by
  induction m with
  | zero => simp [nT]
  | succ m ih => have := eT_code (nT m l).2.1; simp only [nT]; omega
theorem nT_mono {i k : Nat} (h : i ≤ k) (l : List UInt8) : (nT i l).2.2 ≤ (nT k l).2.2 := by
  induction k with
  | zero => rw [Nat.le_zero.1 h]; exact Int.le_refl _
  | succ k ih =>
    rcases Nat.lt_or_ge i (k + 1) with h' | h'
    · have := ih (by omega)
      have h2 := eT_code (nT k l).2.1
      simp only [nT]; omega
    · rw [Nat.le_antisymm h h']; exact Int.le_refl _
theorem nT_rest (m : Nat) (l : List UInt8) : (nT m l).2.1.length ≤ l.length := by
  induction m with
  | zero => simp [nT]
  | succ m ih => have := eT_len (nT m l).2.1; simp only [nT]; omega
theorem nT_short (m : Nat) (l : List UInt8) : ∀ s ∈ (nT m l).1, s.length < 65536 := by
  induction m with
  | zero => simp [nT]
  | succ m ih =>
    simp only [nT, List.mem_append, List.mem_singleton]
    rintro s (h | rfl)
    · exact ih s h
    · exact eT_short _
theorem nT_ok (m : Nat) (l : List UInt8) (h : (nT m l).2.2 = 0) : l = (nT m l).1.flatMap txt ++ (nT m l).2.1 := by
  induction m with
  | zero => simp [nT]
  | succ m ih =>
    simp only [nT] at h ⊢
    have h1 := nT_code m l
    have h2 := eT_code (nT m l).2.1
    have e1 := ih (by omega)
    have e2 := (eT_ok (l := (nT m l).2.1) (by omega)).1
    rw [List.flatMap_append, List.append_assoc]
    simp only [List.flatMap_cons, List.flatMap_nil, List.append_nil]
    rw [← e2]; exact e1
theorem nT_txt (ns : List (List UInt8)) (r : List UInt8) (h : ∀ s ∈ ns, s.length < 65536) : nT ns.length (ns.flatMap txt ++ r) = (ns, r, 0) := by
  have key : ∀ k, ∀ (ns : List (List UInt8)) (r : List UInt8), ns.length = k → (∀ s ∈ ns, s.length < 65536) → nT k (ns.flatMap txt ++ r) = (ns, r, 0) := by
    intro k
    induction k with
    | zero => intro ns r hl _; rw [List.eq_nil_of_length_eq_zero hl]; simp [nT]
    | succ k ih =>
      intro ns r hl h
      obtain ⟨ms, s, rfl⟩ : ∃ ms s, ns = ms ++ [s] := ⟨ns.dropLast, ns.getLast (by intro e; simp [e] at hl), (List.dropLast_concat_getLast _).symm⟩
      have h1 : (ms ++ [s]).flatMap txt ++ r = ms.flatMap txt ++ (txt s ++ r) := by simp
      rw [h1]
      simp only [nT]
      rw [ih ms (txt s ++ r) (by simpa using hl) (fun x hx => h x (by simp [hx]))]
      simp only
      rw [eT_txt s r (h s (by simp))]
      simp
  exact key _ ns r rfl h

/-- what is read, as if all were there -/
def decAns (l : List UInt8) (lim : Nat) : AnsR × List UInt8 × Int :=
  let a := eU 2 l
  let b := eU 2 a.2.1
  let c := eT b.2.1
  let d := eU 1 c.2.1
  let e := nT (min d.1 lim) d.2.1
  (⟨a.1, b.1, c.1, e.1⟩, e.2.1, a.2.2 + b.2.2 + c.2.2 + d.2.2 + e.2.2 + eE e.2.1)
def rdAns (l : List UInt8) : AnsR × Int := if (decAns l 7).1.right ∧ (decAns l 7).1.enc = l then ((decAns l 7).1, 0) else (AnsR.zero, 22)
theorem AnsR.dec {a : AnsR} (h : a.right) (lim : Nat) (hl : 6 ≤ lim) : decAns a.enc lim = (a, [], 0) ∧ (eU 1 (eT (eU 2 (eU 2 a.enc).2.1).2.1).2.1).1 = a.names.length := by
  obtain ⟨h1, h2, h3, h4, h5, h6, h7⟩ := h
  unfold decAns AnsR.enc
  have e1 : eU 2 (be a.code.toNat 2 ++ (be a.n.toNat 2 ++ (txt a.data ++ (be a.names.length 1 ++ a.names.flatMap txt)))) = _ := eU_be _ _ _ (by omega)
  have e2 : eU 2 (be a.n.toNat 2 ++ (txt a.data ++ (be a.names.length 1 ++ a.names.flatMap txt))) = _ := eU_be _ _ _ (by omega)
  have e3 : eT (txt a.data ++ (be a.names.length 1 ++ a.names.flatMap txt)) = _ := eT_txt _ _ (by omega)
  have e4 : eU 1 (be a.names.length 1 ++ a.names.flatMap txt) = _ := eU_be _ _ _ (by omega)
  have e5 := nT_txt a.names [] (fun s hs => by have := h7 s hs; unfold okName at this; omega)
  rw [List.append_nil] at e5
  have e6 : min a.names.length lim = a.names.length := by omega
  simp only [e1, e2, e3, e4, e6, e5]
  have : eE [] = 0 := rfl
  rw [this]
  obtain ⟨code, n, data, names⟩ := a
  simp only [Prod.mk.injEq, AnsR.mk.injEq] at *
  refine ⟨⟨⟨by omega, by omega, trivial, trivial⟩, trivial, by omega⟩, trivial⟩
theorem AnsR.enc_inj {a b : AnsR} (ha : a.right) (hb : b.right) (h : a.enc = b.enc) : a = b := by
  have h1 := (AnsR.dec ha 7 (by omega)).1
  rw [h, (AnsR.dec hb 7 (by omega)).1] at h1
  exact (Prod.ext_iff.1 h1).1.symm
theorem AnsR.read {a : AnsR} (h : a.right) : rdAns a.enc = (a, 0) := by
  unfold rdAns; rw [(AnsR.dec h 7 (by omega)).1, if_pos ⟨h, rfl⟩]
theorem wrAns_iff (a : AnsR) (l : List UInt8) : ((wrAns a).2 = 0 ∧ l = (wrAns a).1) ↔ (a.right ∧ a.enc = l) := by
  unfold wrAns
  split
  · rename_i h; simp [h]; exact eq_comm
  · rename_i h; simp [h]
/-- the document's way: all there, and right -/
theorem decAns_both (l : List UInt8) : ((decAns l 256).2.2 = 0 ∧ (decAns l 256).1.right) ↔ ((decAns l 7).1.right ∧ (decAns l 7).1.enc = l) := by
  constructor
  · rintro ⟨h, hr⟩
    have hn : (eU 1 (eT (eU 2 (eU 2 l).2.1).2.1).2.1).1 ≤ 6 := by
      have := hr.2.2.2.2.2.1
      simp only [decAns, nT_length] at this
      omega
    have hm : decAns l 7 = decAns l 256 := by
      simp only [decAns]
      rw [show min (eU 1 (eT (eU 2 (eU 2 l).2.1).2.1).2.1).1 7 = min (eU 1 (eT (eU 2 (eU 2 l).2.1).2.1).2.1).1 256 by omega]
    rw [hm]
    refine ⟨hr, ?_⟩
    simp only [decAns] at h ⊢
    generalize hk : min (eU 1 (eT (eU 2 (eU 2 l).2.1).2.1).2.1).1 256 = k at h ⊢
    have c1 := eU_code 2 l
    have c2 := eU_code 2 (eU 2 l).2.1
    have c3 := eT_code (eU 2 (eU 2 l).2.1).2.1
    have c4 := eU_code 1 (eT (eU 2 (eU 2 l).2.1).2.1).2.1
    have c5 := nT_code k (eU 1 (eT (eU 2 (eU 2 l).2.1).2.1).2.1).2.1
    have c6 := eE_code (nT k (eU 1 (eT (eU 2 (eU 2 l).2.1).2.1).2.1).2.1).2.1
    have k1 := (eU_ok (n := 2) (l := l) (by omega)).1
    have k2 := (eU_ok (n := 2) (l := (eU 2 l).2.1) (by omega)).1
    have k3 := (eT_ok (l := (eU 2 (eU 2 l).2.1).2.1) (by omega)).1
    have k4 := (eU_ok (n := 1) (l := (eT (eU 2 (eU 2 l).2.1).2.1).2.1) (by omega)).1
    have k5 := nT_ok k (eU 1 (eT (eU 2 (eU 2 l).2.1).2.1).2.1).2.1 (by omega)
    have k6 := eE_ok (l := (nT k (eU 1 (eT (eU 2 (eU 2 l).2.1).2.1).2.1).2.1).2.1) (by omega)
    rw [k6, List.append_nil] at k5
    unfold AnsR.enc
    simp only [Int.toNat_natCast, nT_length]
    have : k = (eU 1 (eT (eU 2 (eU 2 l).2.1).2.1).2.1).1 := by omega
    rw [← k5, this, ← k4, ← k3, ← k2, ← k1]
  · rintro ⟨hr, he⟩
    have h1 := AnsR.dec hr 256 (by omega)
    rw [he] at h1
    rw [h1.1]; exact ⟨rfl, hr⟩
theorem decAns_same {l : List UInt8} (h : (decAns l 7).1.right ∧ (decAns l 7).1.enc = l) : decAns l 256 = decAns l 7 := by
  have h1 := AnsR.dec h.1 256 (by omega)
  have h2 := AnsR.dec h.1 7 (by omega)
  rw [h.2] at h1 h2
  rw [h1.1, h2.1]
theorem AnsR.enc_len {a : AnsR} (h : a.right) : a.enc.length ≤ 1000 := by
  obtain ⟨h1, h2, h3, h4, h5, h6, h7⟩ := h
  have : ∀ ns : List (List UInt8), (∀ s ∈ ns, okName s) → (ns.flatMap txt).length ≤ 10 * ns.length := by
    intro ns
    induction ns with
    | nil => simp
    | cons s ns ih =>
      intro hs
      have := ih (fun x hx => hs x (by simp [hx]))
      have h0 := hs s (by simp)
      unfold okName at h0
      simp only [List.flatMap_cons, List.length_append, txt_length, List.length_cons]; omega
  have := this a.names h7
  unfold AnsR.enc; simp only [List.length_append, be_length, txt_length]; omega
end Go.Vc

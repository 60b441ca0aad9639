/-
  Plain: what a disk does.
-/
import Derived.Test.YteliekblhcbmgaaLists
set_option linter.unusedVariables false
set_option linter.unusedSimpArgs false
namespace Go.Vc
open Go
structure DkR where
  last : List (List UInt8)
  opn : List (Nat × List UInt8)
  left : Int
  down : Bool
def DkR.ok (D : DkR) : Prop := (∀ l ∈ D.last, l.length = 512) ∧ (∀ p ∈ D.opn, p.1 < D.last.length ∧ p.2.length = 512) ∧ -1 ≤ D.left ∧ D.left ≤ 9223372036854775807 ∧ D.last.length ≤ 4096
def zero512 : List UInt8 := List.replicate 512 0
theorem zero512_len : zero512.length = 512 := List.length_replicate
def newK (n : Nat) : DkR := ⟨List.replicate n zero512, [], -1, false⟩
theorem newK_ok {n : Nat} (h : n ≤ 4096) : (newK n).ok := by
  refine ⟨fun l hl => ?_, fun p hp => by simp [newK] at hp, by simp [newK], by simp [newK], by simp [newK]; exact h⟩
  have := List.eq_of_mem_replicate hl
  rw [this]; exact zero512_len
/-- the writes that are open, upon what lasts -/
def upon (i : Nat) (d : List UInt8) (ps : List (Nat × List UInt8)) : List UInt8 := ps.foldl (fun acc p => if p.1 = i then p.2 else acc) d
def curK (D : DkR) (i : Nat) : List UInt8 := upon i (D.last.getD i []) D.opn
def rdK (D : DkR) (i : Int) : List UInt8 × Int :=
  if D.down then ([], 3) else if 0 ≤ i ∧ i < D.last.length then (curK D i.toNat, 0) else ([], 2)
theorem upon_none {i : Nat} {d : List UInt8} {ps : List (Nat × List UInt8)} (h : ∀ p ∈ ps, p.1 ≠ i) : upon i d ps = d := by
  induction ps generalizing d with
  | nil => rfl
  | cons p ps ih =>
    show upon i (if p.1 = i then p.2 else d) ps = d
    rw [if_neg (h p (by simp))]
    exact ih fun q hq => h q (by simp [hq])
theorem upon_append (i : Nat) (d : List UInt8) (ps qs : List (Nat × List UInt8)) : upon i d (ps ++ qs) = upon i (upon i d ps) qs := by
  unfold upon; rw [List.foldl_append]
theorem upon_at {i : Nat} {d : List UInt8} {ps : List (Nat × List UInt8)} {j : Nat} {l : List UInt8} (hj : ps[j]? = some (i, l)) (h : ∀ k p, j < k → ps[k]? = some p → p.1 ≠ i) : upon i d ps = l := by
  have hlt := lt_of_get hj
  have e : ps = ps.take j ++ (i, l) :: ps.drop (j + 1) := by
    have : ps[j]'hlt = (i, l) := by rw [List.getElem?_eq_getElem hlt] at hj; simpa using hj
    rw [← this, List.getElem_cons_drop, List.take_append_drop]
  rw [e, upon_append]
  show upon i (if i = i then l else _) (ps.drop (j + 1)) = l
  rw [if_pos rfl]
  refine upon_none fun p hp => ?_
  obtain ⟨k, hk⟩ := List.getElem?_of_mem hp
  rw [List.getElem?_drop] at hk
  exact h _ p (by omega) hk
theorem upon_snoc (i : Nat) (d : List UInt8) (ps : List (Nat × List UInt8)) (p : Nat × List UInt8) : upon i d (ps ++ [p]) = if p.1 = i then p.2 else upon i d ps := by
  rw [upon_append]; rfl
theorem upon_mem {i : Nat} {d : List UInt8} {ps : List (Nat × List UInt8)} {Q : List UInt8 → Prop} (hd : Q d) (hp : ∀ p ∈ ps, Q p.2) : Q (upon i d ps) := by
  induction ps generalizing d with
  | nil => exact hd
  | cons p ps ih =>
    show Q (upon i (if p.1 = i then p.2 else d) ps)
    refine ih ?_ fun q hq => hp q (by simp [hq])
    split
    · exact hp p (by simp)
    · exact hd
theorem curK_len {D : DkR} (h : D.ok) {i : Nat} (hi : i < D.last.length) : (curK D i).length = 512 := by
  refine upon_mem (Q := fun l => l.length = 512) ?_ fun p hp => (h.2.1 p hp).2
  rw [List.getD_eq_getElem?_getD, List.getElem?_eq_getElem hi]
  exact h.1 _ (List.getElem_mem hi)
/-- a call is used up -/
def useK (D : DkR) : DkR × Bool := if D.left = 0 then ({ D with down := true }, false) else if 0 < D.left then ({ D with left := D.left - 1 }, true) else (D, true)
theorem useK_last (D : DkR) : (useK D).1.last = D.last ∧ (useK D).1.opn = D.opn := by
  unfold useK; split
  · exact ⟨rfl, rfl⟩
  · split <;> exact ⟨rfl, rfl⟩
theorem useK_ok {D : DkR} (h : D.ok) : (useK D).1.ok := by
  obtain ⟨h1, h2, h3, h4, h5⟩ := h
  unfold useK; split
  · exact ⟨h1, h2, h3, h4, h5⟩
  · split
    · exact ⟨h1, h2, by show -1 ≤ D.left - 1; omega, by show D.left - 1 ≤ _; omega, h5⟩
    · exact ⟨h1, h2, h3, h4, h5⟩
def wrK (D : DkR) (i : Int) (l : List UInt8) : DkR × Int :=
  if D.down then (D, 3) else if ¬ (0 ≤ i ∧ i < D.last.length) then (D, 2) else if l.length ≠ 512 then (D, 1) else
    ({ (useK D).1 with opn := D.opn ++ [(i.toNat, l)] }, if (useK D).2 then 0 else 3)
theorem wrK_ok {D : DkR} (h : D.ok) (i : Int) (l : List UInt8) : (wrK D i l).1.ok := by
  unfold wrK
  split
  · exact h
  split
  · exact h
  split
  · exact h
  rename_i h1 h2 h3
  have hu := useK_ok h
  obtain ⟨u1, u2⟩ := useK_last D
  refine ⟨hu.1, fun p hp => ?_, hu.2.2⟩
  rcases List.mem_append.1 hp with hp | hp
  · have := h.2.1 p hp
    show p.1 < (useK D).1.last.length ∧ _
    rw [u1]; exact this
  · have : p = (i.toNat, l) := by simpa using hp
    subst this
    show i.toNat < (useK D).1.last.length ∧ l.length = 512
    rw [u1]
    have h2 : 0 ≤ i ∧ i < D.last.length := by simpa using h2
    exact ⟨by omega, by simpa using h3⟩
theorem wrK_last (D : DkR) (i : Int) (l : List UInt8) : (wrK D i l).1.last = D.last := by
  unfold wrK
  split
  · rfl
  split
  · rfl
  split
  · rfl
  exact (useK_last D).1
theorem wrK_opn (D : DkR) (i : Int) (l : List UInt8) : (wrK D i l).1.opn.length ≤ D.opn.length + 1 := by
  unfold wrK
  split
  · simp
  split
  · simp
  split
  · simp
  simp
def putAll (L : List (List UInt8)) (ps : List (Nat × List UInt8)) : List (List UInt8) := ps.foldl (fun L p => L.set p.1 p.2) L
theorem putAll_length (L : List (List UInt8)) (ps : List (Nat × List UInt8)) : (putAll L ps).length = L.length := by
  induction ps generalizing L with
  | nil => rfl
  | cons p ps ih => show (putAll (L.set p.1 p.2) ps).length = _; rw [ih, List.length_set]
theorem putAll_snoc (L : List (List UInt8)) (ps : List (Nat × List UInt8)) (p : Nat × List UInt8) : putAll L (ps ++ [p]) = (putAll L ps).set p.1 p.2 := by
  unfold putAll; rw [List.foldl_append]; rfl
theorem putAll_get (L : List (List UInt8)) (ps : List (Nat × List UInt8)) {i : Nat} (hi : i < L.length) : (putAll L ps).getD i [] = upon i (L.getD i []) ps := by
  induction ps generalizing L with
  | nil => rfl
  | cons p ps ih =>
    show (putAll (L.set p.1 p.2) ps).getD i [] = upon i (if p.1 = i then p.2 else L.getD i []) ps
    rw [ih (L.set p.1 p.2) (by rw [List.length_set]; exact hi)]
    congr 1
    rw [List.getD_eq_getElem?_getD, List.getElem?_set, List.getD_eq_getElem?_getD]
    split
    · rename_i h; rw [if_pos (by omega)]; simp [h]
    · rename_i h; simp [h]
theorem putAll_mem {L : List (List UInt8)} {ps : List (Nat × List UInt8)} {Q : List UInt8 → Prop} (hL : ∀ l ∈ L, Q l) (hp : ∀ p ∈ ps, Q p.2) : ∀ l ∈ putAll L ps, Q l := by
  induction ps generalizing L with
  | nil => exact hL
  | cons p ps ih =>
    refine ih (fun l hl => ?_) fun q hq => hp q (by simp [hq])
    rcases List.mem_or_eq_of_mem_set hl with h | h
    · exact hL l h
    · rw [h]; exact hp p (by simp)
def flK (D : DkR) : DkR × Int :=
  if D.down then (D, 3) else if (useK D).2 then ({ (useK D).1 with last := putAll D.last D.opn, opn := [] }, 0) else ((useK D).1, 3)
theorem flK_ok {D : DkR} (h : D.ok) : (flK D).1.ok := by
  unfold flK
  split
  · exact h
  have hu := useK_ok h
  split
  · exact ⟨putAll_mem h.1 fun p hp => (h.2.1 p hp).2, fun p hp => by simp at hp, hu.2.2.1, hu.2.2.2.1, by show (putAll D.last D.opn).length ≤ _; rw [putAll_length]; exact h.2.2.2.2⟩
  · exact hu
theorem flK_len (D : DkR) : (flK D).1.last.length = D.last.length := by
  unfold flK
  split
  · rfl
  split
  · exact putAll_length ..
  · rw [(useK_last D).1]
theorem flK_opn (D : DkR) : (flK D).1.opn.length ≤ D.opn.length := by
  unfold flK
  split
  · exact Nat.le_refl _
  split
  · simp
  · rw [(useK_last D).2]; exact Nat.le_refl _
def limK (D : DkR) (n : Int) : DkR := { D with left := max n (-1) }
theorem limK_ok {D : DkR} (h : D.ok) {n : Int} (hn : n ≤ 9223372036854775807) : (limK D n).ok := ⟨h.1, h.2.1, by show -1 ≤ max n (-1); omega, by show max n (-1) ≤ _; omega, h.2.2.2.2⟩
/-- a fate -/
def cutF (f : Int) : Nat := (f / 4 % 513).toNat
theorem cutF_le (f : Int) : cutF f ≤ 512 := by unfold cutF; omega
def mixF (f : Int) (s l : List UInt8) : List UInt8 :=
  if f % 4 = 1 then l else if f % 4 = 2 then l.take (cutF f) ++ s.drop (cutF f) else if f % 4 = 3 then s.take (cutF f) ++ l.drop (cutF f) else s
theorem mixF_len {f : Int} {s l : List UInt8} (hs : s.length = 512) (hl : l.length = 512) : (mixF f s l).length = 512 := by
  have := cutF_le f
  unfold mixF
  split
  · exact hl
  split
  · rw [List.length_append, List.length_take, List.length_drop]; omega
  split
  · rw [List.length_append, List.length_take, List.length_drop]; omega
  · exact hs
theorem mixF_get {f : Int} {s l : List UInt8} (hs : s.length = 512) (hl : l.length = 512) (i : Nat) : (mixF f s l)[i]? = if f % 4 = 1 ∨ f % 4 = 2 ∧ i < cutF f ∨ f % 4 = 3 ∧ cutF f ≤ i then l[i]? else s[i]? := by
  have hc := cutF_le f
  have cut : ∀ (x y : List UInt8), x.length = 512 → y.length = 512 → (x.take (cutF f) ++ y.drop (cutF f))[i]? = if i < cutF f then x[i]? else y[i]? := fun x y hx hy => by
    have ht : (x.take (cutF f)).length = cutF f := by rw [List.length_take]; omega
    split
    · rw [List.getElem?_append_left (by omega), List.getElem?_take, if_pos (by omega)]
    · rw [List.getElem?_append_right (by omega), ht, List.getElem?_drop]; congr 1; omega
  unfold mixF
  by_cases h1 : f % 4 = 1
  · rw [if_pos h1, if_pos (.inl h1)]
  · rw [if_neg h1]
    by_cases h2 : f % 4 = 2
    · rw [if_pos h2, cut l s hl hs]
      by_cases hi : i < cutF f
      · rw [if_pos hi, if_pos (.inr (.inl ⟨h2, hi⟩))]
      · rw [if_neg hi, if_neg (by omega)]
    · rw [if_neg h2]
      by_cases h3 : f % 4 = 3
      · rw [if_pos h3, cut s l hs hl]
        by_cases hi : i < cutF f
        · rw [if_pos hi, if_neg (by omega)]
        · rw [if_neg hi, if_pos (by omega)]
      · rw [if_neg h3, if_neg (by omega)]
/-- what the first k fates make of the sectors -/
def fateAt (fs : List Int) (k : Nat) : Int := (fs[k]?).getD 0
def crash (fs : List Int) : List (Nat × List UInt8) → Nat → List (List UInt8) → List (List UInt8)
  | [], _, L => L
  | p :: ps, k, L => crash fs ps (k + 1) (L.set p.1 (mixF (fateAt fs k) (L.getD p.1 []) p.2))
theorem crash_snoc (fs : List Int) (ps : List (Nat × List UInt8)) (p : Nat × List UInt8) : ∀ (k : Nat) (L : List (List UInt8)), crash fs (ps ++ [p]) k L = (crash fs ps k L).set p.1 (mixF (fateAt fs (k + ps.length)) ((crash fs ps k L).getD p.1 []) p.2) := by
  induction ps with
  | nil => intro k L; rfl
  | cons q ps ih =>
    intro k L
    show crash fs (ps ++ [p]) (k + 1) _ = _
    rw [ih (k + 1)]
    rw [show k + 1 + ps.length = k + (q :: ps).length by simp; omega]
    rfl
theorem crash_length (fs : List Int) (ps : List (Nat × List UInt8)) : ∀ (k : Nat) (L : List (List UInt8)), (crash fs ps k L).length = L.length := by
  induction ps with
  | nil => intro k L; rfl
  | cons q ps ih => intro k L; show (crash fs ps (k + 1) _).length = _; rw [ih, List.length_set]
theorem crash_512 (fs : List Int) (ps : List (Nat × List UInt8)) : ∀ (k : Nat) (L : List (List UInt8)), (∀ l ∈ L, l.length = 512) → (∀ p ∈ ps, p.1 < L.length ∧ p.2.length = 512) → ∀ l ∈ crash fs ps k L, l.length = 512 := by
  induction ps with
  | nil => intro k L hL _; exact hL
  | cons q ps ih =>
    intro k L hL hp
    refine ih (k + 1) _ (fun l hl => ?_) fun p h => by rw [List.length_set]; exact hp p (by simp [h])
    rcases List.mem_or_eq_of_mem_set hl with h | h
    · exact hL l h
    · have hq := hp q (by simp)
      rw [h]
      refine mixF_len ?_ hq.2
      rw [List.getD_eq_getElem?_getD, List.getElem?_eq_getElem hq.1]
      exact hL _ (List.getElem_mem hq.1)
def crK (D : DkR) (fs : List Int) : DkR := ⟨crash fs D.opn 0 D.last, [], -1, false⟩
theorem crK_ok {D : DkR} (h : D.ok) (fs : List Int) : (crK D fs).ok :=
  ⟨crash_512 fs D.opn 0 D.last h.1 h.2.1, fun p hp => by simp [crK] at hp, by simp [crK], by simp [crK], by show (crash fs D.opn 0 D.last).length ≤ _; rw [crash_length]; exact h.2.2.2.2⟩
theorem crK_len (D : DkR) (fs : List Int) : (crK D fs).last.length = D.last.length := crash_length ..
end Go.Vc

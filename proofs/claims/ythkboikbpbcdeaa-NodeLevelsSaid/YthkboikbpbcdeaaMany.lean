/-
  Plain: so many things are read, one behind the other, as if all were there.
-/
import Derived.Test.YthkboikbpbcdeaaEyeX
set_option linter.unusedVariables false
set_option linter.unusedSimpArgs false
namespace Go.Vc
section
variable {α : Type}
def many (f : List UInt8 → α × List UInt8 × Int) : Nat → List UInt8 → List α × List UInt8 × Int
  | 0, l => ([], l, 0)
  | m + 1, l => ((many f m l).1 ++ [(f (many f m l).2.1).1], (f (many f m l).2.1).2.1, (many f m l).2.2 + (f (many f m l).2.1).2.2)
theorem many_length (f : List UInt8 → α × List UInt8 × Int) (m : Nat) (l : List UInt8) : (many f m l).1.length = m := by
  induction m with
  | zero => rfl
  | succ m ih => simp [many, ih]
variable {f : List UInt8 → α × List UInt8 × Int} {g : α → List UInt8} {good : α → Prop}
theorem many_code (hf : ∀ l, 0 ≤ (f l).2.2) (m : Nat) (l : List UInt8) : 0 ≤ (many f m l).2.2 := by
  induction m with
  | zero => simp [many]
  | succ m ih => have := hf (many f m l).2.1; simp only [many]; omega
theorem many_mono (hf : ∀ l, 0 ≤ (f l).2.2) {i k : Nat} (h : i ≤ k) (l : List UInt8) : (many f i l).2.2 ≤ (many f k l).2.2 := by
  induction k with
  | zero => rw [Nat.le_zero.1 h]; exact Int.le_refl _
  | succ k ih =>
    rcases Nat.lt_or_ge i (k + 1) with h' | h'
    · have := ih (by omega)
      have h2 := hf (many f k l).2.1
      simp only [many]; omega
    · rw [Nat.le_antisymm h h']; exact Int.le_refl _
theorem many_rest (hf : ∀ l, (f l).2.1.length ≤ l.length) (m : Nat) (l : List UInt8) : (many f m l).2.1.length ≤ l.length := by
  induction m with
  | zero => simp [many]
  | succ m ih => have := hf (many f m l).2.1; simp only [many]; omega
theorem many_good (hf : ∀ l, good (f l).1) (m : Nat) (l : List UInt8) : ∀ a ∈ (many f m l).1, good a := by
  induction m with
  | zero => simp [many]
  | succ m ih =>
    simp only [many, List.mem_append, List.mem_singleton]
    rintro a (h | rfl)
    · exact ih a h
    · exact hf _
theorem many_ok (hf : ∀ l, 0 ≤ (f l).2.2) (hg : ∀ l, (f l).2.2 = 0 → l = g (f l).1 ++ (f l).2.1) (m : Nat) (l : List UInt8) (h : (many f m l).2.2 = 0) : l = (many f m l).1.flatMap g ++ (many f m l).2.1 := by
  induction m with
  | zero => simp [many]
  | succ m ih =>
    simp only [many] at h ⊢
    have h1 := many_code hf m l
    have h2 := hf (many f m l).2.1
    have e1 := ih (by omega)
    have e2 := hg (many f m l).2.1 (by omega)
    rw [List.flatMap_append, List.append_assoc]
    simp only [List.flatMap_cons, List.flatMap_nil, List.append_nil]
    rw [← e2]; exact e1
theorem many_enc (hg : ∀ a r, good a → f (g a ++ r) = (a, r, 0)) : ∀ (al : List α) (r : List UInt8), (∀ a ∈ al, good a) → many f al.length (al.flatMap g ++ r) = (al, r, 0) := by
  have key : ∀ k, ∀ (al : List α) (r : List UInt8), al.length = k → (∀ a ∈ al, good a) → many f k (al.flatMap g ++ r) = (al, r, 0) := by
    intro k
    induction k with
    | zero => intro al r hl _; rw [List.eq_nil_of_length_eq_zero hl]; simp [many]
    | succ k ih =>
      intro al r hl h
      obtain ⟨ms, s, rfl⟩ : ∃ ms s, al = ms ++ [s] := ⟨al.dropLast, al.getLast (by intro e; simp [e] at hl), (List.dropLast_concat_getLast _).symm⟩
      have h1 : (ms ++ [s]).flatMap g ++ r = ms.flatMap g ++ (g s ++ r) := by simp
      rw [h1]
      simp only [many]
      rw [ih ms (g s ++ r) (by simpa using hl) (fun x hx => h x (by simp [hx]))]
      simp only
      rw [hg s r (h s (by simp))]
      simp
  exact fun al r h => key _ al r rfl h
end
end Go.Vc

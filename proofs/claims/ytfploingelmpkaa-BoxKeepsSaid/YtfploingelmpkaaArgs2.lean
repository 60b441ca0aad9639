/-
  More on how arguments are read: lists, texts, structs of several fields.
-/
import Derived.Test.YtfploingelmpkaaArgs
import Derived.Test.YtfploingelmpkaaFrame
set_option linter.unusedVariables false
set_option linter.unusedSimpArgs false
namespace Go.Vc
open Go Go.ChangeShapes Go.WideShapes Go.ChangeAt Go.RowKit
theorem list_of {α : Type} {n z : Nat} {xs : List Value} {P : α → List Value → Prop} (h : ∀ i, i < n → ∃ a, P a ((xs.drop (i * z)).take z)) :
    ∃ l : List α, l.length = n ∧ ∀ i a, l[i]? = some a → P a ((xs.drop (i * z)).take z) := by
  induction n with
  | zero => exact ⟨[], rfl, fun i a h => by simp at h⟩
  | succ n ih =>
    obtain ⟨l, hl, hp⟩ := ih (fun i hi => h i (by omega))
    obtain ⟨a, ha⟩ := h n (by omega)
    refine ⟨l ++ [a], by simp [hl], fun i b hb => ?_⟩
    rcases Nat.lt_or_ge i n with hi | hi
    · rw [List.getElem?_append_left (by omega)] at hb; exact hp i b hb
    · rw [List.getElem?_append_right (by omega)] at hb
      have := lt_of_get hb
      have hi2 : i = n := by simp at this; omega
      subst hi2
      rw [hl, Nat.sub_self] at hb
      simp at hb
      subst hb
      exact ha
theorem map_of {α : Type} {f : α → Value} {n : Nat} {xs : List Value} {P : α → Prop} (hl : xs.length = n) (h : ∀ i, i < n → ∃ a, (xs.drop (i * 1)).take 1 = [f a] ∧ P a) : ∃ l : List α, xs = l.map f ∧ l.length = n ∧ ∀ a ∈ l, P a := by
  obtain ⟨l, hn, hp⟩ := list_of (P := fun a cs => cs = [f a] ∧ P a) h
  refine ⟨l, ?_, hn, fun a ha => ?_⟩
  · apply List.ext_getElem?
    intro i
    rw [List.getElem?_map]
    rcases Nat.lt_or_ge i n with hi | hi
    · obtain ⟨a, ha⟩ := get_of_lt (l := l) (i := i) (by omega)
      have := (hp i a ha).1
      rw [ha]
      have h0 := congrArg (fun l : List Value => l[0]?) this
      simpa [List.getElem?_take, List.getElem?_drop] using h0
    · rw [List.getElem?_eq_none (by omega), List.getElem?_eq_none (by omega)]; rfl
  · obtain ⟨i, hi⟩ := List.getElem?_of_mem ha
    exact (hp i a hi).2
section
variable {P : Program}
theorem tp_strs {t e : TypeId} (ht : P.underlying t = some (.slice e)) (he : P.underlying e = some .string) (hz : P.cellsOf e = 1) :
    TP P t fun W cs => ∃ v l, cs = [v] ∧ l.length ≤ maxLen ∧ RdS (wv W) v 1 l.length (svs l) ∧ ∀ s ∈ l, s.length ≤ maxLen := fun H enc W fuel cs x h => by
  obtain ⟨v, n, xs, e, hn, hr, hq⟩ := tp_slice ht hz (by omega) (tp_string he) H enc W fuel cs x h
  have hlen : xs.length = n := by obtain ⟨_, _, _, _, hl, _⟩ := hr; simpa using hl
  obtain ⟨l, rfl, hl, hp⟩ := map_of (f := sv) (P := fun s => s.length ≤ maxLen) hlen hq
  exact ⟨v, l, e, by omega, by rw [hl]; exact hr, hp⟩
/-- a field's cells -/
theorem cut {cs : List Value} {o n m : Nat} (e : n = m) : (cs.drop o).take n = (cs.drop o).take m := by rw [e]
theorem one_at {cs : List Value} {o : Nat} {u : Value} (h : (cs.drop o).take 1 = [u]) : cs[o]? = some u := by
  have := congrArg (fun l : List Value => l[0]?) h
  simpa [List.getElem?_take, List.getElem?_drop] using this
theorem list_eq {cs ds : List Value} (hl : cs.length = ds.length) (h : ∀ i, i < ds.length → cs[i]? = ds[i]?) : cs = ds := by
  apply List.ext_getElem?
  intro i
  rcases Nat.lt_or_ge i ds.length with hi | hi
  · exact h i hi
  · rw [List.getElem?_eq_none (by omega), List.getElem?_eq_none hi]
end
end Go.Vc

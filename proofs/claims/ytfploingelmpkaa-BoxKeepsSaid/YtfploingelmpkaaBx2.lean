/-
  Memory: a slice of one's own (elements of z cells) that may begin anywhere in its block.
-/
import Derived.Test.YtfploingelmpkaaBx1
set_option linter.unusedVariables false
set_option linter.unusedSimpArgs false
namespace Go.Vc
open Go
def OwZ (h : View) (v : Value) (T z n : Nat) (xs : List Value) : Prop :=
  xs.length = n * z ∧ ((∃ o, v = .slice o 0 0 ∧ n = 0) ∨
    ∃ g off cap cur, v = .slice (some ⟨g, off, none⟩) n cap ∧ h g = some (.cells cur T (0, 0)) ∧ n ≤ cap ∧ 0 < cap ∧ cap ≤ maxLen ∧ cur.size = off + cap * z ∧ (cur.toList.drop off).take (n * z) = xs)
theorem OwZ.mono {h h' : View} {v : Value} {T z n : Nat} {xs : List Value} (ho : OwZ h v T z n xs) (hs : Sub h h') : OwZ h' v T z n xs := by
  refine ⟨ho.1, ho.2.imp id ?_⟩
  rintro ⟨g, off, cap, cur, e, hg, r⟩
  exact ⟨g, off, cap, cur, e, hs _ _ hg, r⟩
theorem OwZ.form {h : View} {v : Value} {T z n : Nat} {xs : List Value} (ho : OwZ h v T z n xs) : ∃ o c, v = .slice o n c := by
  rcases ho.2 with ⟨o, rfl, rfl⟩ | ⟨g, off, cap, cur, rfl, _⟩
  · exact ⟨o, 0, rfl⟩
  · exact ⟨_, _, rfl⟩
theorem OwZ.rd {h : View} {v : Value} {T z n : Nat} {xs : List Value} (ho : OwZ h v T z n xs) : RdS h v z n xs := by
  obtain ⟨hl, ho⟩ := ho
  rcases ho with ⟨o, rfl, rfl⟩ | ⟨g, off, cap, cur, rfl, hg, hn, _, _, hs, ht⟩
  · have : xs = [] := List.eq_nil_of_length_eq_zero (by simpa using hl)
    subst this
    exact RdS.nil h z o 0
  · refine ⟨_, cap, rfl, hn, by omega, .inr ⟨g, off, cur, T, (0, 0), rfl, hg, fun i u hu => ?_⟩⟩
    rw [← ht, List.getElem?_take] at hu
    split at hu
    · rw [List.getElem?_drop] at hu; simpa using hu
    · simp at hu
theorem OwZ.of {h : View} {v : Value} {T z n : Nat} {xs : List Value} (ho : OwS h v T z n xs) : OwZ h v T z n xs := by
  refine ⟨ho.1, ?_⟩
  rcases ho.2 with ⟨rfl, rfl⟩ | ⟨g, cap, cur, rfl, hg, hn, hm, hs, ht⟩
  · exact .inl ⟨none, rfl, rfl⟩
  · by_cases hc : cap = 0
    · subst hc
      have : n = 0 := by omega
      subst this
      exact .inl ⟨_, rfl, rfl⟩
    · exact .inr ⟨g, 0, cap, cur, rfl, hg, hn, by omega, hm, by omega, by simpa using ht⟩
theorem OwZ.drop {h : View} {o : Option Addr} {l c T z n k : Nat} {xs : List Value} (ho : OwZ h (.slice o l c) T z n xs) (hk : k ≤ n) : OwZ h (.slice (slBase o c k z) (l - k) (c - k)) T z (n - k) (xs.drop (k * z)) := by
  obtain ⟨hl, ho⟩ := ho
  refine ⟨by rw [List.length_drop, hl, Nat.sub_mul], ?_⟩
  rcases ho with ⟨o', e, rfl⟩ | ⟨g, off, cap, cur, e, hg, hn, hp, hm, hs, ht⟩
  · simp only [Value.slice.injEq] at e
    obtain ⟨e1, e2, e3⟩ := e
    have : k = 0 := by omega
    subst this
    exact .inl ⟨o, by simp [slBase, e2, e3], rfl⟩
  · simp only [Value.slice.injEq] at e
    obtain ⟨e1, e2, e3⟩ := e
    by_cases hck : c = k
    · exact .inl ⟨o, by rw [show slBase o c k z = o by unfold slBase; rw [if_pos hck]]; congr 1 <;> omega, by omega⟩
    · have e : slBase o c k z = some ⟨g, off + k * z, none⟩ := by rw [e1]; unfold slBase; rw [if_neg hck]; simp [addr_add]
      rw [e]
      have hkc : k * z ≤ cap * z := Nat.mul_le_mul_right _ (by omega)
      refine .inr ⟨g, off + k * z, c - k, cur, by rw [e2], hg, by omega, by omega, by omega, by rw [e3, Nat.sub_mul]; omega, ?_⟩
      rw [← ht, List.drop_take, List.drop_drop, Nat.sub_mul]
theorem OwZ.len {h : View} {o : Option Addr} {l c T z n : Nat} {xs : List Value} (ho : OwZ h (.slice o l c) T z n xs) : l = n ∧ n ≤ c ∧ xs.length = n * z := ho.rd.len
section
variable {P : Program}
/-- append to such a slice: of the blocks of its colour at most one that holds such elements turns -/
theorem appZ {t e z by' ty : Nat} (hT : SlT P t e z by') {c : Nat → Nat} {i : Nat} {w : World} {s x : Value} {n m : Nat} {xs ys : List Value} (ho : OwZ (view c i w) s e z n xs) (hr : RdS (Vc.wv w) x z m ys) (hm0 : 0 < m)
    (h1 : ∀ u ∈ ys, u.oneCell' = true) (hb : (n + m) * by' ≤ 140737488355328) (hb' : n + m ≤ 140737488355328) {K : Value → World → Prop}
    (h : ∀ v' c' w' r, Wr c i w c' w' r → (∀ b, r = some b → ∃ cur, view c i w b = some (.cells cur e (0, 0))) → OwZ (view c' i w') v' e z (n + m) (xs ++ ys) → K v' w') :
    RunV P (Builtin.append_ #[t, t] ty #[s, x]) w K := by
  obtain ⟨ti, zv, hi, hsz, hby, hz, hzs⟩ := hT.inf
  obtain ⟨hlx, hos⟩ := id ho
  have hzp := hT.pos
  rcases hos with ⟨o, rfl, rfl⟩ | ⟨g, off, cap, cur, rfl, hg, hnc, hp, hcm, hcs, htake⟩
  · have hx0 : xs = [] := List.eq_nil_of_length_eq_zero (by simpa using hlx)
    subst hx0
    cases o with
    | none =>
      refine append_col hT (OwS.nil (view c i w) e z) hr h1 hb hb' fun v' c' w' hW ho' _ => ?_
      exact h v' c' w' none (by simpa [Value.ownBlock] using hW) (by simp) (OwZ.of ho')
    | some a0 =>
      obtain ⟨o', cp, rfl, hmc, hl, hx⟩ := hr
      cases o' with
      | none =>
        have hys : ys = [] := by
          rcases hx with h | ⟨b, off, cs, T, fz, e', _⟩
          · exact h
          · simp at e'
        subst hys
        have : m * z = 0 := by simpa using hl.symm
        rcases Nat.mul_eq_zero.1 this with h | h <;> omega
      | some a =>
        have hnews : ∀ j u, ys[j]? = some u → w.cell? (a.add j) = some u := by
          intro j u hu
          have hr : RdS (Vc.wv w) (.slice (some a) m cp) z m ys := ⟨_, _, rfl, hmc, hl, hx⟩
          obtain ⟨a', ea, hc⟩ := hr.cell hu
          simp at ea; subst ea; exact hc
        have hb0 : (0 + m) * ti.bytes ≤ 140737488355328 := by rw [hby]; exact hb
        have hrun := run_append_grow (P := P) w t ty e ti zv hT.und hi hz a0 0 0 [] (by simp) (by simp) a m cp ys (by rw [hl, hsz]) hnews (by omega) (by omega) (growslice_fits (by omega) hb0)
        have hge := grownCap_ge w (0 + m) 0 e
        have hcm : grownCap w (0 + m) 0 e ≤ maxLen := grownCap_le_maxLen w (0 + m) 0 e (by simp only [maxLen]; omega)
        have hgz : (0 + m) * z ≤ grownCap w (0 + m) 0 e * z := Nat.mul_le_mul_right _ hge
        refine RunV.mk hrun (h _ (ext c w.heap.size i) _ none (.of_grown ⟨rfl, rfl, rfl, by simp, fun k hk _ => heap_alloc_old w.drew _ hk⟩ (by simp)) (by simp) ⟨by simp [hl], .inr ⟨w.heap.size, 0, _, _, rfl, view_in (ext_new (Nat.le_refl _)) (heap_alloc_new w.drew _), hge, by omega, hcm, ?_, ?_⟩⟩)
        · simp only [Array.size_append, List.size_toArray, size_zeroCells, hzs, hl, List.length_nil]
          rw [Nat.zero_add] at hgz ⊢
          rw [Nat.sub_mul]; simp only [Nat.zero_add] at *; omega
        · simp only [Array.toList_append, List.drop_zero, List.nil_append]
          rw [Nat.zero_add, ← hl]
          exact List.take_left
  · obtain ⟨o', cp, rfl, hmc, hl, hx⟩ := hr
    have hgw := (view_out hg).2
    have hlen : (xs ++ ys).length = (n + m) * z := by rw [List.length_append, hlx, hl, Nat.add_mul]
    cases o' with
    | none =>
      have hys : ys = [] := by
        rcases hx with h | ⟨b, off, cs, T, fz, e', _⟩
        · exact h
        · simp at e'
      subst hys
      have : m * z = 0 := by simpa using hl.symm
      rcases Nat.mul_eq_zero.1 this with h | h <;> omega
    | some a =>
      have hnews : ∀ j u, ys[j]? = some u → w.cell? (a.add j) = some u := by
        intro j u hu
        have hr : RdS (Vc.wv w) (.slice (some a) m cp) z m ys := ⟨_, _, rfl, hmc, hl, hx⟩
        obtain ⟨a', ea, hc⟩ := hr.cell hu
        simp at ea; subst ea; exact hc
      by_cases hroom : n + m ≤ cap
      · have hrz : (n + m) * z ≤ cap * z := Nat.mul_le_mul_right _ hroom
        rw [Nat.add_mul] at hrz
        have hf := run_firstCells_some (P := P) w z m a m cp ys (by rw [hl]) hnews
        have hst := run_storeCells_at P g (off + n * z) e ys 0 cur w hgw (by omega) h1
        simp only [Nat.add_zero] at hst
        have hrun : (Builtin.append_ #[t, t] ty #[.slice (some ⟨g, off, none⟩) n cap, .slice (some a) m cp]).run P w =
            .ok (.slice (some ⟨g, off, none⟩) (n + m) cap) (w.setRow g (cur.toList.take (off + n * z) ++ ys ++ cur.toList.drop (off + n * z + ys.length)).toArray) := by
          simp [Builtin.append_, run_underlying hT.und, sizeOf, typeInfo, hi, hsz, Builtin.lenOf, hroom, hf, addr_add, hst]
        refine RunV.mk hrun (h _ c _ (some g) (.same ⟨rfl, rfl, rfl, by simp, fun k _ hk => setRow_other w g k _ (fun e => hk (by simp [e]))⟩ (by simp) (by simp [(view_out hg).1])) (fun b e => by cases e; exact ⟨_, hg⟩) ⟨hlen, .inr ⟨g, off, cap, _, rfl, view_in (view_out hg).1 (setRow_heap w g cur _ e _ hgw), hroom, hp, hcm, ?_, ?_⟩⟩)
        · simp only [List.size_toArray, List.length_append, List.length_take, List.length_drop, Array.length_toList]
          omega
        · have e1 : cur.toList.take (off + n * z) = cur.toList.take off ++ xs := by rw [← htake, List.take_add]
          rw [e1, List.append_assoc, List.append_assoc, List.drop_append]
          have e2 : (cur.toList.take off).length = off := by rw [List.length_take, Array.length_toList]; omega
          rw [List.drop_eq_nil_of_le (by omega), e2, Nat.sub_self, List.drop_zero, List.nil_append, ← List.append_assoc, ← hlen]
          exact List.take_left
      · have holds : ∀ j u, xs[j]? = some u → w.cell? ((⟨g, off, none⟩ : Addr).add j) = some u := by
          intro j u hu
          obtain ⟨a', ea, hc⟩ := (ho.mono (view_sub c i w)).rd.cell hu
          simp at ea; subst ea; exact hc
        have hb0 : (n + m) * ti.bytes ≤ 140737488355328 := by rw [hby]; exact hb
        have hrun := run_append_grow (P := P) w t ty e ti zv hT.und hi hz ⟨g, off, none⟩ n cap xs (by rw [hlx, hsz]) holds a m cp ys (by rw [hl, hsz]) hnews (by omega) (by omega) (growslice_fits (by omega) hb0)
        have hge := grownCap_ge w (n + m) cap e
        have hcm2 : grownCap w (n + m) cap e ≤ maxLen := grownCap_le_maxLen w (n + m) cap e (by simp only [maxLen]; omega)
        have hgz : (n + m) * z ≤ grownCap w (n + m) cap e * z := Nat.mul_le_mul_right _ hge
        refine RunV.mk hrun (h _ (ext c w.heap.size i) _ none (.of_grown ⟨rfl, rfl, rfl, by simp, fun k hk _ => heap_alloc_old w.drew _ hk⟩ (by simp)) (by simp) ⟨hlen, .inr ⟨w.heap.size, 0, _, _, rfl, view_in (ext_new (Nat.le_refl _)) (heap_alloc_new w.drew _), hge, by omega, hcm2, ?_, ?_⟩⟩)
        · simp only [Array.size_append, List.size_toArray, size_zeroCells, hzs, hlx, hl]
          rw [Nat.sub_mul]; rw [Nat.add_mul] at hgz ⊢; omega
        · simp only [Array.toList_append, List.drop_zero, List.append_assoc]
          rw [← List.append_assoc, ← hlen]
          exact List.take_left
end
end Go.Vc

/-
  Memory: a slice of bytes of one's own that may begin anywhere in its block.
-/
import Derived.Test.YteliekblhcbmgaaFrame
set_option linter.unusedVariables false
set_option linter.unusedSimpArgs false
namespace Go.Vc
open Go

/-- a slice of one's own (elements of one cell) that may begin anywhere in its block; without room its place is open -/
def OwO (h : View) (v : Value) (T n : Nat) (xs : List Value) : Prop :=
  xs.length = n ∧ ((∃ o, v = .slice o 0 0 ∧ n = 0) ∨
    ∃ g off cap cur, v = .slice (some ⟨g, off, none⟩) n cap ∧ h g = some (.cells cur T (0, 0)) ∧ n ≤ cap ∧ 0 < cap ∧ cap ≤ maxLen ∧ cur.size = off + cap ∧ (cur.toList.drop off).take n = xs)
theorem OwO.mono {h h' : View} {v : Value} {T n : Nat} {xs : List Value} (ho : OwO h v T n xs) (hs : Sub h h') : OwO h' v T n xs := by
  refine ⟨ho.1, ho.2.imp id ?_⟩
  rintro ⟨g, off, cap, cur, e, hg, r⟩
  exact ⟨g, off, cap, cur, e, hs _ _ hg, r⟩
theorem OwO.form {h : View} {v : Value} {T n : Nat} {xs : List Value} (ho : OwO h v T n xs) : ∃ o c, v = .slice o n c := by
  rcases ho.2 with ⟨o, rfl, rfl⟩ | ⟨g, off, cap, cur, rfl, _⟩
  · exact ⟨o, 0, rfl⟩
  · exact ⟨_, _, rfl⟩
theorem OwO.rd {h : View} {v : Value} {T n : Nat} {xs : List Value} (ho : OwO h v T n xs) : RdS h v 1 n xs := by
  obtain ⟨hl, ho⟩ := ho
  rcases ho with ⟨o, rfl, rfl⟩ | ⟨g, off, cap, cur, rfl, hg, hn, _, _, hs, ht⟩
  · have : xs = [] := List.eq_nil_of_length_eq_zero hl
    subst this
    exact RdS.nil h 1 o 0
  · refine ⟨_, cap, rfl, hn, by omega, .inr ⟨g, off, cur, T, (0, 0), rfl, hg, fun i u hu => ?_⟩⟩
    rw [← ht, List.getElem?_take] at hu
    split at hu
    · rw [List.getElem?_drop] at hu; simpa using hu
    · simp at hu
theorem OwO.of {h : View} {v : Value} {T n : Nat} {xs : List Value} (ho : OwS h v T 1 n xs) : OwO h v T n xs := by
  refine ⟨by simpa using ho.1, ?_⟩
  rcases ho.2 with ⟨rfl, rfl⟩ | ⟨g, cap, cur, rfl, hg, hn, hm, hs, ht⟩
  · exact .inl ⟨none, rfl, rfl⟩
  · by_cases hc : cap = 0
    · subst hc
      have : n = 0 := by omega
      subst this
      exact .inl ⟨_, rfl, rfl⟩
    · exact .inr ⟨g, 0, cap, cur, rfl, hg, hn, by omega, hm, by omega, by simpa using ht⟩
theorem OwO.drop {h : View} {o : Option Addr} {l c T n k : Nat} {xs : List Value} (ho : OwO h (.slice o l c) T n xs) (hk : k ≤ n) : OwO h (.slice (slBase o c k 1) (l - k) (c - k)) T (n - k) (xs.drop k) := by
  obtain ⟨hl, ho⟩ := ho
  refine ⟨by rw [List.length_drop, hl], ?_⟩
  rcases ho with ⟨o', e, rfl⟩ | ⟨g, off, cap, cur, e, hg, hn, hp, hm, hs, ht⟩
  · simp only [Value.slice.injEq] at e
    obtain ⟨e1, e2, e3⟩ := e
    have : k = 0 := by omega
    subst this
    exact .inl ⟨o, by simp [slBase, e2, e3], rfl⟩
  · simp only [Value.slice.injEq] at e
    obtain ⟨e1, e2, e3⟩ := e
    by_cases hck : c = k
    · exact .inl ⟨o, by rw [show slBase o c k 1 = o by unfold slBase; rw [if_pos hck]]; congr 1 <;> omega, by omega⟩
    · have e : slBase o c k 1 = some ⟨g, off + k, none⟩ := by rw [e1]; unfold slBase; rw [if_neg hck]; simp [addr_add]
      rw [e]
      refine .inr ⟨g, off + k, c - k, cur, by rw [e2], hg, by omega, by omega, by omega, by omega, ?_⟩
      rw [← ht, List.drop_take, List.drop_drop]
theorem OwO.len {h : View} {o : Option Addr} {l c T n : Nat} {xs : List Value} (ho : OwO h (.slice o l c) T n xs) : l = n ∧ n ≤ c ∧ xs.length = n := by
  have := ho.rd.len
  rw [Nat.mul_one] at this
  exact this

section
variable {P : Program}
/-- append to such a slice: of the blocks of its colour at most one that holds such elements turns -/
theorem appO {t e ty : Nat} (hT : SlT P t e 1 1) {c : Nat → Nat} {i : Nat} {w : World} {s x : Value} {n m : Nat} {xs ys : List Value} (ho : OwO (view c i w) s e n xs) (hr : RdS (Vc.wv w) x 1 m ys)
    (h1 : ∀ u ∈ ys, u.oneCell' = true) (hb : n + m ≤ 140737488355328) {K : Value → World → Prop}
    (h : ∀ v' c' w' r, Wr c i w c' w' r → (∀ b, r = some b → ∃ cur, view c i w b = some (.cells cur e (0, 0))) → OwO (view c' i w') v' e (n + m) (xs ++ ys) → K v' w') :
    RunV P (Builtin.append_ #[t, t] ty #[s, x]) w K := by
  obtain ⟨ti, zv, hi, hsz, hby, hz, hzs⟩ := hT.inf
  obtain ⟨hlx, hos⟩ := id ho
  rcases hos with ⟨o, rfl, rfl⟩ | ⟨g, off, cap, cur, rfl, hg, hnc, hp, hcm, hcs, htake⟩
  · have hx0 : xs = [] := List.eq_nil_of_length_eq_zero hlx
    subst hx0
    cases o with
    | none =>
      refine append_col hT (OwS.nil (view c i w) e 1) hr h1 (by omega) (by omega) fun v' c' w' hW ho' _ => ?_
      exact h v' c' w' none (by simpa [Value.ownBlock] using hW) (by simp) (OwO.of ho')
    | some a0 =>
      obtain ⟨o', cp, rfl, hmc, hl, hx⟩ := hr
      have hl : ys.length = m := by omega
      by_cases hm0 : m = 0
      · subst hm0
        have hn : ys = [] := List.eq_nil_of_length_eq_zero hl
        subst hn
        refine RunV.mk (v := .slice (some a0) 0 0) (w' := w) ?_ (h _ c w none (.same ⟨rfl, rfl, rfl, Nat.le_refl _, fun _ _ _ => rfl⟩ rfl (by simp)) (by simp) (by simpa using ho))
        cases o' with
        | none => simp [Builtin.append_, run_underlying hT.und, sizeOf, typeInfo, hi, Builtin.lenOf, Builtin.firstCells, storeCells]
        | some a1 => simp [Builtin.append_, run_underlying hT.und, sizeOf, typeInfo, hi, Builtin.lenOf, Builtin.firstCells, loadCells, loadCellsFrom, hsz, storeCells]
      · cases o' with
        | none =>
          have hys : ys = [] := by
            rcases hx with h | ⟨b, off, cs, T, fz, e', _⟩
            · exact h
            · simp at e'
          subst hys
          simp at hl; omega
        | some a =>
          have hnews : ∀ j u, ys[j]? = some u → w.cell? (a.add j) = some u := by
            intro j u hu
            have hr : RdS (Vc.wv w) (.slice (some a) m cp) 1 m ys := ⟨_, _, rfl, hmc, by omega, hx⟩
            obtain ⟨a', ea, hc⟩ := hr.cell hu
            simp at ea; subst ea; exact hc
          have hrun := run_append_grow (P := P) w t ty e ti zv hT.und hi hz a0 0 0 [] (by simp) (by simp) a m cp ys (by rw [hl, hsz]; omega) hnews (by omega) (by omega) (by rw [hby]; exact growslice_fits (by omega) (by omega))
          have hge := grownCap_ge w (0 + m) 0 e
          have hcm : grownCap w (0 + m) 0 e ≤ maxLen := grownCap_le_maxLen w (0 + m) 0 e (by simp only [maxLen]; omega)
          refine RunV.mk hrun (h _ (ext c w.heap.size i) _ none (.of_grown ⟨rfl, rfl, rfl, by simp, fun k hk _ => heap_alloc_old w.drew _ hk⟩ (by simp)) (by simp) ⟨by simp [hl], .inr ⟨w.heap.size, 0, _, _, rfl, view_in (ext_new (Nat.le_refl _)) (heap_alloc_new w.drew _), hge, by omega, hcm, ?_, ?_⟩⟩)
          · simp only [Array.size_append, List.size_toArray, size_zeroCells, hzs, hl, List.length_nil]; omega
          · simp only [Array.toList_append, List.drop_zero, List.nil_append]
            rw [Nat.zero_add, ← hl]
            exact List.take_left
  · obtain ⟨o', cp, rfl, hmc, hl, hx⟩ := hr
    have hl : ys.length = m := by omega
    have hgw := (view_out hg).2
    have hlen : (xs ++ ys).length = n + m := by rw [List.length_append, hlx, hl]
    cases o' with
    | none =>
      have hys : ys = [] := by
        rcases hx with h | ⟨b, off, cs, T, fz, e', _⟩
        · exact h
        · simp at e'
      subst hys
      have : m = 0 := by simpa using hl.symm
      subst this
      refine RunV.mk (v := .slice (some ⟨g, off, none⟩) n cap) (w' := w) ?_ (h _ c w none (.same ⟨rfl, rfl, rfl, Nat.le_refl _, fun _ _ _ => rfl⟩ rfl (by simp)) (by simp) (by simpa using ho))
      simp [Builtin.append_, run_underlying hT.und, sizeOf, typeInfo, hi, Builtin.lenOf, Builtin.firstCells, hnc, storeCells]
    | some a =>
      have hnews : ∀ j u, ys[j]? = some u → w.cell? (a.add j) = some u := by
        intro j u hu
        have hr : RdS (Vc.wv w) (.slice (some a) m cp) 1 m ys := ⟨_, _, rfl, hmc, by omega, hx⟩
        obtain ⟨a', ea, hc⟩ := hr.cell hu
        simp at ea; subst ea; exact hc
      by_cases hroom : n + m ≤ cap
      · have hf := run_firstCells_some (P := P) w 1 m a m cp ys (by omega) hnews
        have hst := run_storeCells_at P g (off + n) e ys 0 cur w hgw (by omega) h1
        simp only [Nat.add_zero] at hst
        have hrun : (Builtin.append_ #[t, t] ty #[.slice (some ⟨g, off, none⟩) n cap, .slice (some a) m cp]).run P w =
            .ok (.slice (some ⟨g, off, none⟩) (n + m) cap) (w.setRow g (cur.toList.take (off + n) ++ ys ++ cur.toList.drop (off + n + ys.length)).toArray) := by
          simp [Builtin.append_, run_underlying hT.und, sizeOf, typeInfo, hi, hsz, Builtin.lenOf, hroom, hf, addr_add, hst]
        refine RunV.mk hrun (h _ c _ (some g) (.same ⟨rfl, rfl, rfl, by simp, fun k _ hk => setRow_other w g k _ (fun e => hk (by simp [e]))⟩ (by simp) (by simp [(view_out hg).1])) (fun b e => by cases e; exact ⟨_, hg⟩) ⟨hlen, .inr ⟨g, off, cap, _, rfl, view_in (view_out hg).1 (setRow_heap w g cur _ e _ hgw), hroom, hp, hcm, ?_, ?_⟩⟩)
        · simp only [List.size_toArray, List.length_append, List.length_take, List.length_drop, Array.length_toList]
          omega
        · have e1 : cur.toList.take (off + n) = cur.toList.take off ++ xs := by rw [← htake, List.take_add]
          rw [e1, List.append_assoc, List.append_assoc, List.drop_append]
          have e2 : (cur.toList.take off).length = off := by rw [List.length_take, Array.length_toList]; omega
          rw [List.drop_eq_nil_of_le (by omega), e2, Nat.sub_self, List.drop_zero, List.nil_append, ← List.append_assoc, ← hlen]
          exact List.take_left
      · have holds : ∀ j u, xs[j]? = some u → w.cell? ((⟨g, off, none⟩ : Addr).add j) = some u := by
          intro j u hu
          obtain ⟨a', ea, hc⟩ := (ho.mono (view_sub c i w)).rd.cell hu
          simp at ea; subst ea; exact hc
        have hrun := run_append_grow (P := P) w t ty e ti zv hT.und hi hz ⟨g, off, none⟩ n cap xs (by rw [hlx, hsz]; omega) holds a m cp ys (by rw [hl, hsz]; omega) hnews (by omega) (by omega) (by rw [hby]; exact growslice_fits (by omega) (by omega))
        have hge := grownCap_ge w (n + m) cap e
        have hcm2 : grownCap w (n + m) cap e ≤ maxLen := grownCap_le_maxLen w (n + m) cap e (by simp only [maxLen]; omega)
        refine RunV.mk hrun (h _ (ext c w.heap.size i) _ none (.of_grown ⟨rfl, rfl, rfl, by simp, fun k hk _ => heap_alloc_old w.drew _ hk⟩ (by simp)) (by simp) ⟨hlen, .inr ⟨w.heap.size, 0, _, _, rfl, view_in (ext_new (Nat.le_refl _)) (heap_alloc_new w.drew _), hge, by omega, hcm2, ?_, ?_⟩⟩)
        · simp only [Array.size_append, List.size_toArray, size_zeroCells, hzs, hlx, hl]; omega
        · simp only [Array.toList_append, List.drop_zero, List.append_assoc]
          rw [← List.append_assoc, ← hlen]
          exact List.take_left
/-- a variable within a variable is stored -/
theorem RunU.part {ty T : TypeId} {c : Nat → Nat} {i : Nat} {w : World} {b k : Nat} {cs es : List Value} {C : World → Prop} (hb : view c i w b = some (.cells cs.toArray T (0, 0)))
    (hi : (P.info? ty).map (·.size) = some es.length) (hk : k + es.length ≤ cs.length) (h1 : ∀ u ∈ es, u.oneCell' = true)
    (h : ∀ w', Wr c i w c w' (some b) → Step c [i] [] w c w' → view c i w' b = some (.cells (cs.take k ++ es ++ cs.drop (k + es.length)).toArray T (0, 0)) → C w') : RunU P (storeVar ty ((⟨b, 0, none⟩ : Addr).add k) (.agg es.toArray)) w C := by
  rw [addr_add, Nat.zero_add]
  obtain ⟨hc, hw⟩ := view_out hb
  have hst := run_storeCells_at P b k T es 0 cs.toArray w hw (by simpa using hk) h1
  simp only [Nat.add_zero] at hst
  have hrun : (storeVar ty ⟨b, k, none⟩ (.agg es.toArray)).run P w = .ok () (w.setRow b (cs.take k ++ es ++ cs.drop (k + es.length)).toArray) := by
    cases hq : P.info? ty with
    | none => simp [hq] at hi
    | some it =>
      have hs : es.length = it.size := by simp [hq] at hi; omega
      simp [storeVar, sizeOf, typeInfo, hq, Value.cells, hs, hst]
  have hsz : (w.setRow b (cs.take k ++ es ++ cs.drop (k + es.length)).toArray).heap.size = w.heap.size := by simp
  have hW : Wr c i w c (w.setRow b (cs.take k ++ es ++ cs.drop (k + es.length)).toArray) (some b) := .same ⟨rfl, rfl, rfl, by simp, fun j _ hj => setRow_other w b j _ (fun e => hj (by simp [e]))⟩ hsz (by simp [hc])
  have h0 := hW.step
  exact RunU.mk hrun (h _ hW ⟨h0.os, h0.tape, h0.output, h0.size, h0.col, fun b' h1 h2 => by omega, h0.keep⟩ (view_in hc (setRow_heap w b cs.toArray _ T _ hw)))
end

/-! rows that are written cell by cell -/
/-- the first i are A's, the rest are B's -/
def upto {α : Type} (A B : List α) (i : Nat) : List α := A.take i ++ B.drop i
theorem upto_zero {α : Type} (A B : List α) : upto A B 0 = B := by simp [upto]
theorem upto_full {α : Type} {A B : List α} (n : Nat) (ha : A.length ≤ n) (hb : B.length ≤ n) : upto A B n = A := by
  unfold upto; rw [List.take_of_length_le ha, List.drop_eq_nil_of_le hb, List.append_nil]
theorem upto_length {α : Type} {A B : List α} (h : A.length = B.length) (i : Nat) : (upto A B i).length = B.length := by
  unfold upto; rw [List.length_append, List.length_take, List.length_drop]; omega
theorem upto_set {α : Type} {A B : List α} {i : Nat} {x : α} (h : A.length = B.length) (hx : A[i]? = some x) : (upto A B i).set i x = upto A B (i + 1) := by
  have hi := lt_of_get hx
  unfold upto
  have hl : (A.take i).length = i := by rw [List.length_take]; omega
  rw [List.set_append_right _ _ (by omega), hl, Nat.sub_self, List.take_add_one, hx]
  have : B.drop i = B[i] :: B.drop (i + 1) := (List.drop_eq_getElem_cons (by omega))
  simp only [Option.toList_some, List.append_assoc, List.singleton_append]
  rw [this, List.set_cons_zero]
theorem upto_lt {α : Type} {A B : List α} {i k : Nat} (hk : k < i) (hi : i ≤ A.length) : (upto A B i)[k]? = A[k]? := by
  unfold upto
  rw [List.getElem?_append_left (by rw [List.length_take]; omega), List.getElem?_take, if_pos hk]
theorem upto_ge {α : Type} {A B : List α} {i k : Nat} (hk : i ≤ k) (hi : i ≤ A.length) : (upto A B i)[k]? = B[k]? := by
  unfold upto
  rw [List.getElem?_append_right (by rw [List.length_take]; omega), List.length_take, List.getElem?_drop]
  congr 1; omega
theorem toArray_set (l : List Value) (i : Nat) (v : Value) : l.toArray.setIfInBounds i v = (l.set i v).toArray := by simp
end Go.Vc

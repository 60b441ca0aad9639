/-
  More of memory: whole variables, made slices, readings of elements, loops that spoil.
-/
import Derived.Test.YtfploingelmpkaaNums
set_option linter.unusedVariables false
namespace Go.Vc
open Go

section
variable {P : Program}
theorem storeVar_col {ty T : TypeId} {c : Nat → Nat} {i : Nat} {w : World} {b : Nat} {old cells : Array Value} {C : World → Prop} (hb : view c i w b = some (.cells old T (0, 0)))
    (hi : (P.info? ty).map (·.size) = some cells.size) (ho : old.size = cells.size) (h1 : cells.all (·.oneCell') = true)
    (h : ∀ w', Wr c i w c w' (some b) → Step c [i] [] w c w' → view c i w' b = some (.cells cells T (0, 0)) → C w') : RunU P (storeVar ty ⟨b, 0, none⟩ (.agg cells)) w C := by
  obtain ⟨hc, hw⟩ := view_out hb
  have hrun := run_storeVar_row (P := P) w b T ty old cells hw hi ho h1
  have hsz : (w.setRow b cells).heap.size = w.heap.size := by simp
  have hW : Wr c i w c (w.setRow b cells) (some b) := .same ⟨rfl, rfl, rfl, by simp, fun k _ hk => setRow_other w b k _ (fun e => hk (by simp [e]))⟩ hsz (by simp [hc])
  have h0 := hW.step
  exact RunU.mk hrun (h _ hW ⟨h0.os, h0.tape, h0.output, h0.size, h0.col, fun b' h1 h2 => by omega, h0.keep⟩ (view_in hc (setRow_heap w b old cells T _ hw)))

def zeroCB (P : Program) (e : TypeId) : Option (Array Value × Nat × Nat) := (P.info? e).bind fun i => i.zero.map fun v => (v.cells, i.size, i.bytes)
theorem make_col {t e : TypeId} {z by' : Nat} {zc : Array Value} (ht : P.underlying t = some (.slice e)) (hz : zeroCB P e = some (zc, z, by')) (c : Nat → Nat) (i : Nat) {w : World} {kl kc : IntKind} {l n : Nat} {K : Value → World → Prop}
    (hln : l ≤ n) (hb : n * by' ≤ 281474976710656) (h63 : n ≤ 9223372036854775807)
    (h : ∀ b c' w', Wr c i w c' w' none → view c' i w' b = some (.cells (madeCells zc (n * z)) e (0, 0)) → w.heap[b]? = none → K (.slice (some ⟨b, 0, none⟩) l n) w') :
    RunV P (Instr.makeSlice t (.int kl (l : Int)) (.int kc (n : Int))) w K := by
  unfold zeroCB at hz
  cases hi : P.info? e with
  | none => rw [hi] at hz; simp at hz
  | some inf =>
    rw [hi] at hz
    simp only [Option.bind_some, Option.map_eq_some_iff, Prod.mk.injEq] at hz
    obtain ⟨v, hv, rfl, rfl, rfl⟩ := hz
    have hrun := run_make (P := P) w t e inf v ht hi hv kl kc (l : Int) (n : Int) (by omega) (by omega) (by rw [Int.mul_comm, ← Int.natCast_mul]; omega) (by omega)
    rw [Int.toNat_natCast, Int.toNat_natCast] at hrun
    exact RunV.mk hrun (h _ _ _ (.of_grown (i := i) ⟨rfl, rfl, rfl, by simp, fun k hk _ => heap_alloc_old w _ hk⟩ (by simp)) (view_in (ext_new (Nat.le_refl _)) (heap_alloc_new w _)) (Array.getElem?_eq_none (Nat.le_refl _)))
end

/-- the block of a reading that isn't empty -/
theorem RdS.base {h : View} {o : Option Addr} {l c z n : Nat} {xs : List Value} (hr : RdS h (.slice o l c) z n xs) (hne : xs ≠ []) :
    ∃ b off cs T fz, o = some ⟨b, off, none⟩ ∧ h b = some (.cells cs T fz) ∧ ∀ (i : Nat) (u : Value), xs[i]? = some u → cs[off + i]? = some u := by
  obtain ⟨o', c', e, hn, hl, hx⟩ := hr
  cases e
  rcases hx with h | h
  · exact absurd h hne
  · exact h
theorem LoadA.at {h : View} {w : World} (hs : Sub h (wv w)) {b off : Nat} {cs : Array Value} {T : Nat} {fz : Nat × Nat} (hb : h b = some (.cells cs T fz)) {es : List Value} {n : Nat} (hn : es.length = n) (hes : ∀ (k : Nat) (u : Value), es[k]? = some u → cs[off + k]? = some u)
    {C : Array Value → Prop} (hC : C es.toArray) : LoadA w ⟨b, off, none⟩ n C := by
  refine ⟨es.toArray, ⟨by simpa using hn, fun i hi => ?_⟩, hC⟩
  rw [addr_add, cell_of_row w b _ cs T fz (hs _ _ hb)]
  have he : es[i]? = some (es[i]'(by omega)) := List.getElem?_eq_getElem _
  rw [hes i _ he]
  simp [he]
theorem OwS.empty {h : View} {b T z : Nat} (hb : h b = some (.cells #[] T (0, 0))) : OwS h (.slice (some ⟨b, 0, none⟩) 0 0) T z 0 [] := ⟨by simp, .inr ⟨b, 0, _, rfl, hb, Nat.le_refl _, by simp [maxLen], by simp, by simp⟩⟩
theorem OwS.whole {h : View} {b T n : Nat} {z : Nat} {cs : Array Value} {xs : List Value} (hb : h b = some (.cells cs T (0, 0))) (hx : cs.toList = xs) (hl : xs.length = n * z) (hm : n ≤ maxLen) : OwS h (.slice (some ⟨b, 0, none⟩) n n) T z n xs :=
  ⟨hl, .inr ⟨b, n, cs, rfl, hb, Nat.le_refl _, hm, by rw [← hl, ← hx, Array.length_toList], by rw [hx, ← hl, List.take_length]⟩⟩
theorem drop_set_cons (l : List Value) (i : Nat) (v : Value) (h : i < l.length) : (l.set i v).drop i = v :: l.drop (i + 1) := by
  induction l generalizing i with
  | nil => simp at h
  | cons x l ih =>
    cases i with
    | zero => simp
    | succ i => simpa using ih i (by simpa using h)
theorem Step.undrew {c c1 : Nat → Nat} {W N : List Nat} {w w1 : World} (h : Step c W N w.drew c1 w1) : Step c W N w c1 w1 := ⟨h.os, h.tape, h.output, h.size, h.col, h.new, h.keep⟩
theorem RdS.short {h : View} {o : Option Addr} {l c z n m : Nat} {xs : List Value} (hr : RdS h (.slice o l c) z n xs) (hm : m ≤ n) : RdS h (.slice o m c) z m (xs.take (m * z)) := by
  obtain ⟨o', c', e, hn, hl, hx⟩ := hr
  cases e
  have hkz : m * z ≤ l * z := Nat.mul_le_mul_right _ hm
  refine ⟨_, _, rfl, by omega, by rw [List.length_take, hl]; omega, ?_⟩
  rcases hx with rfl | ⟨b, off, cs, T, fz, rfl, hb, hc⟩
  · left; simp
  · right
    refine ⟨b, off, cs, T, fz, rfl, hb, fun i u hu => hc i u ?_⟩
    rw [List.getElem?_take] at hu
    split at hu
    · exact hu
    · simp at hu
theorem RdS.mid {h : View} {o : Option Addr} {l c z n k m : Nat} {xs : List Value} (hr : RdS h (.slice o l c) z n xs) (hm : k + m ≤ n) : RdS h (.slice (slBase o c k z) (k + m - k) (c - k)) z m ((xs.drop (k * z)).take (m * z)) := by
  rw [show k + m - k = m by omega]
  exact (hr.drop (k := k) (by omega)).short (by omega)
end Go.Vc

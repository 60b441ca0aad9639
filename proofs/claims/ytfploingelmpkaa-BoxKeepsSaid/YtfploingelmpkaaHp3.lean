/-
  More of memory: bytes of a text, ranges of colours, lists of texts.
-/
import Derived.Test.YtfploingelmpkaaHp2
import Derived.Laws.IdiomStrings
import Derived.Lib.BytesEntry
set_option linter.unusedVariables false
namespace Go.Vc
open Go
section
variable {P : Program}
/-- []byte(s) -/
theorem bytes_col {s t e : TypeId} (hs : P.underlying s = some .string) (ht : P.underlying t = some (.slice e)) (he : P.underlying e = some (.int .u8)) (c : Nat → Nat) (j : Nat) {w : World} {l : List UInt8} {K : Value → World → Prop}
    (h : ∀ v c' w', Step c [] [j] w c' w' → RdS (view c' j w') v 1 l.length (bvs l) → K v w') : RunV P (convert s t (.string (strOf l))) w K := by
  have hrun := run_bytes_of_string (P := P) w s t e (strOf l) hs ht he
  have hge : l.length ≤ grownCap w (strOf l).size 0 e := by have := grownCap_ge w (strOf l).size 0 e; rwa [strOf_size] at this
  refine RunV.mk hrun (h _ (ext c w.heap.size j) _ (Wr.fresh (.of_grown (i := j) (row := none) ⟨rfl, rfl, rfl, by simp, fun k hk _ => heap_alloc_old w.drew _ hk⟩ (by simp))) ?_)
  have hv := view_in (c := ext c w.heap.size j) (i := j) (ext_new (Nat.le_refl _)) (heap_alloc_new w.drew (.cells (bytesRow (strOf l) (grownCap w (strOf l).size 0 e)) e ((bytesRow (strOf l) (grownCap w (strOf l).size 0 e)).size, (bytesRow (strOf l) (grownCap w (strOf l).size 0 e)).size + 1)))
  rw [strOf_size] at *
  refine ⟨_, _, rfl, hge, by simp, .inr ⟨_, 0, _, _, _, rfl, hv, fun i u hu => ?_⟩⟩
  rw [bvs_get] at hu
  rw [Nat.zero_add]
  unfold bytesRow
  have hi : i < l.length := by
    rcases Nat.lt_or_ge i l.length with h' | h'
    · exact h'
    · rw [List.getElem?_eq_none h'] at hu; simp at hu
  rw [Array.getElem?_append_left (by simp [strOf]; exact hi)]
  rw [Array.getElem?_map]
  have : (strOf l).data[i]? = l[i]? := by simp [strOf]
  rw [this, ← hu]; rfl
end

/-- six colours from j on -/
def cl (j : Nat) : List Nat := [j, j + 1, j + 2, j + 3, j + 4, j + 5, j + 6, j + 7]
theorem cl_not {i j : Nat} (h : i < j ∨ j + 8 ≤ i) : i ∉ cl j := by simp only [cl, List.mem_cons, List.not_mem_nil, or_false]; omega
theorem cl_in {i j : Nat} (h1 : j ≤ i) (h2 : i < j + 8) : i ∈ cl j := by simp only [cl, List.mem_cons, List.not_mem_nil, or_false]; omega
theorem cl_sub {j : Nat} {W : List Nat} (h : ∀ x ∈ W, j ≤ x ∧ x < j + 8) : ∀ x ∈ W, x ∈ cl j := fun x hx => cl_in (h x hx).1 (h x hx).2
theorem Step.cl {c c' : Nat → Nat} {w w' : World} {W N : List Nat} (h : Step c W N w c' w') (j : Nat) (hW : ∀ x ∈ W, j ≤ x ∧ x < j + 8) (hN : ∀ x ∈ N, j ≤ x ∧ x < j + 8) : Step c (Vc.cl j) (Vc.cl j) w c' w' := h.weak (cl_sub hW) (cl_sub hN)

def sv (l : List UInt8) : Value := .string (strOf l)
def svs (l : List (List UInt8)) : List Value := l.map sv
@[simp] theorem svs_length (l : List (List UInt8)) : (svs l).length = l.length := by simp [svs]
@[simp] theorem svs_append (l m : List (List UInt8)) : svs (l ++ m) = svs l ++ svs m := by simp [svs]
theorem svs_one (l : List (List UInt8)) : ∀ u ∈ svs l, u.oneCell' = true := by
  intro u hu; obtain ⟨x, _, rfl⟩ := List.mem_map.1 hu; rfl
theorem svs_get (l : List (List UInt8)) (k : Nat) : (svs l)[k]? = l[k]?.map sv := by simp [svs]
theorem strOf_inj {l m : List UInt8} (h : strOf l = strOf m) : l = m := by
  have := congrArg (fun b => b.data.toList) h; simpa using this
theorem strEq_emp (l : List UInt8) : strEq (strOf l) ⟨#[]⟩ = decide (l = []) := by
  rw [show (⟨#[]⟩ : ByteArray) = strOf [] from rfl, strEq_of]
theorem emp_str : ByteArray.empty = strOf [] := rfl

/-! variables by their block -/
theorem LoadC.ad {h : View} {w : World} (hs : Sub h (wv w)) {b k : Nat} {cs : Array Value} {T : Nat} {fz : Nat × Nat} (v : Value) {C : Value → Prop} (hb : h b = some (.cells cs T fz)) (hv : cs[k]? = some v) (hC : C v) : LoadC w ((⟨b, 0, none⟩ : Addr).add k) C := by
  rw [addr_add, Nat.zero_add]; exact LoadC.at hs hb hv hC
theorem LoadA.all {h : View} {w : World} (hs : Sub h (wv w)) {b n : Nat} {cs : Array Value} {T : Nat} {fz : Nat × Nat} {C : Array Value → Prop} (hb : h b = some (.cells cs T fz)) (hn : cs.size = n) (hC : C cs) : LoadA w ⟨b, 0, none⟩ n C := by
  refine ⟨cs, ⟨hn, fun i hi => ?_⟩, hC⟩
  rw [addr_add, cell_of_row w b _ cs T fz (hs _ _ hb), Nat.zero_add]
theorem StableA.all {h : View} {w : World} (hs : Sub h (wv w)) {b n : Nat} {cs : Array Value} {T : Nat} {fz : Nat × Nat} (hb : h b = some (.cells cs T fz)) (hn : cs.size = n) : StableA w ⟨b, 0, none⟩ n (.agg cs) := by
  refine ⟨hn, fun i hi => ?_⟩
  rw [addr_add, cell_of_row w b _ cs T fz (hs _ _ hb), Nat.zero_add]
theorem StableC.ad {h : View} {w : World} (hs : Sub h (wv w)) {b k : Nat} {cs : Array Value} {T : Nat} {fz : Nat × Nat} {v : Value} (hb : h b = some (.cells cs T fz)) (hv : cs[k]? = some v) : StableC w ((⟨b, 0, none⟩ : Addr).add k) v := by
  rw [addr_add, Nat.zero_add]; exact StableC.at hs hb hv
theorem StoreC.ad {c : Nat → Nat} {i : Nat} {w : World} {b k : Nat} {cs : Array Value} {T : Nat} {v : Value} {C : World → Prop} (hb : view c i w b = some (.cells cs T (0, 0))) (hk : k < cs.size)
    (h : ∀ w', Wr c i w c w' (some b) → Step c [i] [] w c w' → view c i w' b = some (.cells (cs.setIfInBounds k v) T (0, 0)) → C w') : StoreC w ((⟨b, 0, none⟩ : Addr).add k) v C := by
  rw [addr_add, Nat.zero_add]; exact StoreC.col hb hk h

/-! entries of the model's own -/
section
variable {P : Program}
theorem ExtV.mk {f : FuncId} {fn : Func} {e : Array Value → Sem Value} (hf : P.funcs[f]? = some fn) (hb : fn.body.isNone = true) (hn : (fn.name == "runtime.NumGoroutine") = false) (h1 : (Extern.findNext fn).isNone = true) (h2 : Extern.find fn = some e)
    {args : Array Value} {w w' : World} {v : Value} {C : Value → World → Prop} (hr : (e args).run P w = .ok v w') (h : C v w') : ExtV P f args w C := by
  refine ⟨v, w', ?_, h⟩
  have h1 : Extern.findNext fn = none := by simpa using h1
  have hn' : fn.name ≠ "runtime.NumGoroutine" := by simpa using hn
  have hb' : fn.body = none := by simpa using hb
  simp [callFunc, run_program, hf, hn', hb', h1, h2, hr]
def i8s (l : List UInt8) : List Int := l.map fun x => (x.toNat : Int)
theorem bytesOf_i8s (l : List UInt8) : Lib.bytesOf (i8s l) = l := by
  simp only [Lib.bytesOf, i8s, List.map_map]
  apply List.map_id'' 
  intro x
  simp
theorem bytesOf_run {w : World} {v : Value} {l : List UInt8} (hr : RdS (wv w) v 1 l.length (bvs l)) : (Extern.Bytes.bytesOf v).run P w = .ok (strOf l) w := by
  obtain ⟨o, c, rfl⟩ := hr.form
  cases o with
  | none =>
    have hl : l = [] := by
      obtain ⟨o', c', e, _, hl, hx⟩ := hr
      cases e
      rcases hx with h | ⟨b, off, cs, T, fz, e', _⟩
      · simpa [bvs] using h
      · simp at e'
    subst hl
    rfl
  | some a =>
    have := Lib.run_loadBytesX (P := P) w (i8s l) a .empty (fun j x hx => by
      unfold i8s at hx
      rw [List.getElem?_map] at hx
      cases hl : l[j]? with
      | none => rw [hl] at hx; simp at hx
      | some y =>
        rw [hl] at hx
        simp at hx
        subst hx
        obtain ⟨a', e, hc⟩ := hr.cell (i := j) (u := bv y) (by rw [bvs_get, hl]; rfl)
        simp at e
        subst e
        exact hc)
    rw [bytesOf_i8s] at this
    have hlen : (i8s l).length = l.length := by simp [i8s]
    rw [hlen] at this
    show (Extern.Bytes.loadBytes a l.length .empty).run P w = _
    rw [this]
    congr 1
    apply ByteArray.ext
    simp only [strOf]
    rw [show ByteArray.empty.data = #[] from rfl]
    simp
def ltB (l m : List UInt8) : Bool := Op.bytesLess l m
theorem strLt_of (l m : List UInt8) : strLt (strOf l) (strOf m) = ltB l m := by
  unfold strLt ltB
  rw [ByteArray.toList_eq, ByteArray.toList_eq]; simp
theorem compare_neg (l m : List UInt8) : Lib.compareBytes l m < 0 ↔ ltB l m = true := by
  unfold ltB
  induction l generalizing m with
  | nil => cases m <;> simp [Lib.compareBytes, Op.bytesLess]
  | cons a l ih =>
    cases m with
    | nil => simp [Lib.compareBytes, Op.bytesLess]
    | cons b m =>
      rw [Lib.compareBytes, Op.bytesLess]
      by_cases h1 : a < b
      · simp [h1]
      · by_cases h2 : b < a
        · have : ¬ a = b := by rintro rfl; exact h1 h2
          simp [h1, h2, this]
        · have : a = b := by
            apply UInt8.toNat_inj.1
            rw [UInt8.lt_iff_toNat_lt] at h1 h2; omega
          subst this
          simp only [h1, if_false, beq_self_eq_true, Bool.true_and, decide_false, Bool.false_or]
          exact ih m
theorem compare_run {w : World} {v u : Value} {l m : List UInt8} (h1 : RdS (wv w) v 1 l.length (bvs l)) (h2 : RdS (wv w) u 1 m.length (bvs m)) :
    (Extern.BytealgCompare.compare #[v, u]).run P w = .ok (.int .i64 (Lib.compareBytes l m)) w := by
  change Sem.run P (do pure (goInt (Extern.BytealgCompare.cmp (← Extern.Bytes.bytesOf v) (← Extern.Bytes.bytesOf u)))) w = _
  rw [Sem.run_bind, bytesOf_run h1]
  simp only [Result.andThen]
  rw [Sem.run_bind, bytesOf_run h2]
  simp only [Result.andThen, Sem.run_pure]
  rw [Lib.cmp_eq]
  simp [goInt]
end
end Go.Vc

/-
  Arrays of bytes: compared, copied, built into structs, read as slices.
-/
import Derived.Test.YtfploingelmpkaaLists
import Derived.ChangeKeysEq
import Derived.Laws.CopyRow
set_option linter.unusedVariables false
set_option linter.unusedSimpArgs false
namespace Go.Vc
open Go

section
variable {P : Program}
/-- an array of n bytes -/
structure ArrT (P : Program) (t n : Nat) : Prop where
  out : ∃ e i, P.underlying t = some (.array n e) ∧ P.underlying e = some (.int .u8) ∧ P.info? e = some i ∧ P.cellsOf e = 1
def arrTB (P : Program) (t n : Nat) : Bool := match P.underlying t with
  | some (.array m e) => Nat.beq m n && (match P.underlying e with | some (.int .u8) => true | _ => false) && (P.info? e).isSome && Nat.beq (P.cellsOf e) 1
  | _ => false
theorem ArrT.of {t n : Nat} (h : arrTB P t n = true) : ArrT P t n := by
  unfold arrTB at h
  split at h
  · rename_i m e hu
    simp only [Bool.and_eq_true] at h
    obtain ⟨⟨⟨h1, h2⟩, h3⟩, h4⟩ := h
    have := Nat.eq_of_beq_eq_true h1
    subst this
    split at h2
    · rename_i he
      obtain ⟨i, hi⟩ := Option.isSome_iff_exists.1 h3
      exact ⟨e, i, hu, he, hi, Nat.eq_of_beq_eq_true h4⟩
    · simp at h2
  · simp at h
theorem run_isAgg_u8 {e : TypeId} (he : P.underlying e = some (.int .u8)) (w : World) : (isAgg e).run P w = .ok false w := by
  simp [isAgg, run_underlying he]
theorem run_eqItems_bytes {e : TypeId} (he : P.underlying e = some (.int .u8)) (d : Nat) (l m : List UInt8) (w : World) : ∀ (is : List Nat), (∀ i ∈ is, i < l.length ∧ i < m.length) →
    (Op.eqItems (d + 1) e 1 (bvs l).toArray (bvs m).toArray is).run P w = .ok (decide (∀ i ∈ is, l[i]? = m[i]?)) w
  | [], _ => by simp [Op.eqItems]
  | i :: is, h => by
    have ih := run_eqItems_bytes he d l m w is (fun j hj => h j (by simp [hj]))
    obtain ⟨h1, h2⟩ := h i (by simp)
    obtain ⟨x, hx⟩ := get_of_lt h1
    obtain ⟨y, hy⟩ := get_of_lt h2
    have p1 : (part e (bvs l).toArray (i * 1)).run P w = .ok (bv x) w := by
      simp [part, run_isAgg_u8 he, bvs_get, hx]
    have p2 : (part e (bvs m).toArray (i * 1)).run P w = .ok (bv y) w := by
      simp [part, run_isAgg_u8 he, bvs_get, hy]
    simp only [Op.eqItems, Sem.run_bind, p1, p2, Result.andThen_ok, bv, run_equalIn_int w d e .u8 .u8 _ _ he]
    by_cases hxy : x = y
    · subst hxy
      simp [ih, hx, hy]
    · have : ((x.toNat : Int) == (y.toNat : Int)) = false := by
        simp; intro e; exact hxy (UInt8.toNat_inj.1 (by omega))
      simp [this, hx, hy, hxy]
theorem run_equal_bytes {t n : Nat} (hT : ArrT P t n) (d : Nat) (l m : List UInt8) (hl : l.length = n) (hm : m.length = n) (w : World) :
    (Op.equalIn (d + 2) t (.agg (bvs l).toArray) (.agg (bvs m).toArray)).run P w = .ok (decide (l = m)) w := by
  obtain ⟨e, i, hu, he, hi, hc⟩ := hT.out
  rw [run_equalIn_array w (d + 1) _ _ hu hi, hc, run_eqItems_bytes he d l m w (List.range n) (fun i hi => by simp at hi; omega)]
  congr 1
  rw [decide_eq_decide]
  constructor
  · intro h
    apply List.ext_getElem?
    intro i
    rcases Nat.lt_or_ge i n with h' | h'
    · exact h i (by simpa using h')
    · rw [List.getElem?_eq_none (by omega), List.getElem?_eq_none (by omega)]
  · rintro rfl; simp
theorem EqA.bytes_eq {t n : Nat} (hT : ArrT P t n) (hg : P.eqGuardType P.depth t = false) {x y : Operand} {l m : List UInt8} (hl : l.length = n) (hm : m.length = n) {C : Bool → Prop} (h : C (decide (l = m))) :
    EqA P .eql t x y (.agg (bvs l).toArray) (.agg (bvs m).toArray) C := by
  refine ⟨decide (l = m), fun w => ?_, h⟩
  have := run_equal_bytes hT 9998 l m hl hm w
  simp [eqGuard, run_program, hg, binOp, Op.equal, Op.maxDepth, this]
theorem EqA.bytes_ne {t n : Nat} (hT : ArrT P t n) (hg : P.eqGuardType P.depth t = false) {x y : Operand} {l m : List UInt8} (hl : l.length = n) (hm : m.length = n) {C : Bool → Prop} (h : C (!decide (l = m))) :
    EqA P .neq t x y (.agg (bvs l).toArray) (.agg (bvs m).toArray) C := by
  refine ⟨!decide (l = m), fun w => ?_, h⟩
  have := run_equal_bytes hT 9998 l m hl hm w
  simp [eqGuard, run_program, hg, binOp, Op.equal, Op.maxDepth, this]

/-! structs that are built -/
theorem fill_range (vs : List Value) : ∀ (off : Nat) (cells : List Value), off + vs.length ≤ cells.length →
    ((vs.toArray.zipIdx 0).foldl (fun (cs : Array Value) (x : Value × Nat) => cs.setIfInBounds (off + x.2) x.1) cells.toArray).toList = cells.take off ++ vs ++ cells.drop (off + vs.length) := by
  have key : ∀ (vs : List Value) (k off : Nat) (cells : List Value), off + k + vs.length ≤ cells.length →
      ((vs.zipIdx k).foldl (fun (cs : Array Value) (x : Value × Nat) => cs.setIfInBounds (off + x.2) x.1) cells.toArray).toList = cells.take (off + k) ++ vs ++ cells.drop (off + k + vs.length) := by
    intro vs
    induction vs with
    | nil => intro k off cells h; simp
    | cons v vs ih =>
      intro k off cells h
      rw [List.zipIdx_cons, List.foldl_cons]
      simp only [List.setIfInBounds_toArray]
      have := ih (k + 1) off (cells.set (off + k) v) (by simp at h ⊢; omega)
      rw [this]
      have hlt : off + k < cells.length := by simp at h; omega
      have e1 : (cells.set (off + k) v).take (off + (k + 1)) = cells.take (off + k) ++ [v] := by
        rw [show off + (k + 1) = off + k + 1 by omega, List.take_add_one, List.take_set_of_le (Nat.le_refl _)]
        simp [hlt]
      have e2 : (cells.set (off + k) v).drop (off + (k + 1) + vs.length) = cells.drop (off + k + (v :: vs).length) := by
        rw [List.drop_set_of_lt (by omega)]; congr 1; simp; omega
      rw [e1, e2]; simp
  intro off cells h
  have := key vs 0 off cells (by simpa using h)
  simpa using this
def placesB (P : Program) (t : TypeId) : Option (List Value × List (Nat × Nat)) :=
  match P.info? t, P.underlying t with
  | some it, some (.struct fields) => (match it.zero, fields.toList.mapM (fun f => (P.info? f.type).map fun i => (f.offset, i.size)) with
    | some z, some places => some (z.cells.toList, places)
    | _, _ => none)
  | _, _ => none
theorem built_of {t : TypeId} {zc : List Value} {pl : List (Nat × Nat)} (h : placesB P t = some (zc, pl)) (parts : List (Nat × Value)) : P.built t parts = Instr.fill (pl.toArray[·]?) zc.toArray parts := by
  unfold placesB at h
  split at h
  · rename_i it fields h1 h2
    split at h
    · rename_i z places h3 h4
      simp only [Option.some.injEq, Prod.mk.injEq] at h
      obtain ⟨rfl, rfl⟩ := h
      unfold Program.built
      rw [h1, h2]
      simp only [h3, h4, Array.toArray_toList]
    · simp at h
  · simp at h
theorem fill_cons {place : Nat → Option (Nat × Nat)} {cells : List Value} {i : Nat} {v : Value} {rest : List (Nat × Value)} {off : Nat} {vs : List Value} (hp : place i = some (off, vs.length)) (hv : v.cells = vs.toArray) (hl : off + vs.length ≤ cells.length) :
    Instr.fill place cells.toArray ((i, v) :: rest) = Instr.fill place (cells.take off ++ vs ++ cells.drop (off + vs.length)).toArray rest := by
  have := fill_range vs off cells hl
  rw [Instr.fill, hp]
  simp only [hv, List.size_toArray]
  rw [if_neg (by simp; omega)]
  congr 1
  apply Array.ext'
  rw [List.toList_toArray]
  exact this
theorem TCells.mk {o : Option (Array Value)} {cs : Array Value} {C : Array Value → Prop} (h : o = some cs) (hC : C cs) : TCells o C := by unfold TCells; rw [h]; exact hC

/-! arrays in variables -/
theorem slBase_whole (a : Addr) (n z : Nat) : slBase (some a) n 0 z = some a := by
  unfold slBase; split
  · rfl
  · simp [Addr.add]
theorem RdS.at' {h : View} {b off n : Nat} {cs : Array Value} {T : Nat} {fz : Nat × Nat} (hb : h b = some (.cells cs T fz)) {xs : List Value} (hn : xs.length = n) (hes : ∀ (j : Nat) (u : Value), xs[j]? = some u → cs[off + j]? = some u) :
    RdS h (.slice (some ⟨b, off, none⟩) n n) 1 n xs := ⟨_, _, rfl, Nat.le_refl _, by omega, .inr ⟨b, off, cs, T, fz, rfl, hb, hes⟩⟩
/-- a part of a variable as a slice -/
theorem RdS.arr {h : View} {b k n : Nat} {cs : Array Value} {T : Nat} {fz : Nat × Nat} (hb : h b = some (.cells cs T fz)) {es : List Value} (hn : es.length = n) (hes : ∀ (j : Nat) (u : Value), es[j]? = some u → cs[k + j]? = some u) :
    RdS h (.slice (slBase (some ((⟨b, 0, none⟩ : Addr).add k)) n 0 1) n n) 1 n es := by
  rw [slBase_whole, addr_add, Nat.zero_add]
  exact ⟨_, _, rfl, Nat.le_refl _, by omega, .inr ⟨b, k, cs, T, fz, rfl, hb, hes⟩⟩
/-- a part of a variable -/
theorem LoadA.part {h : View} {w : World} (hs : Sub h (Vc.wv w)) {b k n : Nat} {cs : Array Value} {T : Nat} {fz : Nat × Nat} (hb : h b = some (.cells cs T fz)) {es : List Value} (hn : es.length = n) (hes : ∀ (j : Nat) (u : Value), es[j]? = some u → cs[k + j]? = some u)
    {C : Array Value → Prop} (hC : C es.toArray) : LoadA w ((⟨b, 0, none⟩ : Addr).add k) n C := by
  rw [addr_add, Nat.zero_add]
  exact LoadA.at hs hb hn hes hC
theorem StableA.part {h : View} {w : World} (hs : Sub h (Vc.wv w)) {b k n : Nat} {cs : Array Value} {T : Nat} {fz : Nat × Nat} (hb : h b = some (.cells cs T fz)) {es : List Value} (hn : es.length = n) (hes : ∀ (j : Nat) (u : Value), es[j]? = some u → cs[k + j]? = some u) :
    StableA w ((⟨b, 0, none⟩ : Addr).add k) n (.agg es.toArray) := by
  rw [addr_add, Nat.zero_add]
  refine ⟨by simpa using hn, fun i hi => ?_⟩
  rw [addr_add, cell_of_row w b _ cs T fz (hs _ _ hb)]
  have he : es[i]? = some (es[i]'(by omega)) := List.getElem?_eq_getElem _
  rw [hes i _ he]
  simp [he]
theorem StableA.at {h : View} {w : World} (hs : Sub h (Vc.wv w)) {b off n : Nat} {cs : Array Value} {T : Nat} {fz : Nat × Nat} (hb : h b = some (.cells cs T fz)) {es : List Value} (hn : es.length = n) (hes : ∀ (j : Nat) (u : Value), es[j]? = some u → cs[off + j]? = some u) :
    StableA w ⟨b, off, none⟩ n (.agg es.toArray) := by
  refine ⟨by simpa using hn, fun i hi => ?_⟩
  rw [addr_add, cell_of_row w b _ cs T fz (hs _ _ hb)]
  have he : es[i]? = some (es[i]'(by omega)) := List.getElem?_eq_getElem _
  rw [hes i _ he]
  simp [he]
/-- copy into a part of a variable -/
theorem copy_arr {dT sT ty e : TypeId} (hu : P.underlying dT = some (.slice e)) (hs : (P.info? e).map (·.size) = some 1) {c : Nat → Nat} {i : Nat} {w : World} {b k n : Nat} {cs : List Value} {T : Nat} {x : Value} {m : Nat} {ys : List Value}
    (hb : view c i w b = some (.cells cs.toArray T (0, 0))) (hk : k + n ≤ cs.length) (hr : RdS (Vc.wv w) x 1 m ys) (hm : m ≤ n) (h1 : ∀ u ∈ ys, u.oneCell' = true) {K : Value → World → Prop}
    (h : ∀ w', Wr c i w c w' (some b) → Step c [i] [] w c w' → view c i w' b = some (.cells (cs.take k ++ ys ++ cs.drop (k + m)).toArray T (0, 0)) → K (.int .i64 (m : Int)) w') :
    RunV P (Builtin.copy_ #[dT, sT] ty #[.slice (slBase (some ((⟨b, 0, none⟩ : Addr).add k)) n 0 1) n n, x]) w K := by
  obtain ⟨o, cp, rfl⟩ := hr.form
  have hlen := hr.len.2.2
  rw [Nat.mul_one] at hlen
  rw [slBase_whole, addr_add, Nat.zero_add]
  obtain ⟨hc, hw⟩ := view_out hb
  cases o with
  | none =>
    have hys : ys = [] := by
      obtain ⟨o', c', e, _, hl, hx⟩ := hr
      cases e
      rcases hx with h | ⟨b', off, cs', T', fz, e', _⟩
      · exact h
      · simp at e'
    subst hys
    have hm0 : m = 0 := by simpa using hlen.symm
    subst hm0
    have hrun : (Builtin.copy_ #[dT, sT] ty #[.slice (some ⟨b, k, none⟩) n n, .slice none 0 cp]).run P w = .ok (goInt 0) w := by
      cases hq : P.info? e with
      | none => simp [hq] at hs
      | some ie => simp [Builtin.copy_, run_underlying hu, Builtin.lenOf, Builtin.firstCells, sizeOf, typeInfo, hq, storeCells]
    refine RunV.mk hrun (h w (.same ⟨rfl, rfl, rfl, Nat.le_refl _, fun _ _ _ => rfl⟩ rfl (by simp [hc])) (Step.refl ..) ?_)
    simpa using hb
  | some a =>
    have hsrc : ∀ j v, ys[j]? = some v → w.cell? (a.add j) = some v := by
      intro j v hv
      obtain ⟨a', ea, hcell⟩ := hr.cell hv
      simp at ea; subst ea; exact hcell
    have hrun := run_copy_row (P := P) w dT sT ty e b k n n a m cp cs.toArray T ys hu hs hw (by rw [hlen]; exact (Nat.min_eq_left hm).symm) hsrc (by simp; omega) h1
    rw [hlen] at hrun
    have hsz : (w.setRow b (cs.toArray.toList.take k ++ ys ++ cs.toArray.toList.drop (k + m)).toArray).heap.size = w.heap.size := by simp
    have hW : Wr c i w c (w.setRow b (cs.toArray.toList.take k ++ ys ++ cs.toArray.toList.drop (k + m)).toArray) (some b) := .same ⟨rfl, rfl, rfl, by simp, fun j _ hj => setRow_other w b j _ (fun e => hj (by simp [e]))⟩ hsz (by simp [hc])
    have h0 := hW.step
    refine RunV.mk hrun (h _ hW ⟨h0.os, h0.tape, h0.output, h0.size, h0.col, fun b' h1 h2 => by omega, h0.keep⟩ ?_)
    have := view_in hc (setRow_heap w b cs.toArray (cs.toArray.toList.take k ++ ys ++ cs.toArray.toList.drop (k + m)).toArray T _ hw)
    simpa using this
end
end Go.Vc

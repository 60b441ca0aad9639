/-
  Several texts in one: Arr, Off.
-/
import Derived.Test.YtdjgdcafmfheoaaDoorHpM
import Derived.ChangeKeysEq
import Derived.Laws.CopyRow
set_option linter.unusedVariables false
set_option linter.unusedSimpArgs false
namespace Go.Vc
open Go

section
variable {P : Program}
/-- an array of n bytes -/
structure ArrT (P : Program) (t n : Nat) : Prop where
  out : ∃ e i, P.underlying t = some (.array n e) ∧ P.underlying e = some (.int .u8) ∧ P.info? e = some i ∧ P.cellsOf e = 1
def arrTB (P : Program) (t n : Nat) : Bool := match P.underlying t with
  | some (.array m e) => Nat.beq m n && (match P.underlying e with | some (.int .u8) => true | _ => false) && (P.info? e).isSome && Nat.beq (P.cellsOf e) 1
  | _ => false
theorem ArrT.of {t n : Nat} (h : arrTB P t n = true) : ArrT P t n := by
  unfold arrTB at h
  split at h
  · rename_i m e hu
    simp only [Bool.and_eq_true] at h
    obtain ⟨⟨⟨h1, h2⟩, h3⟩, h4⟩ := h
    have := Nat.eq_of_beq_eq_true h1
    subst this
    split at h2
    · rename_i he
      obtain ⟨i, hi⟩ := Option.isSome_iff_exists.1 h3
      exact ⟨e, i, hu, he, hi, Nat.eq_of_beq_eq_true h4⟩
    · simp at h2
  · simp at h
theorem run_isAgg_u8 {e : TypeId} (he : P.underlying e = some (.int .u8)) (w : World) : (isAgg e).run P w = .ok false w := by
  simp [isAgg, run_underlying he]
theorem run_eqItems_bytes {e : TypeId} (he : P.underlying e = some (.int .u8)) (d : Nat) (l m : List UInt8) (w : World) : ∀ (is : List Nat), (∀ i ∈ is, i < l.length ∧ i < m.length) →
    (Op.eqItems (d + 1) e 1 (bvs l).toArray (bvs m).toArray is).run P w = .ok (decide (∀ i ∈ is, l[i]? = m[i]?)) w
  | [], _ => by simp [Op.eqItems]
  | i :: is, h => by
    have ih := run_eqItems_bytes he d l m w is (fun j hj => h j (by simp [hj]))
    obtain ⟨h1, h2⟩ := h i (by simp)
    obtain ⟨x, hx⟩ := get_of_lt h1
    obtain ⟨y, hy⟩ := get_of_lt h2
    have p1 : (part e (bvs l).toArray (i * 1)).run P w = .ok (bv x) w := by
      simp [part, run_isAgg_u8 he, bvs_get, hx]
    have p2 : (part e (bvs m).toArray (i * 1)).run P w = .ok (bv y) w := by
      simp [part, run_isAgg_u8 he, bvs_get, hy]
    simp only [Op.eqItems, Sem.run_bind, p1, p2, Result.andThen_ok, bv, run_equalIn_int w d e .u8 .u8 _ _ he]
    by_cases hxy : x = y
    · subst hxy
      simp [ih, hx, hy]
    · have : ((x.toNat : Int) == (y.toNat : Int)) = false := by
        simp; intro e; exact hxy (UInt8.toNat_inj.1 (by omega))
      simp [this, hx, hy, hxy]
theorem run_equal_bytes {t n : Nat} (hT : ArrT P t n) (d : Nat) (l m : List UInt8) (hl : l.length = n) (hm : m.length = n) (w : World) :
    (Op.equalIn (d + 2) t (.agg (bvs l).toArray) (.agg (bvs m).toArray)).run P w = .ok (decide (l = m)) w := by
  obtain ⟨e, i, hu, he, hi, hc⟩ := hT.out
  rw [run_equalIn_array w (d + 1) _ _ hu hi, hc, run_eqItems_bytes he d l m w (List.range n) (fun i hi => by simp at hi; omega)]
  congr 1
  rw [decide_eq_decide]
  constructor
  · intro h
    apply List.ext_getElem?
    intro i
    rcases Nat.lt_or_ge i n with h' | h'
    · exact h i (by simpa using h')
    · rw [List.getElem?_eq_none (by omega), List.getElem?_eq_none (by omega)]
  · rintro rfl; simp
theorem EqA.bytes_eq {t n : Nat} (hT : ArrT P t n) (hg : P.eqGuardType P.depth t = false) {x y : Operand} {l m : List UInt8} (hl : l.length = n) (hm : m.length = n) {C : Bool → Prop} (h : C (decide (l = m))) :
    EqA P .eql t x y (.agg (bvs l).toArray) (.agg (bvs m).toArray) C := by
  refine ⟨decide (l = m), fun w => ?_, h⟩
  have := run_equal_bytes hT 9998 l m hl hm w
  simp [eqGuard, run_program, hg, binOp, Op.equal, Op.maxDepth, this]
theorem EqA.bytes_ne {t n : Nat} (hT : ArrT P t n) (hg : P.eqGuardType P.depth t = false) {x y : Operand} {l m : List UInt8} (hl : l.length = n) (hm : m.length = n) {C : Bool → Prop} (h : C (!decide (l = m))) :
    EqA P .neq t x y (.agg (bvs l).toArray) (.agg (bvs m).toArray) C := by
  refine ⟨!decide (l = m), fun w => ?_, h⟩
  have := run_equal_bytes hT 9998 l m hl hm w
  simp [eqGuard, run_program, hg, binOp, Op.equal, Op.maxDepth, this]

/-! structs that are built -/
theorem fill_range (vs : List Value) : ∀ (off : Nat) (cells : List Value), off + vs.length ≤ cells.length →
    ((vs.toArray.zipIdx 0).foldl (fun (cs : Array Value) (x : Value × Nat) => cs.setIfInBounds (off + x.2) x.1) cells.toArray).toList = cells.take off ++ vs ++ cells.drop (off + vs.length) := by
  have key : ∀ (vs : List Value) (k off : Nat) (cells : List Value), off + k + vs.length ≤ cells.length →
      ((vs.zipIdx k).foldl (fun (cs : Array Value) (x : Value × Nat) => cs.setIfInBounds (off + x.2) x.1) cells.toArray).toList = cells.take (off + k) ++ vs ++ cells.drop (off + k + vs.length) := by
    intro vs
    induction vs with
    | nil => intro k off cells h; simp
    | cons v vs ih =>
      intro k off cells h
      rw [List.zipIdx_cons, List.foldl_cons]
      simp only [List.setIfInBounds_toArray]
      have := ih (k + 1) off (cells.set (off + k) v) (by simp at h ⊢; omega)
      rw [this]
      have hlt : off + k < cells.length := by simp at h; omega
      have e1 : (cells.set (off + k) v).take (off + (k + 1)) = cells.take (off + k) ++ [v] := by
        rw [show off + (k + 1) = off + k + 1 by omega, List.take_add_one, List.take_set_of_le (Nat.le_refl _)]
        simp [hlt]
      have e2 : (cells.set (off + k) v).drop (off + (k + 1) + vs.length) = cells.drop (off + k + (v :: vs).length) := by
        rw [List.drop_set_of_lt (by omega)]; congr 1; simp; omega
      rw [e1, e2]; simp
  intro off cells h
  have := key vs 0 off cells (by simpa using h)
  simpa using this
def placesB (P : Program) (t : TypeId) : Option (List Value × List (Nat × Nat)) :=
  match P.info? t, P.underlying t with
  | some it, some (.struct fields) => (match it.zero, fields.toList.mapM (fun f => (P.info? f.type).map fun i => (f.offset, i.size)) with
    | some z, some places => some (z.cells.toList, places)
    | _, _ => none)
  | _, _ => none
theorem built_of {t : TypeId} {zc : List Value} {pl : List (Nat × Nat)} (h : placesB P t = some (zc, pl)) (parts : List (Nat × Value)) : P.built t parts = Instr.fill (pl.toArray[·]?) zc.toArray parts := by
  unfold placesB at h
  split at h
  · rename_i it fields h1 h2
    split at h
    · rename_i z places h3 h4
      simp only [Option.some.injEq, Prod.mk.injEq] at h
      obtain ⟨rfl, rfl⟩ := h
      unfold Program.built
      rw [h1, h2]
      simp only [h3, h4, Array.toArray_toList]
    · simp at h
  · simp at h
theorem fill_cons {place : Nat → Option (Nat × Nat)} {cells : List Value} {i : Nat} {v : Value} {rest : List (Nat × Value)} {off : Nat} {vs : List Value} (hp : place i = some (off, vs.length)) (hv : v.cells = vs.toArray) (hl : off + vs.length ≤ cells.length) :
    Instr.fill place cells.toArray ((i, v) :: rest) = Instr.fill place (cells.take off ++ vs ++ cells.drop (off + vs.length)).toArray rest := by
  have := fill_range vs off cells hl
  rw [Instr.fill, hp]
  simp only [hv, List.size_toArray]
  rw [if_neg (by simp; omega)]
  congr 1
  apply Array.ext'
  rw [List.toList_toArray]
  exact this
theorem TCells.mk {o : Option (Array Value)} {cs : Array Value} {C : Array Value → Prop} (h : o = some cs) (hC : C cs) : TCells o C := by unfold TCells; rw [h]; exact hC

/-! arrays in variables -/
theorem slBase_whole (a : Addr) (n z : Nat) : slBase (some a) n 0 z = some a := by
  unfold slBase; split
  · rfl
  · simp [Addr.add]
theorem RdS.at' {h : View} {b off n : Nat} {cs : Array Value} {T : Nat} {fz : Nat × Nat} (hb : h b = some (.cells cs T fz)) {xs : List Value} (hn : xs.length = n) (hes : ∀ (j : Nat) (u : Value), xs[j]? = some u → cs[off + j]? = some u) :
    RdS h (.slice (some ⟨b, off, none⟩) n n) 1 n xs := ⟨_, _, rfl, Nat.le_refl _, by omega, .inr ⟨b, off, cs, T, fz, rfl, hb, hes⟩⟩
/-- a part of a variable as a slice -/
theorem RdS.arr {h : View} {b k n : Nat} {cs : Array Value} {T : Nat} {fz : Nat × Nat} (hb : h b = some (.cells cs T fz)) {es : List Value} (hn : es.length = n) (hes : ∀ (j : Nat) (u : Value), es[j]? = some u → cs[k + j]? = some u) :
    RdS h (.slice (slBase (some ((⟨b, 0, none⟩ : Addr).add k)) n 0 1) n n) 1 n es := by
  rw [slBase_whole, addr_add, Nat.zero_add]
  exact ⟨_, _, rfl, Nat.le_refl _, by omega, .inr ⟨b, k, cs, T, fz, rfl, hb, hes⟩⟩
/-- a part of a variable -/
theorem LoadA.part {h : View} {w : World} (hs : Sub h (Vc.wv w)) {b k n : Nat} {cs : Array Value} {T : Nat} {fz : Nat × Nat} (hb : h b = some (.cells cs T fz)) {es : List Value} (hn : es.length = n) (hes : ∀ (j : Nat) (u : Value), es[j]? = some u → cs[k + j]? = some u)
    {C : Array Value → Prop} (hC : C es.toArray) : LoadA w ((⟨b, 0, none⟩ : Addr).add k) n C := by
  rw [addr_add, Nat.zero_add]
  exact LoadA.at hs hb hn hes hC
theorem StableA.part {h : View} {w : World} (hs : Sub h (Vc.wv w)) {b k n : Nat} {cs : Array Value} {T : Nat} {fz : Nat × Nat} (hb : h b = some (.cells cs T fz)) {es : List Value} (hn : es.length = n) (hes : ∀ (j : Nat) (u : Value), es[j]? = some u → cs[k + j]? = some u) :
    StableA w ((⟨b, 0, none⟩ : Addr).add k) n (.agg es.toArray) := by
  rw [addr_add, Nat.zero_add]
  refine ⟨by simpa using hn, fun i hi => ?_⟩
  rw [addr_add, cell_of_row w b _ cs T fz (hs _ _ hb)]
  have he : es[i]? = some (es[i]'(by omega)) := List.getElem?_eq_getElem _
  rw [hes i _ he]
  simp [he]
theorem StableA.at {h : View} {w : World} (hs : Sub h (Vc.wv w)) {b off n : Nat} {cs : Array Value} {T : Nat} {fz : Nat × Nat} (hb : h b = some (.cells cs T fz)) {es : List Value} (hn : es.length = n) (hes : ∀ (j : Nat) (u : Value), es[j]? = some u → cs[off + j]? = some u) :
    StableA w ⟨b, off, none⟩ n (.agg es.toArray) := by
  refine ⟨by simpa using hn, fun i hi => ?_⟩
  rw [addr_add, cell_of_row w b _ cs T fz (hs _ _ hb)]
  have he : es[i]? = some (es[i]'(by omega)) := List.getElem?_eq_getElem _
  rw [hes i _ he]
  simp [he]
/-- copy into a part of a variable -/
theorem copy_arr {dT sT ty e : TypeId} (hu : P.underlying dT = some (.slice e)) (hs : (P.info? e).map (·.size) = some 1) {c : Nat → Nat} {i : Nat} {w : World} {b k n : Nat} {cs : List Value} {T : Nat} {x : Value} {m : Nat} {ys : List Value}
    (hb : view c i w b = some (.cells cs.toArray T (0, 0))) (hk : k + n ≤ cs.length) (hr : RdS (Vc.wv w) x 1 m ys) (hm : m ≤ n) (h1 : ∀ u ∈ ys, u.oneCell' = true) {K : Value → World → Prop}
    (h : ∀ w', Wr c i w c w' (some b) → Step c [i] [] w c w' → view c i w' b = some (.cells (cs.take k ++ ys ++ cs.drop (k + m)).toArray T (0, 0)) → K (.int .i64 (m : Int)) w') :
    RunV P (Builtin.copy_ #[dT, sT] ty #[.slice (slBase (some ((⟨b, 0, none⟩ : Addr).add k)) n 0 1) n n, x]) w K := by
  obtain ⟨o, cp, rfl⟩ := hr.form
  have hlen := hr.len.2.2
  rw [Nat.mul_one] at hlen
  rw [slBase_whole, addr_add, Nat.zero_add]
  obtain ⟨hc, hw⟩ := view_out hb
  cases o with
  | none =>
    have hys : ys = [] := by
      obtain ⟨o', c', e, _, hl, hx⟩ := hr
      cases e
      rcases hx with h | ⟨b', off, cs', T', fz, e', _⟩
      · exact h
      · simp at e'
    subst hys
    have hm0 : m = 0 := by simpa using hlen.symm
    subst hm0
    have hrun : (Builtin.copy_ #[dT, sT] ty #[.slice (some ⟨b, k, none⟩) n n, .slice none 0 cp]).run P w = .ok (goInt 0) w := by
      cases hq : P.info? e with
      | none => simp [hq] at hs
      | some ie => simp [Builtin.copy_, run_underlying hu, Builtin.lenOf, Builtin.firstCells, sizeOf, typeInfo, hq, storeCells]
    refine RunV.mk hrun (h w (.same ⟨rfl, rfl, rfl, Nat.le_refl _, fun _ _ _ => rfl⟩ rfl (by simp [hc])) (Step.refl ..) ?_)
    simpa using hb
  | some a =>
    have hsrc : ∀ j v, ys[j]? = some v → w.cell? (a.add j) = some v := by
      intro j v hv
      obtain ⟨a', ea, hcell⟩ := hr.cell hv
      simp at ea; subst ea; exact hcell
    have hrun := run_copy_row (P := P) w dT sT ty e b k n n a m cp cs.toArray T ys hu hs hw (by rw [hlen]; exact (Nat.min_eq_left hm).symm) hsrc (by simp; omega) h1
    rw [hlen] at hrun
    have hsz : (w.setRow b (cs.toArray.toList.take k ++ ys ++ cs.toArray.toList.drop (k + m)).toArray).heap.size = w.heap.size := by simp
    have hW : Wr c i w c (w.setRow b (cs.toArray.toList.take k ++ ys ++ cs.toArray.toList.drop (k + m)).toArray) (some b) := .same ⟨rfl, rfl, rfl, by simp, fun j _ hj => setRow_other w b j _ (fun e => hj (by simp [e]))⟩ hsz (by simp [hc])
    have h0 := hW.step
    refine RunV.mk hrun (h _ hW ⟨h0.os, h0.tape, h0.output, h0.size, h0.col, fun b' h1 h2 => by omega, h0.keep⟩ ?_)
    have := view_in hc (setRow_heap w b cs.toArray (cs.toArray.toList.take k ++ ys ++ cs.toArray.toList.drop (k + m)).toArray T _ hw)
    simpa using this
end
end Go.Vc
set_option linter.unusedVariables false
set_option linter.unusedSimpArgs false
namespace Go.Vc
open Go

/-- a slice of one's own (elements of one cell) that may begin anywhere in its block; without room its place is open -/
def OwO (h : View) (v : Value) (T n : Nat) (xs : List Value) : Prop :=
  xs.length = n ∧ ((∃ o, v = .slice o 0 0 ∧ n = 0) ∨
    ∃ g off cap cur, v = .slice (some ⟨g, off, none⟩) n cap ∧ h g = some (.cells cur T (0, 0)) ∧ n ≤ cap ∧ 0 < cap ∧ cap ≤ maxLen ∧ cur.size = off + cap ∧ (cur.toList.drop off).take n = xs)
theorem OwO.mono {h h' : View} {v : Value} {T n : Nat} {xs : List Value} (ho : OwO h v T n xs) (hs : Sub h h') : OwO h' v T n xs := by
  refine ⟨ho.1, ho.2.imp id ?_⟩
  rintro ⟨g, off, cap, cur, e, hg, r⟩
  exact ⟨g, off, cap, cur, e, hs _ _ hg, r⟩
theorem OwO.form {h : View} {v : Value} {T n : Nat} {xs : List Value} (ho : OwO h v T n xs) : ∃ o c, v = .slice o n c := by
  rcases ho.2 with ⟨o, rfl, rfl⟩ | ⟨g, off, cap, cur, rfl, _⟩
  · exact ⟨o, 0, rfl⟩
  · exact ⟨_, _, rfl⟩
theorem OwO.rd {h : View} {v : Value} {T n : Nat} {xs : List Value} (ho : OwO h v T n xs) : RdS h v 1 n xs := by
  obtain ⟨hl, ho⟩ := ho
  rcases ho with ⟨o, rfl, rfl⟩ | ⟨g, off, cap, cur, rfl, hg, hn, _, _, hs, ht⟩
  · have : xs = [] := List.eq_nil_of_length_eq_zero hl
    subst this
    exact RdS.nil h 1 o 0
  · refine ⟨_, cap, rfl, hn, by omega, .inr ⟨g, off, cur, T, (0, 0), rfl, hg, fun i u hu => ?_⟩⟩
    rw [← ht, List.getElem?_take] at hu
    split at hu
    · rw [List.getElem?_drop] at hu; simpa using hu
    · simp at hu
theorem OwO.of {h : View} {v : Value} {T n : Nat} {xs : List Value} (ho : OwS h v T 1 n xs) : OwO h v T n xs := by
  refine ⟨by simpa using ho.1, ?_⟩
  rcases ho.2 with ⟨rfl, rfl⟩ | ⟨g, cap, cur, rfl, hg, hn, hm, hs, ht⟩
  · exact .inl ⟨none, rfl, rfl⟩
  · by_cases hc : cap = 0
    · subst hc
      have : n = 0 := by omega
      subst this
      exact .inl ⟨_, rfl, rfl⟩
    · exact .inr ⟨g, 0, cap, cur, rfl, hg, hn, by omega, hm, by omega, by simpa using ht⟩
theorem OwO.drop {h : View} {o : Option Addr} {l c T n k : Nat} {xs : List Value} (ho : OwO h (.slice o l c) T n xs) (hk : k ≤ n) : OwO h (.slice (slBase o c k 1) (l - k) (c - k)) T (n - k) (xs.drop k) := by
  obtain ⟨hl, ho⟩ := ho
  refine ⟨by rw [List.length_drop, hl], ?_⟩
  rcases ho with ⟨o', e, rfl⟩ | ⟨g, off, cap, cur, e, hg, hn, hp, hm, hs, ht⟩
  · simp only [Value.slice.injEq] at e
    obtain ⟨e1, e2, e3⟩ := e
    have : k = 0 := by omega
    subst this
    exact .inl ⟨o, by simp [slBase, e2, e3], rfl⟩
  · simp only [Value.slice.injEq] at e
    obtain ⟨e1, e2, e3⟩ := e
    by_cases hck : c = k
    · exact .inl ⟨o, by rw [show slBase o c k 1 = o by unfold slBase; rw [if_pos hck]]; congr 1 <;> omega, by omega⟩
    · have e : slBase o c k 1 = some ⟨g, off + k, none⟩ := by rw [e1]; unfold slBase; rw [if_neg hck]; simp [addr_add]
      rw [e]
      refine .inr ⟨g, off + k, c - k, cur, by rw [e2], hg, by omega, by omega, by omega, by omega, ?_⟩
      rw [← ht, List.drop_take, List.drop_drop]
theorem OwO.len {h : View} {o : Option Addr} {l c T n : Nat} {xs : List Value} (ho : OwO h (.slice o l c) T n xs) : l = n ∧ n ≤ c ∧ xs.length = n := by
  have := ho.rd.len
  rw [Nat.mul_one] at this
  exact this

section
variable {P : Program}
/-- append to such a slice: of the blocks of its colour at most one that holds such elements turns -/
theorem appO {t e ty : Nat} (hT : SlT P t e 1 1) {c : Nat → Nat} {i : Nat} {w : World} {s x : Value} {n m : Nat} {xs ys : List Value} (ho : OwO (view c i w) s e n xs) (hr : RdS (Vc.wv w) x 1 m ys)
    (h1 : ∀ u ∈ ys, u.oneCell' = true) (hb : n + m ≤ 140737488355328) {K : Value → World → Prop}
    (h : ∀ v' c' w' r, Wr c i w c' w' r → (∀ b, r = some b → ∃ cur, view c i w b = some (.cells cur e (0, 0))) → OwO (view c' i w') v' e (n + m) (xs ++ ys) → K v' w') :
    RunV P (Builtin.append_ #[t, t] ty #[s, x]) w K := by
  obtain ⟨ti, zv, hi, hsz, hby, hz, hzs⟩ := hT.inf
  obtain ⟨hlx, hos⟩ := id ho
  rcases hos with ⟨o, rfl, rfl⟩ | ⟨g, off, cap, cur, rfl, hg, hnc, hp, hcm, hcs, htake⟩
  · have hx0 : xs = [] := List.eq_nil_of_length_eq_zero hlx
    subst hx0
    cases o with
    | none =>
      refine append_col hT (OwS.nil (view c i w) e 1) hr h1 (by omega) (by omega) fun v' c' w' hW ho' _ => ?_
      exact h v' c' w' none (by simpa [Value.ownBlock] using hW) (by simp) (OwO.of ho')
    | some a0 =>
      obtain ⟨o', cp, rfl, hmc, hl, hx⟩ := hr
      have hl : ys.length = m := by omega
      by_cases hm0 : m = 0
      · subst hm0
        have hn : ys = [] := List.eq_nil_of_length_eq_zero hl
        subst hn
        refine RunV.mk (v := .slice (some a0) 0 0) (w' := w) ?_ (h _ c w none (.same ⟨rfl, rfl, rfl, Nat.le_refl _, fun _ _ _ => rfl⟩ rfl (by simp)) (by simp) (by simpa using ho))
        cases o' with
        | none => simp [Builtin.append_, run_underlying hT.und, sizeOf, typeInfo, hi, Builtin.lenOf, Builtin.firstCells, storeCells]
        | some a1 => simp [Builtin.append_, run_underlying hT.und, sizeOf, typeInfo, hi, Builtin.lenOf, Builtin.firstCells, loadCells, loadCellsFrom, hsz, storeCells]
      · cases o' with
        | none =>
          have hys : ys = [] := by
            rcases hx with h | ⟨b, off, cs, T, fz, e', _⟩
            · exact h
            · simp at e'
          subst hys
          simp at hl; omega
        | some a =>
          have hnews : ∀ j u, ys[j]? = some u → w.cell? (a.add j) = some u := by
            intro j u hu
            have hr : RdS (Vc.wv w) (.slice (some a) m cp) 1 m ys := ⟨_, _, rfl, hmc, by omega, hx⟩
            obtain ⟨a', ea, hc⟩ := hr.cell hu
            simp at ea; subst ea; exact hc
          have hrun := run_append_grow (P := P) w t ty e ti zv hT.und hi hz a0 0 0 [] (by simp) (by simp) a m cp ys (by rw [hl, hsz]; omega) hnews (by omega) (by omega) (by rw [hby]; exact growslice_fits (by omega) (by omega))
          have hge := grownCap_ge w (0 + m) 0 e
          have hcm : grownCap w (0 + m) 0 e ≤ maxLen := grownCap_le_maxLen w (0 + m) 0 e (by simp only [maxLen]; omega)
          refine RunV.mk hrun (h _ (ext c w.heap.size i) _ none (.of_grown ⟨rfl, rfl, rfl, by simp, fun k hk _ => heap_alloc_old w.drew _ hk⟩ (by simp)) (by simp) ⟨by simp [hl], .inr ⟨w.heap.size, 0, _, _, rfl, view_in (ext_new (Nat.le_refl _)) (heap_alloc_new w.drew _), hge, by omega, hcm, ?_, ?_⟩⟩)
          · simp only [Array.size_append, List.size_toArray, size_zeroCells, hzs, hl, List.length_nil]; omega
          · simp only [Array.toList_append, List.drop_zero, List.nil_append]
            rw [Nat.zero_add, ← hl]
            exact List.take_left
  · obtain ⟨o', cp, rfl, hmc, hl, hx⟩ := hr
    have hl : ys.length = m := by omega
    have hgw := (view_out hg).2
    have hlen : (xs ++ ys).length = n + m := by rw [List.length_append, hlx, hl]
    cases o' with
    | none =>
      have hys : ys = [] := by
        rcases hx with h | ⟨b, off, cs, T, fz, e', _⟩
        · exact h
        · simp at e'
      subst hys
      have : m = 0 := by simpa using hl.symm
      subst this
      refine RunV.mk (v := .slice (some ⟨g, off, none⟩) n cap) (w' := w) ?_ (h _ c w none (.same ⟨rfl, rfl, rfl, Nat.le_refl _, fun _ _ _ => rfl⟩ rfl (by simp)) (by simp) (by simpa using ho))
      simp [Builtin.append_, run_underlying hT.und, sizeOf, typeInfo, hi, Builtin.lenOf, Builtin.firstCells, hnc, storeCells]
    | some a =>
      have hnews : ∀ j u, ys[j]? = some u → w.cell? (a.add j) = some u := by
        intro j u hu
        have hr : RdS (Vc.wv w) (.slice (some a) m cp) 1 m ys := ⟨_, _, rfl, hmc, by omega, hx⟩
        obtain ⟨a', ea, hc⟩ := hr.cell hu
        simp at ea; subst ea; exact hc
      by_cases hroom : n + m ≤ cap
      · have hf := run_firstCells_some (P := P) w 1 m a m cp ys (by omega) hnews
        have hst := run_storeCells_at P g (off + n) e ys 0 cur w hgw (by omega) h1
        simp only [Nat.add_zero] at hst
        have hrun : (Builtin.append_ #[t, t] ty #[.slice (some ⟨g, off, none⟩) n cap, .slice (some a) m cp]).run P w =
            .ok (.slice (some ⟨g, off, none⟩) (n + m) cap) (w.setRow g (cur.toList.take (off + n) ++ ys ++ cur.toList.drop (off + n + ys.length)).toArray) := by
          simp [Builtin.append_, run_underlying hT.und, sizeOf, typeInfo, hi, hsz, Builtin.lenOf, hroom, hf, addr_add, hst]
        refine RunV.mk hrun (h _ c _ (some g) (.same ⟨rfl, rfl, rfl, by simp, fun k _ hk => setRow_other w g k _ (fun e => hk (by simp [e]))⟩ (by simp) (by simp [(view_out hg).1])) (fun b e => by cases e; exact ⟨_, hg⟩) ⟨hlen, .inr ⟨g, off, cap, _, rfl, view_in (view_out hg).1 (setRow_heap w g cur _ e _ hgw), hroom, hp, hcm, ?_, ?_⟩⟩)
        · simp only [List.size_toArray, List.length_append, List.length_take, List.length_drop, Array.length_toList]
          omega
        · have e1 : cur.toList.take (off + n) = cur.toList.take off ++ xs := by rw [← htake, List.take_add]
          rw [e1, List.append_assoc, List.append_assoc, List.drop_append]
          have e2 : (cur.toList.take off).length = off := by rw [List.length_take, Array.length_toList]; omega
          rw [List.drop_eq_nil_of_le (by omega), e2, Nat.sub_self, List.drop_zero, List.nil_append, ← List.append_assoc, ← hlen]
          exact List.take_left
      · have holds : ∀ j u, xs[j]? = some u → w.cell? ((⟨g, off, none⟩ : Addr).add j) = some u := by
          intro j u hu
          obtain ⟨a', ea, hc⟩ := (ho.mono (view_sub c i w)).rd.cell hu
          simp at ea; subst ea; exact hc
        have hrun := run_append_grow (P := P) w t ty e ti zv hT.und hi hz ⟨g, off, none⟩ n cap xs (by rw [hlx, hsz]; omega) holds a m cp ys (by rw [hl, hsz]; omega) hnews (by omega) (by omega) (by rw [hby]; exact growslice_fits (by omega) (by omega))
        have hge := grownCap_ge w (n + m) cap e
        have hcm2 : grownCap w (n + m) cap e ≤ maxLen := grownCap_le_maxLen w (n + m) cap e (by simp only [maxLen]; omega)
        refine RunV.mk hrun (h _ (ext c w.heap.size i) _ none (.of_grown ⟨rfl, rfl, rfl, by simp, fun k hk _ => heap_alloc_old w.drew _ hk⟩ (by simp)) (by simp) ⟨hlen, .inr ⟨w.heap.size, 0, _, _, rfl, view_in (ext_new (Nat.le_refl _)) (heap_alloc_new w.drew _), hge, by omega, hcm2, ?_, ?_⟩⟩)
        · simp only [Array.size_append, List.size_toArray, size_zeroCells, hzs, hlx, hl]; omega
        · simp only [Array.toList_append, List.drop_zero, List.append_assoc]
          rw [← List.append_assoc, ← hlen]
          exact List.take_left
/-- a variable within a variable is stored -/
theorem RunU.part {ty T : TypeId} {c : Nat → Nat} {i : Nat} {w : World} {b k : Nat} {cs es : List Value} {C : World → Prop} (hb : view c i w b = some (.cells cs.toArray T (0, 0)))
    (hi : (P.info? ty).map (·.size) = some es.length) (hk : k + es.length ≤ cs.length) (h1 : ∀ u ∈ es, u.oneCell' = true)
    (h : ∀ w', Wr c i w c w' (some b) → Step c [i] [] w c w' → view c i w' b = some (.cells (cs.take k ++ es ++ cs.drop (k + es.length)).toArray T (0, 0)) → C w') : RunU P (storeVar ty ((⟨b, 0, none⟩ : Addr).add k) (.agg es.toArray)) w C := by
  rw [addr_add, Nat.zero_add]
  obtain ⟨hc, hw⟩ := view_out hb
  have hst := run_storeCells_at P b k T es 0 cs.toArray w hw (by simpa using hk) h1
  simp only [Nat.add_zero] at hst
  have hrun : (storeVar ty ⟨b, k, none⟩ (.agg es.toArray)).run P w = .ok () (w.setRow b (cs.take k ++ es ++ cs.drop (k + es.length)).toArray) := by
    cases hq : P.info? ty with
    | none => simp [hq] at hi
    | some it =>
      have hs : es.length = it.size := by simp [hq] at hi; omega
      simp [storeVar, sizeOf, typeInfo, hq, Value.cells, hs, hst]
  have hsz : (w.setRow b (cs.take k ++ es ++ cs.drop (k + es.length)).toArray).heap.size = w.heap.size := by simp
  have hW : Wr c i w c (w.setRow b (cs.take k ++ es ++ cs.drop (k + es.length)).toArray) (some b) := .same ⟨rfl, rfl, rfl, by simp, fun j _ hj => setRow_other w b j _ (fun e => hj (by simp [e]))⟩ hsz (by simp [hc])
  have h0 := hW.step
  exact RunU.mk hrun (h _ hW ⟨h0.os, h0.tape, h0.output, h0.size, h0.col, fun b' h1 h2 => by omega, h0.keep⟩ (view_in hc (setRow_heap w b cs.toArray _ T _ hw)))
end

/-! rows that are written cell by cell -/
/-- the first i are A's, the rest are B's -/
def upto {α : Type} (A B : List α) (i : Nat) : List α := A.take i ++ B.drop i
theorem upto_zero {α : Type} (A B : List α) : upto A B 0 = B := by simp [upto]
theorem upto_full {α : Type} {A B : List α} (n : Nat) (ha : A.length ≤ n) (hb : B.length ≤ n) : upto A B n = A := by
  unfold upto; rw [List.take_of_length_le ha, List.drop_eq_nil_of_le hb, List.append_nil]
theorem upto_length {α : Type} {A B : List α} (h : A.length = B.length) (i : Nat) : (upto A B i).length = B.length := by
  unfold upto; rw [List.length_append, List.length_take, List.length_drop]; omega
theorem upto_set {α : Type} {A B : List α} {i : Nat} {x : α} (h : A.length = B.length) (hx : A[i]? = some x) : (upto A B i).set i x = upto A B (i + 1) := by
  have hi := lt_of_get hx
  unfold upto
  have hl : (A.take i).length = i := by rw [List.length_take]; omega
  rw [List.set_append_right _ _ (by omega), hl, Nat.sub_self, List.take_add_one, hx]
  have : B.drop i = B[i] :: B.drop (i + 1) := (List.drop_eq_getElem_cons (by omega))
  simp only [Option.toList_some, List.append_assoc, List.singleton_append]
  rw [this, List.set_cons_zero]
theorem upto_lt {α : Type} {A B : List α} {i k : Nat} (hk : k < i) (hi : i ≤ A.length) : (upto A B i)[k]? = A[k]? := by
  unfold upto
  rw [List.getElem?_append_left (by rw [List.length_take]; omega), List.getElem?_take, if_pos hk]
theorem upto_ge {α : Type} {A B : List α} {i k : Nat} (hk : i ≤ k) (hi : i ≤ A.length) : (upto A B i)[k]? = B[k]? := by
  unfold upto
  rw [List.getElem?_append_right (by rw [List.length_take]; omega), List.length_take, List.getElem?_drop]
  congr 1; omega
theorem toArray_set (l : List Value) (i : Nat) (v : Value) : l.toArray.setIfInBounds i v = (l.set i v).toArray := by simp
end Go.Vc

/-
  How arguments are read, and how a law's walk becomes its statement's contract: over any program.
-/
import Derived.Test.YtfploingelmpkaaNums
import Derived.ProofKit
import Derived.OpenShut
import Derived.ChangeSame
import Derived.WideKeyArgs
import Derived.JoinedOf
import Derived.Handed
import Derived.JoinedAt
import Derived.RowKit3
import Derived.Below
set_option linter.unusedVariables false
namespace Go.Vc
open Go Go.ChangeShapes Go.WideShapes Go.ChangeAt Go.RowKit

/-- what every reading of this type tells -/
def TP (P : Program) (t : TypeId) (Q : World → List Value → Prop) : Prop :=
  ∀ (H : Type) (enc : TypeId × Value → H) (W : World) (fuel : Nat) (cs : List Value) (x : DataW H × List MemPlace), DataW.trod enc P W 0 (fun _ => true) true fuel t cs = some x → Q W cs

section
variable {P : Program}
theorem wf_range {k : IntKind} {n : Int} (h : (Lit.int k n).wf = true) : k.min ≤ n ∧ n ≤ k.max := by
  unfold Lit.wf at h
  rw [Bool.and_eq_true] at h
  exact ⟨of_decide_eq_true h.1, of_decide_eq_true h.2⟩
theorem tp_int {t : TypeId} {k : IntKind} (ht : P.underlying t = some (.int k)) : TP P t fun _ cs => ∃ n, cs = [.int k n] ∧ k.min ≤ n ∧ n ≤ k.max := fun H enc W fuel cs x h => by
  obtain ⟨n, e, _, hw⟩ := DataW.trod_int ht h
  exact ⟨n, e, wf_range hw⟩
theorem tp_bool {t : TypeId} (ht : P.underlying t = some .bool) : TP P t fun _ cs => ∃ b, cs = [.bool b] := fun H enc W fuel cs x h => by
  obtain ⟨n, e, _⟩ := DataW.trod_bool ht h
  exact ⟨n, e⟩
theorem tp_string {t : TypeId} (ht : P.underlying t = some .string) : TP P t fun _ cs => ∃ l : List UInt8, cs = [.string (strOf l)] ∧ l.length ≤ maxLen := fun H enc W fuel cs x h => by
  obtain ⟨s, e, _, hs⟩ := DataW.trod_string ht h
  refine ⟨s.data.toList, by rw [e]; simp [strOf], ?_⟩
  rw [Array.length_toList]; exact hs
theorem tp_struct {t : TypeId} {fs : Array Field} (ht : P.underlying t = some (.struct fs)) :
    TP P t fun W cs => cs.length = P.cellsOf t ∧ ∀ (i : Nat) (f : Field), fs[i]? = some f → ∀ Q, TP P f.type Q → Q W ((cs.drop f.offset).take (P.cellsOf f.type)) := fun H enc W fuel cs x h => by
  obtain ⟨xs, n, _, _, hl, hx, hf⟩ := DataW.trod_struct ht h
  refine ⟨hl, fun i f hi Q hQ => ?_⟩
  have := hf i f hi
  have hlt : i < xs.length := by
    rw [hx]
    rcases Nat.lt_or_ge i fs.size with h' | h'
    · exact h'
    · rw [Array.getElem?_eq_none h'] at hi; simp at hi
  rw [List.getElem?_eq_getElem hlt] at this
  exact hQ H enc W n _ _ this
theorem mapM_cells {w : World} {a : Addr} : ∀ {n : Nat} {l : List Value}, ((List.range n).mapM fun i => w.cell? (a.add i)) = some l → l.length = n ∧ ∀ i, i < n → l[i]? = w.cell? (a.add i) := by
  intro n l h
  have h1 := mapM_some_length h
  refine ⟨by simpa using h1, fun i hi => ?_⟩
  have := mapM_some_get h i i (by simp [hi])
  exact this.symm
theorem cell_form {w : World} {a : Addr} {v : Value} (h : w.cell? a = some v) : a.spot = none ∧ ∃ cs T fz, w.heap[a.block]? = some (.cells cs T fz) := by
  unfold World.cell? at h
  split at h
  · rename_i c T fz hh
    split at h
    · simp at h
    · rename_i hs
      exact ⟨by simpa using hs, c, T, fz, hh⟩
  · simp at h
theorem tp_slice {t e : TypeId} {z : Nat} {Q : World → List Value → Prop} (ht : P.underlying t = some (.slice e)) (hz : P.cellsOf e = z) (hz0 : 0 < z) (he : TP P e Q) :
    TP P t fun W cs => ∃ v n xs, cs = [v] ∧ n ≤ maxLen ∧ RdS (wv W) v z n xs ∧ ∀ i, i < n → Q W ((xs.drop (i * z)).take z) := fun H enc W fuel cs x h => by
  rcases DataW.trod_slice ht h with ⟨rfl, _⟩ | ⟨a, len, cap, elems, rest, m, _, rfl, _, _, hlc, hcm, hel, hread, _, _⟩
  · exact ⟨_, 0, [], rfl, Nat.zero_le _, .nil .., fun i hi => by omega⟩
  · have hget : ∀ i, i < len → ∃ l, W.cells? 0 (a.add (i * z)) z = some l ∧ Q W l := by
      intro i hi
      have h1 := hread i hi
      rw [hz, List.getElem?_eq_getElem (by omega)] at h1
      cases hc : W.cells? 0 (a.add (i * z)) z with
      | none => rw [hc] at h1; simp at h1
      | some l => rw [hc] at h1; exact ⟨l, rfl, he H enc W m l _ h1⟩
    by_cases h0 : len = 0
    · subst h0
      exact ⟨_, 0, [], rfl, Nat.zero_le _, .nil .., fun i hi => by omega⟩
    · have hcell : ∀ i, i < len → ∀ j, j < z → ∀ l, W.cells? 0 (a.add (i * z)) z = some l → l.length = z ∧ l[j]? = W.cell? ((a.add (i * z)).add j) := by
        intro i hi j hj l hl
        have hl' : ((List.range z).mapM fun i' => W.cell? ((a.add (i * z)).add i')) = some l := by simpa [World.cells?] using hl
        have := mapM_cells hl'
        exact ⟨this.1, this.2 j hj⟩
      obtain ⟨l0, hl0, _⟩ := hget 0 (by omega)
      have hc0 := hcell 0 (by omega) 0 hz0 l0 hl0
      rw [List.getElem?_eq_getElem (by omega)] at hc0
      have hc0' : W.cell? a = some (l0[0]'(by omega)) := by
        have := hc0.2.symm
        simpa [Addr.add] using this
      obtain ⟨hsp, ccs, T, fz, hblk⟩ := cell_form hc0'
      obtain ⟨b, off, spot⟩ := a
      simp only at hsp hblk
      subst hsp
      have hcs : ∀ i j, i < len → j < z → ∀ l, W.cells? 0 ((⟨b, off, none⟩ : Addr).add (i * z)) z = some l → l.length = z ∧ l[j]? = ccs[off + (i * z + j)]? := by
        intro i j hi hj l hl
        have := hcell i hi j hj l hl
        refine ⟨this.1, ?_⟩
        rw [this.2, addr_add, addr_add, cell_of_row W b _ ccs T fz hblk, Nat.add_assoc]
      have hsize : off + len * z ≤ ccs.size := by
        obtain ⟨l1, hl1, _⟩ := hget (len - 1) (by omega)
        have h2 := hcs (len - 1) (z - 1) (by omega) (by omega) l1 hl1
        rw [List.getElem?_eq_getElem (by omega)] at h2
        have h3 := h2.2.symm
        rcases Nat.lt_or_ge (off + ((len - 1) * z + (z - 1))) ccs.size with h' | h'
        · have : (len - 1) * z + z = len * z := by rw [← Nat.succ_mul]; congr 1; omega
          omega
        · rw [Array.getElem?_eq_none h'] at h3; simp at h3
      refine ⟨_, len, (ccs.toList.drop off).take (len * z), rfl, by omega, ⟨_, _, rfl, hlc, by simp; omega, .inr ⟨b, off, ccs, T, fz, rfl, hblk, fun i u hu => ?_⟩⟩, fun i hi => ?_⟩
      · rw [List.getElem?_take] at hu
        split at hu
        · rw [List.getElem?_drop] at hu; simpa using hu
        · simp at hu
      · obtain ⟨l, hl, hq⟩ := hget i hi
        have : l = (((ccs.toList.drop off).take (len * z)).drop (i * z)).take z := by
          apply List.ext_getElem?
          intro j
          rw [List.getElem?_take]
          by_cases hj : j < z
          · have hh := hcs i j hi hj l hl
            have : i * z + j < len * z := by
              have : (i + 1) * z ≤ len * z := Nat.mul_le_mul_right _ hi
              rw [Nat.succ_mul] at this; omega
            rw [if_pos hj, List.getElem?_drop, List.getElem?_take, if_pos this, List.getElem?_drop, hh.2]
            simp
          · rw [if_neg hj]
            have hh := hcs i 0 hi hz0 l hl
            exact List.getElem?_eq_none (by omega)
        rw [← this]; exact hq

theorem bytes_of {xs : List Value} {n : Nat} (hl : xs.length = n) (h : ∀ i, i < n → ∃ m : Int, (xs.drop (i * 1)).take 1 = [.int .u8 m] ∧ IntKind.min .u8 ≤ m ∧ m ≤ IntKind.max .u8) : ∃ l : List UInt8, xs = bvs l ∧ l.length = n := by
  refine ⟨xs.map fun v => match v with | .int _ m => UInt8.ofNat m.toNat | _ => 0, ?_, by simpa using hl⟩
  apply List.ext_getElem?
  intro i
  rw [bvs, List.map_map, List.getElem?_map]
  rcases Nat.lt_or_ge i n with hi | hi
  · obtain ⟨m, e, h1, h2⟩ := h i hi
    have hx : xs[i]? = some (.int .u8 m) := by
      have := congrArg (fun l : List Value => l[0]?) e
      simpa [List.getElem?_take, List.getElem?_drop] using this
    rw [hx]
    have h1 : 0 ≤ m := by simpa [IntKind.min, IntKind.signed] using h1
    have h2 : m ≤ 255 := by simpa [IntKind.max, IntKind.signed, IntKind.bits] using h2
    have h3 : m.toNat % 256 = m.toNat := Nat.mod_eq_of_lt (by omega)
    simp only [Option.map_some, Function.comp_def, bv, UInt8.toNat_ofNat', Option.some.injEq, Value.int.injEq, true_and]
    simp only [Nat.reducePow]
    omega
  · rw [List.getElem?_eq_none (by omega)]; rfl
theorem tp_bytes {t e : TypeId} (ht : P.underlying t = some (.slice e)) (he : P.underlying e = some (.int .u8)) (hz : P.cellsOf e = 1) :
    TP P t fun W cs => ∃ v l, cs = [v] ∧ l.length ≤ maxLen ∧ RdS (wv W) v 1 l.length (bvs l) := fun H enc W fuel cs x h => by
  obtain ⟨v, n, xs, e, hn, hr, hq⟩ := tp_slice ht hz (by omega) (tp_int he) H enc W fuel cs x h
  have hlen : xs.length = n := by obtain ⟨_, _, _, _, hl, _⟩ := hr; simpa using hl
  obtain ⟨l, rfl, hl⟩ := bytes_of hlen hq
  exact ⟨v, l, e, by omega, by rw [hl]; exact hr⟩
theorem TP.trod {t : TypeId} {Q : World → List Value → Prop} (hQ : TP P t Q) {H : Type} {enc : TypeId × Value → H} {W : World} {v : Value} {d : DataW H} {ps : List MemPlace} (h : DataW.Trod enc P W 0 (fun _ => true) true t v d ps) : Q W v.cells.toList := by
  obtain ⟨n, hn⟩ := h; exact hQ H enc W n _ _ hn

theorem TrodAll_stays (hl : laidOutB P = true) {H : Type} {enc : TypeId × Value → H} {W W' : World} {sp' : Nat → Bool} : ∀ {ts : List TypeId} {vs : List Value} {ds : List (DataW H)} {ps : List MemPlace},
    ts.all (fun t => P.readableRec t && decide (t < P.types.size)) = true → DataW.TrodAll enc P W 0 (fun _ => true) true ts vs ds ps → (∀ p ∈ ps, W.sameAt W' p) → (∀ p ∈ ps, sp' p.block = true) → DataW.TrodAll enc P W' 0 sp' true ts vs ds ps
  | [], [], [], ps, _, h, _, _ => h
  | t :: ts, v :: vs, d :: ds, ps, hr, h, hs, hp => by
    obtain ⟨p, q, h1, h2, e⟩ := h
    simp only [List.all_cons, Bool.and_eq_true, decide_eq_true_eq] at hr
    refine ⟨p, q, WideElems.Trod_stays hl hr.1.1 hr.1.2 h1 (fun x hx => hs x (by simp [e, hx])) (fun x hx => hp x (by simp [e, hx])), TrodAll_stays hl hr.2 h2 (fun x hx => hs x (by simp [e, hx])) (fun x hx => hp x (by simp [e, hx])), e⟩
theorem TrodAll_len {H : Type} {enc : TypeId × Value → H} {W : World} {sp : Nat → Bool} {b : Nat} {hd : Bool} : ∀ {ts : List TypeId} {vs : List Value} {ds : List (DataW H)} {ps : List MemPlace},
    DataW.TrodAll enc P W b sp hd ts vs ds ps → vs.length = ts.length ∧ ds.length = ts.length
  | [], [], [], ps, _ => ⟨rfl, rfl⟩
  | t :: ts, v :: vs, d :: ds, ps, h => by
    obtain ⟨p, q, h1, h2, e⟩ := h
    have := TrodAll_len h2
    simp [this]

theorem Step.below {c c' : Nat → Nat} {W N : List Nat} {w w' : World} (h : Step c W N w c' w') (hW : ∀ b, c b ∉ W) : Below w.heap.size w w' :=
  ⟨h.os, h.tape, h.output, h.size, fun b hb => h.keep b hb (hW b)⟩

/-- from a walk to the row's contract -/
theorem law_post {H : Type} {enc : TypeId × Value → H} {f : FuncId} {fn : Func} {s : ChangeSpec} {W : World} {args : Array Value} {ds gs : List (DataW H)} {before : List MemPlace} {tb : TypeId} {apart fresh handsOn again : Bool}
    (hl : laidOutB P = true) (hr : fn.params.toList.all (fun t => P.readableRec t && decide (t < P.types.size)) = true)
    (hrt : fn.resultTypes = #[tb]) (hb : P.underlying tb = some .bool) (hvars : s.vars = [])
    (hs : ∀ ds : List (DataW H), ds.length = fn.params.toList.length → s.fn H ds = { results := [.lit (.bool true)], args := ds })
    (hW : DataW.Whole enc P fn.params.toList s.vars apart W args.toList ds gs before)
    (hwalk : CallV P f args W fun v W' => v = .bool true ∧ Below W.heap.size W W') :
    Calls P f args W fun e W' => ∃ v, e = .returned v ∧ s.post enc P fn apart fresh handsOn again W args v W' := by
  refine Calls.mono hwalk ?_
  rintro e W' ⟨v, rfl, rfl, hB⟩
  refine ⟨_, rfl, ?_⟩
  have hW0 := hW
  obtain ⟨p, q, hA, hV, rfl, hz, _⟩ := hW0
  rw [hvars] at hV
  obtain ⟨rfl, rfl⟩ := trodVars_none hV
  have hlen := TrodAll_len hA
  have he : s.fn H (ds ++ []) = { results := [.lit (.bool true)], args := ds } := by rw [List.append_nil]; exact hs ds hlen.2
  have hlt := hW.lt
  have hB' : ∀ a : Addr, a.block < W.heap.size → W'.frozen? a = W.frozen? a := fun a ha => hB.frozen ha
  have hres : ∀ (b : Nat) (sp : Nat → Bool) (hd : Bool), DataW.TrodAll enc P W' b sp hd fn.resultTypes.toList ((Value.bool true).resultList fn.resultTypes.size) (s.fn H (ds ++ [])).results [] := by
    intro b sp hd
    rw [he, hrt]
    exact trodAll_cons_mk (shut_bool hb _) trodAll_mk0
  have hargs : ∀ sp : Nat → Bool, (∀ x ∈ p, sp x.block = true) → DataW.TrodAll enc P W' 0 sp true fn.params.toList args.toList (s.fn H (ds ++ [])).args p := by
    intro sp hsp
    rw [he]
    exact TrodAll_stays hl hr hA (fun x hx => hB.same (hlt x (by simp [hx]))) hsp
  have hvs : ∀ sp : Nat → Bool, DataW.TrodVars enc P W' sp s.vars (s.fn H (ds ++ [])).vars [] := by
    intro sp
    rw [he, hvars]; rfl
  have hold : ∀ x ∈ p, (fun b => decide (b < W.heap.size)) x.block = true := fun x hx => by simpa using hlt x (by simp [hx])
  refine ⟨ds, [], p ++ [], [], p, [], hW, hres _ _ _, hargs _ hold, hvs _, hB.frame _, fun _ => ?_⟩
  obtain ⟨_, _, _, _, _, hz, hn⟩ := hW
  refine ⟨ok_one hrt rfl (okWide_bool_mk hb _), _, _, ([] ++ p) ++ [], ⟨[] ++ p, [], trodAll_append (hargs _ (fun _ _ => rfl)) (hres _ _ _), hvs _, rfl, ?_, ?_⟩, ?_⟩
  · intro b off hp
    rw [hB' _ (hlt (.cell b off) (by simpa using hp))]
    exact hz b off (by simpa using hp)
  · intro ha
    have := hn ha
    simpa using this
  · intro x hx _
    simpa using hx
theorem arg_slice {t e : TypeId} {w : World} {r : _root_.Go.Reach} {b : Nat} {v u : Value} (ht : P.underlying t = some (.slice e)) (hv : Value.okWide P w r b t v) (hc : v.cells.toList = [u]) : u = v := by
  obtain ⟨a, l, c, rfl⟩ := okWide_slice ht hv
  simpa [Value.cells] using hc.symm
theorem arg_struct {t : TypeId} {fs : Array Field} {w : World} {r : _root_.Go.Reach} {b : Nat} {v : Value} {l : List Value} (ht : P.underlying t = some (.struct fs)) (hv : Value.okWide P w r b t v) (hc : v.cells.toList = l) : v = .agg l.toArray := by
  unfold Value.okWide at hv
  rw [ht] at hv
  obtain ⟨cs, rfl, _⟩ := hv
  simp only [Value.cells] at hc
  rw [← hc]
end
end Go.Vc

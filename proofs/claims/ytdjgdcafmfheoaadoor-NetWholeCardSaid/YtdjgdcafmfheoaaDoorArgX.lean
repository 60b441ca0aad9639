/-
  Several texts in one: Args, Args2, Api, ArgsL, ArgS, ArgM.
-/
import Derived.Test.YtdjgdcafmfheoaaDoorHpM
import Derived.ProofKit
import Derived.OpenShut
import Derived.ChangeSame
import Derived.WideKeyArgs
import Derived.JoinedOf
import Derived.Handed
import Derived.JoinedAt
import Derived.RowKit3
import Derived.Below
import Derived.Test.YtdjgdcafmfheoaaDoorOpM
import Derived.Test.YtdjgdcafmfheoaaDoorShM
import Derived.Test.YtdjgdcafmfheoaaDoorRows
import Derived.Test.YtdjgdcafmfheoaaDoorTie
import Derived.Test.YtdjgdcafmfheoaaDoorCards
import Derived.LaidLaws
import Derived.MakeChecks
import Derived.SevenTiedAt
import Derived.Test.YtdjgdcafmfheoaaDoorWireN
set_option linter.unusedVariables false
namespace Go.Vc
open Go Go.ChangeShapes Go.WideShapes Go.ChangeAt Go.RowKit

/-- what every reading of this type tells -/
def TP (P : Program) (t : TypeId) (Q : World → List Value → Prop) : Prop :=
  ∀ (H : Type) (enc : TypeId × Value → H) (W : World) (fuel : Nat) (cs : List Value) (x : DataW H × List MemPlace), DataW.trod enc P W 0 (fun _ => true) true fuel t cs = some x → Q W cs

section
variable {P : Program}
theorem wf_range {k : IntKind} {n : Int} (h : (Lit.int k n).wf = true) : k.min ≤ n ∧ n ≤ k.max := by
  unfold Lit.wf at h
  rw [Bool.and_eq_true] at h
  exact ⟨of_decide_eq_true h.1, of_decide_eq_true h.2⟩
theorem tp_int {t : TypeId} {k : IntKind} (ht : P.underlying t = some (.int k)) : TP P t fun _ cs => ∃ n, cs = [.int k n] ∧ k.min ≤ n ∧ n ≤ k.max := fun H enc W fuel cs x h => by
  obtain ⟨n, e, _, hw⟩ := DataW.trod_int ht h
  exact ⟨n, e, wf_range hw⟩
theorem tp_bool {t : TypeId} (ht : P.underlying t = some .bool) : TP P t fun _ cs => ∃ b, cs = [.bool b] := fun H enc W fuel cs x h => by
  obtain ⟨n, e, _⟩ := DataW.trod_bool ht h
  exact ⟨n, e⟩
theorem tp_string {t : TypeId} (ht : P.underlying t = some .string) : TP P t fun _ cs => ∃ l : List UInt8, cs = [.string (strOf l)] ∧ l.length ≤ maxLen := fun H enc W fuel cs x h => by
  obtain ⟨s, e, _, hs⟩ := DataW.trod_string ht h
  refine ⟨s.data.toList, by rw [e]; simp [strOf], ?_⟩
  rw [Array.length_toList]; exact hs
theorem tp_struct {t : TypeId} {fs : Array Field} (ht : P.underlying t = some (.struct fs)) :
    TP P t fun W cs => cs.length = P.cellsOf t ∧ ∀ (i : Nat) (f : Field), fs[i]? = some f → ∀ Q, TP P f.type Q → Q W ((cs.drop f.offset).take (P.cellsOf f.type)) := fun H enc W fuel cs x h => by
  obtain ⟨xs, n, _, _, hl, hx, hf⟩ := DataW.trod_struct ht h
  refine ⟨hl, fun i f hi Q hQ => ?_⟩
  have := hf i f hi
  have hlt : i < xs.length := by
    rw [hx]
    rcases Nat.lt_or_ge i fs.size with h' | h'
    · exact h'
    · rw [Array.getElem?_eq_none h'] at hi; simp at hi
  rw [List.getElem?_eq_getElem hlt] at this
  exact hQ H enc W n _ _ this
theorem mapM_cells {w : World} {a : Addr} : ∀ {n : Nat} {l : List Value}, ((List.range n).mapM fun i => w.cell? (a.add i)) = some l → l.length = n ∧ ∀ i, i < n → l[i]? = w.cell? (a.add i) := by
  intro n l h
  have h1 := mapM_some_length h
  refine ⟨by simpa using h1, fun i hi => ?_⟩
  have := mapM_some_get h i i (by simp [hi])
  exact this.symm
theorem cell_form {w : World} {a : Addr} {v : Value} (h : w.cell? a = some v) : a.spot = none ∧ ∃ cs T fz, w.heap[a.block]? = some (.cells cs T fz) := by
  unfold World.cell? at h
  split at h
  · rename_i c T fz hh
    split at h
    · simp at h
    · rename_i hs
      exact ⟨by simpa using hs, c, T, fz, hh⟩
  · simp at h
theorem tp_slice {t e : TypeId} {z : Nat} {Q : World → List Value → Prop} (ht : P.underlying t = some (.slice e)) (hz : P.cellsOf e = z) (hz0 : 0 < z) (he : TP P e Q) :
    TP P t fun W cs => ∃ v n xs, cs = [v] ∧ n ≤ maxLen ∧ RdS (wv W) v z n xs ∧ ∀ i, i < n → Q W ((xs.drop (i * z)).take z) := fun H enc W fuel cs x h => by
  rcases DataW.trod_slice ht h with ⟨rfl, _⟩ | ⟨a, len, cap, elems, rest, m, _, rfl, _, _, hlc, hcm, hel, hread, _, _⟩
  · exact ⟨_, 0, [], rfl, Nat.zero_le _, .nil .., fun i hi => by omega⟩
  · have hget : ∀ i, i < len → ∃ l, W.cells? 0 (a.add (i * z)) z = some l ∧ Q W l := by
      intro i hi
      have h1 := hread i hi
      rw [hz, List.getElem?_eq_getElem (by omega)] at h1
      cases hc : W.cells? 0 (a.add (i * z)) z with
      | none => rw [hc] at h1; simp at h1
      | some l => rw [hc] at h1; exact ⟨l, rfl, he H enc W m l _ h1⟩
    by_cases h0 : len = 0
    · subst h0
      exact ⟨_, 0, [], rfl, Nat.zero_le _, .nil .., fun i hi => by omega⟩
    · have hcell : ∀ i, i < len → ∀ j, j < z → ∀ l, W.cells? 0 (a.add (i * z)) z = some l → l.length = z ∧ l[j]? = W.cell? ((a.add (i * z)).add j) := by
        intro i hi j hj l hl
        have hl' : ((List.range z).mapM fun i' => W.cell? ((a.add (i * z)).add i')) = some l := by simpa [World.cells?] using hl
        have := mapM_cells hl'
        exact ⟨this.1, this.2 j hj⟩
      obtain ⟨l0, hl0, _⟩ := hget 0 (by omega)
      have hc0 := hcell 0 (by omega) 0 hz0 l0 hl0
      rw [List.getElem?_eq_getElem (by omega)] at hc0
      have hc0' : W.cell? a = some (l0[0]'(by omega)) := by
        have := hc0.2.symm
        simpa [Addr.add] using this
      obtain ⟨hsp, ccs, T, fz, hblk⟩ := cell_form hc0'
      obtain ⟨b, off, spot⟩ := a
      simp only at hsp hblk
      subst hsp
      have hcs : ∀ i j, i < len → j < z → ∀ l, W.cells? 0 ((⟨b, off, none⟩ : Addr).add (i * z)) z = some l → l.length = z ∧ l[j]? = ccs[off + (i * z + j)]? := by
        intro i j hi hj l hl
        have := hcell i hi j hj l hl
        refine ⟨this.1, ?_⟩
        rw [this.2, addr_add, addr_add, cell_of_row W b _ ccs T fz hblk, Nat.add_assoc]
      have hsize : off + len * z ≤ ccs.size := by
        obtain ⟨l1, hl1, _⟩ := hget (len - 1) (by omega)
        have h2 := hcs (len - 1) (z - 1) (by omega) (by omega) l1 hl1
        rw [List.getElem?_eq_getElem (by omega)] at h2
        have h3 := h2.2.symm
        rcases Nat.lt_or_ge (off + ((len - 1) * z + (z - 1))) ccs.size with h' | h'
        · have : (len - 1) * z + z = len * z := by rw [← Nat.succ_mul]; congr 1; omega
          omega
        · rw [Array.getElem?_eq_none h'] at h3; simp at h3
      refine ⟨_, len, (ccs.toList.drop off).take (len * z), rfl, by omega, ⟨_, _, rfl, hlc, by simp; omega, .inr ⟨b, off, ccs, T, fz, rfl, hblk, fun i u hu => ?_⟩⟩, fun i hi => ?_⟩
      · rw [List.getElem?_take] at hu
        split at hu
        · rw [List.getElem?_drop] at hu; simpa using hu
        · simp at hu
      · obtain ⟨l, hl, hq⟩ := hget i hi
        have : l = (((ccs.toList.drop off).take (len * z)).drop (i * z)).take z := by
          apply List.ext_getElem?
          intro j
          rw [List.getElem?_take]
          by_cases hj : j < z
          · have hh := hcs i j hi hj l hl
            have : i * z + j < len * z := by
              have : (i + 1) * z ≤ len * z := Nat.mul_le_mul_right _ hi
              rw [Nat.succ_mul] at this; omega
            rw [if_pos hj, List.getElem?_drop, List.getElem?_take, if_pos this, List.getElem?_drop, hh.2]
            simp
          · rw [if_neg hj]
            have hh := hcs i 0 hi hz0 l hl
            exact List.getElem?_eq_none (by omega)
        rw [← this]; exact hq

theorem bytes_of {xs : List Value} {n : Nat} (hl : xs.length = n) (h : ∀ i, i < n → ∃ m : Int, (xs.drop (i * 1)).take 1 = [.int .u8 m] ∧ IntKind.min .u8 ≤ m ∧ m ≤ IntKind.max .u8) : ∃ l : List UInt8, xs = bvs l ∧ l.length = n := by
  refine ⟨xs.map fun v => match v with | .int _ m => UInt8.ofNat m.toNat | _ => 0, ?_, by simpa using hl⟩
  apply List.ext_getElem?
  intro i
  rw [bvs, List.map_map, List.getElem?_map]
  rcases Nat.lt_or_ge i n with hi | hi
  · obtain ⟨m, e, h1, h2⟩ := h i hi
    have hx : xs[i]? = some (.int .u8 m) := by
      have := congrArg (fun l : List Value => l[0]?) e
      simpa [List.getElem?_take, List.getElem?_drop] using this
    rw [hx]
    have h1 : 0 ≤ m := by simpa [IntKind.min, IntKind.signed] using h1
    have h2 : m ≤ 255 := by simpa [IntKind.max, IntKind.signed, IntKind.bits] using h2
    have h3 : m.toNat % 256 = m.toNat := Nat.mod_eq_of_lt (by omega)
    simp only [Option.map_some, Function.comp_def, bv, UInt8.toNat_ofNat', Option.some.injEq, Value.int.injEq, true_and]
    simp only [Nat.reducePow]
    omega
  · rw [List.getElem?_eq_none (by omega)]; rfl
theorem tp_bytes {t e : TypeId} (ht : P.underlying t = some (.slice e)) (he : P.underlying e = some (.int .u8)) (hz : P.cellsOf e = 1) :
    TP P t fun W cs => ∃ v l, cs = [v] ∧ l.length ≤ maxLen ∧ RdS (wv W) v 1 l.length (bvs l) := fun H enc W fuel cs x h => by
  obtain ⟨v, n, xs, e, hn, hr, hq⟩ := tp_slice ht hz (by omega) (tp_int he) H enc W fuel cs x h
  have hlen : xs.length = n := by obtain ⟨_, _, _, _, hl, _⟩ := hr; simpa using hl
  obtain ⟨l, rfl, hl⟩ := bytes_of hlen hq
  exact ⟨v, l, e, by omega, by rw [hl]; exact hr⟩
theorem TP.trod {t : TypeId} {Q : World → List Value → Prop} (hQ : TP P t Q) {H : Type} {enc : TypeId × Value → H} {W : World} {v : Value} {d : DataW H} {ps : List MemPlace} (h : DataW.Trod enc P W 0 (fun _ => true) true t v d ps) : Q W v.cells.toList := by
  obtain ⟨n, hn⟩ := h; exact hQ H enc W n _ _ hn

theorem TrodAll_stays (hl : laidOutB P = true) {H : Type} {enc : TypeId × Value → H} {W W' : World} {sp' : Nat → Bool} : ∀ {ts : List TypeId} {vs : List Value} {ds : List (DataW H)} {ps : List MemPlace},
    ts.all (fun t => P.readableRec t && decide (t < P.types.size)) = true → DataW.TrodAll enc P W 0 (fun _ => true) true ts vs ds ps → (∀ p ∈ ps, W.sameAt W' p) → (∀ p ∈ ps, sp' p.block = true) → DataW.TrodAll enc P W' 0 sp' true ts vs ds ps
  | [], [], [], ps, _, h, _, _ => h
  | t :: ts, v :: vs, d :: ds, ps, hr, h, hs, hp => by
    obtain ⟨p, q, h1, h2, e⟩ := h
    simp only [List.all_cons, Bool.and_eq_true, decide_eq_true_eq] at hr
    refine ⟨p, q, WideElems.Trod_stays hl hr.1.1 hr.1.2 h1 (fun x hx => hs x (by simp [e, hx])) (fun x hx => hp x (by simp [e, hx])), TrodAll_stays hl hr.2 h2 (fun x hx => hs x (by simp [e, hx])) (fun x hx => hp x (by simp [e, hx])), e⟩
theorem TrodAll_len {H : Type} {enc : TypeId × Value → H} {W : World} {sp : Nat → Bool} {b : Nat} {hd : Bool} : ∀ {ts : List TypeId} {vs : List Value} {ds : List (DataW H)} {ps : List MemPlace},
    DataW.TrodAll enc P W b sp hd ts vs ds ps → vs.length = ts.length ∧ ds.length = ts.length
  | [], [], [], ps, _ => ⟨rfl, rfl⟩
  | t :: ts, v :: vs, d :: ds, ps, h => by
    obtain ⟨p, q, h1, h2, e⟩ := h
    have := TrodAll_len h2
    simp [this]

theorem Step.below {c c' : Nat → Nat} {W N : List Nat} {w w' : World} (h : Step c W N w c' w') (hW : ∀ b, c b ∉ W) : Below w.heap.size w w' :=
  ⟨h.os, h.tape, h.output, h.size, fun b hb => h.keep b hb (hW b)⟩

/-- from a walk to the row's contract -/
theorem law_post {H : Type} {enc : TypeId × Value → H} {f : FuncId} {fn : Func} {s : ChangeSpec} {W : World} {args : Array Value} {ds gs : List (DataW H)} {before : List MemPlace} {tb : TypeId} {apart fresh handsOn again : Bool}
    (hl : laidOutB P = true) (hr : fn.params.toList.all (fun t => P.readableRec t && decide (t < P.types.size)) = true)
    (hrt : fn.resultTypes = #[tb]) (hb : P.underlying tb = some .bool) (hvars : s.vars = [])
    (hs : ∀ ds : List (DataW H), ds.length = fn.params.toList.length → s.fn H ds = { results := [.lit (.bool true)], args := ds })
    (hW : DataW.Whole enc P fn.params.toList s.vars apart W args.toList ds gs before)
    (hwalk : CallV P f args W fun v W' => v = .bool true ∧ Below W.heap.size W W') :
    Calls P f args W fun e W' => ∃ v, e = .returned v ∧ s.post enc P fn apart fresh handsOn again W args v W' := by
  refine Calls.mono hwalk ?_
  rintro e W' ⟨v, rfl, rfl, hB⟩
  refine ⟨_, rfl, ?_⟩
  have hW0 := hW
  obtain ⟨p, q, hA, hV, rfl, hz, _⟩ := hW0
  rw [hvars] at hV
  obtain ⟨rfl, rfl⟩ := trodVars_none hV
  have hlen := TrodAll_len hA
  have he : s.fn H (ds ++ []) = { results := [.lit (.bool true)], args := ds } := by rw [List.append_nil]; exact hs ds hlen.2
  have hlt := hW.lt
  have hB' : ∀ a : Addr, a.block < W.heap.size → W'.frozen? a = W.frozen? a := fun a ha => hB.frozen ha
  have hres : ∀ (b : Nat) (sp : Nat → Bool) (hd : Bool), DataW.TrodAll enc P W' b sp hd fn.resultTypes.toList ((Value.bool true).resultList fn.resultTypes.size) (s.fn H (ds ++ [])).results [] := by
    intro b sp hd
    rw [he, hrt]
    exact trodAll_cons_mk (shut_bool hb _) trodAll_mk0
  have hargs : ∀ sp : Nat → Bool, (∀ x ∈ p, sp x.block = true) → DataW.TrodAll enc P W' 0 sp true fn.params.toList args.toList (s.fn H (ds ++ [])).args p := by
    intro sp hsp
    rw [he]
    exact TrodAll_stays hl hr hA (fun x hx => hB.same (hlt x (by simp [hx]))) hsp
  have hvs : ∀ sp : Nat → Bool, DataW.TrodVars enc P W' sp s.vars (s.fn H (ds ++ [])).vars [] := by
    intro sp
    rw [he, hvars]; rfl
  have hold : ∀ x ∈ p, (fun b => decide (b < W.heap.size)) x.block = true := fun x hx => by simpa using hlt x (by simp [hx])
  refine ⟨ds, [], p ++ [], [], p, [], hW, hres _ _ _, hargs _ hold, hvs _, hB.frame _, fun _ => ?_⟩
  obtain ⟨_, _, _, _, _, hz, hn⟩ := hW
  refine ⟨ok_one hrt rfl (okWide_bool_mk hb _), _, _, ([] ++ p) ++ [], ⟨[] ++ p, [], trodAll_append (hargs _ (fun _ _ => rfl)) (hres _ _ _), hvs _, rfl, ?_, ?_⟩, ?_⟩
  · intro b off hp
    rw [hB' _ (hlt (.cell b off) (by simpa using hp))]
    exact hz b off (by simpa using hp)
  · intro ha
    have := hn ha
    simpa using this
  · intro x hx _
    simpa using hx
theorem arg_slice {t e : TypeId} {w : World} {r : _root_.Go.Reach} {b : Nat} {v u : Value} (ht : P.underlying t = some (.slice e)) (hv : Value.okWide P w r b t v) (hc : v.cells.toList = [u]) : u = v := by
  obtain ⟨a, l, c, rfl⟩ := okWide_slice ht hv
  simpa [Value.cells] using hc.symm
theorem arg_struct {t : TypeId} {fs : Array Field} {w : World} {r : _root_.Go.Reach} {b : Nat} {v : Value} {l : List Value} (ht : P.underlying t = some (.struct fs)) (hv : Value.okWide P w r b t v) (hc : v.cells.toList = l) : v = .agg l.toArray := by
  unfold Value.okWide at hv
  rw [ht] at hv
  obtain ⟨cs, rfl, _⟩ := hv
  simp only [Value.cells] at hc
  rw [← hc]
end
end Go.Vc
set_option linter.unusedVariables false
set_option linter.unusedSimpArgs false
namespace Go.Vc
open Go Go.ChangeShapes Go.WideShapes Go.ChangeAt Go.RowKit
theorem list_of {α : Type} {n z : Nat} {xs : List Value} {P : α → List Value → Prop} (h : ∀ i, i < n → ∃ a, P a ((xs.drop (i * z)).take z)) :
    ∃ l : List α, l.length = n ∧ ∀ i a, l[i]? = some a → P a ((xs.drop (i * z)).take z) := by
  induction n with
  | zero => exact ⟨[], rfl, fun i a h => by simp at h⟩
  | succ n ih =>
    obtain ⟨l, hl, hp⟩ := ih (fun i hi => h i (by omega))
    obtain ⟨a, ha⟩ := h n (by omega)
    refine ⟨l ++ [a], by simp [hl], fun i b hb => ?_⟩
    rcases Nat.lt_or_ge i n with hi | hi
    · rw [List.getElem?_append_left (by omega)] at hb; exact hp i b hb
    · rw [List.getElem?_append_right (by omega)] at hb
      have := lt_of_get hb
      have hi2 : i = n := by simp at this; omega
      subst hi2
      rw [hl, Nat.sub_self] at hb
      simp at hb
      subst hb
      exact ha
theorem map_of {α : Type} {f : α → Value} {n : Nat} {xs : List Value} {P : α → Prop} (hl : xs.length = n) (h : ∀ i, i < n → ∃ a, (xs.drop (i * 1)).take 1 = [f a] ∧ P a) : ∃ l : List α, xs = l.map f ∧ l.length = n ∧ ∀ a ∈ l, P a := by
  obtain ⟨l, hn, hp⟩ := list_of (P := fun a cs => cs = [f a] ∧ P a) h
  refine ⟨l, ?_, hn, fun a ha => ?_⟩
  · apply List.ext_getElem?
    intro i
    rw [List.getElem?_map]
    rcases Nat.lt_or_ge i n with hi | hi
    · obtain ⟨a, ha⟩ := get_of_lt (l := l) (i := i) (by omega)
      have := (hp i a ha).1
      rw [ha]
      have h0 := congrArg (fun l : List Value => l[0]?) this
      simpa [List.getElem?_take, List.getElem?_drop] using h0
    · rw [List.getElem?_eq_none (by omega), List.getElem?_eq_none (by omega)]; rfl
  · obtain ⟨i, hi⟩ := List.getElem?_of_mem ha
    exact (hp i a hi).2
section
variable {P : Program}
theorem tp_strs {t e : TypeId} (ht : P.underlying t = some (.slice e)) (he : P.underlying e = some .string) (hz : P.cellsOf e = 1) :
    TP P t fun W cs => ∃ v l, cs = [v] ∧ l.length ≤ maxLen ∧ RdS (wv W) v 1 l.length (svs l) ∧ ∀ s ∈ l, s.length ≤ maxLen := fun H enc W fuel cs x h => by
  obtain ⟨v, n, xs, e, hn, hr, hq⟩ := tp_slice ht hz (by omega) (tp_string he) H enc W fuel cs x h
  have hlen : xs.length = n := by obtain ⟨_, _, _, _, hl, _⟩ := hr; simpa using hl
  obtain ⟨l, rfl, hl, hp⟩ := map_of (f := sv) (P := fun s => s.length ≤ maxLen) hlen hq
  exact ⟨v, l, e, by omega, by rw [hl]; exact hr, hp⟩
/-- a field's cells -/
theorem cut {cs : List Value} {o n m : Nat} (e : n = m) : (cs.drop o).take n = (cs.drop o).take m := by rw [e]
theorem one_at {cs : List Value} {o : Nat} {u : Value} (h : (cs.drop o).take 1 = [u]) : cs[o]? = some u := by
  have := congrArg (fun l : List Value => l[0]?) h
  simpa [List.getElem?_take, List.getElem?_drop] using this
theorem list_eq {cs ds : List Value} (hl : cs.length = ds.length) (h : ∀ i, i < ds.length → cs[i]? = ds[i]?) : cs = ds := by
  apply List.ext_getElem?
  intro i
  rcases Nat.lt_or_ge i ds.length with hi | hi
  · exact h i hi
  · rw [List.getElem?_eq_none (by omega), List.getElem?_eq_none hi]
end
end Go.Vc
set_option linter.unusedVariables false
set_option linter.unusedSimpArgs false
namespace Go.Proofs.YtdjgdcafmfheoaaDoor
open Go.Vc Go.ChangeShapes Go.WideShapes Go.ChangeAt Go.RowKit
attribute [local irreducible] TInt TBool TStr TPtr TSl TAgg TMap TChan T2 T3 T4 BS Req TSome TCell TByte LoadC LoadA StoreC AllocC RunV RunU CallV ExtV EqA StableC StableA StableV TCells ReadV
attribute [local irreducible] eU eT eE

theorem ci : Tryd.prog.cellsOf 3 = 1 := by kernel_rfl
theorem cstr : Tryd.prog.cellsOf 9 = 1 := by kernel_rfl
theorem cbytes : Tryd.prog.cellsOf 26 = 1 := by kernel_rfl
theorem cstrs : Tryd.prog.cellsOf 32 = 1 := by kernel_rfl

theorem tp_opr : TP Tryd.prog 28 fun W cs => ∃ (o : OpR) (v : Value), cs = o.cells v ∧ OpRV (wv W) o v ∧ o.data.length ≤ maxLen := fun H enc W fuel cs x h => by
  obtain ⟨hl, hf⟩ := tp_struct (t := 28) Tryd.underlying28 H enc W fuel cs x h
  have hl : cs.length = 6 := hl.trans (by kernel_rfl)
  obtain ⟨n0, e0, _⟩ := hf 0 _ rfl _ (tp_int Tryd.underlying3)
  obtain ⟨l1, e1, _⟩ := hf 1 _ rfl _ (tp_string Tryd.underlying9)
  obtain ⟨l2, e2, _⟩ := hf 2 _ rfl _ (tp_string Tryd.underlying9)
  obtain ⟨n3, e3, _⟩ := hf 3 _ rfl _ (tp_int Tryd.underlying3)
  obtain ⟨n4, e4, _⟩ := hf 4 _ rfl _ (tp_int Tryd.underlying3)
  obtain ⟨v, l5, e5, h5, hr⟩ := hf 5 _ rfl _ (tp_bytes Tryd.underlying26 Tryd.underlying5 (by kernel_rfl))
  have e0 := one_at ((cut ci).symm.trans e0)
  have e1 := one_at ((cut cstr).symm.trans e1)
  have e2 := one_at ((cut cstr).symm.trans e2)
  have e3 := one_at ((cut ci).symm.trans e3)
  have e4 := one_at ((cut ci).symm.trans e4)
  have e5 := one_at ((cut cbytes).symm.trans e5)
  clear hf h
  refine ⟨⟨n0, l1, l2, n3, n4, l5⟩, v, ?_, hr, h5⟩
  refine list_eq hl fun i hi => ?_
  have hi : i < 6 := hi
  match i, hi with
  | 0, _ => exact e0
  | 1, _ => exact e1
  | 2, _ => exact e2
  | 3, _ => exact e3
  | 4, _ => exact e4
  | 5, _ => exact e5
theorem tp_ans : TP Tryd.prog 34 fun W cs => ∃ (a : AnsR) (v u : Value), cs = a.cells v u ∧ AnsV (wv W) a v u ∧ a.data.length ≤ maxLen ∧ a.names.length ≤ maxLen := fun H enc W fuel cs x h => by
  obtain ⟨hl, hf⟩ := tp_struct (t := 34) Tryd.underlying34 H enc W fuel cs x h
  have hl : cs.length = 4 := hl.trans (by kernel_rfl)
  obtain ⟨n0, e0, _⟩ := hf 0 _ rfl _ (tp_int Tryd.underlying31)
  obtain ⟨n1, e1, _⟩ := hf 1 _ rfl _ (tp_int Tryd.underlying3)
  obtain ⟨v, l2, e2, h2, hr⟩ := hf 2 _ rfl _ (tp_bytes Tryd.underlying26 Tryd.underlying5 (by kernel_rfl))
  obtain ⟨u, l3, e3, h3, hs, _⟩ := hf 3 _ rfl _ (tp_strs Tryd.underlying32 Tryd.underlying9 (by kernel_rfl))
  have e0 := one_at ((cut (show Tryd.prog.cellsOf 31 = 1 by kernel_rfl)).symm.trans e0)
  have e1 := one_at ((cut ci).symm.trans e1)
  have e2 := one_at ((cut cbytes).symm.trans e2)
  have e3 := one_at ((cut cstrs).symm.trans e3)
  clear hf h
  refine ⟨⟨n0, n1, l2, l3⟩, v, u, ?_, ⟨hr, hs⟩, h2, h3⟩
  refine list_eq hl fun i hi => ?_
  have hi : i < 4 := hi
  match i, hi with
  | 0, _ => exact e0
  | 1, _ => exact e1
  | 2, _ => exact e2
  | 3, _ => exact e3
end Go.Proofs.YtdjgdcafmfheoaaDoor
set_option linter.unusedVariables false
set_option linter.unusedSimpArgs false
namespace Go.Vc
open Go Go.ChangeShapes Go.WideShapes Go.ChangeAt Go.RowKit
section
variable {P : Program}
theorem tp_list {α : Type} {Q : View → α → List Value → Prop} {t e : TypeId} {z : Nat} (ht : P.underlying t = some (.slice e)) (hz : P.cellsOf e = z) (hz0 : 0 < z) (he : TP P e fun W cs => ∃ a, Q (wv W) a cs) :
    TP P t fun W cs => ∃ v l, cs = [v] ∧ LsV Q z (wv W) v l ∧ l.length ≤ maxLen := fun H enc W fuel cs x h => by
  obtain ⟨v, n, xs, e, hn, hr, hq⟩ := tp_slice ht hz hz0 he H enc W fuel cs x h
  obtain ⟨l, hl, hp⟩ := list_of (P := fun a cs => Q (wv W) a cs) hq
  exact ⟨v, l, e, ⟨xs, by rw [hl]; exact hr, hp⟩, by omega⟩
theorem tp_bls {t e b : TypeId} (ht : P.underlying t = some (.slice e)) (he : P.underlying e = some (.slice b)) (hb : P.underlying b = some (.int .u8)) (hz : P.cellsOf e = 1) (hz' : P.cellsOf b = 1) :
    TP P t fun W cs => ∃ v l, cs = [v] ∧ BlsV (wv W) v l ∧ l.length ≤ maxLen :=
  tp_list (Q := BytesP) ht hz (by omega) fun H enc W fuel cs x h => by
    obtain ⟨v, l, e, _, hr⟩ := tp_bytes he hb hz' H enc W fuel cs x h
    exact ⟨l, v, e, hr⟩
theorem tp_pairs {t s e b : TypeId} {fs : Array Field} (ht : P.underlying t = some (.slice s)) (hs : P.underlying s = some (.struct fs)) (hc : P.cellsOf s = 2) (hf0 : (fs[0]?.map fun f => (f.offset, f.type)) = some (0, e)) (hf1 : (fs[1]?.map fun f => (f.offset, f.type)) = some (1, e))
    (he : P.underlying e = some (.slice b)) (hb : P.underlying b = some (.int .u8)) (hz : P.cellsOf e = 1) (hz' : P.cellsOf b = 1) :
    TP P t fun W cs => ∃ v l, cs = [v] ∧ PairsV (wv W) v l ∧ l.length ≤ maxLen :=
  tp_list (Q := PairP) ht hc (by omega) fun H enc W fuel cs x h => by
    obtain ⟨hl, hf⟩ := tp_struct hs H enc W fuel cs x h
    have hl : cs.length = 2 := hl.trans hc
    cases h0 : fs[0]? with
    | none => rw [h0] at hf0; simp at hf0
    | some f0 =>
      cases h1 : fs[1]? with
      | none => rw [h1] at hf1; simp at hf1
      | some f1 =>
        rw [h0] at hf0
        rw [h1] at hf1
        simp only [Option.map_some, Option.some.injEq, Prod.mk.injEq] at hf0 hf1
        have g0 := hf 0 f0 h0
        have g1 := hf 1 f1 h1
        rw [hf0.1, hf0.2, hz] at g0
        rw [hf1.1, hf1.2, hz] at g1
        obtain ⟨v, l, e0, _, hr⟩ := g0 _ (tp_bytes he hb hz')
        obtain ⟨u, m, e1, _, hq⟩ := g1 _ (tp_bytes he hb hz')
        have e0 := one_at e0
        have e1 := one_at e1
        refine ⟨(l, m), v, u, list_eq hl fun i hi => ?_, hr, hq⟩
        have hi : i < 2 := hi
        match i, hi with
        | 0, _ => exact e0
        | 1, _ => exact e1
theorem tp_array {t e : TypeId} {n : Nat} {Q : World → List Value → Prop} (ht : P.underlying t = some (.array n e)) (he : TP P e Q) :
    TP P t fun W cs => cs.length = P.cellsOf t ∧ ∀ i, i < n → Q W ((cs.drop (i * P.cellsOf e)).take (P.cellsOf e)) := fun H enc W fuel cs x h => by
  obtain ⟨xs, m, _, _, hl, hx, hr⟩ := DataW.trod_array ht h
  refine ⟨hl, fun i hi => ?_⟩
  have := hr i hi
  rw [List.getElem?_eq_getElem (by omega)] at this
  exact he H enc W m _ _ this
theorem tp_hash {t e : TypeId} {n : Nat} (ht : P.underlying t = some (.array n e)) (he : P.underlying e = some (.int .u8)) (hz : P.cellsOf e = 1) (hn : P.cellsOf t = n) :
    TP P t fun W cs => ∃ l : List UInt8, cs = bvs l ∧ l.length = n := fun H enc W fuel cs x h => by
  obtain ⟨hl, hq⟩ := tp_array ht (tp_int he) H enc W fuel cs x h
  rw [hz] at hq
  exact bytes_of (hl.trans hn) hq
end
end Go.Vc
set_option linter.unusedVariables false
set_option linter.unusedSimpArgs false
namespace Go.Vc
open Go Go.ChangeShapes Go.WideShapes Go.ChangeAt Go.RowKit
def u32Data {H : Type} (l : List Int) : DataW H := .agg (l.map fun x => .lit (.int .u32 x))
theorem words_of_trod {P : Program} {w : World} {base n : Nat} {sp : Nat → Bool} {held : Bool} {fuel : Nat} {t e : TypeId} {cs : List Value} {l : List Int} {ps : List MemPlace} (ht : P.underlying t = some (.array n e)) (he : P.underlying e = some (.int .u32))
    (hc : P.cellsOf e = 1) (hn : l.length = n) (hct : P.cellsOf t = n) (h : DataW.trod (fun _ => ()) P w base sp held fuel t cs = some (u32Data l, ps)) : cs = uvs l := by
  obtain ⟨xs, m, _, hx, hl, hxl, hr⟩ := DataW.trod_array ht h
  rw [hc] at hr
  simp only [u32Data, Prod.mk.injEq, DataW.agg.injEq] at hx
  obtain ⟨hx, _⟩ := hx
  apply List.ext_getElem?
  intro i
  rw [uvs_get]
  rcases Nat.lt_or_ge i n with hi | hi
  · have h1 := hr i hi
    rw [List.getElem?_eq_getElem (by omega)] at h1
    obtain ⟨x, e1, e2, _⟩ := DataW.trod_int he h1
    have h2 := congrArg (fun l : List (DataW Unit) => l[i]?) hx
    simp only [List.getElem?_map] at h2
    rw [List.getElem?_eq_getElem (show i < xs.length by omega), e2] at h2
    have h3 := congrArg (fun l : List Value => l[0]?) e1
    simp only [List.getElem?_take, List.getElem?_drop] at h3
    simp at h3
    rw [h3]
    cases hli : l[i]? with
    | none => rw [hli] at h2; simp at h2
    | some y => rw [hli] at h2; simp at h2; simp [h2, uv]
  · rw [List.getElem?_eq_none (by omega), List.getElem?_eq_none (by omega)]; rfl
theorem heap_of_var {P : Program} {w : World} {n : String} {g : Nat} {cs : Array Value} (hg : P.globalNamed n = some g) (h : w.var? P n = some cs) : ∃ T fz, w.heap[g]? = some (.cells cs T fz) := by
  unfold World.var? at h
  rw [hg] at h
  simp only [Option.bind_some] at h
  split at h
  · rename_i c T fz hh
    cases h
    exact ⟨T, fz, hh⟩
  · cases h
theorem no_standins {P : Program} {ts : Array TypeId} (h : ts.all (fun t => !P.wantsStandIn t) = true) : ∀ (j : Nat) t, ts[j]? = some t → P.wantsStandIn t = false := fun j t ht => by
  have := Array.all_eq_true_iff_forall_mem.1 h t (Array.mem_of_getElem? ht)
  simpa using this
end Go.Vc
namespace Go.Proofs.YtdjgdcafmfheoaaDoor
open Go.Vc Go.ChangeShapes Go.WideShapes Go.ChangeAt Go.RowKit
abbrev laidS : List (String × DataW Unit) := [("trireme/sha.rounds", Rows.laid_trireme_sha_rounds), ("trireme/sha.start", Rows.laid_trireme_sha_start)]
theorem glob_of_laid {W : World} (h : laidMetH Tryd.prog laidS W) : GlobS (wv W) := by
  rw [Go.MakeChecks.laidMetH_plain _ _ _ (by kernel_rfl)] at h
  obtain ⟨ps, ⟨g, t, cs, fuel, p, q, hg, ht, hv, hd, ⟨g2, t2, cs2, fuel2, p2, q2, hg2, ht2, hv2, hd2, _⟩, _⟩, _⟩ := h
  obtain rfl := Option.some.inj ((show Tryd.prog.globalNamed "trireme/sha.rounds" = some 1 by kernel_rfl).symm.trans hg)
  obtain rfl := Option.some.inj ((show (Tryd.prog.globals[1]?).map (·.type) = some 158 by kernel_rfl).symm.trans ht)
  obtain rfl := Option.some.inj ((show Tryd.prog.globalNamed "trireme/sha.start" = some 0 by kernel_rfl).symm.trans hg2)
  obtain rfl := Option.some.inj ((show (Tryd.prog.globals[0]?).map (·.type) = some 160 by kernel_rfl).symm.trans ht2)
  have e1 := words_of_trod (n := 64) (l := K32) Tryd.underlying158 Tryd.underlying157 (by kernel_rfl) rfl (by kernel_rfl) hd
  have e2 := words_of_trod (n := 8) (l := H32) Tryd.underlying160 Tryd.underlying157 (by kernel_rfl) rfl (by kernel_rfl) hd2
  obtain ⟨T, fz, h1⟩ := heap_of_var hg hv
  obtain ⟨T2, fz2, h2⟩ := heap_of_var hg2 hv2
  refine ⟨⟨T, fz, ?_⟩, T2, fz2, ?_⟩
  · rw [← e1]; simpa [wv] using h1
  · rw [← e2]; simpa [wv] using h2
/-- a world that meets the condition -/
noncomputable def laidWorld (os : Os) : World :=
  let w0 := World.holding Tryd.prog os ⟨#[], #[], []⟩
  { w0 with heap := (w0.heap.modify 1 fun
      | .cells _ t frozen => .cells (uvs K32).toArray t frozen
      | o => o).modify 0 fun
      | .cells _ t frozen => .cells (uvs H32).toArray t frozen
      | o => o }
theorem laidWorld_met (os : Os) (args : Array Value) : laidMetH Tryd.prog laidS ((laidWorld os).forCall (fun _ _ => 0) ⟨#[], args, []⟩).memory := by
  rw [Go.MakeChecks.laidMetH_plain _ _ _ (by kernel_rfl)]
  exact laidMet_of_run' 8 (by kernel_rfl) (by kernel_rfl)
end Go.Proofs.YtdjgdcafmfheoaaDoor
set_option linter.unusedVariables false
set_option linter.unusedSimpArgs false
namespace Go.Proofs.YtdjgdcafmfheoaaDoor
open Go.Vc Go.ChangeShapes Go.WideShapes Go.ChangeAt Go.RowKit
attribute [local irreducible] TInt TBool TStr TPtr TSl TAgg TMap TChan T2 T3 T4 BS Req TSome TCell TByte LoadC LoadA StoreC AllocC RunV RunU CallV ExtV EqA StableC StableA StableV TCells ReadV
attribute [local irreducible] eU eT eE
attribute [local irreducible] DrewC eH many rdM wrM eHb rdOp rdAns
/-- a message in 53 cells -/
def MsgP (h : View) (m : MsgR) (es : List Value) : Prop := ∃ v va ua vh vb, es = m.cells v va ua vh vb ∧ MsgV h m v va ua vh vb ∧ m.ok
theorem MsgP.mono {h h' : View} {m : MsgR} {es : List Value} (H : MsgP h m es) (hs : Sub h h') : MsgP h' m es := by
  obtain ⟨v, va, ua, vh, vb, e, M, ok⟩ := H; exact ⟨v, va, ua, vh, vb, e, M.mono hs, ok⟩
theorem msg_one {h : View} {m : MsgR} {v va ua vh vb : Value} (M : MsgV h m v va ua vh vb) : ∀ u ∈ m.cells v va ua vh vb, u.oneCell' = true := by
  intro u hu
  rw [mcl_msg] at hu
  obtain ⟨_, _, rfl⟩ := LsV.form M.hs
  obtain ⟨_, _, rfl⟩ := LsV.form M.bs
  exact mcl_one (op_one M.op).2 (ans_one M.ans.d M.ans.n).2 rfl rfl u hu
theorem RunU.msg {c : Nat → Nat} {i : Nat} {w : World} {b : Nat} {old : Array Value} {h : View} {m : MsgR} {v va ua vh vb : Value} {C : World → Prop} (hb : view c i w b = some (.cells old 38 (0, 0))) (ho : old.size = 53) (M : MsgV h m v va ua vh vb) (hok : m.ok)
    (h : ∀ w', Wr c i w c w' (some b) → view c i w' b = some (.cells (m.cells v va ua vh vb).toArray 38 (0, 0)) → C w') : RunU Tryd.prog (storeVar 38 ⟨b, 0, none⟩ (.agg (m.cells v va ua vh vb).toArray)) w C := by
  have hs : (m.cells v va ua vh vb).toArray.size = 53 := by rw [List.size_toArray, msg_get hok.2.2.2.2.2.1]
  refine RunU.var hb (by rw [hs]; kernel_rfl) (by rw [ho, hs]) ?_ h
  rw [Array.all_eq_true']
  intro u hu
  exact msg_one M u (by simpa using hu)
theorem msg_sz {m : MsgR} {v va ua vh vb : Value} (hok : m.ok) : (m.cells v va ua vh vb).toArray.size = 53 := by rw [List.size_toArray, msg_get hok.2.2.2.2.2.1]
theorem cu64 : Tryd.prog.cellsOf 23 = 1 := by kernel_rfl
theorem rg_u64 {k : Int} (h : IntKind.u64.min ≤ k ∧ k ≤ IntKind.u64.max) : 0 ≤ k ∧ k < 18446744073709551616 := by
  have h1 : (0 : Int) ≤ k := h.1
  have h2 : k ≤ 18446744073709551615 := h.2
  omega
theorem two_of {cs : List Value} (h : 2 ≤ cs.length) : ∃ a b r, cs = a :: b :: r := by
  match cs, h with
  | a :: b :: r, _ => exact ⟨a, b, r, rfl⟩
theorem tp_call : TP Tryd.prog 30 fun W cs => ∃ (cl : Int) (n : Nat) (o : OpR) (v : Value), cs = [.int .i64 cl, u64v n] ++ o.cells v ∧ n < 18446744073709551616 ∧ OpRV (wv W) o v := fun H enc W fuel cs x h => by
  obtain ⟨hl, hf⟩ := tp_struct (t := 30) Tryd.underlying30 H enc W fuel cs x h
  have hl : cs.length = 8 := hl.trans (by kernel_rfl)
  obtain ⟨n0, e0, _⟩ := hf 0 _ rfl _ (tp_int Tryd.underlying3)
  obtain ⟨n1, e1, g1⟩ := hf 1 _ rfl _ (tp_int Tryd.underlying23)
  obtain ⟨o, v, e2, hv, _⟩ := hf 2 _ rfl _ tp_opr
  have e0 := one_at ((cut ci).symm.trans e0)
  have e1 := one_at ((cut cu64).symm.trans e1)
  have e2 : (cs.drop 2).take 6 = o.cells v := (cut (show Tryd.prog.cellsOf 28 = 6 by kernel_rfl)).symm.trans e2
  have g1 := rg_u64 g1
  clear hf h
  refine ⟨n0, n1.toNat, o, v, ?_, by omega, hv⟩
  rw [List.take_of_length_le (by rw [List.length_drop]; omega)] at e2
  have e1 : cs[1]? = some (.int .u64 n1) := e1
  have e0 : cs[0]? = some (.int .i64 n0) := e0
  obtain ⟨a, b, r, rfl⟩ := two_of (cs := cs) (by omega)
  have e0 : a = .int .i64 n0 := by simpa using e0
  have e1 : b = .int .u64 n1 := by simpa using e1
  have e2 : r = o.cells v := by simpa using e2
  have : u64v n1.toNat = .int .u64 n1 := by unfold u64v; rw [Int.toNat_of_nonneg g1.1]
  rw [this, ← e2, e0, e1]; rfl
theorem tp_msg : TP Tryd.prog 38 fun W cs => ∃ m, MsgP (wv W) m cs := fun H enc W fuel cs x h => by
  obtain ⟨hl, hf⟩ := tp_struct (t := 38) Tryd.underlying38 H enc W fuel cs x h
  have hl : cs.length = 53 := hl.trans (by kernel_rfl)
  obtain ⟨n0, e0, _⟩ := hf 0 _ rfl _ (tp_int Tryd.underlying3)
  obtain ⟨n1, e1, _⟩ := hf 1 _ rfl _ (tp_int Tryd.underlying3)
  obtain ⟨n2, e2, _⟩ := hf 2 _ rfl _ (tp_int Tryd.underlying3)
  obtain ⟨n3, e3, g3⟩ := hf 3 _ rfl _ (tp_int Tryd.underlying23)
  obtain ⟨n4, e4, g4⟩ := hf 4 _ rfl _ (tp_int Tryd.underlying23)
  obtain ⟨n5, e5, g5⟩ := hf 5 _ rfl _ (tp_int Tryd.underlying23)
  obtain ⟨n6, e6, g6⟩ := hf 6 _ rfl _ (tp_int Tryd.underlying23)
  obtain ⟨hd, e7, g7⟩ := hf 7 _ rfl _ (tp_hash (n := 32) Tryd.underlying25 Tryd.underlying5 (by kernel_rfl) (by kernel_rfl))
  obtain ⟨cl, nu, o, v, e8, g8, hv⟩ := hf 8 _ rfl _ tp_call
  obtain ⟨an, va, ua, e9, ha, _⟩ := hf 9 _ rfl _ tp_ans
  obtain ⟨vh, hs, e10, hh, _⟩ := hf 10 _ rfl _ (tp_list (Q := HashP) (z := 32) Tryd.underlying35 (by kernel_rfl) (by omega) (fun H enc W fuel cs x h => by
    obtain ⟨g, e, hg⟩ := tp_hash (n := 32) Tryd.underlying25 Tryd.underlying5 (by kernel_rfl) (by kernel_rfl) H enc W fuel cs x h
    exact ⟨g, e, hg⟩))
  obtain ⟨vb, bs, e11, hb, _⟩ := hf 11 _ rfl _ (tp_bls Tryd.underlying36 Tryd.underlying26 Tryd.underlying5 (by kernel_rfl) (by kernel_rfl))
  have e0 := one_at ((cut ci).symm.trans e0)
  have e1 := one_at ((cut ci).symm.trans e1)
  have e2 := one_at ((cut ci).symm.trans e2)
  have e3 := one_at ((cut cu64).symm.trans e3)
  have e4 := one_at ((cut cu64).symm.trans e4)
  have e5 := one_at ((cut cu64).symm.trans e5)
  have e6 := one_at ((cut cu64).symm.trans e6)
  have e7 : (cs.drop 7).take 32 = bvs hd := (cut (show Tryd.prog.cellsOf 25 = 32 by kernel_rfl)).symm.trans e7
  have e8 : (cs.drop 39).take 8 = [.int .i64 cl, u64v nu] ++ o.cells v := (cut (show Tryd.prog.cellsOf 30 = 8 by kernel_rfl)).symm.trans e8
  have e9 : (cs.drop 47).take 4 = an.cells va ua := (cut (show Tryd.prog.cellsOf 34 = 4 by kernel_rfl)).symm.trans e9
  have e10 := one_at ((cut (show Tryd.prog.cellsOf 35 = 1 by kernel_rfl)).symm.trans e10)
  have e11 := one_at ((cut (show Tryd.prog.cellsOf 36 = 1 by kernel_rfl)).symm.trans e11)
  have g3 := rg_u64 g3
  have g4 := rg_u64 g4
  have g5 := rg_u64 g5
  have g6 := rg_u64 g6
  clear hf h
  have hok : MsgR.ok ⟨n0, n1, n2, n3.toNat, n4.toNat, n5.toNat, n6.toNat, hd, cl, nu, o, an, hs, bs⟩ := by
    refine ⟨by show n3.toNat < _; omega, by show n4.toNat < _; omega, by show n5.toNat < _; omega, by show n6.toNat < _; omega, g8, g7, fun g hg => ?_⟩
    obtain ⟨i, hi⟩ := List.getElem?_of_mem hg
    obtain ⟨xs, _, hx⟩ := hh
    exact (hx i g hi).2
  refine ⟨⟨n0, n1, n2, n3.toNat, n4.toNat, n5.toNat, n6.toNat, hd, cl, nu, o, an, hs, bs⟩, v, va, ua, vh, vb, ?_, ⟨hv, ha, hh, hb⟩, hok⟩
  have G := msg_gets (m := ⟨n0, n1, n2, n3.toNat, n4.toNat, n5.toNat, n6.toNat, hd, cl, nu, o, an, hs, bs⟩) (v := v) (va := va) (ua := ua) (vh := vh) (vb := vb) g7
  have uv : ∀ {k : Int}, 0 ≤ k → u64v k.toNat = .int .u64 k := fun h => by unfold u64v; rw [Int.toNat_of_nonneg h]
  refine list_eq (hl.trans (by have := G.sz; rw [List.size_toArray] at this; exact this.symm)) fun i hi => ?_
  have hi : i < 53 := by have := G.sz; rw [List.size_toArray] at this; omega
  rw [← List.getElem?_toArray (xs := MsgR.cells _ v va ua vh vb)]
  have cut' : ∀ {k n : Nat} {es : List Value}, (cs.drop k).take n = es → ∀ j, j < n → cs[k + j]? = es[j]? := fun he j hj => by
    rw [← he, List.getElem?_take, if_pos hj, List.getElem?_drop]
  rcases Nat.lt_or_ge i 7 with h7 | h7
  · match i, h7 with
    | 0, _ => exact e0
    | 1, _ => exact e1
    | 2, _ => exact e2
    | 3, _ => rw [show (3 : Nat) = 3 from rfl]; refine Eq.trans e3 ?_; rw [← uv g3.1]; rfl
    | 4, _ => refine Eq.trans e4 ?_; rw [← uv g4.1]; rfl
    | 5, _ => refine Eq.trans e5 ?_; rw [← uv g5.1]; rfl
    | 6, _ => refine Eq.trans e6 ?_; rw [← uv g6.1]; rfl
  · rcases Nat.lt_or_ge i 39 with h39 | h39
    · obtain ⟨j, rfl⟩ : ∃ j, i = 7 + j := ⟨i - 7, by omega⟩
      obtain ⟨u, hu⟩ := get_of_lt (l := bvs hd) (i := j) (by rw [bvs_length, g7]; omega)
      rw [cut' e7 j (by omega), hu, G.p7 j u hu]
    · rcases Nat.lt_or_ge i 47 with h47 | h47
      · obtain ⟨j, rfl⟩ : ∃ j, i = 39 + j := ⟨i - 39, by omega⟩
        rw [cut' e8 j (by omega)]
        rcases Nat.lt_or_ge j 2 with h2 | h2
        · match j, h2 with
          | 0, _ => exact G.g39.symm
          | 1, _ => exact G.g40.symm
        · obtain ⟨k, rfl⟩ : ∃ k, j = 2 + k := ⟨j - 2, by omega⟩
          obtain ⟨u, hu⟩ := get_of_lt (l := o.cells v) (i := k) (show k < 6 by omega)
          rw [List.getElem?_append_right (by simp), show 2 + k - ([.int .i64 cl, u64v nu] : List Value).length = k by simp, hu]
          rw [show 39 + (2 + k) = 41 + k from by omega]
          exact (G.p41 k u hu).symm
      · rcases Nat.lt_or_ge i 51 with h51 | h51
        · obtain ⟨j, rfl⟩ : ∃ j, i = 47 + j := ⟨i - 47, by omega⟩
          obtain ⟨u, hu⟩ := get_of_lt (l := an.cells va ua) (i := j) (show j < 4 by omega)
          rw [cut' e9 j (by omega), hu, G.p47 j u hu]
        · rcases Nat.lt_or_ge i 52 with h52 | h52
          · obtain rfl : i = 51 := by omega
            exact e10.trans G.g51.symm
          · obtain rfl : i = 52 := by omega
            exact e11.trans G.g52.symm
end Go.Proofs.YtdjgdcafmfheoaaDoor

/-
  How lists of bytes and lists of pairs are read as arguments.
-/
import Derived.Test.YtfploingelmpkaaArgs2
import Derived.Test.YtfploingelmpkaaLists
set_option linter.unusedVariables false
set_option linter.unusedSimpArgs false
namespace Go.Vc
open Go Go.ChangeShapes Go.WideShapes Go.ChangeAt Go.RowKit
section
variable {P : Program}
theorem tp_list {α : Type} {Q : View → α → List Value → Prop} {t e : TypeId} {z : Nat} (ht : P.underlying t = some (.slice e)) (hz : P.cellsOf e = z) (hz0 : 0 < z) (he : TP P e fun W cs => ∃ a, Q (wv W) a cs) :
    TP P t fun W cs => ∃ v l, cs = [v] ∧ LsV Q z (wv W) v l ∧ l.length ≤ maxLen := fun H enc W fuel cs x h => by
  obtain ⟨v, n, xs, e, hn, hr, hq⟩ := tp_slice ht hz hz0 he H enc W fuel cs x h
  obtain ⟨l, hl, hp⟩ := list_of (P := fun a cs => Q (wv W) a cs) hq
  exact ⟨v, l, e, ⟨xs, by rw [hl]; exact hr, hp⟩, by omega⟩
theorem tp_bls {t e b : TypeId} (ht : P.underlying t = some (.slice e)) (he : P.underlying e = some (.slice b)) (hb : P.underlying b = some (.int .u8)) (hz : P.cellsOf e = 1) (hz' : P.cellsOf b = 1) :
    TP P t fun W cs => ∃ v l, cs = [v] ∧ BlsV (wv W) v l ∧ l.length ≤ maxLen :=
  tp_list (Q := BytesP) ht hz (by omega) fun H enc W fuel cs x h => by
    obtain ⟨v, l, e, _, hr⟩ := tp_bytes he hb hz' H enc W fuel cs x h
    exact ⟨l, v, e, hr⟩
theorem tp_pairs {t s e b : TypeId} {fs : Array Field} (ht : P.underlying t = some (.slice s)) (hs : P.underlying s = some (.struct fs)) (hc : P.cellsOf s = 2) (hf0 : (fs[0]?.map fun f => (f.offset, f.type)) = some (0, e)) (hf1 : (fs[1]?.map fun f => (f.offset, f.type)) = some (1, e))
    (he : P.underlying e = some (.slice b)) (hb : P.underlying b = some (.int .u8)) (hz : P.cellsOf e = 1) (hz' : P.cellsOf b = 1) :
    TP P t fun W cs => ∃ v l, cs = [v] ∧ PairsV (wv W) v l ∧ l.length ≤ maxLen :=
  tp_list (Q := PairP) ht hc (by omega) fun H enc W fuel cs x h => by
    obtain ⟨hl, hf⟩ := tp_struct hs H enc W fuel cs x h
    have hl : cs.length = 2 := hl.trans hc
    cases h0 : fs[0]? with
    | none => rw [h0] at hf0; simp at hf0
    | some f0 =>
      cases h1 : fs[1]? with
      | none => rw [h1] at hf1; simp at hf1
      | some f1 =>
        rw [h0] at hf0
        rw [h1] at hf1
        simp only [Option.map_some, Option.some.injEq, Prod.mk.injEq] at hf0 hf1
        have g0 := hf 0 f0 h0
        have g1 := hf 1 f1 h1
        rw [hf0.1, hf0.2, hz] at g0
        rw [hf1.1, hf1.2, hz] at g1
        obtain ⟨v, l, e0, _, hr⟩ := g0 _ (tp_bytes he hb hz')
        obtain ⟨u, m, e1, _, hq⟩ := g1 _ (tp_bytes he hb hz')
        have e0 := one_at e0
        have e1 := one_at e1
        refine ⟨(l, m), v, u, list_eq hl fun i hi => ?_, hr, hq⟩
        have hi : i < 2 := hi
        match i, hi with
        | 0, _ => exact e0
        | 1, _ => exact e1
theorem tp_array {t e : TypeId} {n : Nat} {Q : World → List Value → Prop} (ht : P.underlying t = some (.array n e)) (he : TP P e Q) :
    TP P t fun W cs => cs.length = P.cellsOf t ∧ ∀ i, i < n → Q W ((cs.drop (i * P.cellsOf e)).take (P.cellsOf e)) := fun H enc W fuel cs x h => by
  obtain ⟨xs, m, _, _, hl, hx, hr⟩ := DataW.trod_array ht h
  refine ⟨hl, fun i hi => ?_⟩
  have := hr i hi
  rw [List.getElem?_eq_getElem (by omega)] at this
  exact he H enc W m _ _ this
theorem tp_hash {t e : TypeId} {n : Nat} (ht : P.underlying t = some (.array n e)) (he : P.underlying e = some (.int .u8)) (hz : P.cellsOf e = 1) (hn : P.cellsOf t = n) :
    TP P t fun W cs => ∃ l : List UInt8, cs = bvs l ∧ l.length = n := fun H enc W fuel cs x h => by
  obtain ⟨hl, hq⟩ := tp_array ht (tp_int he) H enc W fuel cs x h
  rw [hz] at hq
  exact bytes_of (hl.trans hn) hq
end
end Go.Vc

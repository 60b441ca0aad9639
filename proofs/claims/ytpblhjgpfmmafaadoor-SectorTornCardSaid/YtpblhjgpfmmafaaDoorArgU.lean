/-
  How what a node knows of itself is read as an argument; how long a slice may be.
-/
import Derived.Test.YtpblhjgpfmmafaaDoorSec3
import Derived.Test.YtpblhjgpfmmafaaDoorArgsL
import Derived.Test.YtpblhjgpfmmafaaDoorArgS
import Derived.SizedLaws
set_option linter.unusedVariables false
set_option linter.unusedSimpArgs false
namespace Go.Vc
open Go Go.ChangeShapes Go.WideShapes Go.ChangeAt Go.RowKit
theorem len_reach {H : Type} {enc : TypeId × Value → H} {P : Program} {W : World} {t e : TypeId} {v : Value} {z n : Nat} {xs : List Value} {d : DataW H} {ps : List MemPlace} {ts : List TypeId} {ds : List (DataW H)} (j : Nat) (h : DataW.Trod enc P W 0 (fun _ => true) true t v d ps)
    (hu : P.underlying t = some (.slice e)) (hb : P.bytesOf e = 1) (hr : RdS (wv W) v z n xs) (hz : (DataW.weightsEach P ts ds).all (· ≤ reachBytes) = true) (ht : ts[j]? = some t) (hd : ds[j]? = some d) : n ≤ 140737488355328 := by
  obtain ⟨o, c, rfl⟩ := hr.form
  obtain ⟨fuel, hf⟩ := h
  have h47 := reachBytes_lt
  rcases DataW.trod_slice hu hf with ⟨e1, _⟩ | ⟨a, len, cap, elems, rest, m, _, e1, e2, _, _, _, hel, _⟩
  · have e1 : [Value.slice o n c] = [.slice none 0 0] := e1
    simp at e1
    omega
  · have e1 : [Value.slice o n c] = [.slice (some a) len cap] := e1
    simp at e1
    simp only [Prod.mk.injEq] at e2
    obtain ⟨rfl, _⟩ := e2
    have := sized_slice hz ht hd hu
    rw [hb, List.length_map, hel] at this
    omega
theorem arg_array {P : Program} {t e : TypeId} {n : Nat} {w : World} {r : _root_.Go.Reach} {b : Nat} {v : Value} {l : List Value} (ht : P.underlying t = some (.array n e)) (hv : Value.okWide P w r b t v) (hc : v.cells.toList = l) : v = .agg l.toArray := by
  unfold Value.okWide at hv
  rw [ht] at hv
  obtain ⟨cs, rfl, _⟩ := hv
  simp only [Value.cells] at hc
  rw [← hc]
theorem nums_of {cs : List Value} {n : Nat} (hl : cs.length = n) (h : ∀ i, i < n → ∃ k : Int, cs[i]? = some (.int .u64 k) ∧ 0 ≤ k ∧ k < 18446744073709551616) : ∃ ns : List Nat, cs = nvs ns ∧ ns.length = n ∧ ∀ x ∈ ns, x < 18446744073709551616 := by
  induction n generalizing cs with
  | zero => exact ⟨[], List.eq_nil_of_length_eq_zero hl, rfl, by simp⟩
  | succ n ih =>
    match cs, hl with
    | x :: cs, hl =>
      obtain ⟨k, e, h0, h1⟩ := h 0 (by omega)
      obtain ⟨ns, rfl, hn, hx⟩ := ih (cs := cs) (by simpa using hl) (fun i hi => by simpa using h (i + 1) (by omega))
      have e : x = .int .u64 k := by simpa using e
      refine ⟨k.toNat :: ns, ?_, by simp [hn], ?_⟩
      · rw [e]; simp [nvs, nv]; omega
      · intro y hy
        rcases List.mem_cons.1 hy with rfl | hy
        · omega
        · exact hx y hy
end Go.Vc
namespace Go.Proofs.YtpblhjgpfmmafaaDoor
open Go.Vc Go.ChangeShapes Go.WideShapes Go.ChangeAt Go.RowKit
attribute [local irreducible] TInt TBool TStr TPtr TSl TAgg TMap TChan T2 T3 T4 BS Req TSome TCell TByte LoadC LoadA StoreC AllocC RunV RunU CallV ExtV EqA StableC StableA StableV TCells ReadV
theorem tp_super : TP Tryd.prog 42 fun W cs => ∃ s : SupR, cs = s.cells ∧ s.ok := fun H enc W fuel cs x h => by
  obtain ⟨hl, hf⟩ := tp_struct (t := 42) Tryd.underlying42 H enc W fuel cs x h
  have hl : cs.length = 37 := hl.trans (by kernel_rfl)
  have c1 : Tryd.prog.cellsOf 40 = 1 := by kernel_rfl
  obtain ⟨n0, e0, g0⟩ := hf 0 _ rfl _ (tp_int Tryd.underlying40)
  obtain ⟨n1, e1, g1⟩ := hf 1 _ rfl _ (tp_int Tryd.underlying40)
  obtain ⟨n2, e2, g2⟩ := hf 2 _ rfl _ (tp_int Tryd.underlying40)
  obtain ⟨n3, e3, g3⟩ := hf 3 _ rfl _ (tp_int Tryd.underlying40)
  obtain ⟨n4, e4, g4⟩ := hf 4 _ rfl _ (tp_int Tryd.underlying40)
  obtain ⟨g, e5, hg⟩ := hf 5 _ rfl _ (tp_hash (n := 32) Tryd.underlying25 Tryd.underlying5 (by kernel_rfl) (by kernel_rfl))
  have e0 := one_at ((cut c1).symm.trans e0)
  have e1 := one_at ((cut c1).symm.trans e1)
  have e2 := one_at ((cut c1).symm.trans e2)
  have e3 := one_at ((cut c1).symm.trans e3)
  have e4 := one_at ((cut c1).symm.trans e4)
  have e5 : (cs.drop 5).take 32 = bvs g := (cut (show Tryd.prog.cellsOf 25 = 32 by kernel_rfl)).symm.trans e5
  rw [List.take_of_length_le (by rw [List.length_drop]; omega)] at e5
  clear hf h
  have rg : ∀ {k : Int}, IntKind.u64.min ≤ k ∧ k ≤ IntKind.u64.max → 0 ≤ k ∧ k < 18446744073709551616 := fun {k} h => by
    have h1 : (0 : Int) ≤ k := h.1
    have h2 : k ≤ 18446744073709551615 := h.2
    omega
  obtain ⟨ns, hns, hn5, hlt⟩ := nums_of (cs := cs.take 5) (n := 5) (by rw [List.length_take]; omega) fun i hi => by
    match i, hi with
    | 0, _ => exact ⟨n0, by rw [List.getElem?_take, if_pos (by omega)]; exact e0, rg g0⟩
    | 1, _ => exact ⟨n1, by rw [List.getElem?_take, if_pos (by omega)]; exact e1, rg g1⟩
    | 2, _ => exact ⟨n2, by rw [List.getElem?_take, if_pos (by omega)]; exact e2, rg g2⟩
    | 3, _ => exact ⟨n3, by rw [List.getElem?_take, if_pos (by omega)]; exact e3, rg g3⟩
    | 4, _ => exact ⟨n4, by rw [List.getElem?_take, if_pos (by omega)]; exact e4, rg g4⟩
  exact ⟨⟨ns, g⟩, by unfold SupR.cells; rw [← hns, ← e5, List.take_append_drop], hn5, hlt, hg⟩
theorem tp_supers : TP Tryd.prog 51 fun W cs => ∃ s t : SupR, cs = s.cells ++ t.cells ∧ s.ok ∧ t.ok := fun H enc W fuel cs x h => by
  obtain ⟨hl, hq⟩ := tp_array (n := 2) Tryd.underlying51 tp_super H enc W fuel cs x h
  have hl : cs.length = 74 := hl.trans (by kernel_rfl)
  have hc : Tryd.prog.cellsOf 42 = 37 := by kernel_rfl
  rw [hc] at hq
  obtain ⟨s, es, hs⟩ := hq 0 (by decide)
  obtain ⟨t, et, ht⟩ := hq 1 (by decide)
  rw [Nat.zero_mul, List.drop_zero] at es
  rw [Nat.one_mul, List.take_of_length_le (by rw [List.length_drop]; omega)] at et
  exact ⟨s, t, by rw [← es, ← et, List.take_append_drop], hs, ht⟩
end Go.Proofs.YtpblhjgpfmmafaaDoor

/-
  How messages and scripts are read as arguments, over the seat of boxes.
-/
import Derived.Test.YtfploingelmpkaaWalkBx
import Derived.Test.YtfploingelmpkaaArgsL
set_option linter.unusedVariables false
set_option linter.unusedSimpArgs false
open Go.Vc Go.ChangeShapes Go.WideShapes Go.ChangeAt Go.RowKit
namespace Go.Proofs.Ytfploingelmpkaa
open Go.Vc
attribute [local irreducible] TInt TBool TStr TPtr TSl TAgg TMap TChan T2 T3 T4 BS Req TSome TCell TByte LoadC LoadA StoreC AllocC RunV RunU CallV ExtV EqA StableC StableA StableV TCells ReadV
attribute [local irreducible] DrewC
theorem ci : Try.prog.cellsOf 3 = 1 := by kernel_rfl
theorem cstr : Try.prog.cellsOf 9 = 1 := by kernel_rfl
theorem cbytes : Try.prog.cellsOf 25 = 1 := by kernel_rfl
theorem cstrs : Try.prog.cellsOf 31 = 1 := by kernel_rfl
theorem tp_opr : TP Try.prog 27 fun W cs => ∃ (o : OpR) (v : Value), cs = o.cells v ∧ OpRV (wv W) o v ∧ o.data.length ≤ maxLen := fun H enc W fuel cs x h => by
  obtain ⟨hl, hf⟩ := tp_struct (t := 27) Try.underlying27 H enc W fuel cs x h
  have hl : cs.length = 6 := hl.trans (by kernel_rfl)
  obtain ⟨n0, e0, _⟩ := hf 0 _ rfl _ (tp_int Try.underlying3)
  obtain ⟨l1, e1, _⟩ := hf 1 _ rfl _ (tp_string Try.underlying9)
  obtain ⟨l2, e2, _⟩ := hf 2 _ rfl _ (tp_string Try.underlying9)
  obtain ⟨n3, e3, _⟩ := hf 3 _ rfl _ (tp_int Try.underlying3)
  obtain ⟨n4, e4, _⟩ := hf 4 _ rfl _ (tp_int Try.underlying3)
  obtain ⟨v, l5, e5, h5, hr⟩ := hf 5 _ rfl _ (tp_bytes Try.underlying25 Try.underlying5 (by kernel_rfl))
  have e0 := one_at ((cut ci).symm.trans e0)
  have e1 := one_at ((cut cstr).symm.trans e1)
  have e2 := one_at ((cut cstr).symm.trans e2)
  have e3 := one_at ((cut ci).symm.trans e3)
  have e4 := one_at ((cut ci).symm.trans e4)
  have e5 := one_at ((cut cbytes).symm.trans e5)
  clear hf h
  refine ⟨⟨n0, l1, l2, n3, n4, l5⟩, v, ?_, hr, h5⟩
  refine list_eq hl fun i hi => ?_
  have hi : i < 6 := hi
  match i, hi with
  | 0, _ => exact e0
  | 1, _ => exact e1
  | 2, _ => exact e2
  | 3, _ => exact e3
  | 4, _ => exact e4
  | 5, _ => exact e5
theorem tp_ans : TP Try.prog 33 fun W cs => ∃ (a : AnsR) (v u : Value), cs = a.cells v u ∧ AnsV (wv W) a v u ∧ a.data.length ≤ maxLen ∧ a.names.length ≤ maxLen := fun H enc W fuel cs x h => by
  obtain ⟨hl, hf⟩ := tp_struct (t := 33) Try.underlying33 H enc W fuel cs x h
  have hl : cs.length = 4 := hl.trans (by kernel_rfl)
  obtain ⟨n0, e0, _⟩ := hf 0 _ rfl _ (tp_int Try.underlying30)
  obtain ⟨n1, e1, _⟩ := hf 1 _ rfl _ (tp_int Try.underlying3)
  obtain ⟨v, l2, e2, h2, hr⟩ := hf 2 _ rfl _ (tp_bytes Try.underlying25 Try.underlying5 (by kernel_rfl))
  obtain ⟨u, l3, e3, h3, hs, _⟩ := hf 3 _ rfl _ (tp_strs Try.underlying31 Try.underlying9 (by kernel_rfl))
  have e0 := one_at ((cut (show Try.prog.cellsOf 30 = 1 by kernel_rfl)).symm.trans e0)
  have e1 := one_at ((cut ci).symm.trans e1)
  have e2 := one_at ((cut cbytes).symm.trans e2)
  have e3 := one_at ((cut cstrs).symm.trans e3)
  clear hf h
  refine ⟨⟨n0, n1, l2, l3⟩, v, u, ?_, ⟨hr, hs⟩, h2, h3⟩
  refine list_eq hl fun i hi => ?_
  have hi : i < 4 := hi
  match i, hi with
  | 0, _ => exact e0
  | 1, _ => exact e1
  | 2, _ => exact e2
  | 3, _ => exact e3
theorem cu64 : Try.prog.cellsOf 22 = 1 := by kernel_rfl
theorem rg_u64 {k : Int} (h : IntKind.u64.min ≤ k ∧ k ≤ IntKind.u64.max) : 0 ≤ k ∧ k < 18446744073709551616 := by
  have h1 : (0 : Int) ≤ k := h.1
  have h2 : k ≤ 18446744073709551615 := h.2
  omega
theorem two_of {cs : List Value} (h : 2 ≤ cs.length) : ∃ a b r, cs = a :: b :: r := by
  match cs, h with
  | a :: b :: r, _ => exact ⟨a, b, r, rfl⟩
theorem tp_call : TP Try.prog 29 fun W cs => ∃ (cl : Int) (n : Nat) (o : OpR) (v : Value), cs = [.int .i64 cl, u64v n] ++ o.cells v ∧ n < 18446744073709551616 ∧ OpRV (wv W) o v := fun H enc W fuel cs x h => by
  obtain ⟨hl, hf⟩ := tp_struct (t := 29) Try.underlying29 H enc W fuel cs x h
  have hl : cs.length = 8 := hl.trans (by kernel_rfl)
  obtain ⟨n0, e0, _⟩ := hf 0 _ rfl _ (tp_int Try.underlying3)
  obtain ⟨n1, e1, g1⟩ := hf 1 _ rfl _ (tp_int Try.underlying22)
  obtain ⟨o, v, e2, hv, _⟩ := hf 2 _ rfl _ tp_opr
  have e0 := one_at ((cut ci).symm.trans e0)
  have e1 := one_at ((cut cu64).symm.trans e1)
  have e2 : (cs.drop 2).take 6 = o.cells v := (cut (show Try.prog.cellsOf 27 = 6 by kernel_rfl)).symm.trans e2
  have g1 := rg_u64 g1
  clear hf h
  refine ⟨n0, n1.toNat, o, v, ?_, by omega, hv⟩
  rw [List.take_of_length_le (by rw [List.length_drop]; omega)] at e2
  have e1 : cs[1]? = some (.int .u64 n1) := e1
  have e0 : cs[0]? = some (.int .i64 n0) := e0
  obtain ⟨a, b, r, rfl⟩ := two_of (cs := cs) (by omega)
  have e0 : a = .int .i64 n0 := by simpa using e0
  have e1 : b = .int .u64 n1 := by simpa using e1
  have e2 : r = o.cells v := by simpa using e2
  have : u64v n1.toNat = .int .u64 n1 := by unfold u64v; rw [Int.toNat_of_nonneg g1.1]
  rw [this, ← e2, e0, e1]; rfl
theorem tp_msg : TP Try.prog 37 fun W cs => ∃ m, MsgP (wv W) m cs := fun H enc W fuel cs x h => by
  obtain ⟨hl, hf⟩ := tp_struct (t := 37) Try.underlying37 H enc W fuel cs x h
  have hl : cs.length = 53 := hl.trans (by kernel_rfl)
  obtain ⟨n0, e0, _⟩ := hf 0 _ rfl _ (tp_int Try.underlying3)
  obtain ⟨n1, e1, _⟩ := hf 1 _ rfl _ (tp_int Try.underlying3)
  obtain ⟨n2, e2, _⟩ := hf 2 _ rfl _ (tp_int Try.underlying3)
  obtain ⟨n3, e3, g3⟩ := hf 3 _ rfl _ (tp_int Try.underlying22)
  obtain ⟨n4, e4, g4⟩ := hf 4 _ rfl _ (tp_int Try.underlying22)
  obtain ⟨n5, e5, g5⟩ := hf 5 _ rfl _ (tp_int Try.underlying22)
  obtain ⟨n6, e6, g6⟩ := hf 6 _ rfl _ (tp_int Try.underlying22)
  obtain ⟨hd, e7, g7⟩ := hf 7 _ rfl _ (tp_hash (n := 32) Try.underlying24 Try.underlying5 (by kernel_rfl) (by kernel_rfl))
  obtain ⟨cl, nu, o, v, e8, g8, hv⟩ := hf 8 _ rfl _ tp_call
  obtain ⟨an, va, ua, e9, ha, _⟩ := hf 9 _ rfl _ tp_ans
  obtain ⟨vh, hs, e10, hh, _⟩ := hf 10 _ rfl _ (tp_list (Q := HashP) (z := 32) Try.underlying34 (by kernel_rfl) (by omega) (fun H enc W fuel cs x h => by
    obtain ⟨g, e, hg⟩ := tp_hash (n := 32) Try.underlying24 Try.underlying5 (by kernel_rfl) (by kernel_rfl) H enc W fuel cs x h
    exact ⟨g, e, hg⟩))
  obtain ⟨vb, bs, e11, hb, _⟩ := hf 11 _ rfl _ (tp_bls Try.underlying35 Try.underlying25 Try.underlying5 (by kernel_rfl) (by kernel_rfl))
  have e0 := one_at ((cut ci).symm.trans e0)
  have e1 := one_at ((cut ci).symm.trans e1)
  have e2 := one_at ((cut ci).symm.trans e2)
  have e3 := one_at ((cut cu64).symm.trans e3)
  have e4 := one_at ((cut cu64).symm.trans e4)
  have e5 := one_at ((cut cu64).symm.trans e5)
  have e6 := one_at ((cut cu64).symm.trans e6)
  have e7 : (cs.drop 7).take 32 = bvs hd := (cut (show Try.prog.cellsOf 24 = 32 by kernel_rfl)).symm.trans e7
  have e8 : (cs.drop 39).take 8 = [.int .i64 cl, u64v nu] ++ o.cells v := (cut (show Try.prog.cellsOf 29 = 8 by kernel_rfl)).symm.trans e8
  have e9 : (cs.drop 47).take 4 = an.cells va ua := (cut (show Try.prog.cellsOf 33 = 4 by kernel_rfl)).symm.trans e9
  have e10 := one_at ((cut (show Try.prog.cellsOf 34 = 1 by kernel_rfl)).symm.trans e10)
  have e11 := one_at ((cut (show Try.prog.cellsOf 35 = 1 by kernel_rfl)).symm.trans e11)
  have g3 := rg_u64 g3
  have g4 := rg_u64 g4
  have g5 := rg_u64 g5
  have g6 := rg_u64 g6
  clear hf h
  have hok : MsgR.ok ⟨n0, n1, n2, n3.toNat, n4.toNat, n5.toNat, n6.toNat, hd, cl, nu, o, an, hs, bs⟩ := by
    refine ⟨by show n3.toNat < _; omega, by show n4.toNat < _; omega, by show n5.toNat < _; omega, by show n6.toNat < _; omega, g8, g7, fun g hg => ?_⟩
    obtain ⟨i, hi⟩ := List.getElem?_of_mem hg
    obtain ⟨xs, _, hx⟩ := hh
    exact (hx i g hi).2
  refine ⟨⟨n0, n1, n2, n3.toNat, n4.toNat, n5.toNat, n6.toNat, hd, cl, nu, o, an, hs, bs⟩, v, va, ua, vh, vb, ?_, ⟨hv, ha, hh, hb⟩, hok⟩
  have G := msg_gets (m := ⟨n0, n1, n2, n3.toNat, n4.toNat, n5.toNat, n6.toNat, hd, cl, nu, o, an, hs, bs⟩) (v := v) (va := va) (ua := ua) (vh := vh) (vb := vb) g7
  have uv : ∀ {k : Int}, 0 ≤ k → u64v k.toNat = .int .u64 k := fun h => by unfold u64v; rw [Int.toNat_of_nonneg h]
  refine list_eq (hl.trans (by have := G.sz; rw [List.size_toArray] at this; exact this.symm)) fun i hi => ?_
  have hi : i < 53 := by have := G.sz; rw [List.size_toArray] at this; omega
  rw [← List.getElem?_toArray (xs := MsgR.cells _ v va ua vh vb)]
  have cut' : ∀ {k n : Nat} {es : List Value}, (cs.drop k).take n = es → ∀ j, j < n → cs[k + j]? = es[j]? := fun he j hj => by
    rw [← he, List.getElem?_take, if_pos hj, List.getElem?_drop]
  rcases Nat.lt_or_ge i 7 with h7 | h7
  · match i, h7 with
    | 0, _ => exact e0
    | 1, _ => exact e1
    | 2, _ => exact e2
    | 3, _ => rw [show (3 : Nat) = 3 from rfl]; refine Eq.trans e3 ?_; rw [← uv g3.1]; rfl
    | 4, _ => refine Eq.trans e4 ?_; rw [← uv g4.1]; rfl
    | 5, _ => refine Eq.trans e5 ?_; rw [← uv g5.1]; rfl
    | 6, _ => refine Eq.trans e6 ?_; rw [← uv g6.1]; rfl
  · rcases Nat.lt_or_ge i 39 with h39 | h39
    · obtain ⟨j, rfl⟩ : ∃ j, i = 7 + j := ⟨i - 7, by omega⟩
      obtain ⟨u, hu⟩ := get_of_lt (l := bvs hd) (i := j) (by rw [bvs_length, g7]; omega)
      rw [cut' e7 j (by omega), hu, G.p7 j u hu]
    · rcases Nat.lt_or_ge i 47 with h47 | h47
      · obtain ⟨j, rfl⟩ : ∃ j, i = 39 + j := ⟨i - 39, by omega⟩
        rw [cut' e8 j (by omega)]
        rcases Nat.lt_or_ge j 2 with h2 | h2
        · match j, h2 with
          | 0, _ => exact G.g39.symm
          | 1, _ => exact G.g40.symm
        · obtain ⟨k, rfl⟩ : ∃ k, j = 2 + k := ⟨j - 2, by omega⟩
          obtain ⟨u, hu⟩ := get_of_lt (l := o.cells v) (i := k) (show k < 6 by omega)
          rw [List.getElem?_append_right (by simp), show 2 + k - ([.int .i64 cl, u64v nu] : List Value).length = k by simp, hu]
          rw [show 39 + (2 + k) = 41 + k from by omega]
          exact (G.p41 k u hu).symm
      · rcases Nat.lt_or_ge i 51 with h51 | h51
        · obtain ⟨j, rfl⟩ : ∃ j, i = 47 + j := ⟨i - 47, by omega⟩
          obtain ⟨u, hu⟩ := get_of_lt (l := an.cells va ua) (i := j) (show j < 4 by omega)
          rw [cut' e9 j (by omega), hu, G.p47 j u hu]
        · rcases Nat.lt_or_ge i 52 with h52 | h52
          · obtain rfl : i = 51 := by omega
            exact e10.trans G.g51.symm
          · obtain rfl : i = 52 := by omega
            exact e11.trans G.g52.symm
theorem tp_u64s : TP Try.prog 58 fun W cs => ∃ v l, cs = [v] ∧ LsV u64P 1 (wv W) v l ∧ l.length ≤ maxLen :=
  tp_list (Q := u64P) (z := 1) Try.underlying58 (by kernel_rfl) (by omega) fun H enc W fuel cs x h => by
    obtain ⟨n, e, g⟩ := tp_int Try.underlying22 H enc W fuel cs x h
    have g := rg_u64 g
    refine ⟨n.toNat, ?_, by omega⟩
    rw [e]; unfold u64v; rw [Int.toNat_of_nonneg g.1]
end Go.Proofs.Ytfploingelmpkaa

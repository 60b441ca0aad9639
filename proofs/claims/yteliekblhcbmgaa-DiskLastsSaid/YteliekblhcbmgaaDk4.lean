/-
  Crashes: what lies there, and the numbers.
-/
import Derived.Test.YteliekblhcbmgaaDk3
import Derived.Test.YteliekblhcbmgaaArr
set_option linter.unusedVariables false
set_option linter.unusedSimpArgs false
namespace Go.Vc
open Go
/-! numbers -/
def i64ok (f : Int) : Prop := -9223372036854775808 ≤ f ∧ f < 9223372036854775808
theorem and3_i64 {f : Int} (h : i64ok f) : bitsV .and .i64 f 3 = f % 4 := by
  show IntKind.wrap .i64 ((BitVec.ofInt 64 f &&& BitVec.ofInt 64 ((3 : Nat) : Int) : BitVec 64).toNat : Int) = _
  rw [BitVec.toNat_and, BitVec.ofInt_natCast, BitVec.toNat_ofNat, Nat.mod_eq_of_lt (b := 2 ^ 64) (by omega)]
  have e : (BitVec.ofInt 64 f).toNat &&& 3 = (BitVec.ofInt 64 f).toNat % 4 := Nat.and_two_pow_sub_one_eq_mod _ 2
  rw [e, BitVec.toNat_ofInt]
  have h1 : 0 ≤ f % (2 ^ 64 : Int) := Int.emod_nonneg _ (by omega)
  have e2 : (((f % ((2 ^ 64 : Nat) : Int)).toNat % 4 : Nat) : Int) = f % 4 := by
    have : ((2 ^ 64 : Nat) : Int) = (2 ^ 64 : Int) := by rfl
    rw [this]
    have : (2 ^ 64 : Int) = 4 * 4611686018427387904 := by rfl
    omega
  rw [e2, wrap_i64 (by omega) (by omega)]
theorem shr2_i64 (f : Int) : shrV .i64 f 2 = f / 4 := by
  unfold shrV
  show f.fdiv (2 ^ min 2 64) = _
  rw [show (2 : Int) ^ min 2 64 = 4 from rfl, Int.fdiv_eq_ediv_of_nonneg _ (by omega)]
theorem cut_i64 {f : Int} (h : i64ok f) : Int.tmod (IntKind.wrap .i64 (IntKind.wrap .i64 (Int.tmod (shrV .i64 f 2) 513 + 512) + 1)) 513 = (cutF f : Int) := by
  rw [shr2_i64]
  obtain ⟨h1, h2⟩ := h
  have hq : -2305843009213693952 ≤ f / 4 ∧ f / 4 < 2305843009213693952 := by omega
  generalize hqq : f / 4 = q at *
  have hm := Int.mul_tdiv_add_tmod q 513
  have hb : -513 < Int.tmod q 513 ∧ Int.tmod q 513 < 513 := ⟨by
    have h3 := Int.neg_tmod (a := -q) (b := 513)
    rw [Int.neg_neg] at h3
    have h4 := Int.tmod_lt_of_pos (-q) (b := 513) (by omega)
    omega, Int.tmod_lt_of_pos q (by omega)⟩
  generalize hr : Int.tmod q 513 = r at *
  rw [wrap_i64 (n := r + 512) (by omega) (by omega), wrap_i64 (by omega) (by omega), Int.tmod_eq_emod_of_nonneg (by omega)]
  unfold cutF
  rw [hqq]
  omega

/-! copying into an own block -/
section
variable {P : Program}
theorem copy_own {dT sT ty e : TypeId} (hu : P.underlying dT = some (.slice e)) (hs : (P.info? e).map (·.size) = some 1) {c : Nat → Nat} {i : Nat} {w : World} {b k n cd : Nat} {cur : Array Value} {T : Nat} {x : Value} {m : Nat} {ys : List Value}
    (hb : view c i w b = some (.cells cur T (0, 0))) (hk : k + m ≤ cur.size) (hr : RdS (Vc.wv w) x 1 m ys) (hm : m ≤ n) (h1 : ∀ u ∈ ys, u.oneCell' = true) {K : Value → World → Prop}
    (h : ∀ w', Wr c i w c w' (some b) → Step c [i] [] w c w' → view c i w' b = some (.cells (cur.toList.take k ++ ys ++ cur.toList.drop (k + m)).toArray T (0, 0)) → K (.int .i64 (m : Int)) w') :
    RunV P (Builtin.copy_ #[dT, sT] ty #[.slice (some ⟨b, k, none⟩) n cd, x]) w K := by
  obtain ⟨o, cp, rfl⟩ := hr.form
  have hlen := hr.len.2.2
  rw [Nat.mul_one] at hlen
  obtain ⟨hc, hw⟩ := view_out hb
  cases o with
  | none =>
    have hys : ys = [] := by
      obtain ⟨o', c', e, _, hl, hx⟩ := hr
      cases e
      rcases hx with h | ⟨b', off, cs', T', fz, e', _⟩
      · exact h
      · simp at e'
    subst hys
    have hm0 : m = 0 := by simpa using hlen.symm
    subst hm0
    have hrun : (Builtin.copy_ #[dT, sT] ty #[.slice (some ⟨b, k, none⟩) n cd, .slice none 0 cp]).run P w = .ok (goInt 0) w := by
      cases hq : P.info? e with
      | none => simp [hq] at hs
      | some ie => simp [Builtin.copy_, run_underlying hu, Builtin.lenOf, Builtin.firstCells, sizeOf, typeInfo, hq, storeCells]
    refine RunV.mk hrun (h w (.same ⟨rfl, rfl, rfl, Nat.le_refl _, fun _ _ _ => rfl⟩ rfl (by simp [hc])) (Step.refl ..) ?_)
    simpa using hb
  | some a =>
    have hsrc : ∀ j v, ys[j]? = some v → w.cell? (a.add j) = some v := by
      intro j v hv
      obtain ⟨a', ea, hcell⟩ := hr.cell hv
      simp at ea; subst ea; exact hcell
    have hrun := run_copy_row (P := P) w dT sT ty e b k n cd a m cp cur T ys hu hs hw (by rw [hlen]; exact (Nat.min_eq_left hm).symm) hsrc (by rw [hlen]; exact hk) h1
    rw [hlen] at hrun
    have hsz : (w.setRow b (cur.toList.take k ++ ys ++ cur.toList.drop (k + m)).toArray).heap.size = w.heap.size := by simp
    have hW : Wr c i w c (w.setRow b (cur.toList.take k ++ ys ++ cur.toList.drop (k + m)).toArray) (some b) := .same ⟨rfl, rfl, rfl, by simp, fun j _ hj => setRow_other w b j _ (fun e => hj (by simp [e]))⟩ hsz (by simp [hc])
    have h0 := hW.step
    refine RunV.mk hrun (h _ hW ⟨h0.os, h0.tape, h0.output, h0.size, h0.col, fun b' h1 h2 => by omega, h0.keep⟩ ?_)
    exact view_in hc (setRow_heap w b cur (cur.toList.take k ++ ys ++ cur.toList.drop (k + m)).toArray T _ hw)
end
/-! own sectors in an own row -/
def OwnP (tU : Nat) (h : View) (x : List UInt8 × Nat) (es : List Value) : Prop := ∃ cp, es = [.slice (some ⟨x.2, 0, none⟩) x.1.length cp] ∧ OwS h (.slice (some ⟨x.2, 0, none⟩) x.1.length cp) tU 1 x.1.length (bvs x.1)
theorem OwnP.mono {tU : Nat} {h h' : View} {x : List UInt8 × Nat} {es : List Value} (hp : OwnP tU h x es) (hs : Sub h h') : OwnP tU h' x es := by
  obtain ⟨cp, e, ho⟩ := hp; exact ⟨cp, e, ho.mono hs⟩
theorem OwnP.ones {tU : Nat} {h : View} {x : List UInt8 × Nat} {es : List Value} (hp : OwnP tU h x es) : ∀ u ∈ es, u.oneCell' = true := by
  obtain ⟨cp, rfl, ho⟩ := hp
  intro u hu
  have : u = .slice (some ⟨x.2, 0, none⟩) x.1.length cp := by simpa using hu
  rw [this]; rfl
theorem OwS.cur {h : View} {g n cp T : Nat} {xs : List Value} (ho : OwS h (.slice (some ⟨g, 0, none⟩) n cp) T 1 n xs) : ∃ cur, h g = some (.cells cur T (0, 0)) ∧ n ≤ cp ∧ cp ≤ maxLen ∧ cur.size = cp ∧ cur.toList.take n = xs := by
  rcases ho.2 with ⟨e, _⟩ | ⟨g', cap, cur, e, hg, h1, h2, h3, h4⟩
  · simp at e
  · cases e
    rw [Nat.mul_one] at h3 h4
    exact ⟨cur, hg, h1, h2, h3, h4⟩
theorem OwS.of_cur {h : View} {g n cp T : Nat} {xs : List Value} {cur : Array Value} (hg : h g = some (.cells cur T (0, 0))) (h1 : n ≤ cp) (h2 : cp ≤ maxLen) (h3 : cur.size = cp) (h4 : cur.toList.take n = xs) : OwS h (.slice (some ⟨g, 0, none⟩) n cp) T 1 n xs := by
  have hl : xs.length = n * 1 := by rw [← h4, List.length_take, Array.length_toList]; omega
  exact ⟨hl, .inr ⟨g, cp, cur, rfl, hg, h1, h2, by rw [Nat.mul_one]; exact h3, by rw [Nat.mul_one]; exact h4⟩⟩
/-- one of them is written -/
theorem LsO.write {tU T : Nat} {c : Nat → Nat} {i q : Nat} {w w' : World} {v : Value} {M : List (List UInt8 × Nat)} {m g : Nat} {s s' : List UInt8} (hL : LsO (OwnP tU) T 1 (view c i w) (view c q w) v M) (hiq : i ≠ q) (hW : Wr c q w c w' (some g)) (hnd : (M.map (·.2)).Nodup) (hm : M[m]? = some (s, g)) (hl : s'.length = s.length)
    (hnew : ∀ cp cur, view c q w g = some (.cells cur tU (0, 0)) → s.length ≤ cp → cur.size = cp → cur.toList.take s.length = bvs s → ∃ cur', view c q w' g = some (.cells cur' tU (0, 0)) ∧ cur'.size = cp ∧ cur'.toList.take s.length = bvs s') : LsO (OwnP tU) T 1 (view c i w') (view c q w') v (M.set m (s', g)) := by
  obtain ⟨xs, ho, hx⟩ := hL
  refine ⟨xs, by rw [List.length_set]; exact ho.mono (hW.step.sub (by simpa using hiq)), fun k a hk => ?_⟩
  rw [List.getElem?_set] at hk
  by_cases hmk : m = k
  · subst hmk
    rw [if_pos rfl, if_pos (lt_of_get hm)] at hk
    cases hk
    obtain ⟨cp, e, hown⟩ := hx m _ hm
    obtain ⟨cur, hg, h1, h2, h3, h4⟩ := hown.cur
    obtain ⟨cur', hg', h3', h4'⟩ := hnew cp cur hg h1 h3 h4
    refine ⟨cp, by rw [e]; simp [hl], ?_⟩
    show OwS _ (.slice (some ⟨g, 0, none⟩) s'.length cp) _ _ s'.length _
    rw [hl]
    exact OwS.of_cur hg' h1 h2 h3' h4'
  · rw [if_neg hmk] at hk
    obtain ⟨cp, e, hown⟩ := hx k a hk
    obtain ⟨cur, hg, h1, h2, h3, h4⟩ := hown.cur
    refine ⟨cp, e, OwS.of_cur (hW.old _ _ hg fun e => ?_) h1 h2 h3 h4⟩
    have hga : g = a.2 := by simpa using e
    have n1 : (M.map (·.2))[m]? = some g := by rw [List.getElem?_map, hm]; rfl
    have n2 : (M.map (·.2))[k]? = some g := by rw [List.getElem?_map, hk, hga]; rfl
    have hm1 := (List.getElem?_eq_some_iff.1 n1)
    have hk1 := (List.getElem?_eq_some_iff.1 n2)
    obtain ⟨l1, e1⟩ := hm1
    obtain ⟨l2, e2⟩ := hk1
    exact hmk ((List.getElem_inj (h₀ := l1) (h₁ := l2) hnd).1 (e1.trans e2.symm))
theorem splice {α : Type} {A ys : List α} {k m n : Nat} (hm : ys.length = m) (hA : n ≤ A.length) (hk : k + m ≤ n) : (A.take k ++ ys ++ A.drop (k + m)).take n = (A.take n).take k ++ ys ++ (A.take n).drop (k + m) := by
  have e1 : (A.take n).take k = A.take k := by rw [List.take_take, Nat.min_eq_left (by omega)]
  rw [e1, List.take_append, List.drop_take]
  have l1 : (A.take k ++ ys).length = k + m := by rw [List.length_append, List.length_take, hm]; omega
  rw [List.take_of_length_le (by omega), l1]
theorem LsO.bytes {tU T : Nat} {h g : View} {v : Value} {M : List (List UInt8 × Nat)} (hL : LsO (OwnP tU) T 1 h g v M) : LsO BytesP T 1 h g v (M.map (·.1)) := by
  obtain ⟨xs, ho, hx⟩ := hL
  refine ⟨xs, by rw [List.length_map]; exact ho, fun i l hi => ?_⟩
  rw [List.getElem?_map] at hi
  cases hm : M[i]? with
  | none => rw [hm] at hi; simp at hi
  | some x =>
    rw [hm] at hi
    have : x.1 = l := by simpa using hi
    subst this
    obtain ⟨cp, e, hown⟩ := hx i x hm
    exact ⟨_, e, hown.rd⟩
/-- two colours become one -/
def mixc (c : Nat → Nat) (x y : Nat) : Nat → Nat := fun b => if c b = x then y else c b
theorem Fr.mix {w0 : World} {c : Nat → Nat} {w : World} (S : Fr w0 c w) {x y : Nat} (hx : x ≠ 0) (hy : y ∈ [0, 1, 2, 3, 4, 5, 6, 7, 8, 9]) : Fr w0 (mixc c x y) w :=
  ⟨S.os, S.tape, S.output, S.size, fun b hb => by unfold mixc; rw [S.col b hb, if_neg (fun e => hx e.symm)], fun b h1 h2 => by
    unfold mixc
    split
    · exact hy
    · exact S.new b h1 h2, S.keep⟩
theorem mixc_other {c : Nat → Nat} {x y z : Nat} (hz : z ≠ x) (w : World) : Sub (view c z w) (view (mixc c x y) z w) := fun b o hb => by
  obtain ⟨hc, ho⟩ := view_out hb
  exact view_in (by unfold mixc; rw [hc, if_neg hz]) ho
theorem mixc_this {c : Nat → Nat} {x y : Nat} (w : World) : Sub (view c x w) (view (mixc c x y) y w) := fun b o hb => by
  obtain ⟨hc, ho⟩ := view_out hb
  exact view_in (by unfold mixc; rw [if_pos hc]) ho
/-! integers in a row -/
def jv (n : Int) : Value := .int .i64 n
def jvs (l : List Int) : List Value := l.map jv
@[simp] theorem jvs_length (l : List Int) : (jvs l).length = l.length := by simp [jvs]
theorem jvs_get (l : List Int) (k : Nat) : (jvs l)[k]? = l[k]?.map jv := by simp [jvs]
end Go.Vc

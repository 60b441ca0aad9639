/-
  Digests: hashers; each function once.
-/
import Derived.Test.YtpblhjgpfmmafaaDoorSha1
set_option linter.unusedVariables false
set_option linter.unusedSimpArgs false
namespace Go.Proofs.YtpblhjgpfmmafaaDoor
open Go.Vc
attribute [local irreducible] TInt TBool TStr TPtr TSl TAgg TMap TChan T2 T3 T4 BS Req TSome TCell TByte LoadC LoadA StoreC AllocC RunV RunU CallV ExtV EqA StableC StableA StableV TCells ReadV
attribute [local irreducible] DrewC

def hcells (st : List Int) (v : Value) (n : Int) : List Value := uvs st ++ [v, .int .u64 n]
theorem hc_len {st : List Int} (h : st.length = 8) (v : Value) (n : Int) : (hcells st v n).length = 10 := by simp [hcells, h]
theorem hc8 {st : List Int} (h : st.length = 8) (v : Value) (n : Int) : (hcells st v n).toArray[8]? = some v := by
  obtain ⟨a, b, c, d, e, f, g, k, rfl⟩ := eight h; rfl
theorem hc9 {st : List Int} (h : st.length = 8) (v : Value) (n : Int) : (hcells st v n).toArray[9]? = some (.int .u64 n) := by
  obtain ⟨a, b, c, d, e, f, g, k, rfl⟩ := eight h; rfl
theorem hs8 {st : List Int} (h : st.length = 8) (v u : Value) (n : Int) : (hcells st v n).toArray.setIfInBounds 8 u = (hcells st u n).toArray := by
  obtain ⟨a, b, c, d, e, f, g, k, rfl⟩ := eight h; rfl
theorem hs9 {st : List Int} (h : st.length = 8) (v : Value) (n m : Int) : (hcells st v n).toArray.setIfInBounds 9 (.int .u64 m) = (hcells st v m).toArray := by
  obtain ⟨a, b, c, d, e, f, g, k, rfl⟩ := eight h; rfl
theorem hc0 {st : List Int} (h : st.length = 8) (v : Value) (n : Int) (j : Nat) (u : Value) (hu : (uvs st)[j]? = some u) : (hcells st v n).toArray[0 + j]? = some u := by
  have := lt_of_get hu
  rw [Nat.zero_add, List.getElem?_toArray]
  unfold hcells
  rw [List.getElem?_append_left this]; exact hu
theorem hst {st s2 : List Int} (h : st.length = 8) (h2 : s2.length = 8) (v : Value) (n : Int) : (hcells st v n).take 0 ++ uvs s2 ++ (hcells st v n).drop (0 + (uvs s2).length) = hcells s2 v n := by
  unfold hcells
  rw [List.take_zero, List.nil_append, Nat.zero_add, uvs_length, h2, ← h, ← uvs_length st, List.drop_left]
def HashV (h : View) (a : Addr) (l : List UInt8) (n : Nat) : Prop := ∃ b v, a = ⟨b, 0, none⟩ ∧ h b = some (.cells (hcells (digS l) v n).toArray 62 (0, 0)) ∧ OwO h v 5 (restS l).length (bvs (restS l))
theorem HashV.mono {h h' : View} {a : Addr} {l : List UInt8} {n : Nat} (hp : HashV h a l n) (hs : Sub h h') : HashV h' a l n := by
  obtain ⟨b, v, e, hb, ho⟩ := hp; exact ⟨b, v, e, hs _ _ hb, ho.mono hs⟩
theorem OwO.keep {c c' : Nat → Nat} {i : Nat} {w w' : World} {row : Option Nat} (hW : Wr c i w c' w' row) {v : Value} {T n : Nat} {xs : List Value} (ho : OwO (view c i w) v T n xs) (hne : ∀ b, row = some b → ∀ cur, view c i w b ≠ some (.cells cur T (0, 0))) : OwO (view c' i w') v T n xs := by
  refine ⟨ho.1, ho.2.imp id ?_⟩
  rintro ⟨g, off, cap, cur, e, hg, r⟩
  exact ⟨g, off, cap, cur, e, hW.old g _ hg (fun e' => hne g e' _ hg), r⟩
theorem notU8 {h : View} {b : Nat} {cs : Array Value} (hb : h b = some (.cells cs 62 (0, 0))) : ∀ b', some b = some b' → ∀ cur, h b' ≠ some (.cells cur 5 (0, 0)) := by
  rintro _ e cur hc
  cases e
  rw [hb] at hc
  simp at hc

theorem Add_c {c : Nat → Nat} {i k g : Nat} {w : World} {a : Addr} {l ys : List UInt8} {n : Nat} {v : Value} {R : Value → World → Prop} (hp : HashV (view c i w) a l n) (hr : RdS (view c k w) v 1 ys.length (bvs ys)) (hk : k ≠ i)
    (hG : GlobS (view c g w)) (hg : g ≠ i) (hm : ys.length ≤ 1099511627776) (hn : n ≤ 1099511627776)
    (h : ∀ c' w', Step c [i] [i] w c' w' → HashV (view c' i w') a (l ++ ys) (n + ys.length) → R (.tuple #[]) w') : CallV Tryd.prog 16 #[.pointer (some a), v] w R := by
  obtain ⟨b, v0, rfl, hb, ho⟩ := hp
  obtain ⟨o1, p1, rfl⟩ := hr.form
  have hd := digS_length l
  refine sha_Hasher_Add_vc ?_
  unfold sha_Hasher_Add_VC
  refine LoadC.ad (view_sub _ _ _) _ hb (hc9 hd _ _) (TInt.mk ?_)
  rw [wrap_u64 (n := ((ys.length : Nat) : Int)) (by omega) (by omega), wrap_u64 (by omega) (by omega)]
  refine StoreC.ad hb (by simp [hc_len hd]) fun w1 hW1 st1 hb1 => ?_
  rw [hs9 hd] at hb1
  replace ho := OwO.keep hW1 ho (notU8 hb)
  replace hr := hr.mono (st1.sub (by simpa using hk))
  replace hG := hG.mono (st1.sub (by simpa using hg))
  refine LoadC.ad (view_sub _ _ _) _ hb1 (hc8 hd _ _) ?_
  obtain ⟨o0, p0, rfl⟩ := ho.form
  refine TSl.mk ?_
  have hrl := restS_length l
  refine appO slU8 ho (hr.mono (view_sub _ _ _)) (bvs_one _) (by omega) fun v2 c2 w2 r2 hW2 hr2 ho2 => ?_
  have hb2 := hW2.old b _ hb1 (fun e => by obtain ⟨cur, hc⟩ := hr2 b e; rw [hb1] at hc; simp at hc)
  replace hG := hG.mono (hW2.step.sub (by simpa using hg))
  obtain ⟨o2, p2, rfl⟩ := ho2.form
  refine TSl.mk ?_
  refine StoreC.ad hb2 (by simp [hc_len hd]) fun w3 hW3 st3 hb3 => ?_
  rw [hs8 hd] at hb3
  replace ho2 := OwO.keep hW3 ho2 (notU8 hb2)
  replace hG := hG.mono (st3.sub (by simpa using hg))
  have S3 : Step c [i] [i] w c2 w3 := ((st1.weak (by simp) (by simp)).trans hW2.step).trans (st3.weak (by simp) (by simp))
  rw [← bvs_append, ← List.length_append] at ho2
  rw [← List.length_append] at hb3
  generalize hM : restS l ++ ys = M at ho2 hb3
  have hMl : M.length ≤ 1099511627776 + 64 := by rw [← hM, List.length_append]; omega
  refine Loop0.up (M.length / 64) (fun q w' => ∃ c' u, Step c [i] [i] w c' w' ∧ GlobS (view c' g w') ∧ view c' i w' b = some (.cells (hcells (absN q (digS l) M) u ((n + ys.length : Nat) : Int)).toArray 62 (0, 0)) ∧
    OwO (view c' i w') u 5 (M.drop (64 * q)).length (bvs (M.drop (64 * q)))) ⟨c2, _, S3, hG, by rw [Int.natCast_add]; exact hb3, ho2⟩ ?_
  clear hb hb1 hb2 hb3 ho ho2 hG hr S3 hW1 hW2 hW3 st1 st3 hr2
  rintro q w4 B hq ⟨c4, u, S, hG, hb, ho⟩ back
  have hdq : (absN q (digS l) M).length = 8 := absN_length hd
  obtain ⟨ou, pu, rfl⟩ := ho.form
  refine LoadC.ad (view_sub _ _ _) _ hb (hc8 hdq _ _) (TSl.mk ?_)
  have hdl : (M.drop (64 * q)).length = M.length - 64 * q := List.length_drop
  refine BS.dec (fun hge => ?_) (fun hlt => ?_)
  · refine DrewC.col c4 fun w5 st5 => ?_
    replace hG := hG.mono (st5.sub (by simp))
    replace hb := st5.sub (by simp) _ _ hb
    replace ho := ho.mono (st5.sub (by simp))
    refine LoadA.part (k := 0) (view_sub _ _ _) hb (es := uvs (absN q (digS l) M)) (by simp [hdq]) (hc0 hdq _ _) ?_
    refine LoadC.ad (view_sub _ _ _) _ hb (hc8 hdq _ _) (TSl.mk ?_)
    have hcap := ho.len
    refine Req.bndle ⟨by omega, by omega⟩ ?_
    obtain ⟨b', off, cs, T, fz, rfl, hb', hcs⟩ := ho.rd.base (by
      intro e
      have := congrArg List.length e
      rw [bvs_length] at this
      simp at this; omega)
    rw [slBase_whole]
    refine TSome.mk ?_
    refine LoadA.at (view_sub _ _ _) hb' (es := bvs ((M.drop (64 * q)).take 64)) (by simp; omega) (fun j x hx => hcs j x (by
      rw [bvs_take, List.getElem?_take] at hx
      split at hx
      · exact hx
      · simp at hx)) ?_
    refine mix_c c4 i hdq (by rw [List.length_take]; omega) (hG.mono (view_sub _ _ _)) fun c6 w6 st6 => TAgg.mk ?_
    replace hG := hG.mono (st6.sub (by simp))
    replace hb := st6.sub (by simp) _ _ hb
    replace ho := ho.mono (st6.sub (by simp))
    have hd2 : (mixS (absN q (digS l) M) ((M.drop (64 * q)).take 64)).length = 8 := mixS_length hdq _
    refine RunU.part (k := 0) hb (by rw [uvs_length, hd2]; kernel_rfl) (by rw [uvs_length, hd2, hc_len hdq]; omega) (uvs_one _) fun w7 hW7 st7 hb7 => ?_
    rw [hst hdq hd2] at hb7
    replace ho := OwO.keep hW7 ho (notU8 hb)
    replace hG := hG.mono (st7.sub (by simpa using hg))
    refine LoadC.ad (view_sub _ _ _) _ hb7 (hc8 hd2 _ _) (TSl.mk ?_)
    refine Req.bndle ⟨by omega, by omega⟩ ?_
    refine StoreC.ad hb7 (by simp [hc_len hd2]) fun w8 hW8 st8 hb8 => ?_
    rw [hs8 hd2] at hb8
    replace ho := OwO.keep hW8 ho (notU8 hb7)
    replace hG := hG.mono (st8.sub (by simpa using hg))
    have ho8 := ho.drop (k := 64) (by omega)
    rw [← bvs_drop, List.drop_drop] at ho8
    have e1 : (M.drop (64 * q)).length - 64 = (M.drop (64 * (q + 1))).length := by rw [List.length_drop, List.length_drop]; omega
    have e2 : absN (q + 1) (digS l) M = mixS (absN q (digS l) M) ((M.drop (64 * q)).take 64) := by rw [absN_add]; rfl
    rw [e1, show 64 * q + 64 = 64 * (q + 1) by omega] at ho8
    rw [e1] at hb8
    refine back _ (by omega) ⟨c6, _, S.trans ((st5.weak (by simp) (by simp)).trans ((st6.weak (by simp) (by simp)).trans ((st7.weak (by simp) (by simp)).trans (st8.weak (by simp) (by simp))))), hG, ?_, ho8⟩
    rw [e2]; exact hb8
  · have hq2 : q = M.length / 64 := by omega
    have hq3 := dig_end (l := l) (b := ys) (k := q) (by rw [hM]; omega) (by rw [hM]; omega)
    rw [hM] at hq3
    rw [hq3.1] at hb
    rw [hq3.2] at ho hb
    exact h _ _ S ⟨b, _, rfl, hb, ho⟩

theorem placesHash : placesB Tryd.prog 62 = some (uvs (List.replicate 8 0) ++ [.slice none 0 0, .int .u64 0], [(0, 8), (8, 1), (9, 1)]) := by kernel_rfl
theorem built_hash {st : List Int} (h : st.length = 8) : buildCells Tryd.prog 62 [(0, .agg (uvs st).toArray)] = some (hcells st (.slice none 0 0) 0).toArray := by
  unfold buildCells
  rw [built_of placesHash]
  rw [fill_cons (off := 0) (vs := uvs st) (by simp [h]) rfl (by simp [h])]
  simp [Instr.fill, h, hcells, uvs]
theorem built_hash2 {st : List Int} (h : st.length = 8) (v : Value) (hv : v.cells = #[v]) : buildCells Tryd.prog 62 [(0, .agg (uvs st).toArray), (1, v)] = some (hcells st v 0).toArray := by
  unfold buildCells
  rw [built_of placesHash]
  rw [fill_cons (off := 0) (vs := uvs st) (by simp [h]) rfl (by simp [h])]
  rw [fill_cons (off := 8) (vs := [v]) rfl (by rw [hv]) (by simp [h])]
  obtain ⟨a, b, c, d, e, f, g, k, rfl⟩ := eight h
  rfl

theorem New_c (c : Nat → Nat) (j : Nat) {w : World} {R : Value → World → Prop} (hG : GlobS (wv w))
    (h : ∀ p c' w', Step c [] [j] w c' w' → HashV (view c' j w') ⟨p, 0, none⟩ [] 0 → R (.pointer (some ⟨p, 0, none⟩)) w') : CallV Tryd.prog 15 #[] w R := by
  refine sha_New_vc ?_
  unfold sha_New_VC
  obtain ⟨_, T, fz, g⟩ := hG
  refine LoadA.all (Sub.refl _) g (by simp; rfl) ?_
  refine TCells.mk (built_hash rfl) ?_
  refine AllocC.col c j fun p c1 w1 st1 b1 _ => h p c1 w1 st1.fresh ⟨p, _, rfl, b1, ?_⟩
  exact OwO.of (OwS.nil ..)

theorem storeBy {c : Nat → Nat} {i : Nat} {w : World} {b k : Nat} {l : List UInt8} {T : Nat} {x : UInt8} {C : World → Prop} (hb : view c i w b = some (.cells (bvs l).toArray T (0, 0))) (hk : k < l.length)
    (h : ∀ w', Wr c i w c w' (some b) → Step c [i] [] w c w' → view c i w' b = some (.cells (bvs (l.set k x)).toArray T (0, 0)) → C w') : StoreC w ((⟨b, 0, none⟩ : Addr).add k) (.int .u8 (x.toNat : Int)) C :=
  StoreC.ad hb (by simpa using hk) fun w' h1 h2 h3 => h w' h1 h2 (by
    rw [toArray_set] at h3
    rw [show bvs (l.set k x) = (bvs l).set k (.int .u8 (x.toNat : Int)) by unfold bvs; rw [List.map_set]; rfl]
    exact h3)
theorem outB_get (st : List Int) {i k : Nat} (hi : i < 8) (hk : k < 4) : (outB st)[4 * i + k]? = some (outI st i k) := by
  unfold outB
  rw [List.getElem?_map, List.getElem?_range (by omega)]
  simp only [Option.map_some]
  rw [show (4 * i + k) / 4 = i by omega, show (4 * i + k) % 4 = k by omega]
end Go.Proofs.YtpblhjgpfmmafaaDoor

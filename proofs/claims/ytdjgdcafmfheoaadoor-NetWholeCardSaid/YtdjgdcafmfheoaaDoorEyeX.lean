/-
  What an eye answers, as plain functions of the bytes ahead; the code's eye and the document's.
-/
import Derived.Test.YtdjgdcafmfheoaaDoorRef02
import Derived.Test.YtdjgdcafmfheoaaDoorHpM
set_option linter.unusedVariables false
namespace Go.Vc

def txt (l : List UInt8) : List UInt8 := be l.length 2 ++ l
@[simp] theorem txt_length (l : List UInt8) : (txt l).length = 2 + l.length := by simp [txt]
/-- a number of n bytes: the number, what is ahead then, the error's number -/
def eU (n : Nat) (l : List UInt8) : Nat × List UInt8 × Int := if n ≤ l.length then (num (l.take n), l.drop n, 0) else (0, l, 20)
/-- a text -/
def eT (l : List UInt8) : List UInt8 × List UInt8 × Int := if 2 ≤ l.length ∧ num (l.take 2) ≤ l.length - 2 then ((l.drop 2).take (num (l.take 2)), (l.drop 2).drop (num (l.take 2)), 0) else ([], l, 20)
def eE (l : List UInt8) : Int := if l = [] then 0 else 21

theorem eU_be (n v : Nat) (r : List UInt8) (h : v < 256 ^ n) : eU n (be v n ++ r) = (v, r, 0) := by
  unfold eU
  have h1 : (be v n ++ r).take n = be v n := by
    have := List.take_left (l₁ := be v n) (l₂ := r); rwa [be_length] at this
  have h2 : (be v n ++ r).drop n = r := by
    have := List.drop_left (l₁ := be v n) (l₂ := r); rwa [be_length] at this
  rw [if_pos (by simp), h1, h2, num_be, Nat.mod_eq_of_lt h]
theorem eT_txt (t r : List UInt8) (h : t.length < 65536) : eT (txt t ++ r) = (t, r, 0) := by
  have h1 : (txt t ++ r).take 2 = be t.length 2 := by
    unfold txt
    have := List.take_left (l₁ := be t.length 2) (l₂ := t ++ r)
    rw [be_length] at this; rw [List.append_assoc]; exact this
  have h2 : (txt t ++ r).drop 2 = t ++ r := by
    unfold txt
    have := List.drop_left (l₁ := be t.length 2) (l₂ := t ++ r)
    rw [be_length] at this; rw [List.append_assoc]; exact this
  unfold eT
  rw [h1, h2, num_be, Nat.mod_eq_of_lt (by omega), if_pos (by simp; omega), List.take_left, List.drop_left]
theorem eU_ok {n : Nat} {l : List UInt8} (h : (eU n l).2.2 = 0) : l = be (eU n l).1 n ++ (eU n l).2.1 ∧ (eU n l).1 < 256 ^ n := by
  unfold eU at h ⊢
  split at h
  · rename_i hn
    rw [if_pos hn]
    have hl : (l.take n).length = n := by rw [List.length_take]; omega
    have hb := be_num (l.take n)
    have hlt := num_lt (l.take n)
    rw [hl] at hb hlt
    refine ⟨?_, hlt⟩
    show l = be (num (l.take n)) n ++ l.drop n
    rw [hb, List.take_append_drop]
  · simp at h
theorem eT_ok {l : List UInt8} (h : (eT l).2.2 = 0) : l = txt (eT l).1 ++ (eT l).2.1 ∧ (eT l).1.length < 65536 := by
  unfold eT at h ⊢
  split at h
  · rename_i hn
    rw [if_pos hn]
    have hl : (l.take 2).length = 2 := by rw [List.length_take]; omega
    have hb := be_num (l.take 2)
    have hlt := num_lt (l.take 2)
    rw [hl] at hb hlt
    have hl2 : ((l.drop 2).take (num (l.take 2))).length = num (l.take 2) := by rw [List.length_take, List.length_drop]; omega
    refine ⟨?_, by show List.length _ < _; rw [hl2]; exact hlt⟩
    show l = txt ((l.drop 2).take (num (l.take 2))) ++ (l.drop 2).drop (num (l.take 2))
    unfold txt
    rw [hl2, hb, List.append_assoc, List.take_append_drop, List.take_append_drop]
  · simp at h
theorem eU_code (n : Nat) (l : List UInt8) : (eU n l).2.2 = 0 ∨ (eU n l).2.2 = 20 := by unfold eU; split <;> simp
theorem eT_code (l : List UInt8) : (eT l).2.2 = 0 ∨ (eT l).2.2 = 20 := by unfold eT; split <;> simp
theorem eE_code (l : List UInt8) : eE l = 0 ∨ eE l = 21 := by unfold eE; split <;> simp
theorem eU_bd (n : Nat) (l : List UInt8) : 0 ≤ (eU n l).2.2 ∧ (eU n l).2.2 ≤ 21 := by have := eU_code n l; omega
theorem eT_bd (l : List UInt8) : 0 ≤ (eT l).2.2 ∧ (eT l).2.2 ≤ 21 := by have := eT_code l; omega
theorem eE_bd (l : List UInt8) : 0 ≤ eE l ∧ eE l ≤ 21 := by have := eE_code l; omega
theorem eE_ok {l : List UInt8} (h : eE l = 0) : l = [] := by unfold eE at h; split at h; assumption; simp at h
theorem eU_len (n : Nat) (l : List UInt8) : (eU n l).2.1.length ≤ l.length := by unfold eU; split <;> simp
theorem eT_len (l : List UInt8) : (eT l).2.1.length ≤ l.length ∧ (eT l).1.length ≤ l.length := by
  unfold eT; split
  · simp; omega
  · simp
theorem eT_short (l : List UInt8) : (eT l).1.length < 65536 := by
  rcases eT_code l with h | h
  · exact (eT_ok h).2
  · unfold eT at h ⊢; split <;> simp_all
theorem eU_lt (n : Nat) (l : List UInt8) : (eU n l).1 < 256 ^ n := by
  rcases eU_code n l with h | h
  · exact (eU_ok h).2
  · unfold eU at h ⊢; split
    · simp_all
    · exact Nat.pow_pos (by omega)
end Go.Vc

namespace Go.Proofs.YtdjgdcafmfheoaaDoor
open Go.Vc
attribute [local irreducible] TInt TBool TStr TPtr TSl TAgg TMap TChan T2 T3 T4 BS Req TSome TCell TByte LoadC LoadA StoreC AllocC RunV RunU CallV ExtV EqA StableC StableA StableV TCells ReadV

theorem Pen_U {c : Nat → Nat} {i : Nat} {w : World} {a : Addr} {l : List UInt8} {n s : Int} {R : Value → World → Prop} (hp : PenV (view c i w) a l) (v k : Nat) (hn : n = v) (hs : s = k) (h1 : 1 ≤ k) (h8 : k ≤ 8) (hv : v < 256 ^ k) (hm : l.length ≤ 70368744177664)
    (h : ∀ c' w', Step c [i] [i] w c' w' → PenV (view c' i w') a (l ++ be v k) → R (.int .i64 0) w') : CallV Tryd.prog 51 #[.pointer (some a), .int .u64 n, .int .i64 s] w R := by
  subst hn hs
  have h2 : 256 ^ k ≤ 256 ^ 8 := Nat.pow_le_pow_right (by omega) h8
  refine Pen_Uint hp (by omega) (by omega) (fun hb => absurd ⟨by omega, by omega, by simpa using hv⟩ hb) (fun _ c1 w1 st hp => h c1 w1 st (by simpa using hp))
theorem Pen_T {c : Nat → Nat} {i : Nat} {w : World} {a : Addr} {l m : List UInt8} {x : Value} {R : Value → World → Prop} (hp : PenV (view c i w) a l) (q : Nat) (hq : q ≠ i) (hr : RdS (view c q w) x 1 m.length (bvs m)) (hm : m.length < 65536) (hl : l.length ≤ 70368744177664)
    (h : ∀ c' w', Step c [i] [i] w c' w' → PenV (view c' i w') a (l ++ txt m) → R (.int .i64 0) w') : CallV Tryd.prog 52 #[.pointer (some a), x] w R := by
  refine Pen_Text hp (hr.mono (view_sub _ _ _)) ⟨q, hq, hr⟩ (by omega) (fun hb => absurd hm hb) (fun _ c1 w1 st hp => h c1 w1 st (by unfold txt; rw [← List.append_assoc]; exact hp))
theorem Eye_U {c : Nat → Nat} {i : Nat} {w : World} {a : Addr} {l : List UInt8} {n : Int} {R : Value → World → Prop}
    (hp : EyeV (view c i w) a l) (j : Nat) (hij : j ≠ i) (hm : l.length ≤ 140737488355328) (k : Nat) (hn : n = k) (h1 : 1 ≤ k) (h8 : k ≤ 8)
    (h : ∀ c' w', Step c [i] [j] w c' w' → EyeV (view c' i w') a (eU k l).2.1 → R (.tuple #[.int .u64 ((eU k l).1 : Nat), .int .i64 (eU k l).2.2]) w') :
    CallV Tryd.prog 92 #[.pointer (some a), .int .i64 n] w R := by
  subst hn
  refine Eye_Uint hp j hm (fun hb => absurd ⟨by omega, by omega⟩ hb) (fun _ _ hs => ?_) (fun _ _ hs c1 w1 st _ he => ?_)
  · have := h c w (.refl ..)
    unfold eU at this
    rw [if_neg (by omega)] at this
    exact this hp
  · have := h c1 w1 st
    unfold eU at this
    rw [if_pos (by omega)] at this
    rw [Int.toNat_natCast] at *
    exact this he
theorem Eye_T {c : Nat → Nat} {i : Nat} {w : World} {a : Addr} {l : List UInt8} {R : Value → World → Prop}
    (hp : EyeV (view c i w) a l) (j : Nat) (hm : l.length ≤ 140737488355328)
    (h : ∀ v c' w', Step c [i] [j] w c' w' → EyeV (view c' i w') a (eT l).2.1 → OwS (view c' j w') v 5 1 (eT l).1.length (bvs (eT l).1) → R (.tuple #[v, .int .i64 (eT l).2.2]) w') :
    CallV Tryd.prog 97 #[.pointer (some a)] w R := by
  refine Eye_Text hp j hm (fun hs c1 w1 st he => ?_) (fun h2 hn v c1 w1 st he ho => ?_)
  · have := h (.slice none 0 0) c1 w1 st
    unfold eT at this
    rw [if_neg hs] at this
    exact this he (OwS.nil ..)
  · have := h v c1 w1 st
    unfold eT at this
    rw [if_pos ⟨h2, hn⟩] at this
    refine this he ?_
    have hl2 : ((l.drop 2).take (num (l.take 2))).length = num (l.take 2) := by rw [List.length_take, List.length_drop]; omega
    show OwS _ _ _ _ ((l.drop 2).take (num (l.take 2))).length _
    rw [hl2]; exact ho
/-- the document's Text -/
theorem ref_T (c : Nat → Nat) (j : Nat) {w : World} {v : Value} {l : List UInt8} {R : Value → World → Prop} (hr : RdS (wv w) v 1 l.length (bvs l)) (hl : l.length ≤ 1099511627776)
    (h : ∀ v c' w', Step c [] [j] w c' w' → OwS (view c' j w') v 5 1 (if l.length < 65536 then txt l else []).length (bvs (if l.length < 65536 then txt l else [])) → R (.tuple #[v, .int .i64 (if l.length < 65536 then 0 else 23)]) w') :
    CallV Tryd.prog 106 #[v] w R := by
  have D : RdS (view (fun _ => 0) 0 w) v 1 l.length (bvs l) := by rw [view0]; exact hr
  refine ref_Text (fun _ => 0) 1 0 (by omega) D hl (fun hb v c1 w1 st ho => ?_) (fun hb v c1 w1 st ho => ?_)
  · have S := (Fr.start w).go st (by decide) (by decide)
    have := h v _ _ (S.leave c j)
    rw [if_neg hb, if_neg hb] at this
    exact this (ho.mono (S.out c j (by omega)))
  · have S := (Fr.start w).go st (by decide) (by decide)
    have := h v _ _ (S.leave c j)
    rw [if_pos hb, if_pos hb] at this
    exact this (by rw [txt_length]; exact ho.mono (S.out c j (by omega)))
/-- the document's eye with the bytes ahead -/
def REye (h : View) (a : Addr) (vB : Value) (D l : List UInt8) : Prop := ∃ k, RefEye h a vB k ∧ k ≤ D.length ∧ l = D.drop k
theorem REye.mono {h h' : View} {a : Addr} {vB : Value} {D l : List UInt8} (hp : REye h a vB D l) (hs : Sub h h') : REye h' a vB D l := by
  obtain ⟨k, h1, h2, h3⟩ := hp; exact ⟨k, h1.mono hs, h2, h3⟩
theorem REye.len {h : View} {a : Addr} {vB : Value} {D l : List UInt8} (hp : REye h a vB D l) : l.length ≤ D.length := by
  obtain ⟨k, h1, h2, h3⟩ := hp; rw [h3]; simp
theorem REye_U {c : Nat → Nat} {i q : Nat} (j : Nat) {w : World} {a : Addr} {vB : Value} {D l : List UInt8} {n : Int} {R : Value → World → Prop}
    (hij : i ≠ j) (hq : q ≠ i) (hp : REye (view c i w) a vB D l) (hB : RdS (view c q w) vB 1 D.length (bvs D)) (hD : D.length ≤ 1099511627776) (k : Nat) (hn : n = k) (h1 : 1 ≤ k) (h8 : k ≤ 8)
    (h : ∀ c' w', Step c [i] [j] w c' w' → REye (view c' i w') a vB D (eU k l).2.1 → R (.tuple #[.int .u64 ((eU k l).1 : Nat), .int .i64 (eU k l).2.2]) w') :
    CallV Tryd.prog 70 #[.pointer (some a), .int .i64 n] w R := by
  subst hn
  obtain ⟨p, hr, hpD, rfl⟩ := hp
  have hl : (D.drop p).length = D.length - p := by simp
  refine ref_Eye_Uint j hij hq hr hB hpD hD (fun hb => absurd ⟨by omega, by omega⟩ hb) (fun _ _ hs c1 w1 st => ?_) (fun _ _ hs c1 w1 st he => ?_)
  · have := h c1 w1 (st.weak (by simp) (by simp))
    unfold eU at this
    rw [if_neg (by omega)] at this
    exact this ⟨p, hr.mono (st.sub (by simp)), hpD, rfl⟩
  · have := h c1 w1 st
    unfold eU at this
    rw [if_pos (by omega)] at this
    rw [Int.toNat_natCast] at *
    exact this ⟨p + k, he, by omega, by rw [List.drop_drop]⟩
theorem REye_T {c : Nat → Nat} {i q : Nat} (j : Nat) {w : World} {a : Addr} {vB : Value} {D l : List UInt8} {R : Value → World → Prop}
    (hij : i ≠ j) (hq : q ≠ i) (hp : REye (view c i w) a vB D l) (hB : RdS (view c q w) vB 1 D.length (bvs D)) (hD : D.length ≤ 1099511627776)
    (h : ∀ v c' w', Step c [i] [j] w c' w' → REye (view c' i w') a vB D (eT l).2.1 → OwS (view c' j w') v 5 1 (eT l).1.length (bvs (eT l).1) → R (.tuple #[v, .int .i64 (eT l).2.2]) w') :
    CallV Tryd.prog 67 #[.pointer (some a)] w R := by
  obtain ⟨p, hr, hpD, rfl⟩ := hp
  have hl : (D.drop p).length = D.length - p := by simp
  refine ref_Eye_Text j hij hq hr hB hpD hD (fun hs v c1 w1 st ho => ?_) (fun h2 hn v c1 w1 st he ho => ?_)
  · have := h v c1 w1 (st.weak (by simp) (by simp))
    unfold eT at this
    rw [if_neg (by rw [hl]; exact hs)] at this
    exact this ⟨p, hr.mono (st.sub (by simp)), hpD, rfl⟩ ho
  · have := h v c1 w1 st
    unfold eT at this
    rw [if_pos (by rw [hl]; exact ⟨h2, hn⟩)] at this
    refine this ⟨_, he, by omega, ?_⟩ ?_
    · show ((D.drop p).drop 2).drop (num ((D.drop p).take 2)) = _
      rw [List.drop_drop, List.drop_drop]; congr 1; omega
    · have hl2 : (((D.drop p).drop 2).take (num ((D.drop p).take 2))).length = num ((D.drop p).take 2) := by rw [List.length_take, List.length_drop, hl]; omega
      show OwS _ _ _ _ (((D.drop p).drop 2).take (num ((D.drop p).take 2))).length (bvs (((D.drop p).drop 2).take (num ((D.drop p).take 2))))
      rw [hl2, List.drop_drop]; exact ho
theorem REye_E {c : Nat → Nat} {i q : Nat} {w : World} {a : Addr} {vB : Value} {D l : List UInt8} {R : Value → World → Prop}
    (hp : REye (view c i w) a vB D l) (hB : RdS (view c q w) vB 1 D.length (bvs D)) (h : ∀ w', Step c [] [] w c w' → R (.int .i64 (eE l)) w') :
    CallV Tryd.prog 72 #[.pointer (some a)] w R := by
  obtain ⟨p, hr, hpD, rfl⟩ := hp
  exact ref_Eye_End hr hB hpD (h _ (Step.refl c [] [] w).drew)
end Go.Proofs.YtdjgdcafmfheoaaDoor

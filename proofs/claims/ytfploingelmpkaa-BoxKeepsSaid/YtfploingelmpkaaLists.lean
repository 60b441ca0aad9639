/-
  Slices of things: each thing lies in so many cells, and what they tell may lie elsewhere.
-/
import Derived.Test.YtfploingelmpkaaFrame
set_option linter.unusedVariables false
set_option linter.unusedSimpArgs false
namespace Go.Vc
open Go

section
variable {α : Type} {P : View → α → List Value → Prop}
def LsV (P : View → α → List Value → Prop) (z : Nat) (h : View) (v : Value) (l : List α) : Prop := ∃ xs, RdS h v z l.length xs ∧ ∀ (i : Nat) (a : α), l[i]? = some a → P h a ((xs.drop (i * z)).take z)
theorem LsV.mono' {z : Nat} {h h' : View} {v : Value} {l : List α} (hP : ∀ a es, P h a es → P h' a es) (hl : LsV P z h v l) (hs : Sub h h') : LsV P z h' v l := by
  obtain ⟨xs, hr, hx⟩ := hl
  exact ⟨xs, hr.mono hs, fun i a hi => hP _ _ (hx i a hi)⟩
theorem LsV.form {z : Nat} {h : View} {v : Value} {l : List α} (hl : LsV P z h v l) : ∃ o c, v = .slice o l.length c := by
  obtain ⟨xs, hr, hx⟩ := hl; exact hr.form
theorem slot_get {xs : List Value} {i z k : Nat} {u : Value} (h : ((xs.drop (i * z)).take z)[k]? = some u) : xs[i * z + k]? = some u := by
  rw [List.getElem?_take] at h
  split at h
  · rwa [List.getElem?_drop] at h
  · simp at h
theorem slot_length {xs : List Value} {i z n : Nat} (hl : xs.length = n * z) (hi : i < n) : ((xs.drop (i * z)).take z).length = z := by
  have : (i + 1) * z ≤ n * z := Nat.mul_le_mul_right _ hi
  rw [Nat.succ_mul] at this
  rw [List.length_take, List.length_drop, hl]; omega
structure Elt (h : View) (o : Option Addr) (z i : Nat) (es : List Value) : Prop where
  len : es.length = z
  ld : ∀ {w : World} (hs : Sub h (Vc.wv w)) {k : Nat} {u : Value} (hu : es[k]? = some u) {K : Value → Prop}, K u → TSome o fun a => LoadC w ((a.add ((i : Int).toNat * z)).add k) K
  ld0 : ∀ {w : World} (hs : Sub h (Vc.wv w)) {u : Value} (hu : es[0]? = some u) {K : Value → Prop}, K u → TSome o fun a => LoadC w (a.add ((i : Int).toNat * z)) K
  all : ∀ {w : World} (hs : Sub h (Vc.wv w)) {K : Array Value → Prop}, K es.toArray → TSome o fun a => LoadA w (a.add ((i : Int).toNat * z)) z K
  adr : 0 < z → ∃ a, o = some a ∧ ∀ {w : World} (hs : Sub h (Vc.wv w)) {k : Nat} {u : Value}, es[k]? = some u → w.cell? ((a.add ((i : Int).toNat * z)).add k) = some u
  blk : 0 < z → ∃ b off cs T fz, o = some ⟨b, off, none⟩ ∧ h b = some (.cells cs T fz) ∧ ∀ (k : Nat) (u : Value), es[k]? = some u → cs[off + i * z + k]? = some u
theorem Elt.mono {h h' : View} {o : Option Addr} {z i : Nat} {es : List Value} (E : Elt h o z i es) (hs : Sub h h') : Elt h' o z i es :=
  ⟨E.len, fun h2 => E.ld (hs.trans h2), fun h2 => E.ld0 (hs.trans h2), fun h2 => E.all (hs.trans h2), fun hp => by
    obtain ⟨a, e, hc⟩ := E.adr hp; exact ⟨a, e, fun h2 => hc (hs.trans h2)⟩, fun hp => by
    obtain ⟨b, off, cs, T, fz, e, hb, hc⟩ := E.blk hp; exact ⟨b, off, cs, T, fz, e, hs _ _ hb, hc⟩⟩
theorem LsV.at {z : Nat} (hz : 0 < z) {h : View} {o : Option Addr} {n c : Nat} {l : List α} (hl : LsV P z h (.slice o n c) l) {i : Nat} {a : α} (hi : l[i]? = some a) :
    ∃ es, P h a es ∧ Elt h o z i es := by
  obtain ⟨xs, hr, hx⟩ := hl
  have hlt := lt_of_get hi
  have hlen := hr.len
  refine ⟨_, hx i a hi, slot_length (n := l.length) hlen.2.2 hlt, fun hs k u hu K hK => hr.eltk hs (slot_get hu) hK, fun hs u hu K hK => ?_, fun hs K hK => hr.elta hs _ hz (slot_length (n := l.length) hlen.2.2 hlt) (fun k u hu => slot_get hu) hK, fun hp => ?_, fun hp => ?_⟩
  · have hu := slot_get hu
    obtain ⟨b, off, cs, T, fz, rfl, hb, hc⟩ := hr.base (by intro e; rw [e] at hu; simp at hu)
    refine TSome.mk ?_
    rw [addr_add, Int.toNat_natCast]
    exact LoadC.at hs hb (hc _ _ hu) hK
  · have h0 := slot_length (xs := xs) (n := l.length) (z := z) hlen.2.2 hlt
    obtain ⟨b, off, cs, T, fz, rfl, hb, hc⟩ := hr.base (by intro e; rw [e] at h0; simp at h0; omega)
    refine ⟨_, rfl, fun hs k u hu => ?_⟩
    rw [addr_add, addr_add, Int.toNat_natCast, cell_of_row _ _ _ cs T fz (hs _ _ hb), Nat.add_assoc]
    exact hc _ _ (slot_get hu)
  · have h0 := slot_length (xs := xs) (n := l.length) (z := z) hlen.2.2 hlt
    obtain ⟨b, off, cs, T, fz, rfl, hb, hc⟩ := hr.base (by intro e; rw [e] at h0; simp at h0; omega)
    exact ⟨b, off, cs, T, fz, rfl, hb, fun k u hu => by rw [Nat.add_assoc]; exact hc _ _ (slot_get hu)⟩
theorem LsV.len {z : Nat} {h : View} {o : Option Addr} {n c : Nat} {l : List α} (hl : LsV P z h (.slice o n c) l) : n = l.length ∧ l.length ≤ c := by
  obtain ⟨xs, hr, hx⟩ := hl; exact ⟨hr.len.1, hr.len.2.1⟩
theorem LsV.nil (z : Nat) (h : View) (o : Option Addr) (c : Nat) : LsV P z h (.slice o 0 c) ([] : List α) := ⟨[], RdS.nil .., fun i a h => by simp at h⟩
theorem slot_drop {xs : List Value} {i k z : Nat} : ((xs.drop (k * z)).drop (i * z)).take z = (xs.drop ((k + i) * z)).take z := by
  rw [List.drop_drop, ← Nat.add_mul]
theorem slot_take {xs : List Value} {i k z : Nat} (h : i < k) : ((xs.take (k * z)).drop (i * z)).take z = (xs.drop (i * z)).take z := by
  have : (i + 1) * z ≤ k * z := Nat.mul_le_mul_right _ h
  rw [Nat.succ_mul] at this
  rw [List.drop_take, List.take_take, Nat.min_eq_left (by omega)]
theorem LsV.drop {z : Nat} {h : View} {o : Option Addr} {n c : Nat} {l : List α} (hl : LsV P z h (.slice o n c) l) {k : Nat} (hk : k ≤ l.length) : LsV P z h (.slice (slBase o c k z) (n - k) (c - k)) (l.drop k) := by
  obtain ⟨xs, hr, hx⟩ := hl
  refine ⟨xs.drop (k * z), by rw [List.length_drop]; exact hr.drop hk, fun i a hi => ?_⟩
  rw [List.getElem?_drop] at hi
  rw [slot_drop]; exact hx _ a hi
theorem LsV.take {z : Nat} {h : View} {o : Option Addr} {n c : Nat} {l : List α} (hl : LsV P z h (.slice o n c) l) {k : Nat} (hk : k ≤ l.length) : LsV P z h (.slice (slBase o c 0 z) k c) (l.take k) := by
  obtain ⟨xs, hr, hx⟩ := hl
  refine ⟨xs.take (k * z), by rw [List.length_take, Nat.min_eq_left hk]; exact hr.take hk, fun i a hi => ?_⟩
  have := lt_of_get hi
  rw [List.length_take] at this
  rw [List.getElem?_take, if_pos (by omega)] at hi
  rw [slot_take (by omega)]; exact hx _ a hi
theorem LsV.short {z : Nat} {h : View} {o : Option Addr} {n c : Nat} {l : List α} (hl : LsV P z h (.slice o n c) l) {k : Nat} (hk : k ≤ l.length) : LsV P z h (.slice o k c) (l.take k) := by
  obtain ⟨xs, hr, hx⟩ := hl
  refine ⟨xs.take (k * z), by rw [List.length_take, Nat.min_eq_left hk]; exact hr.short hk, fun i a hi => ?_⟩
  have := lt_of_get hi
  rw [List.length_take] at this
  rw [List.getElem?_take, if_pos (by omega)] at hi
  rw [slot_take (by omega)]; exact hx _ a hi

/-- a row of one's own (its cells in h, the things in h') -/
def LsO (P : View → α → List Value → Prop) (T z : Nat) (h h' : View) (v : Value) (l : List α) : Prop := ∃ xs, OwS h v T z l.length xs ∧ ∀ (i : Nat) (a : α), l[i]? = some a → P h' a ((xs.drop (i * z)).take z)
theorem LsO.mono' {T z : Nat} {h g h' g' : View} {v : Value} {l : List α} (hP : ∀ a es, P g a es → P g' a es) (hl : LsO P T z h g v l) (hs : Sub h h') : LsO P T z h' g' v l := by
  obtain ⟨xs, hr, hx⟩ := hl
  exact ⟨xs, hr.mono hs, fun i a hi => hP _ _ (hx i a hi)⟩
theorem LsO.form {T z : Nat} {h g : View} {v : Value} {l : List α} (hl : LsO P T z h g v l) : ∃ o c, v = .slice o l.length c := by
  obtain ⟨xs, hr, hx⟩ := hl; exact hr.form
theorem LsO.len {T z : Nat} {h g : View} {o : Option Addr} {n c : Nat} {l : List α} (hl : LsO P T z h g (.slice o n c) l) : n = l.length := by
  obtain ⟨xs, hr, hx⟩ := hl; exact hr.rd.len.1
theorem LsO.rd {T z : Nat} {h g k : View} {v : Value} {l : List α} (hl : LsO P T z h g v l) (hP : ∀ a es, P g a es → P k a es) (hs : Sub h k) : LsV P z k v l := by
  obtain ⟨xs, hr, hx⟩ := hl
  exact ⟨xs, hr.rd.mono hs, fun i a hi => hP _ _ (hx i a hi)⟩
theorem LsO.nil (T z : Nat) (h g : View) : LsO P T z h g (.slice none 0 0) ([] : List α) := ⟨[], OwS.nil .., fun i a h => by simp at h⟩
theorem LsO.empty {T z : Nat} {h g : View} {b : Nat} (hb : h b = some (.cells #[] T (0, 0))) : LsO P T z h g (.slice (some ⟨b, 0, none⟩) 0 0) ([] : List α) := ⟨[], OwS.empty hb, fun i a h => by simp at h⟩
/-- the row can be read in h, the things in g -/
def LsW (P : View → α → List Value → Prop) (z : Nat) (h g : View) (v : Value) (l : List α) : Prop := ∃ xs, RdS h v z l.length xs ∧ ∀ (i : Nat) (a : α), l[i]? = some a → P g a ((xs.drop (i * z)).take z)
theorem LsW.one {z : Nat} {h g : View} {b : Nat} {es : List Value} {T : Nat} {fz : Nat × Nat} {a : α} (hb : h b = some (.cells es.toArray T fz)) (hl : es.length = z) (hP : P g a es) : LsW P z h g (.slice (some ⟨b, 0, none⟩) 1 1) [a] := by
  refine ⟨es, RdS.block hb (by simpa using hl) (Nat.le_refl _), fun i x hi => ?_⟩
  have := lt_of_get hi
  have : i = 0 := by simpa using this
  subst this
  simp at hi
  subst hi
  rw [Nat.zero_mul, List.drop_zero, List.take_of_length_le (by omega)]; exact hP
theorem LsV.toW {z : Nat} {h g k : View} {v : Value} {l : List α} (hl : LsV P z h v l) (hs : Sub h k) (hP : ∀ a es, P h a es → P g a es) : LsW P z k g v l := by
  obtain ⟨xs, hr, hx⟩ := hl; exact ⟨xs, hr.mono hs, fun i a hi => hP _ _ (hx i a hi)⟩
theorem LsO.toW {T z : Nat} {h g k f : View} {v : Value} {l : List α} (hl : LsO P T z h g v l) (hs : Sub h k) (hP : ∀ a es, P g a es → P f a es) : LsW P z k f v l := by
  obtain ⟨xs, hr, hx⟩ := hl; exact ⟨xs, hr.rd.mono hs, fun i a hi => hP _ _ (hx i a hi)⟩
/-- append of things -/
theorem LsO.app {Pr : Program} {t e z by' ty : Nat} (hT : SlT Pr t e z by') {c : Nat → Nat} {i : Nat} {g : View} {w : World} {s x : Value} {l m : List α} (hl : LsO P e z (view c i w) g s l) (hr : LsW P z (wv w) g x m)
    (h1 : ∀ a es, P g a es → ∀ u ∈ es, u.oneCell' = true) (hb : (l.length + m.length) * by' ≤ 140737488355328) (hm : l.length + m.length ≤ 140737488355328) {K : Value → World → Prop}
    (h : ∀ o cp c' w', Wr c i w c' w' s.ownBlock → LsO P e z (view c' i w') g (.slice o (l ++ m).length cp) (l ++ m) → K (.slice o (l ++ m).length cp) w') :
    RunV Pr (Builtin.append_ #[t, t] ty #[s, x]) w K := by
  obtain ⟨xs, ho, hx⟩ := hl
  obtain ⟨ys, hy, hyx⟩ := hr
  have hxl := ho.1
  have hyl : ys.length = m.length * z := by obtain ⟨_, _, rfl⟩ := hy.form; exact hy.len.2.2
  refine append_col hT ho hy (fun u hu => ?_) hb hm fun v' c' w' hW ho' _ => ?_
  · obtain ⟨k, hk⟩ := List.getElem?_of_mem hu
    have hkl := lt_of_get hk
    rw [hyl] at hkl
    have hq : k / z < m.length := Nat.div_lt_of_lt_mul (by rwa [Nat.mul_comm])
    obtain ⟨a, ha⟩ := get_of_lt hq
    refine h1 a _ (hyx _ a ha) u ?_
    refine List.mem_of_getElem? (i := k % z) ?_
    have hzp := Nat.mod_lt k hT.pos
    rw [List.getElem?_take, if_pos hzp, List.getElem?_drop]
    have : k / z * z + k % z = k := by rw [Nat.mul_comm]; exact Nat.div_add_mod k z
    rw [this]; exact hk
  · rw [← List.length_append] at ho'
    obtain ⟨o, cp, rfl⟩ := ho'.form
    refine h o cp c' w' hW ⟨xs ++ ys, ho', fun i a hi => ?_⟩
    rcases Nat.lt_or_ge i l.length with hlt | hge
    · rw [List.getElem?_append_left hlt] at hi
      have : ((xs ++ ys).drop (i * z)).take z = (xs.drop (i * z)).take z := by
        have h2 : (i + 1) * z ≤ l.length * z := Nat.mul_le_mul_right _ hlt
        rw [Nat.succ_mul] at h2
        rw [List.drop_append_of_le_length (by omega), List.take_append_of_le_length (by rw [List.length_drop]; omega)]
      rw [this]; exact hx i a hi
    · rw [List.getElem?_append_right hge] at hi
      have : ((xs ++ ys).drop (i * z)).take z = (ys.drop ((i - l.length) * z)).take z := by
        have h2 : l.length * z ≤ i * z := Nat.mul_le_mul_right _ hge
        rw [List.drop_append, List.drop_eq_nil_of_le (by omega), List.nil_append, hxl, Nat.sub_mul]
      rw [this]; exact hyx _ a hi
/-- one thing in a block of its own -/
theorem LsV.one {z : Nat} {h g : View} {b : Nat} {es : List Value} {T : Nat} {fz : Nat × Nat} {a : α} (hb : h b = some (.cells es.toArray T fz)) (hl : es.length = z) (hP : P h a es) : LsV P z h (.slice (some ⟨b, 0, none⟩) 1 1) [a] := by
  refine ⟨es, RdS.block hb (by simpa using hl) (Nat.le_refl _), fun i x hi => ?_⟩
  have := lt_of_get hi
  have : i = 0 := by simpa using this
  subst this
  simp at hi
  subst hi
  rw [Nat.zero_mul, List.drop_zero, List.take_of_length_le (by omega)]; exact hP
end

/-! lists of bytes, numbers, pairs -/
def BytesP (h : View) (k : List UInt8) (es : List Value) : Prop := ∃ v, es = [v] ∧ RdS h v 1 k.length (bvs k)
theorem BytesP.mono {h h' : View} {k : List UInt8} {es : List Value} (hp : BytesP h k es) (hs : Sub h h') : BytesP h' k es := by
  obtain ⟨v, e, hr⟩ := hp; exact ⟨v, e, hr.mono hs⟩
theorem BytesP.ones {h : View} {k : List UInt8} {es : List Value} (hp : BytesP h k es) : ∀ u ∈ es, u.oneCell' = true := by
  obtain ⟨v, rfl, hr⟩ := hp
  obtain ⟨o, c, rfl⟩ := hr.form
  intro u hu; simp at hu; subst hu; rfl
def BlsV (h : View) (v : Value) (l : List (List UInt8)) : Prop := LsV BytesP 1 h v l
theorem BlsV.mono {h h' : View} {v : Value} {l : List (List UInt8)} (hl : BlsV h v l) (hs : Sub h h') : BlsV h' v l := LsV.mono' (fun _ _ hp => hp.mono hs) hl hs
abbrev PairR := List UInt8 × List UInt8
def PairP (h : View) (p : PairR) (es : List Value) : Prop := ∃ v u, es = [v, u] ∧ RdS h v 1 p.1.length (bvs p.1) ∧ RdS h u 1 p.2.length (bvs p.2)
theorem PairP.mono {h h' : View} {k : PairR} {es : List Value} (hp : PairP h k es) (hs : Sub h h') : PairP h' k es := by
  obtain ⟨v, u, e, hr, hq⟩ := hp; exact ⟨v, u, e, hr.mono hs, hq.mono hs⟩
theorem PairP.ones {h : View} {k : PairR} {es : List Value} (hp : PairP h k es) : ∀ u ∈ es, u.oneCell' = true := by
  obtain ⟨v, u, rfl, hr, hq⟩ := hp
  obtain ⟨o, c, rfl⟩ := hr.form
  obtain ⟨o, c, rfl⟩ := hq.form
  intro u hu; simp at hu; rcases hu with rfl | rfl <;> rfl
def PairsV (h : View) (v : Value) (l : List PairR) : Prop := LsV PairP 2 h v l
theorem PairsV.mono {h h' : View} {v : Value} {l : List PairR} (hl : PairsV h v l) (hs : Sub h h') : PairsV h' v l := LsV.mono' (fun _ _ hp => hp.mono hs) hl hs

def iv (n : Nat) : Value := .int .i64 (n : Int)
def ivs (l : List Nat) : List Value := l.map iv
@[simp] theorem ivs_length (l : List Nat) : (ivs l).length = l.length := by simp [ivs]
@[simp] theorem ivs_append (l m : List Nat) : ivs (l ++ m) = ivs l ++ ivs m := by simp [ivs]
theorem ivs_one (l : List Nat) : ∀ u ∈ ivs l, u.oneCell' = true := by
  intro u hu; obtain ⟨x, _, rfl⟩ := List.mem_map.1 hu; rfl
theorem ivs_get (l : List Nat) (k : Nat) : (ivs l)[k]? = l[k]?.map iv := by simp [ivs]
theorem ivs_drop (l : List Nat) (k : Nat) : ivs (l.drop k) = (ivs l).drop k := by simp [ivs, List.map_drop]
theorem ivs_take (l : List Nat) (k : Nat) : ivs (l.take k) = (ivs l).take k := by simp [ivs, List.map_take]
theorem app_ints {P : Program} {t e ty : Nat} (hT : SlT P t e 1 8) {c : Nat → Nat} {i : Nat} {w : World} {s x : Value} {l m : List Nat} (ho : OwS (view c i w) s e 1 l.length (ivs l)) (hr : RdS (Vc.wv w) x 1 m.length (ivs m))
    (hm : l.length + m.length ≤ 8796093022208) {K : Value → World → Prop}
    (h : ∀ o cp c' w', Wr c i w c' w' s.ownBlock → OwS (view c' i w') (.slice o (l ++ m).length cp) e 1 (l ++ m).length (ivs (l ++ m)) → K (.slice o (l ++ m).length cp) w') :
    RunV P (Builtin.append_ #[t, t] ty #[s, x]) w K := by
  refine append_col hT ho hr (ivs_one _) (by omega) (by omega) fun v' c' w' h1 h2 _ => ?_
  rw [← List.length_append, ← ivs_append] at h2
  obtain ⟨o, cp, rfl⟩ := h2.form
  exact h o cp c' w' h1 h2
end Go.Vc

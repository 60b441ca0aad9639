/-
  The frame of a function that leaves all that was there: what was there has colour 0; its own has colours 1 to 9, or 0 if it is left alone from then on.
-/
import Derived.Test.YtfploingelmpkaaHp3
set_option linter.unusedVariables false
namespace Go.Vc
open Go

abbrev Fr (w0 : World) (c : Nat → Nat) (w : World) : Prop := Step (fun _ => 0) [1, 2, 3, 4, 5, 6, 7, 8, 9] [0, 1, 2, 3, 4, 5, 6, 7, 8, 9] w0 c w
theorem Fr.start (w : World) : Fr w (fun _ => 0) w := .refl ..
theorem Fr.go {w0 : World} {c c' : Nat → Nat} {w w' : World} {W N : List Nat} (S : Fr w0 c w) (st : Step c W N w c' w') (hW : ∀ x ∈ W, x ∈ [1, 2, 3, 4, 5, 6, 7, 8, 9]) (hN : ∀ x ∈ N, x ∈ [0, 1, 2, 3, 4, 5, 6, 7, 8, 9]) : Fr w0 c' w' :=
  S.trans (st.weak hW hN)
theorem Fr.leave {w0 : World} {c : Nat → Nat} {w : World} (S : Fr w0 c w) (c0 : Nat → Nat) (j : Nat) : Step c0 [] [j] w0 (ext c0 w0.heap.size j) w :=
  ⟨S.os, S.tape, S.output, S.size, fun b hb => ext_old hb, fun b h1 _ => by rw [ext_new h1]; simp, fun b hb _ => S.keep b hb (by simp)⟩
theorem Fr.out {w0 : World} {c : Nat → Nat} {w : World} (S : Fr w0 c w) (c0 : Nat → Nat) (j : Nat) {k : Nat} (hk : k ≠ 0) : Sub (view c k w) (view (ext c0 w0.heap.size j) j w) := fun b o hb => by
  obtain ⟨hc, ho⟩ := view_out hb
  refine view_in ?_ ho
  rcases Nat.lt_or_ge b w0.heap.size with h | h
  · exact absurd ((S.col b h).symm.trans hc) (fun e => hk e.symm)
  · exact ext_new h
theorem Fr.below {w0 : World} {c : Nat → Nat} {w : World} (S : Fr w0 c w) : ∀ b, b < w0.heap.size → w.heap[b]? = w0.heap[b]? := fun b hb => S.keep b hb (by simp)
/-- the world has only drawn -/
theorem DrewC.col (c : Nat → Nat) {w : World} {C : World → Prop} (h : ∀ w', Step c [] [] w c w' → C w') : DrewC w C := h _ (Step.refl c [] [] w).drew
theorem view0 (w : World) : view (fun _ => 0) 0 w = wv w := by funext b; simp [view, wv]
theorem Step.wv {c c' : Nat → Nat} {N : List Nat} {w w' : World} (h : Step c [] N w c' w') : Sub (wv w) (Vc.wv w') := fun b o hb => (h.keep b (lt_of_heap hb) (by simp)).trans hb

/-- whole variables by their blocks -/
theorem RunU.var {P : Program} {ty T : TypeId} {c : Nat → Nat} {i : Nat} {w : World} {b : Nat} {old cells : Array Value} {C : World → Prop} (hb : view c i w b = some (.cells old T (0, 0)))
    (hi : (P.info? ty).map (·.size) = some cells.size) (ho : old.size = cells.size) (h1 : cells.all (·.oneCell') = true)
    (h : ∀ w', Wr c i w c w' (some b) → view c i w' b = some (.cells cells T (0, 0)) → C w') : RunU P (storeVar ty ⟨b, 0, none⟩ (.agg cells)) w C :=
  storeVar_col hb hi ho h1 fun w' hW _ hb => h w' hW hb

theorem OwS.len {h : View} {o : Option Addr} {l c T z n : Nat} {xs : List Value} (ho : OwS h (.slice o l c) T z n xs) : l = n ∧ n ≤ c ∧ xs.length = n * z := ho.rd.len
/-- append of bytes to a slice of one's own -/
theorem app_bytes {P : Program} {t e ty : Nat} (hT : SlT P t e 1 1) {c : Nat → Nat} {i : Nat} {w : World} {s x : Value} {l m : List UInt8} (ho : OwS (view c i w) s e 1 l.length (bvs l)) (hr : RdS (Vc.wv w) x 1 m.length (bvs m))
    (hm : l.length + m.length ≤ 140737488355328) {K : Value → World → Prop}
    (h : ∀ o cp c' w', Wr c i w c' w' s.ownBlock → OwS (view c' i w') (.slice o (l ++ m).length cp) e 1 (l ++ m).length (bvs (l ++ m)) → K (.slice o (l ++ m).length cp) w') :
    RunV P (Builtin.append_ #[t, t] ty #[s, x]) w K := by
  refine append_col hT ho hr (bvs_one _) (by omega) hm fun v' c' w' h1 h2 _ => ?_
  rw [← List.length_append, ← bvs_append] at h2
  obtain ⟨o, cp, rfl⟩ := h2.form
  exact h o cp c' w' h1 h2
theorem OwS.none_bytes (h : View) (T : Nat) : OwS h (.slice none 0 0) T 1 ([] : List UInt8).length (bvs []) := OwS.nil ..
theorem OwS.some_bytes {h : View} {b T : Nat} (hb : h b = some (.cells #[] T (0, 0))) : OwS h (.slice (some ⟨b, 0, none⟩) 0 0) T 1 ([] : List UInt8).length (bvs []) := OwS.empty hb
theorem OwS.some_strs {h : View} {b T : Nat} (hb : h b = some (.cells #[] T (0, 0))) : OwS h (.slice (some ⟨b, 0, none⟩) 0 0) T 1 ([] : List (List UInt8)).length (svs []) := OwS.empty hb
theorem OwS.none_strs (h : View) (T : Nat) : OwS h (.slice none 0 0) T 1 ([] : List (List UInt8)).length (svs []) := OwS.nil ..
theorem RdS.none_strs (h : View) (o : Option Addr) (c : Nat) : RdS h (.slice o 0 c) 1 ([] : List (List UInt8)).length (svs []) := RdS.nil ..
theorem RdS.none_bytes (h : View) (o : Option Addr) (c : Nat) : RdS h (.slice o 0 c) 1 ([] : List UInt8).length (bvs []) := RdS.nil ..
/-- a literal of bytes -/
theorem OwS.lit {h : View} {b T n : Nat} {cs : Array Value} (hb : h b = some (.cells cs T (0, 0))) (l : List UInt8) (hx : cs.toList = bvs l) (hn : l.length = n) (hm : n ≤ maxLen) : OwS h (.slice (some ⟨b, 0, none⟩) n n) T 1 l.length (bvs l) := by
  subst hn; exact OwS.whole hb hx (by simp) hm
theorem RdS.elt {h : View} {w : World} (hs : Sub h (Vc.wv w)) {o : Option Addr} {l c n : Nat} {xs : List Value} (hr : RdS h (.slice o l c) 1 n xs) {i : Nat} {u : Value} (hu : xs[i]? = some u) {K : Value → Prop} (hK : K u) :
    TSome o fun a => LoadC w (a.add ((i : Int).toNat * 1)) K := by
  obtain ⟨a, rfl, hc⟩ := (hr.mono hs).cell hu
  exact TSome.mk (LoadC.mk (by rw [Int.toNat_natCast, Nat.mul_one]; exact hc) hK)
theorem RdS.eltc {h : View} {w : World} (hs : Sub h (Vc.wv w)) {o : Option Addr} {l c n : Nat} {xs : List Value} (hr : RdS h (.slice o l c) 1 n xs) {k : Nat} {u : Value} (hu : xs[k]? = some u) {K : Value → Prop} (hK : K u) :
    TSome o fun a => LoadC w (a.add k) K := by
  obtain ⟨a, rfl, hc⟩ := (hr.mono hs).cell hu
  exact TSome.mk (LoadC.mk hc hK)
theorem RdS.eltk {h : View} {w : World} (hs : Sub h (Vc.wv w)) {o : Option Addr} {l c z n : Nat} {xs : List Value} (hr : RdS h (.slice o l c) z n xs) {i k : Nat} {u : Value} (hu : xs[i * z + k]? = some u) {K : Value → Prop} (hK : K u) :
    TSome o fun a => LoadC w ((a.add ((i : Int).toNat * z)).add k) K := by
  obtain ⟨b, off, cs, T, fz, rfl, hb, hc⟩ := hr.base (by intro e; rw [e] at hu; simp at hu)
  refine TSome.mk ?_
  rw [addr_add, addr_add, Int.toNat_natCast, Nat.add_assoc]
  exact LoadC.at hs hb (hc _ _ hu) hK
theorem RdS.elta {h : View} {w : World} (hs : Sub h (Vc.wv w)) {o : Option Addr} {l c z n : Nat} {xs : List Value} (hr : RdS h (.slice o l c) z n xs) {i : Nat} (es : List Value) (hz : 0 < z) (hn : es.length = z) (hu : ∀ k u, es[k]? = some u → xs[i * z + k]? = some u) {K : Array Value → Prop} (hK : K es.toArray) :
    TSome o fun a => LoadA w (a.add ((i : Int).toNat * z)) z K := by
  obtain ⟨b, off, cs, T, fz, rfl, hb, hc⟩ := hr.base (by intro e; have := hu 0 (es[0]'(by omega)) (List.getElem?_eq_getElem _); rw [e] at this; simp at this)
  refine TSome.mk ?_
  rw [addr_add, Int.toNat_natCast]
  exact LoadA.at hs hb hn (fun k u hk => by rw [Nat.add_assoc]; exact hc _ _ (hu k u hk)) hK
/-- append of texts to a slice of one's own -/
theorem app_strs {P : Program} {t e ty : Nat} (hT : SlT P t e 1 16) {c : Nat → Nat} {i : Nat} {w : World} {s x : Value} {l m : List (List UInt8)} (ho : OwS (view c i w) s e 1 l.length (svs l)) (hr : RdS (Vc.wv w) x 1 m.length (svs m))
    (hm : l.length + m.length ≤ 8796093022208) {K : Value → World → Prop}
    (h : ∀ o cp c' w', Wr c i w c' w' s.ownBlock → OwS (view c' i w') (.slice o (l ++ m).length cp) e 1 (l ++ m).length (svs (l ++ m)) → K (.slice o (l ++ m).length cp) w') :
    RunV P (Builtin.append_ #[t, t] ty #[s, x]) w K := by
  refine append_col hT ho hr (svs_one _) (by omega) (by omega) fun v' c' w' h1 h2 _ => ?_
  rw [← List.length_append, ← svs_append] at h2
  obtain ⟨o, cp, rfl⟩ := h2.form
  exact h o cp c' w' h1 h2
theorem lt_of_get {α : Type} {l : List α} {i : Nat} {x : α} (h : l[i]? = some x) : i < l.length := by
  rcases Nat.lt_or_ge i l.length with h' | h'
  · exact h'
  · rw [List.getElem?_eq_none h'] at h; simp at h
theorem get_of_lt {α : Type} {l : List α} {i : Nat} (h : i < l.length) : ∃ x, l[i]? = some x := ⟨l[i], List.getElem?_eq_getElem _⟩
theorem StableC.mk {w : World} {a : Addr} {v : Value} (h : w.cell? a = some v) : StableC w a v := h
theorem Wr.step0 {c0 c c' : Nat → Nat} {i : Nat} {w0 w w' : World} {N : List Nat} (h0 : Step c0 [] N w0 c w) (hN : i ∈ N) {x n cp : Nat} (h : Wr c i w c' w' (Value.slice (some ⟨x, 0, none⟩) n cp).ownBlock) (hx : w0.heap.size ≤ x) : Step c0 [] N w0 c' w' :=
  Wr.stepNew h0 hN h (fun b e => by simp [Value.ownBlock] at e; exact e ▸ hx)
/-- blocks of several colours -/
def views (c : Nat → Nat) (L : List Nat) (w : World) : View := fun b => if c b ∈ L then w.heap[b]? else none
theorem views_out {c : Nat → Nat} {L : List Nat} {w : World} {b : Nat} {o : Obj} (h : views c L w b = some o) : c b ∈ L ∧ w.heap[b]? = some o := by
  unfold views at h; split at h
  · exact ⟨‹_›, h⟩
  · simp at h
theorem views_in {c : Nat → Nat} {L : List Nat} {w : World} {b : Nat} {o : Obj} (hc : c b ∈ L) (h : w.heap[b]? = some o) : views c L w b = some o := by
  unfold views; rw [if_pos hc]; exact h
theorem views_sub (c : Nat → Nat) (L : List Nat) (w : World) : Sub (views c L w) (Vc.wv w) := fun b o h => (views_out h).2
theorem view_views {c : Nat → Nat} {i : Nat} {L : List Nat} {w : World} (hi : i ∈ L) : Sub (view c i w) (views c L w) := fun b o h => by
  obtain ⟨hc, ho⟩ := view_out h
  exact views_in (by rw [hc]; exact hi) ho
theorem Step.subs {c c1 : Nat → Nat} {W N : List Nat} {w w1 : World} (h : Step c W N w c1 w1) {L : List Nat} (hL : ∀ i ∈ L, i ∉ W) : Sub (views c L w) (views c1 L w1) := fun b o hb => by
  obtain ⟨hc, ho⟩ := views_out hb
  have hlt := lt_of_heap ho
  exact views_in (by rw [h.col b hlt]; exact hc) (by rw [h.keep b hlt (hL _ hc)]; exact ho)
theorem Fr.outs {w0 : World} {c : Nat → Nat} {w : World} (S : Fr w0 c w) (c0 : Nat → Nat) (j : Nat) {L : List Nat} (hL : 0 ∉ L) : Sub (views c L w) (view (ext c0 w0.heap.size j) j w) := fun b o hb => by
  obtain ⟨hc, ho⟩ := views_out hb
  refine view_in ?_ ho
  rcases Nat.lt_or_ge b w0.heap.size with h | h
  · have := S.col b h
    rw [this] at hc; exact absurd hc hL
  · exact ext_new h
theorem BS.of_no {A B : Prop} (h : BS false A B) : B := h
theorem BS.of_yes {A B : Prop} (h : BS true A B) : A := h
theorem BS.ndec {p : Prop} [Decidable p] {A B : Prop} (ha : ¬ p → A) (hb : p → B) : BS (!decide p) A B := by
  by_cases h : p
  · simp [BS, h, hb h]
  · simp [BS, h, ha h]
theorem BS.nb {b : Bool} {A B : Prop} (ha : b = false → A) (hb : b = true → B) : BS (!b) A B := by
  cases b
  · exact ha rfl
  · exact hb rfl
end Go.Vc

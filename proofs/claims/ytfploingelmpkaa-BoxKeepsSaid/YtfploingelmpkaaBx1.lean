/-
  Boxes: channels in memory; copies of messages; each function of the box once.
-/
import Derived.Test.YtfploingelmpkaaBxM
import Derived.Test.YtfploingelmpkaaVcN
set_option linter.unusedVariables false
set_option linter.unusedSimpArgs false
namespace Go.Vc
open Go
section
variable {P : Program}
theorem chan_same {c : Nat → Nat} {i : Nat} {w : World} {ch cap s r : Nat} {buf : Array Value} {cl : Bool} {o : Obj} (h : view c i w ch = some o) : Wr c i w c (w.setChan ch cap buf cl s r false) (some ch) ∧ Step c [i] [] w c (w.setChan ch cap buf cl s r false) ∧ view c i (w.setChan ch cap buf cl s r false) ch = some (.chan cap buf cl s r false) := by
  obtain ⟨hc, hw⟩ := view_out h
  have hW : Wr c i w c (w.setChan ch cap buf cl s r false) (some ch) := .same ⟨rfl, rfl, rfl, by simp [World.setChan], fun k _ hk => by
    have : ch ≠ k := fun e => hk (by simp [e])
    simp [World.setChan, Array.getElem?_setIfInBounds, this]⟩ (by simp [World.setChan]) (by simp [hc])
  have h0 := hW.step
  have hlt := lt_of_heap hw
  refine ⟨hW, ⟨h0.os, h0.tape, h0.output, h0.size, h0.col, fun b' h1 h2 => by simp [World.setChan] at h2; omega, h0.keep⟩, view_in hc ?_⟩
  simp [World.setChan, Array.getElem?_setIfInBounds, hlt]
theorem SelS.room {c : Nat → Nat} {i : Nat} {w : World} {ch cap s r : Nat} {buf : Array Value} {v : Value} {K : Int → World → Prop} (h : view c i w ch = some (.chan cap buf false s r false)) (hr : buf.size < cap)
    (hK : ∀ w' s', Wr c i w c w' (some ch) → Step c [i] [] w c w' → view c i w' ch = some (.chan cap (buf.push v) false s' r false) → K 0 w') : SelS w (.chan (some ch)) v K := by
  unfold SelS
  have hw := (view_out h).2
  simp only [hw]
  refine ⟨trivial, fun _ => ?_, fun hf => by omega⟩
  obtain ⟨h1, h2, h3⟩ := chan_same (cap := cap) (buf := buf.push v) (cl := false) (s := s + 1) (r := r) h
  exact hK _ _ h1 h2 h3
theorem SelS.full {c : Nat → Nat} {i : Nat} {w : World} {ch cap s r : Nat} {buf : Array Value} {v : Value} {K : Int → World → Prop} (h : view c i w ch = some (.chan cap buf false s r false)) (hr : cap ≤ buf.size)
    (hK : K (-1) w) : SelS w (.chan (some ch)) v K := by
  unfold SelS
  have hw := (view_out h).2
  simp only [hw]
  exact ⟨trivial, fun hf => by omega, fun _ => hK⟩
theorem SelR.has {c : Nat → Nat} {i : Nat} {w : World} {ch cap s r : Nat} {buf : Array Value} {z : Value} {K : Int → Bool → Value → World → Prop} (h : view c i w ch = some (.chan cap buf false s r false)) (hr : 0 < buf.size)
    (hK : ∀ w' r', Wr c i w c w' (some ch) → Step c [i] [] w c w' → view c i w' ch = some (.chan cap (buf.extract 1 buf.size) false s r' false) → K 0 true (buf.getD 0 undef) w') : SelR w (.chan (some ch)) z K := by
  unfold SelR
  have hw := (view_out h).2
  simp only [hw]
  refine ⟨fun _ => ?_, fun hf => by omega⟩
  obtain ⟨h1, h2, h3⟩ := chan_same (cap := cap) (buf := buf.extract 1 buf.size) (cl := false) (s := s) (r := r + 1) h
  exact hK _ _ h1 h2 h3
theorem SelR.not {c : Nat → Nat} {i : Nat} {w : World} {ch cap s r : Nat} {buf : Array Value} {z : Value} {K : Int → Bool → Value → World → Prop} (h : view c i w ch = some (.chan cap buf false s r false)) (hr : buf.size = 0)
    (hK : K (-1) false z w) : SelR w (.chan (some ch)) z K := by
  unfold SelR
  have hw := (view_out h).2
  simp only [hw]
  exact ⟨fun hf => by omega, fun _ => ⟨trivial, hK⟩⟩
theorem MakeC.col (c : Nat → Nat) (i : Nat) {w : World} {t e : TypeId} {d : ChanDir} {info : TypeInfo} (hu : P.underlying t = some (.chan d e)) (hi : P.info? e = some info) {n : Nat} (hn : info.bytes * n ≤ 281474976710544) (hm : n ≤ 9223372036854775807) {K : Value → World → Prop}
    (h : ∀ b c' w', Wr c i w c' w' none → view c' i w' b = some (.chan n #[] false 0 0 false) → w.heap[b]? = none → K (.chan (some b)) w') : RunV P (Instr.makeChan t (.int .i64 (n : Int))) w K := by
  have hrun : (Instr.makeChan t (.int .i64 (n : Int))).run P w = .ok (.chan (some w.heap.size)) (w.alloc (.chan n #[] false 0 0 false)) := by
    have hx : ((info.bytes * n : Nat) : Int) ≤ 281474976710544 := by omega
    rw [Int.natCast_mul] at hx
    have h1 : ¬ ((n : Int) < 0 ∨ 9223372036854775807 < (n : Int) ∨ 281474976710544 < (info.bytes : Int) * (n : Int)) := by omega
    simp [Instr.makeChan, asInt, asIntOf, run_underlying hu, typeInfo, hi, IntKind.max, IntKind.signed, IntKind.bits]
    exact fun hh => absurd hh h1
  refine .mk hrun (h _ (ext c w.heap.size i) _ (.of_grown ⟨rfl, rfl, rfl, by simp, fun k hk _ => heap_alloc_old w _ hk⟩ (by simp)) (view_in (ext_new (Nat.le_refl _)) (heap_alloc_new w _)) (Array.getElem?_eq_none (Nat.le_refl _)))
theorem LenC.at {h : View} {w : World} (hs : Sub h (wv w)) {t ty e : TypeId} {d : ChanDir} (hu : P.underlying t = some (.chan d e)) {ch cap s r : Nat} {buf : Array Value} (hb : h ch = some (.chan cap buf false s r false)) {K : Value → World → Prop} (hK : K (.int .i64 (buf.size : Int)) w) : RunV P (Builtin.len_ #[t] ty #[.chan (some ch)]) w K := by
  have hw : w.heap[ch]? = some (.chan cap buf false s r false) := hs _ _ hb
  have hrun : (Builtin.len_ #[t] ty #[.chan (some ch)]).run P w = .ok (.int .i64 (buf.size : Int)) w := by
    have hg : (getObj ch).run P w = .ok (.chan cap buf false s r false) w := by simp [getObj, Sem.run, hw]
    simp [Builtin.len_, run_underlying hu, hg, goInt]
  exact .mk hrun hK
end
theorem TChan.mk {r : Option Nat} {C : Option Nat → Prop} (h : C r) : TChan (.chan r) C := h
/-- two lists, thing by thing -/
def All2 {α β : Type} (Q : α → β → Prop) : List α → List β → Prop
  | [], [] => True
  | a :: l, b :: m => Q a b ∧ All2 Q l m
  | _, _ => False
section
variable {α β : Type} {Q Q' : α → β → Prop}
theorem All2.mono (hQ : ∀ a b, Q a b → Q' a b) : ∀ {l : List α} {m : List β}, All2 Q l m → All2 Q' l m
  | [], [], _ => trivial
  | a :: l, b :: m, h => ⟨hQ _ _ h.1, All2.mono hQ h.2⟩
  | [], _ :: _, h => h.elim
  | _ :: _, [], h => h.elim
theorem All2.length : ∀ {l : List α} {m : List β}, All2 Q l m → l.length = m.length
  | [], [], _ => rfl
  | a :: l, b :: m, h => by rw [List.length_cons, List.length_cons, All2.length h.2]
  | [], _ :: _, h => h.elim
  | _ :: _, [], h => h.elim
theorem All2.snoc : ∀ {l : List α} {m : List β} {a : α} {b : β}, All2 Q l m → Q a b → All2 Q (l ++ [a]) (m ++ [b])
  | [], [], _, _, _, h => ⟨h, trivial⟩
  | a :: l, b :: m, _, _, h, h' => ⟨h.1, All2.snoc h.2 h'⟩
  | [], _ :: _, _, _, h, _ => h.elim
  | _ :: _, [], _, _, h, _ => h.elim
end
/-- a cell of one's own row is stored -/
theorem OwS.put {c : Nat → Nat} {i : Nat} {w : World} {o : Option Addr} {l p T z n : Nat} {xs : List Value} (ho : OwS (view c i w) (.slice o l p) T z n xs) {k j : Nat} (hk : k < n) (hj : j < z) {u : Value} {C : World → Prop}
    (h : ∀ w', Step c [i] [] w c w' → (∀ g q, o = some ⟨g, q, none⟩ → Wr c i w c w' (some g)) → OwS (view c i w') (.slice o l p) T z n (xs.set (k * z + j) u) → C w') : TSome o fun a => StoreC w ((a.add ((k : Int).toNat * z)).add j) u C := by
  rcases ho.2 with ⟨e, hn0⟩ | ⟨g, cap, cur, e, hg, hnc, hcm, hcs, ht⟩
  · omega
  · simp only [Value.slice.injEq] at e
    obtain ⟨rfl, rfl, rfl⟩ := e
    refine TSome.mk ?_
    rw [addr_add, addr_add, Nat.zero_add, Int.toNat_natCast]
    have h2 : (k + 1) * z ≤ l * z := Nat.mul_le_mul_right _ hk
    rw [Nat.succ_mul] at h2
    have h3 : l * z ≤ p * z := Nat.mul_le_mul_right _ hnc
    refine StoreC.col hg (by omega) fun w' hW st hb => h w' st (fun g' q e => by cases e; exact hW) ⟨by rw [List.length_set]; exact ho.1, .inr ⟨g, p, _, rfl, hb, hnc, hcm, by simpa using hcs, ?_⟩⟩
    rw [Array.toList_setIfInBounds, List.take_set, ht]
theorem OwS.put1 {c : Nat → Nat} {i : Nat} {w : World} {o : Option Addr} {l p T n : Nat} {xs : List Value} (ho : OwS (view c i w) (.slice o l p) T 1 n xs) {k : Nat} (hk : k < n) {u : Value} {C : World → Prop}
    (h : ∀ w', Step c [i] [] w c w' → (∀ g q, o = some ⟨g, q, none⟩ → Wr c i w c w' (some g)) → OwS (view c i w') (.slice o l p) T 1 n (xs.set k u) → C w') : TSome o fun a => StoreC w (a.add ((k : Int).toNat * 1)) u C := by
  have := OwS.put ho (k := k) (j := 0) hk (by omega) (u := u) (C := C) (by rw [Nat.mul_one, Nat.add_zero]; exact h)
  obtain ⟨a, e, hs⟩ := TSome_out this
  subst e
  refine TSome.mk ?_
  have e0 : ∀ a : Addr, a.add 0 = a := fun a => rfl
  have e1 : ∀ (a : Addr) (m : Nat), (a.add m).add 0 = a.add m := fun a m => by unfold Addr.add; simp
  rw [e1] at hs; exact hs
end Go.Vc

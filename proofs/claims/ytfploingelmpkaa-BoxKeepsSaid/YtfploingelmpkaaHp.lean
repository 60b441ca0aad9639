/-
  Memory: views by colours, steps, slices, and how the words of a condition are met: over any program.
-/
import Derived.Test.YtfploingelmpkaaVcC
set_option linter.unusedSimpArgs false
set_option linter.unusedVariables false
namespace Go.Vc
open Go

/-! how the words of a condition are met -/
section
variable {P : Program}
theorem TInt.mk {k : IntKind} {n : Int} {C : Int → Prop} (h : C n) : TInt k (.int k n) C := TInt_eq.2 ⟨n, rfl, h⟩
theorem TBool.mk {b : Bool} {C : Bool → Prop} (h : C b) : TBool (.bool b) C := h
theorem TStr.mk {s : ByteArray} {C : ByteArray → Prop} (h : C s) : TStr (.string s) C := h
theorem TPtr.mk {a : Option Addr} {C : Option Addr → Prop} (h : C a) : TPtr (.pointer a) C := h
theorem TSl.mk {o : Option Addr} {l c : Nat} {C : Option Addr → Nat → Nat → Prop} (h : C o l c) : TSl (.slice o l c) C := h
theorem TAgg.mk {cs : Array Value} {C : Array Value → Prop} (h : C cs) : TAgg (.agg cs) C := h
theorem T2.mk {x y : Value} {C : Value → Value → Prop} (h : C x y) : T2 (.tuple #[x, y]) C := h
theorem T3.mk {x y z : Value} {C : Value → Value → Value → Prop} (h : C x y z) : T3 (.tuple #[x, y, z]) C := h
theorem TSome.mk {a : Addr} {C : Addr → Prop} (h : C a) : TSome (some a) C := h
theorem TCell.mk {cs : Array Value} {i : Nat} {v : Value} {C : Value → Prop} (hv : cs[i]? = some v) (h : C v) : TCell cs i C := by unfold TCell; rw [hv]; exact h
theorem TByte.mk {s : ByteArray} {i : Nat} {b : UInt8} {C : Int → Prop} (hv : s[i]? = some b) (h : C (b.toNat : Int)) : TByte s i C := by unfold TByte; rw [hv]; exact h
theorem Req.mk {p : Prop} [Decidable p] {C : Prop} (hp : p) (h : C) : Req (decide p) C := by simp [Req, hp, h]
theorem Req.mk' {b : Bool} {C : Prop} (hp : b = true) (h : C) : Req b C := by simp [Req, hp, h]
theorem Req.ne {n : Int} {C : Prop} (hn : n ≠ 0) (h : C) : Req (!decide (n = 0)) C := by simp [Req, hn, h]
theorem Req.bnd {i : Int} {n : Nat} {C : Prop} (hp : 0 ≤ i ∧ i < (n : Int)) (h : C) : Req (Vc.bnd i n) C := by simp [Req, Vc.bnd, hp, h]
theorem Req.bndle {i : Int} {n : Nat} {C : Prop} (hp : 0 ≤ i ∧ i ≤ (n : Int)) (h : C) : Req (Vc.bndle i n) C := by simp [Req, Vc.bndle, hp, h]
theorem BS.mk {b : Bool} {A B : Prop} (ha : b = true → A) (hb : b = false → B) : BS b A B := by
  cases b
  · exact hb rfl
  · exact ha rfl
theorem BS.dec {p : Prop} [Decidable p] {A B : Prop} (ha : p → A) (hb : ¬ p → B) : BS (decide p) A B := .mk (fun h => ha (of_decide_eq_true h)) (fun h => hb (of_decide_eq_false h))
theorem BS.eq {a b : Int} {A B : Prop} (ha : a = b → A) (hb : a ≠ b → B) : BS (a == b) A B := .mk (fun h => ha (by simpa using h)) (fun h => hb (by simpa using h))
theorem BS.ne {a b : Int} {A B : Prop} (ha : a ≠ b → A) (hb : a = b → B) : BS (a != b) A B := .mk (fun h => ha (by simpa using h)) (fun h => hb (by simpa using h))
theorem BS.yes {b : Bool} {A B : Prop} (hb : b = true) (h : A) : BS b A B := by subst hb; exact h
theorem BS.no {b : Bool} {A B : Prop} (hb : b = false) (h : B) : BS b A B := by subst hb; exact h
theorem LoadC.mk {w : World} {a : Addr} {v : Value} {C : Value → Prop} (hv : w.cell? a = some v) (h : C v) : LoadC w a C := by unfold LoadC; rw [hv]; exact h
theorem ReadV.mk {s : Sem Value} {w : World} {v : Value} {C : Value → Prop} (hv : s.run P w = .ok v w) (h : C v) : ReadV P s w C := ⟨v, hv, h⟩
theorem CallV.mono {f : FuncId} {args : Array Value} {w : World} {C D : Value → World → Prop} (h : CallV P f args w C) (hCD : ∀ v w', C v w' → D v w') : CallV P f args w D :=
  Calls.mono h fun e w' ⟨v, he, hv⟩ => ⟨v, he, hCD _ _ hv⟩
end

/-! numbers -/
theorem wrap_i64 {n : Int} (h1 : -9223372036854775808 ≤ n) (h2 : n < 9223372036854775808) : IntKind.wrap .i64 n = n := by rw [IntKind.wrap_i64]; omega
theorem wrap_u64 {n : Int} (h1 : 0 ≤ n) (h2 : n < 18446744073709551616) : IntKind.wrap .u64 n = n := by
  simp only [IntKind.wrap, IntKind.signed, IntKind.bits, Bool.false_and, Bool.false_eq_true, if_false]
  exact Int.emod_eq_of_lt h1 (by simpa using h2)
theorem wrap_u8 {n : Int} (h1 : 0 ≤ n) (h2 : n < 256) : IntKind.wrap .u8 n = n := by
  simp only [IntKind.wrap, IntKind.signed, IntKind.bits, Bool.false_and, Bool.false_eq_true, if_false]
  exact Int.emod_eq_of_lt h1 (by simpa using h2)
theorem wrap_u32 {n : Int} (h1 : 0 ≤ n) (h2 : n < 4294967296) : IntKind.wrap .u32 n = n := by
  simp only [IntKind.wrap, IntKind.signed, IntKind.bits, Bool.false_and, Bool.false_eq_true, if_false]
  exact Int.emod_eq_of_lt h1 (by simpa using h2)
theorem wrap_u8_mod {n : Int} : IntKind.wrap .u8 n = n % 256 := by
  simp [IntKind.wrap, IntKind.signed, IntKind.bits]
theorem wrap_u64_mod {n : Int} : IntKind.wrap .u64 n = n % 18446744073709551616 := by
  simp [IntKind.wrap, IntKind.signed, IntKind.bits]
theorem wrap_u32_mod {n : Int} : IntKind.wrap .u32 n = n % 4294967296 := by
  simp [IntKind.wrap, IntKind.signed, IntKind.bits]

/-! memory -/
abbrev View := Nat → Option Obj
def wv (w : World) : View := fun b => w.heap[b]?
def view (c : Nat → Nat) (i : Nat) (w : World) : View := fun b => if c b = i then w.heap[b]? else none
def Sub (h h' : View) : Prop := ∀ b o, h b = some o → h' b = some o
theorem Sub.refl (h : View) : Sub h h := fun _ _ h => h
theorem Sub.trans {a b c : View} (h : Sub a b) (h' : Sub b c) : Sub a c := fun x o hx => h' x o (h x o hx)
theorem view_sub (c : Nat → Nat) (i : Nat) (w : World) : Sub (view c i w) (wv w) := fun b o h => by
  unfold view at h; split at h
  · exact h
  · simp at h
theorem view_out {c : Nat → Nat} {i : Nat} {w : World} {b : Nat} {o : Obj} (h : view c i w b = some o) : c b = i ∧ w.heap[b]? = some o := by
  unfold view at h; split at h
  · exact ⟨‹_›, h⟩
  · simp at h
theorem view_in {c : Nat → Nat} {i : Nat} {w : World} {b : Nat} {o : Obj} (hc : c b = i) (h : w.heap[b]? = some o) : view c i w b = some o := by
  unfold view; rw [if_pos hc]; exact h
theorem lt_of_heap {w : World} {b : Nat} {o : Obj} (h : w.heap[b]? = some o) : b < w.heap.size := by
  rcases Nat.lt_or_ge b w.heap.size with h' | h'
  · exact h'
  · rw [Array.getElem?_eq_none h'] at h; simp at h

/-- from w to w': of the old blocks only those of a colour among W may have turned; the new ones have a colour among N -/
structure Step (c : Nat → Nat) (W N : List Nat) (w : World) (c' : Nat → Nat) (w' : World) : Prop where
  os : w'.os = w.os
  tape : w'.tape = w.tape
  output : w'.output = w.output
  size : w.heap.size ≤ w'.heap.size
  col : ∀ b, b < w.heap.size → c' b = c b
  new : ∀ b, w.heap.size ≤ b → b < w'.heap.size → c' b ∈ N
  keep : ∀ b, b < w.heap.size → c b ∉ W → w'.heap[b]? = w.heap[b]?

theorem Step.refl (c : Nat → Nat) (W N : List Nat) (w : World) : Step c W N w c w := ⟨rfl, rfl, rfl, Nat.le_refl _, fun _ _ => rfl, fun b h h' => by omega, fun _ _ _ => rfl⟩
theorem Step.trans {c c1 c2 : Nat → Nat} {W N : List Nat} {w w1 w2 : World} (h : Step c W N w c1 w1) (h' : Step c1 W N w1 c2 w2) : Step c W N w c2 w2 :=
  ⟨h'.os.trans h.os, h'.tape.trans h.tape, h'.output.trans h.output, Nat.le_trans h.size h'.size, fun b hb => (h'.col b (Nat.lt_of_lt_of_le hb h.size)).trans (h.col b hb),
    fun b h1 h2 => by
      rcases Nat.lt_or_ge b w1.heap.size with hb | hb
      · rw [h'.col b hb]; exact h.new b h1 hb
      · exact h'.new b hb h2,
    fun b hb hc => (h'.keep b (Nat.lt_of_lt_of_le hb h.size) (by rw [h.col b hb]; exact hc)).trans (h.keep b hb hc)⟩
theorem Step.drew {c c1 : Nat → Nat} {W N : List Nat} {w w1 : World} (h : Step c W N w c1 w1) : Step c W N w c1 w1.drew := ⟨h.os, h.tape, h.output, h.size, h.col, h.new, h.keep⟩
theorem view_drew (c : Nat → Nat) (i : Nat) (w : World) : view c i w.drew = view c i w := rfl
theorem DrewC.mk {w : World} {C : World → Prop} (h : C w.drew) : DrewC w C := h
theorem Step.weak {c c1 : Nat → Nat} {W N W' N' : List Nat} {w w1 : World} (h : Step c W N w c1 w1) (hW : ∀ x ∈ W, x ∈ W') (hN : ∀ x ∈ N, x ∈ N') : Step c W' N' w c1 w1 :=
  ⟨h.os, h.tape, h.output, h.size, h.col, fun b h1 h2 => hN _ (h.new b h1 h2), fun b hb hc => h.keep b hb fun hm => hc (hW _ hm)⟩
theorem Step.and {c c1 c2 : Nat → Nat} {W N W' N' : List Nat} {w w1 w2 : World} (h : Step c W N w c1 w1) (h' : Step c1 W' N' w1 c2 w2) : Step c (W ++ W') (N ++ N') w c2 w2 :=
  (h.weak (by intro x hx; simp [hx]) (by intro x hx; simp [hx])).trans (h'.weak (by intro x hx; simp [hx]) (by intro x hx; simp [hx]))
/-- a colour that is neither written nor given to new blocks -/
theorem Step.view {c c1 : Nat → Nat} {W N : List Nat} {w w1 : World} (h : Step c W N w c1 w1) {i : Nat} (hW : i ∉ W) (hN : i ∉ N) : Vc.view c1 i w1 = Vc.view c i w := by
  funext b
  unfold Vc.view
  rcases Nat.lt_or_ge b w.heap.size with hb | hb
  · rw [h.col b hb]
    split
    · rename_i hc; exact h.keep b hb (by rw [hc]; exact hW)
    · rfl
  · rw [Array.getElem?_eq_none hb]
    rcases Nat.lt_or_ge b w1.heap.size with hb1 | hb1
    · have := h.new b hb hb1
      rw [if_neg (show ¬ c1 b = i from fun e => hN (e ▸ this))]; split <;> rfl
    · rw [Array.getElem?_eq_none hb1]; simp
/-- a colour that is not written -/
theorem Step.sub {c c1 : Nat → Nat} {W N : List Nat} {w w1 : World} (h : Step c W N w c1 w1) {i : Nat} (hW : i ∉ W) : Sub (Vc.view c i w) (Vc.view c1 i w1) := by
  intro b o hb
  obtain ⟨hc, ho⟩ := view_out hb
  have hlt := lt_of_heap ho
  exact view_in (by rw [h.col b hlt]; exact hc) (by rw [h.keep b hlt (by rw [hc]; exact hW)]; exact ho)

/-- new blocks take colour i -/
def ext (c : Nat → Nat) (n i : Nat) : Nat → Nat := fun b => if b < n then c b else i
theorem ext_old {c : Nat → Nat} {n i b : Nat} (h : b < n) : ext c n i b = c b := by simp [ext, h]
theorem ext_new {c : Nat → Nat} {n i b : Nat} (h : n ≤ b) : ext c n i b = i := by simp [ext, Nat.not_lt.2 h]
theorem Step.of_grown {c : Nat → Nat} {w w' : World} {row : Option Nat} (h : w.grownBy w' row) (W : List Nat) (i : Nat) (hr : ∀ b, row = some b → c b ∈ W) : Step c W [i] w (ext c w.heap.size i) w' :=
  ⟨h.os, h.tape, h.output, h.size, fun b hb => ext_old hb, fun b h1 _ => by rw [ext_new h1]; simp, fun b hb hc => h.block b hb fun e => hc (hr b e.symm)⟩

/-! rows of cells -/
def bv (x : UInt8) : Value := .int .u8 (x.toNat : Int)
def bvs (l : List UInt8) : List Value := l.map bv
@[simp] theorem bvs_length (l : List UInt8) : (bvs l).length = l.length := by simp [bvs]
@[simp] theorem bvs_append (l m : List UInt8) : bvs (l ++ m) = bvs l ++ bvs m := by simp [bvs]
theorem bvs_one (l : List UInt8) : ∀ u ∈ bvs l, u.oneCell' = true := by
  intro u hu; obtain ⟨x, _, rfl⟩ := List.mem_map.1 hu; rfl

/-- a slice of n elements, of z cells each, that can be read: xs -/
def RdS (h : View) (v : Value) (z n : Nat) (xs : List Value) : Prop :=
  ∃ o c, v = .slice o n c ∧ n ≤ c ∧ xs.length = n * z ∧
    (xs = [] ∨ ∃ b off cs T fz, o = some ⟨b, off, none⟩ ∧ h b = some (.cells cs T fz) ∧ ∀ (i : Nat) (u : Value), xs[i]? = some u → cs[off + i]? = some u)
/-- a slice that is nil, or the head of a block of its own -/
def OwS (h : View) (v : Value) (T z n : Nat) (xs : List Value) : Prop :=
  xs.length = n * z ∧ ((v = .slice none 0 0 ∧ n = 0) ∨
    ∃ g cap cur, v = .slice (some ⟨g, 0, none⟩) n cap ∧ h g = some (.cells cur T (0, 0)) ∧ n ≤ cap ∧ cap ≤ maxLen ∧ cur.size = cap * z ∧ cur.toList.take (n * z) = xs)
theorem RdS.mono {h h' : View} {v : Value} {z n : Nat} {xs : List Value} (hr : RdS h v z n xs) (hs : Sub h h') : RdS h' v z n xs := by
  obtain ⟨o, c, e, hn, hl, hx⟩ := hr
  refine ⟨o, c, e, hn, hl, hx.imp id ?_⟩
  rintro ⟨b, off, cs, T, fz, e', hb, hc⟩
  exact ⟨b, off, cs, T, fz, e', hs _ _ hb, hc⟩
theorem OwS.mono {h h' : View} {v : Value} {T z n : Nat} {xs : List Value} (hr : OwS h v T z n xs) (hs : Sub h h') : OwS h' v T z n xs := by
  refine ⟨hr.1, hr.2.imp id ?_⟩
  rintro ⟨g, cap, cur, e, hg, r⟩
  exact ⟨g, cap, cur, e, hs _ _ hg, r⟩
theorem OwS.rd {h : View} {v : Value} {T z n : Nat} {xs : List Value} (ho : OwS h v T z n xs) : RdS h v z n xs := by
  obtain ⟨hl, ho⟩ := ho
  rcases ho with ⟨rfl, rfl⟩ | ⟨g, cap, cur, rfl, hg, hn, _, hs, ht⟩
  · have : xs = [] := List.eq_nil_of_length_eq_zero (by simpa using hl)
    exact ⟨none, 0, rfl, Nat.le_refl _, hl, .inl this⟩
  · refine ⟨_, cap, rfl, hn, hl, .inr ⟨g, 0, cur, T, (0, 0), rfl, hg, fun i u hu => ?_⟩⟩
    rw [← ht, List.getElem?_take] at hu
    split at hu
    · simpa using hu
    · simp at hu
theorem OwS.owns {w : World} {v : Value} {T z n : Nat} {xs : List Value} (ho : OwS (wv w) v T z n xs) : w.ownsRow 0 T z v n xs := by
  refine ⟨ho.1, ho.2.imp id ?_⟩
  rintro ⟨g, cap, cur, e, hg, r⟩
  exact ⟨g, cap, cur, e, Nat.zero_le _, hg, r⟩
theorem OwS.of_owns {w : World} {v : Value} {T z n : Nat} {xs : List Value} (ho : w.ownsRow 0 T z v n xs) : OwS (wv w) v T z n xs := by
  refine ⟨ho.1, ho.2.imp id ?_⟩
  rintro ⟨g, cap, cur, e, _, hg, r⟩
  exact ⟨g, cap, cur, e, hg, r⟩
theorem OwS.nil (h : View) (T z : Nat) : OwS h (.slice none 0 0) T z 0 [] := ⟨by simp, .inl ⟨rfl, rfl⟩⟩
theorem RdS.nil (h : View) (z : Nat) (o : Option Addr) (c : Nat) : RdS h (.slice o 0 c) z 0 [] := ⟨o, c, rfl, Nat.zero_le _, by simp, .inl rfl⟩
theorem OwS.form {h : View} {v : Value} {T z n : Nat} {xs : List Value} (ho : OwS h v T z n xs) : ∃ o c, v = .slice o n c := by
  rcases ho.2 with ⟨rfl, rfl⟩ | ⟨g, cap, cur, rfl, _⟩
  · exact ⟨none, 0, rfl⟩
  · exact ⟨_, _, rfl⟩
theorem RdS.cell {w : World} {o : Option Addr} {l c z n : Nat} {xs : List Value} (hr : RdS (wv w) (.slice o l c) z n xs) {i : Nat} {u : Value} (hu : xs[i]? = some u) :
    ∃ a : Addr, o = some a ∧ w.cell? (a.add i) = some u := by
  obtain ⟨o', c', e, _, _, hx⟩ := hr
  cases e
  rcases hx with rfl | ⟨b, off, cs, T, fz, rfl, hb, hc⟩
  · simp at hu
  · refine ⟨_, rfl, ?_⟩
    have hb : w.heap[b]? = some (.cells cs T fz) := hb
    have := hc i u hu
    unfold Addr.add
    split
    · rename_i h; subst h
      rw [cell_of_row w b off cs T fz hb]; simpa using this
    · rw [cell_of_row w b (off + i) cs T fz hb]; exact this

/-! slice types -/
def slTB (P : Program) (t e z by' : Nat) : Bool :=
  (match P.underlying t with | some (.slice e') => Nat.beq e' e | _ => false) &&
  (match P.info? e with | some i => Nat.beq i.size z && Nat.beq i.bytes by' && Nat.blt 0 z && (match i.zero with | some v => Nat.beq v.cells.size z | none => false) | none => false)
structure SlT (P : Program) (t e z by' : Nat) : Prop where
  und : P.underlying t = some (.slice e)
  inf : ∃ i v, P.info? e = some i ∧ i.size = z ∧ i.bytes = by' ∧ i.zero = some v ∧ v.cells.size = z
  pos : 0 < z
theorem SlT.of {P : Program} {t e z by' : Nat} (h : slTB P t e z by' = true) : SlT P t e z by' := by
  unfold slTB at h
  rw [Bool.and_eq_true] at h
  obtain ⟨h1, h2⟩ := h
  split at h1
  · rename_i e' hu
    have := Nat.eq_of_beq_eq_true h1
    subst this
    split at h2
    · rename_i i hi
      simp only [Bool.and_eq_true] at h2
      obtain ⟨⟨⟨a, b⟩, c⟩, d⟩ := h2
      split at d
      · rename_i v hv
        exact ⟨hu, ⟨i, v, hi, Nat.eq_of_beq_eq_true a, Nat.eq_of_beq_eq_true b, hv, Nat.eq_of_beq_eq_true d⟩, by simpa using c⟩
      · simp at d
    · simp at h2
  · simp at h1

/-- a change of colour i alone: of its blocks only 'row' may have turned -/
structure Wr (c : Nat → Nat) (i : Nat) (w : World) (c' : Nat → Nat) (w' : World) (row : Option Nat) : Prop where
  step : Step c [i] [i] w c' w'
  old : ∀ b o, view c i w b = some o → row ≠ some b → view c' i w' b = some o
theorem Wr.of_grown {c : Nat → Nat} {w w' : World} {row : Option Nat} {i : Nat} (h : w.grownBy w' row) (hr : ∀ b, row = some b → c b = i) : Wr c i w (ext c w.heap.size i) w' row :=
  ⟨.of_grown h [i] i fun b hb => by simp [hr b hb], fun b o hb hne => by
    obtain ⟨hc, ho⟩ := view_out hb
    have hlt := lt_of_heap ho
    exact view_in (by rw [ext_old hlt]; exact hc) (by rw [h.block b hlt (Ne.symm hne)]; exact ho)⟩
theorem Wr.same {c : Nat → Nat} {w w' : World} {row : Option Nat} {i : Nat} (h : w.grownBy w' row) (hs : w'.heap.size = w.heap.size) (hr : ∀ b, row = some b → c b = i) : Wr c i w c w' row :=
  ⟨⟨h.os, h.tape, h.output, h.size, fun _ _ => rfl, fun b h1 h2 => by omega, fun b hb hc => h.block b hb fun e => by rw [hr b e.symm] at hc; simp at hc⟩, fun b o hb hne => by
    obtain ⟨hc, ho⟩ := view_out hb
    have hlt := lt_of_heap ho
    exact view_in hc (by rw [h.block b hlt (Ne.symm hne)]; exact ho)⟩

theorem OwS.block {h : View} {v : Value} {T z n : Nat} {xs : List Value} (ho : OwS h v T z n xs) : ∀ b, v.ownBlock = some b → ∃ cur, h b = some (.cells cur T (0, 0)) := by
  intro b hb
  rcases ho.2 with ⟨rfl, rfl⟩ | ⟨g, cap, cur, rfl, hg, _⟩
  · simp [Value.ownBlock] at hb
  · simp [Value.ownBlock] at hb; subst hb; exact ⟨cur, hg⟩
theorem OwS.block_ne {h : View} {v : Value} {T z n : Nat} {xs : List Value} (ho : OwS h v T z n xs) {b : Nat} {cs : Array Value} {T' : Nat} {fz : Nat × Nat} (hb : h b = some (.cells cs T' fz)) (hT : T' ≠ T) : v.ownBlock ≠ some b := by
  intro e
  obtain ⟨cur, hc⟩ := ho.block b e
  rw [hb] at hc
  simp at hc
  exact hT hc.2.1

theorem take_append {xs ys ws : List Value} {n : Nat} (hx : xs.length = n) : ((xs ++ ys ++ ws).take (n + ys.length)) = xs ++ ys := by
  rw [show n + ys.length = (xs ++ ys).length by simp [hx]]
  exact List.take_left

section
variable {P : Program}
/-- append -/
theorem append_col {t e z by' ty : Nat} (hT : SlT P t e z by') {c : Nat → Nat} {i : Nat} {w : World} {s x : Value} {n m : Nat} {xs ys : List Value} (ho : OwS (view c i w) s e z n xs) (hr : RdS (wv w) x z m ys)
    (h1 : ∀ u ∈ ys, u.oneCell' = true) (hb : (n + m) * by' ≤ 140737488355328) (hm : n + m ≤ 140737488355328) {K : Value → World → Prop}
    (h : ∀ v' c' w', Wr c i w c' w' s.ownBlock → OwS (view c' i w') v' e z (n + m) (xs ++ ys) → (v' = .slice none 0 0 ↔ s = .slice none 0 0 ∧ m = 0) → K v' w') :
    RunV P (Builtin.append_ #[t, t] ty #[s, x]) w K := by
  obtain ⟨ti, zv, hi, hsz, hby, hz, hzs⟩ := hT.inf
  obtain ⟨o, cp, rfl, hmc, hl, hx⟩ := hr
  have hml : n + m ≤ maxLen := by simp only [maxLen]; omega
  have hlen : (xs ++ ys).length = (n + m) * z := by rw [List.length_append, ho.1, hl, Nat.add_mul]
  have hcol : ∀ b, s.ownBlock = some b → c b = i := fun b hb => by obtain ⟨cur, hc⟩ := ho.block b hb; exact (view_out hc).1
  cases o with
  | none =>
    have hys : ys = [] := by
      rcases hx with h | ⟨b, off, cs, T, fz, e', _⟩
      · exact h
      · simp at e'
    subst hys
    have hm0 : m = 0 := by
      have h0 : m * z = 0 := by simpa using hl.symm
      rcases Nat.mul_eq_zero.1 h0 with h | h
      · exact h
      · have := hT.pos; omega
    subst hm0
    have hrun : (Builtin.append_ #[t, t] ty #[s, .slice none 0 cp]).run P w = .ok s w := by
      rcases ho.2 with ⟨rfl, rfl⟩ | ⟨g, cap, cur, rfl, _, hnc, _⟩
      · simp [Builtin.append_, run_underlying hT.und, sizeOf, typeInfo, hi, Builtin.lenOf, Builtin.firstCells]
      · simp [Builtin.append_, run_underlying hT.und, sizeOf, typeInfo, hi, Builtin.lenOf, Builtin.firstCells, hnc, storeCells]
    exact .mk hrun (h s c w (.same ⟨rfl, rfl, rfl, Nat.le_refl _, fun _ _ _ => rfl⟩ rfl hcol) (by simpa using ho) (by simp))
  | some a =>
    have hnews : ∀ j u, ys[j]? = some u → w.cell? (a.add j) = some u := by
      intro j u hu
      have hr : RdS (wv w) (.slice (some a) m cp) z m ys := ⟨_, _, rfl, hmc, hl, hx⟩
      obtain ⟨a', ea, hc⟩ := hr.cell hu
      simp at ea; subst ea; exact hc
    have grown : ∀ (old : Nat), old < n + m →
        OwS (view (ext c w.heap.size i) i (w.drew.alloc (.cells (xs.toArray ++ ys.toArray ++ Builtin.zeroCells zv.cells (grownCap w (n + m) old e - (n + m))) e)))
          (.slice (some ⟨w.heap.size, 0, none⟩) (n + m) (grownCap w (n + m) old e)) e z (n + m) (xs ++ ys) ∧
        Wr c i w (ext c w.heap.size i) (w.drew.alloc (.cells (xs.toArray ++ ys.toArray ++ Builtin.zeroCells zv.cells (grownCap w (n + m) old e - (n + m))) e)) s.ownBlock := by
      intro old hold
      have hge := grownCap_ge w (n + m) old e
      have hcm : grownCap w (n + m) old e ≤ maxLen := grownCap_le_maxLen w (n + m) old e hml
      refine ⟨⟨hlen, .inr ⟨w.heap.size, _, _, rfl, view_in (ext_new (Nat.le_refl _)) (heap_alloc_new w.drew _), hge, hcm, ?_, ?_⟩⟩, .of_grown ⟨rfl, rfl, rfl, by simp, fun k hk _ => heap_alloc_old w.drew _ hk⟩ hcol⟩
      · simp only [Array.size_append, List.size_toArray, size_zeroCells, hzs, ho.1, hl, ← Nat.add_mul]
        congr 1
        omega
      · simp only [Array.toList_append, List.append_assoc]
        rw [← List.append_assoc, ← hlen]
        exact List.take_left
    have hsub : ∀ {g cap cur}, s = .slice (some ⟨g, 0, none⟩) n cap → view c i w g = some (.cells cur e (0, 0)) → w.heap[g]? = some (.cells cur e (0, 0)) := fun _ hg => (view_out hg).2
    rcases ho.2 with ⟨rfl, rfl⟩ | ⟨g, cap, cur, rfl, hg, hnc, hcm, hcs, htake⟩
    · have hx0 : xs = [] := List.eq_nil_of_length_eq_zero (by simpa using ho.1)
      subst hx0
      by_cases hm0 : m = 0
      · subst hm0
        have hn : ys = [] := List.eq_nil_of_length_eq_zero (by simpa using hl)
        subst hn
        refine .mk (v := .slice none 0 0) (w' := w) ?_ (h _ c w (.same ⟨rfl, rfl, rfl, Nat.le_refl _, fun _ _ _ => rfl⟩ rfl hcol) (by simpa using ho) (by simp))
        simp [Builtin.append_, run_underlying hT.und, sizeOf, typeInfo, hi, Builtin.lenOf, Builtin.firstCells, loadCells, loadCellsFrom, hsz]
      · have hrun := run_append_nil (P := P) w t ty e ti zv hT.und hi hz a m cp ys (by rw [hl, hsz]) hnews (by omega) (by omega) (by rw [hby]; have hb := hb; simp only [Nat.zero_add] at hb; omega)
        have hgr := grown 0 (by omega)
        simp only [Nat.zero_add, List.nil_append, Array.empty_append] at hgr h
        exact .mk hrun (h _ _ _ hgr.2 hgr.1 (by simp [hm0]))
    · have hgw := (view_out hg).2
      by_cases hroom : n + m ≤ cap
      · have hfit : n * ti.size + ys.length ≤ cur.size := by rw [hl, hcs, hsz, ← Nat.add_mul]; exact Nat.mul_le_mul_right _ hroom
        have hrun := run_append_room (P := P) w t ty e ti hT.und hi g n cap cur hgw a m cp ys (by rw [hl, hsz]) hnews h1 hroom hfit
        rw [hsz] at hrun hfit
        refine .mk hrun (h _ c _ (.same ⟨rfl, rfl, rfl, by simp, fun k _ hk => setRow_other w g k _ (fun e => hk (by simp [Value.ownBlock, e]))⟩ (by simp) hcol) ?_ (by simp))
        refine ⟨hlen, .inr ⟨g, cap, _, rfl, view_in (view_out hg).1 (setRow_heap w g cur _ e _ hgw), hroom, hcm, ?_, ?_⟩⟩
        · simp only [List.size_toArray, List.length_append, List.length_take, List.length_drop, Array.length_toList]
          omega
        · rw [htake, ← hlen]
          exact List.take_left
      · have holds : ∀ j u, xs[j]? = some u → w.cell? ((⟨g, 0, none⟩ : Addr).add j) = some u := by
          intro j u hu
          obtain ⟨a', ea, hc⟩ := (ho.mono (view_sub c i w)).rd.cell hu
          simp at ea; subst ea; exact hc
        have hrun := run_append_grow (P := P) w t ty e ti zv hT.und hi hz ⟨g, 0, none⟩ n cap xs (by rw [ho.1, hsz]) holds a m cp ys (by rw [hl, hsz]) hnews (by omega) (by omega) (by rw [hby]; exact growslice_fits (by omega) hb)
        have hgr := grown cap (by omega)
        exact .mk hrun (h _ _ _ hgr.2 hgr.1 (by simp))

theorem AllocC.col (c : Nat → Nat) (i : Nat) {w : World} {cs : Array Value} {T : Nat} {C : Nat → World → Prop}
    (h : ∀ b c' w', Wr c i w c' w' none → view c' i w' b = some (.cells cs T (0, 0)) → w.heap[b]? = none → C b w') : AllocC w (.cells cs T) C :=
  h _ _ _ (.of_grown (i := i) ⟨rfl, rfl, rfl, by simp, fun k hk _ => heap_alloc_old w _ hk⟩ (by simp)) (view_in (ext_new (Nat.le_refl _)) (heap_alloc_new w _)) (Array.getElem?_eq_none (Nat.le_refl _))

theorem addr_add (b off k : Nat) : (⟨b, off, none⟩ : Addr).add k = ⟨b, off + k, none⟩ := by
  unfold Addr.add
  split
  · rename_i h; subst h; rfl
  · rfl

theorem StoreC.col {c : Nat → Nat} {i : Nat} {w : World} {b off : Nat} {cs : Array Value} {T : Nat} {v : Value} {C : World → Prop} (hb : view c i w b = some (.cells cs T (0, 0))) (hk : off < cs.size)
    (h : ∀ w', Wr c i w c w' (some b) → Step c [i] [] w c w' → view c i w' b = some (.cells (cs.setIfInBounds off v) T (0, 0)) → C w') : StoreC w ⟨b, off, none⟩ v C := by
  obtain ⟨hc, hw⟩ := view_out hb
  have hW : Wr c i w c (w.setCell ⟨b, off, none⟩ v) (some b) := .same ⟨rfl, rfl, rfl, by simp, fun k _ hk => heap_setCell_other w _ k v (fun e => hk (by simp [e]))⟩ (by simp) (by simp [hc])
  have h0 := hW.step
  have hsz : (w.setCell ⟨b, off, none⟩ v).heap.size = w.heap.size := by simp
  refine ⟨⟨?_, frozen_of_row w b off cs T hw⟩, h _ hW ⟨h0.os, h0.tape, h0.output, h0.size, h0.col, fun b' h1 h2 => by omega, h0.keep⟩ (view_in hc (heap_setCell_same w b off cs T v hw))⟩
  rw [cell_of_row w b off cs T (0, 0) hw, Array.getElem?_eq_getElem hk]; rfl

theorem LoadC.at {h : View} {w : World} (hs : Sub h (wv w)) {b off : Nat} {cs : Array Value} {T : Nat} {fz : Nat × Nat} {v : Value} {C : Value → Prop} (hb : h b = some (.cells cs T fz)) (hv : cs[off]? = some v) (hC : C v) : LoadC w ⟨b, off, none⟩ C :=
  .mk (by rw [cell_of_row w b off cs T fz (hs _ _ hb)]; exact hv) hC
theorem StableC.at {h : View} {w : World} (hs : Sub h (wv w)) {b off : Nat} {cs : Array Value} {T : Nat} {fz : Nat × Nat} {v : Value} (hb : h b = some (.cells cs T fz)) (hv : cs[off]? = some v) : StableC w ⟨b, off, none⟩ v := by
  unfold StableC
  rw [cell_of_row w b off cs T fz (hs _ _ hb)]; exact hv

theorem RdS.loadCells {w : World} {a : Addr} {l c n : Nat} {xs : List Value} (hr : RdS (wv w) (.slice (some a) l c) 1 n xs) : (loadCells a n).run P w = .ok xs.toArray w := by
  have hl : xs.length = n := by obtain ⟨_, _, _, _, hl, _⟩ := hr; simpa using hl
  rw [← hl]
  refine run_loadCells_list w a xs fun j v hv => ?_
  obtain ⟨a', e, hc⟩ := hr.cell hv
  simp at e; subst e; exact hc

def strOf (l : List UInt8) : ByteArray := ⟨l.toArray⟩
@[simp] theorem strOf_size (l : List UInt8) : (strOf l).size = l.length := by simp [strOf, ByteArray.size]
@[simp] theorem strOf_data (l : List UInt8) : (strOf l).data.toList = l := by simp [strOf]
theorem foldl_push (l : List UInt8) : ∀ s : ByteArray, (l.map fun x => (x.toNat : Int)).foldl (fun r n => r.push (UInt8.ofNat n.toNat)) s = ⟨s.data ++ l.toArray⟩ := by
  induction l with
  | nil => intro s; simp
  | cons x l ih =>
    intro s
    simp only [List.map_cons, List.foldl_cons]
    rw [ih]
    congr 1
    simp [ByteArray.push]
def isBytesB (P : Program) (s t : TypeId) : Bool := isRead P (.convert s t (.tmp 0))
/-- string(b) -/
theorem string_run {s t : TypeId} (hT : isBytesB P s t = true) {w : World} {v : Value} {n : Nat} {l : List UInt8} (hr : RdS (wv w) v 1 n (bvs l)) :
    (convert s t v).run P w = .ok (.string (strOf l)) w := by
  have hT' : ∃ e, P.underlying s = some (.slice e) ∧ P.underlying t = some .string ∧ P.underlying e = some (.int .u8) := by
    unfold isBytesB at hT
    simp only [isRead] at hT
    split at hT
    · rename_i e h1 h2
      split at hT
      · rename_i h3; exact ⟨e, h1, h2, h3⟩
      · simp at hT
    · simp at hT
  obtain ⟨e, hs, ht, he⟩ := hT'
  obtain ⟨o, c, rfl, hn, hl, hx⟩ := hr
  rw [run_convert_bytes_string w s t e o n c hs he ht]
  cases o with
  | none =>
    have : bvs l = [] := by
      rcases hx with h | ⟨b, off, cs, T, fz, e', _⟩
      · exact h
      · simp at e'
    have : l = [] := by simpa [bvs] using this
    subst this
    simp only [Conv.bytesToString, Sem.run_pure]
    rfl
  | some a =>
    have hr : RdS (wv w) (.slice (some a) n c) 1 n (bvs l) := ⟨_, _, rfl, hn, hl, hx⟩
    have hload := hr.loadCells (P := P)
    have := run_bytesToString (P := P) w a n c (l.map fun x => (x.toNat : Int)) (by rw [hload]; simp [bvs, bv, Function.comp_def])
    rw [this, foldl_push]
    simp [strOf]

theorem string_rule {s t : TypeId} (hT : isBytesB P s t = true) {w : World} {v : Value} {n : Nat} {l : List UInt8} (hr : RdS (wv w) v 1 n (bvs l)) {K : Value → Prop} (h : K (.string (strOf l))) :
    ReadV P (convert s t v) w K := .mk (string_run hT hr) h
theorem StableV.string {s t : TypeId} (hT : isBytesB P s t = true) {w : World} {v : Value} {n : Nat} {l : List UInt8} (hr : RdS (wv w) v 1 n (bvs l)) : StableV P (convert s t v) w (.string (strOf l)) := string_run hT hr

theorem strEq_of (l m : List UInt8) : strEq (strOf l) (strOf m) = decide (l = m) := by
  unfold strEq
  rw [ByteArray.toList_eq, ByteArray.toList_eq]
  simp only [strOf_data]
  by_cases h : l = m
  · simp [h]
  · simp [h]
end

theorem RdS.block {h : View} {b n : Nat} {z : Nat} {xs : List Value} {T : Nat} {fz : Nat × Nat} (hb : h b = some (.cells xs.toArray T fz)) (hl : xs.length = n * z) {c : Nat} (hc : n ≤ c) : RdS h (.slice (some ⟨b, 0, none⟩) n c) z n xs :=
  ⟨_, _, rfl, hc, hl, .inr ⟨b, 0, _, T, fz, rfl, hb, fun i u hu => by simpa using hu⟩⟩

theorem Wr.stepNew {c0 c c' : Nat → Nat} {i : Nat} {w0 w w' : World} {row : Option Nat} {N : List Nat} (h0 : Step c0 [] N w0 c w) (hN : i ∈ N) (h : Wr c i w c' w' row) (hr : ∀ b, row = some b → w0.heap.size ≤ b) : Step c0 [] N w0 c' w' := by
  have h1 : Step c0 [i] N w0 c' w' := (h0.weak (by simp) (by simp)).trans (h.step.weak (by simp) (by simpa using hN))
  refine ⟨h1.os, h1.tape, h1.output, h1.size, h1.col, h1.new, fun b hb _ => ?_⟩
  by_cases hc : c0 b = i
  · have e : w0.heap[b]? = some w0.heap[b] := Array.getElem?_eq_getElem hb
    have := (h0.keep b hb (by simp)).trans e
    have hv := h.old b _ (view_in (by rw [h0.col b hb]; exact hc) this) (fun e => by have := hr b e; omega)
    rw [(view_out hv).2, e]
  · exact h1.keep b hb (by simpa using hc)
theorem Wr.fresh {c c' : Nat → Nat} {i : Nat} {w w' : World} (h : Wr c i w c' w' none) : Step c [] [i] w c' w' :=
  Wr.stepNew (Step.refl c [] [i] w) (by simp) h (by simp)
theorem size_le_of_none {w : World} {b : Nat} (h : w.heap[b]? = none) : w.heap.size ≤ b := by simpa using h

theorem Wr.sub {c c' : Nat → Nat} {i : Nat} {w w' : World} (h : Wr c i w c' w' none) : Sub (view c i w) (view c' i w') := fun b o hb => h.old b o hb (by simp)
theorem RdS.take {h : View} {o : Option Addr} {l c z n k : Nat} {xs : List Value} (hr : RdS h (.slice o l c) z n xs) (hk : k ≤ n) : RdS h (.slice (slBase o c 0 z) k c) z k (xs.take (k * z)) := by
  obtain ⟨o', c', e, hn, hl, hx⟩ := hr
  cases e
  have hkz : k * z ≤ l * z := Nat.mul_le_mul_right _ hk
  refine ⟨_, _, rfl, by omega, by rw [List.length_take, hl]; omega, ?_⟩
  rcases hx with rfl | ⟨b, off, cs, T, fz, rfl, hb, hc⟩
  · left; simp
  · right
    have e : slBase (some ⟨b, off, none⟩) c 0 z = some ⟨b, off, none⟩ := by unfold slBase; split <;> simp [addr_add]
    rw [e]
    refine ⟨b, off, cs, T, fz, rfl, hb, fun i u hu => hc i u ?_⟩
    rw [List.getElem?_take] at hu
    split at hu
    · exact hu
    · simp at hu
theorem RdS.drop {h : View} {o : Option Addr} {l c z n k : Nat} {xs : List Value} (hr : RdS h (.slice o l c) z n xs) (hk : k ≤ n) : RdS h (.slice (slBase o c k z) (l - k) (c - k)) z (n - k) (xs.drop (k * z)) := by
  obtain ⟨o', c', e, hn, hl, hx⟩ := hr
  cases e
  refine ⟨_, _, rfl, by omega, by rw [List.length_drop, hl, Nat.sub_mul], ?_⟩
  rcases hx with rfl | ⟨b, off, cs, T, fz, rfl, hb, hc⟩
  · left; simp
  · by_cases hck : c = k
    · left; apply List.drop_eq_nil_of_le; rw [hl]; exact Nat.mul_le_mul_right _ (by omega)
    · right
      have e : slBase (some ⟨b, off, none⟩) c k z = some ⟨b, off + k * z, none⟩ := by unfold slBase; rw [if_neg hck]; simp [addr_add]
      rw [e]
      refine ⟨b, off + k * z, cs, T, fz, rfl, hb, fun i u hu => ?_⟩
      rw [List.getElem?_drop] at hu
      rw [Nat.add_assoc]; exact hc _ u hu
theorem RdS.len {h : View} {o : Option Addr} {l c z n : Nat} {xs : List Value} (hr : RdS h (.slice o l c) z n xs) : l = n ∧ n ≤ c ∧ xs.length = n * z := by
  obtain ⟨o', c', e, hn, hl, hx⟩ := hr
  cases e; exact ⟨rfl, hn, hl⟩
theorem RdS.form {h : View} {v : Value} {z n : Nat} {xs : List Value} (ho : RdS h v z n xs) : ∃ o c, v = .slice o n c := by
  obtain ⟨o, c, e, _⟩ := ho; exact ⟨o, c, e⟩
theorem bvs_take (l : List UInt8) (k : Nat) : bvs (l.take k) = (bvs l).take k := by simp [bvs, List.map_take]
theorem bvs_drop (l : List UInt8) (k : Nat) : bvs (l.drop k) = (bvs l).drop k := by simp [bvs, List.map_drop]
theorem bvs_get (l : List UInt8) (k : Nat) : (bvs l)[k]? = l[k]?.map bv := by simp [bvs]
/-- all but one block -/
def but (h : View) (b : Nat) : View := fun k => if k = b then none else h k
theorem but_sub (h : View) (b : Nat) : Sub (but h b) h := fun k o hk => by unfold but at hk; split at hk <;> simp_all
theorem but_in {h : View} {b k : Nat} {o : Obj} (hk : h k = some o) (hne : k ≠ b) : but h b k = some o := by unfold but; rw [if_neg hne]; exact hk
theorem but_out {h : View} {b k : Nat} {o : Obj} (hk : but h b k = some o) : k ≠ b ∧ h k = some o := by
  unfold but at hk; split at hk
  · simp at hk
  · exact ⟨‹_›, hk⟩
theorem but_mono {h h' : View} (hs : Sub h h') (b : Nat) : Sub (but h b) (but h' b) := fun k o hk => but_in (hs _ _ (but_out hk).2) (but_out hk).1
theorem Wr.but {c c' : Nat → Nat} {i b : Nat} {w w' : World} (h : Wr c i w c' w' (some b)) : Sub (but (view c i w) b) (but (view c' i w') b) := fun k o hk =>
  but_in (h.old k o (but_out hk).2 (fun e => (but_out hk).1 (by simpa using e.symm))) (but_out hk).1
theorem Wr.but_new {c c' : Nat → Nat} {i b : Nat} {w w' : World} (h : Wr c i w c' w' none) (hb : w.heap[b]? = none) : Sub (view c i w) (Vc.but (view c' i w') b) := fun k o hk =>
  but_in (h.old k o hk (by simp)) (fun e => by rw [← e, (view_out hk).2] at hb; simp at hb)
theorem OwS.but {h : View} {v : Value} {T z n : Nat} {xs : List Value} (ho : OwS h v T z n xs) {b : Nat} {cs : Array Value} {T' : Nat} {fz : Nat × Nat} (hb : h b = some (.cells cs T' fz)) (hT : T' ≠ T) : OwS (Vc.but h b) v T z n xs := by
  refine ⟨ho.1, ho.2.imp id ?_⟩
  rintro ⟨g, cap, cur, e, hg, r⟩
  exact ⟨g, cap, cur, e, but_in hg (fun e => by subst e; rw [hg] at hb; simp at hb; exact hT hb.2.1.symm), r⟩
theorem OwS.but_own {h : View} {b : Nat} {v : Value} {T z n : Nat} {xs : List Value} (ho : OwS (Vc.but h b) v T z n xs) : v.ownBlock ≠ some b := by
  rcases ho.2 with ⟨rfl, rfl⟩ | ⟨g, cap, cur, rfl, hg, _⟩
  · simp [Value.ownBlock]
  · simp [Value.ownBlock]; exact (but_out hg).1
section
variable {P : Program}
/-- []byte of a constant: the row is marked -/
theorem mark_col {t e : TypeId} (ht : P.underlying t = some (.slice e)) (he : P.underlying e = some (.int .u8)) {c : Nat → Nat} {i : Nat} {w : World} {b : Nat} {C : Array Value} (hb : view c i w b = some (.cells C e (0, 0))) {n m : Nat} {K : Value → World → Prop}
    (h : ∀ w', Wr c i w c w' (some b) → Step c [i] [] w c w' → view c i w' b = some (.cells C e (C.size, C.size + 1)) → K (.slice (some ⟨b, 0, none⟩) n m) w') :
    RunV P (convert t t (.slice (some ⟨b, 0, none⟩) n m)) w K := by
  obtain ⟨hc, hw⟩ := view_out hb
  have hsh : w.shape? b = some (e, C.size) := by unfold World.shape?; rw [hw]
  have hrun : (convert t t (.slice (some ⟨b, 0, none⟩) n m)).run P w = .ok (.slice (some ⟨b, 0, none⟩) n m) (w.freeze ⟨b, C.size, none⟩ 1) := by
    simp [convert, run_underlying ht, run_underlying he, markStringish, hsh]
  have hsz : (w.freeze ⟨b, C.size, none⟩ 1).heap.size = w.heap.size := by simp [World.freeze]
  have hother : ∀ k, b ≠ k → (w.freeze ⟨b, C.size, none⟩ 1).heap[k]? = w.heap[k]? := fun k hk => by
    simp [World.freeze, Array.getElem?_modify, hk]
  have hself : (w.freeze ⟨b, C.size, none⟩ 1).heap[b]? = some (.cells C e (C.size, C.size + 1)) := by
    simp [World.freeze, Array.getElem?_modify, hw]
  have hW : Wr c i w c (w.freeze ⟨b, C.size, none⟩ 1) (some b) := .same ⟨rfl, rfl, rfl, by omega, fun k _ hk => hother k (fun e => hk (by simp [e]))⟩ hsz (by simp [hc])
  have h0 := hW.step
  exact RunV.mk hrun (h _ hW ⟨h0.os, h0.tape, h0.output, h0.size, h0.col, fun b' h1 h2 => by omega, h0.keep⟩ (view_in hc hself))
end
end Go.Vc

/-
  Several texts in one: Hp, Base, Nums, Hp2, Hp3, Frame, Lists.
-/
import Derived.Test.YtdjgdcafmfheoaaDoorVcC
import Derived.Test.YtdjgdcafmfheoaaDoorProg
import Derived.Laws.IdiomStrings
import Derived.Lib.BytesEntry
set_option linter.unusedSimpArgs false
set_option linter.unusedVariables false
namespace Go.Vc
open Go

/-! how the words of a condition are met -/
section
variable {P : Program}
theorem TInt.mk {k : IntKind} {n : Int} {C : Int → Prop} (h : C n) : TInt k (.int k n) C := TInt_eq.2 ⟨n, rfl, h⟩
theorem TBool.mk {b : Bool} {C : Bool → Prop} (h : C b) : TBool (.bool b) C := h
theorem TStr.mk {s : ByteArray} {C : ByteArray → Prop} (h : C s) : TStr (.string s) C := h
theorem TPtr.mk {a : Option Addr} {C : Option Addr → Prop} (h : C a) : TPtr (.pointer a) C := h
theorem TSl.mk {o : Option Addr} {l c : Nat} {C : Option Addr → Nat → Nat → Prop} (h : C o l c) : TSl (.slice o l c) C := h
theorem TAgg.mk {cs : Array Value} {C : Array Value → Prop} (h : C cs) : TAgg (.agg cs) C := h
theorem T2.mk {x y : Value} {C : Value → Value → Prop} (h : C x y) : T2 (.tuple #[x, y]) C := h
theorem T3.mk {x y z : Value} {C : Value → Value → Value → Prop} (h : C x y z) : T3 (.tuple #[x, y, z]) C := h
theorem TSome.mk {a : Addr} {C : Addr → Prop} (h : C a) : TSome (some a) C := h
theorem TCell.mk {cs : Array Value} {i : Nat} {v : Value} {C : Value → Prop} (hv : cs[i]? = some v) (h : C v) : TCell cs i C := by unfold TCell; rw [hv]; exact h
theorem TByte.mk {s : ByteArray} {i : Nat} {b : UInt8} {C : Int → Prop} (hv : s[i]? = some b) (h : C (b.toNat : Int)) : TByte s i C := by unfold TByte; rw [hv]; exact h
theorem Req.mk {p : Prop} [Decidable p] {C : Prop} (hp : p) (h : C) : Req (decide p) C := by simp [Req, hp, h]
theorem Req.mk' {b : Bool} {C : Prop} (hp : b = true) (h : C) : Req b C := by simp [Req, hp, h]
theorem Req.ne {n : Int} {C : Prop} (hn : n ≠ 0) (h : C) : Req (!decide (n = 0)) C := by simp [Req, hn, h]
theorem Req.bnd {i : Int} {n : Nat} {C : Prop} (hp : 0 ≤ i ∧ i < (n : Int)) (h : C) : Req (Vc.bnd i n) C := by simp [Req, Vc.bnd, hp, h]
theorem Req.bndle {i : Int} {n : Nat} {C : Prop} (hp : 0 ≤ i ∧ i ≤ (n : Int)) (h : C) : Req (Vc.bndle i n) C := by simp [Req, Vc.bndle, hp, h]
theorem BS.mk {b : Bool} {A B : Prop} (ha : b = true → A) (hb : b = false → B) : BS b A B := by
  cases b
  · exact hb rfl
  · exact ha rfl
theorem BS.dec {p : Prop} [Decidable p] {A B : Prop} (ha : p → A) (hb : ¬ p → B) : BS (decide p) A B := .mk (fun h => ha (of_decide_eq_true h)) (fun h => hb (of_decide_eq_false h))
theorem BS.eq {a b : Int} {A B : Prop} (ha : a = b → A) (hb : a ≠ b → B) : BS (a == b) A B := .mk (fun h => ha (by simpa using h)) (fun h => hb (by simpa using h))
theorem BS.ne {a b : Int} {A B : Prop} (ha : a ≠ b → A) (hb : a = b → B) : BS (a != b) A B := .mk (fun h => ha (by simpa using h)) (fun h => hb (by simpa using h))
theorem BS.yes {b : Bool} {A B : Prop} (hb : b = true) (h : A) : BS b A B := by subst hb; exact h
theorem BS.no {b : Bool} {A B : Prop} (hb : b = false) (h : B) : BS b A B := by subst hb; exact h
theorem LoadC.mk {w : World} {a : Addr} {v : Value} {C : Value → Prop} (hv : w.cell? a = some v) (h : C v) : LoadC w a C := by unfold LoadC; rw [hv]; exact h
theorem ReadV.mk {s : Sem Value} {w : World} {v : Value} {C : Value → Prop} (hv : s.run P w = .ok v w) (h : C v) : ReadV P s w C := ⟨v, hv, h⟩
theorem CallV.mono {f : FuncId} {args : Array Value} {w : World} {C D : Value → World → Prop} (h : CallV P f args w C) (hCD : ∀ v w', C v w' → D v w') : CallV P f args w D :=
  Calls.mono h fun e w' ⟨v, he, hv⟩ => ⟨v, he, hCD _ _ hv⟩
end

/-! numbers -/
theorem wrap_i64 {n : Int} (h1 : -9223372036854775808 ≤ n) (h2 : n < 9223372036854775808) : IntKind.wrap .i64 n = n := by rw [IntKind.wrap_i64]; omega
theorem wrap_u64 {n : Int} (h1 : 0 ≤ n) (h2 : n < 18446744073709551616) : IntKind.wrap .u64 n = n := by
  simp only [IntKind.wrap, IntKind.signed, IntKind.bits, Bool.false_and, Bool.false_eq_true, if_false]
  exact Int.emod_eq_of_lt h1 (by simpa using h2)
theorem wrap_u8 {n : Int} (h1 : 0 ≤ n) (h2 : n < 256) : IntKind.wrap .u8 n = n := by
  simp only [IntKind.wrap, IntKind.signed, IntKind.bits, Bool.false_and, Bool.false_eq_true, if_false]
  exact Int.emod_eq_of_lt h1 (by simpa using h2)
theorem wrap_u32 {n : Int} (h1 : 0 ≤ n) (h2 : n < 4294967296) : IntKind.wrap .u32 n = n := by
  simp only [IntKind.wrap, IntKind.signed, IntKind.bits, Bool.false_and, Bool.false_eq_true, if_false]
  exact Int.emod_eq_of_lt h1 (by simpa using h2)
theorem wrap_u8_mod {n : Int} : IntKind.wrap .u8 n = n % 256 := by
  simp [IntKind.wrap, IntKind.signed, IntKind.bits]
theorem wrap_u64_mod {n : Int} : IntKind.wrap .u64 n = n % 18446744073709551616 := by
  simp [IntKind.wrap, IntKind.signed, IntKind.bits]
theorem wrap_u32_mod {n : Int} : IntKind.wrap .u32 n = n % 4294967296 := by
  simp [IntKind.wrap, IntKind.signed, IntKind.bits]

/-! memory -/
abbrev View := Nat → Option Obj
def wv (w : World) : View := fun b => w.heap[b]?
def view (c : Nat → Nat) (i : Nat) (w : World) : View := fun b => if c b = i then w.heap[b]? else none
def Sub (h h' : View) : Prop := ∀ b o, h b = some o → h' b = some o
theorem Sub.refl (h : View) : Sub h h := fun _ _ h => h
theorem Sub.trans {a b c : View} (h : Sub a b) (h' : Sub b c) : Sub a c := fun x o hx => h' x o (h x o hx)
theorem view_sub (c : Nat → Nat) (i : Nat) (w : World) : Sub (view c i w) (wv w) := fun b o h => by
  unfold view at h; split at h
  · exact h
  · simp at h
theorem view_out {c : Nat → Nat} {i : Nat} {w : World} {b : Nat} {o : Obj} (h : view c i w b = some o) : c b = i ∧ w.heap[b]? = some o := by
  unfold view at h; split at h
  · exact ⟨‹_›, h⟩
  · simp at h
theorem view_in {c : Nat → Nat} {i : Nat} {w : World} {b : Nat} {o : Obj} (hc : c b = i) (h : w.heap[b]? = some o) : view c i w b = some o := by
  unfold view; rw [if_pos hc]; exact h
theorem lt_of_heap {w : World} {b : Nat} {o : Obj} (h : w.heap[b]? = some o) : b < w.heap.size := by
  rcases Nat.lt_or_ge b w.heap.size with h' | h'
  · exact h'
  · rw [Array.getElem?_eq_none h'] at h; simp at h

/-- from w to w': of the old blocks only those of a colour among W may have turned; the new ones have a colour among N -/
structure Step (c : Nat → Nat) (W N : List Nat) (w : World) (c' : Nat → Nat) (w' : World) : Prop where
  os : w'.os = w.os
  tape : w'.tape = w.tape
  output : w'.output = w.output
  size : w.heap.size ≤ w'.heap.size
  col : ∀ b, b < w.heap.size → c' b = c b
  new : ∀ b, w.heap.size ≤ b → b < w'.heap.size → c' b ∈ N
  keep : ∀ b, b < w.heap.size → c b ∉ W → w'.heap[b]? = w.heap[b]?

theorem Step.refl (c : Nat → Nat) (W N : List Nat) (w : World) : Step c W N w c w := ⟨rfl, rfl, rfl, Nat.le_refl _, fun _ _ => rfl, fun b h h' => by omega, fun _ _ _ => rfl⟩
theorem Step.trans {c c1 c2 : Nat → Nat} {W N : List Nat} {w w1 w2 : World} (h : Step c W N w c1 w1) (h' : Step c1 W N w1 c2 w2) : Step c W N w c2 w2 :=
  ⟨h'.os.trans h.os, h'.tape.trans h.tape, h'.output.trans h.output, Nat.le_trans h.size h'.size, fun b hb => (h'.col b (Nat.lt_of_lt_of_le hb h.size)).trans (h.col b hb),
    fun b h1 h2 => by
      rcases Nat.lt_or_ge b w1.heap.size with hb | hb
      · rw [h'.col b hb]; exact h.new b h1 hb
      · exact h'.new b hb h2,
    fun b hb hc => (h'.keep b (Nat.lt_of_lt_of_le hb h.size) (by rw [h.col b hb]; exact hc)).trans (h.keep b hb hc)⟩
theorem Step.drew {c c1 : Nat → Nat} {W N : List Nat} {w w1 : World} (h : Step c W N w c1 w1) : Step c W N w c1 w1.drew := ⟨h.os, h.tape, h.output, h.size, h.col, h.new, h.keep⟩
theorem view_drew (c : Nat → Nat) (i : Nat) (w : World) : view c i w.drew = view c i w := rfl
theorem DrewC.mk {w : World} {C : World → Prop} (h : C w.drew) : DrewC w C := h
theorem Step.weak {c c1 : Nat → Nat} {W N W' N' : List Nat} {w w1 : World} (h : Step c W N w c1 w1) (hW : ∀ x ∈ W, x ∈ W') (hN : ∀ x ∈ N, x ∈ N') : Step c W' N' w c1 w1 :=
  ⟨h.os, h.tape, h.output, h.size, h.col, fun b h1 h2 => hN _ (h.new b h1 h2), fun b hb hc => h.keep b hb fun hm => hc (hW _ hm)⟩
theorem Step.and {c c1 c2 : Nat → Nat} {W N W' N' : List Nat} {w w1 w2 : World} (h : Step c W N w c1 w1) (h' : Step c1 W' N' w1 c2 w2) : Step c (W ++ W') (N ++ N') w c2 w2 :=
  (h.weak (by intro x hx; simp [hx]) (by intro x hx; simp [hx])).trans (h'.weak (by intro x hx; simp [hx]) (by intro x hx; simp [hx]))
/-- a colour that is neither written nor given to new blocks -/
theorem Step.view {c c1 : Nat → Nat} {W N : List Nat} {w w1 : World} (h : Step c W N w c1 w1) {i : Nat} (hW : i ∉ W) (hN : i ∉ N) : Vc.view c1 i w1 = Vc.view c i w := by
  funext b
  unfold Vc.view
  rcases Nat.lt_or_ge b w.heap.size with hb | hb
  · rw [h.col b hb]
    split
    · rename_i hc; exact h.keep b hb (by rw [hc]; exact hW)
    · rfl
  · rw [Array.getElem?_eq_none hb]
    rcases Nat.lt_or_ge b w1.heap.size with hb1 | hb1
    · have := h.new b hb hb1
      rw [if_neg (show ¬ c1 b = i from fun e => hN (e ▸ this))]; split <;> rfl
    · rw [Array.getElem?_eq_none hb1]; simp
/-- a colour that is not written -/
theorem Step.sub {c c1 : Nat → Nat} {W N : List Nat} {w w1 : World} (h : Step c W N w c1 w1) {i : Nat} (hW : i ∉ W) : Sub (Vc.view c i w) (Vc.view c1 i w1) := by
  intro b o hb
  obtain ⟨hc, ho⟩ := view_out hb
  have hlt := lt_of_heap ho
  exact view_in (by rw [h.col b hlt]; exact hc) (by rw [h.keep b hlt (by rw [hc]; exact hW)]; exact ho)

/-- new blocks take colour i -/
def ext (c : Nat → Nat) (n i : Nat) : Nat → Nat := fun b => if b < n then c b else i
theorem ext_old {c : Nat → Nat} {n i b : Nat} (h : b < n) : ext c n i b = c b := by simp [ext, h]
theorem ext_new {c : Nat → Nat} {n i b : Nat} (h : n ≤ b) : ext c n i b = i := by simp [ext, Nat.not_lt.2 h]
theorem Step.of_grown {c : Nat → Nat} {w w' : World} {row : Option Nat} (h : w.grownBy w' row) (W : List Nat) (i : Nat) (hr : ∀ b, row = some b → c b ∈ W) : Step c W [i] w (ext c w.heap.size i) w' :=
  ⟨h.os, h.tape, h.output, h.size, fun b hb => ext_old hb, fun b h1 _ => by rw [ext_new h1]; simp, fun b hb hc => h.block b hb fun e => hc (hr b e.symm)⟩

/-! rows of cells -/
def bv (x : UInt8) : Value := .int .u8 (x.toNat : Int)
def bvs (l : List UInt8) : List Value := l.map bv
@[simp] theorem bvs_length (l : List UInt8) : (bvs l).length = l.length := by simp [bvs]
@[simp] theorem bvs_append (l m : List UInt8) : bvs (l ++ m) = bvs l ++ bvs m := by simp [bvs]
theorem bvs_one (l : List UInt8) : ∀ u ∈ bvs l, u.oneCell' = true := by
  intro u hu; obtain ⟨x, _, rfl⟩ := List.mem_map.1 hu; rfl

/-- a slice of n elements, of z cells each, that can be read: xs -/
def RdS (h : View) (v : Value) (z n : Nat) (xs : List Value) : Prop :=
  ∃ o c, v = .slice o n c ∧ n ≤ c ∧ xs.length = n * z ∧
    (xs = [] ∨ ∃ b off cs T fz, o = some ⟨b, off, none⟩ ∧ h b = some (.cells cs T fz) ∧ ∀ (i : Nat) (u : Value), xs[i]? = some u → cs[off + i]? = some u)
/-- a slice that is nil, or the head of a block of its own -/
def OwS (h : View) (v : Value) (T z n : Nat) (xs : List Value) : Prop :=
  xs.length = n * z ∧ ((v = .slice none 0 0 ∧ n = 0) ∨
    ∃ g cap cur, v = .slice (some ⟨g, 0, none⟩) n cap ∧ h g = some (.cells cur T (0, 0)) ∧ n ≤ cap ∧ cap ≤ maxLen ∧ cur.size = cap * z ∧ cur.toList.take (n * z) = xs)
theorem RdS.mono {h h' : View} {v : Value} {z n : Nat} {xs : List Value} (hr : RdS h v z n xs) (hs : Sub h h') : RdS h' v z n xs := by
  obtain ⟨o, c, e, hn, hl, hx⟩ := hr
  refine ⟨o, c, e, hn, hl, hx.imp id ?_⟩
  rintro ⟨b, off, cs, T, fz, e', hb, hc⟩
  exact ⟨b, off, cs, T, fz, e', hs _ _ hb, hc⟩
theorem OwS.mono {h h' : View} {v : Value} {T z n : Nat} {xs : List Value} (hr : OwS h v T z n xs) (hs : Sub h h') : OwS h' v T z n xs := by
  refine ⟨hr.1, hr.2.imp id ?_⟩
  rintro ⟨g, cap, cur, e, hg, r⟩
  exact ⟨g, cap, cur, e, hs _ _ hg, r⟩
theorem OwS.rd {h : View} {v : Value} {T z n : Nat} {xs : List Value} (ho : OwS h v T z n xs) : RdS h v z n xs := by
  obtain ⟨hl, ho⟩ := ho
  rcases ho with ⟨rfl, rfl⟩ | ⟨g, cap, cur, rfl, hg, hn, _, hs, ht⟩
  · have : xs = [] := List.eq_nil_of_length_eq_zero (by simpa using hl)
    exact ⟨none, 0, rfl, Nat.le_refl _, hl, .inl this⟩
  · refine ⟨_, cap, rfl, hn, hl, .inr ⟨g, 0, cur, T, (0, 0), rfl, hg, fun i u hu => ?_⟩⟩
    rw [← ht, List.getElem?_take] at hu
    split at hu
    · simpa using hu
    · simp at hu
theorem OwS.owns {w : World} {v : Value} {T z n : Nat} {xs : List Value} (ho : OwS (wv w) v T z n xs) : w.ownsRow 0 T z v n xs := by
  refine ⟨ho.1, ho.2.imp id ?_⟩
  rintro ⟨g, cap, cur, e, hg, r⟩
  exact ⟨g, cap, cur, e, Nat.zero_le _, hg, r⟩
theorem OwS.of_owns {w : World} {v : Value} {T z n : Nat} {xs : List Value} (ho : w.ownsRow 0 T z v n xs) : OwS (wv w) v T z n xs := by
  refine ⟨ho.1, ho.2.imp id ?_⟩
  rintro ⟨g, cap, cur, e, _, hg, r⟩
  exact ⟨g, cap, cur, e, hg, r⟩
theorem OwS.nil (h : View) (T z : Nat) : OwS h (.slice none 0 0) T z 0 [] := ⟨by simp, .inl ⟨rfl, rfl⟩⟩
theorem RdS.nil (h : View) (z : Nat) (o : Option Addr) (c : Nat) : RdS h (.slice o 0 c) z 0 [] := ⟨o, c, rfl, Nat.zero_le _, by simp, .inl rfl⟩
theorem OwS.form {h : View} {v : Value} {T z n : Nat} {xs : List Value} (ho : OwS h v T z n xs) : ∃ o c, v = .slice o n c := by
  rcases ho.2 with ⟨rfl, rfl⟩ | ⟨g, cap, cur, rfl, _⟩
  · exact ⟨none, 0, rfl⟩
  · exact ⟨_, _, rfl⟩
theorem RdS.cell {w : World} {o : Option Addr} {l c z n : Nat} {xs : List Value} (hr : RdS (wv w) (.slice o l c) z n xs) {i : Nat} {u : Value} (hu : xs[i]? = some u) :
    ∃ a : Addr, o = some a ∧ w.cell? (a.add i) = some u := by
  obtain ⟨o', c', e, _, _, hx⟩ := hr
  cases e
  rcases hx with rfl | ⟨b, off, cs, T, fz, rfl, hb, hc⟩
  · simp at hu
  · refine ⟨_, rfl, ?_⟩
    have hb : w.heap[b]? = some (.cells cs T fz) := hb
    have := hc i u hu
    unfold Addr.add
    split
    · rename_i h; subst h
      rw [cell_of_row w b off cs T fz hb]; simpa using this
    · rw [cell_of_row w b (off + i) cs T fz hb]; exact this

/-! slice types -/
def slTB (P : Program) (t e z by' : Nat) : Bool :=
  (match P.underlying t with | some (.slice e') => Nat.beq e' e | _ => false) &&
  (match P.info? e with | some i => Nat.beq i.size z && Nat.beq i.bytes by' && Nat.blt 0 z && (match i.zero with | some v => Nat.beq v.cells.size z | none => false) | none => false)
structure SlT (P : Program) (t e z by' : Nat) : Prop where
  und : P.underlying t = some (.slice e)
  inf : ∃ i v, P.info? e = some i ∧ i.size = z ∧ i.bytes = by' ∧ i.zero = some v ∧ v.cells.size = z
  pos : 0 < z
theorem SlT.of {P : Program} {t e z by' : Nat} (h : slTB P t e z by' = true) : SlT P t e z by' := by
  unfold slTB at h
  rw [Bool.and_eq_true] at h
  obtain ⟨h1, h2⟩ := h
  split at h1
  · rename_i e' hu
    have := Nat.eq_of_beq_eq_true h1
    subst this
    split at h2
    · rename_i i hi
      simp only [Bool.and_eq_true] at h2
      obtain ⟨⟨⟨a, b⟩, c⟩, d⟩ := h2
      split at d
      · rename_i v hv
        exact ⟨hu, ⟨i, v, hi, Nat.eq_of_beq_eq_true a, Nat.eq_of_beq_eq_true b, hv, Nat.eq_of_beq_eq_true d⟩, by simpa using c⟩
      · simp at d
    · simp at h2
  · simp at h1

/-- a change of colour i alone: of its blocks only 'row' may have turned -/
structure Wr (c : Nat → Nat) (i : Nat) (w : World) (c' : Nat → Nat) (w' : World) (row : Option Nat) : Prop where
  step : Step c [i] [i] w c' w'
  old : ∀ b o, view c i w b = some o → row ≠ some b → view c' i w' b = some o
theorem Wr.of_grown {c : Nat → Nat} {w w' : World} {row : Option Nat} {i : Nat} (h : w.grownBy w' row) (hr : ∀ b, row = some b → c b = i) : Wr c i w (ext c w.heap.size i) w' row :=
  ⟨.of_grown h [i] i fun b hb => by simp [hr b hb], fun b o hb hne => by
    obtain ⟨hc, ho⟩ := view_out hb
    have hlt := lt_of_heap ho
    exact view_in (by rw [ext_old hlt]; exact hc) (by rw [h.block b hlt (Ne.symm hne)]; exact ho)⟩
theorem Wr.same {c : Nat → Nat} {w w' : World} {row : Option Nat} {i : Nat} (h : w.grownBy w' row) (hs : w'.heap.size = w.heap.size) (hr : ∀ b, row = some b → c b = i) : Wr c i w c w' row :=
  ⟨⟨h.os, h.tape, h.output, h.size, fun _ _ => rfl, fun b h1 h2 => by omega, fun b hb hc => h.block b hb fun e => by rw [hr b e.symm] at hc; simp at hc⟩, fun b o hb hne => by
    obtain ⟨hc, ho⟩ := view_out hb
    have hlt := lt_of_heap ho
    exact view_in hc (by rw [h.block b hlt (Ne.symm hne)]; exact ho)⟩

theorem OwS.block {h : View} {v : Value} {T z n : Nat} {xs : List Value} (ho : OwS h v T z n xs) : ∀ b, v.ownBlock = some b → ∃ cur, h b = some (.cells cur T (0, 0)) := by
  intro b hb
  rcases ho.2 with ⟨rfl, rfl⟩ | ⟨g, cap, cur, rfl, hg, _⟩
  · simp [Value.ownBlock] at hb
  · simp [Value.ownBlock] at hb; subst hb; exact ⟨cur, hg⟩
theorem OwS.block_ne {h : View} {v : Value} {T z n : Nat} {xs : List Value} (ho : OwS h v T z n xs) {b : Nat} {cs : Array Value} {T' : Nat} {fz : Nat × Nat} (hb : h b = some (.cells cs T' fz)) (hT : T' ≠ T) : v.ownBlock ≠ some b := by
  intro e
  obtain ⟨cur, hc⟩ := ho.block b e
  rw [hb] at hc
  simp at hc
  exact hT hc.2.1

theorem take_append {xs ys ws : List Value} {n : Nat} (hx : xs.length = n) : ((xs ++ ys ++ ws).take (n + ys.length)) = xs ++ ys := by
  rw [show n + ys.length = (xs ++ ys).length by simp [hx]]
  exact List.take_left

section
variable {P : Program}
/-- append -/
theorem append_col {t e z by' ty : Nat} (hT : SlT P t e z by') {c : Nat → Nat} {i : Nat} {w : World} {s x : Value} {n m : Nat} {xs ys : List Value} (ho : OwS (view c i w) s e z n xs) (hr : RdS (wv w) x z m ys)
    (h1 : ∀ u ∈ ys, u.oneCell' = true) (hb : (n + m) * by' ≤ 140737488355328) (hm : n + m ≤ 140737488355328) {K : Value → World → Prop}
    (h : ∀ v' c' w', Wr c i w c' w' s.ownBlock → OwS (view c' i w') v' e z (n + m) (xs ++ ys) → (v' = .slice none 0 0 ↔ s = .slice none 0 0 ∧ m = 0) → K v' w') :
    RunV P (Builtin.append_ #[t, t] ty #[s, x]) w K := by
  obtain ⟨ti, zv, hi, hsz, hby, hz, hzs⟩ := hT.inf
  obtain ⟨o, cp, rfl, hmc, hl, hx⟩ := hr
  have hml : n + m ≤ maxLen := by simp only [maxLen]; omega
  have hlen : (xs ++ ys).length = (n + m) * z := by rw [List.length_append, ho.1, hl, Nat.add_mul]
  have hcol : ∀ b, s.ownBlock = some b → c b = i := fun b hb => by obtain ⟨cur, hc⟩ := ho.block b hb; exact (view_out hc).1
  cases o with
  | none =>
    have hys : ys = [] := by
      rcases hx with h | ⟨b, off, cs, T, fz, e', _⟩
      · exact h
      · simp at e'
    subst hys
    have hm0 : m = 0 := by
      have h0 : m * z = 0 := by simpa using hl.symm
      rcases Nat.mul_eq_zero.1 h0 with h | h
      · exact h
      · have := hT.pos; omega
    subst hm0
    have hrun : (Builtin.append_ #[t, t] ty #[s, .slice none 0 cp]).run P w = .ok s w := by
      rcases ho.2 with ⟨rfl, rfl⟩ | ⟨g, cap, cur, rfl, _, hnc, _⟩
      · simp [Builtin.append_, run_underlying hT.und, sizeOf, typeInfo, hi, Builtin.lenOf, Builtin.firstCells]
      · simp [Builtin.append_, run_underlying hT.und, sizeOf, typeInfo, hi, Builtin.lenOf, Builtin.firstCells, hnc, storeCells]
    exact .mk hrun (h s c w (.same ⟨rfl, rfl, rfl, Nat.le_refl _, fun _ _ _ => rfl⟩ rfl hcol) (by simpa using ho) (by simp))
  | some a =>
    have hnews : ∀ j u, ys[j]? = some u → w.cell? (a.add j) = some u := by
      intro j u hu
      have hr : RdS (wv w) (.slice (some a) m cp) z m ys := ⟨_, _, rfl, hmc, hl, hx⟩
      obtain ⟨a', ea, hc⟩ := hr.cell hu
      simp at ea; subst ea; exact hc
    have grown : ∀ (old : Nat), old < n + m →
        OwS (view (ext c w.heap.size i) i (w.drew.alloc (.cells (xs.toArray ++ ys.toArray ++ Builtin.zeroCells zv.cells (grownCap w (n + m) old e - (n + m))) e)))
          (.slice (some ⟨w.heap.size, 0, none⟩) (n + m) (grownCap w (n + m) old e)) e z (n + m) (xs ++ ys) ∧
        Wr c i w (ext c w.heap.size i) (w.drew.alloc (.cells (xs.toArray ++ ys.toArray ++ Builtin.zeroCells zv.cells (grownCap w (n + m) old e - (n + m))) e)) s.ownBlock := by
      intro old hold
      have hge := grownCap_ge w (n + m) old e
      have hcm : grownCap w (n + m) old e ≤ maxLen := grownCap_le_maxLen w (n + m) old e hml
      refine ⟨⟨hlen, .inr ⟨w.heap.size, _, _, rfl, view_in (ext_new (Nat.le_refl _)) (heap_alloc_new w.drew _), hge, hcm, ?_, ?_⟩⟩, .of_grown ⟨rfl, rfl, rfl, by simp, fun k hk _ => heap_alloc_old w.drew _ hk⟩ hcol⟩
      · simp only [Array.size_append, List.size_toArray, size_zeroCells, hzs, ho.1, hl, ← Nat.add_mul]
        congr 1
        omega
      · simp only [Array.toList_append, List.append_assoc]
        rw [← List.append_assoc, ← hlen]
        exact List.take_left
    have hsub : ∀ {g cap cur}, s = .slice (some ⟨g, 0, none⟩) n cap → view c i w g = some (.cells cur e (0, 0)) → w.heap[g]? = some (.cells cur e (0, 0)) := fun _ hg => (view_out hg).2
    rcases ho.2 with ⟨rfl, rfl⟩ | ⟨g, cap, cur, rfl, hg, hnc, hcm, hcs, htake⟩
    · have hx0 : xs = [] := List.eq_nil_of_length_eq_zero (by simpa using ho.1)
      subst hx0
      by_cases hm0 : m = 0
      · subst hm0
        have hn : ys = [] := List.eq_nil_of_length_eq_zero (by simpa using hl)
        subst hn
        refine .mk (v := .slice none 0 0) (w' := w) ?_ (h _ c w (.same ⟨rfl, rfl, rfl, Nat.le_refl _, fun _ _ _ => rfl⟩ rfl hcol) (by simpa using ho) (by simp))
        simp [Builtin.append_, run_underlying hT.und, sizeOf, typeInfo, hi, Builtin.lenOf, Builtin.firstCells, loadCells, loadCellsFrom, hsz]
      · have hrun := run_append_nil (P := P) w t ty e ti zv hT.und hi hz a m cp ys (by rw [hl, hsz]) hnews (by omega) (by omega) (by rw [hby]; have hb := hb; simp only [Nat.zero_add] at hb; omega)
        have hgr := grown 0 (by omega)
        simp only [Nat.zero_add, List.nil_append, Array.empty_append] at hgr h
        exact .mk hrun (h _ _ _ hgr.2 hgr.1 (by simp [hm0]))
    · have hgw := (view_out hg).2
      by_cases hroom : n + m ≤ cap
      · have hfit : n * ti.size + ys.length ≤ cur.size := by rw [hl, hcs, hsz, ← Nat.add_mul]; exact Nat.mul_le_mul_right _ hroom
        have hrun := run_append_room (P := P) w t ty e ti hT.und hi g n cap cur hgw a m cp ys (by rw [hl, hsz]) hnews h1 hroom hfit
        rw [hsz] at hrun hfit
        refine .mk hrun (h _ c _ (.same ⟨rfl, rfl, rfl, by simp, fun k _ hk => setRow_other w g k _ (fun e => hk (by simp [Value.ownBlock, e]))⟩ (by simp) hcol) ?_ (by simp))
        refine ⟨hlen, .inr ⟨g, cap, _, rfl, view_in (view_out hg).1 (setRow_heap w g cur _ e _ hgw), hroom, hcm, ?_, ?_⟩⟩
        · simp only [List.size_toArray, List.length_append, List.length_take, List.length_drop, Array.length_toList]
          omega
        · rw [htake, ← hlen]
          exact List.take_left
      · have holds : ∀ j u, xs[j]? = some u → w.cell? ((⟨g, 0, none⟩ : Addr).add j) = some u := by
          intro j u hu
          obtain ⟨a', ea, hc⟩ := (ho.mono (view_sub c i w)).rd.cell hu
          simp at ea; subst ea; exact hc
        have hrun := run_append_grow (P := P) w t ty e ti zv hT.und hi hz ⟨g, 0, none⟩ n cap xs (by rw [ho.1, hsz]) holds a m cp ys (by rw [hl, hsz]) hnews (by omega) (by omega) (by rw [hby]; exact growslice_fits (by omega) hb)
        have hgr := grown cap (by omega)
        exact .mk hrun (h _ _ _ hgr.2 hgr.1 (by simp))

theorem AllocC.col (c : Nat → Nat) (i : Nat) {w : World} {cs : Array Value} {T : Nat} {C : Nat → World → Prop}
    (h : ∀ b c' w', Wr c i w c' w' none → view c' i w' b = some (.cells cs T (0, 0)) → w.heap[b]? = none → C b w') : AllocC w (.cells cs T) C :=
  h _ _ _ (.of_grown (i := i) ⟨rfl, rfl, rfl, by simp, fun k hk _ => heap_alloc_old w _ hk⟩ (by simp)) (view_in (ext_new (Nat.le_refl _)) (heap_alloc_new w _)) (Array.getElem?_eq_none (Nat.le_refl _))

theorem addr_add (b off k : Nat) : (⟨b, off, none⟩ : Addr).add k = ⟨b, off + k, none⟩ := by
  unfold Addr.add
  split
  · rename_i h; subst h; rfl
  · rfl

theorem StoreC.col {c : Nat → Nat} {i : Nat} {w : World} {b off : Nat} {cs : Array Value} {T : Nat} {v : Value} {C : World → Prop} (hb : view c i w b = some (.cells cs T (0, 0))) (hk : off < cs.size)
    (h : ∀ w', Wr c i w c w' (some b) → Step c [i] [] w c w' → view c i w' b = some (.cells (cs.setIfInBounds off v) T (0, 0)) → C w') : StoreC w ⟨b, off, none⟩ v C := by
  obtain ⟨hc, hw⟩ := view_out hb
  have hW : Wr c i w c (w.setCell ⟨b, off, none⟩ v) (some b) := .same ⟨rfl, rfl, rfl, by simp, fun k _ hk => heap_setCell_other w _ k v (fun e => hk (by simp [e]))⟩ (by simp) (by simp [hc])
  have h0 := hW.step
  have hsz : (w.setCell ⟨b, off, none⟩ v).heap.size = w.heap.size := by simp
  refine ⟨⟨?_, frozen_of_row w b off cs T hw⟩, h _ hW ⟨h0.os, h0.tape, h0.output, h0.size, h0.col, fun b' h1 h2 => by omega, h0.keep⟩ (view_in hc (heap_setCell_same w b off cs T v hw))⟩
  rw [cell_of_row w b off cs T (0, 0) hw, Array.getElem?_eq_getElem hk]; rfl

theorem LoadC.at {h : View} {w : World} (hs : Sub h (wv w)) {b off : Nat} {cs : Array Value} {T : Nat} {fz : Nat × Nat} {v : Value} {C : Value → Prop} (hb : h b = some (.cells cs T fz)) (hv : cs[off]? = some v) (hC : C v) : LoadC w ⟨b, off, none⟩ C :=
  .mk (by rw [cell_of_row w b off cs T fz (hs _ _ hb)]; exact hv) hC
theorem StableC.at {h : View} {w : World} (hs : Sub h (wv w)) {b off : Nat} {cs : Array Value} {T : Nat} {fz : Nat × Nat} {v : Value} (hb : h b = some (.cells cs T fz)) (hv : cs[off]? = some v) : StableC w ⟨b, off, none⟩ v := by
  unfold StableC
  rw [cell_of_row w b off cs T fz (hs _ _ hb)]; exact hv

theorem RdS.loadCells {w : World} {a : Addr} {l c n : Nat} {xs : List Value} (hr : RdS (wv w) (.slice (some a) l c) 1 n xs) : (loadCells a n).run P w = .ok xs.toArray w := by
  have hl : xs.length = n := by obtain ⟨_, _, _, _, hl, _⟩ := hr; simpa using hl
  rw [← hl]
  refine run_loadCells_list w a xs fun j v hv => ?_
  obtain ⟨a', e, hc⟩ := hr.cell hv
  simp at e; subst e; exact hc

def strOf (l : List UInt8) : ByteArray := ⟨l.toArray⟩
@[simp] theorem strOf_size (l : List UInt8) : (strOf l).size = l.length := by simp [strOf, ByteArray.size]
@[simp] theorem strOf_data (l : List UInt8) : (strOf l).data.toList = l := by simp [strOf]
theorem foldl_push (l : List UInt8) : ∀ s : ByteArray, (l.map fun x => (x.toNat : Int)).foldl (fun r n => r.push (UInt8.ofNat n.toNat)) s = ⟨s.data ++ l.toArray⟩ := by
  induction l with
  | nil => intro s; simp
  | cons x l ih =>
    intro s
    simp only [List.map_cons, List.foldl_cons]
    rw [ih]
    congr 1
    simp [ByteArray.push]
def isBytesB (P : Program) (s t : TypeId) : Bool := isRead P (.convert s t (.tmp 0))
/-- string(b) -/
theorem string_run {s t : TypeId} (hT : isBytesB P s t = true) {w : World} {v : Value} {n : Nat} {l : List UInt8} (hr : RdS (wv w) v 1 n (bvs l)) :
    (convert s t v).run P w = .ok (.string (strOf l)) w := by
  have hT' : ∃ e, P.underlying s = some (.slice e) ∧ P.underlying t = some .string ∧ P.underlying e = some (.int .u8) := by
    unfold isBytesB at hT
    simp only [isRead] at hT
    split at hT
    · rename_i e h1 h2
      split at hT
      · rename_i h3; exact ⟨e, h1, h2, h3⟩
      · simp at hT
    · simp at hT
  obtain ⟨e, hs, ht, he⟩ := hT'
  obtain ⟨o, c, rfl, hn, hl, hx⟩ := hr
  rw [run_convert_bytes_string w s t e o n c hs he ht]
  cases o with
  | none =>
    have : bvs l = [] := by
      rcases hx with h | ⟨b, off, cs, T, fz, e', _⟩
      · exact h
      · simp at e'
    have : l = [] := by simpa [bvs] using this
    subst this
    simp only [Conv.bytesToString, Sem.run_pure]
    rfl
  | some a =>
    have hr : RdS (wv w) (.slice (some a) n c) 1 n (bvs l) := ⟨_, _, rfl, hn, hl, hx⟩
    have hload := hr.loadCells (P := P)
    have := run_bytesToString (P := P) w a n c (l.map fun x => (x.toNat : Int)) (by rw [hload]; simp [bvs, bv, Function.comp_def])
    rw [this, foldl_push]
    simp [strOf]

theorem string_rule {s t : TypeId} (hT : isBytesB P s t = true) {w : World} {v : Value} {n : Nat} {l : List UInt8} (hr : RdS (wv w) v 1 n (bvs l)) {K : Value → Prop} (h : K (.string (strOf l))) :
    ReadV P (convert s t v) w K := .mk (string_run hT hr) h
theorem StableV.string {s t : TypeId} (hT : isBytesB P s t = true) {w : World} {v : Value} {n : Nat} {l : List UInt8} (hr : RdS (wv w) v 1 n (bvs l)) : StableV P (convert s t v) w (.string (strOf l)) := string_run hT hr

theorem strEq_of (l m : List UInt8) : strEq (strOf l) (strOf m) = decide (l = m) := by
  unfold strEq
  rw [ByteArray.toList_eq, ByteArray.toList_eq]
  simp only [strOf_data]
  by_cases h : l = m
  · simp [h]
  · simp [h]
end

theorem RdS.block {h : View} {b n : Nat} {z : Nat} {xs : List Value} {T : Nat} {fz : Nat × Nat} (hb : h b = some (.cells xs.toArray T fz)) (hl : xs.length = n * z) {c : Nat} (hc : n ≤ c) : RdS h (.slice (some ⟨b, 0, none⟩) n c) z n xs :=
  ⟨_, _, rfl, hc, hl, .inr ⟨b, 0, _, T, fz, rfl, hb, fun i u hu => by simpa using hu⟩⟩

theorem Wr.stepNew {c0 c c' : Nat → Nat} {i : Nat} {w0 w w' : World} {row : Option Nat} {N : List Nat} (h0 : Step c0 [] N w0 c w) (hN : i ∈ N) (h : Wr c i w c' w' row) (hr : ∀ b, row = some b → w0.heap.size ≤ b) : Step c0 [] N w0 c' w' := by
  have h1 : Step c0 [i] N w0 c' w' := (h0.weak (by simp) (by simp)).trans (h.step.weak (by simp) (by simpa using hN))
  refine ⟨h1.os, h1.tape, h1.output, h1.size, h1.col, h1.new, fun b hb _ => ?_⟩
  by_cases hc : c0 b = i
  · have e : w0.heap[b]? = some w0.heap[b] := Array.getElem?_eq_getElem hb
    have := (h0.keep b hb (by simp)).trans e
    have hv := h.old b _ (view_in (by rw [h0.col b hb]; exact hc) this) (fun e => by have := hr b e; omega)
    rw [(view_out hv).2, e]
  · exact h1.keep b hb (by simpa using hc)
theorem Wr.fresh {c c' : Nat → Nat} {i : Nat} {w w' : World} (h : Wr c i w c' w' none) : Step c [] [i] w c' w' :=
  Wr.stepNew (Step.refl c [] [i] w) (by simp) h (by simp)
theorem size_le_of_none {w : World} {b : Nat} (h : w.heap[b]? = none) : w.heap.size ≤ b := by simpa using h

theorem Wr.sub {c c' : Nat → Nat} {i : Nat} {w w' : World} (h : Wr c i w c' w' none) : Sub (view c i w) (view c' i w') := fun b o hb => h.old b o hb (by simp)
theorem RdS.take {h : View} {o : Option Addr} {l c z n k : Nat} {xs : List Value} (hr : RdS h (.slice o l c) z n xs) (hk : k ≤ n) : RdS h (.slice (slBase o c 0 z) k c) z k (xs.take (k * z)) := by
  obtain ⟨o', c', e, hn, hl, hx⟩ := hr
  cases e
  have hkz : k * z ≤ l * z := Nat.mul_le_mul_right _ hk
  refine ⟨_, _, rfl, by omega, by rw [List.length_take, hl]; omega, ?_⟩
  rcases hx with rfl | ⟨b, off, cs, T, fz, rfl, hb, hc⟩
  · left; simp
  · right
    have e : slBase (some ⟨b, off, none⟩) c 0 z = some ⟨b, off, none⟩ := by unfold slBase; split <;> simp [addr_add]
    rw [e]
    refine ⟨b, off, cs, T, fz, rfl, hb, fun i u hu => hc i u ?_⟩
    rw [List.getElem?_take] at hu
    split at hu
    · exact hu
    · simp at hu
theorem RdS.drop {h : View} {o : Option Addr} {l c z n k : Nat} {xs : List Value} (hr : RdS h (.slice o l c) z n xs) (hk : k ≤ n) : RdS h (.slice (slBase o c k z) (l - k) (c - k)) z (n - k) (xs.drop (k * z)) := by
  obtain ⟨o', c', e, hn, hl, hx⟩ := hr
  cases e
  refine ⟨_, _, rfl, by omega, by rw [List.length_drop, hl, Nat.sub_mul], ?_⟩
  rcases hx with rfl | ⟨b, off, cs, T, fz, rfl, hb, hc⟩
  · left; simp
  · by_cases hck : c = k
    · left; apply List.drop_eq_nil_of_le; rw [hl]; exact Nat.mul_le_mul_right _ (by omega)
    · right
      have e : slBase (some ⟨b, off, none⟩) c k z = some ⟨b, off + k * z, none⟩ := by unfold slBase; rw [if_neg hck]; simp [addr_add]
      rw [e]
      refine ⟨b, off + k * z, cs, T, fz, rfl, hb, fun i u hu => ?_⟩
      rw [List.getElem?_drop] at hu
      rw [Nat.add_assoc]; exact hc _ u hu
theorem RdS.len {h : View} {o : Option Addr} {l c z n : Nat} {xs : List Value} (hr : RdS h (.slice o l c) z n xs) : l = n ∧ n ≤ c ∧ xs.length = n * z := by
  obtain ⟨o', c', e, hn, hl, hx⟩ := hr
  cases e; exact ⟨rfl, hn, hl⟩
theorem RdS.form {h : View} {v : Value} {z n : Nat} {xs : List Value} (ho : RdS h v z n xs) : ∃ o c, v = .slice o n c := by
  obtain ⟨o, c, e, _⟩ := ho; exact ⟨o, c, e⟩
theorem bvs_take (l : List UInt8) (k : Nat) : bvs (l.take k) = (bvs l).take k := by simp [bvs, List.map_take]
theorem bvs_drop (l : List UInt8) (k : Nat) : bvs (l.drop k) = (bvs l).drop k := by simp [bvs, List.map_drop]
theorem bvs_get (l : List UInt8) (k : Nat) : (bvs l)[k]? = l[k]?.map bv := by simp [bvs]
/-- all but one block -/
def but (h : View) (b : Nat) : View := fun k => if k = b then none else h k
theorem but_sub (h : View) (b : Nat) : Sub (but h b) h := fun k o hk => by unfold but at hk; split at hk <;> simp_all
theorem but_in {h : View} {b k : Nat} {o : Obj} (hk : h k = some o) (hne : k ≠ b) : but h b k = some o := by unfold but; rw [if_neg hne]; exact hk
theorem but_out {h : View} {b k : Nat} {o : Obj} (hk : but h b k = some o) : k ≠ b ∧ h k = some o := by
  unfold but at hk; split at hk
  · simp at hk
  · exact ⟨‹_›, hk⟩
theorem but_mono {h h' : View} (hs : Sub h h') (b : Nat) : Sub (but h b) (but h' b) := fun k o hk => but_in (hs _ _ (but_out hk).2) (but_out hk).1
theorem Wr.but {c c' : Nat → Nat} {i b : Nat} {w w' : World} (h : Wr c i w c' w' (some b)) : Sub (but (view c i w) b) (but (view c' i w') b) := fun k o hk =>
  but_in (h.old k o (but_out hk).2 (fun e => (but_out hk).1 (by simpa using e.symm))) (but_out hk).1
theorem Wr.but_new {c c' : Nat → Nat} {i b : Nat} {w w' : World} (h : Wr c i w c' w' none) (hb : w.heap[b]? = none) : Sub (view c i w) (Vc.but (view c' i w') b) := fun k o hk =>
  but_in (h.old k o hk (by simp)) (fun e => by rw [← e, (view_out hk).2] at hb; simp at hb)
theorem OwS.but {h : View} {v : Value} {T z n : Nat} {xs : List Value} (ho : OwS h v T z n xs) {b : Nat} {cs : Array Value} {T' : Nat} {fz : Nat × Nat} (hb : h b = some (.cells cs T' fz)) (hT : T' ≠ T) : OwS (Vc.but h b) v T z n xs := by
  refine ⟨ho.1, ho.2.imp id ?_⟩
  rintro ⟨g, cap, cur, e, hg, r⟩
  exact ⟨g, cap, cur, e, but_in hg (fun e => by subst e; rw [hg] at hb; simp at hb; exact hT hb.2.1.symm), r⟩
theorem OwS.but_own {h : View} {b : Nat} {v : Value} {T z n : Nat} {xs : List Value} (ho : OwS (Vc.but h b) v T z n xs) : v.ownBlock ≠ some b := by
  rcases ho.2 with ⟨rfl, rfl⟩ | ⟨g, cap, cur, rfl, hg, _⟩
  · simp [Value.ownBlock]
  · simp [Value.ownBlock]; exact (but_out hg).1
section
variable {P : Program}
/-- []byte of a constant: the row is marked -/
theorem mark_col {t e : TypeId} (ht : P.underlying t = some (.slice e)) (he : P.underlying e = some (.int .u8)) {c : Nat → Nat} {i : Nat} {w : World} {b : Nat} {C : Array Value} (hb : view c i w b = some (.cells C e (0, 0))) {n m : Nat} {K : Value → World → Prop}
    (h : ∀ w', Wr c i w c w' (some b) → Step c [i] [] w c w' → view c i w' b = some (.cells C e (C.size, C.size + 1)) → K (.slice (some ⟨b, 0, none⟩) n m) w') :
    RunV P (convert t t (.slice (some ⟨b, 0, none⟩) n m)) w K := by
  obtain ⟨hc, hw⟩ := view_out hb
  have hsh : w.shape? b = some (e, C.size) := by unfold World.shape?; rw [hw]
  have hrun : (convert t t (.slice (some ⟨b, 0, none⟩) n m)).run P w = .ok (.slice (some ⟨b, 0, none⟩) n m) (w.freeze ⟨b, C.size, none⟩ 1) := by
    simp [convert, run_underlying ht, run_underlying he, markStringish, hsh]
  have hsz : (w.freeze ⟨b, C.size, none⟩ 1).heap.size = w.heap.size := by simp [World.freeze]
  have hother : ∀ k, b ≠ k → (w.freeze ⟨b, C.size, none⟩ 1).heap[k]? = w.heap[k]? := fun k hk => by
    simp [World.freeze, Array.getElem?_modify, hk]
  have hself : (w.freeze ⟨b, C.size, none⟩ 1).heap[b]? = some (.cells C e (C.size, C.size + 1)) := by
    simp [World.freeze, Array.getElem?_modify, hw]
  have hW : Wr c i w c (w.freeze ⟨b, C.size, none⟩ 1) (some b) := .same ⟨rfl, rfl, rfl, by omega, fun k _ hk => hother k (fun e => hk (by simp [e]))⟩ hsz (by simp [hc])
  have h0 := hW.step
  exact RunV.mk hrun (h _ hW ⟨h0.os, h0.tape, h0.output, h0.size, h0.col, fun b' h1 h2 => by omega, h0.keep⟩ (view_in hc hself))
end
end Go.Vc
namespace Go.Proofs.YtdjgdcafmfheoaaDoor
open Go.Vc
theorem okN : okNames Tryd.prog = true := by kernel_rfl
theorem mixed : Tryd.prog.follows .mixedOrders = true := by kernel_rfl
theorem slU8 : SlT Tryd.prog 26 5 1 1 := .of (by kernel_rfl)
theorem strU8 : isBytesB Tryd.prog 26 9 = true := by kernel_rfl
end Go.Proofs.YtdjgdcafmfheoaaDoor
namespace Go.Vc
open Go

def byteAt (n k : Nat) : UInt8 := UInt8.ofNat (n / 256 ^ k)
/-- the k low bytes of n, the great one first -/
def be (n : Nat) : Nat → List UInt8
  | 0 => []
  | k + 1 => byteAt n k :: be n k
@[simp] theorem be_length (n k : Nat) : (be n k).length = k := by
  induction k with
  | zero => rfl
  | succ k ih => simp [be, ih]
def num (l : List UInt8) : Nat := l.foldl (fun a x => a * 256 + x.toNat) 0
theorem num_snoc (l : List UInt8) (x : UInt8) : num (l ++ [x]) = num l * 256 + x.toNat := by simp [num]
theorem foldl_num (l : List UInt8) : ∀ a : Nat, l.foldl (fun a x => a * 256 + x.toNat) a = a * 256 ^ l.length + num l := by
  induction l with
  | nil => intro a; simp [num]
  | cons x l ih =>
    intro a
    simp only [List.foldl_cons, List.length_cons, num]
    rw [ih, ih (0 * 256 + x.toNat), Nat.pow_succ]
    simp only [Nat.zero_mul, Nat.zero_add, Nat.add_mul, Nat.mul_assoc, Nat.mul_comm 256, Nat.add_assoc]
theorem num_cons (x : UInt8) (l : List UInt8) : num (x :: l) = x.toNat * 256 ^ l.length + num l := by
  show (x :: l).foldl (fun a x => a * 256 + x.toNat) 0 = _
  simp only [List.foldl_cons]
  rw [foldl_num]; simp
theorem num_lt (l : List UInt8) : num l < 256 ^ l.length := by
  induction l with
  | nil => simp [num]
  | cons x l ih =>
    rw [num_cons, List.length_cons, Nat.pow_succ]
    have hx : x.toNat ≤ 255 := by have := x.toNat_lt; omega
    have := Nat.mul_le_mul_right (256 ^ l.length) hx
    omega
theorem byteAt_toNat (n k : Nat) : (byteAt n k).toNat = n / 256 ^ k % 256 := by simp [byteAt]
theorem num_be (n k : Nat) : num (be n k) = n % 256 ^ k := by
  induction k with
  | zero => simp [be, num, Nat.mod_one]
  | succ k ih =>
    rw [be, num_cons, be_length, ih, byteAt_toNat]
    have h1 : n % 256 ^ (k + 1) = n % 256 ^ k + 256 ^ k * (n / 256 ^ k % 256) := by
      rw [Nat.pow_succ, Nat.mod_mul]
    rw [h1, Nat.mul_comm]; omega
theorem be_mod (n k : Nat) : be (n % 256 ^ k) k = be n k := by
  have key : ∀ j, j ≤ k → be (n % 256 ^ k) j = be n j := by
    intro j
    induction j with
    | zero => intro _; rfl
    | succ j ih =>
      intro hj
      rw [be, be, ih (by omega)]
      congr 1
      have : (byteAt (n % 256 ^ k) j).toNat = (byteAt n j).toNat := by
        rw [byteAt_toNat, byteAt_toNat]
        have e : 256 ^ k = 256 ^ j * 256 ^ (k - j) := by rw [← Nat.pow_add]; congr 1; omega
        rw [e, Nat.mod_mul_right_div_self]
        have e2 : 256 ^ (k - j) = 256 * 256 ^ (k - j - 1) := by rw [← Nat.pow_succ']; congr 1; omega
        rw [e2, Nat.mod_mul_right_mod]
      exact UInt8.toNat_inj.1 this
  exact key k (Nat.le_refl _)
theorem be_num (l : List UInt8) : be (num l) l.length = l := by
  induction l with
  | nil => rfl
  | cons x l ih =>
    have hlt := num_lt l
    rw [List.length_cons, be]
    have h1 : be (num (x :: l)) l.length = l := by
      rw [← be_mod, num_cons, Nat.mul_comm, Nat.mul_add_mod, Nat.mod_eq_of_lt hlt, ih]
    rw [h1]
    congr 1
    have : (byteAt (num (x :: l)) l.length).toNat = x.toNat := by
      rw [byteAt_toNat, num_cons, Nat.mul_comm, Nat.mul_add_div (Nat.pow_pos (by omega)), Nat.div_eq_of_lt hlt]
      have := x.toNat_lt; omega
    exact UInt8.toNat_inj.1 this
theorem be_inj {n m k : Nat} (hn : n < 256 ^ k) (hm : m < 256 ^ k) (h : be n k = be m k) : n = m := by
  have := congrArg num h
  rwa [num_be, num_be, Nat.mod_eq_of_lt hn, Nat.mod_eq_of_lt hm] at this
theorem num_inj {l m : List UInt8} (hl : l.length = m.length) (h : num l = num m) : l = m := by
  rw [← be_num l, ← be_num m, h, hl]

theorem pow_256 (k : Nat) : 256 ^ k = 2 ^ (8 * k) := by rw [Nat.pow_mul]
theorem shr_u64 {n s : Int} (hn : 0 ≤ n) (hs : 0 ≤ s) (h64 : s ≤ 64) : shrV .u64 n s = ((n.toNat / 2 ^ s.toNat : Nat) : Int) := by
  have hm : min s.toNat (IntKind.bits .u64) = s.toNat := by simp only [IntKind.bits]; omega
  unfold shrV
  rw [hm]
  generalize s.toNat = k
  have hp : (0 : Int) ≤ 2 ^ k := Int.le_of_lt (Int.pow_pos (by omega))
  rw [Int.fdiv_eq_ediv_of_nonneg _ hp, Int.natCast_ediv, Int.toNat_of_nonneg hn, Int.natCast_pow]
  rfl
theorem byte_of {n : Int} {k : Nat} (hn : 0 ≤ n) (hk : k ≤ 8) : IntKind.wrap .u8 (shrV .u64 n (8 * (k : Int))) = ((byteAt n.toNat k).toNat : Int) := by
  rw [shr_u64 hn (by omega) (by omega), byteAt_toNat, wrap_u8_mod]
  have : ((8 * (k : Int)).toNat) = 8 * k := by omega
  rw [this, ← pow_256]
  generalize n.toNat / 256 ^ k = q
  omega
theorem bv_byte (n k : Nat) : Value.int .u8 ((byteAt n k).toNat : Int) = bv (byteAt n k) := rfl
theorem be_get (n k m : Nat) (h : m < k) : (be n k)[m]? = some (byteAt n (k - 1 - m)) := by
  induction k generalizing m with
  | zero => omega
  | succ k ih =>
    cases m with
    | zero => simp [be]
    | succ m =>
      rw [be, List.getElem?_cons_succ, ih m (by omega)]
      congr 2; omega
theorem be_take (n k m : Nat) (h : m < k) : (be n k).take (m + 1) = (be n k).take m ++ [byteAt n (k - 1 - m)] := by
  rw [List.take_add_one, be_get n k m h]; rfl
theorem wrap_i64_nat (n : Nat) (h : n < 9223372036854775808) : IntKind.wrap .i64 (n : Int) = n := wrap_i64 (by omega) (by omega)
/-- and with a mask -/
theorem and_mask (n : Int) (m : Nat) (hm : m < 9223372036854775808) : ∃ k : Nat, bitsV .and .i64 n m = k ∧ k ≤ m := by
  refine ⟨((BitVec.ofInt 64 n).toNat &&& m), ?_, Nat.and_le_right⟩
  show IntKind.wrap .i64 ((BitVec.ofInt 64 n &&& BitVec.ofInt 64 (m : Int) : BitVec 64).toNat : Int) = _
  rw [BitVec.toNat_and, BitVec.ofInt_natCast, BitVec.toNat_ofNat, Nat.mod_eq_of_lt (by omega)]
  have := Nat.and_le_right (n := (BitVec.ofInt 64 n).toNat) (m := m)
  exact wrap_i64_nat _ (by omega)
end Go.Vc
set_option linter.unusedVariables false
namespace Go.Vc
open Go

section
variable {P : Program}
theorem storeVar_col {ty T : TypeId} {c : Nat → Nat} {i : Nat} {w : World} {b : Nat} {old cells : Array Value} {C : World → Prop} (hb : view c i w b = some (.cells old T (0, 0)))
    (hi : (P.info? ty).map (·.size) = some cells.size) (ho : old.size = cells.size) (h1 : cells.all (·.oneCell') = true)
    (h : ∀ w', Wr c i w c w' (some b) → Step c [i] [] w c w' → view c i w' b = some (.cells cells T (0, 0)) → C w') : RunU P (storeVar ty ⟨b, 0, none⟩ (.agg cells)) w C := by
  obtain ⟨hc, hw⟩ := view_out hb
  have hrun := run_storeVar_row (P := P) w b T ty old cells hw hi ho h1
  have hsz : (w.setRow b cells).heap.size = w.heap.size := by simp
  have hW : Wr c i w c (w.setRow b cells) (some b) := .same ⟨rfl, rfl, rfl, by simp, fun k _ hk => setRow_other w b k _ (fun e => hk (by simp [e]))⟩ hsz (by simp [hc])
  have h0 := hW.step
  exact RunU.mk hrun (h _ hW ⟨h0.os, h0.tape, h0.output, h0.size, h0.col, fun b' h1 h2 => by omega, h0.keep⟩ (view_in hc (setRow_heap w b old cells T _ hw)))

def zeroCB (P : Program) (e : TypeId) : Option (Array Value × Nat × Nat) := (P.info? e).bind fun i => i.zero.map fun v => (v.cells, i.size, i.bytes)
theorem make_col {t e : TypeId} {z by' : Nat} {zc : Array Value} (ht : P.underlying t = some (.slice e)) (hz : zeroCB P e = some (zc, z, by')) (c : Nat → Nat) (i : Nat) {w : World} {kl kc : IntKind} {l n : Nat} {K : Value → World → Prop}
    (hln : l ≤ n) (hb : n * by' ≤ 281474976710656) (h63 : n ≤ 9223372036854775807)
    (h : ∀ b c' w', Wr c i w c' w' none → view c' i w' b = some (.cells (madeCells zc (n * z)) e (0, 0)) → w.heap[b]? = none → K (.slice (some ⟨b, 0, none⟩) l n) w') :
    RunV P (Instr.makeSlice t (.int kl (l : Int)) (.int kc (n : Int))) w K := by
  unfold zeroCB at hz
  cases hi : P.info? e with
  | none => rw [hi] at hz; simp at hz
  | some inf =>
    rw [hi] at hz
    simp only [Option.bind_some, Option.map_eq_some_iff, Prod.mk.injEq] at hz
    obtain ⟨v, hv, rfl, rfl, rfl⟩ := hz
    have hrun := run_make (P := P) w t e inf v ht hi hv kl kc (l : Int) (n : Int) (by omega) (by omega) (by rw [Int.mul_comm, ← Int.natCast_mul]; omega) (by omega)
    rw [Int.toNat_natCast, Int.toNat_natCast] at hrun
    exact RunV.mk hrun (h _ _ _ (.of_grown (i := i) ⟨rfl, rfl, rfl, by simp, fun k hk _ => heap_alloc_old w _ hk⟩ (by simp)) (view_in (ext_new (Nat.le_refl _)) (heap_alloc_new w _)) (Array.getElem?_eq_none (Nat.le_refl _)))
end

/-- the block of a reading that isn't empty -/
theorem RdS.base {h : View} {o : Option Addr} {l c z n : Nat} {xs : List Value} (hr : RdS h (.slice o l c) z n xs) (hne : xs ≠ []) :
    ∃ b off cs T fz, o = some ⟨b, off, none⟩ ∧ h b = some (.cells cs T fz) ∧ ∀ (i : Nat) (u : Value), xs[i]? = some u → cs[off + i]? = some u := by
  obtain ⟨o', c', e, hn, hl, hx⟩ := hr
  cases e
  rcases hx with h | h
  · exact absurd h hne
  · exact h
theorem LoadA.at {h : View} {w : World} (hs : Sub h (wv w)) {b off : Nat} {cs : Array Value} {T : Nat} {fz : Nat × Nat} (hb : h b = some (.cells cs T fz)) {es : List Value} {n : Nat} (hn : es.length = n) (hes : ∀ (k : Nat) (u : Value), es[k]? = some u → cs[off + k]? = some u)
    {C : Array Value → Prop} (hC : C es.toArray) : LoadA w ⟨b, off, none⟩ n C := by
  refine ⟨es.toArray, ⟨by simpa using hn, fun i hi => ?_⟩, hC⟩
  rw [addr_add, cell_of_row w b _ cs T fz (hs _ _ hb)]
  have he : es[i]? = some (es[i]'(by omega)) := List.getElem?_eq_getElem _
  rw [hes i _ he]
  simp [he]
theorem OwS.empty {h : View} {b T z : Nat} (hb : h b = some (.cells #[] T (0, 0))) : OwS h (.slice (some ⟨b, 0, none⟩) 0 0) T z 0 [] := ⟨by simp, .inr ⟨b, 0, _, rfl, hb, Nat.le_refl _, by simp [maxLen], by simp, by simp⟩⟩
theorem OwS.whole {h : View} {b T n : Nat} {z : Nat} {cs : Array Value} {xs : List Value} (hb : h b = some (.cells cs T (0, 0))) (hx : cs.toList = xs) (hl : xs.length = n * z) (hm : n ≤ maxLen) : OwS h (.slice (some ⟨b, 0, none⟩) n n) T z n xs :=
  ⟨hl, .inr ⟨b, n, cs, rfl, hb, Nat.le_refl _, hm, by rw [← hl, ← hx, Array.length_toList], by rw [hx, ← hl, List.take_length]⟩⟩
theorem drop_set_cons (l : List Value) (i : Nat) (v : Value) (h : i < l.length) : (l.set i v).drop i = v :: l.drop (i + 1) := by
  induction l generalizing i with
  | nil => simp at h
  | cons x l ih =>
    cases i with
    | zero => simp
    | succ i => simpa using ih i (by simpa using h)
theorem Step.undrew {c c1 : Nat → Nat} {W N : List Nat} {w w1 : World} (h : Step c W N w.drew c1 w1) : Step c W N w c1 w1 := ⟨h.os, h.tape, h.output, h.size, h.col, h.new, h.keep⟩
theorem RdS.short {h : View} {o : Option Addr} {l c z n m : Nat} {xs : List Value} (hr : RdS h (.slice o l c) z n xs) (hm : m ≤ n) : RdS h (.slice o m c) z m (xs.take (m * z)) := by
  obtain ⟨o', c', e, hn, hl, hx⟩ := hr
  cases e
  have hkz : m * z ≤ l * z := Nat.mul_le_mul_right _ hm
  refine ⟨_, _, rfl, by omega, by rw [List.length_take, hl]; omega, ?_⟩
  rcases hx with rfl | ⟨b, off, cs, T, fz, rfl, hb, hc⟩
  · left; simp
  · right
    refine ⟨b, off, cs, T, fz, rfl, hb, fun i u hu => hc i u ?_⟩
    rw [List.getElem?_take] at hu
    split at hu
    · exact hu
    · simp at hu
theorem RdS.mid {h : View} {o : Option Addr} {l c z n k m : Nat} {xs : List Value} (hr : RdS h (.slice o l c) z n xs) (hm : k + m ≤ n) : RdS h (.slice (slBase o c k z) (k + m - k) (c - k)) z m ((xs.drop (k * z)).take (m * z)) := by
  rw [show k + m - k = m by omega]
  exact (hr.drop (k := k) (by omega)).short (by omega)
end Go.Vc
set_option linter.unusedVariables false
namespace Go.Vc
open Go
section
variable {P : Program}
/-- []byte(s) -/
theorem bytes_col {s t e : TypeId} (hs : P.underlying s = some .string) (ht : P.underlying t = some (.slice e)) (he : P.underlying e = some (.int .u8)) (c : Nat → Nat) (j : Nat) {w : World} {l : List UInt8} {K : Value → World → Prop}
    (h : ∀ v c' w', Step c [] [j] w c' w' → RdS (view c' j w') v 1 l.length (bvs l) → K v w') : RunV P (convert s t (.string (strOf l))) w K := by
  have hrun := run_bytes_of_string (P := P) w s t e (strOf l) hs ht he
  have hge : l.length ≤ grownCap w (strOf l).size 0 e := by have := grownCap_ge w (strOf l).size 0 e; rwa [strOf_size] at this
  refine RunV.mk hrun (h _ (ext c w.heap.size j) _ (Wr.fresh (.of_grown (i := j) (row := none) ⟨rfl, rfl, rfl, by simp, fun k hk _ => heap_alloc_old w.drew _ hk⟩ (by simp))) ?_)
  have hv := view_in (c := ext c w.heap.size j) (i := j) (ext_new (Nat.le_refl _)) (heap_alloc_new w.drew (.cells (bytesRow (strOf l) (grownCap w (strOf l).size 0 e)) e ((bytesRow (strOf l) (grownCap w (strOf l).size 0 e)).size, (bytesRow (strOf l) (grownCap w (strOf l).size 0 e)).size + 1)))
  rw [strOf_size] at *
  refine ⟨_, _, rfl, hge, by simp, .inr ⟨_, 0, _, _, _, rfl, hv, fun i u hu => ?_⟩⟩
  rw [bvs_get] at hu
  rw [Nat.zero_add]
  unfold bytesRow
  have hi : i < l.length := by
    rcases Nat.lt_or_ge i l.length with h' | h'
    · exact h'
    · rw [List.getElem?_eq_none h'] at hu; simp at hu
  rw [Array.getElem?_append_left (by simp [strOf]; exact hi)]
  rw [Array.getElem?_map]
  have : (strOf l).data[i]? = l[i]? := by simp [strOf]
  rw [this, ← hu]; rfl
end

/-- six colours from j on -/
def cl (j : Nat) : List Nat := [j, j + 1, j + 2, j + 3, j + 4, j + 5, j + 6, j + 7]
theorem cl_not {i j : Nat} (h : i < j ∨ j + 8 ≤ i) : i ∉ cl j := by simp only [cl, List.mem_cons, List.not_mem_nil, or_false]; omega
theorem cl_in {i j : Nat} (h1 : j ≤ i) (h2 : i < j + 8) : i ∈ cl j := by simp only [cl, List.mem_cons, List.not_mem_nil, or_false]; omega
theorem cl_sub {j : Nat} {W : List Nat} (h : ∀ x ∈ W, j ≤ x ∧ x < j + 8) : ∀ x ∈ W, x ∈ cl j := fun x hx => cl_in (h x hx).1 (h x hx).2
theorem Step.cl {c c' : Nat → Nat} {w w' : World} {W N : List Nat} (h : Step c W N w c' w') (j : Nat) (hW : ∀ x ∈ W, j ≤ x ∧ x < j + 8) (hN : ∀ x ∈ N, j ≤ x ∧ x < j + 8) : Step c (Vc.cl j) (Vc.cl j) w c' w' := h.weak (cl_sub hW) (cl_sub hN)

def sv (l : List UInt8) : Value := .string (strOf l)
def svs (l : List (List UInt8)) : List Value := l.map sv
@[simp] theorem svs_length (l : List (List UInt8)) : (svs l).length = l.length := by simp [svs]
@[simp] theorem svs_append (l m : List (List UInt8)) : svs (l ++ m) = svs l ++ svs m := by simp [svs]
theorem svs_one (l : List (List UInt8)) : ∀ u ∈ svs l, u.oneCell' = true := by
  intro u hu; obtain ⟨x, _, rfl⟩ := List.mem_map.1 hu; rfl
theorem svs_get (l : List (List UInt8)) (k : Nat) : (svs l)[k]? = l[k]?.map sv := by simp [svs]
theorem strOf_inj {l m : List UInt8} (h : strOf l = strOf m) : l = m := by
  have := congrArg (fun b => b.data.toList) h; simpa using this
theorem strEq_emp (l : List UInt8) : strEq (strOf l) ⟨#[]⟩ = decide (l = []) := by
  rw [show (⟨#[]⟩ : ByteArray) = strOf [] from rfl, strEq_of]
theorem emp_str : ByteArray.empty = strOf [] := rfl

/-! variables by their block -/
theorem LoadC.ad {h : View} {w : World} (hs : Sub h (wv w)) {b k : Nat} {cs : Array Value} {T : Nat} {fz : Nat × Nat} (v : Value) {C : Value → Prop} (hb : h b = some (.cells cs T fz)) (hv : cs[k]? = some v) (hC : C v) : LoadC w ((⟨b, 0, none⟩ : Addr).add k) C := by
  rw [addr_add, Nat.zero_add]; exact LoadC.at hs hb hv hC
theorem LoadA.all {h : View} {w : World} (hs : Sub h (wv w)) {b n : Nat} {cs : Array Value} {T : Nat} {fz : Nat × Nat} {C : Array Value → Prop} (hb : h b = some (.cells cs T fz)) (hn : cs.size = n) (hC : C cs) : LoadA w ⟨b, 0, none⟩ n C := by
  refine ⟨cs, ⟨hn, fun i hi => ?_⟩, hC⟩
  rw [addr_add, cell_of_row w b _ cs T fz (hs _ _ hb), Nat.zero_add]
theorem StableA.all {h : View} {w : World} (hs : Sub h (wv w)) {b n : Nat} {cs : Array Value} {T : Nat} {fz : Nat × Nat} (hb : h b = some (.cells cs T fz)) (hn : cs.size = n) : StableA w ⟨b, 0, none⟩ n (.agg cs) := by
  refine ⟨hn, fun i hi => ?_⟩
  rw [addr_add, cell_of_row w b _ cs T fz (hs _ _ hb), Nat.zero_add]
theorem StableC.ad {h : View} {w : World} (hs : Sub h (wv w)) {b k : Nat} {cs : Array Value} {T : Nat} {fz : Nat × Nat} {v : Value} (hb : h b = some (.cells cs T fz)) (hv : cs[k]? = some v) : StableC w ((⟨b, 0, none⟩ : Addr).add k) v := by
  rw [addr_add, Nat.zero_add]; exact StableC.at hs hb hv
theorem StoreC.ad {c : Nat → Nat} {i : Nat} {w : World} {b k : Nat} {cs : Array Value} {T : Nat} {v : Value} {C : World → Prop} (hb : view c i w b = some (.cells cs T (0, 0))) (hk : k < cs.size)
    (h : ∀ w', Wr c i w c w' (some b) → Step c [i] [] w c w' → view c i w' b = some (.cells (cs.setIfInBounds k v) T (0, 0)) → C w') : StoreC w ((⟨b, 0, none⟩ : Addr).add k) v C := by
  rw [addr_add, Nat.zero_add]; exact StoreC.col hb hk h

/-! entries of the model's own -/
section
variable {P : Program}
theorem ExtV.mk {f : FuncId} {fn : Func} {e : Array Value → Sem Value} (hf : P.funcs[f]? = some fn) (hb : fn.body.isNone = true) (hn : (fn.name == "runtime.NumGoroutine") = false) (h1 : (Extern.findNext fn).isNone = true) (h2 : Extern.find fn = some e)
    {args : Array Value} {w w' : World} {v : Value} {C : Value → World → Prop} (hr : (e args).run P w = .ok v w') (h : C v w') : ExtV P f args w C := by
  refine ⟨v, w', ?_, h⟩
  have h1 : Extern.findNext fn = none := by simpa using h1
  have hn' : fn.name ≠ "runtime.NumGoroutine" := by simpa using hn
  have hb' : fn.body = none := by simpa using hb
  simp [callFunc, run_program, hf, hn', hb', h1, h2, hr]
def i8s (l : List UInt8) : List Int := l.map fun x => (x.toNat : Int)
theorem bytesOf_i8s (l : List UInt8) : Lib.bytesOf (i8s l) = l := by
  simp only [Lib.bytesOf, i8s, List.map_map]
  apply List.map_id'' 
  intro x
  simp
theorem bytesOf_run {w : World} {v : Value} {l : List UInt8} (hr : RdS (wv w) v 1 l.length (bvs l)) : (Extern.Bytes.bytesOf v).run P w = .ok (strOf l) w := by
  obtain ⟨o, c, rfl⟩ := hr.form
  cases o with
  | none =>
    have hl : l = [] := by
      obtain ⟨o', c', e, _, hl, hx⟩ := hr
      cases e
      rcases hx with h | ⟨b, off, cs, T, fz, e', _⟩
      · simpa [bvs] using h
      · simp at e'
    subst hl
    rfl
  | some a =>
    have := Lib.run_loadBytesX (P := P) w (i8s l) a .empty (fun j x hx => by
      unfold i8s at hx
      rw [List.getElem?_map] at hx
      cases hl : l[j]? with
      | none => rw [hl] at hx; simp at hx
      | some y =>
        rw [hl] at hx
        simp at hx
        subst hx
        obtain ⟨a', e, hc⟩ := hr.cell (i := j) (u := bv y) (by rw [bvs_get, hl]; rfl)
        simp at e
        subst e
        exact hc)
    rw [bytesOf_i8s] at this
    have hlen : (i8s l).length = l.length := by simp [i8s]
    rw [hlen] at this
    show (Extern.Bytes.loadBytes a l.length .empty).run P w = _
    rw [this]
    congr 1
    apply ByteArray.ext
    simp only [strOf]
    rw [show ByteArray.empty.data = #[] from rfl]
    simp
def ltB (l m : List UInt8) : Bool := Op.bytesLess l m
theorem strLt_of (l m : List UInt8) : strLt (strOf l) (strOf m) = ltB l m := by
  unfold strLt ltB
  rw [ByteArray.toList_eq, ByteArray.toList_eq]; simp
theorem compare_neg (l m : List UInt8) : Lib.compareBytes l m < 0 ↔ ltB l m = true := by
  unfold ltB
  induction l generalizing m with
  | nil => cases m <;> simp [Lib.compareBytes, Op.bytesLess]
  | cons a l ih =>
    cases m with
    | nil => simp [Lib.compareBytes, Op.bytesLess]
    | cons b m =>
      rw [Lib.compareBytes, Op.bytesLess]
      by_cases h1 : a < b
      · simp [h1]
      · by_cases h2 : b < a
        · have : ¬ a = b := by rintro rfl; exact h1 h2
          simp [h1, h2, this]
        · have : a = b := by
            apply UInt8.toNat_inj.1
            rw [UInt8.lt_iff_toNat_lt] at h1 h2; omega
          subst this
          simp only [h1, if_false, beq_self_eq_true, Bool.true_and, decide_false, Bool.false_or]
          exact ih m
theorem compare_run {w : World} {v u : Value} {l m : List UInt8} (h1 : RdS (wv w) v 1 l.length (bvs l)) (h2 : RdS (wv w) u 1 m.length (bvs m)) :
    (Extern.BytealgCompare.compare #[v, u]).run P w = .ok (.int .i64 (Lib.compareBytes l m)) w := by
  change Sem.run P (do pure (goInt (Extern.BytealgCompare.cmp (← Extern.Bytes.bytesOf v) (← Extern.Bytes.bytesOf u)))) w = _
  rw [Sem.run_bind, bytesOf_run h1]
  simp only [Result.andThen]
  rw [Sem.run_bind, bytesOf_run h2]
  simp only [Result.andThen, Sem.run_pure]
  rw [Lib.cmp_eq]
  simp [goInt]
end
end Go.Vc
set_option linter.unusedVariables false
namespace Go.Vc
open Go

abbrev Fr (w0 : World) (c : Nat → Nat) (w : World) : Prop := Step (fun _ => 0) [1, 2, 3, 4, 5, 6, 7, 8, 9] [0, 1, 2, 3, 4, 5, 6, 7, 8, 9] w0 c w
theorem Fr.start (w : World) : Fr w (fun _ => 0) w := .refl ..
theorem Fr.go {w0 : World} {c c' : Nat → Nat} {w w' : World} {W N : List Nat} (S : Fr w0 c w) (st : Step c W N w c' w') (hW : ∀ x ∈ W, x ∈ [1, 2, 3, 4, 5, 6, 7, 8, 9]) (hN : ∀ x ∈ N, x ∈ [0, 1, 2, 3, 4, 5, 6, 7, 8, 9]) : Fr w0 c' w' :=
  S.trans (st.weak hW hN)
theorem Fr.leave {w0 : World} {c : Nat → Nat} {w : World} (S : Fr w0 c w) (c0 : Nat → Nat) (j : Nat) : Step c0 [] [j] w0 (ext c0 w0.heap.size j) w :=
  ⟨S.os, S.tape, S.output, S.size, fun b hb => ext_old hb, fun b h1 _ => by rw [ext_new h1]; simp, fun b hb _ => S.keep b hb (by simp)⟩
theorem Fr.out {w0 : World} {c : Nat → Nat} {w : World} (S : Fr w0 c w) (c0 : Nat → Nat) (j : Nat) {k : Nat} (hk : k ≠ 0) : Sub (view c k w) (view (ext c0 w0.heap.size j) j w) := fun b o hb => by
  obtain ⟨hc, ho⟩ := view_out hb
  refine view_in ?_ ho
  rcases Nat.lt_or_ge b w0.heap.size with h | h
  · exact absurd ((S.col b h).symm.trans hc) (fun e => hk e.symm)
  · exact ext_new h
theorem Fr.below {w0 : World} {c : Nat → Nat} {w : World} (S : Fr w0 c w) : ∀ b, b < w0.heap.size → w.heap[b]? = w0.heap[b]? := fun b hb => S.keep b hb (by simp)
/-- the world has only drawn -/
theorem DrewC.col (c : Nat → Nat) {w : World} {C : World → Prop} (h : ∀ w', Step c [] [] w c w' → C w') : DrewC w C := h _ (Step.refl c [] [] w).drew
theorem view0 (w : World) : view (fun _ => 0) 0 w = wv w := by funext b; simp [view, wv]
theorem Step.wv {c c' : Nat → Nat} {N : List Nat} {w w' : World} (h : Step c [] N w c' w') : Sub (wv w) (Vc.wv w') := fun b o hb => (h.keep b (lt_of_heap hb) (by simp)).trans hb

/-- whole variables by their blocks -/
theorem RunU.var {P : Program} {ty T : TypeId} {c : Nat → Nat} {i : Nat} {w : World} {b : Nat} {old cells : Array Value} {C : World → Prop} (hb : view c i w b = some (.cells old T (0, 0)))
    (hi : (P.info? ty).map (·.size) = some cells.size) (ho : old.size = cells.size) (h1 : cells.all (·.oneCell') = true)
    (h : ∀ w', Wr c i w c w' (some b) → view c i w' b = some (.cells cells T (0, 0)) → C w') : RunU P (storeVar ty ⟨b, 0, none⟩ (.agg cells)) w C :=
  storeVar_col hb hi ho h1 fun w' hW _ hb => h w' hW hb

theorem OwS.len {h : View} {o : Option Addr} {l c T z n : Nat} {xs : List Value} (ho : OwS h (.slice o l c) T z n xs) : l = n ∧ n ≤ c ∧ xs.length = n * z := ho.rd.len
/-- append of bytes to a slice of one's own -/
theorem app_bytes {P : Program} {t e ty : Nat} (hT : SlT P t e 1 1) {c : Nat → Nat} {i : Nat} {w : World} {s x : Value} {l m : List UInt8} (ho : OwS (view c i w) s e 1 l.length (bvs l)) (hr : RdS (Vc.wv w) x 1 m.length (bvs m))
    (hm : l.length + m.length ≤ 140737488355328) {K : Value → World → Prop}
    (h : ∀ o cp c' w', Wr c i w c' w' s.ownBlock → OwS (view c' i w') (.slice o (l ++ m).length cp) e 1 (l ++ m).length (bvs (l ++ m)) → K (.slice o (l ++ m).length cp) w') :
    RunV P (Builtin.append_ #[t, t] ty #[s, x]) w K := by
  refine append_col hT ho hr (bvs_one _) (by omega) hm fun v' c' w' h1 h2 _ => ?_
  rw [← List.length_append, ← bvs_append] at h2
  obtain ⟨o, cp, rfl⟩ := h2.form
  exact h o cp c' w' h1 h2
theorem OwS.none_bytes (h : View) (T : Nat) : OwS h (.slice none 0 0) T 1 ([] : List UInt8).length (bvs []) := OwS.nil ..
theorem OwS.some_bytes {h : View} {b T : Nat} (hb : h b = some (.cells #[] T (0, 0))) : OwS h (.slice (some ⟨b, 0, none⟩) 0 0) T 1 ([] : List UInt8).length (bvs []) := OwS.empty hb
theorem OwS.some_strs {h : View} {b T : Nat} (hb : h b = some (.cells #[] T (0, 0))) : OwS h (.slice (some ⟨b, 0, none⟩) 0 0) T 1 ([] : List (List UInt8)).length (svs []) := OwS.empty hb
theorem OwS.none_strs (h : View) (T : Nat) : OwS h (.slice none 0 0) T 1 ([] : List (List UInt8)).length (svs []) := OwS.nil ..
theorem RdS.none_strs (h : View) (o : Option Addr) (c : Nat) : RdS h (.slice o 0 c) 1 ([] : List (List UInt8)).length (svs []) := RdS.nil ..
theorem RdS.none_bytes (h : View) (o : Option Addr) (c : Nat) : RdS h (.slice o 0 c) 1 ([] : List UInt8).length (bvs []) := RdS.nil ..
/-- a literal of bytes -/
theorem OwS.lit {h : View} {b T n : Nat} {cs : Array Value} (hb : h b = some (.cells cs T (0, 0))) (l : List UInt8) (hx : cs.toList = bvs l) (hn : l.length = n) (hm : n ≤ maxLen) : OwS h (.slice (some ⟨b, 0, none⟩) n n) T 1 l.length (bvs l) := by
  subst hn; exact OwS.whole hb hx (by simp) hm
theorem RdS.elt {h : View} {w : World} (hs : Sub h (Vc.wv w)) {o : Option Addr} {l c n : Nat} {xs : List Value} (hr : RdS h (.slice o l c) 1 n xs) {i : Nat} {u : Value} (hu : xs[i]? = some u) {K : Value → Prop} (hK : K u) :
    TSome o fun a => LoadC w (a.add ((i : Int).toNat * 1)) K := by
  obtain ⟨a, rfl, hc⟩ := (hr.mono hs).cell hu
  exact TSome.mk (LoadC.mk (by rw [Int.toNat_natCast, Nat.mul_one]; exact hc) hK)
theorem RdS.eltc {h : View} {w : World} (hs : Sub h (Vc.wv w)) {o : Option Addr} {l c n : Nat} {xs : List Value} (hr : RdS h (.slice o l c) 1 n xs) {k : Nat} {u : Value} (hu : xs[k]? = some u) {K : Value → Prop} (hK : K u) :
    TSome o fun a => LoadC w (a.add k) K := by
  obtain ⟨a, rfl, hc⟩ := (hr.mono hs).cell hu
  exact TSome.mk (LoadC.mk hc hK)
theorem RdS.eltk {h : View} {w : World} (hs : Sub h (Vc.wv w)) {o : Option Addr} {l c z n : Nat} {xs : List Value} (hr : RdS h (.slice o l c) z n xs) {i k : Nat} {u : Value} (hu : xs[i * z + k]? = some u) {K : Value → Prop} (hK : K u) :
    TSome o fun a => LoadC w ((a.add ((i : Int).toNat * z)).add k) K := by
  obtain ⟨b, off, cs, T, fz, rfl, hb, hc⟩ := hr.base (by intro e; rw [e] at hu; simp at hu)
  refine TSome.mk ?_
  rw [addr_add, addr_add, Int.toNat_natCast, Nat.add_assoc]
  exact LoadC.at hs hb (hc _ _ hu) hK
theorem RdS.elta {h : View} {w : World} (hs : Sub h (Vc.wv w)) {o : Option Addr} {l c z n : Nat} {xs : List Value} (hr : RdS h (.slice o l c) z n xs) {i : Nat} (es : List Value) (hz : 0 < z) (hn : es.length = z) (hu : ∀ k u, es[k]? = some u → xs[i * z + k]? = some u) {K : Array Value → Prop} (hK : K es.toArray) :
    TSome o fun a => LoadA w (a.add ((i : Int).toNat * z)) z K := by
  obtain ⟨b, off, cs, T, fz, rfl, hb, hc⟩ := hr.base (by intro e; have := hu 0 (es[0]'(by omega)) (List.getElem?_eq_getElem _); rw [e] at this; simp at this)
  refine TSome.mk ?_
  rw [addr_add, Int.toNat_natCast]
  exact LoadA.at hs hb hn (fun k u hk => by rw [Nat.add_assoc]; exact hc _ _ (hu k u hk)) hK
/-- append of texts to a slice of one's own -/
theorem app_strs {P : Program} {t e ty : Nat} (hT : SlT P t e 1 16) {c : Nat → Nat} {i : Nat} {w : World} {s x : Value} {l m : List (List UInt8)} (ho : OwS (view c i w) s e 1 l.length (svs l)) (hr : RdS (Vc.wv w) x 1 m.length (svs m))
    (hm : l.length + m.length ≤ 8796093022208) {K : Value → World → Prop}
    (h : ∀ o cp c' w', Wr c i w c' w' s.ownBlock → OwS (view c' i w') (.slice o (l ++ m).length cp) e 1 (l ++ m).length (svs (l ++ m)) → K (.slice o (l ++ m).length cp) w') :
    RunV P (Builtin.append_ #[t, t] ty #[s, x]) w K := by
  refine append_col hT ho hr (svs_one _) (by omega) (by omega) fun v' c' w' h1 h2 _ => ?_
  rw [← List.length_append, ← svs_append] at h2
  obtain ⟨o, cp, rfl⟩ := h2.form
  exact h o cp c' w' h1 h2
theorem lt_of_get {α : Type} {l : List α} {i : Nat} {x : α} (h : l[i]? = some x) : i < l.length := by
  rcases Nat.lt_or_ge i l.length with h' | h'
  · exact h'
  · rw [List.getElem?_eq_none h'] at h; simp at h
theorem get_of_lt {α : Type} {l : List α} {i : Nat} (h : i < l.length) : ∃ x, l[i]? = some x := ⟨l[i], List.getElem?_eq_getElem _⟩
theorem StableC.mk {w : World} {a : Addr} {v : Value} (h : w.cell? a = some v) : StableC w a v := h
theorem Wr.step0 {c0 c c' : Nat → Nat} {i : Nat} {w0 w w' : World} {N : List Nat} (h0 : Step c0 [] N w0 c w) (hN : i ∈ N) {x n cp : Nat} (h : Wr c i w c' w' (Value.slice (some ⟨x, 0, none⟩) n cp).ownBlock) (hx : w0.heap.size ≤ x) : Step c0 [] N w0 c' w' :=
  Wr.stepNew h0 hN h (fun b e => by simp [Value.ownBlock] at e; exact e ▸ hx)
/-- blocks of several colours -/
def views (c : Nat → Nat) (L : List Nat) (w : World) : View := fun b => if c b ∈ L then w.heap[b]? else none
theorem views_out {c : Nat → Nat} {L : List Nat} {w : World} {b : Nat} {o : Obj} (h : views c L w b = some o) : c b ∈ L ∧ w.heap[b]? = some o := by
  unfold views at h; split at h
  · exact ⟨‹_›, h⟩
  · simp at h
theorem views_in {c : Nat → Nat} {L : List Nat} {w : World} {b : Nat} {o : Obj} (hc : c b ∈ L) (h : w.heap[b]? = some o) : views c L w b = some o := by
  unfold views; rw [if_pos hc]; exact h
theorem views_sub (c : Nat → Nat) (L : List Nat) (w : World) : Sub (views c L w) (Vc.wv w) := fun b o h => (views_out h).2
theorem view_views {c : Nat → Nat} {i : Nat} {L : List Nat} {w : World} (hi : i ∈ L) : Sub (view c i w) (views c L w) := fun b o h => by
  obtain ⟨hc, ho⟩ := view_out h
  exact views_in (by rw [hc]; exact hi) ho
theorem Step.subs {c c1 : Nat → Nat} {W N : List Nat} {w w1 : World} (h : Step c W N w c1 w1) {L : List Nat} (hL : ∀ i ∈ L, i ∉ W) : Sub (views c L w) (views c1 L w1) := fun b o hb => by
  obtain ⟨hc, ho⟩ := views_out hb
  have hlt := lt_of_heap ho
  exact views_in (by rw [h.col b hlt]; exact hc) (by rw [h.keep b hlt (hL _ hc)]; exact ho)
theorem Fr.outs {w0 : World} {c : Nat → Nat} {w : World} (S : Fr w0 c w) (c0 : Nat → Nat) (j : Nat) {L : List Nat} (hL : 0 ∉ L) : Sub (views c L w) (view (ext c0 w0.heap.size j) j w) := fun b o hb => by
  obtain ⟨hc, ho⟩ := views_out hb
  refine view_in ?_ ho
  rcases Nat.lt_or_ge b w0.heap.size with h | h
  · have := S.col b h
    rw [this] at hc; exact absurd hc hL
  · exact ext_new h
theorem BS.of_no {A B : Prop} (h : BS false A B) : B := h
theorem BS.of_yes {A B : Prop} (h : BS true A B) : A := h
theorem BS.ndec {p : Prop} [Decidable p] {A B : Prop} (ha : ¬ p → A) (hb : p → B) : BS (!decide p) A B := by
  by_cases h : p
  · simp [BS, h, hb h]
  · simp [BS, h, ha h]
theorem BS.nb {b : Bool} {A B : Prop} (ha : b = false → A) (hb : b = true → B) : BS (!b) A B := by
  cases b
  · exact ha rfl
  · exact hb rfl
end Go.Vc
set_option linter.unusedVariables false
set_option linter.unusedSimpArgs false
namespace Go.Vc
open Go

section
variable {α : Type} {P : View → α → List Value → Prop}
def LsV (P : View → α → List Value → Prop) (z : Nat) (h : View) (v : Value) (l : List α) : Prop := ∃ xs, RdS h v z l.length xs ∧ ∀ (i : Nat) (a : α), l[i]? = some a → P h a ((xs.drop (i * z)).take z)
theorem LsV.mono' {z : Nat} {h h' : View} {v : Value} {l : List α} (hP : ∀ a es, P h a es → P h' a es) (hl : LsV P z h v l) (hs : Sub h h') : LsV P z h' v l := by
  obtain ⟨xs, hr, hx⟩ := hl
  exact ⟨xs, hr.mono hs, fun i a hi => hP _ _ (hx i a hi)⟩
theorem LsV.form {z : Nat} {h : View} {v : Value} {l : List α} (hl : LsV P z h v l) : ∃ o c, v = .slice o l.length c := by
  obtain ⟨xs, hr, hx⟩ := hl; exact hr.form
theorem slot_get {xs : List Value} {i z k : Nat} {u : Value} (h : ((xs.drop (i * z)).take z)[k]? = some u) : xs[i * z + k]? = some u := by
  rw [List.getElem?_take] at h
  split at h
  · rwa [List.getElem?_drop] at h
  · simp at h
theorem slot_length {xs : List Value} {i z n : Nat} (hl : xs.length = n * z) (hi : i < n) : ((xs.drop (i * z)).take z).length = z := by
  have : (i + 1) * z ≤ n * z := Nat.mul_le_mul_right _ hi
  rw [Nat.succ_mul] at this
  rw [List.length_take, List.length_drop, hl]; omega
structure Elt (h : View) (o : Option Addr) (z i : Nat) (es : List Value) : Prop where
  len : es.length = z
  ld : ∀ {w : World} (hs : Sub h (Vc.wv w)) {k : Nat} {u : Value} (hu : es[k]? = some u) {K : Value → Prop}, K u → TSome o fun a => LoadC w ((a.add ((i : Int).toNat * z)).add k) K
  ld0 : ∀ {w : World} (hs : Sub h (Vc.wv w)) {u : Value} (hu : es[0]? = some u) {K : Value → Prop}, K u → TSome o fun a => LoadC w (a.add ((i : Int).toNat * z)) K
  all : ∀ {w : World} (hs : Sub h (Vc.wv w)) {K : Array Value → Prop}, K es.toArray → TSome o fun a => LoadA w (a.add ((i : Int).toNat * z)) z K
  adr : 0 < z → ∃ a, o = some a ∧ ∀ {w : World} (hs : Sub h (Vc.wv w)) {k : Nat} {u : Value}, es[k]? = some u → w.cell? ((a.add ((i : Int).toNat * z)).add k) = some u
  blk : 0 < z → ∃ b off cs T fz, o = some ⟨b, off, none⟩ ∧ h b = some (.cells cs T fz) ∧ ∀ (k : Nat) (u : Value), es[k]? = some u → cs[off + i * z + k]? = some u
theorem Elt.mono {h h' : View} {o : Option Addr} {z i : Nat} {es : List Value} (E : Elt h o z i es) (hs : Sub h h') : Elt h' o z i es :=
  ⟨E.len, fun h2 => E.ld (hs.trans h2), fun h2 => E.ld0 (hs.trans h2), fun h2 => E.all (hs.trans h2), fun hp => by
    obtain ⟨a, e, hc⟩ := E.adr hp; exact ⟨a, e, fun h2 => hc (hs.trans h2)⟩, fun hp => by
    obtain ⟨b, off, cs, T, fz, e, hb, hc⟩ := E.blk hp; exact ⟨b, off, cs, T, fz, e, hs _ _ hb, hc⟩⟩
theorem LsV.at {z : Nat} (hz : 0 < z) {h : View} {o : Option Addr} {n c : Nat} {l : List α} (hl : LsV P z h (.slice o n c) l) {i : Nat} {a : α} (hi : l[i]? = some a) :
    ∃ es, P h a es ∧ Elt h o z i es := by
  obtain ⟨xs, hr, hx⟩ := hl
  have hlt := lt_of_get hi
  have hlen := hr.len
  refine ⟨_, hx i a hi, slot_length (n := l.length) hlen.2.2 hlt, fun hs k u hu K hK => hr.eltk hs (slot_get hu) hK, fun hs u hu K hK => ?_, fun hs K hK => hr.elta hs _ hz (slot_length (n := l.length) hlen.2.2 hlt) (fun k u hu => slot_get hu) hK, fun hp => ?_, fun hp => ?_⟩
  · have hu := slot_get hu
    obtain ⟨b, off, cs, T, fz, rfl, hb, hc⟩ := hr.base (by intro e; rw [e] at hu; simp at hu)
    refine TSome.mk ?_
    rw [addr_add, Int.toNat_natCast]
    exact LoadC.at hs hb (hc _ _ hu) hK
  · have h0 := slot_length (xs := xs) (n := l.length) (z := z) hlen.2.2 hlt
    obtain ⟨b, off, cs, T, fz, rfl, hb, hc⟩ := hr.base (by intro e; rw [e] at h0; simp at h0; omega)
    refine ⟨_, rfl, fun hs k u hu => ?_⟩
    rw [addr_add, addr_add, Int.toNat_natCast, cell_of_row _ _ _ cs T fz (hs _ _ hb), Nat.add_assoc]
    exact hc _ _ (slot_get hu)
  · have h0 := slot_length (xs := xs) (n := l.length) (z := z) hlen.2.2 hlt
    obtain ⟨b, off, cs, T, fz, rfl, hb, hc⟩ := hr.base (by intro e; rw [e] at h0; simp at h0; omega)
    exact ⟨b, off, cs, T, fz, rfl, hb, fun k u hu => by rw [Nat.add_assoc]; exact hc _ _ (slot_get hu)⟩
theorem LsV.len {z : Nat} {h : View} {o : Option Addr} {n c : Nat} {l : List α} (hl : LsV P z h (.slice o n c) l) : n = l.length ∧ l.length ≤ c := by
  obtain ⟨xs, hr, hx⟩ := hl; exact ⟨hr.len.1, hr.len.2.1⟩
theorem LsV.nil (z : Nat) (h : View) (o : Option Addr) (c : Nat) : LsV P z h (.slice o 0 c) ([] : List α) := ⟨[], RdS.nil .., fun i a h => by simp at h⟩
theorem slot_drop {xs : List Value} {i k z : Nat} : ((xs.drop (k * z)).drop (i * z)).take z = (xs.drop ((k + i) * z)).take z := by
  rw [List.drop_drop, ← Nat.add_mul]
theorem slot_take {xs : List Value} {i k z : Nat} (h : i < k) : ((xs.take (k * z)).drop (i * z)).take z = (xs.drop (i * z)).take z := by
  have : (i + 1) * z ≤ k * z := Nat.mul_le_mul_right _ h
  rw [Nat.succ_mul] at this
  rw [List.drop_take, List.take_take, Nat.min_eq_left (by omega)]
theorem LsV.drop {z : Nat} {h : View} {o : Option Addr} {n c : Nat} {l : List α} (hl : LsV P z h (.slice o n c) l) {k : Nat} (hk : k ≤ l.length) : LsV P z h (.slice (slBase o c k z) (n - k) (c - k)) (l.drop k) := by
  obtain ⟨xs, hr, hx⟩ := hl
  refine ⟨xs.drop (k * z), by rw [List.length_drop]; exact hr.drop hk, fun i a hi => ?_⟩
  rw [List.getElem?_drop] at hi
  rw [slot_drop]; exact hx _ a hi
theorem LsV.take {z : Nat} {h : View} {o : Option Addr} {n c : Nat} {l : List α} (hl : LsV P z h (.slice o n c) l) {k : Nat} (hk : k ≤ l.length) : LsV P z h (.slice (slBase o c 0 z) k c) (l.take k) := by
  obtain ⟨xs, hr, hx⟩ := hl
  refine ⟨xs.take (k * z), by rw [List.length_take, Nat.min_eq_left hk]; exact hr.take hk, fun i a hi => ?_⟩
  have := lt_of_get hi
  rw [List.length_take] at this
  rw [List.getElem?_take, if_pos (by omega)] at hi
  rw [slot_take (by omega)]; exact hx _ a hi
theorem LsV.short {z : Nat} {h : View} {o : Option Addr} {n c : Nat} {l : List α} (hl : LsV P z h (.slice o n c) l) {k : Nat} (hk : k ≤ l.length) : LsV P z h (.slice o k c) (l.take k) := by
  obtain ⟨xs, hr, hx⟩ := hl
  refine ⟨xs.take (k * z), by rw [List.length_take, Nat.min_eq_left hk]; exact hr.short hk, fun i a hi => ?_⟩
  have := lt_of_get hi
  rw [List.length_take] at this
  rw [List.getElem?_take, if_pos (by omega)] at hi
  rw [slot_take (by omega)]; exact hx _ a hi

/-- a row of one's own (its cells in h, the things in h') -/
def LsO (P : View → α → List Value → Prop) (T z : Nat) (h h' : View) (v : Value) (l : List α) : Prop := ∃ xs, OwS h v T z l.length xs ∧ ∀ (i : Nat) (a : α), l[i]? = some a → P h' a ((xs.drop (i * z)).take z)
theorem LsO.mono' {T z : Nat} {h g h' g' : View} {v : Value} {l : List α} (hP : ∀ a es, P g a es → P g' a es) (hl : LsO P T z h g v l) (hs : Sub h h') : LsO P T z h' g' v l := by
  obtain ⟨xs, hr, hx⟩ := hl
  exact ⟨xs, hr.mono hs, fun i a hi => hP _ _ (hx i a hi)⟩
theorem LsO.form {T z : Nat} {h g : View} {v : Value} {l : List α} (hl : LsO P T z h g v l) : ∃ o c, v = .slice o l.length c := by
  obtain ⟨xs, hr, hx⟩ := hl; exact hr.form
theorem LsO.len {T z : Nat} {h g : View} {o : Option Addr} {n c : Nat} {l : List α} (hl : LsO P T z h g (.slice o n c) l) : n = l.length := by
  obtain ⟨xs, hr, hx⟩ := hl; exact hr.rd.len.1
theorem LsO.rd {T z : Nat} {h g k : View} {v : Value} {l : List α} (hl : LsO P T z h g v l) (hP : ∀ a es, P g a es → P k a es) (hs : Sub h k) : LsV P z k v l := by
  obtain ⟨xs, hr, hx⟩ := hl
  exact ⟨xs, hr.rd.mono hs, fun i a hi => hP _ _ (hx i a hi)⟩
theorem LsO.nil (T z : Nat) (h g : View) : LsO P T z h g (.slice none 0 0) ([] : List α) := ⟨[], OwS.nil .., fun i a h => by simp at h⟩
theorem LsO.empty {T z : Nat} {h g : View} {b : Nat} (hb : h b = some (.cells #[] T (0, 0))) : LsO P T z h g (.slice (some ⟨b, 0, none⟩) 0 0) ([] : List α) := ⟨[], OwS.empty hb, fun i a h => by simp at h⟩
/-- the row can be read in h, the things in g -/
def LsW (P : View → α → List Value → Prop) (z : Nat) (h g : View) (v : Value) (l : List α) : Prop := ∃ xs, RdS h v z l.length xs ∧ ∀ (i : Nat) (a : α), l[i]? = some a → P g a ((xs.drop (i * z)).take z)
theorem LsW.one {z : Nat} {h g : View} {b : Nat} {es : List Value} {T : Nat} {fz : Nat × Nat} {a : α} (hb : h b = some (.cells es.toArray T fz)) (hl : es.length = z) (hP : P g a es) : LsW P z h g (.slice (some ⟨b, 0, none⟩) 1 1) [a] := by
  refine ⟨es, RdS.block hb (by simpa using hl) (Nat.le_refl _), fun i x hi => ?_⟩
  have := lt_of_get hi
  have : i = 0 := by simpa using this
  subst this
  simp at hi
  subst hi
  rw [Nat.zero_mul, List.drop_zero, List.take_of_length_le (by omega)]; exact hP
theorem LsV.toW {z : Nat} {h g k : View} {v : Value} {l : List α} (hl : LsV P z h v l) (hs : Sub h k) (hP : ∀ a es, P h a es → P g a es) : LsW P z k g v l := by
  obtain ⟨xs, hr, hx⟩ := hl; exact ⟨xs, hr.mono hs, fun i a hi => hP _ _ (hx i a hi)⟩
theorem LsO.toW {T z : Nat} {h g k f : View} {v : Value} {l : List α} (hl : LsO P T z h g v l) (hs : Sub h k) (hP : ∀ a es, P g a es → P f a es) : LsW P z k f v l := by
  obtain ⟨xs, hr, hx⟩ := hl; exact ⟨xs, hr.rd.mono hs, fun i a hi => hP _ _ (hx i a hi)⟩
/-- append of things -/
theorem LsO.app {Pr : Program} {t e z by' ty : Nat} (hT : SlT Pr t e z by') {c : Nat → Nat} {i : Nat} {g : View} {w : World} {s x : Value} {l m : List α} (hl : LsO P e z (view c i w) g s l) (hr : LsW P z (wv w) g x m)
    (h1 : ∀ a es, P g a es → ∀ u ∈ es, u.oneCell' = true) (hb : (l.length + m.length) * by' ≤ 140737488355328) (hm : l.length + m.length ≤ 140737488355328) {K : Value → World → Prop}
    (h : ∀ o cp c' w', Wr c i w c' w' s.ownBlock → LsO P e z (view c' i w') g (.slice o (l ++ m).length cp) (l ++ m) → K (.slice o (l ++ m).length cp) w') :
    RunV Pr (Builtin.append_ #[t, t] ty #[s, x]) w K := by
  obtain ⟨xs, ho, hx⟩ := hl
  obtain ⟨ys, hy, hyx⟩ := hr
  have hxl := ho.1
  have hyl : ys.length = m.length * z := by obtain ⟨_, _, rfl⟩ := hy.form; exact hy.len.2.2
  refine append_col hT ho hy (fun u hu => ?_) hb hm fun v' c' w' hW ho' _ => ?_
  · obtain ⟨k, hk⟩ := List.getElem?_of_mem hu
    have hkl := lt_of_get hk
    rw [hyl] at hkl
    have hq : k / z < m.length := Nat.div_lt_of_lt_mul (by rwa [Nat.mul_comm])
    obtain ⟨a, ha⟩ := get_of_lt hq
    refine h1 a _ (hyx _ a ha) u ?_
    refine List.mem_of_getElem? (i := k % z) ?_
    have hzp := Nat.mod_lt k hT.pos
    rw [List.getElem?_take, if_pos hzp, List.getElem?_drop]
    have : k / z * z + k % z = k := by rw [Nat.mul_comm]; exact Nat.div_add_mod k z
    rw [this]; exact hk
  · rw [← List.length_append] at ho'
    obtain ⟨o, cp, rfl⟩ := ho'.form
    refine h o cp c' w' hW ⟨xs ++ ys, ho', fun i a hi => ?_⟩
    rcases Nat.lt_or_ge i l.length with hlt | hge
    · rw [List.getElem?_append_left hlt] at hi
      have : ((xs ++ ys).drop (i * z)).take z = (xs.drop (i * z)).take z := by
        have h2 : (i + 1) * z ≤ l.length * z := Nat.mul_le_mul_right _ hlt
        rw [Nat.succ_mul] at h2
        rw [List.drop_append_of_le_length (by omega), List.take_append_of_le_length (by rw [List.length_drop]; omega)]
      rw [this]; exact hx i a hi
    · rw [List.getElem?_append_right hge] at hi
      have : ((xs ++ ys).drop (i * z)).take z = (ys.drop ((i - l.length) * z)).take z := by
        have h2 : l.length * z ≤ i * z := Nat.mul_le_mul_right _ hge
        rw [List.drop_append, List.drop_eq_nil_of_le (by omega), List.nil_append, hxl, Nat.sub_mul]
      rw [this]; exact hyx _ a hi
/-- one thing in a block of its own -/
theorem LsV.one {z : Nat} {h g : View} {b : Nat} {es : List Value} {T : Nat} {fz : Nat × Nat} {a : α} (hb : h b = some (.cells es.toArray T fz)) (hl : es.length = z) (hP : P h a es) : LsV P z h (.slice (some ⟨b, 0, none⟩) 1 1) [a] := by
  refine ⟨es, RdS.block hb (by simpa using hl) (Nat.le_refl _), fun i x hi => ?_⟩
  have := lt_of_get hi
  have : i = 0 := by simpa using this
  subst this
  simp at hi
  subst hi
  rw [Nat.zero_mul, List.drop_zero, List.take_of_length_le (by omega)]; exact hP
end

/-! lists of bytes, numbers, pairs -/
def BytesP (h : View) (k : List UInt8) (es : List Value) : Prop := ∃ v, es = [v] ∧ RdS h v 1 k.length (bvs k)
theorem BytesP.mono {h h' : View} {k : List UInt8} {es : List Value} (hp : BytesP h k es) (hs : Sub h h') : BytesP h' k es := by
  obtain ⟨v, e, hr⟩ := hp; exact ⟨v, e, hr.mono hs⟩
theorem BytesP.ones {h : View} {k : List UInt8} {es : List Value} (hp : BytesP h k es) : ∀ u ∈ es, u.oneCell' = true := by
  obtain ⟨v, rfl, hr⟩ := hp
  obtain ⟨o, c, rfl⟩ := hr.form
  intro u hu; simp at hu; subst hu; rfl
def BlsV (h : View) (v : Value) (l : List (List UInt8)) : Prop := LsV BytesP 1 h v l
theorem BlsV.mono {h h' : View} {v : Value} {l : List (List UInt8)} (hl : BlsV h v l) (hs : Sub h h') : BlsV h' v l := LsV.mono' (fun _ _ hp => hp.mono hs) hl hs
abbrev PairR := List UInt8 × List UInt8
def PairP (h : View) (p : PairR) (es : List Value) : Prop := ∃ v u, es = [v, u] ∧ RdS h v 1 p.1.length (bvs p.1) ∧ RdS h u 1 p.2.length (bvs p.2)
theorem PairP.mono {h h' : View} {k : PairR} {es : List Value} (hp : PairP h k es) (hs : Sub h h') : PairP h' k es := by
  obtain ⟨v, u, e, hr, hq⟩ := hp; exact ⟨v, u, e, hr.mono hs, hq.mono hs⟩
theorem PairP.ones {h : View} {k : PairR} {es : List Value} (hp : PairP h k es) : ∀ u ∈ es, u.oneCell' = true := by
  obtain ⟨v, u, rfl, hr, hq⟩ := hp
  obtain ⟨o, c, rfl⟩ := hr.form
  obtain ⟨o, c, rfl⟩ := hq.form
  intro u hu; simp at hu; rcases hu with rfl | rfl <;> rfl
def PairsV (h : View) (v : Value) (l : List PairR) : Prop := LsV PairP 2 h v l
theorem PairsV.mono {h h' : View} {v : Value} {l : List PairR} (hl : PairsV h v l) (hs : Sub h h') : PairsV h' v l := LsV.mono' (fun _ _ hp => hp.mono hs) hl hs

def iv (n : Nat) : Value := .int .i64 (n : Int)
def ivs (l : List Nat) : List Value := l.map iv
@[simp] theorem ivs_length (l : List Nat) : (ivs l).length = l.length := by simp [ivs]
@[simp] theorem ivs_append (l m : List Nat) : ivs (l ++ m) = ivs l ++ ivs m := by simp [ivs]
theorem ivs_one (l : List Nat) : ∀ u ∈ ivs l, u.oneCell' = true := by
  intro u hu; obtain ⟨x, _, rfl⟩ := List.mem_map.1 hu; rfl
theorem ivs_get (l : List Nat) (k : Nat) : (ivs l)[k]? = l[k]?.map iv := by simp [ivs]
theorem ivs_drop (l : List Nat) (k : Nat) : ivs (l.drop k) = (ivs l).drop k := by simp [ivs, List.map_drop]
theorem ivs_take (l : List Nat) (k : Nat) : ivs (l.take k) = (ivs l).take k := by simp [ivs, List.map_take]
theorem app_ints {P : Program} {t e ty : Nat} (hT : SlT P t e 1 8) {c : Nat → Nat} {i : Nat} {w : World} {s x : Value} {l m : List Nat} (ho : OwS (view c i w) s e 1 l.length (ivs l)) (hr : RdS (Vc.wv w) x 1 m.length (ivs m))
    (hm : l.length + m.length ≤ 8796093022208) {K : Value → World → Prop}
    (h : ∀ o cp c' w', Wr c i w c' w' s.ownBlock → OwS (view c' i w') (.slice o (l ++ m).length cp) e 1 (l ++ m).length (ivs (l ++ m)) → K (.slice o (l ++ m).length cp) w') :
    RunV P (Builtin.append_ #[t, t] ty #[s, x]) w K := by
  refine append_col hT ho hr (ivs_one _) (by omega) (by omega) fun v' c' w' h1 h2 _ => ?_
  rw [← List.length_append, ← ivs_append] at h2
  obtain ⟨o, cp, rfl⟩ := h2.form
  exact h o cp c' w' h1 h2
end Go.Vc

/-
  Messages over the seat of boxes: how they lie; equal; more than is looked at.
-/
import Derived.Test.YtfploingelmpkaaLists
import Derived.Test.YtfploingelmpkaaArr
import Derived.Test.YtfploingelmpkaaNums
import Derived.Test.YtfploingelmpkaaGenBx
set_option linter.unusedVariables false
set_option linter.unusedSimpArgs false
namespace Go.Vc
open Go
structure OpR where
  kind : Int
  path : List UInt8
  to : List UInt8
  off : Int
  n : Int
  data : List UInt8
  deriving DecidableEq
def OpR.cells (o : OpR) (v : Value) : List Value := [.int .i64 o.kind, sv o.path, sv o.to, .int .i64 o.off, .int .i64 o.n, v]
def OpR.zero : OpR := ⟨0, [], [], 0, 0, []⟩
structure AnsR where
  code : Int
  n : Int
  data : List UInt8
  names : List (List UInt8)
  deriving DecidableEq
def AnsR.cells (a : AnsR) (v u : Value) : List Value := [.int .i64 a.code, .int .i64 a.n, v, u]
def AnsR.zero : AnsR := ⟨0, 0, [], []⟩
structure MsgR where
  kind : Int
  fr : Int
  to : Int
  view : Nat
  normal : Nat
  gen : Nat
  commit : Nat
  head : List UInt8
  client : Int
  number : Nat
  op : OpR
  ans : AnsR
  hashes : List (List UInt8)
  blocks : List (List UInt8)
def u64v (n : Nat) : Value := .int .u64 (n : Int)
/-- its 53 cells -/
def MsgR.cells (m : MsgR) (v va ua vh vb : Value) : List Value :=
  [.int .i64 m.kind, .int .i64 m.fr, .int .i64 m.to, u64v m.view, u64v m.normal, u64v m.gen, u64v m.commit] ++ bvs m.head ++ [.int .i64 m.client, u64v m.number] ++ m.op.cells v ++ m.ans.cells va ua ++ [vh, vb]
def MsgR.zero : MsgR := ⟨0, 0, 0, 0, 0, 0, 0, List.replicate 32 0, 0, 0, OpR.zero, AnsR.zero, [], []⟩
/-- what every value of the type is -/
def MsgR.ok (m : MsgR) : Prop := m.view < 18446744073709551616 ∧ m.normal < 18446744073709551616 ∧ m.gen < 18446744073709551616 ∧ m.commit < 18446744073709551616 ∧ m.number < 18446744073709551616 ∧ m.head.length = 32 ∧ ∀ h ∈ m.hashes, h.length = 32
/-- how it lies -/
def HashP (h : View) (l : List UInt8) (es : List Value) : Prop := es = bvs l ∧ l.length = 32
theorem part_get {cs es : List Value} {k n : Nat} (h : (cs.drop k).take n = es) (j : Nat) (u : Value) (hu : es[j]? = some u) : cs.toArray[k + j]? = some u := by
  rw [← h, List.getElem?_take] at hu
  split at hu
  · rw [List.getElem?_drop] at hu
    rw [List.getElem?_toArray]; exact hu
  · simp at hu
theorem set_at {α : Type} {A B : List α} {x y : α} {n : Nat} (h : A.length = n) : (A ++ x :: B).set n y = A ++ y :: B := by
  rw [List.set_append_right _ _ (by omega), h, Nat.sub_self, List.set_cons_zero]
theorem part_at {α : Type} {A B B' C : List α} {n m : Nat} (h : A.length = n) (hm : B.length = m) : (A ++ B ++ C).take n ++ B' ++ (A ++ B ++ C).drop (n + m) = A ++ B' ++ C := by
  have e1 : (A ++ B ++ C).take n = A := by rw [List.append_assoc, ← h, List.take_left]
  have e2 : (A ++ B ++ C).drop (n + m) = C := by rw [← h, ← hm, ← List.length_append, List.drop_left]
  rw [e1, e2]
theorem add_add (b k j : Nat) : ((⟨b, 0, none⟩ : Addr).add k).add j = (⟨b, 0, none⟩ : Addr).add (k + j) := by
  rw [addr_add, addr_add, addr_add]; congr 1; omega
/-- a block that is new is written again -/
theorem Step.wr_new {c c' : Nat → Nat} {W N : List Nat} {w w1 w2 : World} {j b : Nat} (st : Step c W N w c' w1) (hW : Wr c' j w1 c' w2 (some b)) (hb : w.heap.size ≤ b) (hj : j ∈ N := by simp) : Step c W N w c' w2 := by
  have st2 := hW.step
  refine ⟨st2.os.trans st.os, st2.tape.trans st.tape, st2.output.trans st.output, Nat.le_trans st.size st2.size, st.col, fun b h1 h2 => ?_, fun k hk hc => ?_⟩
  · rcases Nat.lt_or_ge b w1.heap.size with hh | hh
    · exact st.new b h1 hh
    · have := st2.new b hh h2; rw [List.mem_singleton] at this; rw [this]; exact hj
  · by_cases hcj : c k = j
    · have e : w.heap[k]? = some w.heap[k] := Array.getElem?_eq_getElem hk
      have h1 := (st.keep k hk hc).trans e
      have hv := hW.old k _ (view_in (by rw [st.col k hk]; exact hcj) h1) (fun e => by simp at e; omega)
      rw [(view_out hv).2, e]
    · rw [st2.keep k (Nat.lt_of_lt_of_le hk st.size) (by rw [st.col k hk]; simpa using hcj)]; exact st.keep k hk hc
def mcl (k f t : Int) (ns : List Nat) (hd : List UInt8) (cl : Int) (nm : Nat) (oc ac : List Value) (vh vb : Value) : List Value :=
  [.int .i64 k, .int .i64 f, .int .i64 t] ++ (ns.map u64v ++ (bvs hd ++ (.int .i64 cl :: u64v nm :: (oc ++ (ac ++ [vh, vb])))))
variable {k f t : Int} {ns : List Nat} {hd : List UInt8} {cl : Int} {nm : Nat} {oc ac : List Value} {vh vb : Value}
theorem mcl_msg (m : MsgR) (v va ua vh vb : Value) : m.cells v va ua vh vb = mcl m.kind m.fr m.to [m.view, m.normal, m.gen, m.commit] m.head m.client m.number (m.op.cells v) (m.ans.cells va ua) vh vb := by
  unfold mcl MsgR.cells; simp
theorem mcl_len (h4 : ns.length = 4) (h32 : hd.length = 32) (h6 : oc.length = 6) (ha : ac.length = 4) : (mcl k f t ns hd cl nm oc ac vh vb).length = 53 := by
  unfold mcl; simp [h4, h32, h6, ha]
theorem mcl_one (h6 : ∀ u ∈ oc, u.oneCell' = true) (ha : ∀ u ∈ ac, u.oneCell' = true) (hh : vh.oneCell' = true) (hb : vb.oneCell' = true) : ∀ u ∈ mcl k f t ns hd cl nm oc ac vh vb, u.oneCell' = true := by
  intro u hu
  unfold mcl at hu
  simp only [List.mem_append, List.mem_cons, List.not_mem_nil, or_false] at hu
  rcases hu with (rfl | rfl | rfl) | hu | hu | rfl | rfl | hu | hu | rfl | rfl
  · rfl
  · rfl
  · rfl
  · obtain ⟨n, _, rfl⟩ := List.mem_map.1 hu; rfl
  · exact bvs_one _ u hu
  · rfl
  · rfl
  · exact h6 u hu
  · exact ha u hu
  · exact hh
  · exact hb
theorem mcl_num {A : List Nat} {x y : Nat} {B : List Nat} {i : Nat} (hA : A.length = i) : (mcl k f t (A ++ x :: B) hd cl nm oc ac vh vb).set (3 + i) (u64v y) = mcl k f t (A ++ y :: B) hd cl nm oc ac vh vb := by
  unfold mcl
  have e : ∀ z : Nat, ([.int .i64 k, .int .i64 f, .int .i64 t] : List Value) ++ ((A ++ z :: B).map u64v ++ (bvs hd ++ (.int .i64 cl :: u64v nm :: (oc ++ (ac ++ [vh, vb]))))) =
      (([.int .i64 k, .int .i64 f, .int .i64 t] : List Value) ++ A.map u64v) ++ u64v z :: (B.map u64v ++ (bvs hd ++ (.int .i64 cl :: u64v nm :: (oc ++ (ac ++ [vh, vb]))))) := fun z => by simp
  rw [e, e]
  exact set_at (by simp [hA]; omega)
theorem mcl_op {oc' : List Value} (h4 : ns.length = 4) (h32 : hd.length = 32) (h6 : oc.length = 6) (h6' : oc'.length = 6) : (mcl k f t ns hd cl nm oc ac vh vb).take 41 ++ oc' ++ (mcl k f t ns hd cl nm oc ac vh vb).drop (41 + oc'.length) = mcl k f t ns hd cl nm oc' ac vh vb := by
  unfold mcl
  have e : ∀ z : List Value, ([.int .i64 k, .int .i64 f, .int .i64 t] : List Value) ++ (ns.map u64v ++ (bvs hd ++ (.int .i64 cl :: u64v nm :: (z ++ (ac ++ [vh, vb]))))) =
      (([.int .i64 k, .int .i64 f, .int .i64 t] : List Value) ++ ns.map u64v ++ bvs hd ++ [.int .i64 cl, u64v nm]) ++ z ++ (ac ++ [vh, vb]) := fun z => by simp
  rw [e, e]
  exact part_at (by simp [h4, h32]) (by omega)
theorem mcl_ans {ac' : List Value} (h4 : ns.length = 4) (h32 : hd.length = 32) (h6 : oc.length = 6) (ha : ac.length = 4) (ha' : ac'.length = 4) : (mcl k f t ns hd cl nm oc ac vh vb).take 47 ++ ac' ++ (mcl k f t ns hd cl nm oc ac vh vb).drop (47 + ac'.length) = mcl k f t ns hd cl nm oc ac' vh vb := by
  unfold mcl
  have e : ∀ z : List Value, ([.int .i64 k, .int .i64 f, .int .i64 t] : List Value) ++ (ns.map u64v ++ (bvs hd ++ (.int .i64 cl :: u64v nm :: (oc ++ (z ++ [vh, vb]))))) =
      (([.int .i64 k, .int .i64 f, .int .i64 t] : List Value) ++ ns.map u64v ++ bvs hd ++ [.int .i64 cl, u64v nm] ++ oc) ++ z ++ [vh, vb] := fun z => by simp
  rw [e, e]
  exact part_at (by simp [h4, h32, h6]) (by omega)
theorem mcl_hs {vh' : Value} (h4 : ns.length = 4) (h32 : hd.length = 32) (h6 : oc.length = 6) (ha : ac.length = 4) : (mcl k f t ns hd cl nm oc ac vh vb).set 51 vh' = mcl k f t ns hd cl nm oc ac vh' vb := by
  unfold mcl
  have e : ∀ z : Value, ([.int .i64 k, .int .i64 f, .int .i64 t] : List Value) ++ (ns.map u64v ++ (bvs hd ++ (.int .i64 cl :: u64v nm :: (oc ++ (ac ++ [z, vb]))))) =
      (([.int .i64 k, .int .i64 f, .int .i64 t] : List Value) ++ ns.map u64v ++ bvs hd ++ [.int .i64 cl, u64v nm] ++ oc ++ ac) ++ z :: [vb] := fun z => by simp
  rw [e, e]
  exact set_at (by simp [h4, h32, h6, ha])
theorem mcl_bs {vb' : Value} (h4 : ns.length = 4) (h32 : hd.length = 32) (h6 : oc.length = 6) (ha : ac.length = 4) : (mcl k f t ns hd cl nm oc ac vh vb).set 52 vb' = mcl k f t ns hd cl nm oc ac vh vb' := by
  unfold mcl
  have e : ∀ z : Value, ([.int .i64 k, .int .i64 f, .int .i64 t] : List Value) ++ (ns.map u64v ++ (bvs hd ++ (.int .i64 cl :: u64v nm :: (oc ++ (ac ++ [vh, z]))))) =
      (([.int .i64 k, .int .i64 f, .int .i64 t] : List Value) ++ ns.map u64v ++ bvs hd ++ [.int .i64 cl, u64v nm] ++ oc ++ ac ++ [vh]) ++ z :: [] := fun z => by simp
  rw [e, e]
  exact set_at (by simp [h4, h32, h6, ha])
theorem mcl_get51 (h4 : ns.length = 4) (h32 : hd.length = 32) (h6 : oc.length = 6) (ha : ac.length = 4) : (mcl k f t ns hd cl nm oc ac vh vb).toArray[51]? = some vh ∧ (mcl k f t ns hd cl nm oc ac vh vb).toArray[52]? = some vb := by
  have e : mcl k f t ns hd cl nm oc ac vh vb = (([.int .i64 k, .int .i64 f, .int .i64 t] : List Value) ++ ns.map u64v ++ bvs hd ++ [.int .i64 cl, u64v nm] ++ oc ++ ac) ++ [vh, vb] := by unfold mcl; simp
  have hl : (([.int .i64 k, .int .i64 f, .int .i64 t] : List Value) ++ ns.map u64v ++ bvs hd ++ [.int .i64 cl, u64v nm] ++ oc ++ ac).length = 51 := by simp [h4, h32, h6, ha]
  rw [List.getElem?_toArray, List.getElem?_toArray, e, List.getElem?_append_right (by omega), List.getElem?_append_right (by omega), hl]
  exact ⟨rfl, rfl⟩
def nilV : Value := .slice none 0 0
/-- no more than is looked at -/
def MsgR.mild (m : MsgR) : Prop := m.ans.data.length ≤ 1000 ∧ m.ans.names.length ≤ 100 ∧ m.hashes.length ≤ 100 ∧ m.blocks.length ≤ 5000 ∧ (∀ b ∈ m.blocks, b.length ≤ 40000) ∧ m.op.path.length ≤ 400 ∧ m.op.to.length ≤ 400 ∧ m.op.data.length ≤ 400
/-- no more than can be counted -/
def MsgR.fair (m : MsgR) : Prop := m.ans.names.length ≤ 1099511627776 ∧ m.hashes.length ≤ 1099511627776 ∧ m.blocks.length ≤ 1099511627776
theorem MsgR.mild.fair {m : MsgR} (h : m.mild) : m.fair := ⟨by have := h.2.1; omega, by have := h.2.2.1; omega, by have := h.2.2.2.1; omega⟩
theorem zero_mild : MsgR.zero.mild := by unfold MsgR.mild MsgR.zero OpR.zero AnsR.zero; simp
theorem zero_ok : MsgR.zero.ok := by unfold MsgR.ok MsgR.zero; simp
end Go.Vc
namespace Go.Proofs.Ytfploingelmpkaa
open Go.Vc
attribute [local irreducible] TInt TBool TStr TPtr TSl TAgg TMap TChan T2 T3 T4 BS Req TSome TCell TByte LoadC LoadA StoreC AllocC RunV RunU CallV ExtV EqA StableC StableA StableV TCells ReadV
attribute [local irreducible] DrewC
/-- an operation's data can be read -/
def OpRV (h : View) (o : OpR) (v : Value) : Prop := RdS h v 1 o.data.length (bvs o.data)
theorem Great_c (c : Nat → Nat) (j : Nat) {w : World} {o : OpR} {v : Value} {h0 : View} {R : Value → World → Prop} (hv : OpRV h0 o v)
    (h : ∀ c' w', Step c [] [j] w c' w' → R (.bool (decide (o.path.length > 400 ∨ o.to.length > 400 ∨ o.data.length > 400))) w') : CallV Try.prog 16 #[.agg (o.cells v).toArray] w R := by
  obtain ⟨ov, cv, rfl⟩ := RdS.form hv
  refine ref10_Great_vc ?_
  unfold ref10_Great_VC
  refine AllocC.col c j fun b c1 w1 st1 hb _ => ?_
  have hR := h c1 w1 st1.fresh
  have ld : ∀ {k : Nat} (u : Value) {C : Value → Prop}, (o.cells (.slice ov o.data.length cv)).toArray[k]? = some u → C u → LoadC w1 ((⟨b, 0, none⟩ : Addr).add k) C := fun {k} u {C} hu hC => LoadC.ad (view_sub c1 j w1) u hb hu hC
  refine ld (sv o.path) rfl (TStr.mk ?_)
  rw [strOf_size]
  refine BS.dec (fun k1 => by rwa [decide_eq_true (by omega)] at hR) (fun k1 => ?_)
  refine ld (sv o.to) rfl (TStr.mk ?_)
  rw [strOf_size]
  refine BS.dec (fun k2 => by rwa [decide_eq_true (by omega)] at hR) (fun k2 => ?_)
  refine ld (.slice ov o.data.length cv) rfl (TSl.mk ?_)
  have : decide (((o.data.length : Nat) : Int) > (400 : Int)) = decide (o.path.length > 400 ∨ o.to.length > 400 ∨ o.data.length > 400) := by rw [decide_eq_decide]; omega
  rw [this]; exact hR
theorem SameOp_c (c : Nat → Nat) (j : Nat) {w : World} {o p : OpR} {v u : Value} {q r : Nat} {R : Value → World → Prop} (hv : OpRV (view c q w) o v) (hu : OpRV (view c r w) p u)
    (h : ∀ c' w', Step c [] [j] w c' w' → R (.bool (decide (o = p))) w') : CallV Try.prog 18 #[.agg (o.cells v).toArray, .agg (p.cells u).toArray] w R := by
  obtain ⟨ov, cv, rfl⟩ := RdS.form hv
  obtain ⟨ou, cu, rfl⟩ := RdS.form hu
  refine ref10_SameOp_vc ?_
  unfold ref10_SameOp_VC
  refine AllocC.col c j fun b c1 w1 st1 hb _ => ?_
  refine AllocC.col c1 j fun b2 c2 w2 st2 hb2 _ => ?_
  have hb := st2.sub _ _ hb
  have st := st1.fresh.trans st2.fresh
  have hR := h c2 w2 st
  have fls : o ≠ p → R (.bool false) w2 := fun hn => by rwa [decide_eq_false hn] at hR
  have ld : ∀ {k : Nat} (u : Value) {C : Value → Prop}, (o.cells (.slice ov o.data.length cv)).toArray[k]? = some u → C u → LoadC w2 ((⟨b, 0, none⟩ : Addr).add k) C := fun {k} u {C} hu hC => LoadC.ad (view_sub c2 j w2) u hb hu hC
  have ld2 : ∀ {k : Nat} (u : Value) {C : Value → Prop}, (p.cells (.slice ou p.data.length cu)).toArray[k]? = some u → C u → LoadC w2 ((⟨b2, 0, none⟩ : Addr).add k) C := fun {k} u {C} hu hC => LoadC.ad (view_sub c2 j w2) u hb2 hu hC
  refine ld (.int .i64 o.kind) rfl (TInt.mk ?_)
  refine ld2 (.int .i64 p.kind) rfl (TInt.mk ?_)
  refine BS.eq (fun e1 => ?_) (fun e => fls (by rintro rfl; exact e rfl))
  refine ld (sv o.path) rfl (TStr.mk ?_)
  refine ld2 (sv p.path) rfl (TStr.mk ?_)
  rw [strEq_of]
  refine BS.dec (fun e2 => ?_) (fun e => fls (by rintro rfl; exact e rfl))
  refine ld (sv o.to) rfl (TStr.mk ?_)
  refine ld2 (sv p.to) rfl (TStr.mk ?_)
  rw [strEq_of]
  refine BS.dec (fun e3 => ?_) (fun e => fls (by rintro rfl; exact e rfl))
  refine ld (.int .i64 o.off) rfl (TInt.mk ?_)
  refine ld2 (.int .i64 p.off) rfl (TInt.mk ?_)
  refine BS.eq (fun e4 => ?_) (fun e => fls (by rintro rfl; exact e rfl))
  refine ld (.int .i64 o.n) rfl (TInt.mk ?_)
  refine ld2 (.int .i64 p.n) rfl (TInt.mk ?_)
  refine BS.eq (fun e5 => ?_) (fun e => fls (by rintro rfl; exact e rfl))
  refine ld (.slice ov o.data.length cv) rfl (TSl.mk ?_)
  refine string_rule strU8 ((hv.mono (st.sub (by simp))).mono (view_sub _ _ _)) (TStr.mk ?_)
  refine ld2 (.slice ou p.data.length cu) rfl (TSl.mk ?_)
  refine string_rule strU8 ((hu.mono (st.sub (by simp))).mono (view_sub _ _ _)) (TStr.mk ?_)
  rw [strEq_of]
  have : decide (o.data = p.data) = decide (o = p) := by
    rw [decide_eq_decide]
    obtain ⟨a1, a2, a3, a4, a5, a6⟩ := o
    obtain ⟨b1, b2, b3, b4, b5, b6⟩ := p
    simp only [OpR.mk.injEq] at *
    exact ⟨fun h => ⟨e1, e2, e3, e4, e5, h⟩, fun h => h.2.2.2.2.2⟩
  rw [this]; exact hR
theorem slStr : SlT Try.prog 31 9 1 16 := .of (by kernel_rfl)
structure AnsV (h : View) (a : AnsR) (v u : Value) : Prop where
  d : RdS h v 1 a.data.length (bvs a.data)
  n : RdS h u 1 a.names.length (svs a.names)
theorem AnsV.mono {h h' : View} {a : AnsR} {v u : Value} (H : AnsV h a v u) (hs : Sub h h') : AnsV h' a v u := ⟨H.d.mono hs, H.n.mono hs⟩
theorem Same_strs (c : Nat → Nat) {w : World} {v u : Value} {l m : List (List UInt8)} {R : Value → World → Prop} (h1 : RdS (wv w) v 1 l.length (svs l)) (h2 : RdS (wv w) u 1 m.length (svs m)) (hl : l.length ≤ 1099511627776)
    (h : ∀ w', Step c [] [] w c w' → R (.bool (decide (l = m))) w') : CallV Try.prog 25 #[v, u] w R := by
  obtain ⟨o1, cp1, rfl⟩ := h1.form
  obtain ⟨o2, cp2, rfl⟩ := h2.form
  refine ref09_Same_vc ?_
  unfold ref09_Same_VC
  refine BS.ne (fun hne => ?_) (fun heq => ?_)
  · have := h w (.refl ..)
    rwa [decide_eq_false (by rintro rfl; exact hne rfl)] at this
  have hlen : l.length = m.length := by omega
  refine LoopI.up l.length (fun i w' => Step c [] [] w c w' ∧ l.take i = m.take i) ⟨.refl .., by simp⟩ ?_
  rintro i w1 B hi ⟨st, heq⟩ back
  refine BS.dec (fun hlt => ?_) (fun hge => ?_)
  · refine DrewC.col c fun w2 st2 => ?_
    have st := st.trans st2
    obtain ⟨s, hs⟩ := get_of_lt (l := l) (i := i) (by omega)
    obtain ⟨t, ht⟩ := get_of_lt (l := m) (i := i) (by omega)
    refine Req.bnd ⟨by omega, hlt⟩ (h1.elt st.wv (u := sv s) (by rw [svs_get, hs]; rfl) (TStr.mk ?_))
    refine Req.bnd ⟨by omega, by omega⟩ (h2.elt st.wv (u := sv t) (by rw [svs_get, ht]; rfl) (TStr.mk ?_))
    rw [strEq_of]
    refine BS.ndec (fun hne => ?_) (fun he => ?_)
    · have := h w2 st
      rwa [decide_eq_false (by rintro rfl; rw [hs] at ht; exact hne (by simpa using ht))] at this
    · rw [wrap_i64 (by omega) (by omega)]
      refine back _ (by omega) ⟨st, ?_⟩
      rw [List.take_add_one, List.take_add_one, heq, hs, ht, he]
  · have : i = l.length := by omega
    subst this
    rw [List.take_length, hlen, List.take_length] at heq
    have := h w1 st
    rwa [decide_eq_true heq] at this
theorem SameAns_c (c : Nat → Nat) (j : Nat) {w : World} {a b : AnsR} {v u v' u' : Value} {R : Value → World → Prop} (ha : AnsV (wv w) a v u) (hb : AnsV (wv w) b v' u') (hl : a.names.length ≤ 1099511627776)
    (h : ∀ c' w', Step c [] [j] w c' w' → R (.bool (decide (a = b))) w') : CallV Try.prog 19 #[.agg (a.cells v u).toArray, .agg (b.cells v' u').toArray] w R := by
  obtain ⟨ov, cv, rfl⟩ := ha.d.form
  obtain ⟨ou, cu, rfl⟩ := ha.n.form
  obtain ⟨pv, dv, rfl⟩ := hb.d.form
  obtain ⟨pu, du, rfl⟩ := hb.n.form
  have D : AnsV (view (fun _ => 0) 0 w) a (.slice ov a.data.length cv) (.slice ou a.names.length cu) := by rw [view0]; exact ha
  have E : AnsV (view (fun _ => 0) 0 w) b (.slice pv b.data.length dv) (.slice pu b.names.length du) := by rw [view0]; exact hb
  have S := Fr.start w
  refine ref10_Same_vc ?_
  unfold ref10_Same_VC
  refine AllocC.col (fun _ => 0) 1 fun x c1 w1 st1 b1 _ => ?_
  replace S := S.go st1.step (by decide) (by decide); replace D := D.mono (st1.step.sub (by decide)); replace E := E.mono (st1.step.sub (by decide))
  refine AllocC.col c1 1 fun y c2 w2 st2 b2 _ => ?_
  replace b1 := st2.old _ _ b1 (by simp)
  replace S := S.go st2.step (by decide) (by decide); replace D := D.mono (st2.step.sub (by decide)); replace E := E.mono (st2.step.sub (by decide))
  have hR := h _ _ (S.leave c j)
  have fls : a ≠ b → R (.bool false) w2 := fun hn => by rwa [decide_eq_false hn] at hR
  (repeat (first | refine TInt.mk ?_ | refine TBool.mk ?_ | refine TStr.mk ?_ | refine TSl.mk ?_ | refine TPtr.mk ?_ | refine TAgg.mk ?_ | refine T2.mk ?_ | refine T3.mk ?_ | refine TSome.mk ?_ | refine LoadC.ad (view_sub _ _ _) _ (by assumption) rfl ?_))
  refine BS.eq (fun e1 => ?_) (fun e => fls (by rintro rfl; exact e rfl))
  (repeat (first | refine TInt.mk ?_ | refine TBool.mk ?_ | refine TStr.mk ?_ | refine TSl.mk ?_ | refine TPtr.mk ?_ | refine TAgg.mk ?_ | refine T2.mk ?_ | refine T3.mk ?_ | refine TSome.mk ?_ | refine LoadC.ad (view_sub _ _ _) _ (by assumption) rfl ?_))
  refine BS.eq (fun e2 => ?_) (fun e => fls (by rintro rfl; exact e rfl))
  (repeat (first | refine TInt.mk ?_ | refine TBool.mk ?_ | refine TStr.mk ?_ | refine TSl.mk ?_ | refine TPtr.mk ?_ | refine TAgg.mk ?_ | refine T2.mk ?_ | refine T3.mk ?_ | refine TSome.mk ?_ | refine LoadC.ad (view_sub _ _ _) _ (by assumption) rfl ?_))
  refine string_rule strU8 (D.d.mono (view_sub _ _ _)) (TStr.mk ?_)
  (repeat (first | refine TInt.mk ?_ | refine TBool.mk ?_ | refine TStr.mk ?_ | refine TSl.mk ?_ | refine TPtr.mk ?_ | refine TAgg.mk ?_ | refine T2.mk ?_ | refine T3.mk ?_ | refine TSome.mk ?_ | refine LoadC.ad (view_sub _ _ _) _ (by assumption) rfl ?_))
  refine string_rule strU8 (E.d.mono (view_sub _ _ _)) (TStr.mk ?_)
  rw [strEq_of]
  refine BS.dec (fun e3 => ?_) (fun e => fls (by rintro rfl; exact e rfl))
  (repeat (first | refine TInt.mk ?_ | refine TBool.mk ?_ | refine TStr.mk ?_ | refine TSl.mk ?_ | refine TPtr.mk ?_ | refine TAgg.mk ?_ | refine T2.mk ?_ | refine T3.mk ?_ | refine TSome.mk ?_ | refine LoadC.ad (view_sub _ _ _) _ (by assumption) rfl ?_))
  refine Same_strs c2 (D.n.mono (view_sub _ _ _)) (E.n.mono (view_sub _ _ _)) hl fun w3 st3 => ?_
  replace S := S.go st3 (by decide) (by decide)
  have hR := h _ _ (S.leave c j)
  refine TBool.mk ?_
  have : decide (a.names = b.names) = decide (a = b) := by
    rw [decide_eq_decide]
    obtain ⟨a1, a2, a3, a4⟩ := a
    obtain ⟨b1, b2, b3, b4⟩ := b
    simp only [AnsR.mk.injEq] at *
    exact ⟨fun h => ⟨e1, e2, e3, h⟩, fun h => h.2.2.2⟩
  rw [this]; exact hR
structure MsgV (h : View) (m : MsgR) (v va ua vh vb : Value) : Prop where
  op : OpRV h m.op v
  ans : AnsV h m.ans va ua
  hs : LsV HashP 32 h vh m.hashes
  bs : BlsV h vb m.blocks
theorem MsgV.mono {h h' : View} {m : MsgR} {v va ua vh vb : Value} (H : MsgV h m v va ua vh vb) (hs : Sub h h') : MsgV h' m v va ua vh vb :=
  ⟨RdS.mono H.op hs, H.ans.mono hs, by obtain ⟨xs, hr, hx⟩ := H.hs; exact ⟨xs, hr.mono hs, fun i a hi => hx i a hi⟩, H.bs.mono hs⟩
theorem str_nil : (⟨#[]⟩ : ByteArray) = strOf [] := rfl
theorem msg_get {m : MsgR} {v va ua vh vb : Value} (h32 : m.head.length = 32) : (m.cells v va ua vh vb).length = 53 := by
  simp [MsgR.cells, h32, OpR.cells, AnsR.cells]
/-- a piece of a message's cells -/
theorem msg_part {m : MsgR} {v va ua vh vb : Value} (h32 : m.head.length = 32) : ((m.cells v va ua vh vb).drop 39).take 8 = [.int .i64 m.client, u64v m.number] ++ m.op.cells v ∧ ((m.cells v va ua vh vb).drop 47).take 4 = m.ans.cells va ua := by
  have e : m.cells v va ua vh vb = ([.int .i64 m.kind, .int .i64 m.fr, .int .i64 m.to, u64v m.view, u64v m.normal, u64v m.gen, u64v m.commit] ++ bvs m.head) ++ (([.int .i64 m.client, u64v m.number] ++ m.op.cells v) ++ (m.ans.cells va ua ++ [vh, vb])) := by
    unfold MsgR.cells; simp
  have l1 : ([.int .i64 m.kind, .int .i64 m.fr, .int .i64 m.to, u64v m.view, u64v m.normal, u64v m.gen, u64v m.commit] ++ bvs m.head : List Value).length = 39 := by simp [h32]
  have l2 : ([.int .i64 m.client, u64v m.number] ++ m.op.cells v : List Value).length = 8 := by simp [OpR.cells]
  have l3 : (m.ans.cells va ua).length = 4 := by simp [AnsR.cells]
  rw [e]
  generalize ([.int .i64 m.kind, .int .i64 m.fr, .int .i64 m.to, u64v m.view, u64v m.normal, u64v m.gen, u64v m.commit] ++ bvs m.head : List Value) = A at *
  generalize ([.int .i64 m.client, u64v m.number] ++ m.op.cells v : List Value) = B at *
  generalize m.ans.cells va ua = C at *
  refine ⟨?_, ?_⟩
  · rw [← l1, List.drop_left, ← l2, List.take_left]
  · rw [show 47 = (A ++ B).length by simp [l1, l2], ← List.append_assoc A B, List.drop_left, ← l3, List.take_left]
end Go.Proofs.Ytfploingelmpkaa
namespace Go.Vc
open Go
theorem op_one {o : OpR} {v : Value} {h : View} {z n : Nat} {xs : List Value} (hv : RdS h v z n xs) : (o.cells v).length = 6 ∧ ∀ u ∈ o.cells v, u.oneCell' = true := by
  obtain ⟨ov, cv, rfl⟩ := hv.form
  refine ⟨rfl, fun u hu => ?_⟩
  unfold OpR.cells at hu
  simp only [List.mem_cons, List.not_mem_nil, or_false] at hu
  rcases hu with rfl | rfl | rfl | rfl | rfl | rfl <;> rfl
theorem ans_one {a : AnsR} {v u : Value} {h h' : View} {z n z' n' : Nat} {xs xs' : List Value} (hv : RdS h v z n xs) (hu : RdS h' u z' n' xs') : (a.cells v u).length = 4 ∧ ∀ x ∈ a.cells v u, x.oneCell' = true := by
  obtain ⟨ov, cv, rfl⟩ := hv.form
  obtain ⟨ou, cu, rfl⟩ := hu.form
  refine ⟨rfl, fun u hu => ?_⟩
  unfold AnsR.cells at hu
  simp only [List.mem_cons, List.not_mem_nil, or_false] at hu
  rcases hu with rfl | rfl | rfl | rfl <;> rfl
end Go.Vc
namespace Go.Proofs.Ytfploingelmpkaa
open Go.Vc
attribute [local irreducible] TInt TBool TStr TPtr TSl TAgg TMap TChan T2 T3 T4 BS Req TSome TCell TByte LoadC LoadA StoreC AllocC RunV RunU CallV ExtV EqA StableC StableA StableV TCells ReadV
attribute [local irreducible] DrewC
theorem slHash : SlT Try.prog 34 24 32 32 := .of (by kernel_rfl)
theorem slBls : SlT Try.prog 35 25 1 24 := .of (by kernel_rfl)
end Go.Proofs.Ytfploingelmpkaa
namespace Go.Vc
open Go
theorem msg_headcells {m : MsgR} {v va ua vh vb : Value} (h32 : m.head.length = 32) (j : Nat) (u : Value) (hu : (bvs m.head)[j]? = some u) : (m.cells v va ua vh vb).toArray[7 + j]? = some u := by
  have hj := lt_of_get hu
  have e : m.cells v va ua vh vb = [.int .i64 m.kind, .int .i64 m.fr, .int .i64 m.to, u64v m.view, u64v m.normal, u64v m.gen, u64v m.commit] ++ (bvs m.head ++ ([.int .i64 m.client, u64v m.number] ++ m.op.cells v ++ m.ans.cells va ua ++ [vh, vb])) := by
    unfold MsgR.cells; simp
  rw [List.getElem?_toArray, e, List.getElem?_append_right (by simp)]
  rw [show 7 + j - ([.int .i64 m.kind, .int .i64 m.fr, .int .i64 m.to, u64v m.view, u64v m.normal, u64v m.gen, u64v m.commit] : List Value).length = j by simp]
  rw [List.getElem?_append_left hj]; exact hu
end Go.Vc
namespace Go.Proofs.Ytfploingelmpkaa
open Go.Vc
attribute [local irreducible] TInt TBool TStr TPtr TSl TAgg TMap TChan T2 T3 T4 BS Req TSome TCell TByte LoadC LoadA StoreC AllocC RunV RunU CallV ExtV EqA StableC StableA StableV TCells ReadV
attribute [local irreducible] DrewC
theorem arrHash : ArrT Try.prog 24 32 := .of (by kernel_rfl)
structure MsgGet (m : MsgR) (v va ua vh vb : Value) : Prop where
  g39 : (m.cells v va ua vh vb).toArray[39]? = some (.int .i64 m.client)
  g40 : (m.cells v va ua vh vb).toArray[40]? = some (u64v m.number)
  g49 : (m.cells v va ua vh vb).toArray[49]? = some va
  g50 : (m.cells v va ua vh vb).toArray[50]? = some ua
  g51 : (m.cells v va ua vh vb).toArray[51]? = some vh
  g52 : (m.cells v va ua vh vb).toArray[52]? = some vb
  p41 : ∀ (j : Nat) (u : Value), (m.op.cells v)[j]? = some u → (m.cells v va ua vh vb).toArray[41 + j]? = some u
  p47 : ∀ (j : Nat) (u : Value), (m.ans.cells va ua)[j]? = some u → (m.cells v va ua vh vb).toArray[47 + j]? = some u
  p7 : ∀ (j : Nat) (u : Value), (bvs m.head)[j]? = some u → (m.cells v va ua vh vb).toArray[7 + j]? = some u
  sz : (m.cells v va ua vh vb).toArray.size = 53
theorem msg_gets {m : MsgR} {v va ua vh vb : Value} (h32 : m.head.length = 32) : MsgGet m v va ua vh vb := by
  obtain ⟨q1, q2⟩ := msg_part (m := m) (v := v) (va := va) (ua := ua) (vh := vh) (vb := vb) h32
  have e39 := part_get q1
  have e47 := part_get q2
  have h5 := mcl_get51 (k := m.kind) (f := m.fr) (t := m.to) (ns := [m.view, m.normal, m.gen, m.commit]) (hd := m.head) (cl := m.client) (nm := m.number) (oc := m.op.cells v) (ac := m.ans.cells va ua) (vh := vh) (vb := vb) rfl h32 rfl rfl
  rw [← mcl_msg] at h5
  refine ⟨e39 0 _ rfl, e39 1 _ rfl, e47 2 _ rfl, e47 3 _ rfl, h5.1, h5.2, fun j u hu => ?_, e47, fun j u hu => msg_headcells h32 j u hu, by rw [List.size_toArray, msg_get h32]⟩
  have := e39 (2 + j) u (by rw [← hu, Nat.add_comm]; rfl)
  rw [← Nat.add_assoc] at this; exact this
/-- digests, compared -/
theorem SameH_c (c : Nat → Nat) {w : World} {v u : Value} {l m : List (List UInt8)} {R : Value → World → Prop} (h1 : LsV HashP 32 (wv w) v l) (h2 : LsV HashP 32 (wv w) u m) (hl : l.length ≤ 1099511627776)
    (h : ∀ w', Step c [] [] w c w' → R (.bool (decide (l = m))) w') : CallV Try.prog 20 #[v, u] w R := by
  obtain ⟨o1, cp1, rfl⟩ := LsV.form h1
  obtain ⟨o2, cp2, rfl⟩ := LsV.form h2
  refine ref05_Same_vc ?_
  unfold ref05_Same_VC
  refine BS.ne (fun hne => ?_) (fun he => ?_)
  · have := h w (.refl ..)
    rwa [decide_eq_false (by rintro rfl; exact hne rfl)] at this
  · have hlen : l.length = m.length := by omega
    refine LoopI.up l.length (fun i w' => Step c [] [] w c w' ∧ l.take i = m.take i) ⟨.refl .., by simp⟩ ?_
    rintro i w1 B hi ⟨S, heq⟩ back
    refine BS.dec (fun hlt => ?_) (fun hge => ?_)
    · obtain ⟨x, hx⟩ := get_of_lt (l := l) (i := i) (by omega)
      obtain ⟨y, hy⟩ := get_of_lt (l := m) (i := i) (by omega)
      refine DrewC.col c fun w2 st2 => ?_
      have S := S.trans st2
      have hs : Sub (wv w) (wv w2) := S.wv
      obtain ⟨es, ⟨rfl, hx32⟩, E⟩ := LsV.at (by omega) h1 hx
      obtain ⟨fs, ⟨rfl, hy32⟩, F⟩ := LsV.at (by omega) h2 hy
      refine Req.bnd ⟨by omega, hlt⟩ (E.all hs (Req.bnd ⟨by omega, by omega⟩ (F.all hs ?_)))
      refine EqA.bytes_ne arrHash (by kernel_rfl) hx32 hy32 ?_
      refine BS.ndec (fun hxy => ?_) (fun hxy => ?_)
      · have := h w2 S
        rwa [decide_eq_false (by rintro rfl; rw [hx] at hy; simp at hy; exact hxy hy)] at this
      · rw [wrap_i64 (by omega) (by omega)]
        refine back _ (by omega) ⟨S, ?_⟩
        rw [List.take_add_one, List.take_add_one, heq, hx, hy, hxy]
    · have : i = l.length := by omega
      subst this
      have := h w1 S
      rw [List.take_length, hlen, List.take_length] at heq
      rwa [decide_eq_true heq] at this
theorem Same19_c (c : Nat → Nat) (j : Nat) {w : World} {m n : MsgR} {v va ua vh vb v' va' ua' vh' vb' : Value} {R : Value → World → Prop} (hm : MsgV (wv w) m v va ua vh vb) (hn : MsgV (wv w) n v' va' ua' vh' vb') (hok : m.ok) (hok' : n.ok) (hd : m.fair)
    (h : ∀ b c' w', Step c [] [j] w c' w' → (b = true ↔ m = n) → R (.bool b) w') : CallV Try.prog 11 #[.agg (m.cells v va ua vh vb).toArray, .agg (n.cells v' va' ua' vh' vb').toArray] w R := by
  have h32 := hok.2.2.2.2.2.1
  have h32' := hok'.2.2.2.2.2.1
  obtain ⟨oh, ph, rfl⟩ := LsV.form hm.hs
  obtain ⟨ob, pb, rfl⟩ := LsV.form hm.bs
  obtain ⟨oh', ph', rfl⟩ := LsV.form hn.hs
  obtain ⟨ob', pb', rfl⟩ := LsV.form hn.bs
  have M : MsgV (view (fun _ => 0) 0 w) m v va ua (.slice oh m.hashes.length ph) (.slice ob m.blocks.length pb) := by rw [view0]; exact hm
  have N : MsgV (view (fun _ => 0) 0 w) n v' va' ua' (.slice oh' n.hashes.length ph') (.slice ob' n.blocks.length pb') := by rw [view0]; exact hn
  have S := Fr.start w
  have g := msg_gets (m := m) (v := v) (va := va) (ua := ua) (vh := .slice oh m.hashes.length ph) (vb := .slice ob m.blocks.length pb) h32
  have g' := msg_gets (m := n) (v := v') (va := va') (ua := ua') (vh := .slice oh' n.hashes.length ph') (vb := .slice ob' n.blocks.length pb') h32'
  obtain ⟨d1, d2, d3⟩ := hd
  refine ref19_Same_vc ?_
  unfold ref19_Same_VC
  refine AllocC.col (fun _ => 0) 1 fun a1 c1 w1 st1 b1 _ => ?_
  replace S := S.go st1.step (by decide) (by decide); replace M := M.mono (st1.step.sub (by decide)); replace N := N.mono (st1.step.sub (by decide))
  refine AllocC.col c1 2 fun a2 c2 w2 st2 b2 _ => ?_
  replace S := S.go st2.step (by decide) (by decide); replace M := M.mono (st2.step.sub (by decide)); replace N := N.mono (st2.step.sub (by decide)); replace b1 := st2.step.sub (by decide) _ _ b1
  have fls : ∀ {c' w'}, Fr w c' w' → m ≠ n → R (.bool false) w' := fun S hn => h false _ _ (S.leave c j) ⟨fun e => by simp at e, fun e => absurd e hn⟩
  refine LoadC.ad (view_sub _ _ _) _ b1 rfl (TInt.mk (LoadC.ad (view_sub _ _ _) _ b2 rfl (TInt.mk ?_)))
  refine BS.ne (fun k => fls S fun e => k (by rw [e])) (fun e1 => ?_)
  refine LoadC.ad (view_sub _ _ _) _ b1 rfl (TInt.mk (LoadC.ad (view_sub _ _ _) _ b2 rfl (TInt.mk ?_)))
  refine BS.ne (fun k => fls S fun e => k (by rw [e])) (fun e2 => ?_)
  refine LoadC.ad (view_sub _ _ _) _ b1 rfl (TInt.mk (LoadC.ad (view_sub _ _ _) _ b2 rfl (TInt.mk ?_)))
  refine BS.ne (fun k => fls S fun e => k (by rw [e])) (fun e3 => ?_)
  refine LoadC.ad (view_sub _ _ _) _ b1 rfl (TInt.mk (LoadC.ad (view_sub _ _ _) _ b2 rfl (TInt.mk ?_)))
  refine BS.ne (fun k => fls S fun e => k (by rw [e])) (fun e4 => ?_)
  refine LoadC.ad (view_sub _ _ _) _ b1 rfl (TInt.mk (LoadC.ad (view_sub _ _ _) _ b2 rfl (TInt.mk ?_)))
  refine BS.ne (fun k => fls S fun e => k (by rw [e])) (fun e5 => ?_)
  refine LoadC.ad (view_sub _ _ _) _ b1 rfl (TInt.mk (LoadC.ad (view_sub _ _ _) _ b2 rfl (TInt.mk ?_)))
  refine BS.ne (fun k => fls S fun e => k (by rw [e])) (fun e6 => ?_)
  refine LoadC.ad (view_sub _ _ _) _ b1 rfl (TInt.mk (LoadC.ad (view_sub _ _ _) _ b2 rfl (TInt.mk ?_)))
  refine BS.ne (fun k => fls S fun e => k (by rw [e])) (fun e7 => ?_)
  refine LoadA.part (k := 7) (view_sub _ _ _) b1 (es := bvs m.head) (by simp [h32]) g.p7 (LoadA.part (k := 7) (view_sub _ _ _) b2 (es := bvs n.head) (by simp [h32']) g'.p7 ?_)
  refine EqA.bytes_ne arrHash (by kernel_rfl) h32 h32' ?_
  unfold ref19_Same_K1
  refine BS.ndec (fun k => fls S fun e => k (by rw [e])) (fun e8 => ?_)
  simp only [add_add]
  refine LoadC.ad (view_sub _ _ _) _ b1 g.g39 (TInt.mk (LoadC.ad (view_sub _ _ _) _ b2 g'.g39 (TInt.mk ?_)))
  refine BS.ne (fun k => fls S fun e => k (by rw [e])) (fun e9 => ?_)
  refine LoadC.ad (view_sub _ _ _) _ b1 g.g40 (TInt.mk (LoadC.ad (view_sub _ _ _) _ b2 g'.g40 (TInt.mk ?_)))
  refine BS.ne (fun k => fls S fun e => k (by rw [e])) (fun e10 => ?_)
  refine LoadA.part (k := 41) (view_sub _ _ _) b1 (es := m.op.cells v) rfl g.p41 (LoadA.part (k := 41) (view_sub _ _ _) b2 (es := n.op.cells v') rfl g'.p41 ?_)
  refine SameOp_c c2 3 (q := 0) (r := 0) M.op N.op fun c3 w3 st3 => TBool.mk ?_
  replace S := S.go st3 (by decide) (by decide); replace M := M.mono (st3.sub (by decide)); replace N := N.mono (st3.sub (by decide)); replace b1 := st3.sub (by decide) _ _ b1; replace b2 := st3.sub (by decide) _ _ b2
  refine BS.ndec (fun k => fls S fun e => k (by rw [e])) (fun e11 => ?_)
  refine LoadA.part (k := 47) (view_sub _ _ _) b1 (es := m.ans.cells va ua) rfl g.p47 (LoadA.part (k := 47) (view_sub _ _ _) b2 (es := n.ans.cells va' ua') rfl g'.p47 ?_)
  refine SameAns_c c3 3 (M.ans.mono (view_sub _ _ _)) (N.ans.mono (view_sub _ _ _)) (by omega) fun c4 w4 st4 => TBool.mk ?_
  replace S := S.go st4 (by decide) (by decide); replace M := M.mono (st4.sub (by decide)); replace N := N.mono (st4.sub (by decide)); replace b1 := st4.sub (by decide) _ _ b1; replace b2 := st4.sub (by decide) _ _ b2
  refine BS.ndec (fun k => fls S fun e => k (by rw [e])) (fun e12 => ?_)
  refine LoadC.ad (view_sub _ _ _) _ b1 g.g51 (TSl.mk (LoadC.ad (view_sub _ _ _) _ b2 g'.g51 (TSl.mk ?_)))
  refine SameH_c c4 (M.mono (view_sub _ _ _)).hs (N.mono (view_sub _ _ _)).hs (by omega) fun w5 st5 => TBool.mk ?_
  replace S := S.go st5 (by decide) (by decide); replace M := M.mono (st5.sub (by decide)); replace N := N.mono (st5.sub (by decide)); replace b1 := st5.sub (by decide) _ _ b1; replace b2 := st5.sub (by decide) _ _ b2
  refine BS.ndec (fun k => fls S fun e => k (by rw [e])) (fun e13 => ?_)
  refine LoadC.ad (view_sub _ _ _) _ b1 g.g52 (TSl.mk (LoadC.ad (view_sub _ _ _) _ b2 g'.g52 (TSl.mk ?_)))
  unfold ref19_Same_K2
  refine BS.ne (fun k => fls S fun e => k (by rw [e])) (fun e14 => ?_)
  have hlen : m.blocks.length = n.blocks.length := by omega
  refine LoopI.up m.blocks.length (fun i w' => Fr w c4 w' ∧ MsgV (view c4 0 w') m v va ua (.slice oh m.hashes.length ph) (.slice ob m.blocks.length pb) ∧ MsgV (view c4 0 w') n v' va' ua' (.slice oh' n.hashes.length ph') (.slice ob' n.blocks.length pb') ∧
    view c4 1 w' a1 = some (.cells (m.cells v va ua (.slice oh m.hashes.length ph) (.slice ob m.blocks.length pb)).toArray 37 (0, 0)) ∧ view c4 2 w' a2 = some (.cells (n.cells v' va' ua' (.slice oh' n.hashes.length ph') (.slice ob' n.blocks.length pb')).toArray 37 (0, 0)) ∧ m.blocks.take i = n.blocks.take i) ⟨S, M, N, b1, b2, by simp⟩ ?_
  clear S M N b1 b2
  rintro i w6 B hi ⟨S, M, N, b1, b2, heq⟩ back
  refine LoadC.ad (view_sub _ _ _) _ b1 g.g52 (TSl.mk ?_)
  refine BS.dec (fun hlt => ?_) (fun hge => ?_)
  · obtain ⟨s, hs⟩ := get_of_lt (l := m.blocks) (i := i) (by omega)
    obtain ⟨t, ht⟩ := get_of_lt (l := n.blocks) (i := i) (by omega)
    refine DrewC.col c4 fun w7 st7 => ?_
    replace S := S.go st7 (by decide) (by decide); replace M := M.mono (st7.sub (by decide)); replace N := N.mono (st7.sub (by decide)); replace b1 := st7.sub (by decide) _ _ b1; replace b2 := st7.sub (by decide) _ _ b2
    obtain ⟨es, ⟨vs, rfl, rs⟩, E⟩ := LsV.at (by omega) M.bs hs
    obtain ⟨os, ps, rfl⟩ := rs.form
    obtain ⟨fs, ⟨us, rfl, qs⟩, F⟩ := LsV.at (by omega) N.bs ht
    obtain ⟨ot, pt, rfl⟩ := qs.form
    refine LoadC.ad (view_sub _ _ _) _ b1 g.g52 (TSl.mk ?_)
    refine Req.bnd ⟨by omega, hlt⟩ (E.ld0 (view_sub _ _ _) rfl (TSl.mk ?_))
    refine string_rule strU8 (rs.mono (view_sub _ _ _)) (TStr.mk ?_)
    refine LoadC.ad (view_sub _ _ _) _ b2 g'.g52 (TSl.mk ?_)
    refine Req.bnd ⟨by omega, by omega⟩ (F.ld0 (view_sub _ _ _) rfl (TSl.mk ?_))
    refine string_rule strU8 (qs.mono (view_sub _ _ _)) (TStr.mk ?_)
    rw [strEq_of]
    refine BS.ndec (fun k => fls S fun e => k ?_) (fun e15 => ?_)
    · rw [e] at hs; rw [hs] at ht; simpa using ht
    · rw [wrap_i64 (by omega) (by omega)]
      refine back _ (by omega) ⟨S, M, N, b1, b2, ?_⟩
      rw [List.take_add_one, List.take_add_one, heq, hs, ht, e15]
  · have : i = m.blocks.length := by omega
    subst this
    rw [List.take_length, hlen, List.take_length] at heq
    refine h true _ _ (S.leave c j) ⟨fun _ => ?_, fun _ => rfl⟩
    obtain ⟨kind, fr, to, view, normal, gen, commit, head, client, number, op, ans, hashes, blocks⟩ := m
    obtain ⟨kind', fr', to', view', normal', gen', commit', head', client', number', op', ans', hashes', blocks'⟩ := n
    simp only at e1 e2 e3 e4 e5 e6 e7 e8 e9 e10 e11 e12 e13 heq
    simp only [MsgR.mk.injEq]
    exact ⟨e1, e2, e3, by omega, by omega, by omega, by omega, e8, e9, by omega, e11, e12, e13, heq⟩
/-- 'Great' says no: there is no more than is looked at -/
theorem Great19_c (c : Nat → Nat) (j : Nat) {w : World} {m : MsgR} {v va ua vh vb : Value} {R : Value → World → Prop} (hm : MsgV (wv w) m v va ua vh vb) (hok : m.ok)
    (h : ∀ b c' w', Step c [] [j] w c' w' → (b = false → m.mild) → R (.bool b) w') : CallV Try.prog 7 #[.agg (m.cells v va ua vh vb).toArray] w R := by
  have h32 := hok.2.2.2.2.2.1
  obtain ⟨oh, ph, rfl⟩ := LsV.form hm.hs
  obtain ⟨ob, pb, rfl⟩ := LsV.form hm.bs
  obtain ⟨oa, pa, rfl⟩ := hm.ans.d.form
  obtain ⟨ou, pu, rfl⟩ := hm.ans.n.form
  have M : MsgV (view (fun _ => 0) 0 w) m v (.slice oa m.ans.data.length pa) (.slice ou m.ans.names.length pu) (.slice oh m.hashes.length ph) (.slice ob m.blocks.length pb) := by rw [view0]; exact hm
  have S := Fr.start w
  have g := msg_gets (m := m) (v := v) (va := .slice oa m.ans.data.length pa) (ua := .slice ou m.ans.names.length pu) (vh := .slice oh m.hashes.length ph) (vb := .slice ob m.blocks.length pb) h32
  refine ref19_Great_vc ?_
  unfold ref19_Great_VC
  refine AllocC.col (fun _ => 0) 1 fun a1 c1 w1 st1 b1 _ => ?_
  replace S := S.go st1.step (by decide) (by decide); replace M := M.mono (st1.step.sub (by decide))
  have tru : ∀ {c' w'}, Fr w c' w' → R (.bool true) w' := fun S => h true _ _ (S.leave c j) (fun e => by simp at e)
  simp only [add_add]
  refine LoadC.ad (view_sub _ _ _) _ b1 g.g49 (TSl.mk ?_)
  refine BS.dec (fun k => tru S) (fun k1 => ?_)
  refine LoadC.ad (view_sub _ _ _) _ b1 g.g50 (TSl.mk ?_)
  refine BS.dec (fun k => tru S) (fun k2 => ?_)
  refine LoadC.ad (view_sub _ _ _) _ b1 g.g51 (TSl.mk ?_)
  unfold ref19_Great_K1
  refine BS.dec (fun k => tru S) (fun k3 => ?_)
  simp only [add_add]
  refine LoadC.ad (view_sub _ _ _) _ b1 g.g49 (TSl.mk ?_)
  refine LoadC.ad (view_sub _ _ _) _ b1 g.g50 (TSl.mk ?_)
  refine LoadC.ad (view_sub _ _ _) _ b1 g.g51 (TSl.mk ?_)
  rw [wrap_i64 (n := 10 * ((m.ans.names.length : Nat) : Int)) (by omega) (by omega), wrap_i64 (n := 32 * ((m.hashes.length : Nat) : Int)) (by omega) (by omega), wrap_i64 (n := ((m.ans.data.length : Nat) : Int) + 10 * ((m.ans.names.length : Nat) : Int)) (by omega) (by omega), wrap_i64 (by omega) (by omega)]
  have last : ∀ (x : Int) (i : Nat), (x > 40000 ∨ (i = m.blocks.length ∧ (10 : Int) * i ≤ x ∧ ∀ b ∈ m.blocks.take i, b.length ≤ 40000)) → ref19_Great_K3 (⟨a1, 0, none⟩ : Addr) x w1 R := fun x i hx => by
    unfold ref19_Great_K3
    refine BS.dec (fun k => tru S) (fun k4 => ?_)
    rw [add_add]
    refine LoadA.part (k := 41) (view_sub _ _ _) b1 (es := m.op.cells v) rfl g.p41 ?_
    refine Great_c c1 3 M.op fun c2 w2 st2 => TBool.mk ?_
    replace S := S.go st2 (by decide) (by decide)
    refine h _ _ _ (S.leave c j) fun e => ?_
    have e := of_decide_eq_false e
    rcases hx with hx | ⟨rfl, hx, hb⟩
    · omega
    · rw [List.take_length] at hb
      exact ⟨by omega, by omega, by omega, by omega, hb, by omega, by omega, by omega⟩
  refine LoopNI.up m.blocks.length (fun i x w' => w1 = w' ∧ (10 : Int) * i ≤ x ∧ x ≤ 100000 ∧ ∀ b ∈ m.blocks.take i, b.length ≤ 40000) ⟨rfl, by omega, by omega, by simp⟩ ?_
  rintro i x _ B hi ⟨rfl, hx, hx2, hb⟩ back
  refine LoadC.ad (view_sub _ _ _) _ b1 g.g52 (TSl.mk ?_)
  refine BS.dec (fun hlt => ?_) (fun hge => last x i (.inr ⟨by omega, hx, hb⟩))
  unfold ref19_Great_K2
  refine BS.dec (fun hle => ?_) (fun hgt => last x i (.inl (by omega)))
  obtain ⟨s, hs⟩ := get_of_lt (l := m.blocks) (i := i) (by omega)
  obtain ⟨es, ⟨vs, rfl, rs⟩, E⟩ := LsV.at (by omega) M.bs hs
  obtain ⟨os, ps, rfl⟩ := rs.form
  refine LoadC.ad (view_sub _ _ _) _ b1 g.g52 (TSl.mk ?_)
  refine Req.bnd ⟨by omega, hlt⟩ (E.ld0 (view_sub _ _ _) rfl (TSl.mk ?_))
  refine BS.dec (fun k => tru S) (fun k4 => ?_)
  refine LoadC.ad (view_sub _ _ _) _ b1 g.g52 (TSl.mk ?_)
  refine Req.bnd ⟨by omega, hlt⟩ (E.ld0 (view_sub _ _ _) rfl (TSl.mk ?_))
  have hn : (i : Int) ≤ 100000 := by omega
  rw [wrap_i64 (n := ((s.length : Nat) : Int) + 10) (by omega) (by omega), wrap_i64 (n := x + _) (by omega) (by omega), wrap_i64 (n := (i : Int) + 1) (by omega) (by omega)]
  refine back _ _ (by omega) ⟨rfl, by omega, by omega, fun y hy => ?_⟩
  rw [List.take_add_one, hs] at hy
  simp only [Option.toList_some, List.mem_append, List.mem_singleton] at hy
  rcases hy with hy | rfl
  · exact hb y hy
  · omega
end Go.Proofs.Ytfploingelmpkaa
namespace Go.Vc
open Go
theorem LsO.hash {T z : Nat} {h g g' : View} {v : Value} {l : List (List UInt8)} (H : LsO HashP T z h g v l) : LsO HashP T z h g' v l := H
/-- what was there has colour 0; a function's own has colours 1 to 9 and 20 to 26 -/
abbrev Fx (w0 : World) (c : Nat → Nat) (w : World) : Prop := Step (fun _ => 0) [1, 2, 3, 4, 5, 6, 7, 8, 9, 20, 21, 22, 23, 24, 25, 26] [0, 1, 2, 3, 4, 5, 6, 7, 8, 9, 20, 21, 22, 23, 24, 25, 26] w0 c w
theorem Fx.start (w : World) : Fx w (fun _ => 0) w := .refl ..
theorem Fx.go {w0 : World} {c c' : Nat → Nat} {w w' : World} {W N : List Nat} (S : Fx w0 c w) (st : Step c W N w c' w') (hW : ∀ x ∈ W, x ∈ [1, 2, 3, 4, 5, 6, 7, 8, 9, 20, 21, 22, 23, 24, 25, 26]) (hN : ∀ x ∈ N, x ∈ [0, 1, 2, 3, 4, 5, 6, 7, 8, 9, 20, 21, 22, 23, 24, 25, 26]) : Fx w0 c' w' :=
  S.trans (st.weak hW hN)
def extc (c0 : Nat → Nat) (n : Nat) (c : Nat → Nat) : Nat → Nat := fun b => if b < n then c0 b else c b
theorem extc_old {c0 c : Nat → Nat} {n b : Nat} (h : b < n) : extc c0 n c b = c0 b := by simp [extc, h]
theorem extc_new {c0 c : Nat → Nat} {n b : Nat} (h : n ≤ b) : extc c0 n c b = c b := by simp [extc, Nat.not_lt.2 h]
theorem Fx.leave {w0 : World} {c : Nat → Nat} {w : World} (S : Fx w0 c w) (c0 : Nat → Nat) : Step c0 [] [0, 1, 2, 3, 4, 5, 6, 7, 8, 9, 20, 21, 22, 23, 24, 25, 26] w0 (extc c0 w0.heap.size c) w :=
  ⟨S.os, S.tape, S.output, S.size, fun b hb => extc_old hb, fun b h1 h2 => by rw [extc_new h1]; exact S.new b h1 h2, fun b hb _ => S.keep b hb (by simp)⟩
theorem Fx.out {w0 : World} {c : Nat → Nat} {w : World} (S : Fx w0 c w) (c0 : Nat → Nat) {k : Nat} (hk : k ≠ 0) : Sub (view c k w) (view (extc c0 w0.heap.size c) k w) := fun b o hb => by
  obtain ⟨hc, ho⟩ := view_out hb
  refine view_in ?_ ho
  rcases Nat.lt_or_ge b w0.heap.size with h | h
  · exact absurd ((S.col b h).symm.trans hc) (fun e => hk e.symm)
  · rw [extc_new h]; exact hc
theorem LsO.map {α : Type} {P Q : View → α → List Value → Prop} {T z : Nat} {h g h' g' : View} {v : Value} {l : List α} (hl : LsO P T z h g v l) (hPQ : ∀ a es, P g a es → Q g' a es) (hs : Sub h h') : LsO Q T z h' g' v l := by
  obtain ⟨xs, hr, hx⟩ := hl
  exact ⟨xs, hr.mono hs, fun i a hi => hPQ _ _ (hx i a hi)⟩
theorem LsO.at' {α : Type} {P : View → α → List Value → Prop} {T z : Nat} (hz : 0 < z) {h g : View} {o : Option Addr} {n c : Nat} {l : List α} (hl : LsO P T z h g (.slice o n c) l) {i : Nat} {a : α} (hi : l[i]? = some a) : ∃ es, P g a es ∧ Elt h o z i es := by
  obtain ⟨xs, hr, hx⟩ := hl
  exact LsV.at (P := fun _ => P g) hz ⟨xs, hr.rd, hx⟩ hi
theorem Elt.ld2 {h : View} {o : Option Addr} {z i : Nat} {es : List Value} (E : Elt h o z i es) (hz : 0 < z) {w : World} (hs : Sub h (Vc.wv w)) {j m : Nat} {u : Value} (hu : es[j + m]? = some u) {K : Value → Prop} (hK : K u) : TSome o fun a => LoadC w (((a.add ((i : Int).toNat * z)).add j).add m) K := by
  obtain ⟨b, off, cs, T, fz, rfl, hb, hc⟩ := E.blk hz
  refine TSome.mk ?_
  rw [addr_add, addr_add, addr_add, Int.toNat_natCast]
  exact LoadC.at hs hb (by rw [show off + i * z + j + m = off + i * z + (j + m) by omega]; exact hc _ _ hu) hK
theorem Elt.ld3 {h : View} {o : Option Addr} {z i : Nat} {es : List Value} (E : Elt h o z i es) (hz : 0 < z) {w : World} (hs : Sub h (Vc.wv w)) {j m n : Nat} {u : Value} (hu : es[j + m + n]? = some u) {K : Value → Prop} (hK : K u) : TSome o fun a => LoadC w ((((a.add ((i : Int).toNat * z)).add j).add m).add n) K := by
  obtain ⟨b, off, cs, T, fz, rfl, hb, hc⟩ := E.blk hz
  refine TSome.mk ?_
  rw [addr_add, addr_add, addr_add, addr_add, Int.toNat_natCast]
  exact LoadC.at hs hb (by rw [show off + i * z + j + m + n = off + i * z + (j + m + n) by omega]; exact hc _ _ hu) hK
end Go.Vc
namespace Go.Proofs.Ytfploingelmpkaa
open Go.Vc
attribute [local irreducible] TInt TBool TStr TPtr TSl TAgg TMap TChan T2 T3 T4 BS Req TSome TCell TByte LoadC LoadA StoreC AllocC RunV RunU CallV ExtV EqA StableC StableA StableV TCells ReadV
attribute [local irreducible] DrewC
theorem slMsg : SlT Try.prog 51 37 53 296 := .of (by kernel_rfl)
/-- a message in 53 cells -/
def MsgP (h : View) (m : MsgR) (es : List Value) : Prop := ∃ v va ua vh vb, es = m.cells v va ua vh vb ∧ MsgV h m v va ua vh vb ∧ m.ok
theorem MsgP.mono {h h' : View} {m : MsgR} {es : List Value} (H : MsgP h m es) (hs : Sub h h') : MsgP h' m es := by
  obtain ⟨v, va, ua, vh, vb, e, M, ok⟩ := H; exact ⟨v, va, ua, vh, vb, e, M.mono hs, ok⟩
theorem msg_one {h : View} {m : MsgR} {v va ua vh vb : Value} (M : MsgV h m v va ua vh vb) : ∀ u ∈ m.cells v va ua vh vb, u.oneCell' = true := by
  intro u hu
  rw [mcl_msg] at hu
  obtain ⟨_, _, rfl⟩ := LsV.form M.hs
  obtain ⟨_, _, rfl⟩ := LsV.form M.bs
  exact mcl_one (op_one M.op).2 (ans_one M.ans.d M.ans.n).2 rfl rfl u hu
theorem RunU.msg {c : Nat → Nat} {i : Nat} {w : World} {b : Nat} {old : Array Value} {h : View} {m : MsgR} {v va ua vh vb : Value} {C : World → Prop} (hb : view c i w b = some (.cells old 37 (0, 0))) (ho : old.size = 53) (M : MsgV h m v va ua vh vb) (hok : m.ok)
    (h : ∀ w', Wr c i w c w' (some b) → view c i w' b = some (.cells (m.cells v va ua vh vb).toArray 37 (0, 0)) → C w') : RunU Try.prog (storeVar 37 ⟨b, 0, none⟩ (.agg (m.cells v va ua vh vb).toArray)) w C := by
  have hs : (m.cells v va ua vh vb).toArray.size = 53 := by rw [List.size_toArray, msg_get hok.2.2.2.2.2.1]
  refine RunU.var hb (by rw [hs]; kernel_rfl) (by rw [ho, hs]) ?_ h
  rw [Array.all_eq_true']
  intro u hu
  exact msg_one M u (by simpa using hu)
theorem msg_sz {m : MsgR} {v va ua vh vb : Value} (hok : m.ok) : (m.cells v va ua vh vb).toArray.size = 53 := by rw [List.size_toArray, msg_get hok.2.2.2.2.2.1]
theorem MsgP.ones {h : View} {m : MsgR} {es : List Value} (H : MsgP h m es) : ∀ u ∈ es, u.oneCell' = true := by
  obtain ⟨v, va, ua, vh, vb, rfl, M, ok⟩ := H
  exact msg_one M
theorem MsgV.zero (h : View) : MsgV h MsgR.zero nilV nilV nilV nilV nilV := ⟨RdS.none_bytes .., ⟨RdS.none_bytes .., RdS.none_strs ..⟩, LsV.nil .., LsV.nil ..⟩
theorem bne_same (n : Int) : (n != n) = false := by simp
/-- bytes.Clone -/
theorem BClone_c (c : Nat → Nat) (i : Nat) {w : World} {v : Value} {l : List UInt8} {R : Value → World → Prop} (hr : RdS (wv w) v 1 l.length (bvs l)) (hn : l.length ≤ 140737488355328)
    (h : ∀ v' c' w', Step c [] [i] w c' w' → OwS (view c' i w') v' 5 1 l.length (bvs l) → R v' w') : CallV Try.prog 21 #[v] w R := by
  obtain ⟨o, cp, rfl⟩ := hr.form
  refine bytes_Clone_vc ?_
  unfold bytes_Clone_VC
  refine BS.mk (fun ho => ?_) (fun ho => ?_)
  · have : o = none := by simpa using ho
    subst this
    have hl : l = [] := by
      obtain ⟨o, cp, e, _, hl, hx⟩ := hr
      cases e
      rcases hx with h | ⟨b, off, cs, T, fz, e', _⟩
      · simpa [bvs] using h
      · simp at e'
    subst hl
    exact h _ c w (.refl ..) (OwS.none_bytes ..)
  · refine AllocC.col c i fun b c1 w1 h1 hb hnew => ?_
    refine app_bytes slU8 (OwS.some_bytes hb) (hr.mono h1.fresh.wv) (by simpa using hn) fun o2 p2 c2 w2 h2 ho2 => TSl.mk ?_
    rw [List.nil_append] at ho2 ⊢
    exact h _ c2 w2 (h2.stepNew h1.fresh (by simp) fun b' e => by simp [Value.ownBlock] at e; exact e ▸ size_le_of_none hnew) ho2
/-- slices.Clone of texts -/
theorem SClone_c (c : Nat → Nat) (i : Nat) {w : World} {v : Value} {l : List (List UInt8)} {R : Value → World → Prop} (hr : RdS (wv w) v 1 l.length (svs l)) (hn : l.length ≤ 8796093022208)
    (h : ∀ v' c' w', Step c [] [i] w c' w' → OwS (view c' i w') v' 9 1 l.length (svs l) → R v' w') : CallV Try.prog 22 #[v] w R := by
  obtain ⟨o, cp, rfl⟩ := hr.form
  refine slices_Clone_string_string_vc ?_
  unfold slices_Clone_string_string_VC
  refine BS.mk (fun ho => ?_) (fun ho => ?_)
  · have : o = none := by simpa using ho
    subst this
    have hl : l = [] := by
      obtain ⟨o, cp, e, _, hl, hx⟩ := hr
      cases e
      rcases hx with h | ⟨b, off, cs, T, fz, e', _⟩
      · simpa [svs] using h
      · simp at e'
    subst hl
    exact h _ c w (.refl ..) (OwS.none_strs ..)
  · refine AllocC.col c i fun b c1 w1 h1 hb hnew => ?_
    refine app_strs slStr (OwS.some_strs hb) (hr.mono h1.fresh.wv) (by simpa using hn) fun o2 p2 c2 w2 h2 ho2 => TSl.mk ?_
    rw [List.nil_append] at ho2 ⊢
    exact h _ c2 w2 (h2.stepNew h1.fresh (by simp) fun b' e => by simp [Value.ownBlock] at e; exact e ▸ size_le_of_none hnew) ho2
end Go.Proofs.Ytfploingelmpkaa
namespace Go.Vc
open Go
def mV (k : Int) (v : Nat) : MsgR := ⟨k, 0, 0, v, 0, 0, 0, List.replicate 32 0, 0, 0, OpR.zero, AnsR.zero, [], []⟩
theorem mV_ok {k : Int} {v : Nat} (h : v < 18446744073709551616) : (mV k v).ok := by unfold MsgR.ok mV; simp; exact h
def u64P (_ : View) (n : Nat) (es : List Value) : Prop := es = [u64v n] ∧ n < 18446744073709551616
theorem u64_go {c c' : Nat → Nat} {w w' : World} {W N : List Nat} {v : Value} {l : List Nat} (t : LsV u64P 1 (view c 0 w) v l) (st : Step c W N w c' w') (h0 : 0 ∉ W) : LsV u64P 1 (view c' 0 w') v l :=
  LsV.mono' (P := u64P) (h := view c 0 w) (h' := view c' 0 w') (fun a es hp => hp) t (st.sub h0)
end Go.Vc
namespace Go.Proofs.Ytfploingelmpkaa
open Go.Vc
attribute [local irreducible] TInt TBool TStr TPtr TSl TAgg TMap TChan T2 T3 T4 BS Req TSome TCell TByte LoadC LoadA StoreC AllocC RunV RunU CallV ExtV EqA StableC StableA StableV TCells ReadV
attribute [local irreducible] DrewC
theorem mVV (h : View) (k : Int) (v : Nat) : MsgV h (mV k v) nilV nilV nilV nilV nilV := ⟨RdS.none_bytes .., ⟨RdS.none_bytes .., RdS.none_strs ..⟩, LsV.nil .., LsV.nil ..⟩
end Go.Proofs.Ytfploingelmpkaa

/-
  Several texts in one: Many, MsgD, Msg1, Msg2, Msg3, Msg4, Msg5, MsgE, MsgF, MsgG, MsgH.
-/
import Derived.Test.YtdjgdcafmfheoaaDoorEyeX
import Derived.Test.YtdjgdcafmfheoaaDoorOpM
import Derived.Test.YtdjgdcafmfheoaaDoorShM
import Derived.Test.YtdjgdcafmfheoaaDoorHpM
import Derived.Test.YtdjgdcafmfheoaaDoorGenWire
import Derived.Test.YtdjgdcafmfheoaaDoorArM
set_option linter.unusedVariables false
set_option linter.unusedSimpArgs false
namespace Go.Vc
section
variable {α : Type}
def many (f : List UInt8 → α × List UInt8 × Int) : Nat → List UInt8 → List α × List UInt8 × Int
  | 0, l => ([], l, 0)
  | m + 1, l => ((many f m l).1 ++ [(f (many f m l).2.1).1], (f (many f m l).2.1).2.1, (many f m l).2.2 + (f (many f m l).2.1).2.2)
theorem many_length (f : List UInt8 → α × List UInt8 × Int) (m : Nat) (l : List UInt8) : (many f m l).1.length = m := by
  induction m with
  | zero => rfl
  | succ m ih => simp [many, ih]
variable {f : List UInt8 → α × List UInt8 × Int} {g : α → List UInt8} {good : α → Prop}
theorem many_code (hf : ∀ l, 0 ≤ (f l).2.2) (m : Nat) (l : List UInt8) : 0 ≤ (many f m l).2.2 := by
  induction m with
  | zero => simp [many]
  | succ m ih => have := hf (many f m l).2.1; simp only [many]; omega
theorem many_mono (hf : ∀ l, 0 ≤ (f l).2.2) {i k : Nat} (h : i ≤ k) (l : List UInt8) : (many f i l).2.2 ≤ (many f k l).2.2 := by
  induction k with
  | zero => rw [Nat.le_zero.1 h]; exact Int.le_refl _
  | succ k ih =>
    rcases Nat.lt_or_ge i (k + 1) with h' | h'
    · have := ih (by omega)
      have h2 := hf (many f k l).2.1
      simp only [many]; omega
    · rw [Nat.le_antisymm h h']; exact Int.le_refl _
theorem many_rest (hf : ∀ l, (f l).2.1.length ≤ l.length) (m : Nat) (l : List UInt8) : (many f m l).2.1.length ≤ l.length := by
  induction m with
  | zero => simp [many]
  | succ m ih => have := hf (many f m l).2.1; simp only [many]; omega
theorem many_good (hf : ∀ l, good (f l).1) (m : Nat) (l : List UInt8) : ∀ a ∈ (many f m l).1, good a := by
  induction m with
  | zero => simp [many]
  | succ m ih =>
    simp only [many, List.mem_append, List.mem_singleton]
    rintro a (h | rfl)
    · exact ih a h
    · exact hf _
theorem many_ok (hf : ∀ l, 0 ≤ (f l).2.2) (hg : ∀ l, (f l).2.2 = 0 → l = g (f l).1 ++ (f l).2.1) (m : Nat) (l : List UInt8) (h : (many f m l).2.2 = 0) : l = (many f m l).1.flatMap g ++ (many f m l).2.1 := by
  induction m with
  | zero => simp [many]
  | succ m ih =>
    simp only [many] at h ⊢
    have h1 := many_code hf m l
    have h2 := hf (many f m l).2.1
    have e1 := ih (by omega)
    have e2 := hg (many f m l).2.1 (by omega)
    rw [List.flatMap_append, List.append_assoc]
    simp only [List.flatMap_cons, List.flatMap_nil, List.append_nil]
    rw [← e2]; exact e1
theorem many_enc (hg : ∀ a r, good a → f (g a ++ r) = (a, r, 0)) : ∀ (al : List α) (r : List UInt8), (∀ a ∈ al, good a) → many f al.length (al.flatMap g ++ r) = (al, r, 0) := by
  have key : ∀ k, ∀ (al : List α) (r : List UInt8), al.length = k → (∀ a ∈ al, good a) → many f k (al.flatMap g ++ r) = (al, r, 0) := by
    intro k
    induction k with
    | zero => intro al r hl _; rw [List.eq_nil_of_length_eq_zero hl]; simp [many]
    | succ k ih =>
      intro al r hl h
      obtain ⟨ms, s, rfl⟩ : ∃ ms s, al = ms ++ [s] := ⟨al.dropLast, al.getLast (by intro e; simp [e] at hl), (List.dropLast_concat_getLast _).symm⟩
      have h1 : (ms ++ [s]).flatMap g ++ r = ms.flatMap g ++ (g s ++ r) := by simp
      rw [h1]
      simp only [many]
      rw [ih ms (g s ++ r) (by simpa using hl) (fun x hx => h x (by simp [hx]))]
      simp only
      rw [hg s r (h s (by simp))]
      simp
  exact fun al r h => key _ al r rfl h
end
end Go.Vc
set_option linter.unusedVariables false
set_option linter.unusedSimpArgs false
namespace Go.Vc
open Go
structure MsgR where
  kind : Int
  fr : Int
  to : Int
  view : Nat
  normal : Nat
  gen : Nat
  commit : Nat
  head : List UInt8
  client : Int
  number : Nat
  op : OpR
  ans : AnsR
  hashes : List (List UInt8)
  blocks : List (List UInt8)
def u64v (n : Nat) : Value := .int .u64 (n : Int)
/-- its 53 cells -/
def MsgR.cells (m : MsgR) (v va ua vh vb : Value) : List Value :=
  [.int .i64 m.kind, .int .i64 m.fr, .int .i64 m.to, u64v m.view, u64v m.normal, u64v m.gen, u64v m.commit] ++ bvs m.head ++ [.int .i64 m.client, u64v m.number] ++ m.op.cells v ++ m.ans.cells va ua ++ [vh, vb]
def MsgR.zero : MsgR := ⟨0, 0, 0, 0, 0, 0, 0, List.replicate 32 0, 0, 0, OpR.zero, AnsR.zero, [], []⟩
/-- what every value of the type is -/
def MsgR.ok (m : MsgR) : Prop := m.view < 18446744073709551616 ∧ m.normal < 18446744073709551616 ∧ m.gen < 18446744073709551616 ∧ m.commit < 18446744073709551616 ∧ m.number < 18446744073709551616 ∧ m.head.length = 32 ∧ ∀ h ∈ m.hashes, h.length = 32
/-- what is right -/
def MsgR.right (m : MsgR) : Prop :=
  1 ≤ m.kind ∧ m.kind ≤ 8 ∧ 0 ≤ m.fr ∧ m.fr ≤ 255 ∧ 0 ≤ m.to ∧ m.to ≤ 255 ∧ m.hashes.length ≤ 16 ∧ m.blocks.length ≤ 64 ∧ (∀ b ∈ m.blocks, b.length ≤ 470) ∧
  (if m.kind = 1 then 0 ≤ m.client ∧ m.client ≤ 3 ∧ 0 < m.number ∧ m.op.right ∧ m.ans = AnsR.zero
   else if m.kind = 2 then 0 ≤ m.client ∧ m.client ≤ 3 ∧ 0 < m.number ∧ m.op = OpR.zero ∧ m.ans.right
   else m.client = 0 ∧ m.number = 0 ∧ m.op = OpR.zero ∧ m.ans = AnsR.zero)
def MsgR.opB (m : MsgR) : List UInt8 := if m.kind = 1 then m.op.enc else []
def MsgR.ansB (m : MsgR) : List UInt8 := if m.kind = 2 then m.ans.enc else []
def MsgR.body (m : MsgR) : List UInt8 :=
  [3, byteAt m.kind.toNat 0, byteAt m.fr.toNat 0, byteAt m.to.toNat 0] ++ be m.view 8 ++ be m.normal 8 ++ be m.gen 8 ++ be m.commit 8 ++ m.head ++ be m.client.toNat 1 ++ be m.number 8 ++
  txt m.opB ++ txt m.ansB ++ be m.hashes.length 1 ++ m.hashes.flatten ++ be m.blocks.length 1 ++ m.blocks.flatMap txt
def MsgR.enc (m : MsgR) : List UInt8 := m.body ++ (shaB m.body).take 8
/-- how it lies -/
def HashP (h : View) (l : List UInt8) (es : List Value) : Prop := es = bvs l ∧ l.length = 32
end Go.Vc
set_option linter.unusedVariables false
set_option linter.unusedSimpArgs false
namespace Go.Proofs.YtdjgdcafmfheoaaDoor
open Go.Vc
attribute [local irreducible] TInt TBool TStr TPtr TSl TAgg TMap TChan T2 T3 T4 BS Req TSome TCell TByte LoadC LoadA StoreC AllocC RunV RunU CallV ExtV EqA StableC StableA StableV TCells ReadV
attribute [local irreducible] DrewC
structure MsgV (h : View) (m : MsgR) (v va ua vh vb : Value) : Prop where
  op : OpRV h m.op v
  ans : AnsV h m.ans va ua
  hs : LsV HashP 32 h vh m.hashes
  bs : BlsV h vb m.blocks
theorem MsgV.mono {h h' : View} {m : MsgR} {v va ua vh vb : Value} (H : MsgV h m v va ua vh vb) (hs : Sub h h') : MsgV h' m v va ua vh vb :=
  ⟨RdS.mono H.op hs, H.ans.mono hs, by obtain ⟨xs, hr, hx⟩ := H.hs; exact ⟨xs, hr.mono hs, fun i a hi => hx i a hi⟩, H.bs.mono hs⟩
theorem str_nil : (⟨#[]⟩ : ByteArray) = strOf [] := rfl

theorem zeroOp_c (c : Nat → Nat) (j : Nat) {w : World} {o : OpR} {v : Value} {R : Value → World → Prop} (hv : OpRV (wv w) o v)
    (h : ∀ b c' w', Step c [] [j] w c' w' → (b = true ↔ o = OpR.zero) → R (.bool b) w') : CallV Tryd.prog 86 #[.agg (o.cells v).toArray] w R := by
  obtain ⟨ov, cv, rfl⟩ := RdS.form hv
  refine wire_zeroOp_vc ?_
  unfold wire_zeroOp_VC
  refine AllocC.col c j fun a c1 w1 st1 b1 _ => ?_
  have fin := fun b => h b c1 w1 st1.fresh
  refine LoadC.ad (view_sub _ _ _) _ b1 rfl (TInt.mk (BS.eq (fun h0 => ?_) (fun h0 => fin false ⟨fun e => by simp at e, fun e => absurd (by rw [e]; rfl) h0⟩)))
  refine LoadC.ad (view_sub _ _ _) _ b1 rfl (TStr.mk ?_)
  rw [str_nil, strEq_of]
  refine BS.dec (fun h1 => ?_) (fun h1 => fin false ⟨fun e => by simp at e, fun e => absurd (by rw [e]; rfl) h1⟩)
  refine LoadC.ad (view_sub _ _ _) _ b1 rfl (TStr.mk ?_)
  rw [strEq_of]
  refine BS.dec (fun h2 => ?_) (fun h2 => fin false ⟨fun e => by simp at e, fun e => absurd (by rw [e]; rfl) h2⟩)
  refine LoadC.ad (view_sub _ _ _) _ b1 rfl (TInt.mk (BS.eq (fun h3 => ?_) (fun h3 => fin false ⟨fun e => by simp at e, fun e => absurd (by rw [e]; rfl) h3⟩)))
  refine LoadC.ad (view_sub _ _ _) _ b1 rfl (TInt.mk (BS.eq (fun h4 => ?_) (fun h4 => fin false ⟨fun e => by simp at e, fun e => absurd (by rw [e]; rfl) h4⟩)))
  refine LoadC.ad (view_sub _ _ _) _ b1 rfl (TSl.mk (fin _ ?_))
  constructor
  · intro e
    have h5 : o.data = [] := List.eq_nil_of_length_eq_zero (by simpa using e)
    obtain ⟨k, p, t, f, n, d⟩ := o
    simp only at h0 h1 h2 h3 h4 h5
    subst h0; subst h1; subst h2; subst h3; subst h4; subst h5
    rfl
  · rintro rfl; rfl
theorem zeroAns_c (c : Nat → Nat) (j : Nat) {w : World} {a : AnsR} {v u : Value} {R : Value → World → Prop} (hv : AnsV (wv w) a v u)
    (h : ∀ b c' w', Step c [] [j] w c' w' → (b = true ↔ a = AnsR.zero) → R (.bool b) w') : CallV Tryd.prog 84 #[.agg (a.cells v u).toArray] w R := by
  obtain ⟨ov, cv, rfl⟩ := hv.d.form
  obtain ⟨ou, cu, rfl⟩ := hv.n.form
  refine wire_zeroAnswer_vc ?_
  unfold wire_zeroAnswer_VC
  refine AllocC.col c j fun x c1 w1 st1 b1 _ => ?_
  have fin := fun b => h b c1 w1 st1.fresh
  refine LoadC.ad (view_sub _ _ _) _ b1 rfl (TInt.mk (BS.eq (fun h0 => ?_) (fun h0 => fin false ⟨fun e => by simp at e, fun e => absurd (by rw [e]; rfl) h0⟩)))
  refine LoadC.ad (view_sub _ _ _) _ b1 rfl (TInt.mk (BS.eq (fun h1 => ?_) (fun h1 => fin false ⟨fun e => by simp at e, fun e => absurd (by rw [e]; rfl) h1⟩)))
  refine LoadC.ad (view_sub _ _ _) _ b1 rfl (TSl.mk (BS.eq (fun h2 => ?_) (fun h2 => fin false ⟨fun e => by simp at e, fun e => absurd (by rw [e]; rfl) h2⟩)))
  refine LoadC.ad (view_sub _ _ _) _ b1 rfl (TSl.mk (fin _ ?_))
  constructor
  · intro e
    have h3 : a.names = [] := List.eq_nil_of_length_eq_zero (by simpa using e)
    have h5 : a.data = [] := List.eq_nil_of_length_eq_zero (by omega)
    obtain ⟨k, n, d, ns⟩ := a
    simp only at h0 h1 h5 h3
    subst h0; subst h1; subst h5; subst h3
    rfl
  · rintro rfl; rfl

theorem msg_get {m : MsgR} {v va ua vh vb : Value} (h32 : m.head.length = 32) : (m.cells v va ua vh vb).length = 53 := by
  simp [MsgR.cells, h32, OpR.cells, AnsR.cells]
/-- a piece of a message's cells -/
theorem msg_part {m : MsgR} {v va ua vh vb : Value} (h32 : m.head.length = 32) : ((m.cells v va ua vh vb).drop 39).take 8 = [.int .i64 m.client, u64v m.number] ++ m.op.cells v ∧ ((m.cells v va ua vh vb).drop 47).take 4 = m.ans.cells va ua := by
  have e : m.cells v va ua vh vb = ([.int .i64 m.kind, .int .i64 m.fr, .int .i64 m.to, u64v m.view, u64v m.normal, u64v m.gen, u64v m.commit] ++ bvs m.head) ++ (([.int .i64 m.client, u64v m.number] ++ m.op.cells v) ++ (m.ans.cells va ua ++ [vh, vb])) := by
    unfold MsgR.cells; simp
  have l1 : ([.int .i64 m.kind, .int .i64 m.fr, .int .i64 m.to, u64v m.view, u64v m.normal, u64v m.gen, u64v m.commit] ++ bvs m.head : List Value).length = 39 := by simp [h32]
  have l2 : ([.int .i64 m.client, u64v m.number] ++ m.op.cells v : List Value).length = 8 := by simp [OpR.cells]
  have l3 : (m.ans.cells va ua).length = 4 := by simp [AnsR.cells]
  rw [e]
  generalize ([.int .i64 m.kind, .int .i64 m.fr, .int .i64 m.to, u64v m.view, u64v m.normal, u64v m.gen, u64v m.commit] ++ bvs m.head : List Value) = A at *
  generalize ([.int .i64 m.client, u64v m.number] ++ m.op.cells v : List Value) = B at *
  generalize m.ans.cells va ua = C at *
  refine ⟨?_, ?_⟩
  · rw [← l1, List.drop_left, ← l2, List.take_left]
  · rw [show 47 = (A ++ B).length by simp [l1, l2], ← List.append_assoc A B, List.drop_left, ← l3, List.take_left]
end Go.Proofs.YtdjgdcafmfheoaaDoor
set_option linter.unusedVariables false
set_option linter.unusedSimpArgs false
namespace Go.Vc
open Go
theorem part_get {cs es : List Value} {k n : Nat} (h : (cs.drop k).take n = es) (j : Nat) (u : Value) (hu : es[j]? = some u) : cs.toArray[k + j]? = some u := by
  rw [← h, List.getElem?_take] at hu
  split at hu
  · rw [List.getElem?_drop] at hu
    rw [List.getElem?_toArray]; exact hu
  · simp at hu
/-- the three that are handed back -/
def txOp (m : MsgR) : List UInt8 := if m.kind = 1 then (wrOp m.op).1 else []
def txAns (m : MsgR) : List UInt8 := if m.kind = 1 then [] else if m.kind = 2 then (wrAns m.ans).1 else []
def txOk (m : MsgR) : Prop :=
  if m.kind = 1 then 0 ≤ m.client ∧ m.client < 4 ∧ 0 < m.number ∧ m.ans = AnsR.zero ∧ m.op.right
  else if m.kind = 2 then 0 ≤ m.client ∧ m.client < 4 ∧ 0 < m.number ∧ m.op = OpR.zero ∧ m.ans.right
  else m.client = 0 ∧ m.number = 0 ∧ m.op = OpR.zero ∧ m.ans = AnsR.zero
end Go.Vc
namespace Go.Proofs.YtdjgdcafmfheoaaDoor
open Go.Vc
attribute [local irreducible] TInt TBool TStr TPtr TSl TAgg TMap TChan T2 T3 T4 BS Req TSome TCell TByte LoadC LoadA StoreC AllocC RunV RunU CallV ExtV EqA StableC StableA StableV TCells ReadV
attribute [local irreducible] DrewC

theorem k6_c {o2 o3 : Option Addr} {k2 k2' k3 k3' : Nat} {b4 : Bool} {n7 n8 : Int} {w : World} {R : Value → World → Prop} (h : R (.tuple #[.slice o2 k2 k2', .slice o3 k3 k3', .bool (b4 && (n7 == 0) && (n8 == 0))]) w) : wire_texts_K6 o2 k2 k2' o3 k3 k3' b4 n7 n8 w R := by
  unfold wire_texts_K6
  cases b4
  · exact BS.no rfl h
  · refine BS.yes rfl ?_
    refine BS.mk (fun e => ?_) (fun e => ?_)
    · rw [e] at h; exact h
    · rw [e] at h; exact h
theorem texts_c (c : Nat → Nat) (j : Nat) {w : World} {m : MsgR} {v va ua vh vb : Value} {R : Value → World → Prop} (hm : MsgV (wv w) m v va ua vh vb) (hok : m.ok)
    (h : ∀ vo vA b c' w', Step c [] [j] w c' w' → OwS (view c' j w') vo 5 1 (txOp m).length (bvs (txOp m)) → OwS (view c' j w') vA 5 1 (txAns m).length (bvs (txAns m)) → (b = true ↔ txOk m) → R (.tuple #[vo, vA, .bool b]) w') :
    CallV Tryd.prog 46 #[.agg (m.cells v va ua vh vb).toArray] w R := by
  have h32 := hok.2.2.2.2.2.1
  obtain ⟨ov, cv, rfl⟩ := RdS.form hm.op
  obtain ⟨oa, ca, rfl⟩ := hm.ans.d.form
  obtain ⟨ou, cu, rfl⟩ := hm.ans.n.form
  have M : MsgV (view (fun _ => 0) 0 w) m (.slice ov m.op.data.length cv) (.slice oa m.ans.data.length ca) (.slice ou m.ans.names.length cu) vh vb := by rw [view0]; exact hm
  obtain ⟨q1, q2⟩ := msg_part (m := m) (v := .slice ov m.op.data.length cv) (va := .slice oa m.ans.data.length ca) (ua := .slice ou m.ans.names.length cu) (vh := vh) (vb := vb) h32
  have S := Fr.start w
  refine wire_texts_vc ?_
  unfold wire_texts_VC
  refine AllocC.col (fun _ => 0) 1 fun a1 c1 w1 st1 b1 _ => ?_
  replace S := S.go st1.step (by decide) (by decide); replace M := M.mono (st1.step.sub (by decide))
  refine LoadA.part (k := 39) (view_sub _ _ _) b1 (es := [.int .i64 m.client, u64v m.number] ++ m.op.cells (.slice ov m.op.data.length cv)) (by simp [OpR.cells]) (part_get q1) ?_
  refine AllocC.col c1 2 fun a5 c2 w2 st2 b2 _ => ?_
  replace S := S.go st2.step (by decide) (by decide); replace M := M.mono (st2.step.sub (by decide)); replace b1 := st2.step.sub (by decide) _ _ b1
  refine RunU.var b2 (by kernel_rfl) rfl (by simp [Value.oneCell', OpR.cells, sv, u64v]) fun w3 st3 b3 => ?_
  replace S := S.go st3.step (by decide) (by decide); replace M := M.mono (st3.step.sub (by decide)); replace b1 := st3.step.sub (by decide) _ _ b1
  have lz : ∀ (h' : View), OwS h' (.slice none 0 0) 5 1 ([] : List UInt8).length (bvs []) := fun h' => OwS.none_bytes ..
  have key : ∀ bcl : Bool, (bcl = true ↔ (0 ≤ m.client ∧ m.client < 4 ∧ 0 < m.number)) → wire_texts_K2 ⟨a1, 0, none⟩ none 0 0 none 0 0 ⟨a5, 0, none⟩ bcl 0 0 w3 R := fun bcl hcl => by
    unfold wire_texts_K2
    refine LoadC.ad (view_sub _ _ _) _ b1 rfl (TInt.mk ?_)
    unfold wire_texts_K3 wire_texts_K4
    refine BS.eq (fun k1 => ?_) (fun k1 => ?_)
    · have e1 : txOp m = (wrOp m.op).1 := by unfold txOp; rw [if_pos k1]
      have e2 : txAns m = [] := by unfold txAns; rw [if_pos k1]
      have e3 : txOk m ↔ (0 ≤ m.client ∧ m.client < 4 ∧ 0 < m.number ∧ m.ans = AnsR.zero ∧ m.op.right) := by unfold txOk; rw [if_pos k1]
      refine LoadA.part (k := 2) (view_sub _ _ _) b3 (es := m.op.cells (.slice ov m.op.data.length cv)) rfl (part_get (n := 6) rfl) ?_
      refine oper_Write_c c2 3 (RdS.mono M.op (view_sub _ _ _)) fun vo c4 w4 st4 ho => T2.mk ?_
      replace S := S.go st4 (by decide) (by decide); replace M := M.mono (st4.sub (by decide)); replace b1 := st4.sub (by decide) _ _ b1; replace b3 := st4.sub (by decide) _ _ b3
      obtain ⟨oo, po, rfl⟩ := ho.form
      refine TSl.mk (TInt.mk ?_)
      unfold wire_texts_K5
      refine BS.mk (fun hb => ?_) (fun hb => ?_)
      · refine LoadA.part (k := 47) (view_sub _ _ _) b1 (es := m.ans.cells (.slice oa m.ans.data.length ca) (.slice ou m.ans.names.length cu)) rfl (part_get q2) ?_
        refine zeroAns_c c4 4 (M.ans.mono (view_sub _ _ _)) fun b c5 w5 st5 hz => TBool.mk (k6_c ?_)
        replace S := S.go st5 (by decide) (by decide)
        replace ho := ho.mono (st5.sub (by decide))
        refine h _ _ _ _ _ (S.leave c j) (by rw [e1]; exact ho.mono (S.out c j (by omega))) (by rw [e2]; exact lz _) ?_
        rw [e3]
        have := hcl.1 hb
        unfold wrOp
        by_cases hr : m.op.right
        · rw [if_pos hr]; simp [hz, this, hr]
        · rw [if_neg hr]; simp [hr]
      · refine h _ _ false _ _ (S.leave c j) (by rw [e1]; exact ho.mono (S.out c j (by omega))) (by rw [e2]; exact lz _) ⟨fun e => by simp at e, fun e => ?_⟩
        have e := e3.1 e
        have := hcl.2 ⟨e.1, e.2.1, e.2.2.1⟩
        rw [hb] at this; simp at this
    · have e1 : txOp m = [] := by unfold txOp; rw [if_neg k1]
      unfold wire_texts_K7
      refine BS.eq (fun k2 => ?_) (fun k2 => ?_)
      · have e2 : txAns m = (wrAns m.ans).1 := by unfold txAns; rw [if_neg k1, if_pos k2]
        have e3 : txOk m ↔ (0 ≤ m.client ∧ m.client < 4 ∧ 0 < m.number ∧ m.op = OpR.zero ∧ m.ans.right) := by unfold txOk; rw [if_neg k1, if_pos k2]
        refine LoadA.part (k := 47) (view_sub _ _ _) b1 (es := m.ans.cells (.slice oa m.ans.data.length ca) (.slice ou m.ans.names.length cu)) rfl (part_get q2) ?_
        refine WriteAnswer_c c2 3 (M.ans.mono (view_sub _ _ _)) fun vo c4 w4 st4 ho => T2.mk ?_
        replace S := S.go st4 (by decide) (by decide); replace M := M.mono (st4.sub (by decide)); replace b1 := st4.sub (by decide) _ _ b1; replace b3 := st4.sub (by decide) _ _ b3
        obtain ⟨oo, po, rfl⟩ := ho.form
        refine TSl.mk (TInt.mk ?_)
        unfold wire_texts_K8
        refine BS.mk (fun hb => ?_) (fun hb => ?_)
        · refine LoadA.part (k := 2) (view_sub _ _ _) b3 (es := m.op.cells (.slice ov m.op.data.length cv)) rfl (part_get (n := 6) rfl) ?_
          refine zeroOp_c c4 4 (RdS.mono M.op (view_sub _ _ _)) fun b c5 w5 st5 hz => TBool.mk (k6_c ?_)
          replace S := S.go st5 (by decide) (by decide)
          replace ho := ho.mono (st5.sub (by decide))
          refine h _ _ _ _ _ (S.leave c j) (by rw [e1]; exact lz _) (by rw [e2]; exact ho.mono (S.out c j (by omega))) ?_
          rw [e3]
          have := hcl.1 hb
          unfold wrAns
          by_cases hr : m.ans.right
          · rw [if_pos hr]; simp [hz, this, hr]
          · rw [if_neg hr]; simp [hr]
        · refine h _ _ false _ _ (S.leave c j) (by rw [e1]; exact lz _) (by rw [e2]; exact ho.mono (S.out c j (by omega))) ⟨fun e => by simp at e, fun e => ?_⟩
          have e := e3.1 e
          have := hcl.2 ⟨e.1, e.2.1, e.2.2.1⟩
          rw [hb] at this; simp at this
      · have e2 : txAns m = [] := by unfold txAns; rw [if_neg k1, if_neg k2]
        have e3 : txOk m ↔ (m.client = 0 ∧ m.number = 0 ∧ m.op = OpR.zero ∧ m.ans = AnsR.zero) := by unfold txOk; rw [if_neg k1, if_neg k2]
        have no : ∀ {c' w'}, Fr w c' w' → ¬ txOk m → R (.tuple #[.slice none 0 0, .slice none 0 0, .bool false]) w' := fun S hn => h _ _ false _ _ (S.leave c j) (by rw [e1]; exact lz _) (by rw [e2]; exact lz _) ⟨fun e => by simp at e, fun e => absurd e hn⟩
        refine LoadC.ad (view_sub _ _ _) _ b3 rfl (TInt.mk ?_)
        refine BS.eq (fun z0 => ?_) (fun z0 => no S fun e => z0 (e3.1 e).1)
        refine LoadC.ad (view_sub _ _ _) _ b3 rfl (TInt.mk ?_)
        refine BS.eq (fun z1 => ?_) (fun z1 => no S fun e => z1 (by have := (e3.1 e).2.1; omega))
        refine LoadA.part (k := 2) (view_sub _ _ _) b3 (es := m.op.cells (.slice ov m.op.data.length cv)) rfl (part_get (n := 6) rfl) ?_
        refine zeroOp_c c2 4 (RdS.mono M.op (view_sub _ _ _)) fun b c5 w5 st5 hz => TBool.mk ?_
        replace S := S.go st5 (by decide) (by decide); replace M := M.mono (st5.sub (by decide)); replace b1 := st5.sub (by decide) _ _ b1
        refine BS.mk (fun hb => ?_) (fun hb => no S fun e => by have := hz.2 (e3.1 e).2.2.1; rw [hb] at this; simp at this)
        refine LoadA.part (k := 47) (view_sub _ _ _) b1 (es := m.ans.cells (.slice oa m.ans.data.length ca) (.slice ou m.ans.names.length cu)) rfl (part_get q2) ?_
        refine zeroAns_c c5 4 (M.ans.mono (view_sub _ _ _)) fun b2 c6 w6 st6 hz2 => TBool.mk (k6_c ?_)
        replace S := S.go st6 (by decide) (by decide)
        refine h _ _ _ _ _ (S.leave c j) (by rw [e1]; exact lz _) (by rw [e2]; exact lz _) ?_
        rw [e3]
        have := hz.1 hb
        have hn0 : m.number = 0 := by omega
        refine ⟨fun e => ⟨z0, hn0, this, hz2.1 (by simpa using e)⟩, fun e => ?_⟩
        rw [hz2.2 e.2.2.2]; rfl
  refine LoadC.ad (view_sub _ _ _) _ b3 rfl (TInt.mk ?_)
  refine BS.dec (fun g0 => ?_) (fun g0 => key false ⟨fun e => by simp at e, fun e => by omega⟩)
  refine LoadC.ad (view_sub _ _ _) _ b3 rfl (TInt.mk ?_)
  refine BS.dec (fun g1 => ?_) (fun g1 => key false ⟨fun e => by simp at e, fun e => by omega⟩)
  refine LoadC.ad (view_sub _ _ _) _ b3 rfl (TInt.mk ?_)
  unfold wire_texts_K1
  exact key _ ⟨fun e => ⟨g0, g1, by have := of_decide_eq_true e; omega⟩, fun e => decide_eq_true (by omega)⟩
end Go.Proofs.YtdjgdcafmfheoaaDoor
set_option linter.unusedVariables false
set_option linter.unusedSimpArgs false
namespace Go.Proofs.YtdjgdcafmfheoaaDoor
open Go.Vc
attribute [local irreducible] TInt TBool TStr TPtr TSl TAgg TMap TChan T2 T3 T4 BS Req TSome TCell TByte LoadC LoadA StoreC AllocC RunV RunU CallV ExtV EqA StableC StableA StableV TCells ReadV
attribute [local irreducible] DrewC
theorem far_c {n : Int} {w : World} {R : Value → World → Prop} (h : R (.bool (!decide (0 ≤ n ∧ n ≤ 255))) w) : CallV Tryd.prog 47 #[.int .i64 n] w R := by
  refine wire_Write_1_vc ?_
  unfold wire_Write_1_VC
  refine BS.dec (fun h1 => ?_) (fun h1 => ?_)
  · rw [decide_eq_false (by omega)] at h; exact h
  · by_cases h2 : n > 255
    · rw [decide_eq_false (by omega)] at h; rw [decide_eq_true h2]; exact h
    · rw [decide_eq_true (show 0 ≤ n ∧ n ≤ 255 by omega)] at h; rw [decide_eq_false h2]; exact h
theorem long_c {w : World} {v : Value} {l : List (List UInt8)} {R : Value → World → Prop} (hr : BlsV (wv w) v l) (hl : l.length ≤ 1099511627776)
    (h : R (.bool (!decide (∀ b ∈ l, b.length ≤ 470))) w) : CallV Tryd.prog 49 #[v, .func (.func 48) #[] #[]] w R := by
  obtain ⟨o, p, rfl⟩ := LsV.form hr
  refine slices_ContainsFunc_byte_byte_vc ?_
  unfold slices_ContainsFunc_byte_byte_VC
  refine slices_IndexFunc_byte_byte_vc ?_
  unfold slices_IndexFunc_byte_byte_VC
  refine LoopI.up l.length (fun i w1 => w1 = w ∧ ∀ s ∈ l.take i, s.length ≤ 470) ⟨rfl, by simp⟩ ?_
  rintro i _ B hi ⟨rfl, hok⟩ back
  refine BS.dec (fun hlt => ?_) (fun hge => ?_)
  · obtain ⟨s, hs⟩ := get_of_lt (l := l) (i := i) (by omega)
    obtain ⟨es, ⟨vs, rfl, rs⟩, E⟩ := LsV.at (by omega) hr hs
    obtain ⟨os, ps, rfl⟩ := rs.form
    refine Req.bnd ⟨by omega, hlt⟩ (E.ld0 (Sub.refl _) rfl (TSl.mk ?_))
    refine wire_Write_2_vc ?_
    unfold wire_Write_2_VC
    refine TBool.mk ?_
    refine BS.dec (fun hb => ?_) (fun hb => ?_)
    · refine TInt.mk ?_
      have hm : s ∈ l := List.mem_of_getElem? hs
      have : (!decide (∀ b ∈ l, b.length ≤ 470)) = true := by
        simp only [Bool.not_eq_true', decide_eq_false_iff_not]
        exact fun h => by have := h s hm; omega
      rw [this] at h
      rw [decide_eq_true (by omega)]; exact h
    · rw [wrap_i64 (by omega) (by omega)]
      refine back _ (by omega) ⟨rfl, fun x hx => ?_⟩
      rw [List.take_add_one, hs] at hx
      simp only [Option.toList_some, List.mem_append, List.mem_singleton] at hx
      rcases hx with hx | rfl
      · exact hok x hx
      · omega
  · refine TInt.mk ?_
    have : i = l.length := by omega
    subst this
    rw [List.take_length] at hok
    rw [decide_eq_true hok] at h
    exact h
end Go.Proofs.YtdjgdcafmfheoaaDoor
set_option linter.unusedVariables false
set_option linter.unusedSimpArgs false
namespace Go.Vc
open Go
theorem right_iff (m : MsgR) : m.right ↔ txOk m ∧ 1 ≤ m.kind ∧ m.kind ≤ 8 ∧ (0 ≤ m.fr ∧ m.fr ≤ 255) ∧ (0 ≤ m.to ∧ m.to ≤ 255) ∧ m.hashes.length ≤ 16 ∧ m.blocks.length ≤ 64 ∧ ∀ b ∈ m.blocks, b.length ≤ 470 := by
  unfold MsgR.right txOk
  by_cases h1 : m.kind = 1
  · simp only [if_pos h1]
    constructor
    · rintro ⟨a, b, c, d, e, f, g, h, i, j, k, l, n, o⟩; exact ⟨⟨j, by omega, l, o, n⟩, a, b, ⟨c, d⟩, ⟨e, f⟩, g, h, i⟩
    · rintro ⟨⟨j, k, l, o, n⟩, a, b, ⟨c, d⟩, ⟨e, f⟩, g, h, i⟩; exact ⟨a, b, c, d, e, f, g, h, i, j, by omega, l, n, o⟩
  · simp only [if_neg h1]
    by_cases h2 : m.kind = 2
    · simp only [if_pos h2]
      constructor
      · rintro ⟨a, b, c, d, e, f, g, h, i, j, k, l, n, o⟩; exact ⟨⟨j, by omega, l, n, o⟩, a, b, ⟨c, d⟩, ⟨e, f⟩, g, h, i⟩
      · rintro ⟨⟨j, k, l, n, o⟩, a, b, ⟨c, d⟩, ⟨e, f⟩, g, h, i⟩; exact ⟨a, b, c, d, e, f, g, h, i, j, by omega, l, n, o⟩
    · simp only [if_neg h2]
      constructor
      · rintro ⟨a, b, c, d, e, f, g, h, i, j⟩; exact ⟨j, a, b, ⟨c, d⟩, ⟨e, f⟩, g, h, i⟩
      · rintro ⟨j, a, b, ⟨c, d⟩, ⟨e, f⟩, g, h, i⟩; exact ⟨a, b, c, d, e, f, g, h, i, j⟩
end Go.Vc
namespace Go.Proofs.YtdjgdcafmfheoaaDoor
open Go.Vc
attribute [local irreducible] TInt TBool TStr TPtr TSl TAgg TMap TChan T2 T3 T4 BS Req TSome TCell TByte LoadC LoadA StoreC AllocC RunV RunU CallV ExtV EqA StableC StableA StableV TCells ReadV
attribute [local irreducible] DrewC
def MsgR.bytes1 (m : MsgR) : List UInt8 := [3, byteAt m.kind.toNat 0, byteAt m.fr.toNat 0, byteAt m.to.toNat 0]
theorem byte_of {n : Int} (h0 : 0 ≤ n) (h1 : n ≤ 255) : IntKind.wrap .u8 n = ((byteAt n.toNat 0).toNat : Int) := by
  rw [wrap_u8 (by omega) (by omega), byteAt_toNat]; omega
theorem nums_four (a b c d : Nat) {i : Nat} (h : i < 4) : (#[u64v a, u64v b, u64v c, u64v d] : Array Value)[i]? = some (u64v ([a, b, c, d].getD i 0)) := by
  match i, h with
  | 0, _ => rfl
  | 1, _ => rfl
  | 2, _ => rfl
  | 3, _ => rfl
end Go.Proofs.YtdjgdcafmfheoaaDoor
set_option linter.unusedVariables false
set_option linter.unusedSimpArgs false
namespace Go.Vc
open Go
theorem flat_hash {l : List (List UInt8)} (h : ∀ x ∈ l, x.length = 32) (i : Nat) : ((l.take i).flatten).length ≤ 32 * l.length := by
  have key : ∀ l : List (List UInt8), (∀ x ∈ l, x.length = 32) → l.flatten.length = 32 * l.length := by
    intro l
    induction l with
    | nil => simp
    | cons x l ih =>
      intro h
      have := ih (fun y hy => h y (by simp [hy]))
      have := h x (by simp)
      simp only [List.flatten_cons, List.length_append, List.length_cons]; omega
  rw [key _ (fun x hx => h x (List.mem_of_mem_take hx)), List.length_take]
  have := Nat.min_le_right i l.length
  omega
theorem flat_txt {l : List (List UInt8)} {n : Nat} (h : ∀ x ∈ l, x.length ≤ n) (i : Nat) : ((l.take i).flatMap txt).length ≤ (n + 2) * l.length := by
  have key : ∀ l : List (List UInt8), (∀ x ∈ l, x.length ≤ n) → (l.flatMap txt).length ≤ (n + 2) * l.length := by
    intro l
    induction l with
    | nil => simp
    | cons x l ih =>
      intro h
      have h1 := ih (fun y hy => h y (by simp [hy]))
      have h2 := h x (by simp)
      simp only [List.flatMap_cons, List.length_append, List.length_cons, txt_length, Nat.mul_succ]; omega
  refine Nat.le_trans (key _ (fun x hx => h x (List.mem_of_mem_take hx))) (Nat.mul_le_mul_left _ ?_)
  rw [List.length_take]; exact Nat.min_le_right _ _
def be8 (n : Nat) : List UInt8 := be n 8
theorem fl8_len (l : List Nat) : (l.flatMap be8).length = 8 * l.length := by
  induction l with
  | nil => rfl
  | cons x l ih => simp only [List.flatMap_cons, List.length_append, List.length_cons, ih, be8, be_length]; omega
theorem tk8_more {l : List Nat} {i n : Nat} (h : l[i]? = some n) : (l.take (i + 1)).flatMap be8 = (l.take i).flatMap be8 ++ be8 n := by
  rw [List.take_add_one, h, Option.toList_some, List.flatMap_append]; simp
theorem msg_headcells {m : MsgR} {v va ua vh vb : Value} (h32 : m.head.length = 32) (j : Nat) (u : Value) (hu : (bvs m.head)[j]? = some u) : (m.cells v va ua vh vb).toArray[7 + j]? = some u := by
  have hj := lt_of_get hu
  have e : m.cells v va ua vh vb = [.int .i64 m.kind, .int .i64 m.fr, .int .i64 m.to, u64v m.view, u64v m.normal, u64v m.gen, u64v m.commit] ++ (bvs m.head ++ ([.int .i64 m.client, u64v m.number] ++ m.op.cells v ++ m.ans.cells va ua ++ [vh, vb])) := by
    unfold MsgR.cells; simp
  rw [List.getElem?_toArray, e, List.getElem?_append_right (by simp)]
  rw [show 7 + j - ([.int .i64 m.kind, .int .i64 m.fr, .int .i64 m.to, u64v m.view, u64v m.normal, u64v m.gen, u64v m.commit] : List Value).length = j by simp]
  rw [List.getElem?_append_left hj]; exact hu
theorem nums_at {m : MsgR} (hok : m.ok) {i : Nat} (h : i < 4) : ([m.view, m.normal, m.gen, m.commit].getD i 0) < 18446744073709551616 ∧ [m.view, m.normal, m.gen, m.commit][i]? = some ([m.view, m.normal, m.gen, m.commit].getD i 0) := by
  obtain ⟨q1, q2, q3, q4, _⟩ := hok
  match i, h with
  | 0, _ => exact ⟨q1, rfl⟩
  | 1, _ => exact ⟨q2, rfl⟩
  | 2, _ => exact ⟨q3, rfl⟩
  | 3, _ => exact ⟨q4, rfl⟩
instance (m : MsgR) : Decidable m.right := by unfold MsgR.right; infer_instance
def wrM (m : MsgR) : List UInt8 × Int := if m.right then (m.enc, 0) else ([], 1)
end Go.Vc
namespace Go.Proofs.YtdjgdcafmfheoaaDoor
open Go.Vc
attribute [local irreducible] TInt TBool TStr TPtr TSl TAgg TMap TChan T2 T3 T4 BS Req TSome TCell TByte LoadC LoadA StoreC AllocC RunV RunU CallV ExtV EqA StableC StableA StableV TCells ReadV
attribute [local irreducible] DrewC
/-- wire.Write under way: l is what the pen has -/
def WrS (w0 : World) (m : MsgR) (v va ua vh vb vo vA : Value) (a1 ap : Nat) (l : List UInt8) (w' : World) : Prop :=
  ∃ c', Fr w0 c' w' ∧ GlobS (view c' 0 w') ∧ MsgV (view c' 0 w') m v va ua vh vb ∧ view c' 1 w' a1 = some (.cells (m.cells v va ua vh vb).toArray 38 (0, 0)) ∧
    OwS (view c' 2 w') vo 5 1 (txOp m).length (bvs (txOp m)) ∧ OwS (view c' 2 w') vA 5 1 (txAns m).length (bvs (txAns m)) ∧ PenV (view c' 4 w') ⟨ap, 0, none⟩ l
section
variable {w0 : World} {m : MsgR} {v va ua vh vb vo vA : Value} {a1 ap : Nat} {l : List UInt8} {w : World} {R : Value → World → Prop}
theorem WrS.pen (H : WrS w0 m v va ua vh vb vo vA a1 ap l w) {R : World → Prop} (h : ∀ c, PenV (view c 4 w) ⟨ap, 0, none⟩ l → GlobS (view c 0 w) → MsgV (view c 0 w) m v va ua vh vb → OwS (view c 2 w) vo 5 1 (txOp m).length (bvs (txOp m)) → OwS (view c 2 w) vA 5 1 (txAns m).length (bvs (txAns m)) →
    (∀ (l' : List UInt8) c' w', Step c [4] [0, 4, 5, 6, 7, 8] w c' w' → PenV (view c' 4 w') ⟨ap, 0, none⟩ l' → WrS w0 m v va ua vh vb vo vA a1 ap l' w') → R w) : R w := by
  obtain ⟨c, S, G, M, b1, ho, hA, P⟩ := H
  exact h c P G M ho hA fun l' c' w' st P => ⟨c', S.go st (by decide) (by decide), G.mono (st.sub (by decide)), M.mono (st.sub (by decide)), st.sub (by decide) _ _ b1, ho.mono (st.sub (by decide)), hA.mono (st.sub (by decide)), P⟩
theorem WrS.ld (H : WrS w0 m v va ua vh vb vo vA a1 ap l w) {k : Nat} (u : Value) {C : Value → Prop} (hu : (m.cells v va ua vh vb).toArray[k]? = some u) (hC : C u) : LoadC w ((⟨a1, 0, none⟩ : Addr).add k) C := by
  obtain ⟨c, S, G, M, b1, ho, hA, P⟩ := H
  exact LoadC.ad (view_sub _ _ _) _ b1 hu hC
theorem WrS.U (H : WrS w0 m v va ua vh vb vo vA a1 ap l w) (x k : Nat) {n s : Int} (hn : n = x) (hs : s = k) (h1 : 1 ≤ k) (h8 : k ≤ 8) (hv : x < 256 ^ k) (hm : l.length ≤ 70368744177664)
    (h : ∀ w', WrS w0 m v va ua vh vb vo vA a1 ap (l ++ be x k) w' → R (.int .i64 0) w') : CallV Tryd.prog 51 #[.pointer (some ⟨ap, 0, none⟩), .int .u64 n, .int .i64 s] w R :=
  H.pen (R := fun w => CallV Tryd.prog 51 #[.pointer (some ⟨ap, 0, none⟩), .int .u64 n, .int .i64 s] w R) fun c P G M ho hA back => Pen_U P x k hn hs h1 h8 hv hm fun c' w' st P => h w' (back _ c' w' (st.weak (by decide) (by decide)) P)
theorem WrS.raw (H : WrS w0 m v va ua vh vb vo vA a1 ap l w) {x : Value} {n : Nat} {ys : List UInt8} (hr : RdS (wv w) x 1 n (bvs ys)) (hm : l.length + n ≤ 140737488355328)
    (h : ∀ w', WrS w0 m v va ua vh vb vo vA a1 ap (l ++ ys) w' → R (.tuple #[]) w') : CallV Tryd.prog 50 #[.pointer (some ⟨ap, 0, none⟩), x] w R :=
  H.pen (R := fun w => RdS (wv w) x 1 n (bvs ys) → CallV Tryd.prog 50 #[.pointer (some ⟨ap, 0, none⟩), x] w R) (fun c P G M ho hA back hr => Pen_Raw P hr hm fun c' w' st P => h w' (back _ c' w' (st.weak (by decide) (by decide)) P)) hr
theorem WrS.top (H : WrS w0 m v va ua vh vb vo vA a1 ap l w) (hm : l.length ≤ 70368744177664) (ht : (txOp m).length < 65536)
    (h : ∀ w', WrS w0 m v va ua vh vb vo vA a1 ap (l ++ txt (txOp m)) w' → R (.int .i64 0) w') : CallV Tryd.prog 52 #[.pointer (some ⟨ap, 0, none⟩), vo] w R :=
  H.pen (R := fun w => CallV Tryd.prog 52 #[.pointer (some ⟨ap, 0, none⟩), vo] w R) fun c P G M ho hA back => Pen_T P 2 (by omega) ho.rd ht hm fun c' w' st P => h w' (back _ c' w' (st.weak (by decide) (by decide)) P)
theorem WrS.tan (H : WrS w0 m v va ua vh vb vo vA a1 ap l w) (hm : l.length ≤ 70368744177664) (ht : (txAns m).length < 65536)
    (h : ∀ w', WrS w0 m v va ua vh vb vo vA a1 ap (l ++ txt (txAns m)) w' → R (.int .i64 0) w') : CallV Tryd.prog 52 #[.pointer (some ⟨ap, 0, none⟩), vA] w R :=
  H.pen (R := fun w => CallV Tryd.prog 52 #[.pointer (some ⟨ap, 0, none⟩), vA] w R) fun c P G M ho hA back => Pen_T P 2 (by omega) hA.rd ht hm fun c' w' st P => h w' (back _ c' w' (st.weak (by decide) (by decide)) P)
end
set_option maxHeartbeats 1000000 in
theorem wire_Write_c (c : Nat → Nat) (j : Nat) {w : World} {m : MsgR} {v va ua vh vb : Value} {R : Value → World → Prop} (hm : MsgV (wv w) m v va ua vh vb) (hok : m.ok) (hG : GlobS (wv w))
    (h : ∀ r c' w', Step c [] [j] w c' w' → OwS (view c' j w') r 5 1 (wrM m).1.length (bvs (wrM m).1) → R (.tuple #[r, .int .i64 (wrM m).2]) w') :
    CallV Tryd.prog 16 #[.agg (m.cells v va ua vh vb).toArray] w R := by
  have h32 := hok.2.2.2.2.2.1
  have h53 := msg_get (m := m) (v := v) (va := va) (ua := ua) (vh := vh) (vb := vb) h32
  obtain ⟨oh, ph, rfl⟩ := LsV.form hm.hs
  obtain ⟨ob, pb, rfl⟩ := LsV.form hm.bs
  have M : MsgV (view (fun _ => 0) 0 w) m v va ua (.slice oh m.hashes.length ph) (.slice ob m.blocks.length pb) := by rw [view0]; exact hm
  have G : GlobS (view (fun _ => 0) 0 w) := by rw [view0]; exact hG
  have S := Fr.start w
  refine wire_Write_vc ?_
  unfold wire_Write_VC
  refine AllocC.col (fun _ => 0) 1 fun a1 c1 w1 st1 b1 _ => ?_
  replace S := S.go st1.step (by decide) (by decide); replace M := M.mono (st1.step.sub (by decide)); replace G := G.mono (st1.step.sub (by decide))
  refine LoadA.all (view_sub _ _ _) b1 (by simp [h53]) ?_
  refine texts_c c1 2 (M.mono (view_sub _ _ _)) hok fun vo vA bo c2 w2 st2 ho hA hbo => T3.mk ?_
  replace S := S.go st2 (by decide) (by decide); replace M := M.mono (st2.sub (by decide)); replace G := G.mono (st2.sub (by decide)); replace b1 := st2.sub (by decide) _ _ b1
  obtain ⟨oo, po, rfl⟩ := ho.form
  obtain ⟨oA, pA, rfl⟩ := hA.form
  have bad : ∀ {c' w'}, Fr w c' w' → ¬ m.right → R (.tuple #[.slice none 0 0, .int .i64 1]) w' := fun S hn => by
    have := h (.slice none 0 0) _ _ (S.leave c j)
    have e : wrM m = ([], 1) := by unfold wrM; rw [if_neg hn]
    rw [e] at this
    exact this (OwS.none_bytes ..)
  have ri := right_iff m
  refine TSl.mk (TSl.mk (TBool.mk ?_))
  refine BS.nb (fun hb0 => bad S fun hr => by have := hbo.2 (ri.1 hr).1; rw [hb0] at this; simp at this) (fun hb1 => ?_)
  have t1 := hbo.1 hb1
  refine LoadC.ad (view_sub _ _ _) _ b1 rfl (TInt.mk ?_)
  refine BS.dec (fun hx => bad S fun hr => by have := (ri.1 hr).2.1; omega) (fun t2 => ?_)
  refine LoadC.ad (view_sub _ _ _) _ b1 rfl (TInt.mk ?_)
  refine BS.dec (fun hx => bad S fun hr => by have := (ri.1 hr).2.2.1; omega) (fun t3 => ?_)
  refine LoadC.ad (view_sub _ _ _) _ b1 rfl (TInt.mk ?_)
  refine far_c (TBool.mk (BS.ndec (fun hx => bad S fun hr => hx (ri.1 hr).2.2.2.1) (fun t4 => ?_)))
  refine LoadC.ad (view_sub _ _ _) _ b1 rfl (TInt.mk ?_)
  refine far_c (TBool.mk (BS.ndec (fun hx => bad S fun hr => hx (ri.1 hr).2.2.2.2.1) (fun t5 => ?_)))
  have tail1 := part_get (cs := m.cells v va ua (.slice oh m.hashes.length ph) (.slice ob m.blocks.length pb)) (k := 51) (n := 2) (es := [.slice oh m.hashes.length ph, .slice ob m.blocks.length pb])
    (by
      have e : m.cells v va ua (.slice oh m.hashes.length ph) (.slice ob m.blocks.length pb) = (([.int .i64 m.kind, .int .i64 m.fr, .int .i64 m.to, u64v m.view, u64v m.normal, u64v m.gen, u64v m.commit] ++ bvs m.head ++ [.int .i64 m.client, u64v m.number] ++ m.op.cells v ++ m.ans.cells va ua)) ++ [.slice oh m.hashes.length ph, .slice ob m.blocks.length pb] := rfl
      have l1 : (([.int .i64 m.kind, .int .i64 m.fr, .int .i64 m.to, u64v m.view, u64v m.normal, u64v m.gen, u64v m.commit] ++ bvs m.head ++ [.int .i64 m.client, u64v m.number] ++ m.op.cells v ++ m.ans.cells va ua) : List Value).length = 51 := by simp [h32, OpR.cells, AnsR.cells]
      rw [e, ← l1, List.drop_left]; rfl)
  have x51 := tail1 0 _ rfl
  have x52 := tail1 1 _ rfl
  refine LoadC.ad (view_sub _ _ _) _ b1 x51 (TSl.mk ?_)
  refine BS.dec (fun hx => bad S fun hr => by have := (ri.1 hr).2.2.2.2.2.1; omega) (fun t6 => ?_)
  refine LoadC.ad (view_sub _ _ _) _ b1 x52 (TSl.mk ?_)
  refine BS.dec (fun hx => bad S fun hr => by have := (ri.1 hr).2.2.2.2.2.2.1; omega) (fun t7 => ?_)
  refine LoadC.ad (view_sub _ _ _) _ b1 x52 (TSl.mk ?_)
  refine long_c (M.bs.mono (view_sub _ _ _)) (by omega) (TBool.mk ?_)
  unfold wire_Write_K1
  refine BS.ndec (fun hx => bad S fun hr => hx (ri.1 hr).2.2.2.2.2.2.2) (fun t8 => ?_)
  have hr : m.right := ri.2 ⟨t1, by omega, by omega, t4, t5, by omega, by omega, t8⟩
  have er : wrM m = (m.enc, 0) := by unfold wrM; rw [if_pos hr]
  refine AllocC.col c2 4 fun ap c3 w3 st3 b3 _ => ?_
  replace S := S.go st3.step (by decide) (by decide); replace M := M.mono (st3.step.sub (by decide)); replace G := G.mono (st3.step.sub (by decide)); replace b1 := st3.step.sub (by decide) _ _ b1; replace ho := ho.mono (st3.step.sub (by decide)); replace hA := hA.mono (st3.step.sub (by decide))
  have P : PenV (view c3 4 w3) ⟨ap, 0, none⟩ [] := ⟨ap, _, rfl, b3, OwS.nil ..⟩
  have H : WrS w m v va ua (.slice oh m.hashes.length ph) (.slice ob m.blocks.length pb) (.slice oo (txOp m).length po) (.slice oA (txAns m).length pA) a1 ap [] w3 := ⟨c3, S, G, M, b1, ho, hA, P⟩
  have hop : txOp m = m.opB ∧ txAns m = m.ansB ∧ (txOp m).length ≤ 1000 ∧ (txAns m).length ≤ 1000 := by
    unfold txOp txAns MsgR.opB MsgR.ansB wrOp wrAns
    have hr2 := hr.2.2.2.2.2.2.2.2.2
    by_cases k1 : m.kind = 1
    · rw [if_pos k1] at hr2
      have := OpR.enc_len hr2.2.2.2.1
      simp only [if_pos k1, if_pos hr2.2.2.2.1, if_neg (show ¬ m.kind = 2 by omega)]
      simp; omega
    · rw [if_neg k1] at hr2
      by_cases k2 : m.kind = 2
      · rw [if_pos k2] at hr2
        have := AnsR.enc_len hr2.2.2.2.2
        simp only [if_neg k1, if_pos k2, if_pos hr2.2.2.2.2]
        simp; omega
      · simp [if_neg k1, if_neg k2]
  obtain ⟨eop, ean, lop, lan⟩ := hop
  clear P b3 hm hG st1 st2 st3
  refine H.ld _ rfl (TInt.mk (H.ld _ rfl (TInt.mk (H.ld _ rfl (TInt.mk ?_)))))
  obtain ⟨c3, S, G, M, b1, ho, hA, P⟩ := H
  refine AllocC.col c3 5 fun ah c4 w4 st4 b4 _ => ?_
  replace S := S.go st4.step (by decide) (by decide); replace M := M.mono (st4.step.sub (by decide)); replace G := G.mono (st4.step.sub (by decide)); replace b1 := st4.step.sub (by decide) _ _ b1; replace ho := ho.mono (st4.step.sub (by decide)); replace hA := hA.mono (st4.step.sub (by decide)); replace P := P.mono (st4.step.sub (by decide))
  rw [byte_of (by omega) (by omega), byte_of t4.1 t4.2, byte_of t5.1 t5.2] at b4
  have H : WrS w m v va ua (.slice oh m.hashes.length ph) (.slice ob m.blocks.length pb) (.slice oo (txOp m).length po) (.slice oA (txAns m).length pA) a1 ap [] w4 := ⟨c4, S, G, M, b1, ho, hA, P⟩
  refine H.raw (ys := MsgR.bytes1 m) ((RdS.block (xs := bvs (MsgR.bytes1 m)) b4 rfl (Nat.le_refl _)).mono (view_sub _ _ _)) (by simp) fun w5 H => ?_
  rw [List.nil_append] at H
  clear S G M b1 ho hA P b4 st4
  refine H.ld _ rfl (TInt.mk (H.ld _ rfl (TInt.mk (H.ld _ rfl (TInt.mk (H.ld _ rfl (TInt.mk ?_)))))))
  have l0 : (MsgR.bytes1 m).length = 4 := rfl
  generalize hB0 : MsgR.bytes1 m = B0 at H l0
  refine LoopI.up 4 (fun i w' => WrS w m v va ua (.slice oh m.hashes.length ph) (.slice ob m.blocks.length pb) (.slice oo (txOp m).length po) (.slice oA (txAns m).length pA) a1 ap (B0 ++ ([m.view, m.normal, m.gen, m.commit].take i).flatMap be8) w') (by simpa using H) ?_
  clear H
  rintro i w6 B hi H back
  have hfl : (([m.view, m.normal, m.gen, m.commit].take i).flatMap be8).length ≤ 32 := by rw [fl8_len, List.length_take]; simp only [List.length_cons, List.length_nil]; omega
  refine BS.dec (fun hlt => ?_) (fun hge => ?_)
  · refine Req.bnd ⟨by omega, by omega⟩ (TCell.mk (by rw [Int.toNat_natCast, Nat.mul_one]; exact nums_four _ _ _ _ (by omega)) (TInt.mk ?_))
    have hlt4 : i < 4 := by omega
    obtain ⟨hn, hg⟩ := nums_at hok hlt4
    refine H.U _ 8 rfl rfl (by omega) (by omega) (by omega) (by rw [List.length_append]; omega) fun w7 H => TInt.mk ?_
    rw [wrap_i64 (by omega) (by omega)]
    refine back _ (by omega) ?_
    rw [tk8_more hg, ← List.append_assoc]; exact H
  · have : i = 4 := by omega
    subst this
    clear back B hge hi
    generalize hB1 : B0 ++ ([m.view, m.normal, m.gen, m.commit].take 4).flatMap be8 = B1 at H
    have l1 : B1.length = 36 := by rw [← hB1, List.length_append, l0]; rfl
    have h7 : RdS (wv w6) (.slice (slBase (some ((⟨a1, 0, none⟩ : Addr).add 7)) 32 0 1) 32 32) 1 32 (bvs m.head) := by
      obtain ⟨c, S, G, M, b1, ho, hA, P⟩ := H
      exact (RdS.arr b1 (by simp [h32]) (msg_headcells h32)).mono (view_sub _ _ _)
    refine H.raw (ys := m.head) h7 (by omega) fun w7 H => ?_
    have e39 := part_get (msg_part (m := m) (v := v) (va := va) (ua := ua) (vh := .slice oh m.hashes.length ph) (vb := .slice ob m.blocks.length pb) h32).1
    have x39 := e39 0 (.int .i64 m.client) rfl
    have x40 := e39 1 (u64v m.number) rfl
    have hcl := (right_iff m).1 hr
    have hcl2 : 0 ≤ m.client ∧ m.client < 4 := by
      have hr2 := hr.2.2.2.2.2.2.2.2.2
      by_cases k1 : m.kind = 1
      · rw [if_pos k1] at hr2; omega
      · rw [if_neg k1] at hr2
        by_cases k2 : m.kind = 2
        · rw [if_pos k2] at hr2; omega
        · rw [if_neg k2] at hr2; omega
    rw [addr_add, addr_add]
    have ld2 : ∀ {w' l'} (H : WrS w m v va ua (.slice oh m.hashes.length ph) (.slice ob m.blocks.length pb) (.slice oo (txOp m).length po) (.slice oA (txAns m).length pA) a1 ap l' w') {k : Nat} (u : Value) {C : Value → Prop}, (m.cells v va ua (.slice oh m.hashes.length ph) (.slice ob m.blocks.length pb)).toArray[k]? = some u → C u → LoadC w' (⟨a1, k, none⟩ : Addr) C := fun H k u C hu hC => by
      have := H.ld u hu hC
      rw [addr_add, Nat.zero_add] at this; exact this
    refine ld2 H _ x39 (TInt.mk ?_)
    refine H.U m.client.toNat 1 (by rw [wrap_u64 (by omega) (by omega)]; omega) rfl (by omega) (by omega) (by omega) (by simp; omega) fun w8 H => TInt.mk ?_
    refine ld2 H _ x40 (TInt.mk ?_)
    refine H.U m.number 8 rfl rfl (by omega) (by omega) hok.2.2.2.2.1 (by simp; omega) fun w9 H => TInt.mk ?_
    refine H.top (by simp; omega) (by omega) fun w10 H => TInt.mk ?_
    refine H.tan (by simp; omega) (by omega) fun w11 H => TInt.mk ?_
    generalize hB2 : B1 ++ m.head ++ be m.client.toNat 1 ++ be m.number 8 ++ txt (txOp m) ++ txt (txAns m) = B2 at H
    have l2 : B2.length ≤ 3000 := by rw [← hB2]; simp; omega
    refine H.ld _ x51 (TSl.mk ?_)
    refine H.U m.hashes.length 1 (by rw [wrap_u64 (by omega) (by omega)]) rfl (by omega) (by omega) (by omega) (by omega) fun w12 H => TInt.mk ?_
    refine H.ld _ x51 (TSl.mk ?_)
    generalize hB3 : B2 ++ be m.hashes.length 1 = B3 at H
    have l3 : B3.length ≤ 3001 := by rw [← hB3, List.length_append, be_length]; omega
    refine LoopI.up m.hashes.length (fun i w' => WrS w m v va ua (.slice oh m.hashes.length ph) (.slice ob m.blocks.length pb) (.slice oo (txOp m).length po) (.slice oA (txAns m).length pA) a1 ap (B3 ++ (m.hashes.take i).flatten) w') (by simpa using H) ?_
    clear H
    rintro i w13 B hi H back
    have hfl := flat_hash hok.2.2.2.2.2.2 i
    refine BS.dec (fun hlt => ?_) (fun hge => ?_)
    · obtain ⟨s, hs⟩ := get_of_lt (l := m.hashes) (i := i) (by omega)
      refine Req.bnd ⟨by omega, hlt⟩ ?_
      obtain ⟨c13, S, G, M, b1, ho, hA, P⟩ := H
      obtain ⟨es, ⟨rfl, hs32⟩, E⟩ := LsV.at (by omega) M.hs hs
      refine E.all (view_sub _ _ _) ?_
      refine AllocC.col c13 7 fun a14 c14 w14 st14 b14 _ => ?_
      replace S := S.go st14.step (by decide) (by decide); replace G := G.mono (st14.step.sub (by decide)); replace M := M.mono (st14.step.sub (by decide)); replace b1 := st14.step.sub (by decide) _ _ b1; replace ho := ho.mono (st14.step.sub (by decide)); replace hA := hA.mono (st14.step.sub (by decide)); replace P := P.mono (st14.step.sub (by decide))
      refine RunU.var b14 (by rw [show (bvs s).toArray.size = 32 by simp [hs32]]; kernel_rfl) (by rw [show (bvs s).toArray.size = 32 by simp [hs32]]; rfl) (bvs_all _) fun w15 st15 b15 => ?_
      replace S := S.go st15.step (by decide) (by decide); replace G := G.mono (st15.step.sub (by decide)); replace M := M.mono (st15.step.sub (by decide)); replace b1 := st15.step.sub (by decide) _ _ b1; replace ho := ho.mono (st15.step.sub (by decide)); replace hA := hA.mono (st15.step.sub (by decide)); replace P := P.mono (st15.step.sub (by decide))
      have H : WrS w m v va ua (.slice oh m.hashes.length ph) (.slice ob m.blocks.length pb) (.slice oo (txOp m).length po) (.slice oA (txAns m).length pA) a1 ap (B3 ++ (m.hashes.take i).flatten) w15 := ⟨c14, S, G, M, b1, ho, hA, P⟩
      rw [slBase_whole]
      refine H.raw (ys := s) ((RdS.block (xs := bvs s) b15 (by simp [hs32]) (Nat.le_refl _)).mono (view_sub _ _ _)) (by rw [List.length_append]; omega) fun w16 H => ?_
      rw [wrap_i64 (by omega) (by omega)]
      refine back _ (by omega) ?_
      rw [List.take_add_one, hs, Option.toList_some, List.flatten_append, List.flatten_singleton, ← List.append_assoc]; exact H
    · have : i = m.hashes.length := by omega
      subst this
      clear back B hge hi
      rw [List.take_length] at H hfl
      generalize hB4 : B3 ++ m.hashes.flatten = B4 at H
      have l4 : B4.length ≤ 4000 := by rw [← hB4, List.length_append]; omega
      refine H.ld _ x52 (TSl.mk ?_)
      refine H.U m.blocks.length 1 (by rw [wrap_u64 (by omega) (by omega)]) rfl (by omega) (by omega) (by omega) (by omega) fun w14 H => TInt.mk ?_
      refine H.ld _ x52 (TSl.mk ?_)
      generalize hB5 : B4 ++ be m.blocks.length 1 = B5 at H
      have l5 : B5.length ≤ 4001 := by rw [← hB5, List.length_append, be_length]; omega
      refine LoopI.up m.blocks.length (fun i w' => WrS w m v va ua (.slice oh m.hashes.length ph) (.slice ob m.blocks.length pb) (.slice oo (txOp m).length po) (.slice oA (txAns m).length pA) a1 ap (B5 ++ (m.blocks.take i).flatMap txt) w') (by simpa using H) ?_
      clear H
      rintro i w15 B hi H back
      have hfl := flat_txt t8 i
      refine BS.dec (fun hlt => ?_) (fun hge => ?_)
      · obtain ⟨s, hs⟩ := get_of_lt (l := m.blocks) (i := i) (by omega)
        have hs470 := t8 s (List.mem_of_getElem? hs)
        refine Req.bnd ⟨by omega, hlt⟩ ?_
        refine WrS.pen (R := fun w15 => TSome ob fun a144 => LoadC w15 (a144.add ((i : Int).toNat * 1)) fun v145 => TSl v145 fun o145 l145 c145 => CallV Tryd.prog 52 #[.pointer (some (⟨ap, 0, none⟩ : Addr)), .slice o145 l145 c145] w15 fun v148 w18 => TInt .i64 v148 fun n148 => B [.int .i64 (IntKind.wrap .i64 ((i : Int) + (1 : Int)))] w18) H fun c P G M ho hA mk => ?_
        obtain ⟨es, ⟨vs, rfl, rs⟩, E⟩ := LsV.at (by omega) M.bs hs
        obtain ⟨os, ps, rfl⟩ := rs.form
        refine E.ld0 (view_sub _ _ _) rfl (TSl.mk ?_)
        refine Pen_T P 0 (by omega) rs (by omega) (by rw [List.length_append]; omega) fun c' w' st P => TInt.mk ?_
        rw [wrap_i64 (by omega) (by omega)]
        refine back _ (by omega) ?_
        have H := mk _ c' w' (st.weak (by decide) (by decide)) P
        rw [List.take_add_one, hs, Option.toList_some, List.flatMap_append, ← List.append_assoc]; simpa using H
      · have : i = m.blocks.length := by omega
        subst this
        clear back B hge hi
        rw [List.take_length] at H hfl
        have hbody : B5 ++ m.blocks.flatMap txt = m.body := by
          rw [← hB5, ← hB4, ← hB3, ← hB2, ← hB1, ← hB0, eop, ean]
          unfold MsgR.body MsgR.bytes1
          simp [be8]
        have lb : m.body.length ≤ 60000 := by rw [← hbody, List.length_append]; omega
        rw [hbody] at H
        obtain ⟨c16, S, G, M, b1, ho, hA, P⟩ := H
        clear M b1 ho hA
        refine Pen_Data 5 P (by omega) fun v17 c17 w17 st17 ho => ?_
        replace S := S.go st17 (by decide) (by decide); replace G := G.mono (st17.sub (by decide)); replace P := P.mono (st17.sub (by decide))
        obtain ⟨o17, p17, rfl⟩ := ho.form
        refine TSl.mk ?_
        refine Sha_c c17 6 (ho.rd.mono (view_sub _ _ _)) (G.mono (view_sub _ _ _)) (by omega) fun c18 w18 st18 => TAgg.mk ?_
        replace S := S.go st18 (by decide) (by decide); replace P := P.mono (st18.sub (by decide))
        refine AllocC.col c18 7 fun a19 c19 w19 st19 b19 _ => ?_
        replace S := S.go st19.step (by decide) (by decide); replace P := P.mono (st19.step.sub (by decide))
        have h32 : (bvs (shaB m.body)).toArray.size = 32 := by simp
        refine RunU.var b19 (by rw [h32]; kernel_rfl) (by rw [h32]; rfl) (bvs_all _) fun w20 st20 b20 => ?_
        replace S := S.go st20.step (by decide) (by decide); replace P := P.mono (st20.step.sub (by decide))
        rw [slBase_whole]
        have r20 := (RdS.block (xs := bvs (shaB m.body)) b20 (n := 32) (z := 1) (by simp) (Nat.le_refl _)).short (m := 8) (by omega)
        rw [Nat.mul_one, ← bvs_take] at r20
        refine Pen_Raw P (m := 8) (ys := (shaB m.body).take 8) (r20.mono (view_sub _ _ _)) (by omega) fun c21 w21 st21 P => ?_
        replace S := S.go st21 (by decide) (by decide)
        have e : m.body ++ (shaB m.body).take 8 = m.enc := rfl
        rw [e] at P
        have lenc : m.enc.length ≤ 60008 := by rw [← e, List.length_append, List.length_take, shaB_length]; omega
        refine Pen_Data 5 P (by omega) fun v22 c22 w22 st22 ho => ?_
        replace S := S.go st22 (by decide) (by decide)
        obtain ⟨o22, p22, rfl⟩ := ho.form
        refine TSl.mk ?_
        have := h (.slice o22 m.enc.length p22) _ _ (S.leave c j)
        rw [er] at this
        exact this (ho.mono (S.out c j (by omega)))
end Go.Proofs.YtdjgdcafmfheoaaDoor
set_option linter.unusedVariables false
set_option linter.unusedSimpArgs false
namespace Go.Vc
open Go
def eH (l : List UInt8) : List UInt8 × List UInt8 × Int := if 32 ≤ l.length then (l.take 32, l.drop 32, 0) else (List.replicate 32 0, l, 20)
theorem eH_code (l : List UInt8) : (eH l).2.2 = 0 ∨ (eH l).2.2 = 20 := by unfold eH; split <;> simp
theorem eH_len (l : List UInt8) : (eH l).1.length = 32 ∧ (eH l).2.1.length ≤ l.length := by unfold eH; split <;> simp; omega
theorem eH_ok {l : List UInt8} (h : (eH l).2.2 = 0) : l = (eH l).1 ++ (eH l).2.1 := by
  unfold eH at h ⊢; split
  · simp
  · rename_i hn; rw [if_neg hn] at h; simp at h
theorem eH_app (g r : List UInt8) (h : g.length = 32) : eH (g ++ r) = (g, r, 0) := by
  unfold eH
  rw [if_pos (by simp; omega), ← h, List.take_left, List.drop_left]
theorem rdOp_nil : rdOp [] = (OpR.zero, 22) := rdOp_no fun h => absurd h.1.1 (by decide)
theorem rdAns_nil : rdAns [] = (AnsR.zero, 22) := by
  unfold rdAns
  rw [if_neg]
  rintro ⟨_, h⟩
  exact absurd (congrArg List.length h) (by decide)
theorem rdOp_cases (l : List UInt8) : rdOp l = (OpR.zero, 22) ∨ ((rdOp l).2 = 0 ∧ (rdOp l).1.right ∧ (rdOp l).1.enc = l) := by
  by_cases h : (decOp l).1.right ∧ (decOp l).1.enc = l
  · rw [rdOp_yes h]; exact .inr ⟨rfl, h⟩
  · exact .inl (rdOp_no h)
theorem rdAns_cases (l : List UInt8) : rdAns l = (AnsR.zero, 22) ∨ ((rdAns l).2 = 0 ∧ (rdAns l).1.right ∧ (rdAns l).1.enc = l) := by
  unfold rdAns
  by_cases h : (decAns l 7).1.right ∧ (decAns l 7).1.enc = l
  · rw [if_pos h]; exact .inr ⟨rfl, h⟩
  · rw [if_neg h]; exact .inl rfl
theorem eE_nil : eE [] = 0 := rfl
theorem many_succ {α : Type} (f : List UInt8 → α × List UInt8 × Int) (m : Nat) (l : List UInt8) : many f (m + 1) l = ((many f m l).1 ++ [(f (many f m l).2.1).1], (f (many f m l).2.1).2.1, (many f m l).2.2 + (f (many f m l).2.1).2.2) := rfl
theorem many_zero {α : Type} (f : List UInt8 → α × List UInt8 × Int) (l : List UInt8) : many f 0 l = ([], l, 0) := rfl
theorem many_four {α : Type} (f : List UInt8 → α × List UInt8 × Int) (l : List UInt8) : many f 4 l = ([(f l).1, (f (f l).2.1).1, (f (f (f l).2.1).2.1).1, (f (f (f (f l).2.1).2.1).2.1).1], (f (f (f (f l).2.1).2.1).2.1).2.1, 0 + (f l).2.2 + (f (f l).2.1).2.2 + (f (f (f l).2.1).2.1).2.2 + (f (f (f (f l).2.1).2.1).2.1).2.2) := rfl
theorem eU_yes {n : Nat} {l : List UInt8} (h : n ≤ l.length) : eU n l = (num (l.take n), l.drop n, 0) := by unfold eU; rw [if_pos h]
theorem eH_yes {l : List UInt8} (h : 32 ≤ l.length) : eH l = (l.take 32, l.drop 32, 0) := by unfold eH; rw [if_pos h]
attribute [local irreducible] eU eT eE eH many rdOp rdAns shaB
def qv (l : List UInt8) := eU 1 l
def qk (l : List UInt8) := eU 1 (qv l).2.1
def qf (l : List UInt8) := eU 1 (qk l).2.1
def qt (l : List UInt8) := eU 1 (qf l).2.1
def qn (l : List UInt8) := many (eU 8) 4 (qt l).2.1
def qh (l : List UInt8) := eH (qn l).2.1
def qc (l : List UInt8) := eU 1 (qh l).2.1
def qm (l : List UInt8) := eU 8 (qc l).2.1
def qo (l : List UInt8) := eT (qm l).2.1
def qa (l : List UInt8) := eT (qo l).2.1
def qx (l : List UInt8) := eU 1 (qa l).2.1
def qH (l : List UInt8) := many eH (qx l).1 (qx l).2.1
def qy (l : List UInt8) := eU 1 (qH l).2.1
def qB (l : List UInt8) := many eT (qy l).1 (qy l).2.1
theorem eU8_len (l : List UInt8) : (eU 8 l).2.1.length ≤ l.length := eU_len 8 l
theorem q_len (l : List UInt8) : (qv l).2.1.length ≤ l.length ∧ (qk l).2.1.length ≤ l.length ∧ (qf l).2.1.length ≤ l.length ∧ (qt l).2.1.length ≤ l.length ∧ (qn l).2.1.length ≤ l.length ∧ (qh l).2.1.length ≤ l.length ∧ (qc l).2.1.length ≤ l.length ∧ (qm l).2.1.length ≤ l.length ∧
    (qo l).2.1.length ≤ l.length ∧ (qa l).2.1.length ≤ l.length ∧ (qx l).2.1.length ≤ l.length ∧ (qH l).2.1.length ≤ l.length ∧ (qy l).2.1.length ≤ l.length ∧ (qB l).2.1.length ≤ l.length := by
  have h1 : (qv l).2.1.length ≤ l.length := eU_len 1 l
  have h2 : (qk l).2.1.length ≤ (qv l).2.1.length := eU_len 1 _
  have h3 : (qf l).2.1.length ≤ (qk l).2.1.length := eU_len 1 _
  have h4 : (qt l).2.1.length ≤ (qf l).2.1.length := eU_len 1 _
  have h5 : (qn l).2.1.length ≤ (qt l).2.1.length := many_rest eU8_len 4 _
  have h6 : (qh l).2.1.length ≤ (qn l).2.1.length := (eH_len _).2
  have h7 : (qc l).2.1.length ≤ (qh l).2.1.length := eU_len 1 _
  have h8 : (qm l).2.1.length ≤ (qc l).2.1.length := eU_len 8 _
  have h9 : (qo l).2.1.length ≤ (qm l).2.1.length := (eT_len _).1
  have h10 : (qa l).2.1.length ≤ (qo l).2.1.length := (eT_len _).1
  have h11 : (qx l).2.1.length ≤ (qa l).2.1.length := eU_len 1 _
  have h12 : (qH l).2.1.length ≤ (qx l).2.1.length := many_rest (fun l => (eH_len l).2) _ _
  have h13 : (qy l).2.1.length ≤ (qH l).2.1.length := eU_len 1 _
  have h14 : (qB l).2.1.length ≤ (qy l).2.1.length := many_rest (fun l => (eT_len l).1) _ _
  omega
def decM (l : List UInt8) : MsgR := ⟨(qk l).1, (qf l).1, (qt l).1, (qn l).1.getD 0 0, (qn l).1.getD 1 0, (qn l).1.getD 2 0, (qn l).1.getD 3 0, (qh l).1, (qc l).1, (qm l).1, (rdOp (qo l).1).1, (rdAns (qa l).1).1, (qH l).1, (qB l).1⟩
def rdM (l : List UInt8) : MsgR × Int := if (decM l).right ∧ (decM l).enc = l then (decM l, 0) else (MsgR.zero, 22)
theorem four_of {l : List Nat} (h : l.length = 4) : l = [l.getD 0 0, l.getD 1 0, l.getD 2 0, l.getD 3 0] := by
  match l, h with
  | [a, b, c, d], _ => rfl
theorem rdOp_enc {o : OpR} (h : o.right) : rdOp o.enc = (o, 0) := by unfold rdOp; rw [OpR.read h]
/-- read back, whatever is behind -/
theorem read_body {m : MsgR} (h : m.right) (hok : m.ok) (r : List UInt8) :
    (qv (m.body ++ r)).2.2 = 0 ∧ (qv (m.body ++ r)).1 = 3 ∧ decM (m.body ++ r) = m ∧ (qo (m.body ++ r)).1 = m.opB ∧ (qa (m.body ++ r)).1 = m.ansB ∧ (qo (m.body ++ r)).2.2 = 0 ∧ (qa (m.body ++ r)).2.2 = 0 ∧ (qx (m.body ++ r)).2.2 = 0 ∧ (qH (m.body ++ r)).2.2 = 0 ∧ (qy (m.body ++ r)).2.2 = 0 ∧ (qB (m.body ++ r)).2.2 = 0 ∧ (qB (m.body ++ r)).2.1 = r := by
  obtain ⟨h1, h2, h3, h4, h5, h6, h7, h8, h9, h10⟩ := h
  obtain ⟨k1, k2, k3, k4, k5, k6, k7⟩ := hok
  have hop : m.opB.length < 65536 ∧ (rdOp m.opB).1 = m.op := by
    unfold MsgR.opB
    by_cases q : m.kind = 1
    · rw [if_pos q] at h10 ⊢
      have := OpR.enc_len h10.2.2.2.1
      exact ⟨by omega, by rw [rdOp_enc h10.2.2.2.1]⟩
    · rw [if_neg q] at h10 ⊢
      refine ⟨by simp, ?_⟩
      rw [rdOp_nil]
      by_cases q2 : m.kind = 2
      · rw [if_pos q2] at h10; exact h10.2.2.2.1.symm
      · rw [if_neg q2] at h10; exact h10.2.2.1.symm
  have han : m.ansB.length < 65536 ∧ (rdAns m.ansB).1 = m.ans := by
    unfold MsgR.ansB
    by_cases q : m.kind = 2
    · rw [if_neg (by omega), if_pos q] at h10
      rw [if_pos q]
      have := AnsR.enc_len h10.2.2.2.2
      exact ⟨by omega, by rw [AnsR.read h10.2.2.2.2]⟩
    · rw [if_neg q]
      refine ⟨by simp, ?_⟩
      rw [rdAns_nil]
      by_cases q2 : m.kind = 1
      · rw [if_pos q2] at h10; exact h10.2.2.2.2.symm
      · rw [if_neg q2, if_neg q] at h10; exact h10.2.2.2.symm
  have hcl : 0 ≤ m.client ∧ m.client < 4 := by
    by_cases q : m.kind = 1
    · rw [if_pos q] at h10; omega
    · rw [if_neg q] at h10
      by_cases q2 : m.kind = 2
      · rw [if_pos q2] at h10; omega
      · rw [if_neg q2] at h10; omega
  have e : m.body ++ r = be 3 1 ++ (be m.kind.toNat 1 ++ (be m.fr.toNat 1 ++ (be m.to.toNat 1 ++ ([m.view, m.normal, m.gen, m.commit].flatMap be8 ++ (m.head ++ (be m.client.toNat 1 ++ (be m.number 8 ++ (txt m.opB ++ (txt m.ansB ++ (be m.hashes.length 1 ++ (m.hashes.flatMap id ++ (be m.blocks.length 1 ++ (m.blocks.flatMap txt ++ r))))))))))))) := by
    unfold MsgR.body
    simp [be, be8, byteAt]
  have e1 : qv (m.body ++ r) = _ := (congrArg (eU 1) e).trans (eU_be 1 3 _ (by omega))
  have e2 : qk (m.body ++ r) = _ := (congrArg (fun (x : Nat × List UInt8 × Int) => eU 1 x.2.1) e1).trans (eU_be 1 m.kind.toNat _ (by omega))
  have e3 : qf (m.body ++ r) = _ := (congrArg (fun (x : Nat × List UInt8 × Int) => eU 1 x.2.1) e2).trans (eU_be 1 m.fr.toNat _ (by omega))
  have e4 : qt (m.body ++ r) = _ := (congrArg (fun (x : Nat × List UInt8 × Int) => eU 1 x.2.1) e3).trans (eU_be 1 m.to.toNat _ (by omega))
  have e5 : qn (m.body ++ r) = _ := (congrArg (fun (x : Nat × List UInt8 × Int) => many (eU 8) 4 x.2.1) e4).trans (many_enc (f := eU 8) (g := be8) (good := fun n => n < 18446744073709551616) (fun a r ha => eU_be 8 a r (by omega)) [m.view, m.normal, m.gen, m.commit] _ (by simp; omega))
  have e6 : qh (m.body ++ r) = _ := (congrArg (fun (x : List Nat × List UInt8 × Int) => eH x.2.1) e5).trans (eH_app m.head _ k6)
  have e7 : qc (m.body ++ r) = _ := (congrArg (fun (x : List UInt8 × List UInt8 × Int) => eU 1 x.2.1) e6).trans (eU_be 1 m.client.toNat _ (by omega))
  have e8 : qm (m.body ++ r) = _ := (congrArg (fun (x : Nat × List UInt8 × Int) => eU 8 x.2.1) e7).trans (eU_be 8 m.number _ (by omega))
  have e9 : qo (m.body ++ r) = _ := (congrArg (fun (x : Nat × List UInt8 × Int) => eT x.2.1) e8).trans (eT_txt m.opB _ hop.1)
  have e10 : qa (m.body ++ r) = _ := (congrArg (fun (x : List UInt8 × List UInt8 × Int) => eT x.2.1) e9).trans (eT_txt m.ansB _ han.1)
  have e11 : qx (m.body ++ r) = _ := (congrArg (fun (x : List UInt8 × List UInt8 × Int) => eU 1 x.2.1) e10).trans (eU_be 1 m.hashes.length _ (by omega))
  have e12 : qH (m.body ++ r) = _ := (congrArg (fun (x : Nat × List UInt8 × Int) => many eH x.1 x.2.1) e11).trans (many_enc (f := eH) (g := id) (good := fun h => h.length = 32) (fun a r ha => eH_app a r ha) m.hashes _ k7)
  have e13 : qy (m.body ++ r) = _ := (congrArg (fun (x : List (List UInt8) × List UInt8 × Int) => eU 1 x.2.1) e12).trans (eU_be 1 m.blocks.length _ (by omega))
  have e14 : qB (m.body ++ r) = _ := (congrArg (fun (x : Nat × List UInt8 × Int) => many eT x.1 x.2.1) e13).trans (many_enc (f := eT) (g := txt) (good := fun h => h.length < 65536) (fun a r ha => eT_txt a r ha) m.blocks r (fun b hb => by have := h9 b hb; omega))
  refine ⟨by rw [e1], by rw [e1], ?_, by rw [e9], by rw [e10], by rw [e9], by rw [e10], by rw [e11], by rw [e12], by rw [e13], by rw [e14], by rw [e14]⟩
  unfold decM
  rw [e2, e3, e4, e5, e6, e7, e8, e9, e10, e12, e14]
  simp only [hop.2, han.2]
  obtain ⟨kind, fr, to, view, normal, gen, commit, head, client, number, op, ans, hashes, blocks⟩ := m
  simp only at *
  simp only [MsgR.mk.injEq, List.getD_cons_zero, List.getD_cons_succ, and_true, true_and]
  omega
theorem mk_ans (k f t : Int) (v n g c : Nat) (h : List UInt8) (cl : Int) (nu : Nat) (o : OpR) (a : AnsR) (hs bs : List (List UInt8)) : (MsgR.mk k f t v n g c h cl nu o a hs bs).ans = a := rfl
theorem mk_op (k f t : Int) (v n g c : Nat) (h : List UInt8) (cl : Int) (nu : Nat) (o : OpR) (a : AnsR) (hs bs : List (List UInt8)) : (MsgR.mk k f t v n g c h cl nu o a hs bs).op = o := rfl
theorem mk_kind (k f t : Int) (v n g c : Nat) (h : List UInt8) (cl : Int) (nu : Nat) (o : OpR) (a : AnsR) (hs bs : List (List UInt8)) : (MsgR.mk k f t v n g c h cl nu o a hs bs).kind = k := rfl
theorem decM_ans (l : List UInt8) : (decM l).ans = (rdAns (qa l).1).1 := (congrArg MsgR.ans (decM.eq_1 l)).trans (mk_ans _ _ _ _ _ _ _ _ _ _ _ _ _ _)
theorem decM_op (l : List UInt8) : (decM l).op = (rdOp (qo l).1).1 := (congrArg MsgR.op (decM.eq_1 l)).trans (mk_op _ _ _ _ _ _ _ _ _ _ _ _ _ _)
theorem decM_kind (l : List UInt8) : (decM l).kind = ((qk l).1 : Int) := (congrArg MsgR.kind (decM.eq_1 l)).trans (mk_kind _ _ _ _ _ _ _ _ _ _ _ _ _ _)
theorem decM_ok (l : List UInt8) : (decM l).ok := by
  have hn : (qn l).1.length = 4 := many_length _ _ _
  have hlt : ∀ n ∈ (qn l).1, n < 18446744073709551616 := many_good (good := fun n => n < 18446744073709551616) (fun l => by have := eU_lt 8 l; omega) _ _
  have h4 := four_of hn
  rw [h4] at hlt
  refine ⟨hlt ((qn l).1.getD 0 0) (by simp), hlt ((qn l).1.getD 1 0) (by simp), hlt ((qn l).1.getD 2 0) (by simp), hlt ((qn l).1.getD 3 0) (by simp), by have : (qm l).1 < _ := eU_lt 8 _; show (qm l).1 < _; omega, (eH_len _).1, many_good (good := fun h : List UInt8 => h.length = 32) (fun l => (eH_len l).1) _ _⟩
theorem decM_blocks (l : List UInt8) : (decM l).blocks.length ≤ 255 ∧ (decM l).hashes.length ≤ 255 := by
  have h1 : (qB l).1.length = _ := many_length _ _ _
  have h2 : (qH l).1.length = _ := many_length _ _ _
  have h3 : (qy l).1 < _ := eU_lt 1 _
  have h4 : (qx l).1 < _ := eU_lt 1 _
  show (qB l).1.length ≤ _ ∧ (qH l).1.length ≤ _
  omega
theorem rdM_enc {m : MsgR} (h : m.right) (hok : m.ok) : rdM m.enc = (m, 0) := by
  have := (read_body h hok ((shaB m.body).take 8)).2.2.1
  have e : decM m.enc = m := this
  unfold rdM
  rw [e, if_pos ⟨h, rfl⟩]
theorem enc_inj {m n : MsgR} (hm : m.right) (hmo : m.ok) (hn : n.right) (hno : n.ok) (h : m.enc = n.enc) : m = n := by
  have h1 := rdM_enc hm hmo
  rw [h, rdM_enc hn hno] at h1
  exact (Prod.ext_iff.1 h1).1.symm
theorem wrM_iff (m : MsgR) (l : List UInt8) : ((wrM m).2 = 0 ∧ l = (wrM m).1) ↔ (m.right ∧ m.enc = l) := by
  unfold wrM
  split
  · rename_i h; simp [h]; exact eq_comm
  · rename_i h; simp [h]
theorem rdM_yes {l : List UInt8} (h : (decM l).right ∧ (decM l).enc = l) : rdM l = (decM l, 0) := by unfold rdM; rw [if_pos h]
theorem rdM_no {l : List UInt8} (h : ¬ ((decM l).right ∧ (decM l).enc = l)) : rdM l = (MsgR.zero, 22) := by unfold rdM; rw [if_neg h]
theorem rdM_cases (l : List UInt8) : (rdM l = (MsgR.zero, 22)) ∨ ((rdM l).2 = 0 ∧ (rdM l).1.right ∧ (rdM l).1.ok ∧ (rdM l).1.enc = l) := by
  by_cases h : (decM l).right ∧ (decM l).enc = l
  · rw [rdM_yes h]; exact .inr ⟨rfl, h.1, decM_ok l, h.2⟩
  · exact .inl (rdM_no h)
theorem eH_nn (l : List UInt8) : 0 ≤ (eH l).2.2 := by have := eH_code l; omega
theorem eT_nn (l : List UInt8) : 0 ≤ (eT l).2.2 := (eT_bd l).1
/-- the front: 77 bytes -/
theorem front (l : List UInt8) (h : 77 ≤ l.length) : (qv l).2.2 = 0 ∧ (qk l).2.2 = 0 ∧ (qf l).2.2 = 0 ∧ (qt l).2.2 = 0 ∧ (qn l).2.2 = 0 ∧ (qh l).2.2 = 0 ∧ (qc l).2.2 = 0 ∧ (qm l).2.2 = 0 ∧
    (qv l).1 = num (l.take 1) ∧ (qk l).1 = num ((l.drop 1).take 1) ∧ (qf l).1 = num ((l.drop 2).take 1) ∧ (qt l).1 = num ((l.drop 3).take 1) ∧ (qn l).1 = [num ((l.drop 4).take 8), num ((l.drop 12).take 8), num ((l.drop 20).take 8), num ((l.drop 28).take 8)] ∧
    (qh l).1 = (l.drop 36).take 32 ∧ (qc l).1 = num ((l.drop 68).take 1) ∧ (qm l).1 = num ((l.drop 69).take 8) ∧ (qm l).2.1 = l.drop 77 := by
  have U : ∀ (n k : Nat), n + k ≤ l.length → eU n (l.drop k) = (num ((l.drop k).take n), l.drop (k + n), 0) := fun n k hk => by
    rw [eU_yes (by rw [List.length_drop]; omega), List.drop_drop]
  have e0 : qv l = _ := U 1 0 (by omega)
  have e1 : qk l = _ := (congrArg (fun (x : Nat × List UInt8 × Int) => eU 1 x.2.1) e0).trans (U 1 1 (by omega))
  have e2 : qf l = _ := (congrArg (fun (x : Nat × List UInt8 × Int) => eU 1 x.2.1) e1).trans (U 1 2 (by omega))
  have e3 : qt l = _ := (congrArg (fun (x : Nat × List UInt8 × Int) => eU 1 x.2.1) e2).trans (U 1 3 (by omega))
  have e4 : qn l = _ := (congrArg (fun (x : Nat × List UInt8 × Int) => many (eU 8) 4 x.2.1) e3).trans (show many (eU 8) 4 (l.drop 4) = ([num ((l.drop 4).take 8), num ((l.drop 12).take 8), num ((l.drop 20).take 8), num ((l.drop 28).take 8)], l.drop 36, 0) by
    simp only [many_four, U 8 4 (by omega), U 8 12 (by omega), U 8 20 (by omega), U 8 28 (by omega)]; rfl)
  have e5 : qh l = _ := (congrArg (fun (x : List Nat × List UInt8 × Int) => eH x.2.1) e4).trans (eH_yes (show 32 ≤ (l.drop 36).length by rw [List.length_drop]; omega))
  rw [List.drop_drop] at e5
  have e6 : qc l = _ := (congrArg (fun (x : List UInt8 × List UInt8 × Int) => eU 1 x.2.1) e5).trans (U 1 68 (by omega))
  have e7 : qm l = _ := (congrArg (fun (x : Nat × List UInt8 × Int) => eU 8 x.2.1) e6).trans (U 8 69 (by omega))
  refine ⟨by rw [e0], by rw [e1], by rw [e2], by rw [e3], by rw [e4], by rw [e5], by rw [e6], by rw [e7], by rw [e0]; rfl, by rw [e1], by rw [e2], by rw [e3], by rw [e4], by rw [e5], by rw [e6], by rw [e7], by rw [e7]⟩
/-- the document's way of accepting; D: all but the digest -/
def okD (l : List UInt8) : Prop := 91 ≤ l.length ∧ l[0]? = some 3 ∧ (shaB (l.take (l.length - 8))).take 8 = l.drop (l.length - 8) ∧
  (qo (l.take (l.length - 8))).2.2 = 0 ∧ (qa (l.take (l.length - 8))).2.2 = 0 ∧ ((qo (l.take (l.length - 8))).1 ≠ [] → (rdOp (qo (l.take (l.length - 8))).1).2 = 0) ∧
  ((qa (l.take (l.length - 8))).1 ≠ [] ∨ (qk (l.take (l.length - 8))).1 = 2 → (rdAns (qa (l.take (l.length - 8))).1).2 = 0 ∧ (qk (l.take (l.length - 8))).1 = 2) ∧
  (qx (l.take (l.length - 8))).2.2 = 0 ∧ (qH (l.take (l.length - 8))).2.2 = 0 ∧ (qy (l.take (l.length - 8))).2.2 = 0 ∧ (qB (l.take (l.length - 8))).2.2 = 0 ∧ (qB (l.take (l.length - 8))).2.1 = [] ∧ (decM (l.take (l.length - 8))).right
theorem take_body {m : MsgR} : m.enc.length = m.body.length + 8 ∧ m.enc.take (m.enc.length - 8) = m.body ∧ m.enc.drop (m.enc.length - 8) = (shaB m.body).take 8 := by
  have e : m.enc = m.body ++ (shaB m.body).take 8 := rfl
  have l8 : ((shaB m.body).take 8).length = 8 := by rw [List.length_take, shaB_length]; omega
  have hl : m.enc.length = m.body.length + 8 := by rw [e, List.length_append, l8]
  refine ⟨hl, ?_, ?_⟩
  · rw [hl, Nat.add_sub_cancel, e, List.take_left]
  · rw [hl, Nat.add_sub_cancel, e, List.drop_left]
theorem be_head {D : List UInt8} (h : 1 ≤ D.length) : be (num (D.take 1)) 1 = D.take 1 := by
  have hl : (D.take 1).length = 1 := by rw [List.length_take]; omega
  have := be_num (D.take 1)
  rwa [hl] at this
theorem enc_le {m : MsgR} (h : m.right) (hok : m.ok) : m.enc.length ≤ 60000 := by
  obtain ⟨h1, h2, h3, h4, h5, h6, h7, h8, h9, h10⟩ := h
  have e := (take_body (m := m)).1
  have hop : m.opB.length ≤ 1000 ∧ m.ansB.length ≤ 1000 := by
    unfold MsgR.opB MsgR.ansB
    by_cases k1 : m.kind = 1
    · rw [if_pos k1] at h10 ⊢
      rw [if_neg (by omega)]
      have := OpR.enc_len h10.2.2.2.1
      simp; omega
    · rw [if_neg k1] at h10 ⊢
      by_cases k2 : m.kind = 2
      · rw [if_pos k2] at h10 ⊢
        have := AnsR.enc_len h10.2.2.2.2
        simp; omega
      · rw [if_neg k2]; simp
  have f1 := flat_hash hok.2.2.2.2.2.2 m.hashes.length
  have f2 := flat_txt h9 m.blocks.length
  rw [List.take_length] at f1 f2
  have h32 := hok.2.2.2.2.2.1
  have hb : m.body.length ≤ 50000 := by
    unfold MsgR.body
    simp only [List.length_append, be_length, List.length_cons, List.length_nil, txt_length, h32]; omega
  omega
theorem body_len (m : MsgR) (hok : m.ok) : 83 ≤ m.body.length := by
  unfold MsgR.body
  have := hok.2.2.2.2.2.1
  simp only [List.length_append, be_length, List.length_cons, List.length_nil, txt_length, this]; omega
theorem okD_fwd (l : List UInt8) : okD l → ((decM l).right ∧ (decM l).enc = l) := by
  unfold okD
  rintro ⟨h91, h3, hs, ho, ha, hro, hra, hx, hH, hy, hB, hr, hright⟩
  generalize hD : l.take (l.length - 8) = D at *
  have hDl : D.length = l.length - 8 := by rw [← hD, List.length_take]; omega
  obtain ⟨c0, c1, c2, c3, c4, c5, c6, c7, f0, _⟩ := front D (by omega)
  have e0 := (eU_ok (n := 1) (l := D) c0).1
  have e1 := (eU_ok (n := 1) (l := (qv D).2.1) c1).1
  have e2 := (eU_ok (n := 1) (l := (qk D).2.1) c2).1
  have e3 := (eU_ok (n := 1) (l := (qf D).2.1) c3).1
  have e4 := many_ok (f := eU 8) (g := be8) (fun l => (eU_bd 8 l).1) (fun l h => (eU_ok h).1) 4 (qt D).2.1 c4
  have e5 := eH_ok (l := (qn D).2.1) c5
  have e6 := (eU_ok (n := 1) (l := (qh D).2.1) c6).1
  have e7 := (eU_ok (n := 8) (l := (qc D).2.1) c7).1
  have e8 := (eT_ok (l := (qm D).2.1) ho).1
  have e9 := (eT_ok (l := (qo D).2.1) ha).1
  have e10 := (eU_ok (n := 1) (l := (qa D).2.1) hx).1
  have e11 := many_ok (f := eH) (g := id) eH_nn (fun l h => eH_ok h) (qx D).1 (qx D).2.1 hH
  have e12 := (eU_ok (n := 1) (l := (qH D).2.1) hy).1
  have e13 := many_ok (f := eT) (g := txt) eT_nn (fun l h => (eT_ok h).1) (qy D).1 (qy D).2.1 hB
  have hq : (qk D).1 = (decM D).kind.toNat ∧ (qf D).1 = (decM D).fr.toNat ∧ (qt D).1 = (decM D).to.toNat ∧ (qc D).1 = (decM D).client.toNat ∧ (qm D).1 = (decM D).number := ⟨rfl, rfl, rfl, rfl, rfl⟩
  have h4 := four_of (l := (qn D).1) (many_length _ _ _)
  have hxl : (qx D).1 = (decM D).hashes.length := (many_length eH (qx D).1 (qx D).2.1).symm
  have hyl : (qy D).1 = (decM D).blocks.length := (many_length eT (qy D).1 (qy D).2.1).symm
  have hv3 : (qv D).1 = 3 := by
    rw [f0]
    have : D.take 1 = [3] := by
      rw [← hD, List.take_take, Nat.min_eq_left (by omega)]
      match l, h3 with
      | x :: r, h3 => simp at h3; simp [h3]
    rw [this]; rfl
  obtain ⟨g1, g2, g3, g4, g5, g6, g7, g8, g9, g10⟩ := id hright
  have hop : (qo D).1 = (decM D).opB := by
    unfold MsgR.opB
    by_cases hn : (qo D).1 = []
    · have ez : (decM D).op = OpR.zero := by rw [decM_op, hn, rdOp_nil]
      by_cases k1 : (decM D).kind = 1
      · rw [if_pos k1, ez] at g10
        exact absurd g10.2.2.2.1.1 (by decide)
      · rw [if_neg k1]; exact hn
    · have hz := hro hn
      rcases rdOp_cases (qo D).1 with h | ⟨_, hrt, henc⟩
      · rw [h] at hz; simp at hz
      · by_cases k1 : (decM D).kind = 1
        · rw [if_pos k1, decM_op]; exact henc.symm
        · have ez : (decM D).op = OpR.zero := by
            rw [if_neg k1] at g10
            by_cases k2 : (decM D).kind = 2
            · rw [if_pos k2] at g10; exact g10.2.2.2.1
            · rw [if_neg k2] at g10; exact g10.2.2.1
          rw [decM_op] at ez
          rw [ez] at hrt
          exact absurd hrt.1 (by decide)
  have han : (qa D).1 = (decM D).ansB := by
    unfold MsgR.ansB
    by_cases k2 : (decM D).kind = 2
    · rw [if_pos k2]
      have k2' : (qk D).1 = 2 := by have := decM_kind D; omega
      have hz := (hra (.inr k2')).1
      rcases rdAns_cases (qa D).1 with h | ⟨_, hrt, henc⟩
      · rw [h] at hz; simp at hz
      · rw [decM_ans]; exact henc.symm
    · rw [if_neg k2]
      by_cases hn : (qa D).1 = []
      · exact hn
      · have := (hra (.inl hn)).2
        exact absurd (by have := decM_kind D; omega) k2
  have hbody : D = (decM D).body := by
    have : (decM D).body = be 3 1 ++ (be (qk D).1 1 ++ (be (qf D).1 1 ++ (be (qt D).1 1 ++ ((qn D).1.flatMap be8 ++ ((qh D).1 ++ (be (qc D).1 1 ++ (be (qm D).1 8 ++ (txt (qo D).1 ++ (txt (qa D).1 ++ (be (qx D).1 1 ++ ((qH D).1.flatMap id ++ (be (qy D).1 1 ++ (qB D).1.flatMap txt)))))))))))) := by
      rw [hop, han, hxl, hyl, h4, hq.1, hq.2.1, hq.2.2.1, hq.2.2.2.1, hq.2.2.2.2]
      unfold MsgR.body
      show _ ++ (decM D).hashes.flatten ++ _ ++ (decM D).blocks.flatMap txt = _
      rw [show (qH D).1 = (decM D).hashes from rfl, show (qB D).1 = (decM D).blocks from rfl, show (qh D).1 = (decM D).head from rfl]
      rw [show (qn D).1.getD 0 0 = (decM D).view from rfl, show (qn D).1.getD 1 0 = (decM D).normal from rfl, show (qn D).1.getD 2 0 = (decM D).gen from rfl, show (qn D).1.getD 3 0 = (decM D).commit from rfl]
      simp [be, be8, byteAt]
    rw [this]
    have e13' : (qy D).2.1 = (qB D).1.flatMap txt := by
      have e13 : (qy D).2.1 = (qB D).1.flatMap txt ++ (qB D).2.1 := e13
      rw [hr, List.append_nil] at e13; exact e13
    have e11 : (qx D).2.1 = (qH D).1.flatMap id ++ (qH D).2.1 := e11
    have e4 : (qt D).2.1 = (qn D).1.flatMap be8 ++ (qn D).2.1 := e4
    have e5 : (qn D).2.1 = (qh D).1 ++ (qh D).2.1 := e5
    have e12 : (qH D).2.1 = be (qy D).1 1 ++ (qy D).2.1 := e12
    have e10 : (qa D).2.1 = be (qx D).1 1 ++ (qx D).2.1 := e10
    have e9 : (qo D).2.1 = txt (qa D).1 ++ (qa D).2.1 := e9
    have e8 : (qm D).2.1 = txt (qo D).1 ++ (qo D).2.1 := e8
    have e7 : (qc D).2.1 = be (qm D).1 8 ++ (qm D).2.1 := e7
    have e6 : (qh D).2.1 = be (qc D).1 1 ++ (qc D).2.1 := e6
    have e3 : (qf D).2.1 = be (qt D).1 1 ++ (qt D).2.1 := e3
    have e2 : (qk D).2.1 = be (qf D).1 1 ++ (qf D).2.1 := e2
    have e1 : (qv D).2.1 = be (qk D).1 1 ++ (qk D).2.1 := e1
    have e0 : D = be (qv D).1 1 ++ (qv D).2.1 := e0
    rw [hv3] at e0
    rw [← e13', ← e12, ← e11, ← e10, ← e9, ← e8, ← e7, ← e6, ← e5, ← e4, ← e3, ← e2, ← e1, ← e0]
  have henc : (decM D).enc = l := by
    show (decM D).body ++ (shaB (decM D).body).take 8 = l
    rw [← hbody, hs, ← hD, List.take_append_drop]
  have hdl : decM l = decM D := by
    have := (read_body hright (decM_ok D) ((shaB (decM D).body).take 8)).2.2.1
    have e : decM (decM D).enc = decM D := this
    rwa [henc] at e
  rw [hdl]
  exact ⟨hright, henc⟩
theorem okD_bwd (l : List UInt8) : ((decM l).right ∧ (decM l).enc = l) → okD l := by
  unfold okD
  rintro ⟨hright, henc⟩
  have hok := decM_ok l
  generalize decM l = m at *
  subst henc
  obtain ⟨hl, ht, hd⟩ := take_body (m := m)
  have h83 := body_len m hok
  have rb := read_body hright hok []
  rw [List.append_nil] at rb
  obtain ⟨r1, r2, r3, r4, r5, r6, r7, r8, r9, r10, r11, r12⟩ := rb
  rw [ht, hd, r3]
  refine ⟨by omega, ?_, rfl, r6, r7, ?_, ?_, r8, r9, r10, r11, r12, hright⟩
  · show (m.body ++ _)[0]? = _
    rw [List.getElem?_append_left (by omega)]
    unfold MsgR.body; simp
  · intro hne
    rw [r4] at hne ⊢
    unfold MsgR.opB at hne ⊢
    by_cases k1 : m.kind = 1
    · rw [if_pos k1]
      have g10 := hright.2.2.2.2.2.2.2.2.2
      rw [if_pos k1] at g10
      rw [rdOp_enc g10.2.2.2.1]
    · rw [if_neg k1] at hne; exact absurd rfl hne
  · intro hne
    have hk : (qk m.body).1 = m.kind.toNat := by
      have := congrArg MsgR.kind r3
      have : (((qk m.body).1 : Nat) : Int) = m.kind := this
      omega
    have h1 := hright.1
    rw [r5, hk] at hne
    rw [r5, hk]
    have k2 : m.kind = 2 := by
      rcases hne with hne | hne
      · unfold MsgR.ansB at hne
        by_cases k2 : m.kind = 2
        · exact k2
        · rw [if_neg k2] at hne; exact absurd rfl hne
      · omega
    refine ⟨?_, by omega⟩
    unfold MsgR.ansB
    rw [if_pos k2]
    have g10 := hright.2.2.2.2.2.2.2.2.2
    rw [if_neg (by omega), if_pos k2] at g10
    rw [AnsR.read g10.2.2.2.2]
theorem okD_iff (l : List UInt8) : okD l ↔ ((decM l).right ∧ (decM l).enc = l) := ⟨okD_fwd l, okD_bwd l⟩
/-- what the document hands back -/
theorem okD_same {l : List UInt8} (h : okD l) : decM (l.take (l.length - 8)) = decM l := by
  have hi := (okD_iff l).1 h
  have hok := decM_ok l
  generalize decM l = m at *
  obtain ⟨hright, henc⟩ := hi
  subst henc
  rw [(take_body (m := m)).2.1]
  have rb := read_body hright hok []
  rw [List.append_nil] at rb
  exact rb.2.2.1
end Go.Vc
set_option linter.unusedVariables false
set_option linter.unusedSimpArgs false
namespace Go.Vc
open Go
theorem set_at {α : Type} {A B : List α} {x y : α} {n : Nat} (h : A.length = n) : (A ++ x :: B).set n y = A ++ y :: B := by
  rw [List.set_append_right _ _ (by omega), h, Nat.sub_self, List.set_cons_zero]
theorem part_at {α : Type} {A B B' C : List α} {n m : Nat} (h : A.length = n) (hm : B.length = m) : (A ++ B ++ C).take n ++ B' ++ (A ++ B ++ C).drop (n + m) = A ++ B' ++ C := by
  have e1 : (A ++ B ++ C).take n = A := by rw [List.append_assoc, ← h, List.take_left]
  have e2 : (A ++ B ++ C).drop (n + m) = C := by rw [← h, ← hm, ← List.length_append, List.drop_left]
  rw [e1, e2]
theorem add_add (b k j : Nat) : ((⟨b, 0, none⟩ : Addr).add k).add j = (⟨b, 0, none⟩ : Addr).add (k + j) := by
  rw [addr_add, addr_add, addr_add]; congr 1; omega
theorem many_get {α : Type} (f : List UInt8 → α × List UInt8 × Int) {i m : Nat} (h : i < m) (l : List UInt8) : (many f m l).1[i]? = some (f (many f i l).2.1).1 := by
  induction m with
  | zero => omega
  | succ m ih =>
    simp only [many]
    rcases Nat.lt_or_ge i m with h' | h'
    · rw [List.getElem?_append_left (by rw [many_length]; exact h')]; exact ih h'
    · have : i = m := by omega
      subst this
      rw [List.getElem?_append_right (by rw [many_length]; omega), many_length, Nat.sub_self]; rfl
/-- a block that is new is written again -/
theorem Step.wr_new {c c' : Nat → Nat} {W N : List Nat} {w w1 w2 : World} {j b : Nat} (st : Step c W N w c' w1) (hW : Wr c' j w1 c' w2 (some b)) (hb : w.heap.size ≤ b) (hj : j ∈ N := by simp) : Step c W N w c' w2 := by
  have st2 := hW.step
  refine ⟨st2.os.trans st.os, st2.tape.trans st.tape, st2.output.trans st.output, Nat.le_trans st.size st2.size, st.col, fun b h1 h2 => ?_, fun k hk hc => ?_⟩
  · rcases Nat.lt_or_ge b w1.heap.size with hh | hh
    · exact st.new b h1 hh
    · have := st2.new b hh h2; rw [List.mem_singleton] at this; rw [this]; exact hj
  · by_cases hcj : c k = j
    · have e : w.heap[k]? = some w.heap[k] := Array.getElem?_eq_getElem hk
      have h1 := (st.keep k hk hc).trans e
      have hv := hW.old k _ (view_in (by rw [st.col k hk]; exact hcj) h1) (fun e => by simp at e; omega)
      rw [(view_out hv).2, e]
    · rw [st2.keep k (Nat.lt_of_lt_of_le hk st.size) (by rw [st.col k hk]; simpa using hcj)]; exact st.keep k hk hc
def mcl (k f t : Int) (ns : List Nat) (hd : List UInt8) (cl : Int) (nm : Nat) (oc ac : List Value) (vh vb : Value) : List Value :=
  [.int .i64 k, .int .i64 f, .int .i64 t] ++ (ns.map u64v ++ (bvs hd ++ (.int .i64 cl :: u64v nm :: (oc ++ (ac ++ [vh, vb])))))
section
variable {k f t : Int} {ns : List Nat} {hd : List UInt8} {cl : Int} {nm : Nat} {oc ac : List Value} {vh vb : Value}
theorem mcl_msg (m : MsgR) (v va ua vh vb : Value) : m.cells v va ua vh vb = mcl m.kind m.fr m.to [m.view, m.normal, m.gen, m.commit] m.head m.client m.number (m.op.cells v) (m.ans.cells va ua) vh vb := by
  unfold mcl MsgR.cells; simp
theorem mcl_len (h4 : ns.length = 4) (h32 : hd.length = 32) (h6 : oc.length = 6) (ha : ac.length = 4) : (mcl k f t ns hd cl nm oc ac vh vb).length = 53 := by
  unfold mcl; simp [h4, h32, h6, ha]
theorem mcl_one (h6 : ∀ u ∈ oc, u.oneCell' = true) (ha : ∀ u ∈ ac, u.oneCell' = true) (hh : vh.oneCell' = true) (hb : vb.oneCell' = true) : ∀ u ∈ mcl k f t ns hd cl nm oc ac vh vb, u.oneCell' = true := by
  intro u hu
  unfold mcl at hu
  simp only [List.mem_append, List.mem_cons, List.not_mem_nil, or_false] at hu
  rcases hu with (rfl | rfl | rfl) | hu | hu | rfl | rfl | hu | hu | rfl | rfl
  · rfl
  · rfl
  · rfl
  · obtain ⟨n, _, rfl⟩ := List.mem_map.1 hu; rfl
  · exact bvs_one _ u hu
  · rfl
  · rfl
  · exact h6 u hu
  · exact ha u hu
  · exact hh
  · exact hb
theorem mcl_num {A : List Nat} {x y : Nat} {B : List Nat} {i : Nat} (hA : A.length = i) : (mcl k f t (A ++ x :: B) hd cl nm oc ac vh vb).set (3 + i) (u64v y) = mcl k f t (A ++ y :: B) hd cl nm oc ac vh vb := by
  unfold mcl
  have e : ∀ z : Nat, ([.int .i64 k, .int .i64 f, .int .i64 t] : List Value) ++ ((A ++ z :: B).map u64v ++ (bvs hd ++ (.int .i64 cl :: u64v nm :: (oc ++ (ac ++ [vh, vb]))))) =
      (([.int .i64 k, .int .i64 f, .int .i64 t] : List Value) ++ A.map u64v) ++ u64v z :: (B.map u64v ++ (bvs hd ++ (.int .i64 cl :: u64v nm :: (oc ++ (ac ++ [vh, vb]))))) := fun z => by simp
  rw [e, e]
  exact set_at (by simp [hA]; omega)
theorem mcl_head {hd' : List UInt8} (h4 : ns.length = 4) (h32 : hd.length = 32) (h32' : hd'.length = 32) : (mcl k f t ns hd cl nm oc ac vh vb).take 7 ++ bvs hd' ++ (mcl k f t ns hd cl nm oc ac vh vb).drop (7 + (bvs hd').length) = mcl k f t ns hd' cl nm oc ac vh vb := by
  unfold mcl
  have e : ∀ z : List UInt8, ([.int .i64 k, .int .i64 f, .int .i64 t] : List Value) ++ (ns.map u64v ++ (bvs z ++ (.int .i64 cl :: u64v nm :: (oc ++ (ac ++ [vh, vb]))))) =
      (([.int .i64 k, .int .i64 f, .int .i64 t] : List Value) ++ ns.map u64v) ++ bvs z ++ (.int .i64 cl :: u64v nm :: (oc ++ (ac ++ [vh, vb]))) := fun z => by simp
  rw [e, e]
  exact part_at (by simp [h4]) (by simp [h32, h32'])
theorem mcl_client {cl' : Int} (h4 : ns.length = 4) (h32 : hd.length = 32) : (mcl k f t ns hd cl nm oc ac vh vb).set 39 (.int .i64 cl') = mcl k f t ns hd cl' nm oc ac vh vb := by
  unfold mcl
  have e : ∀ z : Value, ([.int .i64 k, .int .i64 f, .int .i64 t] : List Value) ++ (ns.map u64v ++ (bvs hd ++ (z :: u64v nm :: (oc ++ (ac ++ [vh, vb]))))) =
      (([.int .i64 k, .int .i64 f, .int .i64 t] : List Value) ++ ns.map u64v ++ bvs hd) ++ z :: (u64v nm :: (oc ++ (ac ++ [vh, vb]))) := fun z => by simp
  rw [e, e]
  exact set_at (by simp [h4, h32])
theorem mcl_number {nm' : Nat} (h4 : ns.length = 4) (h32 : hd.length = 32) : (mcl k f t ns hd cl nm oc ac vh vb).set 40 (u64v nm') = mcl k f t ns hd cl nm' oc ac vh vb := by
  unfold mcl
  have e : ∀ z : Value, ([.int .i64 k, .int .i64 f, .int .i64 t] : List Value) ++ (ns.map u64v ++ (bvs hd ++ (.int .i64 cl :: z :: (oc ++ (ac ++ [vh, vb]))))) =
      (([.int .i64 k, .int .i64 f, .int .i64 t] : List Value) ++ ns.map u64v ++ bvs hd ++ [.int .i64 cl]) ++ z :: (oc ++ (ac ++ [vh, vb])) := fun z => by simp
  rw [e, e]
  exact set_at (by simp [h4, h32])
theorem mcl_op {oc' : List Value} (h4 : ns.length = 4) (h32 : hd.length = 32) (h6 : oc.length = 6) (h6' : oc'.length = 6) : (mcl k f t ns hd cl nm oc ac vh vb).take 41 ++ oc' ++ (mcl k f t ns hd cl nm oc ac vh vb).drop (41 + oc'.length) = mcl k f t ns hd cl nm oc' ac vh vb := by
  unfold mcl
  have e : ∀ z : List Value, ([.int .i64 k, .int .i64 f, .int .i64 t] : List Value) ++ (ns.map u64v ++ (bvs hd ++ (.int .i64 cl :: u64v nm :: (z ++ (ac ++ [vh, vb]))))) =
      (([.int .i64 k, .int .i64 f, .int .i64 t] : List Value) ++ ns.map u64v ++ bvs hd ++ [.int .i64 cl, u64v nm]) ++ z ++ (ac ++ [vh, vb]) := fun z => by simp
  rw [e, e]
  exact part_at (by simp [h4, h32]) (by omega)
theorem mcl_ans {ac' : List Value} (h4 : ns.length = 4) (h32 : hd.length = 32) (h6 : oc.length = 6) (ha : ac.length = 4) (ha' : ac'.length = 4) : (mcl k f t ns hd cl nm oc ac vh vb).take 47 ++ ac' ++ (mcl k f t ns hd cl nm oc ac vh vb).drop (47 + ac'.length) = mcl k f t ns hd cl nm oc ac' vh vb := by
  unfold mcl
  have e : ∀ z : List Value, ([.int .i64 k, .int .i64 f, .int .i64 t] : List Value) ++ (ns.map u64v ++ (bvs hd ++ (.int .i64 cl :: u64v nm :: (oc ++ (z ++ [vh, vb]))))) =
      (([.int .i64 k, .int .i64 f, .int .i64 t] : List Value) ++ ns.map u64v ++ bvs hd ++ [.int .i64 cl, u64v nm] ++ oc) ++ z ++ [vh, vb] := fun z => by simp
  rw [e, e]
  exact part_at (by simp [h4, h32, h6]) (by omega)
theorem mcl_hs {vh' : Value} (h4 : ns.length = 4) (h32 : hd.length = 32) (h6 : oc.length = 6) (ha : ac.length = 4) : (mcl k f t ns hd cl nm oc ac vh vb).set 51 vh' = mcl k f t ns hd cl nm oc ac vh' vb := by
  unfold mcl
  have e : ∀ z : Value, ([.int .i64 k, .int .i64 f, .int .i64 t] : List Value) ++ (ns.map u64v ++ (bvs hd ++ (.int .i64 cl :: u64v nm :: (oc ++ (ac ++ [z, vb]))))) =
      (([.int .i64 k, .int .i64 f, .int .i64 t] : List Value) ++ ns.map u64v ++ bvs hd ++ [.int .i64 cl, u64v nm] ++ oc ++ ac) ++ z :: [vb] := fun z => by simp
  rw [e, e]
  exact set_at (by simp [h4, h32, h6, ha])
theorem mcl_bs {vb' : Value} (h4 : ns.length = 4) (h32 : hd.length = 32) (h6 : oc.length = 6) (ha : ac.length = 4) : (mcl k f t ns hd cl nm oc ac vh vb).set 52 vb' = mcl k f t ns hd cl nm oc ac vh vb' := by
  unfold mcl
  have e : ∀ z : Value, ([.int .i64 k, .int .i64 f, .int .i64 t] : List Value) ++ (ns.map u64v ++ (bvs hd ++ (.int .i64 cl :: u64v nm :: (oc ++ (ac ++ [vh, z]))))) =
      (([.int .i64 k, .int .i64 f, .int .i64 t] : List Value) ++ ns.map u64v ++ bvs hd ++ [.int .i64 cl, u64v nm] ++ oc ++ ac ++ [vh]) ++ z :: [] := fun z => by simp
  rw [e, e]
  exact set_at (by simp [h4, h32, h6, ha])
theorem mcl_get51 (h4 : ns.length = 4) (h32 : hd.length = 32) (h6 : oc.length = 6) (ha : ac.length = 4) : (mcl k f t ns hd cl nm oc ac vh vb).toArray[51]? = some vh ∧ (mcl k f t ns hd cl nm oc ac vh vb).toArray[52]? = some vb := by
  have e : mcl k f t ns hd cl nm oc ac vh vb = (([.int .i64 k, .int .i64 f, .int .i64 t] : List Value) ++ ns.map u64v ++ bvs hd ++ [.int .i64 cl, u64v nm] ++ oc ++ ac) ++ [vh, vb] := by unfold mcl; simp
  have hl : (([.int .i64 k, .int .i64 f, .int .i64 t] : List Value) ++ ns.map u64v ++ bvs hd ++ [.int .i64 cl, u64v nm] ++ oc ++ ac).length = 51 := by simp [h4, h32, h6, ha]
  rw [List.getElem?_toArray, List.getElem?_toArray, e, List.getElem?_append_right (by omega), List.getElem?_append_right (by omega), hl]
  exact ⟨rfl, rfl⟩
end
end Go.Vc
namespace Go.Proofs.YtdjgdcafmfheoaaDoor
open Go.Vc
attribute [local irreducible] TInt TBool TStr TPtr TSl TAgg TMap TChan T2 T3 T4 BS Req TSome TCell TByte LoadC LoadA StoreC AllocC RunV RunU CallV ExtV EqA StableC StableA StableV TCells ReadV
attribute [local irreducible] eU eT eE
attribute [local irreducible] DrewC eH many
theorem Eye_H {c : Nat → Nat} {i : Nat} {w : World} {a : Addr} {l : List UInt8} {R : Value → World → Prop} (hp : EyeV (view c i w) a l) (j : Nat) (hm : l.length ≤ 140737488355328)
    (h0 : ¬ 32 ≤ l.length → R (.tuple #[.slice none 0 0, .int .i64 20]) w)
    (h : 32 ≤ l.length → ∀ v c' w', Step c [i] [j] w c' w' → EyeV (view c' i w') a (l.drop 32) → OwS (view c' j w') v 5 1 32 (bvs (l.take 32)) → R (.tuple #[v, .int .i64 0]) w') : CallV Tryd.prog 93 #[.pointer (some a), .int .i64 32] w R :=
  Eye_Raw hp j hm (fun hn => absurd hn (by omega)) (fun _ hs => h0 (by omega)) (fun _ hs v c' w' st _ he ho => h (by omega) v c' w' st he ho)
theorem eH_no {l : List UInt8} (h : ¬ 32 ≤ l.length) : eH l = (List.replicate 32 0, l, 20) := by unfold eH; rw [if_neg h]

theorem rd_number {c : Nat → Nat} {i : Nat} {w : World} {ax : Addr} {l : List UInt8} {n : Int} {R : Value → World → Prop}
    (hp : EyeV (view c i w) ax l) (j : Nat) (hij : i < j) (hm : l.length ≤ 140737488355328) (k : Nat) (hn : n = k) (h1 : 1 ≤ k) (h2 : k ≤ 8)
    (h : ∀ c' w', Step c [i] [j] w c' w' → EyeV (view c' i w') ax (eU k l).2.1 → R (.int .u64 ((eU k l).1 : Nat)) w') :
    CallV Tryd.prog 58 #[.agg #[.pointer (some ax)], .int .i64 n] w R := by
  refine wire_reader_number_vc ?_
  unfold wire_reader_number_VC
  refine AllocC.col c j fun b c1 w1 st1 hb _ => ?_
  refine LoadC.ad (view_sub c1 j w1) (.pointer (some ax)) hb rfl ?_
  refine TPtr.mk ?_
  refine Eye_U (hp.mono (st1.step.sub (by simp; omega))) j (by omega) hm k hn h1 (by omega) fun c2 w2 st2 he2 => ?_
  refine T2.mk (TInt.mk (TInt.mk ?_))
  exact h c2 w2 ((st1.fresh.weak (by simp) (by simp)).trans st2) he2
theorem rd_text {c : Nat → Nat} {i : Nat} {w : World} {ax : Addr} {l : List UInt8} {R : Value → World → Prop}
    (hp : EyeV (view c i w) ax l) (j : Nat) (hij : i < j) (hm : l.length ≤ 140737488355328)
    (h : ∀ v c' w', Step c [i] [j] w c' w' → EyeV (view c' i w') ax (eT l).2.1 → OwS (view c' j w') v 5 1 (eT l).1.length (bvs (eT l).1) → R v w') :
    CallV Tryd.prog 61 #[.agg #[.pointer (some ax)]] w R := by
  refine wire_reader_text_vc ?_
  unfold wire_reader_text_VC
  refine AllocC.col c j fun b c1 w1 st1 hb _ => ?_
  refine LoadC.ad (view_sub c1 j w1) (.pointer (some ax)) hb rfl ?_
  refine TPtr.mk ?_
  refine Eye_T (hp.mono (st1.step.sub (by simp; omega))) j hm fun v c2 w2 st2 he2 ho2 => ?_
  obtain ⟨o2, cp2, rfl⟩ := ho2.form
  refine T2.mk (TSl.mk (TInt.mk ?_))
  exact h _ c2 w2 ((st1.fresh.weak (by simp) (by simp)).trans st2) he2 ho2
theorem hash_size {g : List UInt8} (h : g.length = 32) : (Tryd.prog.info? 25).map (·.size) = some (bvs g).toArray.size := by
  rw [show (bvs g).toArray.size = 32 by simp [h]]; kernel_rfl
theorem rd_hash {c : Nat → Nat} {i : Nat} {w : World} {ax : Addr} {l : List UInt8} {R : Value → World → Prop}
    (hp : EyeV (view c i w) ax l) (j : Nat) (hij : i < j) (hm : l.length ≤ 140737488355328)
    (h : ∀ c' w', Step c [i] [j] w c' w' → EyeV (view c' i w') ax (eH l).2.1 → R (.agg (bvs (eH l).1).toArray) w') :
    CallV Tryd.prog 59 #[.agg #[.pointer (some ax)]] w R := by
  refine wire_reader_hash_vc ?_
  unfold wire_reader_hash_VC
  refine AllocC.col c j fun b c1 w1 st1 hb _ => ?_
  replace hp := hp.mono (st1.step.sub (i := i) (by simp; omega))
  refine AllocC.col c1 j fun b2 c2 w2 st2 hb2 hnew => ?_
  replace hp := hp.mono (st2.step.sub (i := i) (by simp; omega))
  replace hb := st2.sub _ _ hb
  have st := st1.fresh.trans st2.fresh
  have hsz : w.heap.size ≤ b2 := Nat.le_trans st1.fresh.size (size_le_of_none hnew)
  have hz : view c2 j w2 b2 = some (.cells (bvs (List.replicate 32 0)).toArray 25 (0, 0)) := hb2
  refine LoadC.ad (view_sub c2 j w2) (.pointer (some ax)) hb rfl (TPtr.mk ?_)
  have k3 : ∀ (x : Value) (g : List UInt8) c' w' (m : Nat), g = (eH l).1 → EyeV (view c' i w') ax (eH l).2.1 → Step c [i] [j] w c' w' → view c' j w' b2 = some (.cells (bvs (List.replicate 32 0)).toArray 25 (0, 0)) →
      (∃ xs, RdS (wv w') x 1 m xs ∧ m ≤ 32 ∧ (∀ u ∈ xs, u.oneCell' = true) ∧ xs ++ (bvs (List.replicate 32 0)).drop m = bvs g) →
      RunV Tryd.prog (Builtin.copy_ #[26, 26] 3 #[.slice (slBase (some (⟨b2, 0, none⟩ : Addr)) 32 0 1) 32 32, x]) w' fun v13 w4 => TInt .i64 v13 fun n13 => LoadA w4 (⟨b2, 0, none⟩ : Addr) 32 fun cs14 => RunU Tryd.prog (storeVar 25 (⟨b2, 0, none⟩ : Addr) (.agg cs14)) w4 fun w5 => LoadA w5 (⟨b2, 0, none⟩ : Addr) 32 fun csR => R (.agg csR) w5 := by
    intro x g c' w' m hg he st hb2 hx
    obtain ⟨xs, hxr, hm, hx1, hxs⟩ := hx
    have hgl : g.length = 32 := by rw [hg]; exact (eH_len _).1
    have ea : slBase (some (⟨b2, 0, none⟩ : Addr)) 32 0 1 = slBase (some ((⟨b2, 0, none⟩ : Addr).add 0)) 32 0 1 := by rw [addr_add]
    rw [ea]
    refine copy_arr (cs := bvs (List.replicate 32 0)) Tryd.underlying26 (by kernel_rfl) hb2 (by simp) hxr hm hx1 fun w12 st12 _ hb2 => TInt.mk ?_
    have st2 := st12.step
    have he := he.mono (st2.sub (i := i) (by simp; omega))
    have ecs : (bvs (List.replicate 32 0)).take 0 ++ xs ++ (bvs (List.replicate 32 0)).drop (0 + m) = bvs g := by rw [List.take_zero, List.nil_append, Nat.zero_add]; exact hxs
    rw [ecs] at hb2
    refine LoadA.all (view_sub _ _ _) hb2 (by simp [hgl]) ?_
    have hst : Step c [i] [j] w c' w12 := st.wr_new st12 hsz
    refine RunU.var hb2 (hash_size hgl) rfl (bvs_all _) fun w13 st13 hb3 => ?_
    have he := he.mono (st13.step.sub (i := i) (by simp; omega))
    refine LoadA.all (view_sub _ _ _) hb3 (by simp [hgl]) ?_
    rw [hg]
    exact h c' w13 (hst.wr_new st13 hsz) he
  refine Eye_H hp j hm (fun hs => ?_) (fun hs v12 c12 w12 st12 he r12 => ?_)
  · have e1 := eH_no hs
    (repeat (first | refine TInt.mk ?_ | refine TBool.mk ?_ | refine TStr.mk ?_ | refine TSl.mk ?_ | refine TPtr.mk ?_ | refine TAgg.mk ?_ | refine T2.mk ?_ | refine T3.mk ?_ | refine TSome.mk ?_))
    exact k3 (.slice none 0 0) (List.replicate 32 0) c2 w2 0 (by rw [e1]) (by rw [e1]; exact hp) (st.weak (by simp) (by simp)) hz ⟨[], RdS.nil .., by omega, by simp, by simp⟩
  · have e1 := eH_yes hs
    obtain ⟨o12, p12, rfl⟩ := r12.form
    (repeat (first | refine TInt.mk ?_ | refine TBool.mk ?_ | refine TStr.mk ?_ | refine TSl.mk ?_ | refine TPtr.mk ?_ | refine TAgg.mk ?_ | refine T2.mk ?_ | refine T3.mk ?_ | refine TSome.mk ?_))
    exact k3 _ (l.take 32) c12 w12 32 (by rw [e1]) (by rw [e1]; exact he) ((st.weak (by simp) (by simp)).trans st12) (st12.sub (by simp; omega) _ _ hz) ⟨_, r12.rd.mono (view_sub _ _ _), by omega, bvs_one _, by simp⟩
end Go.Proofs.YtdjgdcafmfheoaaDoor
set_option linter.unusedVariables false
set_option linter.unusedSimpArgs false
namespace Go.Vc
open Go
def nilV : Value := .slice none 0 0
def mptrs (a : Addr) : List Value := [.pointer (some (a.add 3)), .pointer (some (a.add 4)), .pointer (some (a.add 5)), .pointer (some (a.add 6))]
theorem mptrs_get (a : Addr) {i : Nat} (h : i < 4) : (mptrs a).toArray[i]? = some (.pointer (some (a.add (3 + i)))) := by
  match i, h with
  | 0, _ => rfl
  | 1, _ => rfl
  | 2, _ => rfl
  | 3, _ => rfl
def zopL : List Value := OpR.zero.cells nilV
def zanL : List Value := AnsR.zero.cells nilV nilV
theorem op_one {o : OpR} {v : Value} {h : View} {z n : Nat} {xs : List Value} (hv : RdS h v z n xs) : (o.cells v).length = 6 ∧ ∀ u ∈ o.cells v, u.oneCell' = true := by
  obtain ⟨ov, cv, rfl⟩ := hv.form
  refine ⟨rfl, fun u hu => ?_⟩
  unfold OpR.cells at hu
  simp only [List.mem_cons, List.not_mem_nil, or_false] at hu
  rcases hu with rfl | rfl | rfl | rfl | rfl | rfl <;> rfl
theorem ans_one {a : AnsR} {v u : Value} {h h' : View} {z n z' n' : Nat} {xs xs' : List Value} (hv : RdS h v z n xs) (hu : RdS h' u z' n' xs') : (a.cells v u).length = 4 ∧ ∀ x ∈ a.cells v u, x.oneCell' = true := by
  obtain ⟨ov, cv, rfl⟩ := hv.form
  obtain ⟨ou, cu, rfl⟩ := hu.form
  refine ⟨rfl, fun u hu => ?_⟩
  unfold AnsR.cells at hu
  simp only [List.mem_cons, List.not_mem_nil, or_false] at hu
  rcases hu with rfl | rfl | rfl | rfl <;> rfl
theorem zop_one : ∀ u ∈ zopL, u.oneCell' = true := (op_one (RdS.nil (fun _ => none) 1 none 0)).2
theorem zan_one : ∀ u ∈ zanL, u.oneCell' = true := (ans_one (RdS.nil (fun _ => none) 1 none 0) (RdS.nil (fun _ => none) 1 none 0)).2
end Go.Vc
namespace Go.Proofs.YtdjgdcafmfheoaaDoor
open Go.Vc
attribute [local irreducible] TInt TBool TStr TPtr TSl TAgg TMap TChan T2 T3 T4 BS Req TSome TCell TByte LoadC LoadA StoreC AllocC RunV RunU CallV ExtV EqA StableC StableA StableV TCells ReadV
attribute [local irreducible] eU eT eE
attribute [local irreducible] DrewC eH many
theorem slHash : SlT Tryd.prog 35 25 32 32 := .of (by kernel_rfl)
theorem slBls : SlT Tryd.prog 36 26 1 24 := .of (by kernel_rfl)
/-- what stays put while a message is read -/
structure RdI (w : World) (o0 : Option Addr) (p0 : Nat) (l : List UInt8) (a2 a4 : Nat) (ax : Addr) (rest : List UInt8) (c' : Nat → Nat) (w' : World) : Prop where
  S : Fr w c' w'
  G : GlobS (view c' 0 w')
  D : RdS (view c' 0 w') (.slice o0 l.length p0) 1 l.length (bvs l)
  b2 : view c' 3 w' a2 = some (.cells (MsgR.zero.cells nilV nilV nilV nilV nilV).toArray 38 (0, 0))
  b4 : view c' 1 w' a4 = some (.cells #[.pointer (some ax)] 111 (0, 0))
  he : EyeV (view c' 2 w') ax rest
  le : rest.length ≤ l.length
section
variable {w : World} {o0 : Option Addr} {p0 : Nat} {l : List UInt8} {a2 a4 : Nat} {ax : Addr} {rest : List UInt8} {c' : Nat → Nat} {w' : World} {K : Value → World → Prop}
theorem RdI.go (H : RdI w o0 p0 l a2 a4 ax rest c' w') {c'' : Nat → Nat} {w'' : World} {W N : List Nat} (st : Step c' W N w' c'' w'') (hW : ∀ x ∈ W, x ∈ [4, 5, 6, 7, 8, 9]) (hN : ∀ x ∈ N, x ∈ [0, 1, 2, 3, 4, 5, 6, 7, 8, 9]) : RdI w o0 p0 l a2 a4 ax rest c'' w'' := by
  have hn : ∀ i : Nat, i < 4 → i ∉ W := fun i hi hx => by have := hW i hx; simp at this; omega
  refine ⟨H.S.go st (fun x hx => ?_) hN, H.G.mono (st.sub (hn 0 (by omega))), H.D.mono (st.sub (hn 0 (by omega))), st.sub (hn 3 (by omega)) _ _ H.b2, st.sub (hn 1 (by omega)) _ _ H.b4, H.he.mono (st.sub (hn 2 (by omega))), H.le⟩
  have := hW x hx; simp at this ⊢; omega
theorem RdI.eye (H : RdI w o0 p0 l a2 a4 ax rest c' w') {c'' : Nat → Nat} {w'' : World} {j : Nat} {rest' : List UInt8} (st : Step c' [2] [j] w' c'' w'') (hj : j ≤ 9) (he : EyeV (view c'' 2 w'') ax rest') (hl : rest'.length ≤ rest.length) : RdI w o0 p0 l a2 a4 ax rest' c'' w'' := by
  refine ⟨H.S.go st (by decide) (fun x hx => ?_), H.G.mono (st.sub (by decide)), H.D.mono (st.sub (by decide)), st.sub (by decide) _ _ H.b2, st.sub (by decide) _ _ H.b4, he, Nat.le_trans hl H.le⟩
  simp at hx; simp; omega
theorem RdI.ld (H : RdI w o0 p0 l a2 a4 ax rest c' w') {C : Array Value → Prop} (h : C #[.pointer (some ax)]) : LoadA w' (⟨a4, 0, none⟩ : Addr) 1 C := LoadA.all (view_sub _ _ _) H.b4 rfl h
theorem RdI.st (H : RdI w o0 p0 l a2 a4 ax rest c' w') : StableA w' (⟨a4, 0, none⟩ : Addr) 1 (.agg #[.pointer (some ax)]) := StableA.all (view_sub _ _ _) H.b4 rfl
theorem RdI.num (H : RdI w o0 p0 l a2 a4 ax rest c' w') (hl : l.length ≤ 1000000) (k : Nat) {n : Int} (hn : n = k) (h1 : 1 ≤ k) (h2 : k ≤ 8)
    (h : ∀ c'' w'', Step c' [2] [5] w' c'' w'' → RdI w o0 p0 l a2 a4 ax (eU k rest).2.1 c'' w'' → K (.int .u64 ((eU k rest).1 : Nat)) w'') : CallV Tryd.prog 58 #[.agg #[.pointer (some ax)], .int .i64 n] w' K :=
  rd_number H.he 5 (by omega) (by have := H.le; omega) k hn h1 h2 fun c'' w'' st he => h c'' w'' st (H.eye st (by omega) he (eU_len _ _))
theorem RdI.txt (H : RdI w o0 p0 l a2 a4 ax rest c' w') (hl : l.length ≤ 1000000) (j : Nat) (hj : 2 < j) (hj9 : j ≤ 9)
    (h : ∀ o p c'' w'', Step c' [2] [j] w' c'' w'' → RdI w o0 p0 l a2 a4 ax (eT rest).2.1 c'' w'' → OwS (view c'' j w'') (.slice o (eT rest).1.length p) 5 1 (eT rest).1.length (bvs (eT rest).1) → K (.slice o (eT rest).1.length p) w'') : CallV Tryd.prog 61 #[.agg #[.pointer (some ax)]] w' K :=
  rd_text H.he j (by omega) (by have := H.le; omega) fun v c'' w'' st he ho => by
    obtain ⟨o, p, rfl⟩ := ho.form
    exact h o p c'' w'' st (H.eye st hj9 he (eT_len _).1) ho
theorem RdI.hash (H : RdI w o0 p0 l a2 a4 ax rest c' w') (hl : l.length ≤ 1000000)
    (h : ∀ c'' w'', Step c' [2] [5] w' c'' w'' → RdI w o0 p0 l a2 a4 ax (eH rest).2.1 c'' w'' → K (.agg (bvs (eH rest).1).toArray) w'') : CallV Tryd.prog 59 #[.agg #[.pointer (some ax)]] w' K :=
  rd_hash H.he 5 (by omega) (by have := H.le; omega) fun c'' w'' st he => h c'' w'' st (H.eye st (by omega) he (eH_len _).2)
end

theorem Read_end {w : World} {o0 : Option Addr} {p0 : Nat} {l : List UInt8} {a2 a4 a5 : Nat} {ax : Addr} {rest : List UInt8} {c' : Nat → Nat} {w' : World} {R : Value → World → Prop} (c : Nat → Nat) (j : Nat) (hl : l.length ≤ 1000000) {vo va ua vh vb : Value}
    (h : ∀ v va ua vh vb c' w', Step c [] [j] w c' w' → MsgV (view c' j w') (rdM l).1 v va ua vh vb → R (.tuple #[.agg ((rdM l).1.cells v va ua vh vb).toArray, .int .i64 (rdM l).2]) w')
    (H : RdI w o0 p0 l a2 a4 ax rest c' w') (b5 : view c' 4 w' a5 = some (.cells ((decM l).cells vo va ua vh vb).toArray 38 (0, 0))) (M1 : MsgV (views c' [6, 7, 8, 9] w') (decM l) vo va ua vh vb) :
    LoadA w' (⟨a5, 0, none⟩ : Addr) 53 fun cs92 => CallV Tryd.prog 16 #[.agg cs92] w' fun v93 w32 => T2 v93 fun v93a v93b => TSl v93a fun o93a l93a c93a => TInt .i64 v93b fun n93b => BS (n93b != (0 : Int)) (wire_Read_K2 (⟨a2, 0, none⟩ : Addr) (⟨a5, 0, none⟩ : Addr) true w32 R) (CallV Tryd.prog 63 #[.slice o93a l93a c93a, .slice o0 l.length p0] w32 fun v101 w33 => TBool v101 fun b101 => wire_Read_K2 (⟨a2, 0, none⟩ : Addr) (⟨a5, 0, none⟩ : Addr) (!b101) w33 R) := by
  have hok := decM_ok l
  have h32 := hok.2.2.2.2.2.1
  have h53 := msg_get (m := decM l) (v := vo) (va := va) (ua := ua) (vh := vh) (vb := vb) h32
  have hz : (MsgR.zero.cells nilV nilV nilV nilV nilV).length = 53 := rfl
  have k2 : ∀ (b : Bool) c' w', Fr w c' w' → view c' 3 w' a2 = some (.cells (MsgR.zero.cells nilV nilV nilV nilV nilV).toArray 38 (0, 0)) → view c' 4 w' a5 = some (.cells ((decM l).cells vo va ua vh vb).toArray 38 (0, 0)) → MsgV (views c' [6, 7, 8, 9] w') (decM l) vo va ua vh vb →
      (b = false ↔ ((decM l).right ∧ (decM l).enc = l)) → wire_Read_K2 (⟨a2, 0, none⟩ : Addr) (⟨a5, 0, none⟩ : Addr) b w' R := by
    intro b c' w' S b2 b5 M1 hb
    unfold wire_Read_K2
    cases b
    · refine BS.no rfl ?_
      refine LoadA.all (view_sub _ _ _) b5 (by simp [h53]) ?_
      have hone : ((decM l).cells vo va ua vh vb).toArray.all (·.oneCell') = true := by
        rw [Array.all_eq_true']
        intro u hu
        rw [mcl_msg] at hu
        obtain ⟨_, _, rfl⟩ := LsV.form M1.hs
        obtain ⟨_, _, rfl⟩ := LsV.form M1.bs
        exact mcl_one (op_one M1.op).2 (ans_one M1.ans.d M1.ans.n).2 rfl rfl u (by simpa using hu)
      refine RunU.var b2 (by rw [show ((decM l).cells vo va ua vh vb).toArray.size = 53 by simp [h53]]; kernel_rfl) (by simp [h53, hz]) hone fun w16 st16 b2 => ?_
      replace S := S.go st16.step (by decide) (by decide); replace M1 := M1.mono (st16.step.subs (by decide))
      refine LoadA.all (view_sub _ _ _) b2 (by simp [h53]) ?_
      have := h vo va ua vh vb _ _ (S.leave c j)
      rw [rdM_yes (hb.1 rfl)] at this
      exact this (M1.mono (S.outs c j (by decide)))
    · refine BS.yes rfl ?_
      refine RunU.var b2 (by kernel_rfl) rfl (by kernel_rfl) fun w16 st16 b2 => ?_
      replace S := S.go st16.step (by decide) (by decide); replace M1 := M1.mono (st16.step.subs (by decide))
      refine LoadA.all (view_sub _ _ _) b2 rfl ?_
      have := h nilV nilV nilV nilV nilV _ _ (S.leave c j)
      rw [rdM_no (fun hh => by simpa using hb.2 hh)] at this
      exact this ⟨RdS.none_bytes .., ⟨RdS.none_bytes .., RdS.none_strs ..⟩, LsV.nil .., LsV.nil ..⟩
  have hiff := wrM_iff (decM l) l
  obtain ⟨S, G, D, b2, b4, he, le⟩ := H
  refine LoadA.all (view_sub _ _ _) b5 (by simp [h53]) ?_
  refine wire_Write_c c' 5 (M1.mono (views_sub _ _ _)) hok (G.mono (view_sub _ _ _)) fun v8 c8 w8 st8 r8 => ?_
  replace S := S.go st8 (by decide) (by decide); replace D := D.mono (st8.sub (by decide)); replace b2 := st8.sub (by decide) _ _ b2; replace b5 := st8.sub (by decide) _ _ b5; replace M1 := M1.mono (st8.subs (by decide))
  obtain ⟨o8, p8, rfl⟩ := r8.form
  (repeat (first | refine TInt.mk ?_ | refine TBool.mk ?_ | refine TStr.mk ?_ | refine TSl.mk ?_ | refine TPtr.mk ?_ | refine TAgg.mk ?_ | refine T2.mk ?_ | refine T3.mk ?_ | refine TSome.mk ?_))
  refine BS.ne (fun hne => ?_) (fun he0 => ?_)
  · exact k2 true _ _ S b2 b5 M1 ⟨fun h => by simp at h, fun hh => absurd (hiff.2 hh).1 hne⟩
  · have hlen : (wrM (decM l)).1.length ≤ 1099511627776 := by
      unfold wrM; split
      · rename_i hR
        have := enc_le hR hok
        show (decM l).enc.length ≤ _
        omega
      · simp
    refine Equal_bytes c8 (r8.rd.mono (view_sub _ _ _)) (D.mono (view_sub _ _ _)) hlen fun w9 st9 => TBool.mk ?_
    replace S := S.go st9 (by decide) (by decide); replace b2 := st9.sub (by decide) _ _ b2; replace b5 := st9.sub (by decide) _ _ b5; replace M1 := M1.mono (st9.subs (by decide))
    refine k2 _ _ _ S b2 b5 M1 ?_
    rw [← hiff]
    simp only [Bool.not_eq_false', decide_eq_true_eq]
    exact ⟨fun e => ⟨he0, e.symm⟩, fun e => e.2.symm⟩
end Go.Proofs.YtdjgdcafmfheoaaDoor
set_option linter.unusedVariables false
set_option linter.unusedSimpArgs false
namespace Go.Vc
open Go
theorem LsO.hash {T z : Nat} {h g g' : View} {v : Value} {l : List (List UInt8)} (H : LsO HashP T z h g v l) : LsO HashP T z h g' v l := H
theorem fill_set {A : List Nat} {i n x : Nat} (hA : A.length = i) (hi : i < n) : A ++ List.replicate (n - i) 0 = A ++ 0 :: List.replicate (n - (i + 1)) 0 ∧ A ++ x :: List.replicate (n - (i + 1)) 0 = (A ++ [x]) ++ List.replicate (n - (i + 1)) 0 := by
  refine ⟨?_, by simp⟩
  rw [show n - i = (n - (i + 1)) + 1 by omega, List.replicate_succ]
end Go.Vc
namespace Go.Proofs.YtdjgdcafmfheoaaDoor
open Go.Vc
attribute [local irreducible] TInt TBool TStr TPtr TSl TAgg TMap TChan T2 T3 T4 BS Req TSome TCell TByte LoadC LoadA StoreC AllocC RunV RunU CallV ExtV EqA StableC StableA StableV TCells ReadV
attribute [local irreducible] eU eT eE
attribute [local irreducible] DrewC eH many

set_option maxHeartbeats 1000000
theorem Read_blocks {w : World} {o0 : Option Addr} {p0 : Nat} {l : List UInt8} {a2 a4 a5 : Nat} {ax : Addr} {c' : Nat → Nat} {w' : World} {R : Value → World → Prop} (c : Nat → Nat) (j : Nat) (hl : l.length ≤ 1000000) {vo xo yo oh : Option Addr} {vp xp yp ph : Nat}
    (h : ∀ v va ua vh vb c' w', Step c [] [j] w c' w' → MsgV (view c' j w') (rdM l).1 v va ua vh vb → R (.tuple #[.agg ((rdM l).1.cells v va ua vh vb).toArray, .int .i64 (rdM l).2]) w')
    (H : RdI w o0 p0 l a2 a4 ax (qy l).2.1 c' w') (b5 : view c' 4 w' a5 = some (.cells (mcl ((qk l).1 : Nat) ((qf l).1 : Nat) ((qt l).1 : Nat) (qn l).1 (qh l).1 ((qc l).1 : Nat) (qm l).1 ((rdOp (qo l).1).1.cells (.slice vo (rdOp (qo l).1).1.data.length vp)) ((rdAns (qa l).1).1.cells (.slice xo (rdAns (qa l).1).1.data.length xp) (.slice yo (rdAns (qa l).1).1.names.length yp)) (.slice oh (qH l).1.length ph) nilV).toArray 38 (0, 0)))
    (r6 : RdS (view c' 6 w') (.slice vo (rdOp (qo l).1).1.data.length vp) 1 (rdOp (qo l).1).1.data.length (bvs (rdOp (qo l).1).1.data)) (d6 : AnsV (view c' 6 w') (rdAns (qa l).1).1 (.slice xo (rdAns (qa l).1).1.data.length xp) (.slice yo (rdAns (qa l).1).1.names.length yp))
    (k8 : LsO HashP 25 32 (view c' 8 w') (view c' 5 w') (.slice oh (qH l).1.length ph) (qH l).1) :
    LoopN .u64 (0 : Int) w' fun B3 n81 w26 => BS (decide (n81 < (((qy l).1 : Nat) : Int))) (DrewC w26 fun w27 => LoadC w27 ((⟨a5, 0, none⟩ : Addr).add 52) fun v84 => TSl v84 fun o84 l84 c84 => LoadA w27 (⟨a4, 0, none⟩ : Addr) 1 fun cs85 => CallV Tryd.prog 61 #[.agg cs85] w27 fun v86 w28 => TSl v86 fun o86 l86 c86 => StableC w28 ((⟨a5, 0, none⟩ : Addr).add 52) (.slice o84 l84 c84) ∧ AllocC w28 (.cells #[.slice o86 l86 c86] 26) fun a87 w29 => StableC w29 ((⟨a5, 0, none⟩ : Addr).add 52) (.slice o84 l84 c84) ∧ RunV Tryd.prog (Builtin.append_ #[36, 36] 36 #[.slice o84 l84 c84, .slice (some ⟨a87, 0, none⟩) 1 1]) w29 fun v88 w30 => TSl v88 fun o88 l88 c88 => StoreC w30 ((⟨a5, 0, none⟩ : Addr).add 52) (.slice o88 l88 c88) fun w31 => B3 [.int .u64 (IntKind.wrap .u64 (n81 + (1 : Int)))] w31) (LoadA w26 (⟨a5, 0, none⟩ : Addr) 53 fun cs92 => CallV Tryd.prog 16 #[.agg cs92] w26 fun v93 w32 => T2 v93 fun v93a v93b => TSl v93a fun o93a l93a c93a => TInt .i64 v93b fun n93b => BS (n93b != (0 : Int)) (wire_Read_K2 (⟨a2, 0, none⟩ : Addr) (⟨a5, 0, none⟩ : Addr) true w32 R) (CallV Tryd.prog 63 #[.slice o93a l93a c93a, .slice o0 l.length p0] w32 fun v101 w33 => TBool v101 fun b101 => wire_Read_K2 (⟨a2, 0, none⟩ : Addr) (⟨a5, 0, none⟩ : Addr) (!b101) w33 R)) := by
  have hok := decM_ok l
  have h32 : (qh l).1.length = 32 := hok.2.2.2.2.2.1
  have h4 : (qn l).1.length = 4 := many_length _ _ _
  have h6 : ((rdOp (qo l).1).1.cells (.slice vo (rdOp (qo l).1).1.data.length vp)).length = 6 := rfl
  have ha : ((rdAns (qa l).1).1.cells (.slice xo (rdAns (qa l).1).1.data.length xp) (.slice yo (rdAns (qa l).1).1.names.length yp)).length = 4 := rfl
  have hy : (qy l).1 < 256 ^ 1 := eU_lt 1 _
  refine LoopN.up (qy l).1 (fun i w' => ∃ c' o n p, RdI w o0 p0 l a2 a4 ax (many eT i (qy l).2.1).2.1 c' w' ∧ view c' 4 w' a5 = some (.cells (mcl ((qk l).1 : Nat) ((qf l).1 : Nat) ((qt l).1 : Nat) (qn l).1 (qh l).1 ((qc l).1 : Nat) (qm l).1 ((rdOp (qo l).1).1.cells (.slice vo (rdOp (qo l).1).1.data.length vp)) ((rdAns (qa l).1).1.cells (.slice xo (rdAns (qa l).1).1.data.length xp) (.slice yo (rdAns (qa l).1).1.names.length yp)) (.slice oh (qH l).1.length ph) (.slice o n p)).toArray 38 (0, 0)) ∧
    RdS (view c' 6 w') (.slice vo (rdOp (qo l).1).1.data.length vp) 1 (rdOp (qo l).1).1.data.length (bvs (rdOp (qo l).1).1.data) ∧ AnsV (view c' 6 w') (rdAns (qa l).1).1 (.slice xo (rdAns (qa l).1).1.data.length xp) (.slice yo (rdAns (qa l).1).1.names.length yp) ∧
    LsO HashP 25 32 (view c' 8 w') (view c' 5 w') (.slice oh (qH l).1.length ph) (qH l).1 ∧ LsO BytesP 26 1 (view c' 9 w') (view c' 7 w') (.slice o n p) (many eT i (qy l).2.1).1) ⟨c', none, 0, 0, by rw [many_zero]; exact H, b5, r6, d6, k8, by rw [many_zero]; exact LsO.nil ..⟩ ?_
  clear H b5 r6 d6 k8
  rintro i w8 B hi ⟨c8, o, n, p, H, b5, r6, d6, k8, t9⟩ back
  have hil := many_length eT i (qy l).2.1
  refine BS.dec (fun hlt => ?_) (fun hge => ?_)
  · refine DrewC.col c8 fun w9 st9 => ?_
    replace H := H.go st9 (by decide) (by decide); replace b5 := st9.sub (by decide) _ _ b5; replace r6 := r6.mono (st9.sub (by decide)); replace d6 := d6.mono (st9.sub (by decide)); replace k8 := k8.mono' (fun _ _ hp => hp) (st9.sub (by decide)); replace t9 := t9.mono' (fun _ _ hp => hp.mono (st9.sub (by decide))) (st9.sub (by decide))
    refine LoadC.ad (view_sub _ _ _) _ b5 (mcl_get51 h4 h32 h6 ha).2 (TSl.mk ?_)
    refine H.ld (H.txt hl 7 (by omega) (by omega) fun o10 p10 c10 w10 st10 H r10 => TSl.mk ?_)
    replace b5 := st10.sub (by decide) _ _ b5; replace r6 := r6.mono (st10.sub (by decide)); replace d6 := d6.mono (st10.sub (by decide)); replace k8 := k8.mono' (fun _ _ hp => hp) (st10.sub (by decide)); replace t9 := t9.mono' (fun _ _ hp => hp.mono (st10.sub (by decide))) (st10.sub (by decide))
    refine ⟨StableC.ad (view_sub _ _ _) b5 (mcl_get51 h4 h32 h6 ha).2, ?_⟩
    refine AllocC.col c10 5 fun y c11 w11 st11 b11 _ => ?_
    replace H := H.go st11.step (by decide) (by decide); replace b5 := st11.step.sub (by decide) _ _ b5; replace r6 := r6.mono (st11.step.sub (by decide)); replace d6 := d6.mono (st11.step.sub (by decide)); replace k8 := k8.mono' (fun _ _ hp => hp) (st11.step.sub (by decide)); replace t9 := t9.mono' (fun _ _ hp => hp.mono (st11.step.sub (by decide))) (st11.step.sub (by decide)); replace r10 := r10.mono (st11.step.sub (by decide))
    refine ⟨StableC.ad (view_sub _ _ _) b5 (mcl_get51 h4 h32 h6 ha).2, ?_⟩
    refine LsO.app slBls t9 (m := [(eT (many eT i (qy l).2.1).2.1).1]) (LsW.one (view_sub _ _ _ _ _ b11) rfl ⟨_, rfl, r10.rd⟩) (fun _ _ hp => hp.ones) (by rw [hil]; simp; omega) (by rw [hil]; simp; omega) fun o12 p12 c12 w12 st12 t9 => TSl.mk ?_
    replace H := H.go st12.step (by decide) (by decide); replace b5 := st12.step.sub (by decide) _ _ b5; replace r6 := r6.mono (st12.step.sub (by decide)); replace d6 := d6.mono (st12.step.sub (by decide)); replace k8 := k8.mono' (fun _ _ hp => hp) (st12.step.sub (by decide))
    replace t9 := t9.mono' (fun _ _ hp => hp.mono (st12.step.sub (by decide))) (Sub.refl _)
    refine StoreC.ad b5 (by simp [mcl_len h4 h32 h6 ha]) fun w13 st13 _ b5 => ?_
    replace H := H.go st13.step (by decide) (by decide); replace r6 := r6.mono (st13.step.sub (by decide)); replace d6 := d6.mono (st13.step.sub (by decide)); replace k8 := k8.mono' (fun _ _ hp => hp) (st13.step.sub (by decide)); replace t9 := t9.mono' (fun _ _ hp => hp.mono (st13.step.sub (by decide))) (st13.step.sub (by decide))
    rw [List.setIfInBounds_toArray, mcl_bs h4 h32 h6 ha] at b5
    rw [wrap_u64 (by omega) (by omega)]
    exact back _ (by omega) (by rw [many_succ]; exact ⟨c12, o12, _, p12, H, b5, r6, d6, k8.hash, t9⟩)
  · have : i = (qy l).1 := by omega
    subst this
    have hn := t9.len
    subst hn
    refine Read_end c j hl h H (vo := .slice vo (rdOp (qo l).1).1.data.length vp) (va := .slice xo (rdAns (qa l).1).1.data.length xp) (ua := .slice yo (rdAns (qa l).1).1.names.length yp) (vh := .slice oh (qH l).1.length ph) (vb := .slice o (many eT (qy l).1 (qy l).2.1).1.length p) ?_ ?_
    · rw [mcl_msg, decM_op, decM_ans]
      have e4 : (qn l).1 = [(decM l).view, (decM l).normal, (decM l).gen, (decM l).commit] := four_of h4
      rw [← e4]
      exact b5
    · refine ⟨?_, ?_, ?_, ?_⟩
      · unfold OpRV
        rw [decM_op]; exact r6.mono (view_views (by decide))
      · rw [decM_ans]; exact d6.mono (view_views (by decide))
      · exact LsO.rd k8 (fun _ _ hp => hp) (view_views (by decide))
      · exact LsO.rd t9 (fun _ _ hp => hp.mono (view_views (by decide))) (view_views (by decide))

theorem Read_hashes {w : World} {o0 : Option Addr} {p0 : Nat} {l : List UInt8} {a2 a4 a5 : Nat} {ax : Addr} {c' : Nat → Nat} {w' : World} {C : World → Prop} (hl : l.length ≤ 1000000) {vo xo yo : Option Addr} {vp xp yp : Nat}
    (H : RdI w o0 p0 l a2 a4 ax (qx l).2.1 c' w') (b5 : view c' 4 w' a5 = some (.cells (mcl ((qk l).1 : Nat) ((qf l).1 : Nat) ((qt l).1 : Nat) (qn l).1 (qh l).1 ((qc l).1 : Nat) (qm l).1 ((rdOp (qo l).1).1.cells (.slice vo (rdOp (qo l).1).1.data.length vp)) ((rdAns (qa l).1).1.cells (.slice xo (rdAns (qa l).1).1.data.length xp) (.slice yo (rdAns (qa l).1).1.names.length yp)) nilV nilV).toArray 38 (0, 0)))
    (r6 : RdS (view c' 6 w') (.slice vo (rdOp (qo l).1).1.data.length vp) 1 (rdOp (qo l).1).1.data.length (bvs (rdOp (qo l).1).1.data)) (d6 : AnsV (view c' 6 w') (rdAns (qa l).1).1 (.slice xo (rdAns (qa l).1).1.data.length xp) (.slice yo (rdAns (qa l).1).1.names.length yp))
    (hC : ∀ oh ph c' w', RdI w o0 p0 l a2 a4 ax (qH l).2.1 c' w' → view c' 4 w' a5 = some (.cells (mcl ((qk l).1 : Nat) ((qf l).1 : Nat) ((qt l).1 : Nat) (qn l).1 (qh l).1 ((qc l).1 : Nat) (qm l).1 ((rdOp (qo l).1).1.cells (.slice vo (rdOp (qo l).1).1.data.length vp)) ((rdAns (qa l).1).1.cells (.slice xo (rdAns (qa l).1).1.data.length xp) (.slice yo (rdAns (qa l).1).1.names.length yp)) (.slice oh (qH l).1.length ph) nilV).toArray 38 (0, 0)) →
      RdS (view c' 6 w') (.slice vo (rdOp (qo l).1).1.data.length vp) 1 (rdOp (qo l).1).1.data.length (bvs (rdOp (qo l).1).1.data) → AnsV (view c' 6 w') (rdAns (qa l).1).1 (.slice xo (rdAns (qa l).1).1.data.length xp) (.slice yo (rdAns (qa l).1).1.names.length yp) →
      LsO HashP 25 32 (view c' 8 w') (view c' 5 w') (.slice oh (qH l).1.length ph) (qH l).1 → C w') :
    LoopN .u64 (0 : Int) w' fun B2 n69 w19 => BS (decide (n69 < (((qx l).1 : Nat) : Int))) (DrewC w19 fun w20 => LoadC w20 ((⟨a5, 0, none⟩ : Addr).add 51) fun v72 => TSl v72 fun o72 l72 c72 => LoadA w20 (⟨a4, 0, none⟩ : Addr) 1 fun cs73 => CallV Tryd.prog 59 #[.agg cs73] w20 fun v74 w21 => TAgg v74 fun cs74 => StableC w21 ((⟨a5, 0, none⟩ : Addr).add 51) (.slice o72 l72 c72) ∧ (Req (Nat.beq cs74.size 32 && (Nat.ble 1 32 && Nat.ble 32 16777216)) <| AllocC w21 (.cells cs74 25) fun a75 w22 => StableC w22 ((⟨a5, 0, none⟩ : Addr).add 51) (.slice o72 l72 c72) ∧ RunV Tryd.prog (Builtin.append_ #[35, 35] 35 #[.slice o72 l72 c72, .slice (some ⟨a75, 0, none⟩) 1 1]) w22 fun v76 w23 => TSl v76 fun o76 l76 c76 => StoreC w23 ((⟨a5, 0, none⟩ : Addr).add 51) (.slice o76 l76 c76) fun w24 => B2 [.int .u64 (IntKind.wrap .u64 (n69 + (1 : Int)))] w24)) (C w19) := by
  have hok := decM_ok l
  have h32 : (qh l).1.length = 32 := hok.2.2.2.2.2.1
  have h4 : (qn l).1.length = 4 := many_length _ _ _
  have h6 : ((rdOp (qo l).1).1.cells (.slice vo (rdOp (qo l).1).1.data.length vp)).length = 6 := rfl
  have ha : ((rdAns (qa l).1).1.cells (.slice xo (rdAns (qa l).1).1.data.length xp) (.slice yo (rdAns (qa l).1).1.names.length yp)).length = 4 := rfl
  have hy : (qx l).1 < 256 ^ 1 := eU_lt 1 _
  refine LoopN.up (qx l).1 (fun i w' => ∃ c' o n p, RdI w o0 p0 l a2 a4 ax (many eH i (qx l).2.1).2.1 c' w' ∧ view c' 4 w' a5 = some (.cells (mcl ((qk l).1 : Nat) ((qf l).1 : Nat) ((qt l).1 : Nat) (qn l).1 (qh l).1 ((qc l).1 : Nat) (qm l).1 ((rdOp (qo l).1).1.cells (.slice vo (rdOp (qo l).1).1.data.length vp)) ((rdAns (qa l).1).1.cells (.slice xo (rdAns (qa l).1).1.data.length xp) (.slice yo (rdAns (qa l).1).1.names.length yp)) (.slice o n p) nilV).toArray 38 (0, 0)) ∧
    RdS (view c' 6 w') (.slice vo (rdOp (qo l).1).1.data.length vp) 1 (rdOp (qo l).1).1.data.length (bvs (rdOp (qo l).1).1.data) ∧ AnsV (view c' 6 w') (rdAns (qa l).1).1 (.slice xo (rdAns (qa l).1).1.data.length xp) (.slice yo (rdAns (qa l).1).1.names.length yp) ∧
    LsO HashP 25 32 (view c' 8 w') (view c' 5 w') (.slice o n p) (many eH i (qx l).2.1).1) ⟨c', none, 0, 0, by rw [many_zero]; exact H, b5, r6, d6, by rw [many_zero]; exact LsO.nil ..⟩ ?_
  clear H b5 r6 d6
  rintro i w8 B hi ⟨c8, o, n, p, H, b5, r6, d6, k8⟩ back
  have hil := many_length eH i (qx l).2.1
  refine BS.dec (fun hlt => ?_) (fun hge => ?_)
  · refine DrewC.col c8 fun w9 st9 => ?_
    replace H := H.go st9 (by decide) (by decide); replace b5 := st9.sub (by decide) _ _ b5; replace r6 := r6.mono (st9.sub (by decide)); replace d6 := d6.mono (st9.sub (by decide)); replace k8 := k8.mono' (fun _ _ hp => hp) (st9.sub (by decide))
    refine LoadC.ad (view_sub _ _ _) _ b5 (mcl_get51 h4 h32 h6 ha).1 (TSl.mk ?_)
    refine H.ld (H.hash hl fun c10 w10 st10 H => TAgg.mk ?_)
    replace b5 := st10.sub (by decide) _ _ b5; replace r6 := r6.mono (st10.sub (by decide)); replace d6 := d6.mono (st10.sub (by decide)); replace k8 := k8.mono' (fun _ _ hp => hp) (st10.sub (by decide))
    have hg : (eH (many eH i (qx l).2.1).2.1).1.length = 32 := (eH_len _).1
    refine ⟨StableC.ad (view_sub _ _ _) b5 (mcl_get51 h4 h32 h6 ha).1, Req.mk' (by simp [hg]) ?_⟩
    refine AllocC.col c10 5 fun y c11 w11 st11 b11 _ => ?_
    replace H := H.go st11.step (by decide) (by decide); replace b5 := st11.step.sub (by decide) _ _ b5; replace r6 := r6.mono (st11.step.sub (by decide)); replace d6 := d6.mono (st11.step.sub (by decide)); replace k8 := k8.mono' (fun _ _ hp => hp) (st11.step.sub (by decide))
    refine ⟨StableC.ad (view_sub _ _ _) b5 (mcl_get51 h4 h32 h6 ha).1, ?_⟩
    refine LsO.app slHash k8 (m := [(eH (many eH i (qx l).2.1).2.1).1]) (LsW.one (view_sub _ _ _ _ _ b11) (by simp [hg]) ⟨rfl, hg⟩) (fun a es hp => by rw [hp.1]; exact bvs_one _) (by rw [hil]; simp; omega) (by rw [hil]; simp; omega) fun o12 p12 c12 w12 st12 k8 => TSl.mk ?_
    replace H := H.go st12.step (by decide) (by decide); replace b5 := st12.step.sub (by decide) _ _ b5; replace r6 := r6.mono (st12.step.sub (by decide)); replace d6 := d6.mono (st12.step.sub (by decide))
    refine StoreC.ad b5 (by simp [mcl_len h4 h32 h6 ha]) fun w13 st13 _ b5 => ?_
    replace H := H.go st13.step (by decide) (by decide); replace r6 := r6.mono (st13.step.sub (by decide)); replace d6 := d6.mono (st13.step.sub (by decide)); replace k8 := k8.mono' (fun _ _ hp => hp) (st13.step.sub (by decide))
    rw [List.setIfInBounds_toArray, mcl_hs h4 h32 h6 ha] at b5
    rw [wrap_u64 (by omega) (by omega)]
    exact back _ (by omega) (by rw [many_succ]; exact ⟨c12, o12, _, p12, H, b5, r6, d6, k8.hash⟩)
  · have : i = (qx l).1 := by omega
    subst this
    have hn := k8.len
    subst hn
    exact hC o p c8 w8 H b5 r6 d6 k8.hash

theorem Read_K1 {w : World} {o0 : Option Addr} {p0 : Nat} {l : List UInt8} {a2 a4 a5 : Nat} {ax : Addr} {c' : Nat → Nat} {w' : World} {R : Value → World → Prop} (c : Nat → Nat) (j : Nat) (hl : l.length ≤ 1000000)
    (h : ∀ v va ua vh vb c' w', Step c [] [j] w c' w' → MsgV (view c' j w') (rdM l).1 v va ua vh vb → R (.tuple #[.agg ((rdM l).1.cells v va ua vh vb).toArray, .int .i64 (rdM l).2]) w')
    (H : RdI w o0 p0 l a2 a4 ax (qt l).2.1 c' w') (b5 : view c' 4 w' a5 = some (.cells (mcl ((qk l).1 : Nat) ((qf l).1 : Nat) ((qt l).1 : Nat) [0, 0, 0, 0] (List.replicate 32 0) 0 0 zopL zanL nilV nilV).toArray 38 (0, 0))) :
    wire_Read_K1 o0 l.length p0 (⟨a2, 0, none⟩ : Addr) (⟨a4, 0, none⟩ : Addr) (⟨a5, 0, none⟩ : Addr) w' R := by
  have hok := decM_ok l
  have h32 : (qh l).1.length = 32 := hok.2.2.2.2.2.1
  have h4 : (qn l).1.length = 4 := many_length _ _ _
  have z32 : (List.replicate 32 (0 : UInt8)).length = 32 := by simp
  have z6 : zopL.length = 6 := rfl
  have z4 : zanL.length = 4 := rfl
  unfold wire_Read_K1
  refine AllocC.col c' 5 fun a29 c6 w6 st6 b6 _ => ?_
  replace H := H.go st6.step (by decide) (by decide); replace b5 := st6.step.sub (by decide) _ _ b5
  have b6 : view c6 5 w6 a29 = some (.cells (mptrs ⟨a5, 0, none⟩).toArray 113 (0, 0)) := b6
  refine LoopI.up 4 (fun i w' => ∃ c', RdI w o0 p0 l a2 a4 ax (many (eU 8) i (qt l).2.1).2.1 c' w' ∧ view c' 5 w' a29 = some (.cells (mptrs ⟨a5, 0, none⟩).toArray 113 (0, 0)) ∧
    view c' 4 w' a5 = some (.cells (mcl ((qk l).1 : Nat) ((qf l).1 : Nat) ((qt l).1 : Nat) ((many (eU 8) i (qt l).2.1).1 ++ List.replicate (4 - i) 0) (List.replicate 32 0) 0 0 zopL zanL nilV nilV).toArray 38 (0, 0))) ⟨c6, by rw [many_zero]; exact H, b6, by rw [many_zero]; exact b5⟩ ?_
  clear H b5 b6 st6
  rintro i w7 B hi ⟨c7, H, b6, b5⟩ back
  have hil := many_length (eU 8) i (qt l).2.1
  refine BS.dec (fun hlt => ?_) (fun hge => ?_)
  · obtain ⟨f1, f2⟩ := fill_set (x := (eU 8 (many (eU 8) i (qt l).2.1).2.1).1) hil (show i < 4 by omega)
    rw [f1] at b5
    refine Req.bnd ⟨by omega, by omega⟩ ?_
    rw [Int.toNat_natCast, Nat.mul_one]
    refine LoadC.ad (view_sub _ _ _) _ b6 (mptrs_get _ (by omega)) (TPtr.mk ?_)
    refine H.ld (H.num hl 8 rfl (by omega) (by omega) fun c8 w8 st8 H => TInt.mk (TSome.mk ?_))
    replace b5 := st8.sub (by decide) _ _ b5; replace b6 := st8.sub (by decide) _ _ b6
    refine StoreC.ad b5 ?_ fun w9 st9 _ b5 => ?_
    · rw [List.size_toArray, mcl_len _ z32 z6 z4]
      · omega
      · simp [hil]; omega
    replace H := H.go st9.step (by decide) (by decide); replace b6 := st9.step.sub (by decide) _ _ b6
    rw [List.setIfInBounds_toArray] at b5
    have b5 := b5
    rw [show (Value.int IntKind.u64 ↑(eU 8 (many (eU 8) i (qt l).2.1).2.1).1) = u64v (eU 8 (many (eU 8) i (qt l).2.1).2.1).1 from rfl, mcl_num hil, f2] at b5
    rw [wrap_i64 (by omega) (by omega)]
    exact back _ (by omega) (by rw [many_succ]; exact ⟨c8, H, b6, b5⟩)
  · have : i = 4 := by omega
    subst this
    clear back hi hge
    rw [Nat.sub_self, List.replicate_zero, List.append_nil] at b5
    clear b6
    replace H : RdI w o0 p0 l a2 a4 ax (qn l).2.1 c7 w7 := H
    replace b5 : view c7 4 w7 a5 = some (.cells (mcl ((qk l).1 : Nat) ((qf l).1 : Nat) ((qt l).1 : Nat) (qn l).1 (List.replicate 32 0) 0 0 zopL zanL nilV nilV).toArray 38 (0, 0)) := b5
    refine H.ld (H.hash hl fun c8 w8 st8 H => TAgg.mk ?_)
    replace b5 := st8.sub (by decide) _ _ b5
    replace H : RdI w o0 p0 l a2 a4 ax (qh l).2.1 c8 w8 := H
    refine RunU.part (es := bvs (qh l).1) b5 (by rw [bvs_length, h32]; kernel_rfl) (by rw [mcl_len h4 z32 z6 z4, bvs_length, h32]; omega) (bvs_one _) fun w9 st9 _ b5 => ?_
    replace H := H.go st9.step (by decide) (by decide)
    rw [mcl_head h4 z32 h32] at b5
    refine DrewC.col c8 fun w10 st10 => ?_
    replace H := H.go st10 (by decide) (by decide); replace b5 := st10.sub (by decide) _ _ b5
    refine H.ld (H.ld (H.num hl 1 rfl (by omega) (by omega) fun c11 w11 st11 H => TInt.mk ⟨H.st, ?_⟩))
    replace b5 := st11.sub (by decide) _ _ b5
    replace H : RdI w o0 p0 l a2 a4 ax (qc l).2.1 c11 w11 := H
    refine H.num hl 8 rfl (by omega) (by omega) fun c12 w12 st12 H => TInt.mk ?_
    replace b5 := st12.sub (by decide) _ _ b5
    replace H : RdI w o0 p0 l a2 a4 ax (qm l).2.1 c12 w12 := H
    have hq : (qc l).1 < 256 ^ 1 := eU_lt 1 _
    rw [show (eU 1 (qh l).2.1).1 = (qc l).1 from rfl, show (eU 8 (qc l).2.1).1 = (qm l).1 from rfl, wrap_i64_nat _ (by omega), add_add, add_add]
    refine StoreC.ad b5 (by rw [List.size_toArray, mcl_len h4 h32 z6 z4]; omega) fun w13 st13 _ b5 => ?_
    replace H := H.go st13.step (by decide) (by decide)
    rw [List.setIfInBounds_toArray, mcl_client h4 h32] at b5
    refine StoreC.ad b5 (by rw [List.size_toArray, mcl_len h4 h32 z6 z4]; omega) fun w14 st14 _ b5 => ?_
    replace H := H.go st14.step (by decide) (by decide)
    rw [List.setIfInBounds_toArray, show (Value.int IntKind.u64 ↑(qm l).1) = u64v (qm l).1 from rfl, mcl_number h4 h32] at b5
    refine H.ld (H.txt hl 5 (by omega) (by omega) fun o15 p15 c15 w15 st15 H r15 => TSl.mk ?_)
    replace b5 := st15.sub (by decide) _ _ b5
    replace H : RdI w o0 p0 l a2 a4 ax (qo l).2.1 c15 w15 := H
    have ho1 : (qo l).1.length ≤ l.length := Nat.le_trans (eT_len _).2 (q_len l).2.2.2.2.2.2.2.1
    refine oper_Read_c c15 6 (l := (qo l).1) (r15.rd.mono (view_sub _ _ _)) (by omega) fun vo c16 w16 st16 r6 => T2.mk (TAgg.mk (TInt.mk ?_))
    replace H := H.go st16 (by decide) (by decide); replace b5 := st16.sub (by decide) _ _ b5
    obtain ⟨vo, vp, rfl⟩ := RdS.form r6
    obtain ⟨ol, oo⟩ := op_one (o := (rdOp (qo l).1).1) r6
    rw [add_add]
    refine RunU.part b5 (by rw [ol]; kernel_rfl) (by rw [mcl_len h4 h32 z6 z4, ol]; omega) oo fun w17 st17 _ b5 => ?_
    replace H := H.go st17.step (by decide) (by decide)
    replace r6 := RdS.mono r6 (st17.step.sub (by decide))
    rw [mcl_op h4 h32 z6 ol] at b5
    refine H.ld (H.txt hl 5 (by omega) (by omega) fun o18 p18 c18 w18 st18 H r18 => TSl.mk ?_)
    replace b5 := st18.sub (by decide) _ _ b5; replace r6 := r6.mono (st18.sub (by decide))
    replace H : RdI w o0 p0 l a2 a4 ax (qa l).2.1 c18 w18 := H
    have ha1 : (qa l).1.length ≤ l.length := Nat.le_trans (eT_len _).2 (q_len l).2.2.2.2.2.2.2.2.1
    refine oper_ReadAnswer_c c18 6 (l := (qa l).1) (r18.rd.mono (view_sub _ _ _)) (by omega) fun va ua c19 w19 st19 d6 => T2.mk (TAgg.mk (TInt.mk ?_))
    replace H := H.go st19 (by decide) (by decide); replace b5 := st19.sub (by decide) _ _ b5; replace r6 := r6.mono (st19.sub (by decide))
    obtain ⟨xo, xp, rfl⟩ := RdS.form d6.d
    obtain ⟨yo, yp, rfl⟩ := RdS.form d6.n
    obtain ⟨al, ao⟩ := ans_one (a := (rdAns (qa l).1).1) d6.d d6.n
    refine RunU.part b5 (by rw [al]; kernel_rfl) (by rw [mcl_len h4 h32 ol z4, al]; omega) ao fun w20 st20 _ b5 => ?_
    replace H := H.go st20.step (by decide) (by decide); replace r6 := r6.mono (st20.step.sub (by decide)); replace d6 := d6.mono (st20.step.sub (by decide))
    rw [mcl_ans h4 h32 ol z4 al] at b5
    refine H.ld (H.num hl 1 rfl (by omega) (by omega) fun c21 w21 st21 H => TInt.mk ?_)
    replace b5 := st21.sub (by decide) _ _ b5; replace r6 := r6.mono (st21.sub (by decide)); replace d6 := d6.mono (st21.sub (by decide))
    replace H : RdI w o0 p0 l a2 a4 ax (qx l).2.1 c21 w21 := H
    refine Read_hashes hl H b5 r6 d6 fun oh ph c22 w22 H b5 r6 d6 k8 => ?_
    refine H.ld (H.num hl 1 rfl (by omega) (by omega) fun c23 w23 st23 H => TInt.mk ?_)
    replace b5 := st23.sub (by decide) _ _ b5; replace r6 := r6.mono (st23.sub (by decide)); replace d6 := d6.mono (st23.sub (by decide)); replace k8 := k8.mono' (fun _ _ hp => hp) (st23.sub (by decide))
    replace H : RdI w o0 p0 l a2 a4 ax (qy l).2.1 c23 w23 := H
    exact Read_blocks c j hl h H b5 r6 d6 k8.hash

theorem wire_Read_c (c : Nat → Nat) (j : Nat) {w : World} {v : Value} {l : List UInt8} {R : Value → World → Prop} (hr : RdS (wv w) v 1 l.length (bvs l)) (hl : l.length ≤ 1000000) (hG : GlobS (wv w))
    (h : ∀ v va ua vh vb c' w', Step c [] [j] w c' w' → MsgV (view c' j w') (rdM l).1 v va ua vh vb → R (.tuple #[.agg ((rdM l).1.cells v va ua vh vb).toArray, .int .i64 (rdM l).2]) w') :
    CallV Tryd.prog 18 #[v] w R := by
  obtain ⟨o0, p0, rfl⟩ := hr.form
  have G : GlobS (view (fun _ => 0) 0 w) := by rw [view0]; exact hG
  have D : RdS (view (fun _ => 0) 0 w) (.slice o0 l.length p0) 1 l.length (bvs l) := by rw [view0]; exact hr
  have S := Fr.start w
  refine wire_Read_vc ?_
  unfold wire_Read_VC
  refine AllocC.col (fun _ => 0) 3 fun a2 c1 w1 st1 b2 _ => ?_
  replace S := S.go st1.step (by decide) (by decide); replace D := D.mono (st1.step.sub (by decide)); replace G := G.mono (st1.step.sub (by decide))
  have b2 : view c1 3 w1 a2 = some (.cells (MsgR.zero.cells nilV nilV nilV nilV nilV).toArray 38 (0, 0)) := b2
  refine NewEye c1 2 (D.mono (view_sub _ _ _)) (by omega) fun ax c2 w2 st2 he => TPtr.mk ?_
  replace S := S.go st2 (by decide) (by decide); replace D := D.mono (st2.sub (by decide)); replace G := G.mono (st2.sub (by decide)); replace b2 := st2.sub (by decide) _ _ b2
  refine AllocC.col c2 1 fun a4 c3 w3 st3 b4 _ => ?_
  replace S := S.go st3.step (by decide) (by decide); replace D := D.mono (st3.step.sub (by decide)); replace G := G.mono (st3.step.sub (by decide)); replace b2 := st3.step.sub (by decide) _ _ b2; replace he := he.mono (st3.step.sub (by decide))
  refine RunU.var b4 (by kernel_rfl) rfl (by kernel_rfl) fun w4 st4 b4 => ?_
  replace S := S.go st4.step (by decide) (by decide); replace D := D.mono (st4.step.sub (by decide)); replace G := G.mono (st4.step.sub (by decide)); replace b2 := st4.step.sub (by decide) _ _ b2; replace he := he.mono (st4.step.sub (by decide))
  have H : RdI w o0 p0 l a2 a4 ax l c3 w4 := ⟨S, G, D, b2, b4, he, Nat.le_refl _⟩
  clear S G D b2 b4 he hr hG st1 st2 st3 st4
  refine H.ld (H.num hl 1 rfl (by omega) (by omega) fun c5 w5 st5 H => TInt.mk ?_)
  refine DrewC.col c5 fun w6 st6 => ?_
  replace H := H.go st6 (by decide) (by decide)
  replace H : RdI w o0 p0 l a2 a4 ax (qv l).2.1 c5 w6 := H
  refine H.ld (H.ld (H.ld ?_))
  have hk : (qk l).1 < 256 ^ 1 := eU_lt 1 _
  have hf : (qf l).1 < 256 ^ 1 := eU_lt 1 _
  have ht : (qt l).1 < 256 ^ 1 := eU_lt 1 _
  have fin : ∀ {c' w' a5 T}, RdI w o0 p0 l a2 a4 ax (qt l).2.1 c' w' → view c' 4 w' a5 = some (.cells T 38 (0, 0)) → T.size = 53 →
      RunU Tryd.prog (storeVar 38 (⟨a5, 0, none⟩ : Addr) (.agg (mcl (IntKind.wrap .i64 ((qk l).1 : Nat)) (IntKind.wrap .i64 ((qf l).1 : Nat)) (IntKind.wrap .i64 ((qt l).1 : Nat)) [0, 0, 0, 0] (List.replicate 32 0) 0 0 zopL zanL nilV nilV).toArray)) w' fun w' => wire_Read_K1 o0 l.length p0 (⟨a2, 0, none⟩ : Addr) (⟨a4, 0, none⟩ : Addr) (⟨a5, 0, none⟩ : Addr) w' R := fun {c' w' a5 T} H b5 hT => by
    rw [wrap_i64_nat _ (by omega), wrap_i64_nat _ (by omega), wrap_i64_nat _ (by omega)]
    refine RunU.var b5 (by kernel_rfl) (by rw [hT]; rfl) ?_ fun w9 st9 b5 => ?_
    · rw [Array.all_eq_true']
      intro u hu
      exact mcl_one zop_one zan_one rfl rfl u (by simpa using hu)
    · replace H := H.go st9.step (by decide) (by decide)
      exact Read_K1 c j hl h H b5
  refine ⟨?_, ?_⟩
  · refine H.num hl 1 rfl (by omega) (by omega) fun c7 w7 st7 H => TInt.mk ⟨H.st, H.st, ?_, ?_⟩
    · replace H : RdI w o0 p0 l a2 a4 ax (qk l).2.1 c7 w7 := H
      refine H.num hl 1 rfl (by omega) (by omega) fun c8 w8 st8 H => TInt.mk ⟨H.st, ?_, ?_⟩
      · replace H : RdI w o0 p0 l a2 a4 ax (qf l).2.1 c8 w8 := H
        refine H.num hl 1 rfl (by omega) (by omega) fun c9 w9 st9 H => TInt.mk ?_
        replace H : RdI w o0 p0 l a2 a4 ax (qt l).2.1 c9 w9 := H
        refine AllocC.col c9 4 fun a5 c10 w10 st10 b5 _ => ?_
        replace H := H.go st10.step (by decide) (by decide)
        exact ⟨H.st, H.st, H.st, fin H b5 rfl⟩
      · replace H : RdI w o0 p0 l a2 a4 ax (qf l).2.1 c8 w8 := H
        refine AllocC.col c8 4 fun a5 c10 w10 st10 b5 _ => ?_
        replace H := H.go st10.step (by decide) (by decide)
        refine ⟨H.st, H.st, H.st, ?_⟩
        refine H.num hl 1 rfl (by omega) (by omega) fun c9 w9 st9 H => TInt.mk ?_
        replace b5 := st9.sub (by decide) _ _ b5
        replace H : RdI w o0 p0 l a2 a4 ax (qt l).2.1 c9 w9 := H
        exact fin H b5 rfl
    · replace H : RdI w o0 p0 l a2 a4 ax (qk l).2.1 c7 w7 := H
      refine AllocC.col c7 4 fun a5 c10 w10 st10 b5 _ => ?_
      replace H := H.go st10.step (by decide) (by decide)
      refine ⟨H.st, H.st, H.st, ?_⟩
      refine H.num hl 1 rfl (by omega) (by omega) fun c8 w8 st8 H => TInt.mk ⟨H.st, ?_⟩
      replace b5 := st8.sub (by decide) _ _ b5
      replace H : RdI w o0 p0 l a2 a4 ax (qf l).2.1 c8 w8 := H
      refine H.num hl 1 rfl (by omega) (by omega) fun c9 w9 st9 H => TInt.mk ?_
      replace b5 := st9.sub (by decide) _ _ b5
      replace H : RdI w o0 p0 l a2 a4 ax (qt l).2.1 c9 w9 := H
      exact fin H b5 rfl
  · refine AllocC.col c5 4 fun a5 c10 w10 st10 b5 _ => ?_
    replace H := H.go st10.step (by decide) (by decide)
    refine ⟨H.st, H.st, H.st, ?_⟩
    refine H.num hl 1 rfl (by omega) (by omega) fun c7 w7 st7 H => TInt.mk ⟨H.st, H.st, ?_⟩
    replace b5 := st7.sub (by decide) _ _ b5
    replace H : RdI w o0 p0 l a2 a4 ax (qk l).2.1 c7 w7 := H
    refine H.num hl 1 rfl (by omega) (by omega) fun c8 w8 st8 H => TInt.mk ⟨H.st, ?_⟩
    replace b5 := st8.sub (by decide) _ _ b5
    replace H : RdI w o0 p0 l a2 a4 ax (qf l).2.1 c8 w8 := H
    refine H.num hl 1 rfl (by omega) (by omega) fun c9 w9 st9 H => TInt.mk ?_
    replace b5 := st9.sub (by decide) _ _ b5
    replace H : RdI w o0 p0 l a2 a4 ax (qt l).2.1 c9 w9 := H
    exact fin H b5 rfl
end Go.Proofs.YtdjgdcafmfheoaaDoor

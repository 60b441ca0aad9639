/-
  Conditions for functions that hold a select of one case with a default, in one goroutine; scopes without jumps.
-/
import Derived.Test.YtfploingelmpkaaVcC
import Derived.Scope
import Derived.Conc.LoneSelect
set_option linter.unusedVariables false
set_option linter.unusedSimpArgs false
namespace Go.Vc
open Go
/-- a send that does not wait -/
def SelS (w : World) (ch v : Value) (K : Int → World → Prop) : Prop := match ch with
  | .chan (some c) => (match w.heap[c]? with
    | some (.chan cap buf closed s r tm) => closed = false ∧ (buf.size < cap → K 0 (w.setChan c cap (buf.push v) false (s + 1) r tm)) ∧ (cap ≤ buf.size → K (-1) w)
    | _ => False)
  | _ => False
/-- a receive that does not wait -/
def SelR (w : World) (ch z : Value) (K : Int → Bool → Value → World → Prop) : Prop := match ch with
  | .chan (some c) => (match w.heap[c]? with
    | some (.chan cap buf closed s r tm) => (0 < buf.size → K 0 true (buf.getD 0 undef) (w.setChan c cap (buf.extract 1 buf.size) closed s (r + 1) tm)) ∧ (buf.size = 0 → closed = false ∧ K (-1) false z w)
    | _ => False)
  | _ => False
def selHead : List Oper → Option (Nat × Operand × Option Operand × TypeId × List Oper)
  | o :: r => (match o.op, o.dst, o.guard with
    | .select cases false, some d, none => (match cases.toList with | [c] => some (d, c.chan, c.send, c.elem, r) | _ => none)
    | _, _, _ => none)
  | _ => none
def regX (P : Program) (ops : List Oper) (kn : Env → World → Prop) (g : Env) (w : World) : Prop := match selHead ops with
  | some (d, ch, some x, t, r) => (match zeroB P t with
    | some _ => SelS w (ev g ch) (ev g x) fun n w' => wpOpsG P ops kn r (put g d (.tuple #[.int .i64 n, .bool false])) w'
    | none => False)
  | some (d, ch, none, t, r) => (match zeroB P t with
    | some z => SelR w (ev g ch) z fun n ok v w' => wpOpsG P ops kn r (put g d (.tuple #[.int .i64 n, .bool ok, v])) w'
    | none => False)
  | none => wpOpsG P ops kn ops g w
def wpX (P : Program) (A : Ann) : Code → (Env → World → Prop) → Exits → (Env → World → Prop) → Env → World → Prop
  | .skip, kn, _, _, g, w => kn g w
  | .region _ ops draw, kn, _, _, g, w => (match draw with
    | false => regX P ops.toList kn g w
    | true => DrewC w fun w => drawK P ops.toList (masks ops.toList []) kn (ops.toList.length + 1) 0 g w)
  | .seq a b, kn, X, kr, g, w => wpX P A a (fun g w => wpX P A b kn X kr g w) X kr g w
  | .cond c a b, kn, X, kr, g, w => (match ev g c with | .bool t => BS t (wpX P A a kn X kr g w) (wpX P A b kn X kr g w) | _ => False)
  | .block id c, kn, X, kr, g, w => wpX P A c kn ((id, kn) :: X) kr g w
  | .loop c, _, X, kr, g, w =>
    TVs P (annOf A (firstRegion c)) g fun vs0 =>
      ∃ (I : List Value → World → Prop) (μ : List Value → World → Nat), I vs0 w ∧
        ∀ (h : Env) (w : World), allV P (annOf A (firstRegion c)) fun vs => I vs w →
          wpX P A c (fun g' w' => TVs P (annOf A (firstRegion c)) g' fun vs' => I vs' w' ∧ μ vs' w' < μ vs w) X kr
            (headEnv g h (writes c) (annOf A (firstRegion c)) vs) w
  | .scope c, kn, X, kr, g, w => wpX P A c kn X kr g w
  | .label _, kn, _, _, g, w => kn g w
  | .exit id, _, X, _, g, w => exitK X id g w
  | .ret, _, _, kr, g, w => kr g w
  | _, _, _, _, _, _ => False

def wpFX (P : Program) (A : Ann) (fn : Func) (c : Code) (args : List Value) (w : World) (R : Value → World → Prop) : Prop :=
  wpX P A c (fun g w => resK P fn.results.toList g w fun vs => R (retV vs) w) []
    (fun g w => resK P fn.results.toList g w fun vs => R (retV vs) w) (argEnv args) w

variable {P : Program}
theorem SelS.mono {w : World} {ch v : Value} {K K' : Int → World → Prop} (h : SelS w ch v K) (hK : ∀ n w, K n w → K' n w) : SelS w ch v K' := by
  unfold SelS at h ⊢
  split at h
  · split at h
    · exact ⟨h.1, fun hh => hK _ _ (h.2.1 hh), fun hh => hK _ _ (h.2.2 hh)⟩
    · exact h.elim
  · exact h.elim
theorem SelR.mono {w : World} {ch z : Value} {K K' : Int → Bool → Value → World → Prop} (h : SelR w ch z K) (hK : ∀ n b v w, K n b v w → K' n b v w) : SelR w ch z K' := by
  unfold SelR at h ⊢
  split at h
  · split at h
    · exact ⟨fun hh => hK _ _ _ _ (h.1 hh), fun hh => ⟨(h.2 hh).1, hK _ _ _ _ (h.2 hh).2⟩⟩
    · exact h.elim
  · exact h.elim
theorem selHead_out {ops : List Oper} {d : Nat} {ch : Operand} {sn : Option Operand} {t : TypeId} {r : List Oper} (h : selHead ops = some (d, ch, sn, t, r)) :
    ∃ o, ops = o :: r ∧ o.op = .select #[⟨ch, sn, t⟩] false ∧ o.dst = some d ∧ o.guard = none := by
  unfold selHead at h
  split at h
  · rename_i o r'
    split at h
    · rename_i cases d' h1 h2 h3
      split at h
      · rename_i c hc
        simp only [Option.some.injEq, Prod.mk.injEq] at h
        obtain ⟨rfl, rfl, rfl, rfl, rfl⟩ := h
        refine ⟨o, rfl, ?_, h2, h3⟩
        rw [h1]
        congr 1
        exact Array.ext' (by rw [hc])
      · simp at h
    · simp at h
  · simp at h
theorem regX_mono {ops : List Oper} {kn kn' : Env → World → Prop} {g : Env} {w : World} (h : regX P ops kn g w) (hk : ∀ l g w, wpOpsG P ops kn l g w → wpOpsG P ops kn' l g w) : regX P ops kn' g w := by
  unfold regX at h ⊢
  split at h
  · split at h
    · rename_i hz; exact h.mono fun n w hh => hk _ _ _ hh
    · exact h.elim
  · split at h
    · rename_i hz; exact h.mono fun n b v w hh => hk _ _ _ hh
    · exact h.elim
  · exact hk _ _ _ h
theorem regX_frame {ops : List Oper} {kn : Env → World → Prop} {D : List Nat} {g0 g : Env} {w : World} (hD : ∀ d ∈ opsWrites ops, d ∈ D) (ha : Agree D g0 g) (h : regX P ops kn g w) : regX P ops (S D g0 kn) g w := by
  unfold regX at h ⊢
  have key : ∀ {d ch sn t r}, selHead ops = some (d, ch, sn, t, r) → ∀ v w, wpOpsG P ops kn r (put g d v) w → wpOpsG P ops (S D g0 kn) r (put g d v) w := fun {d ch sn t r} hs v w hh => by
    obtain ⟨o, rfl, _, hd, _⟩ := selHead_out hs
    refine wpOpsG_frame r (fun x hx => hD x ?_) _ _ (Agree.putO (d := some d) ha fun x hx => hD x ?_) hh
    · unfold opsWrites; rw [hd]; simp [hx]
    · cases hx; exact opsWrites_mem List.mem_cons_self hd
  split at h
  · rename_i hs
    split at h
    · rename_i hz; exact h.mono fun n w hh => key hs _ _ hh
    · exact h.elim
  · rename_i hs
    split at h
    · rename_i hz; exact h.mono fun n b v w hh => key hs _ _ hh
    · exact h.elim
  · exact wpOpsG_frame _ hD g w ha h

/-! pieces of code in frames that are ordinary calls -/
def wpN (P : Program) (c : Code) (Q : Exit → Act → World → Prop) (a : Act) (w : World) : Prop :=
  ∀ (b : Frame) (k : List Item) (cs : List Frame), b.kind = .normal → ∃ e a' w', Q e a' w' ∧ Arrives P (lone (b.at a (.code c :: k)) cs w) b k cs e a' w'
section
variable {Q : Exit → Act → World → Prop} {a : Act} {w : World}
theorem wpN_seq {x y : Code} (h : wpN P x (Exit.then (wpN P y Q) Q) a w) : wpN P (.seq x y) Q a w := by
  intro b k cs hb
  obtain ⟨e, a1, w1, hq, harr⟩ := h b (.code y :: k) cs hb
  by_cases he : e = .normal
  · subst he
    obtain ⟨e2, a2, w2, hq2, harr2⟩ := hq b k cs hb
    exact ⟨e2, a2, w2, hq2, .of_steps (.head step_seq harr) harr2⟩
  · refine ⟨e, a1, w1, ?_, .of_steps (.one step_seq) (.pass (x := .code y) rfl (fun _ _ => .inl he) harr)⟩
    cases e <;> first | exact absurd rfl he | exact hq
theorem wpN_cond {c : Operand} {x y : Code} {t : Bool} (hc : a.eval c = .bool t) (h : wpN P (if t then x else y) Q a w) : wpN P (.cond c x y) Q a w := by
  intro b k cs hb
  obtain ⟨e, a1, w1, hq, harr⟩ := h b k cs hb
  exact ⟨e, a1, w1, hq, .of_steps (.one (step_cond hc)) harr⟩
theorem wpN_block {id : Nat} {c : Code} (h : wpN P c (Exit.inBlock id Q) a w) : wpN P (.block id c) Q a w := by
  intro b k cs hb
  obtain ⟨e, a1, w1, hq, harr⟩ := h b (.inBlock id :: k) cs hb
  match e, hq, harr with
  | .normal, hq, harr => exact ⟨.normal, a1, w1, hq, .head step_block (Steps.trans harr (.one step_inBlock))⟩
  | .exit id', hq, harr =>
    have hq : (if id' = id then Q .normal a1 w1 else Q (.exit id') a1 w1) := hq
    by_cases hid : id' = id
    · rw [if_pos hid] at hq
      exact ⟨.normal, a1, w1, hq, .head step_block (harr k (by simp [exitTo, hid]))⟩
    · rw [if_neg hid] at hq
      refine ⟨.exit id', a1, w1, hq, fun k' hk => .head step_block (harr k' ?_)⟩
      have hne : (id == id') = false := by simpa using fun h => hid h.symm
      simp [exitTo, hne, hk]
  | .goto l, hq, harr => exact ⟨_, a1, w1, hq, fun k' hk => .head step_block (harr k' (by simp [gotoIn, hk]))⟩
  | .ret, hq, harr => exact ⟨.ret, a1, w1, hq, .of_steps (.one step_block) harr⟩
  | .panic ch, hq, harr => exact ⟨.panic ch, a1, w1, hq, .of_steps (.one step_block) harr⟩
  | .outgrown, hq, harr => exact ⟨.outgrown, a1, w1, hq, .of_steps (b := b) (k := k) (cs := cs) (e := .outgrown) (.one step_block) harr⟩
theorem wpN_loop {c : Code} (I : Act → World → Prop) (μ : Act → World → Nat) (h0 : I a w) (round : ∀ a w, I a w → wpN P c (Exit.then (fun a' w' => I a' w' ∧ μ a' w' < μ a w) Q) a w) : wpN P (.loop c) Q a w := by
  intro b k cs hb
  have key : ∀ n a w, μ a w ≤ n → I a w → ∃ e a' w', Q e a' w' ∧ Arrives P (lone (b.at a (.code c :: .inLoop c :: k)) cs w) b k cs e a' w' := by
    intro n
    induction n with
    | zero =>
      intro a w hn hI
      obtain ⟨e, a1, w1, hq, harr⟩ := round a w hI b (.inLoop c :: k) cs hb
      by_cases he : e = .normal
      · subst he; exact absurd hq.2 (by omega)
      · refine ⟨e, a1, w1, ?_, .pass (x := .inLoop c) rfl (fun _ _ => .inl he) harr⟩
        cases e <;> first | exact absurd rfl he | exact hq
    | succ n ih =>
      intro a w hn hI
      obtain ⟨e, a1, w1, hq, harr⟩ := round a w hI b (.inLoop c :: k) cs hb
      by_cases he : e = .normal
      · subst he
        obtain ⟨e2, a2, w2, hq2, harr2⟩ := ih a1 w1 (by have := hq.2; omega) hq.1
        exact ⟨e2, a2, w2, hq2, .of_steps (Steps.trans harr (.one step_inLoop)) harr2⟩
      · refine ⟨e, a1, w1, ?_, .pass (x := .inLoop c) rfl (fun _ _ => .inl he) harr⟩
        cases e <;> first | exact absurd rfl he | exact hq
  obtain ⟨e, a1, w1, hq, harr⟩ := key _ a w (Nat.le_refl _) h0
  exact ⟨e, a1, w1, hq, .of_steps (.one step_loop) harr⟩
def noGo (Q : Exit → Act → World → Prop) : Exit → Act → World → Prop
  | .goto _, _, _ => False
  | e, a, w => Q e a w
theorem wpN_scope {c : Code} (h : wpN P c (noGo Q) a w) : wpN P (.scope c) Q a w := by
  intro b k cs hb
  obtain ⟨e, a1, w1, hq, harr⟩ := h b (.inScope c :: k) cs hb
  match e, hq, harr with
  | .normal, hq, harr => exact ⟨.normal, a1, w1, hq, .head step_scope (Steps.trans harr (.one step_inScope))⟩
  | .exit id, hq, harr => exact ⟨.exit id, a1, w1, hq, fun k' hk => .head step_scope (harr k' (by simp [exitTo, hk]))⟩
  | .goto l, hq, harr => exact hq.elim
  | .ret, hq, harr => exact ⟨.ret, a1, w1, hq, .of_steps (.one step_scope) harr⟩
  | .panic ch, hq, harr => exact ⟨.panic ch, a1, w1, hq, .of_steps (.one step_scope) harr⟩
  | .outgrown, hq, harr => exact ⟨.outgrown, a1, w1, hq, .of_steps (b := b) (k := k) (cs := cs) (e := .outgrown) (.one step_scope) harr⟩
theorem calls_of_wpN {f : FuncId} {fn : Func} {c : Code} {args : Array Value} {R : Ending → World → Prop} (hf : P.funcs[f]? = some fn) (hb : fn.body = some c)
    (h : wpN P c (bodyPost P fn R) { tmps := args ++ Array.replicate (fn.ntmps - args.size) undef, defers := [] } w) : Calls P f args w R := by
  refine Calls.mono (R := R) ?_ (fun _ _ h => h)
  intro cs
  have henter : Frame.enter P f args .normal = ({ (default : Frame) with fn := f, kind := .normal } : Frame).at { tmps := args ++ Array.replicate (fn.ntmps - args.size) undef, defers := [] } [.code c] := by
    simp [Frame.enter, Frame.at, hf, hb]
  obtain ⟨e, a', w', hq, harr⟩ := h { (default : Frame) with fn := f, kind := .normal } [] cs rfl
  rw [← henter] at harr
  match e, hq, harr with
  | .normal, ⟨hd, v, hr, hR⟩, harr => exact ⟨.returned v, w', _, hR, Steps.trans harr (.one step_end), rfl, rfl, hd, rfl, fn, hf, hr⟩
  | .ret, ⟨hd, v, hr, hR⟩, ⟨todo, hs⟩ => exact ⟨.returned v, w', _, hR, hs, rfl, rfl, hd, rfl, fn, hf, hr⟩
  | .panic chain, ⟨hd, hR⟩, ⟨todo, hs⟩ => exact ⟨.panicked chain, w', _, hR, hs, rfl, rfl, hd, fn, hf⟩
  | .exit id, hq, harr => exact hq.elim
  | .goto l, hq, harr => exact hq.elim
  | .outgrown, hq, harr => exact ⟨.outgrown, w', { (default : Frame) with fn := f, kind := .normal }, hq, harr.resolve_left (by simp), rfl, trivial⟩
end
/-- one step of a select, then the other operations of its region -/
theorem sel_step {Q : Exit → Act → World → Prop} {a a' : Act} {w w' : World} {id : Nat} {o : Oper} {r : List Oper} {v : Value} {d : Nat} (hd : o.dst = some d) (ha : a' = a.put (some d) v)
    (hs : ∀ (b : Frame) (k : List Item) (cs : List Frame), b.kind = .normal → step P (lone (b.at a (.inRegion (o :: r).toArray (0 :: List.range' 1 r.length) :: k)) cs w) = .next (lone ((b.at a (.inRegion (o :: r).toArray (0 :: List.range' 1 r.length) :: k)).finish v) cs w'))
    (h : wpOps P (o :: r).toArray Q (List.range' 1 r.length) a' w') : wpN P (.region id (o :: r).toArray false) Q a w := by
  intro b k cs hb
  obtain ⟨e, a2, w2, hq, harr⟩ := wp_ops _ a' w' h b k cs
  refine ⟨e, a2, w2, hq, .of_steps (.head step_region (.one ?_)) harr⟩
  have hr : List.range (o :: r).toArray.size = 0 :: List.range' 1 r.length := by simp [List.range_eq_range', List.range'_succ]
  rw [hr, hs b k cs hb, Frame.finish_at]
  subst ha
  simp [hd]
theorem zeroB_run {t : TypeId} {z : Value} (h : zeroB P t = some z) (w : World) : (zeroValue t).run P w = .ok z w := by
  unfold zeroB at h
  split at h
  · rename_i i hi
    simp [zeroValue, typeInfo, hi, h]
  · simp at h
theorem regX_sound {Df : List Deferred} {N : Nat} {id : Nat} {ops : Array Oper} {kn : Env → World → Prop} {Q : Exit → Act → World → Prop} {a : Act} {g : Env} {w : World} (hP : okNames P = true) (hN : opsOk N ops.toList = true) (hG : guardsB ops.toList ops.toList = true)
    (hn : ∀ a g w, Rel Df N a g → kn g w → Q .normal a w) (hr : Rel Df N a g) (h : regX P ops.toList kn g w) : wpN P (.region id ops false) Q a w := by
  unfold regX at h
  have rest : ∀ {d ch sn t r}, selHead ops.toList = some (d, ch, sn, t, r) → ∀ v w', wpOpsG P ops.toList kn r (put g d v) w' → wpOps P ops Q (List.range' 1 r.length) (a.put (some d) v) w' := fun {d ch sn t r} hs v w' hh => by
    obtain ⟨o, ho, _, hd, _⟩ := selHead_out hs
    have hl : ∀ j, r[j]? = ops.toList[1 + j]? := fun j => by rw [ho, Nat.add_comm]; rfl
    have := run_of_wpOpsG r 1 hl _ w' hh
    have := wpOps_of_run hP hN hG hn _ (a.put (some d) v) (put g d v) w' (hr.put (some d) v (fun x hx => opsOk_mem hN (o := o) (by rw [ho]; simp) x (by rw [hd]; exact hx))) this
    simpa using this
  have comm : ∀ {o : Oper} {r : List Oper} {cases : Array CommCase}, ops.toList = o :: r → o.guard = none → (execOp a.eval o).run P w = .ok (.comm cases false .select) w → ∀ (b : Frame) (k : List Item) (cs : List Frame), b.kind = .normal →
      Go.stepG P true (Conc.G (b.at a (.inRegion (o :: r).toArray (0 :: List.range' 1 r.length) :: k)) cs) w = .comm (Conc.G (b.at a (.inRegion (o :: r).toArray (0 :: List.range' 1 r.length) :: k)) cs) cases false .select w (Conc.listed P b.fn a o w) := fun {o r cases} ho hg hx b k cs hb =>
    Conc.stepG_comm (ops := (o :: r).toArray) rfl (by unfold Region.wanted; rw [hg]) (by rw [hb]; decide) hx
  split at h
  · rename_i d ch x t r hs
    split at h
    · rename_i z hz
      obtain ⟨o, ho, hop, hd, hg⟩ := selHead_out hs
      have hops : ops = (o :: r).toArray := Array.ext' (by rw [ho])
      subst hops
      have hx : (execOp a.eval o).run P w = .ok (.comm #[{ chan := ev g ch, send := some (ev g x), zero := z }] false .select) w := by
        unfold execOp
        rw [hop, hr.eval]
        simp [zeroB_run hz]
      have hw := comm ho hg hx
      have hrest := rest hs
      unfold SelS at h
      split at h
      · rename_i c hc
        rw [hc] at hw
        split at h
        · rename_i cap buf closed s r' tm hb
          obtain ⟨hcl, h1, h2⟩ := h
          subst hcl
          by_cases hroom : buf.size < cap
          · exact sel_step hd rfl (fun b k cs hk => Conc.step_lone_select_send_room (hw b k cs hk) hb hroom) (hrest _ _ (h1 hroom))
          · exact sel_step hd rfl (fun b k cs hk => Conc.step_lone_select_send_full (hw b k cs hk) hb (by omega)) (hrest _ _ (h2 (by omega)))
        · exact h.elim
      · exact h.elim
    · exact h.elim
  · rename_i d ch t r hs
    split at h
    · rename_i z hz
      obtain ⟨o, ho, hop, hd, hg⟩ := selHead_out hs
      have hops : ops = (o :: r).toArray := Array.ext' (by rw [ho])
      subst hops
      have hx : (execOp a.eval o).run P w = .ok (.comm #[{ chan := ev g ch, send := none, zero := z }] false .select) w := by
        unfold execOp
        rw [hop, hr.eval]
        simp [zeroB_run hz]
      have hw := comm ho hg hx
      have hrest := rest hs
      unfold SelR at h
      split at h
      · rename_i c hc
        rw [hc] at hw
        split at h
        · rename_i cap buf closed s r' tm hb
          obtain ⟨h1, h2⟩ := h
          by_cases hsome : 0 < buf.size
          · exact sel_step hd rfl (fun b k cs hk => Conc.step_lone_select_recv_buf (hw b k cs hk) hb hsome) (hrest _ _ (h1 hsome))
          · have h0 : buf.size = 0 := by omega
            obtain ⟨hcl, h3⟩ := h2 h0
            subst hcl
            have he : buf = #[] := Array.eq_empty_of_size_eq_zero h0
            subst he
            exact sel_step hd rfl (fun b k cs hk => Conc.step_lone_select_default (hw b k cs hk) hb) (hrest _ _ h3)
        · exact h.elim
      · exact h.elim
    · exact h.elim
  · have := run_of_wpOpsG ops.toList 0 (by simp) g w h
    rw [← List.range_eq_range'] at this
    have := wpOps_of_run hP hN hG hn _ a g w hr this
    simp only [Array.length_toList, Array.toArray_toList] at this
    exact fun b k cs _ => wp_region this b k cs
section
variable {Df : List Deferred}
theorem wpX_mono {A : Ann} : ∀ (c : Code) {kn kn' : Env → World → Prop} {X X' : Exits} {kr kr' : Env → World → Prop} {g : Env} {w : World}, (∀ g w, kn g w → kn' g w) → (∀ id g w, exitK X id g w → exitK X' id g w) →
    (∀ g w, kr g w → kr' g w) → wpX P A c kn X kr g w → wpX P A c kn' X' kr' g w := by
  intro c
  induction c with
  | skip => intro kn kn' X X' kr kr' g w hn hX hr h; exact hn _ _ h
  | region id ops draw =>
    intro kn kn' X X' kr kr' g w hn hX hr h
    unfold wpX at h ⊢
    cases draw with
    | false =>
      refine regX_mono h fun l g w h => wpOpsG_mono hn l g w h
    | true => exact drawK_mono (D := opsWrites ops.toList) (g0 := g) (fun _ h => h) (fun g w _ => hn g w) _ _ _ _ (fun _ _ => rfl) h
  | seq a b iha ihb =>
    intro kn kn' X X' kr kr' g w hn hX hr h
    unfold wpX at h ⊢
    exact iha (fun g w h => ihb hn hX hr h) hX hr h
  | cond x a b iha ihb =>
    intro kn kn' X X' kr kr' g w hn hX hr h
    unfold wpX at h ⊢
    split
    · rename_i t ht
      rw [ht] at h
      cases t
      · exact ihb hn hX hr h
      · exact iha hn hX hr h
    · rename_i hnb
      split at h
      · rename_i t ht; exact (hnb t ht).elim
      · exact h.elim
  | block id c ih =>
    intro kn kn' X X' kr kr' g w hn hX hr h
    unfold wpX at h ⊢
    refine ih hn (fun id' g w h => ?_) hr h
    unfold exitK at h ⊢
    cases hb : Nat.beq id' id with
    | true => rw [hb] at h; exact hn _ _ h
    | false => rw [hb] at h; exact hX _ _ _ h
  | loop c ih =>
    intro kn kn' X X' kr kr' g w hn hX hr h
    unfold wpX at h ⊢
    refine TVs_mono h ?_
    rintro vs0 ⟨I, μ, hI, hround⟩
    exact ⟨I, μ, hI, fun h' w' => allV_mono (hround h' w') fun vs hv hIv => ih (fun _ _ h => h) hX hr (hv hIv)⟩
  | scope c ih =>
    intro kn kn' X X' kr kr' g w hn hX hr h
    unfold wpX at h ⊢
    exact ih hn hX hr h
  | label l => intro kn kn' X X' kr kr' g w hn hX hr h; exact hn _ _ h
  | _ => intro kn kn' X X' kr kr' g w hn hX hr h; first | exact (show False from h).elim | exact hX _ _ _ h | exact hr _ _ h

theorem wpX_frame {A : Ann} {N : Nat} {D : List Nat} {g0 : Env} : ∀ (c : Code) (kn : Env → World → Prop) (X : Exits) (kr : Env → World → Prop) (g : Env) (w : World), codeOk P A N c = true → (∀ d ∈ writes c, d ∈ D) →
    Agree D g0 g → wpX P A c kn X kr g w → wpX P A c (S D g0 kn) (SX D g0 X) (S D g0 kr) g w := by
  intro c
  induction c with
  | skip => exact fun kn X kr g w _ _ ha h => ⟨ha, h⟩
  | region id ops draw =>
    intro kn X kr g w _ hD ha h
    unfold wpX at h ⊢
    cases draw with
    | false => exact regX_frame hD ha h
    | true => exact drawK_mono hD (fun g w ha h => ⟨ha, h⟩) _ _ _ _ ha h
  | seq a b iha ihb =>
    intro kn X kr g w hok hD ha h
    simp only [codeOk, Bool.and_eq_true] at hok
    simp only [writes, List.mem_append] at hD
    unfold wpX at h ⊢
    have h1 := iha _ X kr g w hok.1 (fun d hd => hD d (.inl hd)) ha h
    refine wpX_mono _ (fun g w ⟨ha', hk⟩ => ?_) (fun _ _ _ h => h) (fun _ _ h => h) h1
    exact ihb _ X kr g w hok.2 (fun d hd => hD d (.inr hd)) ha' hk
  | cond x a b iha ihb =>
    intro kn X kr g w hok hD ha h
    simp only [codeOk, Bool.and_eq_true] at hok
    simp only [writes, List.mem_append] at hD
    unfold wpX at h ⊢
    split
    · rename_i t ht
      rw [ht] at h
      cases t
      · exact ihb _ X kr g w hok.2 (fun d hd => hD d (.inr hd)) ha h
      · exact iha _ X kr g w hok.1 (fun d hd => hD d (.inl hd)) ha h
    · rename_i hn
      split at h
      · rename_i t ht; exact (hn t ht).elim
      · exact h.elim
  | block id c ih =>
    intro kn X kr g w hok hD ha h
    unfold wpX at h ⊢
    exact ih kn ((id, kn) :: X) kr g w hok hD ha h
  | loop c ih =>
    intro kn X kr g w hok hD ha h
    simp only [codeOk, Bool.and_eq_true] at hok
    unfold wpX at h ⊢
    refine TVs_mono h ?_
    rintro vs0 ⟨I, μ, hI, hr⟩
    refine ⟨I, μ, hI, fun h' w' => allV_mono (hr h' w') fun vs hv hIv => ?_⟩
    have := ih _ X kr _ w' hok.1 hD (headEnv_agree ha hD (subB_out hok.2)) (hv hIv)
    exact wpX_mono _ (fun g w ⟨_, hk⟩ => hk) (fun _ _ _ h => h) (fun _ _ h => h) this
  | scope c ih =>
    intro kn X kr g w hok hD ha h
    simp only [codeOk] at hok
    simp only [writes] at hD
    unfold wpX at h ⊢
    exact ih kn X kr g w hok hD ha h
  | label l => intro kn X kr g w _ _ ha h; exact ⟨ha, h⟩
  | _ => intro kn X kr g w _ _ ha h; first | exact (show False from h).elim | exact exitK_S ha h | exact ⟨ha, h⟩
theorem wpX_sound {A : Ann} {N : Nat} (hP : okNames P = true) (hM : P.follows .mixedOrders = true) : ∀ (c : Code) (kn : Env → World → Prop) (X : Exits) (kr : Env → World → Prop) (Q : Exit → Act → World → Prop) (a : Act) (g : Env) (w : World),
    codeOk P A N c = true → Rel Df N a g → (∀ a g w, Rel Df N a g → kn g w → Q .normal a w) → (∀ id a g w, Rel Df N a g → exitK X id g w → Q (.exit id) a w) → (∀ a g w, Rel Df N a g → kr g w → Q .ret a w) →
    wpX P A c kn X kr g w → wpN P c Q a w := by
  intro c
  induction c with
  | skip => intro kn X kr Q a g w _ hr hn hX hk h; exact fun b k cs _ => wp_skip (hn _ _ _ hr h) b k cs
  | region id ops draw =>
    intro kn X kr Q a g w hok hr hn hX hk h
    simp only [codeOk, Bool.and_eq_true] at hok
    obtain ⟨⟨hN, hG⟩, hC⟩ := hok
    unfold wpX at h
    cases draw with
    | false => exact regX_sound hP hN hG hn hr h
    | true =>
      have := wpAny_of_draw hP hN hG (regOk_of hC) hn ops.toList.length _ a g g w.drew 0 _ [] (inv_start ops.toList g w.drew) hr h (by
        refine Nat.le_trans (List.length_filter_le _ _) ?_
        simp)
      simp only [Array.length_toList, Array.toArray_toList] at this
      exact fun b k cs _ => wp_region_any hM this b k cs
  | seq x y ihx ihy =>
    intro kn X kr Q a g w hok hr hn hX hk h
    simp only [codeOk, Bool.and_eq_true] at hok
    unfold wpX at h
    refine wpN_seq (ihx _ X kr _ a g w hok.1 hr ?_ ?_ ?_ h)
    · exact fun a g w hr h => ihy kn X kr Q a g w hok.2 hr hn hX hk h
    · exact fun id a g w hr h => hX id a g w hr h
    · exact fun a g w hr h => hk a g w hr h
  | cond x y z ihy ihz =>
    intro kn X kr Q a g w hok hr hn hX hk h
    simp only [codeOk, Bool.and_eq_true] at hok
    unfold wpX at h
    split at h
    · rename_i t ht
      refine wpN_cond (t := t) (by rw [hr.eval]; exact ht) ?_
      cases t
      · exact ihz kn X kr Q a g w hok.2 hr hn hX hk h
      · exact ihy kn X kr Q a g w hok.1 hr hn hX hk h
    · exact h.elim
  | block id c ih =>
    intro kn X kr Q a g w hok hr hn hX hk h
    unfold wpX at h
    refine wpN_block (ih kn ((id, kn) :: X) kr _ a g w hok hr ?_ ?_ ?_ h)
    · exact fun a g w hr h => hn a g w hr h
    · intro id' a g w hr h
      unfold exitK at h
      show (if id' = id then Q .normal a w else Q (.exit id') a w)
      cases hb : Nat.beq id' id with
      | true => rw [hb] at h; rw [if_pos (Nat.eq_of_beq_eq_true hb)]; exact hn a g w hr h
      | false =>
        rw [hb] at h
        rw [if_neg (fun e => by rw [e] at hb; simp at hb)]
        exact hX id' a g w hr h
    · exact fun a g w hr h => hk a g w hr h
  | loop c ih =>
    intro kn X kr Q a g w hok hr hn hX hk h
    simp only [codeOk, Bool.and_eq_true] at hok
    unfold wpX at h
    have h0 := h
    obtain ⟨I, μ, hI, hround⟩ := TVs_out h
    have htyped : TVs P (annOf A (firstRegion c)) g fun vs => I vs w := by
      refine TVs_self h0 hI
    refine wpN_loop (fun a w => ∃ g', Rel Df N a g' ∧ Agree (writes c) g g' ∧ TVs P (annOf A (firstRegion c)) g' fun vs => I vs w)
      (fun a w => μ (readL (annOf A (firstRegion c)) fun t => a.tmps.getD t undef) w) ⟨g, hr, fun t _ => rfl, htyped⟩ ?_
    rintro a' w' ⟨g', hr', ha', ht'⟩
    have hIv := TVs_out ht'
    have hb := allV_inst ht' (hround g' w') hIv
    rw [headEnv_self ha'] at hb
    have hb := wpX_frame (D := writes c) (g0 := g) c _ X kr g' w' hok.1 (fun d hd => hd) ha' hb
    have he : (fun t => a'.tmps.getD t undef) = g' := funext hr'.get
    refine ih _ _ _ _ a' g' w' hok.1 hr' ?_ ?_ ?_ hb
    · rintro a2 g2 w2 hr2 ⟨ha2, ht2⟩
      have ho := TVs_out ht2
      refine ⟨⟨g2, hr2, ha2, TVs_mono ht2 fun _ h => h.1⟩, ?_⟩
      have he2 : (fun t => a2.tmps.getD t undef) = g2 := funext hr2.get
      rw [he2, he]
      exact ho.2
    · intro id a2 g2 w2 hr2 hx
      refine hX id a2 g2 w2 hr2 ?_
      exact exitK_unS hx
    · rintro a2 g2 w2 hr2 ⟨_, hx⟩
      exact hk a2 g2 w2 hr2 hx
  | scope c ih =>
    intro kn X kr Q a g w hok hr hn hX hk h
    simp only [codeOk] at hok
    unfold wpX at h
    exact wpN_scope (ih kn X kr (noGo Q) a g w hok hr (fun a g w hr h => hn a g w hr h) (fun id a g w hr h => hX id a g w hr h) (fun a g w hr h => hk a g w hr h) h)
  | label l => intro kn X kr Q a g w _ hr hn hX hk h; exact fun b k cs _ => wp_label (hn _ _ _ hr h) b k cs
  | _ => intro kn X kr Q a g w _ hr hn hX hk h; first | exact (show False from h).elim | exact fun b k cs _ => wp_exit (hX _ a g w hr h) b k cs | exact fun b k cs _ => wp_ret (hk a g w hr h) b k cs

theorem vcx_intro {A : Ann} {f : FuncId} {fn : Func} {args : List Value} {w : World} {R : Value → World → Prop} {VC : Prop} (hP : okNames P = true) (hM : P.follows .mixedOrders = true) (hf : P.funcs[f]? = some fn)
    (hok : vcOk P A fn args.length = true) (he : VC = wpFX P A fn (code fn) args w R) (h : VC) : CallV P f args.toArray w R := by
  rw [he] at h
  simp only [vcOk, Bool.and_eq_true] at hok
  obtain ⟨hb, hok, hlen⟩ := hok
  have hb : fn.body = some (code fn) := by
    unfold code
    cases h : fn.body with
    | some c => rfl
    | none => rw [h] at hb; simp at hb
  unfold wpFX at h
  unfold CallV
  refine calls_of_wpN hf hb ?_
  refine wpX_sound (Df := []) (N := fn.ntmps) hP hM _ _ [] _ _ _ (argEnv args) w hok ?_ ?_ ?_ ?_ h
  · have := argEnv_rel args.toArray fn.ntmps (by simpa using Nat.le_of_ble_eq_true hlen)
    simpa using this
  · intro a g w hr hk
    obtain ⟨vs, hv, hC⟩ := results_eq hr hk
    exact ⟨hr.defers, _, hv, _, rfl, hC⟩
  · intro id a g w hr hk; exact hk.elim
  · intro a g w hr hk
    obtain ⟨vs, hv, hC⟩ := results_eq hr hk
    exact ⟨hr.defers, _, hv, _, rfl, hC⟩

end
end Go.Vc

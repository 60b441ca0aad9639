/-
  Statements that leave their order open: over any program.
-/
import Derived.Test.YtdjgdcafmfheoaaDoorVcT
set_option linter.unusedSimpArgs false
set_option linter.unusedVariables false
namespace Go.Vc
open Go
variable {Df : List Deferred}

/-! what is checked of a statement that leaves its order open -/
def guardsB (ops : List Oper) : List Oper → Bool
  | [] => true
  | o :: r => (match o.guard with | some (j, _) => (match gslot ops j with | some _ => true | none => false) | none => true) && guardsB ops r
def backB : Nat → List Oper → Bool
  | _, [] => true
  | i, o :: r => (o.after.toList.all fun e => !Region.binds .any e || Nat.blt e.on i) && backB (i + 1) r
/-- two that may stand in either order are apart; what a read looks at is written ahead of it alone; no slot is written twice -/
def pairOk (P : Program) (ops : List Oper) (ms : List Nat) (y x : Nat) (p o : Oper) : Bool :=
  (Nat.testBit (ms.getD x 0) y || apartB ops p o) &&
  (match p.dst, o.dst with | some d, some e => !Nat.beq d e | _, _ => true) &&
  (match isRead P p.op, o.dst with | true, some d => !memB (readsOf ops p) d | _, _ => true)
def pairsB (P : Program) (ops : List Oper) (ms : List Nat) : Nat → List Oper → Bool
  | _, [] => true
  | x, o :: r => ((List.range x).all fun y => match ops[y]? with | some p => pairOk P ops ms y x p o | none => true) &&
      (match o.dst with | some d => !memB (readsOf ops o) d | none => true) && pairsB P ops ms (x + 1) r
def commOk (P : Program) (ops : List Oper) : Bool := backB 0 ops && pairsB P ops (masks ops []) 0 ops

inductive Reach (ops : List Oper) : Nat → Nat → Prop where
  | one {i : Nat} {o : Oper} {e : Edge} (ho : ops[i]? = some o) (he : e ∈ o.after.toList) (hb : Region.binds .any e = true) : Reach ops i e.on
  | step {i : Nat} {o : Oper} {e : Edge} {y : Nat} (ho : ops[i]? = some o) (he : e ∈ o.after.toList) (hb : Region.binds .any e = true) (h : Reach ops e.on y) : Reach ops i y

theorem maskOf_out {acc : List Nat} {y : Nat} : ∀ {l : List Edge}, Nat.testBit (maskOf acc l) y = true → ∃ e ∈ l, Region.binds .any e = true ∧ (e.on = y ∨ Nat.testBit (acc.getD e.on 0) y = true)
  | [], h => by simp [maskOf] at h
  | e :: r, h => by
    unfold maskOf at h
    cases hb : Region.binds .any e with
    | true =>
      rw [hb] at h
      simp only [Nat.testBit_or, Bool.or_eq_true, Nat.testBit_two_pow] at h
      rcases h with h | h | h
      · exact ⟨e, List.mem_cons_self, hb, .inl (of_decide_eq_true h)⟩
      · exact ⟨e, List.mem_cons_self, hb, .inr h⟩
      · obtain ⟨e', he', hb', hr⟩ := maskOf_out h
        exact ⟨e', List.mem_cons_of_mem _ he', hb', hr⟩
    | false =>
      rw [hb] at h
      obtain ⟨e', he', hb', hr⟩ := maskOf_out h
      exact ⟨e', List.mem_cons_of_mem _ he', hb', hr⟩

theorem masks_good {ops : List Oper} : ∀ (l : List Oper) (acc : List Nat), (∀ k, l[k]? = ops[acc.length + k]?) → (∀ i y, Nat.testBit (acc.getD i 0) y = true → Reach ops i y) →
    ∀ i y, Nat.testBit ((masks l acc).getD i 0) y = true → Reach ops i y
  | [], acc, _, hg => hg
  | o :: r, acc, hl, hg => by
    have ho : ops[acc.length]? = some o := by simpa using (hl 0).symm
    refine masks_good r _ (fun k => ?_) fun i y h => ?_
    · have := hl (k + 1)
      simp only [List.getElem?_cons_succ] at this
      rw [this, List.length_append, List.length_singleton, Nat.add_assoc, Nat.add_comm 1 k]
    · rcases Nat.lt_trichotomy i acc.length with hi | hi | hi
      · refine hg i y ?_
        rw [List.getD_eq_getElem?_getD, List.getElem?_append_left hi, ← List.getD_eq_getElem?_getD] at h
        exact h
      · subst hi
        rw [List.getD_eq_getElem?_getD, List.getElem?_append_right (Nat.le_refl _)] at h
        simp only [Nat.sub_self, List.getElem?_cons_zero, Option.getD_some] at h
        obtain ⟨e, he, hb, h⟩ := maskOf_out h
        rcases h with h | h
        · subst h; exact .one ho he hb
        · exact .step ho he hb (hg _ _ h)
      · rw [List.getD_eq_getElem?_getD, List.getElem?_eq_none (by simp; omega)] at h
        simp at h

theorem backB_out : ∀ (l : List Oper) (k : Nat), backB k l = true → ∀ i o e, l[i]? = some o → e ∈ o.after.toList → Region.binds .any e = true → e.on < k + i
  | [], k, _, i, o, e, ho, _, _ => by simp at ho
  | x :: r, k, h, i, o, e, ho, he, hb => by
    simp only [backB, Bool.and_eq_true] at h
    cases i with
    | zero =>
      simp at ho; subst ho
      have := List.all_eq_true.1 h.1 e he
      simp [hb] at this
      simpa using this
    | succ i =>
      simp only [List.getElem?_cons_succ] at ho
      have := backB_out r (k + 1) h.2 i o e ho he hb
      omega
theorem guardsB_out {ops : List Oper} : ∀ {l : List Oper}, guardsB ops l = true → ∀ o ∈ l, ∀ j want, o.guard = some (j, want) → gslot ops j ≠ none
  | [], _, o, ho, _, _, _ => by simp at ho
  | x :: r, h, o, ho, j, want, hg => by
    simp only [guardsB, Bool.and_eq_true] at h
    rcases List.mem_cons.1 ho with rfl | ho
    · have := h.1
      rw [hg] at this
      intro e
      dsimp only at this
      rw [e] at this
      simp at this
    · exact guardsB_out h.2 o ho j want hg

section
variable {P : Program}
theorem pairsB_out {ops : List Oper} {ms : List Nat} : ∀ (l : List Oper) (k : Nat), pairsB P ops ms k l = true → ∀ i o, l[i]? = some o →
    (∀ d, o.dst = some d → d ∉ readsOf ops o) ∧ ∀ y, y < k + i → ∀ p, ops[y]? = some p → pairOk P ops ms y (k + i) p o = true
  | [], k, _, i, o, ho => by simp at ho
  | x :: r, k, h, i, o, ho => by
    simp only [pairsB, Bool.and_eq_true] at h
    cases i with
    | zero =>
      simp at ho; subst ho
      refine ⟨fun d hd hm => ?_, fun y hy p hp => ?_⟩
      · have := h.1.2; rw [hd] at this; simp [memB_iff.2 hm] at this
      · have := List.all_eq_true.1 h.1.1 y (List.mem_range.2 hy)
        rw [hp] at this; exact this
    | succ i =>
      simp only [List.getElem?_cons_succ] at ho
      have := pairsB_out r (k + 1) h.2 i o ho
      rw [show k + 1 + i = k + (i + 1) by omega] at this
      exact this

/-- what the checks give of a region -/
structure RegOk (P : Program) (ops : List Oper) : Prop where
  back : ∀ (i : Nat) (o : Oper) (e : Edge), ops[i]? = some o → e ∈ o.after.toList → Region.binds .any e = true → e.on < i
  self : ∀ (i : Nat) (o : Oper) (d : Nat), ops[i]? = some o → o.dst = some d → d ∉ readsOf ops o
  apart : ∀ (y x : Nat) (p o : Oper), ops[y]? = some p → ops[x]? = some o → y < x → Reach ops x y ∨ Vc.apartB ops p o = true
  dst : ∀ (y x : Nat) (p o : Oper) (d : Nat), ops[y]? = some p → ops[x]? = some o → y ≠ x → p.dst = some d → o.dst ≠ some d
  stable : ∀ (y x : Nat) (p o : Oper) (d : Nat), ops[y]? = some p → ops[x]? = some o → isRead P p.op = true → o.dst = some d → d ∈ readsOf ops p → Reach ops y x

theorem pairOk_out {ops : List Oper} {ms : List Nat} {y x : Nat} {p o : Oper} (h : pairOk P ops ms y x p o = true) :
    (Nat.testBit (ms.getD x 0) y = true ∨ apartB ops p o = true) ∧ (∀ d, p.dst = some d → o.dst ≠ some d) ∧ (isRead P p.op = true → ∀ d, o.dst = some d → d ∉ readsOf ops p) := by
  simp only [pairOk, Bool.and_eq_true] at h
  obtain ⟨⟨h1, h2⟩, h3⟩ := h
  refine ⟨(Bool.or_eq_true _ _).mp h1, fun d hd he => ?_, fun hr d hd hm => ?_⟩
  · rw [hd, he] at h2; simp at h2
  · rw [hr, hd] at h3; simp [memB_iff.2 hm] at h3

theorem apartB_symm {ops : List Oper} {x y : Oper} (h : apartB ops x y = true) : apartB ops y x = true := by
  unfold apartB at *
  simp only [Bool.and_eq_true] at *
  obtain ⟨⟨h1, h2⟩, h3⟩ := h
  refine ⟨⟨h2, h1⟩, ?_⟩
  cases hx : x.dst <;> cases hy : y.dst <;> rw [hx, hy] at h3 <;> try rfl
  rename_i a b
  dsimp only at h3 ⊢
  cases hb : Nat.beq b a with
  | false => rfl
  | true => have := Nat.eq_of_beq_eq_true hb; subst this; simp at h3

theorem regOk_of {ops : List Oper} (h : commOk P ops = true) : RegOk P ops := by
  unfold commOk at h
  simp only [Bool.and_eq_true] at h
  have hp := fun i o ho => pairsB_out (P := P) ops 0 h.2 i o ho
  simp only [Nat.zero_add] at hp
  refine ⟨fun i o e ho he hb => by have := backB_out ops 0 h.1 i o e ho he hb; omega, fun i o d ho hd => (hp i o ho).1 d hd, fun y x p o hy hx hlt => ?_, fun y x p o d hy hx hne hd => ?_, fun y x p o d hy hx hr hd hm => ?_⟩
  · rcases (pairOk_out ((hp x o hx).2 y hlt p hy)).1 with h1 | h1
    · exact .inl (masks_good (ops := ops) ops [] (by simp) (by simp) x y h1)
    · exact .inr h1
  · rcases Nat.lt_or_gt_of_ne hne with hlt | hlt
    · exact (pairOk_out ((hp x o hx).2 y hlt p hy)).2.1 d hd
    · intro he
      exact (pairOk_out ((hp y p hy).2 x hlt o hx)).2.1 d he hd
  · rcases Nat.lt_trichotomy y x with hlt | rfl | hlt
    · exact ((pairOk_out ((hp x o hx).2 y hlt p hy)).2.2 hr d hd hm).elim
    · rw [hy] at hx; obtain rfl := Option.some.inj hx
      exact ((hp y p hy).1 d hd hm).elim
    · rcases (pairOk_out ((hp y p hy).2 x hlt o hx)).1 with h1 | h1
      · exact masks_good (ops := ops) ops [] (by simp) (by simp) y x h1
      · exact ((apartB_out h1).1 d hd hm).elim

/-! an easy operation gives one value, and turns nothing -/
def Gives (F : (Value → World → Prop) → Prop) (w : World) (v : Value) : Prop := ∀ K, F K ↔ K v w


def runI (P : Program) (ops : List Oper) (K : Env → World → Prop) : List Nat → Env → World → Prop
  | [] => K
  | i :: r => match ops[i]? with | some o => stepA P ops o (runI P ops K r) | none => runI P ops K r

/-! an easy operation gives one value, and turns nothing -/
theorem TV1_gives (t : TypeId) (v : Value) : (∀ C, TV1 P t v C ↔ C v) ∨ ∀ C, ¬ TV1 P t v C := by
  by_cases h : TV1 P t v fun _ => True
  · refine .inl fun C => ⟨TV1_out, fun hC => ?_⟩
    obtain ⟨c, u, hd⟩ := Det_TV1 (P := P) (t := t) (v := v)
    have hc := ((hd _).1 h).1
    have : TV1 P t v fun x => x = u := (hd _).2 ⟨hc, rfl⟩
    have e : v = u := TV1_out (C := fun x => x = u) this
    exact (hd _).2 ⟨hc, e ▸ hC⟩
  · exact .inr fun C hC => h (TV1_mono hC fun _ _ => trivial)

theorem isRead_conv {s t : TypeId} {x : Operand} (h : isRead P (.convert s t x) = true) : P.underlying t = some .string := by
  simp only [isRead] at h
  split at h
  · assumption
  · simp at h

theorem easy_gives {ops : List Oper} {o : Oper} (he : isEasy P o.op = true) (g : Env) (w : World) :
    (∃ v, ∀ K, actK P ops g o K w ↔ K v w) ∨ ∀ K, ¬ actK P ops g o K w := by
  cases hp : isPure P o.op with
  | true =>
    obtain ⟨c, v, h⟩ := actK_det (P := P) (ops := ops) hp g
    by_cases hc : c
    · exact .inl ⟨v, fun K => by rw [h]; simp [hc]⟩
    · exact .inr fun K hK => hc ((h _ _).1 hK).1
  | false =>
    have hr : isRead P o.op = true := by simpa [isEasy, hp] using he
    unfold actK
    cases wantE ops g o with
    | false => exact .inl ⟨undef, fun K => Iff.rfl⟩
    | true =>
      dsimp only
      unfold opK
      rw [hp]
      dsimp only
      obtain ⟨dst, op, ty, pos, after, guard⟩ := o
      unfold effK
      dsimp only at hr
      have hr' := hr
      cases op <;> simp only [isRead, Bool.false_eq_true] at hr <;> dsimp only
      case load t x =>
        split
        · rename_i a _
          split
          · split
            · rename_i n _
              by_cases hx : ∃ cs : Array Value, cs.size = n ∧ ∀ i, i < n → w.cell? (a.add i) = cs[i]?
              · obtain ⟨cs, hc⟩ := hx
                refine .inl ⟨.agg cs, fun K => ⟨fun ⟨cs', hc', hk⟩ => ?_, fun hk => ⟨cs, hc, hk⟩⟩⟩
                have : cs' = cs := by
                  apply Array.ext_getElem?
                  intro i
                  by_cases hi : i < n
                  · rw [← hc.2 i hi, ← hc'.2 i hi]
                  · rw [Array.getElem?_eq_none (by omega), Array.getElem?_eq_none (by omega)]
                rw [← this]; exact hk
              · exact .inr fun K ⟨cs, hc, _⟩ => hx ⟨cs, hc⟩
            · exact .inr fun K h => h
          · unfold LoadC
            cases hc : w.cell? a with
            | none => exact .inr fun K h => h
            | some v =>
              dsimp only
              rcases TV1_gives (P := P) t v with h | h
              · exact .inl ⟨v, fun K => h _⟩
              · exact .inr fun K => h _
          · exact .inr fun K h => h
        · exact .inr fun K h => h
      case convert s t x =>
        rw [hr']
        dsimp only
        unfold ReadV
        have hu : P.underlying t = some .string := isRead_conv hr'
        have hT : ∀ v C, TV P t v C ↔ TV1 P t v C := fun v C => by unfold TV; rw [hu]
        by_cases hx : ∃ v, (convert s t (ev g x)).run P w = .ok v w
        · obtain ⟨v, hv⟩ := hx
          rcases TV1_gives (P := P) t v with h | h
          · refine .inl ⟨v, fun K => ⟨fun ⟨u, hu, hk⟩ => ?_, fun hk => ⟨v, hv, (hT _ _).2 ((h _).2 hk)⟩⟩⟩
            rw [hv] at hu
            simp at hu
            subst hu
            rw [hT, h] at hk
            exact hk
          · refine .inr fun K ⟨u, hu, hk⟩ => ?_
            rw [hv] at hu
            simp at hu
            subst hu
            rw [hT] at hk
            exact h _ hk
        · exact .inr fun K ⟨u, hu, _⟩ => hx ⟨u, hu⟩

theorem chkGo_C {o : Oper} {g : Env} {w : World} {d : Nat} {C : Prop} (h : chkGo P o g w d C) : C := by
  unfold chkGo at h
  split at h
  · split at h
    · split at h
      · split at h
        · exact h.2
        · exact h.elim
      · exact h.2
      · exact h.elim
    · exact h.elim
  · exact h.2
  · exact h.elim
theorem chk1_C {ops : List Oper} {o : Oper} {g : Env} {w : World} {C : Prop} (h : chk1 P ops o g w C) : C := by
  unfold chk1 at h
  split at h
  · exact h.elim
  · split at h
    · exact chkGo_C h
    · split at h
      · exact h.elim
      · split at h
        · rename_i b _
          split at h
          · cases b
            · exact h
            · exact chkGo_C h
          · cases b
            · exact chkGo_C h
            · exact h
        · exact h

/-- read again, and found as before: 'o' gave 'v' in (g, w); in (g2, w2) it is checked -/
theorem chk1_again {ops : List Oper} {o : Oper} {g g2 : Env} {w w2 : World} {C : Prop} {v : Value} {d : Nat} (hr : isRead P o.op = true) (hd : o.dst = some d) (hv : g2 d = v)
    (hs : ∀ K, actK P ops g o K w ↔ K v w) (ha : actK P ops g2 o = actK P ops g o) (h : chk1 P ops o g2 w2 C) :
    ∀ K, K v w2 → actK P ops g o K w2 := by
  have hp : isPure P o.op = false := by
    cases ho : o.op <;> rw [ho] at hr <;> simp only [isRead, Bool.false_eq_true] at hr
    · rfl
    · simp only [isPure]
      split at hr
      · rename_i h1 h2; unfold convPure; rw [h1, h2]
      · simp at hr
  intro K hK
  rw [← ha]
  rw [← ha] at hs
  unfold actK at hs ⊢
  unfold opK at hs ⊢
  rw [hp] at hs ⊢
  unfold chk1 at h
  rw [hd] at h
  dsimp only at h hs ⊢
  -- what the check says, and what was read
  have key : chkGo P o g2 w2 d C → (∀ K, effK P g2 o K w ↔ K v w) → effK P g2 o K w2 := by
    intro h hs
    have hs := (hs fun u w' => u = v).2 rfl
    unfold chkGo at h
    rw [hv] at h
    unfold effK at hs ⊢
    cases ho : o.op <;> rw [ho] at h hs hr <;> dsimp only at h hs ⊢ <;> try exact h.elim
    case load t x =>
      split at h
      · rename_i a hx
        try rw [hx] at hs
        try rw [hx]
        try dsimp only at hs
        try dsimp only
        split at h
        · rename_i hag
          try rw [hag] at hs
          try rw [hag]
          try dsimp only at hs
          try dsimp only
          split at h
          · rename_i n hn
            try rw [hn] at hs
            try rw [hn]
            try dsimp only at hs
            try dsimp only
            obtain ⟨cs, hc, e⟩ := hs
            rw [← e] at h
            exact ⟨cs, h.1, by show K (.agg cs) w2; rw [e]; exact hK⟩
          · exact h.elim
        · rename_i hag
          try rw [hag] at hs
          try rw [hag]
          try dsimp only at hs
          try dsimp only
          obtain ⟨u, hu, hT⟩ := hs.out
          have e := TV1_out (C := fun x => x = v) hT
          unfold LoadC
          rw [h.1]
          dsimp only
          rcases TV1_gives (P := P) t v with hg | hg
          · exact (hg _).2 hK
          · subst e; exact (hg _ hT).elim
        · exact h.elim
      · exact h.elim
    case convert s t x =>
      rw [hr] at hs ⊢
      dsimp only at hs ⊢
      obtain ⟨u, hu, hT⟩ := hs
      have hut : P.underlying t = some .string := isRead_conv hr
      have hTV : ∀ v C, TV P t v C ↔ TV1 P t v C := fun v C => by unfold TV; rw [hut]
      have e := TV_out (C := fun x => x = v) hT
      refine ⟨v, h.1, ?_⟩
      rw [hTV] at hT ⊢
      rcases TV1_gives (P := P) t v with hg | hg
      · exact (hg _).2 hK
      · subst e; exact (hg _ hT).elim
  cases hw : wantE ops g2 o with
  | false => exact (by
      rw [hw] at hs
      have e := (hs fun u w' => u = v).2 rfl
      dsimp only at e ⊢
      rw [e]; exact hK)
  | true =>
    rw [hw] at hs
    dsimp only at hs ⊢
    refine key ?_ hs
    unfold wantE at hw
    split at h
    · exact h
    · rename_i j want hg
      rw [hg] at hw
      dsimp only at hw
      split at h
      · exact h.elim
      · rename_i e he
        rw [he] at hw
        dsimp only at hw
        split at h
        · rename_i b hb
          rw [hb] at hw
          dsimp only at hw
          cases b <;> cases want <;> simp at hw <;> exact h
        · rename_i hnb
          split at hw
          · rename_i b hb; exact (hnb b hb).elim
          · simp at hw

theorem actK_agree {ops : List Oper} {o : Oper} {g g' : Env} (h : ∀ t ∈ readsOf ops o, g t = g' t) : actK P ops g o = actK P ops g' o := by
  have h1 : opK P g o = opK P g' o := opK_congr fun x hx => by
    cases x with
    | tmp t => exact h t (List.mem_append_right _ (mem_tmpsOf (Array.mem_def.1 hx)))
    | const v => rfl
    | global k => rfl
    | func f => rfl
  have h2 : wantE ops g o = wantE ops g' o := by
    unfold wantE
    cases hg : o.guard with
    | none => rfl
    | some p =>
      obtain ⟨j, want⟩ := p
      dsimp only
      cases hs : gslot ops j with
      | none => rfl
      | some s =>
        dsimp only
        rw [h s (by unfold readsOf; rw [hg]; simp [hs])]
  funext K w
  unfold actK
  rw [h1, h2]

theorem chks_mem {ops : List Oper} {g : Env} {w : World} {C : Prop} : ∀ {l : List Oper}, chks P ops l g w C → C ∧ ∀ o ∈ l, ∃ C', chk1 P ops o g w C'
  | [], h => ⟨h, by simp⟩
  | o :: r, h => by
    unfold chks at h
    have h2 := chks_mem (chk1_C h)
    refine ⟨h2.1, fun o' ho' => ?_⟩
    rcases List.mem_cons.1 ho' with rfl | ho'
    · exact ⟨_, h⟩
    · exact h2.2 o' ho'

theorem stepA_easy {ops : List Oper} {o : Oper} {g : Env} {w : World} {v : Value} (h : ∀ K, actK P ops g o K w ↔ K v w) (K : Env → World → Prop) : stepA P ops o K g w ↔ K (putO g o.dst v) w := h _

theorem comm_easy {ops : List Oper} {x y : Oper} (hx : isEasy P x.op = true) (hy : isEasy P y.op = true) (ha : apartB ops x y = true) {K : Env → World → Prop} {g : Env} {w : World} (h : stepA P ops x (stepA P ops y K) g w) :
    stepA P ops y (stepA P ops x K) g w := by
  obtain ⟨h1, h2, h3⟩ := apartB_out ha
  rcases easy_gives (P := P) (ops := ops) hx g w with ⟨v, hv⟩ | hv
  · rw [stepA_easy hv] at h
    rcases easy_gives (P := P) (ops := ops) hy g w with ⟨u, hu⟩ | hu
    · have hu' : ∀ K, actK P ops (putO g x.dst v) y K w ↔ K u w := fun K => by rw [actK_put h1]; exact hu K
      rw [stepA_easy hu'] at h
      rw [stepA_easy hu]
      have hv' : ∀ K, actK P ops (putO g y.dst u) x K w ↔ K v w := fun K => by rw [actK_put h2]; exact hv K
      rw [stepA_easy hv', ← putO_comm h3]
      exact h
    · unfold stepA at h
      rw [actK_put h1] at h
      exact (hu _ h).elim
  · exact (hv _ h).elim

theorem runI_bubble {ops : List Oper} {K : Env → World → Prop} {i : Nat} {o : Oper} (ho : ops[i]? = some o) (heo : isEasy P o.op = true) {post : List Nat} : ∀ (pre : List Nat),
    (∀ j ∈ pre, ∀ p, ops[j]? = some p → isEasy P p.op = true ∧ apartB ops p o = true) → ∀ g w, runI P ops K (pre ++ i :: post) g w → stepA P ops o (runI P ops K (pre ++ post)) g w
  | [], _, g, w, h => by simp only [List.nil_append] at h ⊢; unfold runI at h; rw [ho] at h; exact h
  | j :: pre, hc, g, w, h => by
    have ih := runI_bubble (K := K) ho heo (post := post) pre fun j hj => hc j (List.mem_cons_of_mem _ hj)
    simp only [List.cons_append] at h ⊢
    unfold runI at h
    cases hj : ops[j]? with
    | none =>
      rw [hj] at h
      refine stepA_mono (fun g w h => ?_) (ih g w h)
      unfold runI; rw [hj]; exact h
    | some p =>
      rw [hj] at h
      obtain ⟨h1, h2⟩ := hc j List.mem_cons_self p hj
      refine stepA_mono (fun g w h => ?_) (comm_easy h1 heo h2 (stepA_mono ih h))
      unfold runI; rw [hj]; exact h

theorem runI_append {ops : List Oper} {K : Env → World → Prop} : ∀ (l r : List Nat), runI P ops K (l ++ r) = runI P ops (runI P ops K r) l
  | [], r => rfl
  | i :: l, r => by
    simp only [List.cons_append]
    unfold runI
    rw [runI_append l r]

/-- 'ps' are still to be done in (ga, w); when they are, the slots are 'gc' -/
def Pend (P : Program) (ops : List Oper) (ps : List Nat) (ga gc : Env) (w : World) : Prop := ∀ K : Env → World → Prop, K gc w → runI P ops K ps ga w
def AllEasy (P : Program) (ops : List Oper) (ps : List Nat) : Prop := ∀ i ∈ ps, ∃ o, ops[i]? = some o ∧ isEasy P o.op = true

theorem Pend.nil {ops : List Oper} {ga gc : Env} {w : World} (h : Pend P ops [] ga gc w) : ga = gc := h (fun g _ => g = gc) rfl

/-- the first of what is to be done -/
theorem Pend.cons {ops : List Oper} {i : Nat} {o : Oper} {r : List Nat} {ga gc : Env} {w : World} (ho : ops[i]? = some o) (he : isEasy P o.op = true) (h : Pend P ops (i :: r) ga gc w) :
    ∃ v, (∀ K, actK P ops ga o K w ↔ K v w) ∧ Pend P ops r (putO ga o.dst v) gc w := by
  have h' : ∀ K : Env → World → Prop, K gc w → stepA P ops o (runI P ops K r) ga w := fun K hK => by
    have := h K hK
    unfold runI at this
    rw [ho] at this
    exact this
  rcases easy_gives (P := P) (ops := ops) he ga w with ⟨v, hv⟩ | hv
  · exact ⟨v, hv, fun K hK => (stepA_easy hv _).1 (h' K hK)⟩
  · exact (hv _ (h' (fun _ _ => True) trivial)).elim

theorem Pend.agree {ops : List Oper} {w : World} : ∀ {ps : List Nat} {ga gc : Env}, AllEasy P ops ps → Pend P ops ps ga gc w → ∀ t, (∀ i ∈ ps, ∀ o, ops[i]? = some o → o.dst ≠ some t) → gc t = ga t
  | [], ga, gc, _, h, t, _ => by rw [h.nil]
  | i :: r, ga, gc, he, h, t, ht => by
    obtain ⟨o, ho, heo⟩ := he i List.mem_cons_self
    obtain ⟨v, _, hr⟩ := h.cons ho heo
    rw [Pend.agree (fun j hj => he j (List.mem_cons_of_mem _ hj)) hr t fun j hj => ht j (List.mem_cons_of_mem _ hj)]
    exact putO_get (ht i List.mem_cons_self o ho)

/-- one of them may be done first -/
theorem Pend.take {ops : List Oper} {i : Nat} {o : Oper} {pre post : List Nat} {ga gc : Env} {w : World} (ho : ops[i]? = some o) (he : isEasy P o.op = true)
    (hc : ∀ j ∈ pre, ∀ p, ops[j]? = some p → isEasy P p.op = true ∧ apartB ops p o = true) (h : Pend P ops (pre ++ i :: post) ga gc w) :
    ∃ v, (∀ K, actK P ops ga o K w ↔ K v w) ∧ Pend P ops (pre ++ post) (putO ga o.dst v) gc w := by
  have h' : ∀ K : Env → World → Prop, K gc w → stepA P ops o (runI P ops K (pre ++ post)) ga w := fun K hK => runI_bubble ho he pre hc ga w (h K hK)
  rcases easy_gives (P := P) (ops := ops) he ga w with ⟨v, hv⟩ | hv
  · exact ⟨v, hv, fun K hK => (stepA_easy hv _).1 (h' K hK)⟩
  · exact (hv _ (h' (fun _ _ => True) trivial)).elim

/-- one more -/
theorem Pend.snoc {ops : List Oper} {i : Nat} {o : Oper} {ps : List Nat} {ga gc : Env} {w : World} {v : Value} (ho : ops[i]? = some o) (hv : ∀ K, actK P ops gc o K w ↔ K v w) (h : Pend P ops ps ga gc w) :
    Pend P ops (ps ++ [i]) ga (putO gc o.dst v) w := by
  intro K hK
  rw [runI_append]
  refine h _ ?_
  unfold runI
  rw [ho]
  show stepA P ops o (runI P ops K []) gc w
  rw [stepA_easy hv]
  exact hK

/-- what is to be done still comes to the same behind an operation of another kind, if what was read reads as before -/
theorem Pend.over {ops : List Oper} {e : Oper} {u : Value} {w w2 : World} (C : Oper → Prop) : ∀ {ps : List Nat} {ga gc : Env}, AllEasy P ops ps → ps.Nodup →
    (∀ i ∈ ps, ∀ o, ops[i]? = some o → apartB ops o e = true) →
    (∀ i ∈ ps, ∀ j ∈ ps, ∀ o p d, ops[i]? = some o → ops[j]? = some p → i ≠ j → o.dst = some d → p.dst ≠ some d) →
    (∀ i ∈ ps, ∀ o d, ops[i]? = some o → o.dst = some d → d ∉ readsOf ops o) →
    (∀ a b i j o p d, ps = a ++ b → i ∈ a → j ∈ b → ops[i]? = some o → ops[j]? = some p → isRead P o.op = true → p.dst = some d → d ∉ readsOf ops o) →
    (∀ i ∈ ps, ∀ o, ops[i]? = some o → isRead P o.op = true → ∃ C', chk1 P ops o (putO gc e.dst u) w2 C') →
    Pend P ops ps ga gc w → Pend P ops ps (putO ga e.dst u) (putO gc e.dst u) w2
  | [], ga, gc, _, _, _, _, _, _, _, h => by
    intro K hK
    have := h.nil
    subst this
    exact hK
  | i :: r, ga, gc, he, hnd, hap, hds, hself, hst, hck, h => by
    obtain ⟨o, ho, heo⟩ := he i List.mem_cons_self
    obtain ⟨v, hv, hr⟩ := h.cons ho heo
    obtain ⟨a1, a2, a3⟩ := apartB_out (hap i List.mem_cons_self o ho)
    have her : AllEasy P ops r := fun j hj => he j (List.mem_cons_of_mem _ hj)
    have hir : i ∉ r := (List.nodup_cons.1 hnd).1
    have ih := Pend.over (e := e) (u := u) (w2 := w2) C her (List.nodup_cons.1 hnd).2 (fun j hj => hap j (List.mem_cons_of_mem _ hj))
      (fun j hj k hk => hds j (List.mem_cons_of_mem _ hj) k (List.mem_cons_of_mem _ hk)) (fun j hj => hself j (List.mem_cons_of_mem _ hj))
      (fun a b j k o p d hab hj hk => hst (i :: a) b j k o p d (by rw [hab]; rfl) (List.mem_cons_of_mem _ hj) hk)
      (fun j hj => hck j (List.mem_cons_of_mem _ hj)) hr
    -- the value of the first one is the same
    have hval : ∀ K, K v w2 → actK P ops (putO ga e.dst u) o K w2 := by
      rw [actK_put (fun t ht => a2 t ht)]
      cases hread : isRead P o.op with
      | false =>
        have hp : isPure P o.op = true := by simpa [isEasy, hread] using heo
        obtain ⟨c, v', hd⟩ := actK_det (P := P) (ops := ops) hp ga
        intro K hK
        have h1 := (hd _ _).1 ((hv fun x _ => x = v).2 rfl)
        rw [hd]
        exact ⟨h1.1, h1.2 ▸ hK⟩
      | true =>
        obtain ⟨C', hc⟩ := hck i List.mem_cons_self o ho hread
        have hdst : ∃ d, o.dst = some d := by
          unfold chk1 at hc
          cases hd : o.dst with
          | none => rw [hd] at hc; exact hc.elim
          | some d => exact ⟨d, rfl⟩
        obtain ⟨d, hd⟩ := hdst
        have hgc : gc d = v := by
          rw [Pend.agree her hr d fun j hj p hp => hds i List.mem_cons_self j (List.mem_cons_of_mem _ hj) o p d ho hp (fun e => hir (e ▸ hj)) hd, hd]
          simp [putO, put]
        have hgd : putO gc e.dst u d = v := by
          rw [putO_get (fun e' => by rcases a3 with h | h <;> simp_all), hgc]
        refine chk1_again (w := w) hread hd hgd hv ?_ hc
        -- the slots that it looks at are the same
        rw [actK_put (fun t ht => a2 t ht)]
        have hag : ∀ t ∈ readsOf ops o, gc t = ga t := by
          intro t ht
          rw [Pend.agree her hr t fun j hj p hp he' => hst [i] r i j o p t rfl (by simp) hj ho hp hread he' ht]
          exact putO_get (fun e' => hself i List.mem_cons_self o t ho e' ht)
        exact actK_agree hag
    intro K hK
    unfold runI
    rw [ho]
    refine hval _ ?_
    have := ih K hK
    rw [← putO_comm a3]
    exact this

def ClosedL (ops : List Oper) (listed : Array Bool) : Prop :=
  ∀ i o e, ops[i]? = some o → listed.getD i false = true → e ∈ o.after.toList → Region.binds .any e = true → listed.getD e.on false = true
theorem ClosedL.reach {ops : List Oper} {listed : Array Bool} (hc : ClosedL ops listed) {i y : Nat} (h : Reach ops i y) : listed.getD i false = true → listed.getD y false = true := by
  induction h with
  | one ho he hb => exact fun hi => hc _ _ _ ho hi he hb
  | step ho he hb _ ih => exact fun hi => ih (hc _ _ _ ho hi he hb)
theorem getD_true_of_false {listed : Array Bool} {i : Nat} (h : listed.getD i true = false) : listed.getD i false = false := by
  rw [Array.getD_eq_getD_getElem?] at *
  cases hh : listed[i]? with
  | none => simp [hh] at h
  | some b => simpa [hh] using h
theorem getD_false_of_lt {listed : Array Bool} {i : Nat} (hi : i < listed.size) (h : ¬ listed.getD i false = true) : listed.getD i true = false := by
  rw [Array.getD_eq_getD_getElem?] at *
  rw [Array.getElem?_eq_getElem hi] at *
  simpa using h

theorem testBit_edgeMask {y : Nat} : ∀ {l : List Edge}, Nat.testBit (edgeMask l) y = true ↔ ∃ e ∈ l, Region.binds .any e = true ∧ e.on = y
  | [] => by simp [edgeMask]
  | e :: r => by
    unfold edgeMask
    cases hb : Region.binds .any e with
    | true =>
      simp only [Nat.testBit_or, Bool.or_eq_true, Nat.testBit_two_pow, testBit_edgeMask (l := r), List.mem_cons, exists_eq_or_imp, hb, true_and, decide_eq_true_eq]
    | false =>
      simp only [testBit_edgeMask (l := r), List.mem_cons, exists_eq_or_imp, hb, Bool.false_eq_true, false_and, false_or]
theorem readyB_iff {L i : Nat} {o : Oper} : readyB L i o = true ↔ Nat.testBit L i = false ∧ ∀ e ∈ o.after.toList, Region.binds .any e = true → Nat.testBit L e.on = true := by
  unfold readyB
  rw [Bool.and_eq_true, Nat.beq_eq]
  constructor
  · rintro ⟨h1, h2⟩
    refine ⟨by simpa using h1, fun e he hb => ?_⟩
    have h3 : Nat.testBit (edgeMask o.after.toList) e.on = true := testBit_edgeMask.2 ⟨e, he, hb, rfl⟩
    rw [← h2] at h3
    have := Nat.testBit_and (edgeMask o.after.toList) L e.on
    have h4 : Nat.testBit (edgeMask o.after.toList &&& L) e.on = true := h3
    rw [this, Bool.and_eq_true] at h4
    exact h4.2
  · rintro ⟨h1, h2⟩
    refine ⟨by simpa using h1, ?_⟩
    show edgeMask o.after.toList &&& L = edgeMask o.after.toList
    apply Nat.eq_of_testBit_eq
    intro y
    rw [Nat.testBit_and]
    cases hm : Nat.testBit (edgeMask o.after.toList) y with
    | false => rfl
    | true =>
      obtain ⟨e, he, hb, rfl⟩ := testBit_edgeMask.1 hm
      rw [h2 e he hb]; rfl
theorem firstEasy_some {L : Nat} : ∀ {l : List Oper} {k i : Nat}, firstEasy P L k l = some i → ∃ j o, i = k + j ∧ l[j]? = some o ∧ readyB L i o = true ∧ isEasy P o.op = true
  | [], k, i, h => by simp [firstEasy] at h
  | o :: r, k, i, h => by
    unfold firstEasy at h
    split at h
    · rename_i hb
      rw [Bool.and_eq_true] at hb
      simp at h; subst h
      exact ⟨0, o, rfl, rfl, hb.1, hb.2⟩
    · obtain ⟨j, o', hi, hj, h1, h2⟩ := firstEasy_some h
      exact ⟨j + 1, o', by omega, by simpa using hj, h1, h2⟩
theorem firstEasy_none {L : Nat} : ∀ {l : List Oper} {k : Nat}, firstEasy P L k l = none → ∀ j o, l[j]? = some o → readyB L (k + j) o = true → isEasy P o.op = false
  | [], k, h, j, o, ho, _ => by simp at ho
  | x :: r, k, h, j, o, ho, hr => by
    unfold firstEasy at h
    split at h
    · simp at h
    · rename_i hb
      cases j with
      | zero =>
        simp at ho; subst ho
        rw [Nat.add_zero] at hr
        rw [hr, Bool.true_and] at hb
        exact hb
      | succ j => exact firstEasy_none h j o (by simpa using ho) (by rw [show k + 1 + j = k + (j + 1) by omega]; exact hr)
theorem mem_readyEffs {L : Nat} : ∀ {l : List Oper} {k j : Nat} {o : Oper}, l[j]? = some o → readyB L (k + j) o = true → isEasy P o.op = false → k + j ∈ readyEffs P L k l
  | [], k, j, o, ho, _, _ => by simp at ho
  | x :: r, k, j, o, ho, hr, he => by
    unfold readyEffs
    cases j with
    | zero =>
      simp at ho; subst ho
      rw [Nat.add_zero] at hr
      rw [hr, he]
      simp
    | succ j =>
      have := mem_readyEffs (l := r) (k := k + 1) (j := j) (by simpa using ho) (by rw [show k + 1 + j = k + (j + 1) by omega]; exact hr) he
      rw [show k + 1 + j = k + (j + 1) by omega] at this
      split
      · exact List.mem_cons_of_mem _ this
      · exact this
theorem mem_toCheck {L m : Nat} : ∀ {l : List Oper} {k j : Nat} {o : Oper}, l[j]? = some o → Nat.testBit L (k + j) = true → Nat.testBit m (k + j) = false → isRead P o.op = true → o ∈ toCheck P L m k l
  | [], k, j, o, ho, _, _, _ => by simp at ho
  | x :: r, k, j, o, ho, h1, h2, h3 => by
    unfold toCheck
    cases j with
    | zero =>
      simp at ho; subst ho
      rw [Nat.add_zero] at h1 h2
      rw [h1, h2, h3]
      simp
    | succ j =>
      have := mem_toCheck (l := r) (k := k + 1) (j := j) (by simpa using ho) (by rw [show k + 1 + j = k + (j + 1) by omega]; exact h1) (by rw [show k + 1 + j = k + (j + 1) by omega]; exact h2) h3
      split
      · exact List.mem_cons_of_mem _ this
      · exact this
theorem allK_mem {X : Nat → Prop} : ∀ {l : List Nat}, allK X l → ∀ e ∈ l, X e
  | [], _, e, he => by simp at he
  | [x], h, e, he => by simp at he; subst he; exact h
  | x :: y :: r, h, e, he => by
    unfold allK at h
    rcases List.mem_cons.1 he with rfl | he
    · exact h.1
    · exact allK_mem h.2 e he

structure Inv (P : Program) (ops : List Oper) (La : Array Bool) (Lc : Nat) (ps : List Nat) (ga gc : Env) (w : World) : Prop where
  size : La.size = ops.length
  closed : ClosedL ops La
  mask : ∀ k, k < ops.length → (Nat.testBit Lc k = true ↔ La.getD k false = true ∨ k ∈ ps)
  nodup : ps.Nodup
  easy : AllEasy P ops ps
  off : ∀ k ∈ ps, La.getD k false = false
  ord : ∀ a j b, ps = a ++ j :: b → ∀ o e, ops[j]? = some o → e ∈ o.after.toList → Region.binds .any e = true → La.getD e.on false = true ∨ e.on ∈ a
  pend : Pend P ops ps ga gc w

theorem Inv.reach {ops : List Oper} {La : Array Bool} {Lc : Nat} {ps : List Nat} {ga gc : Env} {w : World} (h : Inv P ops La Lc ps ga gc w) {j y : Nat} (hr : Reach ops j y) :
    ∀ a b, ps = a ++ j :: b → La.getD y false = true ∨ y ∈ a := by
  induction hr with
  | one ho he hb => intro a b hp; exact h.ord a _ b hp _ _ ho he hb
  | step ho he hb _ ih =>
    intro a b hp
    rcases h.ord a _ b hp _ _ ho he hb with h1 | h1
    · exact .inl (h.closed.reach (by assumption) h1)
    · obtain ⟨a1, a2, rfl⟩ := List.append_of_mem h1
      exact (ih a1 _ (by rw [hp, List.append_assoc]; rfl)).imp id (List.mem_append_left _)

/-- what is easy and can be done, is done -/
theorem saturate {ops : List Oper} {K : Env → World → Prop} {ms : List Nat} (hk : RegOk P ops) {La : Array Bool} {ga : Env} {w : World} : ∀ (n : Nat) {Lc : Nat} {ps : List Nat} {gc : Env}, Inv P ops La Lc ps ga gc w → drawK P ops ms K n Lc gc w →
    ∃ n' Lc' ps' gc', Inv P ops La Lc' ps' ga gc' w ∧ firstEasy P Lc' 0 ops = none ∧ drawK P ops ms K (n' + 1) Lc' gc' w
  | 0, _, _, _, _, h => h.elim
  | n + 1, Lc, ps, gc, hi, h => by
    cases hf : firstEasy P Lc 0 ops with
    | none => exact ⟨n, Lc, ps, gc, hi, hf, h⟩
    | some i =>
      unfold drawK at h
      rw [hf] at h
      dsimp only at h
      obtain ⟨j, o, hij, ho, hr, he⟩ := firstEasy_some hf
      rw [Nat.zero_add] at hij
      subst hij
      rw [ho] at h
      dsimp only at h
      have h := stepG_act h
      have hlt : i < ops.length := (List.getElem?_eq_some_iff.1 ho).1
      obtain ⟨hbit, hpred⟩ := readyB_iff.1 hr
      rcases easy_gives (P := P) (ops := ops) he gc w with ⟨v, hv⟩ | hv
      · have h := (hv _).1 h
        have hni : ¬ (La.getD i false = true ∨ i ∈ ps) := fun hx => by rw [(hi.mask i hlt).2 hx] at hbit; simp at hbit
        refine saturate hk n (ps := ps ++ [i]) (gc := putO gc o.dst v) ?_ h
        refine ⟨hi.size, hi.closed, fun k hkl => ?_, ?_, ?_, ?_, ?_, hi.pend.snoc ho hv⟩
        · rw [Nat.testBit_or, Bool.or_eq_true, hi.mask k hkl, Nat.testBit_two_pow, decide_eq_true_eq, List.mem_append, List.mem_singleton]
          constructor
          · rintro ((h1 | h1) | h1)
            · exact .inl h1
            · exact .inr (.inl h1)
            · exact .inr (.inr h1.symm)
          · rintro (h1 | h1 | h1)
            · exact .inl (.inl h1)
            · exact .inl (.inr h1)
            · exact .inr h1.symm
        · rw [List.nodup_append]
          exact ⟨hi.nodup, by simp, fun x hx y hy => by simp at hy; subst hy; rintro rfl; exact hni (.inr hx)⟩
        · intro k hk'
          rcases List.mem_append.1 hk' with h1 | h1
          · exact hi.easy k h1
          · simp at h1; subst h1; exact ⟨o, ho, he⟩
        · intro k hk'
          rcases List.mem_append.1 hk' with h1 | h1
          · exact hi.off k h1
          · simp at h1; subst h1
            cases hb : La.getD k false with
            | false => rfl
            | true => exact (hni (.inl hb)).elim
        · intro a j b hp o' e ho' he' hb
          rcases List.eq_nil_or_concat b with rfl | ⟨b', x, rfl⟩
          · have := List.append_inj' (s₁ := ps) (s₂ := a) (t₁ := [i]) (t₂ := [j]) hp rfl
            obtain ⟨h1, h2⟩ := this
            simp at h2
            subst h1; subst h2
            rw [ho] at ho'; obtain rfl := Option.some.inj ho'
            have hlt' := hk.back _ _ _ ho he' hb
            exact (hi.mask e.on (by omega)).1 (hpred e he' hb)
          · have hp' : ps ++ [i] = (a ++ j :: b') ++ [x] := by rw [hp]; simp
            have := List.append_inj' hp' rfl
            exact hi.ord a j b' this.1 o' e ho' he' hb
      · exact (hv _ h).elim

theorem wpAny_of_draw {N : Nat} {ops : List Oper} {K : Env → World → Prop} {Q : Exit → Act → World → Prop} (hP : okNames P = true) (hN : opsOk N ops = true) (hG : guardsB ops ops = true) (hk : RegOk P ops)
    (hQ : ∀ a g w, Rel Df N a g → K g w → Q .normal a w) : ∀ (fuel : Nat) (La : Array Bool) (a : Act) (ga gc : Env) (w : World) (Lc n : Nat) (ps : List Nat),
      Inv P ops La Lc ps ga gc w → Rel Df N a ga → drawK P ops (masks ops []) K n Lc gc w → ((List.range ops.length).filter fun i => !La.getD i true).length ≤ fuel → wpAny P .any ops.toArray Q fuel La a w := by
  -- nothing is ready: all is done
  have hdone : ∀ {La : Array Bool} {Lc : Nat} {ps : List Nat} {ga gc : Env} {w : World}, Inv P ops La Lc ps ga gc w → Region.ready .any ops.toArray La = [] → ∀ i, i < ops.length → La.getD i false = true := by
    intro La Lc ps ga gc w hi hr i
    induction i using Nat.strongRecOn with
    | _ i ih =>
      intro hlt
      apply Classical.byContradiction
      intro hn
      obtain ⟨o, ho⟩ : ∃ o, ops[i]? = some o := ⟨_, List.getElem?_eq_getElem hlt⟩
      have : i ∈ Region.ready .any ops.toArray La := by
        rw [mem_ready]
        refine ⟨getD_false_of_lt (by rw [hi.size]; exact hlt) hn, o, by simpa using ho, fun e he hb => ?_⟩
        have := hk.back i o e ho (Array.mem_toList_iff.2 he) hb
        exact ih e.on this (by omega)
      rw [hr] at this
      simp at this
  have hfin : ∀ {La : Array Bool} {a : Act} {ga gc : Env} {w : World} {Lc n : Nat} {ps : List Nat}, Inv P ops La Lc ps ga gc w → Rel Df N a ga → drawK P ops (masks ops []) K n Lc gc w → Region.ready .any ops.toArray La = [] → Q .normal a w := by
    intro La a ga gc w Lc n ps hi hr hd hrd
    obtain ⟨n', Lc', ps', gc', hi', hf, hd'⟩ := saturate hk n hi hd
    have hall := hdone hi' hrd
    have hps : ps' = [] := by
      cases ps' with
      | nil => rfl
      | cons x r =>
        obtain ⟨o, ho, _⟩ := hi'.easy x List.mem_cons_self
        have h1 := hall x (List.getElem?_eq_some_iff.1 ho).1
        rw [hi'.off x List.mem_cons_self] at h1
        simp at h1
    subst hps
    have := hi'.pend.nil
    subst this
    unfold drawK at hd'
    rw [hf] at hd'
    dsimp only at hd'
    have hre : readyEffs P Lc' 0 ops = [] := by
      have : ∀ (l : List Oper) (k : Nat), (∀ j o, l[j]? = some o → readyB Lc' (k + j) o = false) → readyEffs P Lc' k l = [] := by
        intro l
        induction l with
        | nil => intro k _; rfl
        | cons x r ih =>
          intro k h
          unfold readyEffs
          rw [show readyB Lc' k x = false from h 0 x rfl]
          exact ih (k + 1) fun j o ho => by rw [show k + 1 + j = k + (j + 1) by omega]; exact h (j + 1) o (by simpa using ho)
      refine this ops 0 fun j o ho => ?_
      rw [Nat.zero_add]
      cases hb : readyB Lc' j o with
      | false => rfl
      | true =>
        have h1 := (readyB_iff.1 hb).1
        have hlt := (List.getElem?_eq_some_iff.1 ho).1
        rw [(hi'.mask j hlt).2 (.inl (hall j hlt))] at h1
        simp at h1
    rw [hre] at hd'
    exact hQ a ga w hr hd'
  intro fuel
  induction fuel with
  | zero =>
    intro La a ga gc w Lc n ps hi hr hd hf
    have hrd : Region.ready .any ops.toArray La = [] := by
      cases hrd : Region.ready .any ops.toArray La with
      | nil => rfl
      | cons x r =>
        exfalso
        have hx : x ∈ Region.ready .any ops.toArray La := by rw [hrd]; simp
        rw [mem_ready] at hx
        obtain ⟨hl, o, ho, _⟩ := hx
        have hlt : x < ops.length := by have := (Array.getElem?_eq_some_iff.1 ho).1; simpa using this
        have : x ∈ ((List.range ops.length).filter fun i => !La.getD i true) := by rw [List.mem_filter, List.mem_range]; exact ⟨hlt, by simpa using hl⟩
        rw [List.eq_nil_of_length_eq_zero (Nat.le_zero.1 hf)] at this
        simp at this
    exact ⟨hrd, hfin hi hr hd hrd⟩
  | succ fuel ih =>
    intro La a ga gc w Lc n ps hi hr hd hf
    refine ⟨fun hrd => hfin hi hr hd hrd, fun i hir => ?_⟩
    obtain ⟨n', Lc', ps', gc', hi', hfe, hd'⟩ := saturate hk n hi hd
    rw [mem_ready] at hir
    obtain ⟨hl, o, ho, hall⟩ := hir
    have ho : ops[i]? = some o := by simpa using ho
    have hlt : i < ops.length := (List.getElem?_eq_some_iff.1 ho).1
    have hlf := getD_true_of_false hl
    have hgd := fun j want hg => guardsB_out hG o (List.mem_of_getElem? ho) j want hg
    have hput := fun v => hr.put o.dst v (opsOk_mem hN (List.mem_of_getElem? ho))
    have hreach : ∀ y, Reach ops i y → La.getD y false = true := by
      intro y hy
      cases hy with
      | one ho2 he hb => rw [ho] at ho2; obtain rfl := Option.some.inj ho2; exact hall _ (Array.mem_toList_iff.1 he) hb
      | step ho2 he hb h2 => rw [ho] at ho2; obtain rfl := Option.some.inj ho2; exact hi'.closed.reach h2 (hall _ (Array.mem_toList_iff.1 he) hb)
    have hset : (La.setIfInBounds i true).size = ops.length := by simpa using hi'.size
    have hclosed : ClosedL ops (La.setIfInBounds i true) := by
      intro k o' e hk' hlk he hbind
      by_cases hki : k = i
      · subst hki
        rw [ho] at hk'; obtain rfl := Option.some.inj hk'
        exact getD_set_true (hall e (Array.mem_toList_iff.1 he) hbind)
      · rw [getD_set_ne false (Ne.symm hki)] at hlk
        exact getD_set_true (hi'.closed k o' e hk' hlk he hbind)
    have hsi : ∀ k, (La.setIfInBounds i true).getD k false = true ↔ La.getD k false = true ∨ k = i := by
      intro k
      by_cases hki : k = i
      · subst hki
        have : (La.setIfInBounds k true).getD k false = true := by
          rw [Array.getD_eq_getD_getElem?, Array.getElem?_setIfInBounds_self, if_pos (by rw [hi'.size]; exact hlt)]; rfl
        simp [this]
      · rw [getD_set_ne false (Ne.symm hki)]; simp [hki]
    have hcount : ((List.range ops.length).filter fun k => !(La.setIfInBounds i true).getD k true).length ≤ fuel := by
      have : ((List.range ops.length).filter fun k => !(La.setIfInBounds i true).getD k true).length < ((List.range ops.length).filter fun k => !La.getD k true).length := by
        have hsub : ((List.range ops.length).filter fun k => !(La.setIfInBounds i true).getD k true) = (((List.range ops.length).filter fun k => !La.getD k true).filter fun k => !Nat.beq k i) := by
          rw [List.filter_filter]
          apply List.filter_congr
          intro k hkm
          by_cases hki : k = i
          · subst hki
            have : (La.setIfInBounds k true).getD k true = true := by
              rw [Array.getD_eq_getD_getElem?, Array.getElem?_setIfInBounds_self]; split <;> rfl
            simp [this]
          · rw [getD_set_ne true (Ne.symm hki)]
            have : Nat.beq k i = false := by cases h : Nat.beq k i with | false => rfl | true => exact (hki (Nat.eq_of_beq_eq_true h)).elim
            simp [this]
        rw [hsub]
        refine List.length_filter_lt_length_iff_exists.2 ⟨i, ?_, by simp⟩
        rw [List.mem_filter, List.mem_range]
        exact ⟨hlt, by simpa using hl⟩
      omega
    by_cases hips : i ∈ ps'
    · -- one of those that are done in mind
      obtain ⟨pre, post, hp⟩ := List.append_of_mem hips
      obtain ⟨o', ho', heo⟩ := hi'.easy i hips
      rw [ho] at ho'; obtain rfl := Option.some.inj ho'
      have hnd := hi'.nodup
      rw [hp] at hnd
      have hpre : ∀ j ∈ pre, ∀ p, ops[j]? = some p → isEasy P p.op = true ∧ apartB ops p o = true := by
        intro j hj p hpj
        have hjps : j ∈ ps' := by rw [hp]; exact List.mem_append_left _ hj
        obtain ⟨p', hp', hep⟩ := hi'.easy j hjps
        rw [hpj] at hp'; obtain rfl := Option.some.inj hp'
        refine ⟨hep, ?_⟩
        have hne : j ≠ i := by
          rintro rfl
          have := (List.nodup_append.1 hnd).2.2 j hj j List.mem_cons_self
          exact this rfl
        have hoffj := hi'.off j hjps
        rcases Nat.lt_or_gt_of_ne hne with h1 | h1
        · rcases hk.apart j i p o hpj ho h1 with h2 | h2
          · have := hreach j h2; rw [hoffj] at this; simp at this
          · exact h2
        · rcases hk.apart i j o p ho hpj h1 with h2 | h2
          · obtain ⟨p1, p2, hpp⟩ := List.append_of_mem hj
            rcases hi'.reach h2 p1 (p2 ++ i :: post) (by rw [hp, hpp]; simp) with h3 | h3
            · rw [hlf] at h3; simp at h3
            · exfalso
              have : i ∈ pre := by rw [hpp]; exact List.mem_append_left _ h3
              exact (List.nodup_append.1 hnd).2.2 i this i List.mem_cons_self rfl
          · exact apartB_symm h2
      have hpend := hi'.pend
      rw [hp] at hpend
      obtain ⟨v, hv, hpend'⟩ := hpend.take ho heo hpre
      refine act_step hP hr hN ho hgd (K := fun u w2 => u = v ∧ w2 = w) ((hv _).2 ⟨rfl, rfl⟩) fun u w2 hu => ?_
      obtain ⟨rfl, rfl⟩ := hu
      refine ih _ _ _ gc' _ Lc' (n' + 1) (pre ++ post) ?_ (hput _) hd' hcount
      refine ⟨hset, hclosed, fun k hkl => ?_, ?_, ?_, ?_, ?_, hpend'⟩
      · rw [hi'.mask k hkl, hsi, hp]
        simp only [List.mem_append, List.mem_cons]
        constructor
        · rintro (h | h | h | h)
          · exact .inl (.inl h)
          · exact .inr (.inl h)
          · exact .inl (.inr h)
          · exact .inr (.inr h)
        · rintro ((h | h) | h | h)
          · exact .inl h
          · exact .inr (.inr (.inl h))
          · exact .inr (.inl h)
          · exact .inr (.inr (.inr h))
      · rw [List.nodup_append] at hnd ⊢
        exact ⟨hnd.1, (List.nodup_cons.1 hnd.2.1).2, fun x hx y hy => hnd.2.2 x hx y (List.mem_cons_of_mem _ hy)⟩
      · intro k hk'
        refine hi'.easy k ?_
        rw [hp]
        rcases List.mem_append.1 hk' with h | h
        · exact List.mem_append_left _ h
        · exact List.mem_append_right _ (List.mem_cons_of_mem _ h)
      · intro k hk'
        have hkps : k ∈ ps' := by
          rw [hp]
          rcases List.mem_append.1 hk' with h | h
          · exact List.mem_append_left _ h
          · exact List.mem_append_right _ (List.mem_cons_of_mem _ h)
        have hki : k ≠ i := by
          rintro rfl
          rw [List.nodup_append] at hnd
          rcases List.mem_append.1 hk' with h | h
          · exact hnd.2.2 k h k List.mem_cons_self rfl
          · exact (List.nodup_cons.1 hnd.2.1).1 h
        cases hb : (La.setIfInBounds i true).getD k false with
        | false => rfl
        | true =>
          rcases (hsi k).1 hb with h | h
          · rw [hi'.off k hkps] at h; simp at h
          · exact (hki h).elim
      · intro a2 j b2 hab o' e hoj he hb
        rcases List.append_eq_append_iff.1 hab with ⟨c, h1, h2⟩ | ⟨c, h1, h2⟩
        · -- j lies behind pre
          have : ps' = (pre ++ i :: c) ++ j :: b2 := by rw [hp, h2]; simp
          rcases hi'.ord _ j b2 this o' e hoj he hb with h | h
          · exact .inl (getD_set_true h)
          · rcases List.mem_append.1 h with h | h
            · exact .inr (by rw [h1]; exact List.mem_append_left _ h)
            · rcases List.mem_cons.1 h with h | h
              · exact .inl ((hsi _).2 (.inr h))
              · exact .inr (by rw [h1]; exact List.mem_append_right _ h)
        · cases c with
          | nil =>
            simp at h1 h2
            have : ps' = (pre ++ i :: []) ++ j :: b2 := by rw [hp, ← h2]; simp
            rcases hi'.ord _ j b2 this o' e hoj he hb with h | h
            · exact .inl (getD_set_true h)
            · rcases List.mem_append.1 h with h | h
              · exact .inr (by rw [← h1]; exact h)
              · simp at h; exact .inl ((hsi _).2 (.inr h))
          | cons x c =>
            simp at h2
            obtain ⟨rfl, h2⟩ := h2
            have : ps' = a2 ++ j :: (c ++ i :: post) := by rw [hp, h1]; simp
            rcases hi'.ord a2 j _ this o' e hoj he hb with h | h
            · exact .inl (getD_set_true h)
            · exact .inr h
    · -- one that is not easy
      have hbit : Nat.testBit Lc' i = false := by
        cases hb : Nat.testBit Lc' i with
        | false => rfl
        | true =>
          rcases (hi'.mask i hlt).1 hb with h | h
          · rw [hlf] at h; simp at h
          · exact (hips h).elim
      have hrdy : readyB Lc' i o = true := readyB_iff.2 ⟨hbit, fun e he hb => by
        have := hk.back i o e ho he hb
        exact (hi'.mask e.on (by omega)).2 (.inl (hall e (Array.mem_toList_iff.1 he) hb))⟩
      have hne : isEasy P o.op = false := firstEasy_none hfe i o ho (by rw [Nat.zero_add]; exact hrdy)
      have hmem : i ∈ readyEffs P Lc' 0 ops := by
        have := mem_readyEffs (P := P) (k := 0) ho (by rw [Nat.zero_add]; exact hrdy) hne
        rw [Nat.zero_add] at this; exact this
      unfold drawK at hd'
      rw [hfe] at hd'
      dsimp only at hd'
      have hX : stepG P ops o (fun g' w' => chks P ops (toCheck P Lc' ((masks ops []).getD i 0) 0 ops) g' w' (drawK P ops (masks ops []) K n' (Lc' ||| 2 ^ i) g' w')) gc' w := by
        split at hd'
        · rename_i he; rw [he] at hmem; simp at hmem
        · have := allK_mem hd' i hmem
          rw [ho] at this
          exact this
      have hX := stepG_act hX
      have hap : ∀ j ∈ ps', ∀ p, ops[j]? = some p → apartB ops p o = true := by
        intro j hj p hpj
        have hoffj := hi'.off j hj
        have hji : j ≠ i := fun e => hips (e ▸ hj)
        rcases Nat.lt_or_gt_of_ne hji with h1 | h1
        · rcases hk.apart j i p o hpj ho h1 with h2 | h2
          · have := hreach j h2; rw [hoffj] at this; simp at this
          · exact h2
        · rcases hk.apart i j o p ho hpj h1 with h2 | h2
          · obtain ⟨p1, p2, hpp⟩ := List.append_of_mem hj
            rcases hi'.reach h2 p1 p2 hpp with h3 | h3
            · rw [hlf] at h3; simp at h3
            · exact (hips (by rw [hpp]; exact List.mem_append_left _ h3)).elim
          · exact apartB_symm h2
      have heq : actK P ops gc' o = actK P ops ga o := actK_agree fun t ht => Pend.agree hi'.easy hi'.pend t fun j hj p hpj he => (apartB_out (hap j hj p hpj)).1 t he ht
      rw [heq] at hX
      refine act_step hP hr hN ho hgd hX fun u w2 hu => ?_
      obtain ⟨hcont, hchk⟩ := chks_mem hu
      refine ih _ _ _ (putO gc' o.dst u) _ (Lc' ||| 2 ^ i) n' ps' ?_ (hput _) hcont hcount
      refine ⟨hset, hclosed, fun k hkl => ?_, hi'.nodup, hi'.easy, fun k hkp => ?_, fun a2 j b2 hab o' e hoj he hb => ?_, ?_⟩
      · rw [Nat.testBit_or, Bool.or_eq_true, hi'.mask k hkl, Nat.testBit_two_pow, decide_eq_true_eq, hsi]
        constructor
        · rintro ((h | h) | h)
          · exact .inl (.inl h)
          · exact .inr h
          · exact .inl (.inr h.symm)
        · rintro ((h | h) | h)
          · exact .inl (.inl h)
          · exact .inr h.symm
          · exact .inl (.inr h)
      · cases hb : (La.setIfInBounds i true).getD k false with
        | false => rfl
        | true =>
          rcases (hsi k).1 hb with h | h
          · rw [hi'.off k hkp] at h; simp at h
          · exact (hips (h ▸ hkp)).elim
      · rcases hi'.ord a2 j b2 hab o' e hoj he hb with h | h
        · exact .inl (getD_set_true h)
        · exact .inr h
      · refine hi'.pend.over (e := o) (u := u) (w2 := w2) (fun _ => True) hi'.easy hi'.nodup hap ?_ ?_ ?_ ?_
        · exact fun k hk' j hj p q d hp hq hne hd => hk.dst k j p q d hp hq hne hd
        · exact fun k hk' p d hp hd => hk.self k p d hp hd
        · intro a2 b2 k j p q d hab hka hjb hp hq hread hd hm
          have hr2 := hk.stable k j p q d hp hq hread hd hm
          obtain ⟨a3, a4, rfl⟩ := List.append_of_mem hka
          have hj' : j ∈ ps' := by rw [hab]; exact List.mem_append_right _ hjb
          rcases hi'.reach hr2 a3 (a4 ++ b2) (by rw [hab]; simp) with h | h
          · rw [hi'.off j hj'] at h; simp at h
          · have hnd := hi'.nodup
            rw [hab, List.nodup_append] at hnd
            exact hnd.2.2 j (List.mem_append_left _ h) j hjb rfl
        · intro k hk' p hp hread
          refine hchk p ?_
          have hklt := (List.getElem?_eq_some_iff.1 hp).1
          refine mem_toCheck (k := 0) (j := k) hp (by rw [Nat.zero_add]; exact (hi'.mask k hklt).2 (.inr hk')) ?_ hread
          rw [Nat.zero_add]
          cases hb : Nat.testBit ((masks ops []).getD i 0) k with
          | false => rfl
          | true =>
            have := hreach k (masks_good (ops := ops) ops [] (by simp) (by simp) i k hb)
            rw [hi'.off k hk'] at this; simp at this
end
end Go.Vc

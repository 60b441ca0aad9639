/-
  What operations look at, and which may change places: over any program.
-/
import Derived.Test.YtdjgdcafmfheoaaDoorVcS
import Derived.Orders
set_option linter.unusedSimpArgs false
set_option linter.unusedVariables false
namespace Go.Vc
open Go
variable {Df : List Deferred}

theorem put_self {g : Env} {d : Nat} {v : Value} (h : g d = v) : put g d v = g := by
  funext t
  unfold put
  cases hb : Nat.beq t d with
  | true => have := Nat.eq_of_beq_eq_true hb; subst this; exact h.symm
  | false => rfl

/-! one operation with its guard, said plainly -/
def wantE (ops : List Oper) (g : Env) (o : Oper) : Bool :=
  match o.guard with
  | none => true
  | some (j, want) => match gslot ops j with
    | none => false
    | some d => match g d with
      | .bool b => b == want
      | _ => false
/-- what an operation does with the value that it gives -/
def actK (P : Program) (ops : List Oper) (g : Env) (o : Oper) (K : Value → World → Prop) (w : World) : Prop :=
  match wantE ops g o with
  | true => opK P g o K w
  | false => K undef w

section
variable {P : Program}
theorem stepG_act {ops : List Oper} {o : Oper} {K : Env → World → Prop} {g : Env} {w : World} (h : stepG P ops o K g w) :
    actK P ops g o (fun v w' => K (putO g o.dst v) w') w := by
  unfold stepG at h
  unfold actK wantE
  split at h
  · rename_i hg; rw [hg]; exact h
  · rename_i j want hg
    rw [hg]
    dsimp only
    split at h
    · exact h.elim
    · rename_i d hd
      rw [hd]
      dsimp only
      split at h
      · rename_i b hb
        rw [hb]
        cases b <;> cases want <;> simp only [BS, beq_self_eq_true, Bool.false_eq_true] at h ⊢ <;> first
          | (rw [put_self hb] at h; exact h)
          | (show K _ w; rw [put_self hb] at h; exact h)
      · rename_i hnb
        have : (match g d with | .bool b => b == want | _ => false) = false := by
          split
          · rename_i b hb; exact (hnb b hb).elim
          · rfl
        rw [this]
        exact h

theorem yielded_eq {N : Nat} {a : Act} {g : Env} (hr : Rel Df N a g) {ops : List Oper} {j : Nat} {d : Nat} (hd : gslot ops j = some d) (hN : d < N) :
    yielded ops.toArray a.tmps j = match g d with | .bool b => some b | _ => none := by
  unfold gslot at hd
  unfold yielded
  split at hd
  · rename_i o ho
    simp only [List.getElem?_toArray, ho, Option.bind_some, hd]
    have := hr.get d
    rw [Array.getD_eq_getD_getElem?] at this
    have hlt : d < a.tmps.size := by rw [hr.size]; exact hN
    rw [Array.getElem?_eq_getElem hlt] at this ⊢
    simp only [Option.getD_some] at this
    rw [this]
    cases g d <;> rfl
  · simp at hd

/-- all slots that are written are there -/
def opsOk (N : Nat) : List Oper → Bool
  | [] => true
  | o :: r => (match o.dst with | some d => Nat.blt d N | none => true) && opsOk N r
theorem opsOk_mem {N : Nat} : ∀ {l : List Oper} {o : Oper}, opsOk N l = true → o ∈ l → ∀ d, o.dst = some d → d < N
  | [], o, _, hm, _, _ => by simp at hm
  | x :: r, o, h, hm, d, hd => by
    simp only [opsOk, Bool.and_eq_true] at h
    rcases List.mem_cons.1 hm with rfl | hm
    · have := h.1; rw [hd] at this; simpa using this
    · exact opsOk_mem h.2 hm d hd
theorem gslot_lt {N : Nat} {ops : List Oper} {j d : Nat} (h : opsOk N ops = true) (hd : gslot ops j = some d) : d < N := by
  unfold gslot at hd
  split at hd
  · rename_i o ho; exact opsOk_mem h (List.mem_of_getElem? ho) d hd
  · simp at hd

theorem wanted_eq {N : Nat} {a : Act} {g : Env} (hr : Rel Df N a g) {ops : List Oper} (hN : opsOk N ops = true) (o : Oper) :
    Region.wanted o (yielded ops.toArray a.tmps) = wantE ops g o ∨ ∃ j want, o.guard = some (j, want) ∧ gslot ops j = none := by
  unfold Region.wanted wantE
  cases hg : o.guard with
  | none => exact .inl rfl
  | some p =>
    obtain ⟨j, want⟩ := p
    dsimp only
    cases hd : gslot ops j with
    | none => exact .inr ⟨j, want, rfl, hd⟩
    | some d =>
      refine .inl ?_
      rw [yielded_eq hr hd (gslot_lt hN hd)]
      dsimp only
      cases g d <;> rfl

/-- an operation of mine is one of the model's -/
theorem act_step {N : Nat} {a : Act} {g : Env} {w : World} (hP : okNames P = true) (hr : Rel Df N a g) {ops : List Oper} (hN : opsOk N ops = true) {i : Nat} {o : Oper} (ho : ops[i]? = some o)
    (hgd : ∀ j want, o.guard = some (j, want) → gslot ops j ≠ none) {next : Act → World → Prop} {Q : Exit → Act → World → Prop} {K : Value → World → Prop}
    (h : actK P ops g o K w) (hK : ∀ v w', K v w' → next (a.put o.dst v) w') : wpOp P ops.toArray Q i next a w := by
  unfold wpOp
  have hw : Region.wanted o (yielded ops.toArray a.tmps) = wantE ops g o := by
    rcases wanted_eq hr hN o with h | ⟨j, want, h1, h2⟩
    · exact h
    · exact (hgd j want h1 h2).elim
  simp only [List.getElem?_toArray, ho, hw]
  unfold actK at h
  cases hwe : wantE ops g o with
  | true =>
    rw [hwe] at h
    simp only [if_true]
    exact .inl (Comes'.wp (N := N) (opK_sound hP h) hr.eval hK)
  | false =>
    rw [hwe] at h
    simp only [Bool.false_eq_true, if_false]
    exact hK _ _ h

/-! effects are monotone, and hand on nothing of nothing -/
theorem TInt_mono {k : IntKind} {v : Value} {C D : Int → Prop} (h : TInt k v C) (hCD : ∀ n, C n → D n) : TInt k v D := by
  obtain ⟨n, rfl, h'⟩ := TInt_out h
  simp only [TInt, kindEq, decide_true]
  exact hCD _ h'
theorem TInt_eq {k : IntKind} {v : Value} {C : Int → Prop} : TInt k v C ↔ ∃ n, v = .int k n ∧ C n :=
  ⟨TInt_out, fun ⟨n, e, h⟩ => by subst e; simp only [TInt, kindEq, decide_true]; exact h⟩
theorem TV1_mono {t : TypeId} {v : Value} {C D : Value → Prop} (h : TV1 P t v C) (hCD : ∀ v, C v → D v) : TV1 P t v D := by
  unfold TV1 at *
  split <;> simp only [*] at h
  · exact TInt_mono h fun n => hCD _
  · cases v <;> first | exact hCD _ h | exact h.elim
  · cases v <;> first | exact hCD _ h | exact h.elim
  · cases v <;> first | exact hCD _ h | exact h.elim
  · cases v <;> first | exact hCD _ h | exact h.elim
  · cases v <;> first | exact hCD _ h | exact h.elim
  · cases v <;> first | exact hCD _ h | exact h.elim
  · cases v <;> first | exact hCD _ h | exact h.elim
  · cases v <;> first | exact hCD _ h | exact h.elim
  · exact hCD _ h
theorem TV_mono {t : TypeId} {v : Value} {C D : Value → Prop} (h : TV P t v C) (hCD : ∀ v, C v → D v) : TV P t v D := by
  unfold TV at *
  split <;> rename_i hu <;> simp only [hu] at h
  · split <;> rename_i hl <;> simp only [hl] at h
    · exact hCD _ h
    · unfold T2 at *
      split <;> simp only at h
      split <;> rename_i hv <;> simp only [hv] at h
      exact TV1_mono h fun _ h => TV1_mono h fun _ h => hCD _ h
    · unfold T3 at *
      split <;> simp only at h
      split <;> rename_i hv <;> simp only [hv] at h
      exact TV1_mono h fun _ h => TV1_mono h fun _ h => TV1_mono h fun _ h => hCD _ h
    · unfold T4 at *
      split <;> simp only at h
      split <;> rename_i hv <;> simp only [hv] at h
      exact TV1_mono h fun _ h => TV1_mono h fun _ h => TV1_mono h fun _ h => TV1_mono h fun _ h => hCD _ h
  · exact TV1_mono h hCD

def Eff (F : (Value → World → Prop) → Prop) : Prop := (∀ K K', (∀ v w', K v w' → K' v w') → F K → F K') ∧ ¬ F fun _ _ => False

theorem RunV_eff {s : Sem Value} {w : World} {G : Value → (Value → Prop) → Prop} (hm : ∀ v C D, (∀ v, C v → D v) → G v C → G v D) (hs : ∀ v, ¬ G v fun _ => False) :
    Eff fun K => RunV P s w fun v w' => G v fun v => K v w' :=
  ⟨fun K K' h hr => hr.mono fun v w' hg => hm _ _ _ (fun _ => h _ _) hg, fun h => by obtain ⟨v, w', _, hg⟩ := h.out; exact hs _ hg⟩
theorem RunVT_eff {s : Sem Value} {w : World} (t : TypeId) : Eff fun K => RunV P s w fun v w' => TV P t v fun v => K v w' :=
  RunV_eff (fun _ _ _ h hg => TV_mono hg h) (fun _ h => TV_out h)
theorem Eff_False : Eff fun _ => False := ⟨fun _ _ _ h => h, fun h => h⟩

theorem LoadC.mono {w : World} {a : Addr} {C D : Value → Prop} (h : LoadC w a C) (hCD : ∀ v, C v → D v) : LoadC w a D := by
  obtain ⟨v, hv, h⟩ := h.out
  unfold LoadC; rw [hv]; exact hCD _ h

theorem Req.mono {b : Bool} {C D : Prop} (h : Req b C) (hCD : C → D) : Req b D := by cases b <;> simp_all [Req]

theorem effK_eff (g : Env) (o : Oper) (w : World) : Eff fun K => effK P g o K w := by
  obtain ⟨dst, op, ty, pos, after, guard⟩ := o
  unfold effK
  cases op <;> dsimp only
  case load t x =>
    split
    · split
      · split
        · exact ⟨fun K K' h ⟨cs, hc, hk⟩ => ⟨cs, hc, h _ _ hk⟩, fun ⟨cs, hc, hk⟩ => hk⟩
        · exact Eff_False
      · exact ⟨fun K K' h hl => hl.mono fun v hv => TV1_mono hv fun v => h _ _, fun hl => by obtain ⟨v, hv, hk⟩ := hl.out; exact TV1_out hk⟩
      · exact Eff_False
    · exact Eff_False
  case store t x v =>
    split
    · split
      · exact ⟨fun K K' h hl => by obtain ⟨w', hr, hk⟩ := hl.out; exact .mk hr (h _ _ hk), fun hl => by obtain ⟨w', hr, hk⟩ := hl.out; exact hk⟩
      · split
        · split
          · exact ⟨fun K K' h hl => hl.mono fun ⟨h1, h2⟩ => ⟨h1, h _ _ h2⟩, fun hl => hl.out.2.2⟩
          · exact Eff_False
        · exact Eff_False
      · exact Eff_False
    · exact Eff_False
  case alloc t =>
    split
    · exact ⟨fun K K' h hl => h _ _ hl, fun h => h⟩
    · exact Eff_False
  case box t x => exact ⟨fun K K' h hl => h _ _ hl, fun h => h⟩
  case buildSlice t len parts =>
    unfold buildSliceK
    split
    · split
      · split
        · split
          · exact ⟨fun K K' h hl => hl.mono (h _ _), fun h => h.out.2⟩
          · exact Eff_False
        · exact Eff_False
      · exact Eff_False
    · unfold TElems
      split
      · exact ⟨fun K K' h hl => h _ _ hl, fun h => h⟩
      · exact Eff_False
  case convert s t x =>
    split
    · exact ⟨fun K K' h ⟨v, hr, hk⟩ => ⟨v, hr, TV_mono hk fun _ => h _ _⟩, fun ⟨v, hr, hk⟩ => TV_out hk⟩
    · exact RunVT_eff _
  case mapUpdate t m k x => exact ⟨fun K K' h hl => by obtain ⟨w', hr, hk⟩ := hl.out; exact .mk hr (h _ _ hk), fun hl => by obtain ⟨w', hr, hk⟩ := hl.out; exact hk⟩
  case range t x => exact ⟨fun K K' h hl => hl.mono h, fun hl => by obtain ⟨v, w', hr, hk⟩ := hl.out; exact hk⟩
  case next it s => exact ⟨fun K K' h hl => hl.mono h, fun hl => by obtain ⟨v, w', hr, hk⟩ := hl.out; exact hk⟩
  case call c =>
    split
    · split
      · exact RunVT_eff _
      · exact Eff_False
    · split
      · split
        · refine ⟨fun K K' h hl => Calls.mono hl fun e w' ⟨v, he, hv⟩ => ⟨v, he, TV_mono hv fun _ => h _ _⟩, fun hl => ?_⟩
          obtain ⟨e, w', fr, ⟨v, he, hv⟩, _⟩ := hl []
          exact TV_out hv
        · exact ⟨fun K K' h ⟨v, w', hr, hk⟩ => ⟨v, w', hr, TV_mono hk fun _ => h _ _⟩, fun ⟨v, w', hr, hk⟩ => TV_out hk⟩
      · exact Eff_False
    · exact Eff_False
  all_goals first | exact RunVT_eff _ | exact Eff_False

/-- a pure operation: a condition and a value -/
def Det (F : (Value → Prop) → Prop) : Prop := ∃ (c : Prop) (v : Value), ∀ K, F K ↔ c ∧ K v
theorem Det_val (v : Value) : Det fun K => K v := ⟨True, v, fun K => by simp⟩
theorem Det_False : Det fun _ => False := ⟨False, undef, fun K => by simp⟩
theorem Det_Req {b : Bool} {F : (Value → Prop) → Prop} (h : Det F) : Det fun K => Req b (F K) := by
  cases b
  · exact Det_False
  · exact h
theorem Det_TSome {o : Option Addr} {F : Addr → (Value → Prop) → Prop} (h : ∀ a, Det (F a)) : Det fun K => TSome o fun a => F a K := by
  cases o
  · exact Det_False
  · exact h _
theorem Det_TV1 {t : TypeId} {v : Value} : Det fun K => TV1 P t v K := by
  by_cases hc : TV1 P t v fun _ => True
  · exact ⟨True, v, fun K => ⟨fun h => ⟨trivial, TV1_out h⟩, fun ⟨_, h⟩ => by
      have : TV1 P t v fun x => x = v := by
        unfold TV1 at *
        split <;> simp only [*] at hc
        · obtain ⟨n, rfl, _⟩ := TInt_eq.1 hc; exact TInt_eq.2 ⟨n, rfl, rfl⟩
        · cases v <;> first | rfl | exact hc.elim
        · cases v <;> first | rfl | exact hc.elim
        · cases v <;> first | rfl | exact hc.elim
        · cases v <;> first | rfl | exact hc.elim
        · cases v <;> first | rfl | exact hc.elim
        · cases v <;> first | rfl | exact hc.elim
        · cases v <;> first | rfl | exact hc.elim
        · cases v <;> first | rfl | exact hc.elim
        · rfl
      exact TV1_mono this fun x hx => hx ▸ h⟩⟩
  · exact ⟨False, v, fun K => ⟨fun h => (hc (TV1_mono h fun _ _ => trivial)).elim, fun h => h.1.elim⟩⟩
theorem Det_TCell {cs : Array Value} {i : Nat} {F : Value → (Value → Prop) → Prop} (h : ∀ a, Det (F a)) : Det fun K => TCell cs i fun a => F a K := by
  unfold TCell
  split
  · exact h _
  · exact Det_False
theorem Det_partK {t : TypeId} {cs : Array Value} {off : Nat} : Det (partK P t cs off) := by
  unfold partK
  split
  · split
    · exact Det_val _
    · exact Det_False
  · exact Det_TCell fun _ => Det_TV1
  · exact Det_False
theorem Det_intK {op : BinOp} {k k' : IntKind} {a b : Int} : Det (intK op k a k' b) := by
  unfold intK
  split
  · exact Det_Req (Det_val _)
  · exact Det_Req (Det_val _)
  · split
    · exact Det_False
    · split <;> first | exact Det_val _ | exact Det_False | exact Det_Req (Det_val _)
theorem Det_strK {op : BinOp} {a b : ByteArray} : Det (strK op a b) := by
  unfold strK
  split <;> first | exact Det_val _ | exact Det_False | exact Det_Req (Det_val _)
theorem Det_EqA {op : BinOp} {t : TypeId} {x y : Operand} {a b : Value} : Det fun K => EqA P op t x y a b fun r => K (.bool r) := by
  by_cases hc : ∃ r : Bool, ∀ w, (do eqGuard op t x y a b; binOp op t a b : Sem Value).run P w = .ok (.bool r) w
  · obtain ⟨r, hr⟩ := hc
    refine ⟨True, .bool r, fun K => ⟨fun ⟨r', hr', h⟩ => ⟨trivial, ?_⟩, fun ⟨_, h⟩ => ⟨r, hr, h⟩⟩⟩
    have := (hr default).symm.trans (hr' default)
    simp at this
    rw [this]; exact h
  · exact ⟨False, undef, fun K => ⟨fun ⟨r, hr, _⟩ => (hc ⟨r, hr⟩).elim, fun h => h.1.elim⟩⟩
theorem Det_binK {op : BinOp} {t : TypeId} {x y : Operand} {a b : Value} : Det (binK P op t x y a b) := by
  unfold binK
  split
  · exact Det_intK
  · exact Det_strK
  · split <;> first | exact Det_val _ | exact Det_False
  · split <;> first | exact Det_val _ | exact Det_False
  · split <;> first | exact Det_val _ | exact Det_False
  · split <;> first | exact Det_EqA | exact Det_False
  · exact Det_False

theorem pureK_det (g : Env) (op : Op) : Det (pureK P g op) := by
  show Det fun K => pureK P g op K
  cases op <;> simp only [pureK] <;> first
    | exact Det_val _
    | exact Det_False
    | exact Det_binK
    | skip
  case pick => split <;> first | exact Det_val _ | exact Det_False
  case unOp => unfold unK; split <;> first | exact Det_val _ | exact Det_False
  case convert => unfold convK; split <;> first | exact Det_val _ | exact Det_False
  case sliceToArrayPointer => unfold arrPtrK OptP; split <;> first | (exact Det_Req (Det_TSome fun _ => Det_val _)) | exact Det_False
  case makeInterface => split <;> first | exact Det_val _ | exact Det_False
  case slice =>
    unfold sliceK
    split
    · unfold slice3K
      split
      · split <;> first | exact Det_Req (Det_Req (Det_Req (Det_val _))) | exact Det_False
      · exact Det_False
    split
    · split <;> first | exact Det_val _ | exact Det_False | exact Det_Req (Det_val _) | exact Det_Req (Det_Req (Det_val _))
    · split
      · exact Det_False
      · split <;> first | exact Det_val _ | exact Det_False | exact Det_Req (Det_val _) | exact Det_Req (Det_Req (Det_val _))
    · split
      · exact Det_False
      · split <;> first | exact Det_val _ | exact Det_False | exact Det_Req (Det_val _) | exact Det_Req (Det_Req (Det_val _))
    · exact Det_False
  case fieldAddr => split <;> first | exact Det_val _ | exact Det_False
  case field =>
    unfold fieldK
    split
    · split <;> first | exact Det_partK | exact Det_False
    · exact Det_False
  case indexAddr =>
    unfold indexAddrK
    split
    · split
      · split <;> first | exact Det_Req (Det_val _) | exact Det_False
      · split <;> first | exact Det_Req (Det_TSome fun _ => Det_val _) | exact Det_False
      · exact Det_False
    · exact Det_False
  case index =>
    unfold indexK
    split
    · split
      · split <;> first | exact Det_Req Det_partK | exact Det_False
      · refine Det_Req ?_
        unfold TByte
        split <;> first | exact Det_val _ | exact Det_False
      · exact Det_False
    · exact Det_False
  case extract =>
    unfold extractK
    split
    · exact Det_TCell fun _ => Det_val _
    · exact Det_False
  case nilCheck =>
    unfold nilK
    split
    · exact Det_TSome fun _ => Det_val _
    · exact Det_val _
    · exact Det_False
  case build =>
    unfold TCells
    split <;> first | exact Det_val _ | exact Det_False
  case call c =>
    split
    · unfold lenK
      split
      · split <;> first | exact Det_val _ | exact Det_False
      · exact Det_False
    · unfold maxK
      split
      · split <;> first | exact Det_val _ | exact Det_False
      · exact Det_False
    · unfold maxK
      split
      · split <;> first | exact Det_val _ | exact Det_False
      · exact Det_False
    · exact Det_False

/-! what an operation looks at -/
theorem map_ev {g g' : Env} (xs : Array Operand) (h : ∀ x ∈ xs, ev g x = ev g' x) : xs.map (ev g) = xs.map (ev g') := Array.map_congr_left h
theorem omap_ev {g g' : Env} (x : Option Operand) (h : ∀ y, x = some y → ev g y = ev g' y) : x.map (ev g) = x.map (ev g') := by
  cases x <;> simp_all

theorem opK_congr {g g' : Env} {o : Oper} (h : ∀ x ∈ o.op.operands, ev g x = ev g' x) : opK P g o = opK P g' o := by
  obtain ⟨dst, op, ty, pos, after, guard⟩ := o
  funext K w
  unfold opK
  dsimp only at h ⊢
  have h1 : pureK P g op = pureK P g' op := by
    funext K
    cases op <;> simp only [pureK] <;> (try simp only [Op.operands] at h) <;> (try (simp only [Array.mem_def, List.mem_cons, List.not_mem_nil, or_false, forall_eq_or_imp, forall_eq] at h))
    case slice t x lo hi mx =>
      have hx := h x (by simp)
      have h1 := omap_ev lo fun y e => h y (by simp [e])
      have h2 := omap_ev hi fun y e => h y (by simp [e])
      have h3 := omap_ev mx fun y e => h y (by simp [e])
      rw [hx, h1, h2, h3]
    case makeFunc fn a b => rw [map_ev a fun x hx => h x (by simp [Array.mem_def.1 hx]), map_ev b fun x hx => h x (by simp [Array.mem_def.1 hx])]
    case build t ps =>
      have : (ps.toList.map fun p => (p.1, ev g p.2)) = ps.toList.map fun p => (p.1, ev g' p.2) := List.map_congr_left fun p hp => by rw [h p.2 (by simpa using ⟨p.1, Array.mem_def.2 hp⟩)]
      rw [this]
    case call c =>
      have := map_ev (g := g) (g' := g') c.args fun x hx => h x (by unfold Call.operands; simp [Array.mem_def.1 hx])
      rw [this]
    all_goals simp [h]
  have h2 : effK P g { dst, op, type := ty, pos, after, guard } K w = effK P g' { dst, op, type := ty, pos, after, guard } K w := by
    unfold effK
    cases op <;> dsimp only <;> (try simp only [Op.operands] at h) <;> (try (simp only [Array.mem_def, List.mem_cons, List.not_mem_nil, or_false, forall_eq_or_imp, forall_eq] at h))
    case buildSlice t n ps =>
      have : (ps.toList.map fun p => (p.1, ev g p.2)) = ps.toList.map fun p => (p.1, ev g' p.2) := List.map_congr_left fun p hp => by rw [h p.2 (by simpa using ⟨p.1, Array.mem_def.2 hp⟩)]
      rw [this]
    case makeMap t r => rw [omap_ev r fun y e => h y (by simp [e])]
    case call c =>
      obtain ⟨callee, as, ts⟩ := c
      have h3 := map_ev (g := g) (g' := g') as fun x hx => h x (by unfold Call.operands; simp [Array.mem_def.1 hx])
      dsimp only
      rw [h3]
      cases callee <;> dsimp only
      rename_i f
      rw [h f (by unfold Call.operands; simp)]
    all_goals first | rfl | simp [h]
  rw [h1, h2]

def tmpsOf : List Operand → List Nat
  | [] => []
  | .tmp t :: r => t :: tmpsOf r
  | _ :: r => tmpsOf r
theorem mem_tmpsOf {t : Nat} : ∀ {l : List Operand}, Operand.tmp t ∈ l → t ∈ tmpsOf l
  | x :: r, h => by
    rcases List.mem_cons.1 h with h | h
    · subst h; simp [tmpsOf]
    · have := mem_tmpsOf h
      cases x <;> simp [tmpsOf, this]
def readsOf (ops : List Oper) (o : Oper) : List Nat :=
  (match o.guard with | some (j, _) => (match gslot ops j with | some d => [d] | none => []) | none => []) ++ tmpsOf o.op.operands.toList
theorem memB_iff {l : List Nat} {t : Nat} : memB l t = true ↔ t ∈ l := by
  induction l with
  | nil => simp [memB]
  | cons x r ih =>
    unfold memB
    cases hb : Nat.beq t x with
    | true => have := Nat.eq_of_beq_eq_true hb; simp [this]
    | false =>
      have : t ≠ x := fun e => by rw [e] at hb; simp at hb
      simp [ih, this]
theorem putO_get {g : Env} {d : Option Nat} {v : Value} {t : Nat} (h : d ≠ some t) : putO g d v t = g t := by
  cases d with
  | none => rfl
  | some d =>
    have : Nat.beq t d = false := by
      cases hb : Nat.beq t d with
      | false => rfl
      | true => have := Nat.eq_of_beq_eq_true hb; subst this; exact (h rfl).elim
    simp [putO, put, this]
theorem actK_put {ops : List Oper} {o : Oper} {g : Env} {d : Option Nat} {v : Value} (h : ∀ t, d = some t → t ∉ readsOf ops o) : actK P ops (putO g d v) o = actK P ops g o := by
  have h1 : opK P (putO g d v) o = opK P g o := opK_congr fun x hx => by
    cases x with
    | tmp t =>
      refine putO_get fun e => h t e ?_
      unfold readsOf
      exact List.mem_append_right _ (mem_tmpsOf (Array.mem_def.1 hx))
    | const v => rfl
    | global k => rfl
    | func f => rfl
  have h2 : wantE ops (putO g d v) o = wantE ops g o := by
    unfold wantE
    cases hg : o.guard with
    | none => rfl
    | some p =>
      obtain ⟨j, want⟩ := p
      dsimp only
      cases hs : gslot ops j with
      | none => rfl
      | some s =>
        have hne : d ≠ some s := fun e => h s e (by unfold readsOf; rw [hg]; simp [hs])
        dsimp only
        rw [putO_get hne]
  funext K w
  unfold actK
  rw [h1, h2]
theorem putO_comm {g : Env} {d e : Option Nat} {v u : Value} (h : d = none ∨ d ≠ e) : putO (putO g d v) e u = putO (putO g e u) d v := by
  funext t
  by_cases h1 : d = some t
  · subst h1
    have h2 : e ≠ some t := fun e' => by rcases h with h | h <;> simp_all
    rw [putO_get h2]
    simp [putO, put]
  · rw [putO_get (d := d) h1]
    by_cases h2 : e = some t
    · subst h2; simp [putO, put]
    · rw [putO_get h2, putO_get h2, putO_get h1]

theorem actK_det {ops : List Oper} {o : Oper} (hp : isPure P o.op = true) (g : Env) : ∃ (c : Prop) (v : Value), ∀ K w, actK P ops g o K w ↔ c ∧ K v w := by
  unfold actK
  cases wantE ops g o with
  | true =>
    obtain ⟨c, v, h⟩ := pureK_det (P := P) g o.op
    exact ⟨c, v, fun K w => by simp only [opK, hp]; exact h _⟩
  | false => exact ⟨True, undef, fun K w => by simp⟩
theorem actK_eff (ops : List Oper) (o : Oper) (g : Env) (w : World) : Eff fun K => actK P ops g o K w := by
  unfold actK
  cases wantE ops g o with
  | true =>
    dsimp only
    unfold opK
    cases hp : isPure P o.op with
    | true =>
      obtain ⟨c, v, h⟩ := pureK_det (P := P) g o.op
      exact ⟨fun K K' hk hl => (h _).2 (((h _).1 hl).imp id (hk _ _)), fun hl => ((h _).1 hl).2⟩
    | false => exact effK_eff g o w
  | false => exact ⟨fun K K' hk hl => hk _ _ hl, fun h => h⟩

def stepA (P : Program) (ops : List Oper) (o : Oper) (K : Env → World → Prop) (g : Env) (w : World) : Prop := actK P ops g o (fun v w' => K (putO g o.dst v) w') w
theorem stepA_mono {ops : List Oper} {o : Oper} {K K' : Env → World → Prop} (hk : ∀ g w, K g w → K' g w) {g : Env} {w : World} (h : stepA P ops o K g w) : stepA P ops o K' g w :=
  (actK_eff ops o g w).1 _ _ (fun _ _ => hk _ _) h

/-- one of two may go first -/
def apartB (ops : List Oper) (x y : Oper) : Bool :=
  (match x.dst with | some d => !memB (readsOf ops y) d | none => true) && (match y.dst with | some d => !memB (readsOf ops x) d | none => true) &&
    (match x.dst, y.dst with | some d, some e => !Nat.beq d e | _, _ => true)
theorem apartB_out {ops : List Oper} {x y : Oper} (h : apartB ops x y = true) :
    (∀ t, x.dst = some t → t ∉ readsOf ops y) ∧ (∀ t, y.dst = some t → t ∉ readsOf ops x) ∧ (x.dst = none ∨ x.dst ≠ y.dst) := by
  unfold apartB at h
  simp only [Bool.and_eq_true] at h
  obtain ⟨⟨h1, h2⟩, h3⟩ := h
  refine ⟨fun t e hm => ?_, fun t e hm => ?_, ?_⟩
  · rw [e] at h1; simp [memB_iff.2 hm] at h1
  · rw [e] at h2; simp [memB_iff.2 hm] at h2
  · cases hx : x.dst with
    | none => exact .inl rfl
    | some d =>
      refine .inr fun e => ?_
      rw [← e] at h3
      rw [hx] at h3
      simp at h3

theorem comm_pure {ops : List Oper} {x y : Oper} (ha : apartB ops x y = true) (hp : isPure P x.op = true) (K : Env → World → Prop) (g : Env) (w : World) :
    stepA P ops x (stepA P ops y K) g w ↔ stepA P ops y (stepA P ops x K) g w := by
  obtain ⟨h1, h2, h3⟩ := apartB_out ha
  obtain ⟨c, v, hd⟩ := actK_det (P := P) (ops := ops) hp g
  unfold stepA
  rw [hd]
  simp only [actK_put h1]
  have e : ∀ u w', actK P ops (putO g y.dst u) x (fun v w'' => K (putO (putO g y.dst u) x.dst v) w'') w' ↔ c ∧ K (putO (putO g y.dst u) x.dst v) w' := fun u w' => by
    rw [actK_put h2]; exact hd _ _
  have hE := actK_eff (P := P) ops y g w
  constructor
  · rintro ⟨hc, hy⟩
    refine hE.1 _ _ (fun u w' hk => ?_) hy
    rw [e]
    exact ⟨hc, by rw [putO_comm h3] at hk; exact hk⟩
  · intro hy
    have hc : c := Classical.byContradiction fun hc => hE.2 (hE.1 _ _ (fun u w' hk => hc ((e _ _).1 hk).1) hy)
    refine ⟨hc, hE.1 _ _ (fun u w' hk => ?_) hy⟩
    have := ((e _ _).1 hk).2
    rw [putO_comm h3]; exact this
end
end Go.Vc

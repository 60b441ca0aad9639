/-
  The conditions of code are sound: over any program. Conditions: one goroutine, no deferred calls, no labels.
-/
import Derived.Test.YtdjgdcafmfheoaaDoorVcD
import Derived.KernelRfl
set_option linter.unusedSimpArgs false
set_option linter.unusedVariables false
namespace Go.Vc
open Go
variable {Df : List Deferred}

def subB (l D : List Nat) : Bool := match l with | [] => true | x :: r => memB D x && subB r D
theorem subB_out {D : List Nat} : ∀ {l : List Nat}, subB l D = true → ∀ x ∈ l, x ∈ D
  | [], _, x, hx => by simp at hx
  | y :: r, h, x, hx => by
    simp only [subB, Bool.and_eq_true] at h
    rcases List.mem_cons.1 hx with rfl | hx
    · exact memB_iff.1 h.1
    · exact subB_out h.2 x hx
def slots (L : List (Nat × TypeId)) : List Nat := match L with | [] => [] | x :: r => x.1 :: slots r

def codeOk (P : Program) (A : Ann) (N : Nat) : Code → Bool
  | .region _ ops draw => opsOk N ops.toList && guardsB ops.toList ops.toList && (match draw with | true => commOk P ops.toList | false => true)
  | .seq a b => codeOk P A N a && codeOk P A N b
  | .cond _ a b => codeOk P A N a && codeOk P A N b
  | .block _ c => codeOk P A N c
  | .loop c => codeOk P A N c && subB (slots (annOf A (firstRegion c))) (writes c)
  | .scope c => codeOk P A N c
  | _ => true

section
variable {P : Program}

theorem TVs_mono {L : List (Nat × TypeId)} : ∀ {g : Env} {C D : List Value → Prop}, TVs P L g C → (∀ vs, C vs → D vs) → TVs P L g D := by
  induction L with
  | nil => intro g C D h hCD; exact hCD _ h
  | cons x r ih =>
    intro g C D h hCD
    obtain ⟨s, t⟩ := x
    exact TV1_mono h fun v h => ih h fun vs => hCD _

def readL (L : List (Nat × TypeId)) (g : Env) : List Value := match L with | [] => [] | x :: r => g x.1 :: readL r g
theorem TVs_out {L : List (Nat × TypeId)} : ∀ {g : Env} {C : List Value → Prop}, TVs P L g C → C (readL L g) := by
  induction L with
  | nil => intro g C h; exact h
  | cons x r ih =>
    intro g C h
    obtain ⟨s, t⟩ := x
    exact ih (TV1_out h)

theorem allV_inst {L : List (Nat × TypeId)} : ∀ {g : Env} {C F : List Value → Prop}, TVs P L g C → allV P L F → F (readL L g) := by
  induction L with
  | nil => intro g C F h hF; exact hF
  | cons x r ih =>
    intro g C F h hF
    obtain ⟨s, t⟩ := x
    unfold TVs TV1 at h
    unfold allV at hF
    unfold readL
    split at h <;> rename_i hu <;> simp only [hu] at hF
    · obtain ⟨n, e, h'⟩ := TInt_out h; dsimp only; rw [e]; exact ih h' (hF n)
    · dsimp only; cases e : g s <;> rw [e] at h <;> first | exact h.elim | exact ih h (hF _)
    · dsimp only; cases e : g s <;> rw [e] at h <;> first | exact h.elim | exact ih h (hF _)
    · dsimp only; cases e : g s <;> rw [e] at h <;> first | exact h.elim | exact ih h (hF _)
    · dsimp only; cases e : g s <;> rw [e] at h <;> first | exact h.elim | exact ih h (hF _ _ _)
    · dsimp only; cases e : g s <;> rw [e] at h <;> first | exact h.elim | exact ih h (hF _)
    · dsimp only; cases e : g s <;> rw [e] at h <;> first | exact h.elim | exact ih h (hF _)
    · dsimp only; cases e : g s <;> rw [e] at h <;> first | exact h.elim | exact ih h (hF _)
    · dsimp only; cases e : g s <;> rw [e] at h <;> first | exact h.elim | exact ih h (hF _)
    · exact ih h (hF _)

/-! each piece of code writes its own slots alone -/
def Agree (D : List Nat) (g0 g : Env) : Prop := ∀ t, t ∉ D → g t = g0 t
def S (D : List Nat) (g0 : Env) (k : Env → World → Prop) : Env → World → Prop := fun g w => Agree D g0 g ∧ k g w
def SX (D : List Nat) (g0 : Env) (X : Exits) : Exits := X.map fun p => (p.1, S D g0 p.2)
theorem Agree.putO {D : List Nat} {g0 g : Env} (h : Agree D g0 g) {d : Option Nat} {v : Value} (hd : ∀ x, d = some x → x ∈ D) : Agree D g0 (putO g d v) := by
  intro t ht
  rw [putO_get (fun e => ht (hd t e))]
  exact h t ht

theorem stepG_mono {ops : List Oper} {o : Oper} {K K' : Env → World → Prop} {g : Env} {w : World} (h : stepG P ops o K g w)
    (hk : ∀ g' w', (∃ v, g' = putO g o.dst v) → K g' w' → K' g' w') : stepG P ops o K' g w := by
  have hop : ∀ (g2 : Env), g2 = g → opK P g2 o (fun v w' => K (putO g2 o.dst v) w') w → opK P g2 o (fun v w' => K' (putO g2 o.dst v) w') w := by
    intro g2 e h2
    subst e
    have : Eff fun K => opK P g2 o K w := by
      unfold opK
      cases hp : isPure P o.op with
      | true =>
        obtain ⟨c, v, h3⟩ := pureK_det (P := P) g2 o.op
        exact ⟨fun K K' hk hl => (h3 _).2 (((h3 _).1 hl).imp id (hk _ _)), fun hl => ((h3 _).1 hl).2⟩
      | false => exact effK_eff g2 o w
    exact this.1 _ _ (fun v w' hK => hk _ _ ⟨v, rfl⟩ hK) h2
  unfold stepG at h ⊢
  split at h
  · exact hop g rfl h
  · split at h
    · exact h.elim
    · rename_i d hd
      split at h
      · rename_i b hb
        cases b
        · show (match _ with | false => _ | true => _)
          have hs := put_self hb
          change (match _ with | false => _ | true => _) at h
          split at h
          · exact hop _ hs h
          · exact hk _ _ ⟨undef, by rw [hs]⟩ h
        · show (match _ with | true => _ | false => _)
          have hs := put_self hb
          change (match _ with | true => _ | false => _) at h
          split at h
          · exact hop _ hs h
          · exact hk _ _ ⟨undef, by rw [hs]⟩ h
      · exact hk _ _ ⟨undef, rfl⟩ h

theorem opsWrites_mem {o : Oper} {d : Nat} {l : List Oper} (ho : o ∈ l) (hd : o.dst = some d) : d ∈ opsWrites l := by
  induction l with
  | nil => simp at ho
  | cons x r ih =>
    unfold opsWrites
    rcases List.mem_cons.1 ho with h | h
    · rw [← h, hd]; simp
    · have := ih h
      cases x.dst <;> simp [this]

theorem wpOpsG_frame {ops : List Oper} {K : Env → World → Prop} {D : List Nat} {g0 : Env} : ∀ (l : List Oper), (∀ d ∈ opsWrites l, d ∈ D) → ∀ g w, Agree D g0 g → wpOpsG P ops K l g w → wpOpsG P ops (S D g0 K) l g w
  | [], _, g, w, ha, h => ⟨ha, h⟩
  | o :: r, hD, g, w, ha, h => by
    refine stepG_mono h fun g' w' ⟨v, e⟩ hk => ?_
    refine wpOpsG_frame r (fun d hd => hD d ?_) g' w' ?_ hk
    · unfold opsWrites; cases o.dst <;> simp [hd]
    · rw [e]; exact ha.putO fun x hx => hD x (opsWrites_mem List.mem_cons_self hx)
theorem wpOpsG_mono {ops : List Oper} {K K' : Env → World → Prop} (hk : ∀ g w, K g w → K' g w) : ∀ (l : List Oper) g w, wpOpsG P ops K l g w → wpOpsG P ops K' l g w
  | [], g, w, h => hk _ _ h
  | o :: r, g, w, h => stepG_mono h fun g' w' _ => wpOpsG_mono hk r g' w'

theorem chkGo_mono {o : Oper} {g : Env} {w : World} {d : Nat} {C C' : Prop} (hC : C → C') (h : chkGo P o g w d C) : chkGo P o g w d C' := by
  unfold chkGo at h ⊢
  split at h
  · split at h
    · split at h
      · split at h
        · exact ⟨h.1, hC h.2⟩
        · exact h.elim
      · exact ⟨h.1, hC h.2⟩
      · exact h.elim
    · exact h.elim
  · exact ⟨h.1, hC h.2⟩
  · exact h.elim
theorem chk1_mono {ops : List Oper} {o : Oper} {g : Env} {w : World} {C C' : Prop} (hC : C → C') (h : chk1 P ops o g w C) : chk1 P ops o g w C' := by
  unfold chk1 at h ⊢
  split at h
  · exact h.elim
  · split at h
    · exact chkGo_mono hC h
    · split at h
      · exact h.elim
      · split at h
        · rename_i b _
          split at h
          · cases b
            · exact hC h
            · exact chkGo_mono hC h
          · cases b
            · exact chkGo_mono hC h
            · exact hC h
        · exact hC h
theorem chks_mono {ops : List Oper} {g : Env} {w : World} {C C' : Prop} (hC : C → C') : ∀ {l : List Oper}, chks P ops l g w C → chks P ops l g w C'
  | [], h => hC h
  | o :: r, h => chk1_mono (fun h => chks_mono hC h) h
theorem allK_mono {X Y : Nat → Prop} : ∀ {l : List Nat}, (∀ e, X e → Y e) → allK X l → allK Y l
  | [], _, _ => trivial
  | [e], h, hx => h e hx
  | e :: f :: r, h, hx => ⟨h e hx.1, allK_mono h hx.2⟩
theorem drawK_mono {ops : List Oper} {ms : List Nat} {K K' : Env → World → Prop} {D : List Nat} {g0 : Env} (hD : ∀ d ∈ opsWrites ops, d ∈ D) (hk : ∀ g w, Agree D g0 g → K g w → K' g w) : ∀ (n L : Nat) (g : Env) (w : World), Agree D g0 g →
    drawK P ops ms K n L g w → drawK P ops ms K' n L g w
  | 0, L, g, w, _, h => h.elim
  | n + 1, L, g, w, ha, h => by
    have hag : ∀ {i : Nat} {o : Oper} {g' : Env}, ops[i]? = some o → (∃ v, g' = putO g o.dst v) → Agree D g0 g' := fun ho ⟨v, e⟩ => by
      rw [e]; exact ha.putO fun x hx => hD x (opsWrites_mem (List.mem_of_getElem? ho) hx)
    unfold drawK at h ⊢
    split
    · rename_i i hi
      rw [hi] at h
      dsimp only at h
      split
      · rename_i o ho
        rw [ho] at h
        exact stepG_mono h fun g' w' hv hK => drawK_mono hD hk n _ g' w' (hag ho hv) hK
      · rename_i ho; rw [ho] at h; exact h.elim
    · rename_i hi
      rw [hi] at h
      dsimp only at h
      split
      · rename_i he; rw [he] at h; exact hk _ _ ha h
      · rename_i es hne
        split at h
        · rename_i he; exact (hne he).elim
        · refine allK_mono (fun e hx => ?_) h
          split
          · rename_i o ho
            rw [ho] at hx
            exact stepG_mono hx fun g' w' hv hK => chks_mono (fun h => drawK_mono hD hk n _ g' w' (hag ho hv) h) hK
          · rename_i ho; rw [ho] at hx; exact hx.elim

theorem lookV_read {L : List (Nat × TypeId)} {g : Env} {t : Nat} {d : Value} : lookV L (readL L g) t d = if t ∈ slots L then g t else d := by
  induction L with
  | nil => simp [lookV, slots]
  | cons x r ih =>
    obtain ⟨s, ty⟩ := x
    unfold lookV readL slots
    cases hb : Nat.beq t s with
    | true => have := Nat.eq_of_beq_eq_true hb; subst this; simp
    | false =>
      have : t ≠ s := fun e => by rw [e] at hb; simp at hb
      simp [this, ih, hb]
theorem lookV_none {L : List (Nat × TypeId)} : ∀ {vs : List Value} {t : Nat} {d : Value}, t ∉ slots L → lookV L vs t d = d := by
  induction L with
  | nil => intro vs t d _; simp [lookV]
  | cons x r ih =>
    intro vs t d h
    obtain ⟨s, ty⟩ := x
    unfold slots at h
    simp at h
    cases vs with
    | nil => simp [lookV]
    | cons v vs =>
      unfold lookV
      have : Nat.beq t s = false := by cases hb : Nat.beq t s with | false => rfl | true => exact (h.1 (Nat.eq_of_beq_eq_true hb)).elim
      rw [this]; exact ih h.2
theorem headEnv_agree {D D' : List Nat} {g0 g h : Env} {L : List (Nat × TypeId)} {vs : List Value} (ha : Agree D g0 g) (hD : ∀ t ∈ D', t ∈ D) (hL : ∀ t ∈ slots L, t ∈ D') : Agree D g0 (headEnv g h D' L vs) := by
  intro t ht
  unfold headEnv
  rw [lookV_none (fun hm => ht (hD t (hL t hm)))]
  have : memB D' t = false := by cases hb : memB D' t with | false => rfl | true => exact (ht (hD t (memB_iff.1 hb))).elim
  rw [this]; exact ha t ht
theorem headEnv_self {D : List Nat} {g g' : Env} {L : List (Nat × TypeId)} (ha : Agree D g g') : headEnv g g' D L (readL L g') = g' := by
  funext t
  unfold headEnv
  rw [lookV_read]
  split
  · rfl
  · cases hb : memB D t with
    | true => rfl
    | false => exact (ha t (fun hm => by rw [memB_iff.2 hm] at hb; simp at hb)).symm

theorem exitK_S {D : List Nat} {g0 g : Env} {w : World} {id : Nat} : ∀ {X : Exits}, Agree D g0 g → exitK X id g w → exitK (SX D g0 X) id g w
  | [], _, h => h.elim
  | (j, k) :: r, ha, h => by
    unfold exitK at h
    simp only [SX, List.map_cons]
    unfold exitK
    cases hb : Nat.beq id j with
    | true => rw [hb] at h; exact ⟨ha, h⟩
    | false => rw [hb] at h; exact exitK_S (X := r) ha h

theorem allV_mono {L : List (Nat × TypeId)} : ∀ {C D : List Value → Prop}, allV P L C → (∀ vs, C vs → D vs) → allV P L D := by
  induction L with
  | nil => intro C D h hCD; exact hCD _ h
  | cons x r ih =>
    intro C D h hCD
    obtain ⟨s, t⟩ := x
    unfold allV at h ⊢
    split <;> rename_i hu <;> simp only [hu] at h <;> first
      | exact fun n => ih (h n) fun vs => hCD _
      | exact fun a l c => ih (h a l c) fun vs => hCD _

theorem wpC_mono {A : Ann} : ∀ (c : Code) {kn kn' : Env → World → Prop} {X X' : Exits} {kr kr' : Env → World → Prop} {g : Env} {w : World}, (∀ g w, kn g w → kn' g w) → (∀ id g w, exitK X id g w → exitK X' id g w) →
    (∀ g w, kr g w → kr' g w) → wpC P A c kn X kr g w → wpC P A c kn' X' kr' g w := by
  intro c
  induction c with
  | skip => intro kn kn' X X' kr kr' g w hn hX hr h; exact hn _ _ h
  | region id ops draw =>
    intro kn kn' X X' kr kr' g w hn hX hr h
    unfold wpC at h ⊢
    cases draw with
    | false => exact wpOpsG_mono hn _ _ _ h
    | true => exact drawK_mono (D := opsWrites ops.toList) (g0 := g) (fun _ h => h) (fun g w _ => hn g w) _ _ _ _ (fun _ _ => rfl) h
  | seq a b iha ihb =>
    intro kn kn' X X' kr kr' g w hn hX hr h
    unfold wpC at h ⊢
    exact iha (fun g w h => ihb hn hX hr h) hX hr h
  | cond x a b iha ihb =>
    intro kn kn' X X' kr kr' g w hn hX hr h
    unfold wpC at h ⊢
    split
    · rename_i t ht
      rw [ht] at h
      cases t
      · exact ihb hn hX hr h
      · exact iha hn hX hr h
    · rename_i hnb
      split at h
      · rename_i t ht; exact (hnb t ht).elim
      · exact h.elim
  | block id c ih =>
    intro kn kn' X X' kr kr' g w hn hX hr h
    unfold wpC at h ⊢
    refine ih hn (fun id' g w h => ?_) hr h
    unfold exitK at h ⊢
    cases hb : Nat.beq id' id with
    | true => rw [hb] at h; exact hn _ _ h
    | false => rw [hb] at h; exact hX _ _ _ h
  | loop c ih =>
    intro kn kn' X X' kr kr' g w hn hX hr h
    unfold wpC at h ⊢
    refine TVs_mono h ?_
    rintro vs0 ⟨I, μ, hI, hround⟩
    exact ⟨I, μ, hI, fun h' w' => allV_mono (hround h' w') fun vs hv hIv => ih (fun _ _ h => h) hX hr (hv hIv)⟩
  | _ => intro kn kn' X X' kr kr' g w hn hX hr h; first | exact (show False from h).elim | exact hX _ _ _ h | exact hr _ _ h

theorem wpC_frame {A : Ann} {N : Nat} {D : List Nat} {g0 : Env} : ∀ (c : Code) (kn : Env → World → Prop) (X : Exits) (kr : Env → World → Prop) (g : Env) (w : World), codeOk P A N c = true → (∀ d ∈ writes c, d ∈ D) →
    Agree D g0 g → wpC P A c kn X kr g w → wpC P A c (S D g0 kn) (SX D g0 X) (S D g0 kr) g w := by
  intro c
  induction c with
  | skip => exact fun kn X kr g w _ _ ha h => ⟨ha, h⟩
  | region id ops draw =>
    intro kn X kr g w _ hD ha h
    unfold wpC at h ⊢
    cases draw with
    | false => exact wpOpsG_frame _ hD g w ha h
    | true => exact drawK_mono hD (fun g w ha h => ⟨ha, h⟩) _ _ _ _ ha h
  | seq a b iha ihb =>
    intro kn X kr g w hok hD ha h
    simp only [codeOk, Bool.and_eq_true] at hok
    simp only [writes, List.mem_append] at hD
    unfold wpC at h ⊢
    have h1 := iha _ X kr g w hok.1 (fun d hd => hD d (.inl hd)) ha h
    refine wpC_mono _ (fun g w ⟨ha', hk⟩ => ?_) (fun _ _ _ h => h) (fun _ _ h => h) h1
    exact ihb _ X kr g w hok.2 (fun d hd => hD d (.inr hd)) ha' hk
  | cond x a b iha ihb =>
    intro kn X kr g w hok hD ha h
    simp only [codeOk, Bool.and_eq_true] at hok
    simp only [writes, List.mem_append] at hD
    unfold wpC at h ⊢
    split
    · rename_i t ht
      rw [ht] at h
      cases t
      · exact ihb _ X kr g w hok.2 (fun d hd => hD d (.inr hd)) ha h
      · exact iha _ X kr g w hok.1 (fun d hd => hD d (.inl hd)) ha h
    · rename_i hn
      split at h
      · rename_i t ht; exact (hn t ht).elim
      · exact h.elim
  | block id c ih =>
    intro kn X kr g w hok hD ha h
    unfold wpC at h ⊢
    exact ih kn ((id, kn) :: X) kr g w hok hD ha h
  | loop c ih =>
    intro kn X kr g w hok hD ha h
    simp only [codeOk, Bool.and_eq_true] at hok
    unfold wpC at h ⊢
    refine TVs_mono h ?_
    rintro vs0 ⟨I, μ, hI, hr⟩
    refine ⟨I, μ, hI, fun h' w' => allV_mono (hr h' w') fun vs hv hIv => ?_⟩
    have := ih _ X kr _ w' hok.1 hD (headEnv_agree ha hD (subB_out hok.2)) (hv hIv)
    exact wpC_mono _ (fun g w ⟨_, hk⟩ => hk) (fun _ _ _ h => h) (fun _ _ h => h) this
  | _ => intro kn X kr g w _ _ ha h; first | exact (show False from h).elim | exact exitK_S ha h | exact ⟨ha, h⟩
theorem TVs_self {L : List (Nat × TypeId)} : ∀ {g : Env} {C D : List Value → Prop}, TVs P L g C → D (readL L g) → TVs P L g D := by
  induction L with
  | nil => intro g C D h hD; exact hD
  | cons x r ih =>
    intro g C D h hD
    obtain ⟨s, t⟩ := x
    have hv := TV1_out h
    have : TV1 P t (g s) fun v => v = g s := by
      unfold TVs TV1 at h
      unfold TV1
      split at h <;> rename_i hu <;> simp only
      · obtain ⟨n, e, _⟩ := TInt_out h; exact TInt_eq.2 ⟨n, e, e.symm⟩
      · cases e : g s <;> rw [e] at h <;> first | exact h.elim | rfl
      · cases e : g s <;> rw [e] at h <;> first | exact h.elim | rfl
      · cases e : g s <;> rw [e] at h <;> first | exact h.elim | rfl
      · cases e : g s <;> rw [e] at h <;> first | exact h.elim | rfl
      · cases e : g s <;> rw [e] at h <;> first | exact h.elim | rfl
      · cases e : g s <;> rw [e] at h <;> first | exact h.elim | rfl
      · cases e : g s <;> rw [e] at h <;> first | exact h.elim | rfl
      · cases e : g s <;> rw [e] at h <;> first | exact h.elim | rfl
    refine TV1_mono this fun v e => ?_
    subst e
    exact ih (D := fun vs => D (_ :: vs)) hv hD
theorem exitK_unS {D : List Nat} {g0 g : Env} {w : World} {id : Nat} : ∀ {X : Exits}, exitK (SX D g0 X) id g w → exitK X id g w
  | [], h => h
  | (j, k) :: r, h => by
    simp only [SX, List.map_cons] at h
    unfold exitK at h ⊢
    cases hb : Nat.beq id j with
    | true => rw [hb] at h; exact h.2
    | false => rw [hb] at h; exact exitK_unS (X := r) h

/-! my conditions are enough -/
theorem wpOps_of_run {N : Nat} {ops : List Oper} {K : Env → World → Prop} {Q : Exit → Act → World → Prop} (hP : okNames P = true) (hN : opsOk N ops = true) (hG : guardsB ops ops = true)
    (hQ : ∀ a g w, Rel Df N a g → K g w → Q .normal a w) : ∀ (l : List Nat) (a : Act) (g : Env) (w : World), Rel Df N a g → runI P ops K l g w → wpOps P ops.toArray Q l a w
  | [], a, g, w, hr, h => hQ a g w hr h
  | i :: r, a, g, w, hr, h => by
    rw [wpOps_cons]
    unfold runI at h
    cases ho : ops[i]? with
    | none =>
      rw [ho] at h
      unfold wpOp
      simp only [List.getElem?_toArray, ho]
      exact wpOps_of_run hP hN hG hQ r a g w hr h
    | some o =>
      rw [ho] at h
      exact act_step hP hr hN ho (fun j want hg => guardsB_out hG o (List.mem_of_getElem? ho) j want hg) h fun v w' hk =>
        wpOps_of_run hP hN hG hQ r _ _ w' (hr.put o.dst v (opsOk_mem hN (List.mem_of_getElem? ho))) hk

theorem run_of_wpOpsG {ops : List Oper} {K : Env → World → Prop} : ∀ (l : List Oper) (k : Nat), (∀ j, l[j]? = ops[k + j]?) → ∀ g w, wpOpsG P ops K l g w → runI P ops K (List.range' k l.length) g w
  | [], k, _, g, w, h => h
  | o :: r, k, hl, g, w, h => by
    have ho : ops[k]? = some o := by simpa using (hl 0).symm
    simp only [List.length_cons, List.range'_succ]
    unfold runI
    rw [ho]
    refine (actK_eff ops o g w).1 _ _ (fun v w' hk => ?_) (stepG_act h)
    refine run_of_wpOpsG r (k + 1) (fun j => ?_) _ _ hk
    have := hl (j + 1)
    simpa [Nat.add_assoc, Nat.add_comm 1 j] using this

theorem inv_start (ops : List Oper) (g : Env) (w : World) : Inv P ops (Array.replicate ops.length false) 0 [] g g w := by
  have h0 : ∀ i, (Array.replicate ops.length false).getD i false = false := by
    intro i
    rw [Array.getD_eq_getD_getElem?, Array.getElem?_replicate]
    split <;> rfl
  refine ⟨by simp, fun i o e ho hl => ?_, fun k hk => ?_, List.nodup_nil, fun i hi => by simp at hi, fun k hk => by simp at hk, fun a j b h => by simp at h, fun K hK => hK⟩
  · rw [h0] at hl; simp at hl
  · rw [h0]; simp

theorem wpC_sound {A : Ann} {N : Nat} (hP : okNames P = true) (hM : P.follows .mixedOrders = true) : ∀ (c : Code) (kn : Env → World → Prop) (X : Exits) (kr : Env → World → Prop) (Q : Exit → Act → World → Prop) (a : Act) (g : Env) (w : World),
    codeOk P A N c = true → Rel Df N a g → (∀ a g w, Rel Df N a g → kn g w → Q .normal a w) → (∀ id a g w, Rel Df N a g → exitK X id g w → Q (.exit id) a w) → (∀ a g w, Rel Df N a g → kr g w → Q .ret a w) →
    wpC P A c kn X kr g w → c.wp P Q a w := by
  intro c
  induction c with
  | skip => intro kn X kr Q a g w _ hr hn hX hk h; exact wp_skip (hn _ _ _ hr h)
  | region id ops draw =>
    intro kn X kr Q a g w hok hr hn hX hk h
    simp only [codeOk, Bool.and_eq_true] at hok
    obtain ⟨⟨hN, hG⟩, hC⟩ := hok
    unfold wpC at h
    cases draw with
    | false =>
      have := run_of_wpOpsG ops.toList 0 (by simp) g w h
      rw [← List.range_eq_range'] at this
      have := wpOps_of_run hP hN hG hn _ a g w hr this
      simp only [Array.length_toList, Array.toArray_toList] at this
      exact wp_region this
    | true =>
      have := wpAny_of_draw hP hN hG (regOk_of hC) hn ops.toList.length _ a g g w.drew 0 _ [] (inv_start ops.toList g w.drew) hr h (by
        refine Nat.le_trans (List.length_filter_le _ _) ?_
        simp)
      simp only [Array.length_toList, Array.toArray_toList] at this
      exact wp_region_any hM this
  | seq x y ihx ihy =>
    intro kn X kr Q a g w hok hr hn hX hk h
    simp only [codeOk, Bool.and_eq_true] at hok
    unfold wpC at h
    refine wp_seq (ihx _ X kr _ a g w hok.1 hr ?_ ?_ ?_ h)
    · exact fun a g w hr h => ihy kn X kr Q a g w hok.2 hr hn hX hk h
    · exact fun id a g w hr h => hX id a g w hr h
    · exact fun a g w hr h => hk a g w hr h
  | cond x y z ihy ihz =>
    intro kn X kr Q a g w hok hr hn hX hk h
    simp only [codeOk, Bool.and_eq_true] at hok
    unfold wpC at h
    split at h
    · rename_i t ht
      refine wp_cond (t := t) (by rw [hr.eval]; exact ht) ?_
      cases t
      · exact ihz kn X kr Q a g w hok.2 hr hn hX hk h
      · exact ihy kn X kr Q a g w hok.1 hr hn hX hk h
    · exact h.elim
  | block id c ih =>
    intro kn X kr Q a g w hok hr hn hX hk h
    unfold wpC at h
    refine wp_block (ih kn ((id, kn) :: X) kr _ a g w hok hr ?_ ?_ ?_ h)
    · exact fun a g w hr h => hn a g w hr h
    · intro id' a g w hr h
      unfold exitK at h
      show (if id' = id then Q .normal a w else Q (.exit id') a w)
      cases hb : Nat.beq id' id with
      | true => rw [hb] at h; rw [if_pos (Nat.eq_of_beq_eq_true hb)]; exact hn a g w hr h
      | false =>
        rw [hb] at h
        rw [if_neg (fun e => by rw [e] at hb; simp at hb)]
        exact hX id' a g w hr h
    · exact fun a g w hr h => hk a g w hr h
  | loop c ih =>
    intro kn X kr Q a g w hok hr hn hX hk h
    simp only [codeOk, Bool.and_eq_true] at hok
    unfold wpC at h
    have h0 := h
    obtain ⟨I, μ, hI, hround⟩ := TVs_out h
    have htyped : TVs P (annOf A (firstRegion c)) g fun vs => I vs w := by
      refine TVs_self h0 hI
    refine wp_loop (fun a w => ∃ g', Rel Df N a g' ∧ Agree (writes c) g g' ∧ TVs P (annOf A (firstRegion c)) g' fun vs => I vs w)
      (fun a w => μ (readL (annOf A (firstRegion c)) fun t => a.tmps.getD t undef) w) ⟨g, hr, fun t _ => rfl, htyped⟩ ?_
    rintro a' w' ⟨g', hr', ha', ht'⟩
    have hIv := TVs_out ht'
    have hb := allV_inst ht' (hround g' w') hIv
    rw [headEnv_self ha'] at hb
    have hb := wpC_frame (D := writes c) (g0 := g) c _ X kr g' w' hok.1 (fun d hd => hd) ha' hb
    have he : (fun t => a'.tmps.getD t undef) = g' := funext hr'.get
    refine ih _ _ _ _ a' g' w' hok.1 hr' ?_ ?_ ?_ hb
    · rintro a2 g2 w2 hr2 ⟨ha2, ht2⟩
      have ho := TVs_out ht2
      refine ⟨⟨g2, hr2, ha2, TVs_mono ht2 fun _ h => h.1⟩, ?_⟩
      have he2 : (fun t => a2.tmps.getD t undef) = g2 := funext hr2.get
      rw [he2, he]
      exact ho.2
    · intro id a2 g2 w2 hr2 hx
      refine hX id a2 g2 w2 hr2 ?_
      exact exitK_unS hx
    · rintro a2 g2 w2 hr2 ⟨_, hx⟩
      exact hk a2 g2 w2 hr2 hx
  | _ => intro kn X kr Q a g w _ hr hn hX hk h; first | exact (show False from h).elim | exact wp_exit (hX _ a g w hr h) | exact wp_ret (hk a g w hr h)

theorem argEnv_rel (args : Array Value) (n : Nat) (hn : args.size ≤ n) : Rel [] n { tmps := args ++ Array.replicate (n - args.size) undef, defers := [] } (argEnv args.toList) := by
  refine ⟨rfl, by simp; omega, fun t => ?_⟩
  unfold argEnv
  rw [Array.getD_eq_getD_getElem?, Array.getElem?_append, Array.getElem?_replicate, List.getD_eq_getElem?_getD]
  split
  · simp
  · rename_i h
    rw [List.getElem?_eq_none (by simpa using h)]
    split <;> simp

theorem loadCellsFrom_same {a : Addr} : ∀ (n i : Nat) (acc : Array Value) {w w' : World} {cs : Array Value}, (loadCellsFrom a i n acc).run P w = .ok cs w' → w' = w
  | 0, i, acc, w, w', cs, h => by simp [loadCellsFrom] at h; exact h.2.symm
  | n + 1, i, acc, w, w', cs, h => by
    simp only [loadCellsFrom, Sem.run_bind, run_load] at h
    split at h
    · simp only [Result.andThen_ok] at h; exact loadCellsFrom_same n _ _ h
    · split at h
      · simp only [Result.andThen_ok] at h; exact loadCellsFrom_same n _ _ h
      · simp at h
theorem loadVar_same {t : TypeId} {a : Addr} {w w' : World} {v : Value} (h : (loadVar t a).run P w = .ok v w') : w' = w := by
  unfold loadVar at h
  cases ha : (isAgg t).run P w with
  | halt x y => simp [ha] at h
  | ok b w1 =>
    have h1 : w1 = w := by
      unfold isAgg at ha
      cases hu : P.underlying t with
      | none => simp [underlying, hu] at ha
      | some d => simp [run_underlying hu] at ha; split at ha <;> simp at ha <;> exact ha.2.symm
    subst h1
    simp only [Sem.run_bind, ha, Result.andThen_ok] at h
    split at h
    · simp only [Sem.run_bind, sizeOf, typeInfo, run_program, Result.andThen_ok] at h
      cases hi : P.info? t with
      | none => simp [hi] at h
      | some i =>
        simp only [hi, Sem.run_pure, Result.andThen_ok] at h
        cases hl : (loadCells a i.size).run P w1 with
        | halt x y => simp [hl] at h
        | ok cs w2 =>
          simp [hl] at h
          rw [← h.2]
          exact loadCellsFrom_same _ _ _ hl
    · simp only [run_load] at h
      split at h
      · simp at h; exact h.2.symm
      · split at h <;> simp at h; exact h.2.symm

theorem resK_out {rs : List ResultVar} : ∀ {g : Env} {a : Act} {N : Nat} {w : World} {C : List Value → Prop}, Rel Df N a g → resK P rs g w C →
    ∃ vs, ((rs.mapM fun | .tmp t => pure (a.tmps.getD t undef) | .cell x t => do loadVar t (← asAddr (a.tmps.getD x undef)) : Sem (List Value))).run P w = .ok vs w ∧ C vs := by
  induction rs with
  | nil => intro g a N w C hr h; exact ⟨[], by simp, h⟩
  | cons r rs ih =>
    intro g a N w C hr h
    cases r with
    | tmp t =>
      unfold resK at h
      obtain ⟨vs, hv, hC⟩ := ih hr h
      refine ⟨_, ?_, hC⟩
      rw [List.mapM_cons]
      simp only [hr.get] at hv ⊢
      simp only [Sem.run_bind, Sem.run_pure, Result.andThen_ok, hv]
    | cell x t =>
      unfold resK at h
      split at h
      · rename_i ad hx
        have := load_sound (P := P) (K := fun v _ => resK P rs g w fun vs => C (v :: vs)) h
        obtain ⟨v, w', hl, hk⟩ := this.out
        have hw : w' = w := by
          have hl' : (loadVar t ad).run P w = .ok v w' := by simpa [Instr.loadAt, Instr.sureAddr] using hl
          exact loadVar_same hl'
        subst hw
        obtain ⟨vs, hv, hC⟩ := ih hr hk
        refine ⟨_, ?_, hC⟩
        have hl' : (loadVar t ad).run P w' = .ok v w' := by simpa [Instr.loadAt, Instr.sureAddr] using hl
        rw [List.mapM_cons]
        simp only [hr.get] at hv ⊢
        have hx' : (asAddr (g x)).run P w' = .ok ad w' := by rw [hx]; rfl
        simp only [Sem.run_bind, Sem.run_pure, Result.andThen_ok, hx', hl', hv]
      · exact h.elim

theorem results_eq {fn : Func} {g : Env} {a : Act} {N : Nat} {w : World} {C : List Value → Prop} (hr : Rel Df N a g) (h : resK P fn.results.toList g w C) :
    ∃ vs, (results fn a.tmps).run P w = .ok (retV vs) w ∧ C vs := by
  obtain ⟨vs, hv, hC⟩ := resK_out hr h
  refine ⟨vs, ?_, hC⟩
  unfold results
  simp only [Sem.run_bind, Array.mapM_eq_mapM_toList, Sem.run_map]
  refine (congrArg (fun r : Result (List Value) => (r.andThen fun a w' => Result.ok a.toArray w').andThen fun a w' => Sem.run P (pure (if h : a.size = 1 then a[0] else Value.tuple a)) w') hv).trans ?_
  simp only [Result.andThen_ok, Sem.run_pure]
  congr 1
  unfold retV
  match vs with
  | [] => rfl
  | [v] => rfl
  | v :: u :: r => simp

def code (fn : Func) : Code := match fn.body with | some c => c | none => .skip
def vcOk (P : Program) (A : Ann) (fn : Func) (n : Nat) : Bool := (match fn.body with | some _ => true | none => false) && (codeOk P A fn.ntmps (code fn) && Nat.ble n fn.ntmps)

theorem vc_intro {A : Ann} {f : FuncId} {fn : Func} {args : List Value} {w : World} {R : Value → World → Prop} {VC : Prop} (hP : okNames P = true) (hM : P.follows .mixedOrders = true) (hf : P.funcs[f]? = some fn)
    (hok : vcOk P A fn args.length = true) (he : VC = wpF P A fn (code fn) args w R) (h : VC) : CallV P f args.toArray w R := by
  rw [he] at h
  simp only [vcOk, Bool.and_eq_true] at hok
  obtain ⟨hb, hok, hlen⟩ := hok
  have hb : fn.body = some (code fn) := by
    unfold code
    cases h : fn.body with
    | some c => rfl
    | none => rw [h] at hb; simp at hb
  unfold wpF at h
  unfold CallV
  refine calls_of_wp hf hb ?_
  refine wpC_sound (Df := []) (N := fn.ntmps) hP hM _ _ [] _ _ _ (argEnv args) w hok ?_ ?_ ?_ ?_ h
  · have := argEnv_rel args.toArray fn.ntmps (by simpa using Nat.le_of_ble_eq_true hlen)
    simpa using this
  · intro a g w hr hk
    obtain ⟨vs, hv, hC⟩ := results_eq hr hk
    exact ⟨hr.defers, _, hv, _, rfl, hC⟩
  · intro id a g w hr hk; exact hk.elim
  · intro a g w hr hk
    obtain ⟨vs, hv, hC⟩ := results_eq hr hk
    exact ⟨hr.defers, _, hv, _, rfl, hC⟩
end
/-- what a round owes: the relation, and a lower measure -/
def Back (I : List Value → World → Prop) (μ : List Value → World → Nat) (vs : List Value) (w : World) (vs' : List Value) (w' : World) : Prop := I vs' w' ∧ μ vs' w' < μ vs w

/-! loops that count -/
abbrev LoopI (n0 : Int) (w : World) (F : (List Value → World → Prop) → Int → World → Prop) : Prop :=
  ∃ (I : List Value → World → Prop) (m : List Value → World → Nat), I [.int .i64 n0] w ∧ ∀ (_ : Env) (w1 : World), ∀ (n : Int), I [.int .i64 n] w1 → F (Back I m [.int .i64 n] w1) n w1
abbrev LoopSI (o : Option Addr) (l c : Nat) (n0 : Int) (w : World) (F : (List Value → World → Prop) → Option Addr → Nat → Nat → Int → World → Prop) : Prop :=
  ∃ (I : List Value → World → Prop) (m : List Value → World → Nat), I [.slice o l c, .int .i64 n0] w ∧ ∀ (_ : Env) (w1 : World), ∀ (o : Option Addr) (l c : Nat) (n : Int), I [.slice o l c, .int .i64 n] w1 → F (Back I m [.slice o l c, .int .i64 n] w1) o l c n w1
abbrev LoopNI (k : IntKind) (x0 n0 : Int) (w : World) (F : (List Value → World → Prop) → Int → Int → World → Prop) : Prop :=
  ∃ (I : List Value → World → Prop) (m : List Value → World → Nat), I [.int k x0, .int .i64 n0] w ∧ ∀ (_ : Env) (w1 : World), ∀ (x n : Int), I [.int k x, .int .i64 n] w1 → F (Back I m [.int k x, .int .i64 n] w1) x n w1
abbrev LoopIS (n0 : Int) (o : Option Addr) (l c : Nat) (w : World) (F : (List Value → World → Prop) → Int → Option Addr → Nat → Nat → World → Prop) : Prop :=
  ∃ (I : List Value → World → Prop) (m : List Value → World → Nat), I [.int .i64 n0, .slice o l c] w ∧ ∀ (_ : Env) (w1 : World), ∀ (n : Int) (o : Option Addr) (l c : Nat), I [.int .i64 n, .slice o l c] w1 → F (Back I m [.int .i64 n, .slice o l c] w1) n o l c w1

abbrev Loop0 (w : World) (F : (List Value → World → Prop) → World → Prop) : Prop :=
  ∃ (I : List Value → World → Prop) (m : List Value → World → Nat), I [] w ∧ ∀ (_ : Env) (w1 : World), I [] w1 → F (Back I m [] w1) w1
abbrev LoopS (o : Option Addr) (l c : Nat) (w : World) (F : (List Value → World → Prop) → Option Addr → Nat → Nat → World → Prop) : Prop :=
  ∃ (I : List Value → World → Prop) (m : List Value → World → Nat), I [.slice o l c] w ∧ ∀ (_ : Env) (w1 : World), ∀ (o : Option Addr) (l c : Nat), I [.slice o l c] w1 → F (Back I m [.slice o l c] w1) o l c w1
theorem least {p : Nat → Prop} (h : ∃ n, p n) : ∃ n, p n ∧ ∀ m, p m → n ≤ m := by
  obtain ⟨n, hn⟩ := h
  induction n using Nat.strongRecOn with
  | _ n ih =>
    by_cases hm : ∃ m, m < n ∧ p m
    · obtain ⟨m, hlt, hp⟩ := hm; exact ih m hlt hp
    · exact ⟨n, hn, fun m hp => by
        rcases Nat.lt_or_ge m n with h | h
        · exact absurd ⟨m, h, hp⟩ hm
        · exact h⟩
theorem meas {α : Type} (P : α → Nat → Prop) : ∃ μ : α → Nat, ∀ a, (∃ n, P a n) → P a (μ a) ∧ ∀ m, P a m → μ a ≤ m := by
  have : ∀ a, ∃ n, (∃ n, P a n) → P a n ∧ ∀ m, P a m → n ≤ m := fun a => by
    by_cases h : ∃ n, P a n
    · obtain ⟨n, hn⟩ := least h; exact ⟨n, fun _ => hn⟩
    · exact ⟨0, fun h' => absurd h' h⟩
  exact ⟨fun a => Classical.choose (this a), fun a => Classical.choose_spec (this a)⟩
theorem Loop0.up {w : World} (n : Nat) (Inv : Nat → World → Prop) {F : (List Value → World → Prop) → World → Prop} (h0 : Inv 0 w)
    (hs : ∀ i w1 B, i ≤ n → Inv i w1 → (∀ w2, i < n → Inv (i + 1) w2 → B [] w2) → F B w1) : Loop0 w F := by
  obtain ⟨μ, hμ⟩ := meas (fun (w : World) k => ∃ i, i ≤ n ∧ k = n - i ∧ Inv i w)
  refine ⟨fun vs w' => vs = [] ∧ ∃ i, i ≤ n ∧ Inv i w', fun _ w' => μ w', ⟨rfl, 0, Nat.zero_le _, h0⟩, ?_⟩
  rintro _ w1 ⟨_, i0, hi0, hI0⟩
  obtain ⟨⟨i, hi, e, hI⟩, _⟩ := hμ w1 ⟨_, i0, hi0, rfl, hI0⟩
  refine hs i w1 _ hi hI fun w2 hlt hI2 => ⟨⟨rfl, i + 1, hlt, hI2⟩, ?_⟩
  have := (hμ w2 ⟨_, i + 1, hlt, rfl, hI2⟩).2 _ ⟨i + 1, hlt, rfl, hI2⟩
  show μ w2 < μ w1
  omega
theorem LoopS.up {w : World} {o : Option Addr} {l c : Nat} (n : Nat) (Inv : Nat → Option Addr → Nat → Nat → World → Prop) {F : (List Value → World → Prop) → Option Addr → Nat → Nat → World → Prop} (h0 : Inv 0 o l c w)
    (hs : ∀ i o l c w1 B, i ≤ n → Inv i o l c w1 → (∀ o l c w2, i < n → Inv (i + 1) o l c w2 → B [.slice o l c] w2) → F B o l c w1) : LoopS o l c w F := by
  obtain ⟨μ, hμ⟩ := meas (fun (x : List Value × World) k => ∃ i o l c, i ≤ n ∧ k = n - i ∧ x.1 = [.slice o l c] ∧ Inv i o l c x.2)
  refine ⟨fun vs w' => ∃ i o l c, i ≤ n ∧ vs = [.slice o l c] ∧ Inv i o l c w', fun vs w' => μ (vs, w'), ⟨0, _, _, _, Nat.zero_le _, rfl, h0⟩, ?_⟩
  rintro _ w1 o1 l1 c1 ⟨i0, _, _, _, hi0, e0, hI0⟩
  obtain ⟨⟨i, o', l', c', hi, e, e2, hI⟩, _⟩ := hμ ([.slice o1 l1 c1], w1) ⟨_, i0, _, _, _, hi0, rfl, e0, hI0⟩
  simp only [List.cons.injEq, Value.slice.injEq, and_true] at e2
  obtain ⟨rfl, rfl, rfl⟩ := e2
  refine hs i _ _ _ w1 _ hi hI fun o l c w2 hlt hI2 => ⟨⟨i + 1, _, _, _, hlt, rfl, hI2⟩, ?_⟩
  have := (hμ ([.slice o l c], w2) ⟨_, i + 1, _, _, _, hlt, rfl, rfl, hI2⟩).2 _ ⟨i + 1, _, _, _, hlt, rfl, rfl, hI2⟩
  show μ ([.slice o l c], w2) < μ ([.slice o1 l1 c1], w1)
  omega
/-- down to -1 -/
abbrev LoopSII (o : Option Addr) (l c : Nat) (x0 n0 : Int) (w : World) (F : (List Value → World → Prop) → Option Addr → Nat → Nat → Int → Int → World → Prop) : Prop :=
  ∃ (I : List Value → World → Prop) (m : List Value → World → Nat), I [.slice o l c, .int .i64 x0, .int .i64 n0] w ∧ ∀ (_ : Env) (w1 : World), ∀ (o : Option Addr) (l c : Nat) (x n : Int), I [.slice o l c, .int .i64 x, .int .i64 n] w1 → F (Back I m [.slice o l c, .int .i64 x, .int .i64 n] w1) o l c x n w1
abbrev LoopISI (x0 : Int) (o : Option Addr) (l c : Nat) (n0 : Int) (w : World) (F : (List Value → World → Prop) → Int → Option Addr → Nat → Nat → Int → World → Prop) : Prop :=
  ∃ (I : List Value → World → Prop) (m : List Value → World → Nat), I [.int .i64 x0, .slice o l c, .int .i64 n0] w ∧ ∀ (_ : Env) (w1 : World), ∀ (x : Int) (o : Option Addr) (l c : Nat) (n : Int), I [.int .i64 x, .slice o l c, .int .i64 n] w1 → F (Back I m [.int .i64 x, .slice o l c, .int .i64 n] w1) x o l c n w1
theorem LoopSI.down {w : World} {o : Option Addr} {l c : Nat} (n : Nat) {n0 : Int} (e0 : n0 = (n : Int) - 1) (Inv : Nat → Option Addr → Nat → Nat → World → Prop) {F : (List Value → World → Prop) → Option Addr → Nat → Nat → Int → World → Prop} (h0 : Inv 0 o l c w)
    (hs : ∀ i o l c w1 B, i ≤ n → Inv i o l c w1 → (∀ o l c w2, i < n → Inv (i + 1) o l c w2 → B [.slice o l c, .int .i64 ((n : Int) - 1 - i - 1)] w2) → F B o l c ((n : Int) - 1 - i) w1) : LoopSI o l c n0 w F := by
  subst e0
  refine ⟨fun vs w' => ∃ (i : Nat) (o : Option Addr) (l c : Nat), i ≤ n ∧ vs = [.slice o l c, .int .i64 ((n : Int) - 1 - i)] ∧ Inv i o l c w', fun vs _ => match vs with | [_, .int _ x] => (x + 1).toNat | _ => 0, ⟨0, o, l, c, Nat.zero_le _, by simp, h0⟩, ?_⟩
  rintro _ w1 o l c x ⟨i, o', l', c', hi, e, hI⟩
  simp only [List.cons.injEq, Value.slice.injEq, Value.int.injEq, true_and, and_true] at e
  obtain ⟨⟨rfl, rfl, rfl⟩, rfl⟩ := e
  refine hs i _ _ _ w1 _ hi hI fun o l c w2 hlt hI2 => ⟨⟨i + 1, o, l, c, hlt, by simp; omega, hI2⟩, ?_⟩
  show ((n : Int) - 1 - i - 1 + 1).toNat < ((n : Int) - 1 - i + 1).toNat
  omega
/-- in strides -/
theorem LoopI.by {w : World} (s n : Nat) (hs0 : 0 < s) (Inv : Nat → World → Prop) {F : (List Value → World → Prop) → Int → World → Prop} (h0 : Inv 0 w)
    (hs : ∀ i w1 B, i ≤ n → Inv i w1 → (∀ w2, i < n → Inv (i + 1) w2 → B [.int .i64 (((s * (i + 1) : Nat)) : Int)] w2) → F B ((s * i : Nat) : Int) w1) : LoopI 0 w F := by
  refine ⟨fun vs w' => ∃ i : Nat, i ≤ n ∧ vs = [.int .i64 ((s * i : Nat) : Int)] ∧ Inv i w', fun vs _ => match vs with | [.int _ x] => (((s * n : Nat) : Int) - x).toNat | _ => 0, ⟨0, Nat.zero_le _, by simp, h0⟩, ?_⟩
  rintro _ w1 x ⟨i, hi, e, hI⟩
  obtain rfl : x = ((s * i : Nat) : Int) := by simpa using e
  refine hs i w1 _ hi hI fun w2 hlt hI2 => ⟨⟨i + 1, hlt, rfl, hI2⟩, ?_⟩
  show (((s * n : Nat) : Int) - ((s * (i + 1) : Nat) : Int)).toNat < (((s * n : Nat) : Int) - ((s * i : Nat) : Int)).toNat
  have h1 : s * (i + 1) ≤ s * n := Nat.mul_le_mul_left _ hlt
  rw [Nat.mul_succ] at h1 ⊢
  omega
def thirdI (vs : List Value) : Int := match vs with | [_, _, .int _ x] => x | _ => 0
theorem LoopSII.up {w : World} {o : Option Addr} {l c : Nat} {x0 : Int} (n : Nat) (Inv : Nat → Option Addr → Nat → Nat → Int → World → Prop) {F : (List Value → World → Prop) → Option Addr → Nat → Nat → Int → Int → World → Prop} (h0 : Inv 0 o l c x0 w)
    (hs : ∀ i o l c x w1 B, i ≤ n → Inv i o l c x w1 → (∀ o l c x w2, i < n → Inv (i + 1) o l c x w2 → B [.slice o l c, .int .i64 x, .int .i64 ((i : Int) + 1)] w2) → F B o l c x (i : Int) w1) : LoopSII o l c x0 0 w F := by
  refine ⟨fun vs w' => ∃ (i : Nat) (o : Option Addr) (l c : Nat) (x : Int), i ≤ n ∧ vs = [.slice o l c, .int .i64 x, .int .i64 i] ∧ Inv i o l c x w', fun vs _ => ((n : Int) - thirdI vs).toNat, ⟨0, o, l, c, x0, Nat.zero_le _, rfl, h0⟩, ?_⟩
  rintro _ w1 o l c x _ ⟨i, o', l', c', x', hi, e, hI⟩
  simp only [List.cons.injEq, Value.slice.injEq, Value.int.injEq, true_and, and_true] at e
  obtain ⟨⟨rfl, rfl, rfl⟩, rfl, rfl⟩ := e
  refine hs i _ _ _ _ w1 _ hi hI fun o l c x w2 hlt hI2 => ⟨⟨i + 1, o, l, c, x, hlt, by simp, hI2⟩, ?_⟩
  show ((n : Int) - ((i : Int) + 1)).toNat < ((n : Int) - i).toNat
  omega
theorem LoopISI.up {w : World} {o : Option Addr} {l c : Nat} {x0 : Int} (n : Nat) (Inv : Nat → Int → Option Addr → Nat → Nat → World → Prop) {F : (List Value → World → Prop) → Int → Option Addr → Nat → Nat → Int → World → Prop} (h0 : Inv 0 x0 o l c w)
    (hs : ∀ i x o l c w1 B, i ≤ n → Inv i x o l c w1 → (∀ x o l c w2, i < n → Inv (i + 1) x o l c w2 → B [.int .i64 x, .slice o l c, .int .i64 ((i : Int) + 1)] w2) → F B x o l c (i : Int) w1) : LoopISI x0 o l c 0 w F := by
  refine ⟨fun vs w' => ∃ (i : Nat) (x : Int) (o : Option Addr) (l c : Nat), i ≤ n ∧ vs = [.int .i64 x, .slice o l c, .int .i64 i] ∧ Inv i x o l c w', fun vs _ => ((n : Int) - thirdI vs).toNat, ⟨0, x0, o, l, c, Nat.zero_le _, rfl, h0⟩, ?_⟩
  rintro _ w1 x o l c _ ⟨i, x', o', l', c', hi, e, hI⟩
  simp only [List.cons.injEq, Value.slice.injEq, Value.int.injEq, true_and, and_true] at e
  obtain ⟨rfl, ⟨rfl, rfl, rfl⟩, rfl⟩ := e
  refine hs i _ _ _ _ w1 _ hi hI fun x o l c w2 hlt hI2 => ⟨⟨i + 1, x, o, l, c, hlt, by simp, hI2⟩, ?_⟩
  show ((n : Int) - ((i : Int) + 1)).toNat < ((n : Int) - i).toNat
  omega
abbrev LoopN (k : IntKind) (n0 : Int) (w : World) (F : (List Value → World → Prop) → Int → World → Prop) : Prop :=
  ∃ (I : List Value → World → Prop) (m : List Value → World → Nat), I [.int k n0] w ∧ ∀ (_ : Env) (w1 : World), ∀ (n : Int), I [.int k n] w1 → F (Back I m [.int k n] w1) n w1
def headI (vs : List Value) : Int := match vs with | .int _ x :: _ => x | _ => 0
def nextI (vs : List Value) : Int := match vs with | [_, .int _ x] => x | _ => 0
theorem LoopN.up {w : World} {k : IntKind} (n : Nat) (Inv : Nat → World → Prop) {F : (List Value → World → Prop) → Int → World → Prop} (h0 : Inv 0 w)
    (hs : ∀ i w1 B, i ≤ n → Inv i w1 → (∀ w2, i < n → Inv (i + 1) w2 → B [.int k ((i : Int) + 1)] w2) → F B (i : Int) w1) : LoopN k 0 w F := by
  refine ⟨fun vs w' => ∃ i : Nat, i ≤ n ∧ vs = [.int k i] ∧ Inv i w', fun vs _ => ((n : Int) - headI vs).toNat, ⟨0, Nat.zero_le _, rfl, h0⟩, ?_⟩
  rintro _ w1 _ ⟨i, hi, e, hI⟩
  obtain rfl : _ = (i : Int) := by simpa using e
  refine hs i w1 _ hi hI fun w2 hlt hI2 => ⟨⟨i + 1, hlt, by simp, hI2⟩, ?_⟩
  show ((n : Int) - ((i : Int) + 1)).toNat < ((n : Int) - i).toNat
  omega
theorem LoopI.up {w : World} (n : Nat) (Inv : Nat → World → Prop) {F : (List Value → World → Prop) → Int → World → Prop} (h0 : Inv 0 w)
    (hs : ∀ i w1 B, i ≤ n → Inv i w1 → (∀ w2, i < n → Inv (i + 1) w2 → B [.int .i64 ((i : Int) + 1)] w2) → F B (i : Int) w1) : LoopI 0 w F := by
  refine ⟨fun vs w' => ∃ i : Nat, i ≤ n ∧ vs = [.int .i64 i] ∧ Inv i w', fun vs _ => ((n : Int) - headI vs).toNat, ⟨0, Nat.zero_le _, rfl, h0⟩, ?_⟩
  rintro _ w1 _ ⟨i, hi, e, hI⟩
  obtain rfl : _ = (i : Int) := by simpa using e
  refine hs i w1 _ hi hI fun w2 hlt hI2 => ⟨⟨i + 1, hlt, by simp, hI2⟩, ?_⟩
  show ((n : Int) - ((i : Int) + 1)).toNat < ((n : Int) - i).toNat
  omega
theorem LoopI.from {w : World} (s n : Nat) (hsn : s ≤ n) (Inv : Nat → World → Prop) {s' : Int} (he : s' = s) {F : (List Value → World → Prop) → Int → World → Prop} (h0 : Inv s w)
    (hs : ∀ i w1 B, s ≤ i → i ≤ n → Inv i w1 → (∀ w2, i < n → Inv (i + 1) w2 → B [.int .i64 ((i : Int) + 1)] w2) → F B (i : Int) w1) : LoopI s' w F := by
  subst he
  refine ⟨fun vs w' => ∃ i : Nat, s ≤ i ∧ i ≤ n ∧ vs = [.int .i64 i] ∧ Inv i w', fun vs _ => ((n : Int) - headI vs).toNat, ⟨s, Nat.le_refl _, hsn, rfl, h0⟩, ?_⟩
  rintro _ w1 _ ⟨i, hsi, hi, e, hI⟩
  obtain rfl : _ = (i : Int) := by simpa using e
  refine hs i w1 _ hsi hi hI fun w2 hlt hI2 => ⟨⟨i + 1, by omega, hlt, by simp, hI2⟩, ?_⟩
  show ((n : Int) - ((i : Int) + 1)).toNat < ((n : Int) - i).toNat
  omega
theorem LoopSI.up {w : World} {o : Option Addr} {l c : Nat} (n : Nat) (Inv : Nat → Option Addr → Nat → Nat → World → Prop) {F : (List Value → World → Prop) → Option Addr → Nat → Nat → Int → World → Prop} (h0 : Inv 0 o l c w)
    (hs : ∀ i o l c w1 B, i ≤ n → Inv i o l c w1 → (∀ o l c w2, i < n → Inv (i + 1) o l c w2 → B [.slice o l c, .int .i64 ((i : Int) + 1)] w2) → F B o l c (i : Int) w1) : LoopSI o l c 0 w F := by
  refine ⟨fun vs w' => ∃ (i : Nat) (o : Option Addr) (l c : Nat), i ≤ n ∧ vs = [.slice o l c, .int .i64 i] ∧ Inv i o l c w', fun vs _ => ((n : Int) - nextI vs).toNat, ⟨0, o, l, c, Nat.zero_le _, rfl, h0⟩, ?_⟩
  rintro _ w1 o l c _ ⟨i, o', l', c', hi, e, hI⟩
  simp only [List.cons.injEq, Value.slice.injEq, Value.int.injEq, true_and, and_true] at e
  obtain ⟨⟨rfl, rfl, rfl⟩, rfl⟩ := e
  refine hs i _ _ _ w1 _ hi hI fun o l c w2 hlt hI2 => ⟨⟨i + 1, o, l, c, hlt, by simp, hI2⟩, ?_⟩
  show ((n : Int) - ((i : Int) + 1)).toNat < ((n : Int) - i).toNat
  omega
theorem LoopNI.up {w : World} {k : IntKind} {x0 : Int} (n : Nat) (Inv : Nat → Int → World → Prop) {F : (List Value → World → Prop) → Int → Int → World → Prop} (h0 : Inv 0 x0 w)
    (hs : ∀ i x w1 B, i ≤ n → Inv i x w1 → (∀ x w2, i < n → Inv (i + 1) x w2 → B [.int k x, .int .i64 ((i : Int) + 1)] w2) → F B x (i : Int) w1) : LoopNI k x0 0 w F := by
  refine ⟨fun vs w' => ∃ (i : Nat) (x : Int), i ≤ n ∧ vs = [.int k x, .int .i64 i] ∧ Inv i x w', fun vs _ => ((n : Int) - nextI vs).toNat, ⟨0, x0, Nat.zero_le _, rfl, h0⟩, ?_⟩
  rintro _ w1 x _ ⟨i, x', hi, e, hI⟩
  simp only [List.cons.injEq, Value.int.injEq, true_and, and_true] at e
  obtain ⟨rfl, rfl⟩ := e
  refine hs i _ w1 _ hi hI fun x w2 hlt hI2 => ⟨⟨i + 1, x, hlt, by simp, hI2⟩, ?_⟩
  show ((n : Int) - ((i : Int) + 1)).toNat < ((n : Int) - i).toNat
  omega
theorem LoopIS.up {w : World} {o : Option Addr} {l c : Nat} (n : Nat) (Inv : Nat → Option Addr → Nat → Nat → World → Prop) {F : (List Value → World → Prop) → Int → Option Addr → Nat → Nat → World → Prop} (h0 : Inv 0 o l c w)
    (hs : ∀ i o l c w1 B, i ≤ n → Inv i o l c w1 → (∀ o l c w2, i < n → Inv (i + 1) o l c w2 → B [.int .i64 ((i : Int) + 1), .slice o l c] w2) → F B (i : Int) o l c w1) : LoopIS 0 o l c w F := by
  refine ⟨fun vs w' => ∃ (i : Nat) (o : Option Addr) (l c : Nat), i ≤ n ∧ vs = [.int .i64 i, .slice o l c] ∧ Inv i o l c w', fun vs _ => ((n : Int) - headI vs).toNat, ⟨0, o, l, c, Nat.zero_le _, rfl, h0⟩, ?_⟩
  rintro _ w1 _ o l c ⟨i, o', l', c', hi, e, hI⟩
  simp only [List.cons.injEq, Value.slice.injEq, Value.int.injEq, true_and, and_true] at e
  obtain ⟨rfl, rfl, rfl, rfl⟩ := e
  refine hs i _ _ _ w1 _ hi hI fun o l c w2 hlt hI2 => ⟨⟨i + 1, o, l, c, hlt, by simp, hI2⟩, ?_⟩
  show ((n : Int) - ((i : Int) + 1)).toNat < ((n : Int) - i).toNat
  omega
end Go.Vc

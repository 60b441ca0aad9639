/-
  Disk.Read: walked.
-/
import Derived.Test.YteliekblhcbmgaaBack
import Derived.Test.YteliekblhcbmgaaCln
import Derived.Test.YteliekblhcbmgaaGenRd
import Derived.Below
import Derived.BigRegionIn
set_option linter.unusedVariables false
namespace Go.Vc
open Go Go.RowKit
/-- the blocks from N on -/
def vN (N : Nat) (w : World) : View := fun b => if N ≤ b then w.heap[b]? else none
theorem vN_of_step {c' : Nat → Nat} {w w' : World} (st : Step (fun _ => 0) [] [1] w c' w') : Sub (view c' 1 w') (vN w.heap.size w') := fun b o h => by
  obtain ⟨hc, ho⟩ := view_out h
  unfold vN
  rcases Nat.lt_or_ge b w.heap.size with hb | hb
  · rw [st.col b hb] at hc; simp at hc
  · rw [if_pos hb]; exact ho
theorem ow_keep {N N' : Nat} {W W' : World} {v : Value} {T z n : Nat} {xs : List Value} (h : OwS (vN N W) v T z n xs) (hN : N' ≤ N)
    (hk : ∀ g cs T, N ≤ g → W.heap[g]? = some (.cells cs T (0, 0)) → W'.heap[g]? = some (.cells cs T (0, 0))) : OwS (vN N' W') v T z n xs := by
  refine ⟨h.1, h.2.imp id ?_⟩
  rintro ⟨g, cap, cur, e, hg, r⟩
  unfold vN at hg
  split at hg
  · refine ⟨g, cap, cur, e, ?_, r⟩
    unfold vN
    rw [if_pos (by omega)]
    exact hk g _ _ ‹_› hg
  · simp at hg
theorem keep_putObj {W : World} {D : Nat} {o o' : Obj} (hD : W.heap[D]? = some o) (ho : o.isCells = false) (g : Nat) (cs : Array Value) (T : Nat) (hg : W.heap[g]? = some (.cells cs T (0, 0))) : (W.putObj D o').heap[g]? = some (.cells cs T (0, 0)) := by
  refine (World.putObj_heap_other ?_).trans hg
  rintro rfl
  rw [hD] at hg
  cases hg
  simp [Obj.isCells] at ho
theorem keep_grown {W W' : World} {row : Option Nat} (h : W.grownBy W' row) (hr : ∀ r, row = some r → ∃ o : Obj, W.heap[r]? = some o ∧ o.isCells = false) (g : Nat) (cs : Array Value) (T : Nat) (hg : W.heap[g]? = some (.cells cs T (0, 0))) : W'.heap[g]? = some (.cells cs T (0, 0)) := by
  refine (h.block g (Array.getElem?_eq_some_iff.1 hg).1 ?_).trans hg
  rintro e
  obtain ⟨o, ho, hc⟩ := hr g e.symm
  rw [hg] at ho
  cases ho
  simp [Obj.isCells] at hc
theorem boxed_grown {W W' : World} {row : Option Nat} {B : Nat} {t : TypeId} {v : Value} (h : W.grownBy W' row) (hr : ∀ r, row = some r → ∃ o : Obj, W.heap[r]? = some o ∧ o.isCells = false) (hb : Boxed W B t v) : Boxed W' B t v := keep_grown h hr B _ _ hb
theorem keepsFrom_below {B : Nat} {W W' : World} (h : Below W.heap.size W W') : KeepsFrom B W W' :=
  ⟨h.size, fun k o _ hk _ => (h.block k (Array.getElem?_eq_some_iff.1 hk).1).trans hk⟩
theorem rel_of {T : Array Value} {N : Nat} (hT : T.size = N) (ds : List Deferred) : Rel ds N { tmps := T, defers := ds } (argEnv T.toList) :=
  ⟨rfl, hT, fun t => by simp [argEnv, List.getD_eq_getElem?_getD, Array.getD_eq_getD_getElem?]⟩
theorem rel_at {Df : List Deferred} {N : Nat} {a : Act} {g : Env} (h : Rel Df N a g) {t : Nat} {v : Value} (ht : t < N) (hv : g t = v) : a.tmps[t]? = some v := by
  have := h.get t
  rw [Array.getD_eq_getD_getElem?, Array.getElem?_eq_getElem (by rw [h.size]; exact ht)] at this
  rw [Array.getElem?_eq_getElem (by rw [h.size]; exact ht), ← hv, ← this]; rfl
theorem boxed_below {B : Nat} {W W' : World} (h : Below B W W') {b : Nat} {t : TypeId} {v : Value} (hb : b < B) (hv : Boxed W b t v) : Boxed W' b t v := (h.block b hb).trans hv
theorem boxed_other {W : World} {b : Nat} {p : Addr} {t : TypeId} {v u : Value} (hv : Boxed W b t v) (hne : b ≠ p.block) : Boxed (W.setCell p u) b t v := (Below.heap_setCell W p u b hne).trans hv
end Go.Vc
namespace Go.Proofs.Yteliekblhcbmgaa
open Go.RowKit Go.Shelf Go.Vc
attribute [local go_sem] Oper.semAt_some

theorem dec_neg (i : Nat) : decide ((i : Int) < 0) = false := by simp
theorem dec_neg2 (i : Nat) : decide (Int.negSucc i < 0) = true := by simp [Int.negSucc_lt_zero]
attribute [local go_sem] dec_neg dec_neg2
theorem cell_old {w : World} {p : Addr} {v : Value} (hp : p.block < w.heap.size) (h : w.cell? p = some v) (o : Obj) : (w.alloc o).cell? p = some v := by
  rw [← h]; exact ((Below.refl w.heap.size w).alloc (Nat.le_refl _) o).cell hp
theorem read_results {tmps : Array Value} {r1 r2 : Nat} {v1 v2 : Value} {w : World} (t4 : tmps[4]? = some (.pointer (some ⟨r1, 0, none⟩))) (t5 : tmps[5]? = some (.pointer (some ⟨r2, 0, none⟩))) (h1 : w.cell? ⟨r1, 0, none⟩ = some v1) (h2 : w.cell? ⟨r2, 0, none⟩ = some v2) :
    (results Try.f15 tmps).run Try.prog w = .ok (.tuple #[v1, v2]) w := by
  simp [results, Try.f15, go_sem, h1, h2, t4, t5]

theorem Clone_new {w : World} {v : Value} {n : Nat} {l : List UInt8} (hr : RdS (wv w) v 1 n (bvs l)) (hn : n ≤ 140737488355328) :
    Calls Try.prog 27 #[v] w fun e w' => ∃ u, e = .returned u ∧ Below w.heap.size w w' ∧ OwS (vN w.heap.size w') u 5 1 n (bvs l) :=
  Clone_bytes (fun _ => 0) 1 (R := fun u w' => Below w.heap.size w w' ∧ OwS (vN w.heap.size w') u 5 1 n (bvs l)) hr hn fun u c' w' st ho => ⟨⟨st.os, st.tape, st.output, st.size, fun b hb => st.keep b hb (by simp)⟩, ho.mono (vN_of_step st)⟩
set_option maxRecDepth 100000 in
set_option maxHeartbeats 4000000 in
theorem read_main (w : World) (n : Nat) (hn : 3 ≤ n) (db : Nat) (i : Nat) (bl ofl ll cl : Nat) (oo : Option Addr) (lo co b off : Nat) (ho : 0 < lo → oo = some ⟨b, off, none⟩) (hb : 0 < lo → b < w.heap.size) (hlo : lo ≤ 1000000) (at' : Nat → Int) (dO : Nat → Option Addr) (dL dC : Nat → Nat) (dB : Nat → List UInt8)
    (h3 : w.cell? ⟨db, 3, none⟩ = some (.bool false)) (h0 : w.cell? ⟨db, 0, none⟩ = some (.slice (some ⟨bl, ofl, none⟩) ll cl)) (h1 : w.cell? ⟨db, 1, none⟩ = some (.slice oo lo co)) (hi : i < ll) (hdb : db < w.heap.size)
    (hm : ∀ j, j < lo → w.cell? ⟨b, off + j * 2, none⟩ = some (.int .i64 (at' j)) ∧ w.cell? ⟨b, off + j * 2 + 1, none⟩ = some (.slice (dO j) (dL j) (dC j)))
    (hd : ∀ j, j < lo → RdS (wv w) (.slice (dO j) (dL j) (dC j)) 1 (dB j).length (bvs (dB j)) ∧ (dB j).length ≤ 140737488355328)
    (eo : Option Addr) (ec : Nat) (lB : List UInt8) (he : w.cell? ⟨bl, ofl + i, none⟩ = some (.slice eo lB.length ec)) (hbl : bl < w.heap.size) (hle : RdS (wv w) (.slice eo lB.length ec) 1 lB.length (bvs lB)) (hll : lB.length ≤ 140737488355328) :
    CallsIn Fence.wide n Try.prog 15 #[.pointer (some ⟨db, 0, none⟩), .int .i64 i] w fun e w' => ∃ v, e = .returned (.tuple #[v, .int .i64 0]) ∧ Below w.heap.size w w' ∧
      ((∃ j, j < lo ∧ at' j = i ∧ (∀ k, j < k → k < lo → at' k ≠ i) ∧ OwS (vN w.heap.size w') v 5 1 (dB j).length (bvs (dB j))) ∨ ((∀ k, k < lo → at' k ≠ i) ∧ OwS (vN w.heap.size w') v 5 1 lB.length (bvs lB))) := by
  refine callsIn_of_wp_marks Try.func15 rfl trivial ?_
  simp only [Try.ntmps15, List.size_toArray, List.length_cons, List.length_nil, Nat.reduceAdd, Nat.reduceSub, Array.replicate_succ, Array.replicate_zero, List.push_toArray, List.append_toArray, List.nil_append, List.cons_append]
  have q3 : (((w.alloc (.cells #[.int .i64 i] 3)).alloc (.cells #[.slice none 0 0] 30)).alloc (.cells #[.int .i64 0] 27)).cell? ⟨db, 3, none⟩ = some (.bool false) :=
    cell_old (by simp; omega) (cell_old (by simp; omega) (cell_old hdb h3 _) _) _
  have q0 : (((w.alloc (.cells #[.int .i64 i] 3)).alloc (.cells #[.slice none 0 0] 30)).alloc (.cells #[.int .i64 0] 27)).cell? ⟨db, 0, none⟩ = some (.slice (some ⟨bl, ofl, none⟩) ll cl) :=
    cell_old (by simp; omega) (cell_old (by simp; omega) (cell_old hdb h0 _) _) _
  have q1 : (((w.alloc (.cells #[.int .i64 i] 3)).alloc (.cells #[.slice none 0 0] 30)).alloc (.cells #[.int .i64 0] 27)).cell? ⟨db, 1, none⟩ = some (.slice oo lo co) :=
    cell_old (by simp; omega) (cell_old (by simp; omega) (cell_old hdb h1 _) _) _
  have qi : (((w.alloc (.cells #[.int .i64 i] 3)).alloc (.cells #[.slice none 0 0] 30)).alloc (.cells #[.int .i64 0] 27)).cell? ⟨w.heap.size, 0, none⟩ = some (.int .i64 i) :=
    cell_old (by simp; omega) (cell_old (by simp) (Boxed.new w 3 _).cell _) _
  gi_wp2
  gi_region
  all_goals gi_wp2
  refine ⟨trivial, fun h => absurd h (by decide), ?_⟩
  refine (back_fn (n - 1) _ _ _ _).mono ?_
  rintro e w' ⟨rfl, rfl⟩
  gi_wp2
  obtain ⟨W0, hW0⟩ : ∃ W0, ((((w.alloc (.cells #[.int .i64 i] 3)).alloc (.cells #[.slice none 0 0] 30)).alloc (.cells #[.int .i64 0] 27)).alloc (.cells #[.slice oo lo co] 54)).drew = W0 := ⟨_, rfl⟩
  have hsz : W0.heap.size = w.heap.size + 1 + 1 + 1 + 1 := by rw [← hW0]; simp
  have hB0 : Below w.heap.size w W0 := by
    rw [← hW0]
    exact (((((Below.refl _ w).alloc (Nat.le_refl _) _).alloc (by simp) _).alloc (by simp; omega) _).alloc (by simp; omega) _).drew
  have bI : Boxed W0 w.heap.size 3 (.int .i64 i) := by rw [← hW0]; exact (((Boxed.new w 3 _).alloc _).alloc _).alloc _
  have bR : Boxed W0 (w.heap.size + 1) 30 (.slice none 0 0) := by
    rw [← hW0]; have := ((Boxed.new (w.alloc (.cells #[.int .i64 i] 3)) 30 (.slice none 0 0)).alloc (.cells #[.int .i64 0] 27)).alloc (.cells #[.slice oo lo co] 54); rw [World.size_alloc] at this; exact this
  have bC : Boxed W0 (w.heap.size + 1 + 1) 27 (.int .i64 0) := by
    rw [← hW0]; have := (Boxed.new ((w.alloc (.cells #[.int .i64 i] 3)).alloc (.cells #[.slice none 0 0] 30)) 27 (.int .i64 0)).alloc (.cells #[.slice oo lo co] 54); rw [World.size_alloc, World.size_alloc] at this; exact this
  have bB : Boxed W0 (w.heap.size + 1 + 1 + 1) 54 (.slice oo lo co) := by
    rw [← hW0]; have := (Boxed.new (((w.alloc (.cells #[.int .i64 i] 3)).alloc (.cells #[.slice none 0 0] 30)).alloc (.cells #[.int .i64 0] 27)) 54 (.slice oo lo co)); rw [World.size_alloc, World.size_alloc, World.size_alloc] at this; exact this
  rw [hW0]
  clear q0 q1 q3 qi hW0
  refine wpIn_rangeFunc_ownH (α := Nat) (N := lo) rfl (by omega) (gf := 32) (lb := #[.pointer (some ⟨w.heap.size + 1 + 1 + 1, 0, none⟩)]) rfl trivial (enters_of Try.func32 (by kernel_rfl) rfl)
    (back_stops (n - 1) (by omega) (w.heap.size + 1 + 1 + 1) (w.heap.size + 1 + 1 + 1) lo co oo b off ho (fun h => by have := hb h; omega) hlo at' (fun j => .slice (dO j) (dL j) (dC j)) W0 (by omega) (by omega) bB.cell (Nat.le_refl _)
      (fun j hj => ⟨(hB0.cell (p := ⟨b, off + j * 2, none⟩) (hb (by omega))).trans (hm j hj).1, (hB0.cell (p := ⟨b, off + j * 2 + 1, none⟩) (hb (by omega))).trans (hm j hj).2⟩))
    belowK_t (belowK_b (by omega)) (Below.refl _ _) (fun _ => rfl)
    (fun pre W => (Boxed W w.heap.size 3 (.int .i64 i) ∧ Boxed W (w.heap.size + 1) 30 (.slice none 0 0) ∧ Boxed W (w.heap.size + 1 + 1) 27 (.int .i64 0)) ∧ (∀ k ∈ pre, at' (lo - 1 - k) ≠ i) ∧ Below W0.heap.size W0 W)
    (fun c pre W => c = .ret ∧ ∃ ini k v, pre = ini ++ [k] ∧ (∀ m ∈ ini, at' (lo - 1 - m) ≠ i) ∧ at' (lo - 1 - k) = i ∧ Boxed W (w.heap.size + 1) 30 v ∧ Boxed W (w.heap.size + 1 + 1) 27 (.int .i64 0) ∧ Below w.heap.size w W ∧ OwS (vN W0.heap.size W) v 5 1 (dB (lo - 1 - k)).length (bvs (dB (lo - 1 - k))))
    ?hI ?hIx ⟨⟨bI, bR, bC⟩, by simp, Below.refl _ _⟩
    (fun x a' W => ∃ Bx, W0.heap.size ≤ Bx ∧ W.heap[Bx]? = some (.cells #[.int .i64 (at' (lo - 1 - x)), .slice (dO (lo - 1 - x)) (dL (lo - 1 - x)) (dC (lo - 1 - x))] 59 (0, 0)) ∧ a' = { tmps := #[.pointer (some ⟨db, 0, none⟩), .int .i64 i, undef, .pointer (some ⟨w.heap.size, 0, none⟩), .pointer (some ⟨w.heap.size + 1, 0, none⟩), .pointer (some ⟨w.heap.size + 1 + 1, 0, none⟩), undef, .pointer (some ⟨Bx, 0, none⟩), .bool false, .pointer (some ⟨db, 0, none⟩), .pointer (some ⟨db, 0, none⟩), .pointer (some ⟨db, 3, none⟩), .bool false, .bool false, .int .i64 i, .bool false, .bool false, .int .i64 i, .pointer (some ⟨db, 0, none⟩), .pointer (some ⟨db, 0, none⟩), .pointer (some ⟨db, 0, none⟩), .slice (some ⟨bl, ofl, none⟩) ll cl, .int .i64 ll, .bool false, .bool false, .pointer (some ⟨db, 0, none⟩), .pointer (some ⟨db, 0, none⟩), .pointer (some ⟨db, 1, none⟩), .slice oo lo co, .func (.func 32) #[] #[.pointer (some ⟨w.heap.size + 1 + 1 + 1, 0, none⟩)], .int .i64 ((lo - 1 - x : Nat) : Int), .agg #[.int .i64 (at' (lo - 1 - x)), .slice (dO (lo - 1 - x)) (dL (lo - 1 - x)) (dC (lo - 1 - x))], undef, undef, undef, undef, undef, undef, undef, undef, undef, undef, undef, undef, undef, undef, undef], defers := [] })
    ?hAx ?assign ?body ?done ?stop
  case hI =>
    rintro pre W W' row ⟨⟨cI, cR, cC⟩, hne, hB⟩ hg hr
    have hr' := fun r e => (hr r e).2
    exact ⟨⟨boxed_grown hg hr' cI, boxed_grown hg hr' cR, boxed_grown hg hr' cC⟩, hne, hB.grown hg hB.size fun k e => (hr k e).1⟩
  case hIx =>
    rintro c pre W W' row ⟨hc, ini, k, v, e1, hne, hat, cR, cC, hB, ho⟩ hg hr
    have hr' := fun r e => (hr r e).2
    exact ⟨hc, ini, k, v, e1, hne, hat, boxed_grown hg hr' cR, boxed_grown hg hr' cC, hB.grown hg hB.size fun k e => by have := (hr k e).1; omega, ow_keep ho (Nat.le_refl _) fun g cs T _ hg' => keep_grown hg hr' g cs T hg'⟩
  case hAx =>
    rintro x a' _ W W' row ⟨Bx, h1, h2, h3⟩ hg hr
    exact ⟨Bx, h1, keep_grown hg (fun r e => (hr r e).2) Bx _ _ h2, h3⟩
  case assign =>
    intro l pre x W K hI hK
    simp only [bEnc]
    gi_wp2
    obtain ⟨⟨cI, cR, cC⟩, hne, hB⟩ := hI
    have hsW := hB.size
    refine hK _ _ ((KeepsOthers.alloc _ _).from _) ((Below.refl _ W).alloc (by omega) _) ⟨⟨cI.alloc _, cR.alloc _, cC.alloc _⟩, hne, hB.alloc hsW _⟩ ⟨W.heap.size, hsW, World.alloc_heap_new W _, rfl⟩
  case body =>
    rintro l pre x a' W hl hr ⟨⟨cI, cR, cC⟩, hne, hB⟩ ⟨Bx, hBx, bX, rfl⟩ hlt
    have x0 : W.cell? ⟨Bx, 0, none⟩ = some (.int .i64 (at' (lo - 1 - x))) := by simp [World.cell?, bX]
    have x1 : W.cell? ⟨Bx, 1, none⟩ = some (.slice (dO (lo - 1 - x)) (dL (lo - 1 - x)) (dC (lo - 1 - x))) := by simp [World.cell?, bX]
    have i0 := cI.cell
    have hsW := hB.size
    gi_wp2
    · have hat : at' (lo - 1 - x) = i := by simpa using (by assumption : (at' (lo - 1 - x) == (i : Int)) = true)
      refine ⟨trivial, fun h => absurd h (by decide), ?_⟩
      have hrd := hd (lo - 1 - x) (by omega)
      have hrW : RdS (wv W) _ 1 _ _ := hrd.1.mono (fun b o h => ((hB0.trans (hB.mono hB0.size)).block b (lt_of_heap h)).trans h)
      refine (CallsIn.inRound l (callsIn_wide.2 (Clone_new hrW hrd.2))).mono ?_
      rintro e W1 ⟨u, rfl, hB1, ho1⟩
      obtain ⟨ou, pu, rfl⟩ := ho1.form
      have cR1 := boxed_below hB1 cR.lt cR
      have cC1 := boxed_below hB1 cC.lt cC
      have r0 := cR1.cell
      have r0f := cR1.frozen
      have cC2 : Boxed (W1.setCell ⟨w.heap.size + 1, 0, none⟩ (.slice ou (dB (lo - 1 - x)).length pu)) _ _ _ := boxed_other cC1 (by simp)
      have k0 := cC2.cell
      have k0f := cC2.frozen
      gi_wp2
      have hBW := hB0.trans (hB.mono hB0.size)
      refine ⟨(keepsFrom_below hB1).trans (((KeepsOthers.setCell _ _ _).trans (KeepsOthers.setCell _ _ _)).from _), rfl, pre, x, _, rfl, hne, hat, boxed_other (Boxed.set _ cR1) (by simp), cC2.set _,
        ((hBW.trans (hB1.mono (by omega))).setCell (p := ⟨w.heap.size + 1, 0, none⟩) (by simp) _).setCell (p := ⟨w.heap.size + 1 + 1, 0, none⟩) (by simp; omega) _, ow_keep ho1 (by omega) fun g cs T hg hg' => ?_⟩
      exact (Below.heap_setCell _ _ _ g (by simp; omega)).trans ((Below.heap_setCell _ _ _ g (by simp; omega)).trans hg')
    · have hat : ¬ at' (lo - 1 - x) = i := by simpa using (by assumption : (at' (lo - 1 - x) == (i : Int)) = false)
      refine ⟨KeepsFrom.refl _ _, Below.refl _ _, ⟨cI, cR, cC⟩, fun k hk => ?_, hB⟩
      rcases List.mem_append.1 hk with hk | hk
      · exact hne k hk
      · have : k = x := by simpa using hk
        rw [this]; exact hat
  case done =>
    rintro D ys W hD rfl ⟨⟨cI, cR, cC⟩, hne, hB⟩ hK
    have hBW := hB0.trans (hB.mono hB0.size)
    gi_wp2
    obtain ⟨FF, hFF⟩ : ∃ FF : Value → Value → World → Prop, FF = fun p q W' => p = .pointer (some ⟨w.heap.size + 1, 0, none⟩) ∧ q = .pointer (some ⟨w.heap.size + 1 + 1, 0, none⟩) ∧ ∃ v, Boxed W' (w.heap.size + 1) 30 v ∧ Boxed W' (w.heap.size + 1 + 1) 27 (.int .i64 0) ∧ Below w.heap.size w W' ∧ W'.heap[D]? = some (.deferred (some [])) ∧ OwS (vN W0.heap.size W') v 5 1 lB.length (bvs lB) := ⟨_, rfl⟩
    refine wpIn_wide.2 (wpC_sound (A := []) (Df := [{ target := .collected D, args := #[] }]) (N := 47) okN mixed _ (fun g' W' => FF (g' 4) (g' 5) W') [] (fun _ _ => False) _ _ _ _ (by kernel_rfl) (rel_of (by rfl) _) ?kn (fun _ _ _ _ _ h => h.elim) (fun _ _ _ _ h => h.elim) ?vc)
    case kn =>
      intro a' g' W' hrel hF
      rw [hFF] at hF
      obtain ⟨h4, h5, v, cR, cC, hB, hK, ho⟩ := hF
      gi_wp2
      have hkp := fun g cs T (hg : W'.heap[g]? = some (.cells cs T (0, 0))) => keep_putObj (o' := .deferred none) hK rfl g cs T hg
      show LeavesInM _ _ _ _ a'.tmps _ a'.defers .returning W'
      rw [hrel.defers]
      refine ⟨by simp, .inl ⟨_, _, rfl, run_takeDeferred hK, ?_⟩⟩
      refine ⟨_, read_results (rel_at hrel (by decide) h4) (rel_at hrel (by decide) h5) (Boxed.cell (hkp _ _ _ cR)) (Boxed.cell (hkp _ _ _ cC)), _, rfl, hB.trans (belowK_b (w := w) (Nat.le_refl _) W' D _ _ (by omega) hK rfl rfl), .inr ⟨fun k hk => ?_, ow_keep ho (by omega) fun g cs T _ hg => hkp g cs T hg⟩⟩
      have := hne (lo - 1 - k) (List.mem_range.2 (by omega))
      rwa [show lo - 1 - (lo - 1 - k) = k by omega] at this
    case vc =>
      refine cast (?e : (DrewC W fun w1 => LoadC w1 ((⟨db, 0, none⟩ : Addr).add 0) fun v42 => TSl v42 fun o42 l42 c42 => LoadC w1 (⟨w.heap.size, 0, none⟩ : Addr) fun v43 => TInt .i64 v43 fun n43 => Req (bnd n43 l42) <| TSome o42 fun a44 => LoadC w1 (a44.add (n43.toNat * 1)) fun v45 => TSl v45 fun o45 l45 c45 => CallV Try.prog 27 #[.slice o45 l45 c45] w1 fun v46 w2 => TSl v46 fun o46 l46 c46 => StoreC w2 (⟨w.heap.size + 1, 0, none⟩ : Addr) (.slice o46 l46 c46) fun w3 => StoreC w3 (⟨w.heap.size + 1 + 1, 0, none⟩ : Addr) (.int .i64 (0 : Int)) fun w4 => FF (.pointer (some ⟨w.heap.size + 1, 0, none⟩)) (.pointer (some ⟨w.heap.size + 1 + 1, 0, none⟩)) w4) = _) ?h
      case e => kernel_rfl
      case h =>
        refine LoadC.mk (v := .slice (some ⟨bl, ofl, none⟩) ll cl) ((hBW.drew.cell (p := ⟨db, 0, none⟩) hdb).trans h0) (TSl.mk ?_)
        refine LoadC.mk (v := .int .i64 i) cI.cell (TInt.mk ?_)
        refine Req.bnd ⟨by omega, by omega⟩ (TSome.mk ?_)
        rw [Int.toNat_natCast, Nat.mul_one, addr_add]
        refine LoadC.mk (v := .slice eo lB.length ec) ((hBW.drew.cell (p := ⟨bl, ofl + i, none⟩) hbl).trans he) (TSl.mk ?_)
        have hrW : RdS (wv W.drew) _ 1 _ _ := hle.mono (fun b o h => (hBW.block b (lt_of_heap h)).trans h)
        refine Calls.mono (Clone_new hrW hll) ?_
        rintro e W1 ⟨u, rfl, hB1, ho1⟩
        obtain ⟨ou, pu, rfl⟩ := ho1.form
        have hB1 : Below W.heap.size W W1 := (Below.refl _ W).drew.trans hB1
        have hsW := hB.size
        have cR1 := boxed_below hB1 cR.lt cR
        have cC1 := boxed_below hB1 cC.lt cC
        have cC2 : Boxed (W1.setCell ⟨w.heap.size + 1, 0, none⟩ (.slice ou lB.length pu)) _ _ _ := boxed_other cC1 (by simp)
        refine ⟨_, rfl, TSl.mk ⟨⟨by rw [cR1.cell]; rfl, cR1.frozen⟩, ⟨by rw [cC2.cell]; rfl, cC2.frozen⟩, ?_⟩⟩
        rw [hFF]
        refine ⟨rfl, rfl, _, boxed_other (Boxed.set _ cR1) (by simp), cC2.set _, ((hBW.trans (hB1.mono (by omega))).setCell (p := ⟨w.heap.size + 1, 0, none⟩) (by simp) _).setCell (p := ⟨w.heap.size + 1 + 1, 0, none⟩) (by simp; omega) _, ?_, ow_keep ho1 (by show _ ≤ W.heap.size; omega) fun g cs T hg hg' => ?_⟩
        · exact (Below.heap_setCell _ _ _ D (by simp; omega)).trans ((Below.heap_setCell _ _ _ D (by simp; omega)).trans ((hB1.block D (lt_of_heap hK)).trans hK))
        · have hg : W.heap.size ≤ g := hg
          exact (Below.heap_setCell _ _ _ g (by simp; omega)).trans ((Below.heap_setCell _ _ _ g (by simp; omega)).trans hg')
  case stop =>
    rintro D c pre W hD ⟨k, hk, rfl⟩ ⟨rfl, ini, k', v, e1, hne, hat, cR, cC, hB, ho⟩ hK
    obtain ⟨ov, pv, rfl⟩ := ho.form
    gi_wp2
    have hkp := fun g cs T (hg : W.heap[g]? = some (.cells cs T (0, 0))) => keep_putObj (o' := .deferred none) hK rfl g cs T hg
    refine ⟨by simp, .inl ⟨_, _, rfl, run_takeDeferred hK, ?_⟩⟩
    refine ⟨_, read_results rfl rfl (Boxed.cell (hkp _ _ _ cR)) (Boxed.cell (hkp _ _ _ cC)), _, rfl, hB.trans (belowK_b (w := w) (Nat.le_refl _) W D _ _ (by omega) hK rfl rfl), .inl ⟨lo - 1 - k', ?_, hat, ?_, ow_keep ho (by omega) fun g cs T _ hg => hkp g cs T hg⟩⟩
    · omega
    · intro m h1 h2
      rw [List.range_succ] at e1
      obtain ⟨rfl, e5⟩ := List.append_inj' e1 rfl
      obtain rfl : k = k' := by simpa using e5
      have := hne (lo - 1 - m) (List.mem_range.2 (by omega))
      rwa [show lo - 1 - (lo - 1 - m) = m by omega] at this

/-- Disk.Read, where nothing is read -/
theorem read_not (c : Nat → Nat) (j : Nat) {db : Nat} {i : Int} {ol : Option Addr} {ll cl : Nat} {v1 v2 : Value} {down : Bool} {T : Nat} {w : World} {R : Value → World → Prop}
    (hd : w.heap[db]? = some (.cells #[.slice ol ll cl, v1, v2, .bool down] T (0, 0))) (hx : down = true ∨ ¬ (0 ≤ i ∧ i < ll))
    (h : ∀ c' w', Step c [] [j] w c' w' → R (.tuple #[.slice none 0 0, .int .i64 (if down then 3 else 2)]) w') : CallV Try.prog 15 #[.pointer (some ⟨db, 0, none⟩), .int .i64 i] w R := by
  have S := Fr.start w
  have D : view (fun _ => 0) 0 w db = some (.cells #[.slice ol ll cl, v1, v2, .bool down] T (0, 0)) := by rw [view0]; exact hd
  refine disk_Disk_Read_vc ?_
  unfold disk_Disk_Read_VC
  refine AllocC.col (fun _ => 0) 1 fun a3 c1 w1 st1 b3 _ => ?_
  replace S := S.go st1.step (by decide) (by decide)
  replace D := st1.step.sub (by decide) _ _ D
  refine AllocC.col c1 2 fun a4 c2 w2 st2 b4 _ => ?_
  replace S := S.go st2.step (by decide) (by decide); replace b3 := st2.step.sub (by decide) _ _ b3
  replace D := st2.step.sub (by decide) _ _ D
  refine AllocC.col c2 3 fun a5 c3 w3 st3 b5 _ => ?_
  replace S := S.go st3.step (by decide) (by decide); replace b3 := st3.step.sub (by decide) _ _ b3; replace b4 := st3.step.sub (by decide) _ _ b4
  replace D := st3.step.sub (by decide) _ _ D
  refine LoadC.ad (view_sub _ _ _) _ D rfl (TBool.mk ?_)
  refine BS.mk (fun hb => ?_) (fun hb => ?_)
  · subst hb
    refine StoreC.col b4 (by decide) fun w4 st4' st4 b4 => ?_
    replace S := S.go st4 (by decide) (by decide); replace b5 := st4.sub (by decide) _ _ b5
    refine StoreC.col b5 (by decide) fun w5 st5' st5 b5 => ?_
    replace S := S.go st5 (by decide) (by decide); replace b4 := st5.sub (by decide) _ _ b4
    refine LoadC.at (view_sub _ _ _) b4 rfl (TSl.mk (LoadC.at (view_sub _ _ _) b5 rfl (TInt.mk ?_)))
    exact h _ _ (S.leave c j)
  · subst hb
    have hx : ¬ (0 ≤ i ∧ i < ll) := by simpa using hx
    have far : ∀ {w6}, Fr w c3 w6 → view c3 2 w6 a4 = some (.cells #[.slice none 0 0] 30 (0, 0)) → view c3 3 w6 a5 = some (.cells #[.int .i64 0] 27 (0, 0)) → disk_Disk_Read_K1 ⟨db, 0, none⟩ ⟨a4, 0, none⟩ ⟨a5, 0, none⟩ true w6 R := fun S b4 b5 => by
      unfold disk_Disk_Read_K1
      refine BS.yes rfl ?_
      refine StoreC.col b4 (by decide) fun w4 st4' st4 b4 => ?_
      replace S := S.go st4 (by decide) (by decide); replace b5 := st4.sub (by decide) _ _ b5
      refine StoreC.col b5 (by decide) fun w5 st5' st5 b5 => ?_
      replace S := S.go st5 (by decide) (by decide); replace b4 := st5.sub (by decide) _ _ b4
      refine LoadC.at (view_sub _ _ _) b4 rfl (TSl.mk (LoadC.at (view_sub _ _ _) b5 rfl (TInt.mk ?_)))
      exact h _ _ (S.leave c j)
    refine DrewC.col c3 fun w6 st6 => ?_
    replace S := S.go st6 (by decide) (by decide); replace b3 := st6.sub (by decide) _ _ b3; replace b4 := st6.sub (by decide) _ _ b4; replace b5 := st6.sub (by decide) _ _ b5
    replace D := st6.sub (by decide) _ _ D
    refine LoadC.at (view_sub _ _ _) b3 rfl (TInt.mk ?_)
    refine BS.dec (fun hneg => far S b4 b5) (fun hpos => ?_)
    refine LoadC.at (view_sub _ _ _) b3 rfl (TInt.mk ?_)
    refine LoadC.ad (view_sub _ _ _) _ D rfl (TSl.mk ?_)
    rw [decide_eq_true (show (i : Int) ≥ ((ll : Nat) : Int) by omega)]
    exact far S b4 b5
end Go.Proofs.Yteliekblhcbmgaa

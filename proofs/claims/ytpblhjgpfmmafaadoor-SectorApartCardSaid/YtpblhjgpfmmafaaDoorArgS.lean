/-
  What the laid package-level variables tell, and a world in which they lie so.
-/
import Derived.Test.YtpblhjgpfmmafaaDoorSha1
import Derived.Test.YtpblhjgpfmmafaaDoorArgs2
import Derived.Test.YtpblhjgpfmmafaaDoorRows
import Derived.Test.YtpblhjgpfmmafaaDoorTie
import Derived.Test.YtpblhjgpfmmafaaDoorCards
import Derived.LaidLaws
import Derived.MakeChecks
import Derived.SevenTiedAt
set_option linter.unusedVariables false
set_option linter.unusedSimpArgs false
namespace Go.Vc
open Go Go.ChangeShapes Go.WideShapes Go.ChangeAt Go.RowKit
def u32Data {H : Type} (l : List Int) : DataW H := .agg (l.map fun x => .lit (.int .u32 x))
theorem words_of_trod {P : Program} {w : World} {base n : Nat} {sp : Nat → Bool} {held : Bool} {fuel : Nat} {t e : TypeId} {cs : List Value} {l : List Int} {ps : List MemPlace} (ht : P.underlying t = some (.array n e)) (he : P.underlying e = some (.int .u32))
    (hc : P.cellsOf e = 1) (hn : l.length = n) (hct : P.cellsOf t = n) (h : DataW.trod (fun _ => ()) P w base sp held fuel t cs = some (u32Data l, ps)) : cs = uvs l := by
  obtain ⟨xs, m, _, hx, hl, hxl, hr⟩ := DataW.trod_array ht h
  rw [hc] at hr
  simp only [u32Data, Prod.mk.injEq, DataW.agg.injEq] at hx
  obtain ⟨hx, _⟩ := hx
  apply List.ext_getElem?
  intro i
  rw [uvs_get]
  rcases Nat.lt_or_ge i n with hi | hi
  · have h1 := hr i hi
    rw [List.getElem?_eq_getElem (by omega)] at h1
    obtain ⟨x, e1, e2, _⟩ := DataW.trod_int he h1
    have h2 := congrArg (fun l : List (DataW Unit) => l[i]?) hx
    simp only [List.getElem?_map] at h2
    rw [List.getElem?_eq_getElem (show i < xs.length by omega), e2] at h2
    have h3 := congrArg (fun l : List Value => l[0]?) e1
    simp only [List.getElem?_take, List.getElem?_drop] at h3
    simp at h3
    rw [h3]
    cases hli : l[i]? with
    | none => rw [hli] at h2; simp at h2
    | some y => rw [hli] at h2; simp at h2; simp [h2, uv]
  · rw [List.getElem?_eq_none (by omega), List.getElem?_eq_none (by omega)]; rfl
theorem heap_of_var {P : Program} {w : World} {n : String} {g : Nat} {cs : Array Value} (hg : P.globalNamed n = some g) (h : w.var? P n = some cs) : ∃ T fz, w.heap[g]? = some (.cells cs T fz) := by
  unfold World.var? at h
  rw [hg] at h
  simp only [Option.bind_some] at h
  split at h
  · rename_i c T fz hh
    cases h
    exact ⟨T, fz, hh⟩
  · cases h
theorem no_standins {P : Program} {ts : Array TypeId} (h : ts.all (fun t => !P.wantsStandIn t) = true) : ∀ (j : Nat) t, ts[j]? = some t → P.wantsStandIn t = false := fun j t ht => by
  have := Array.all_eq_true_iff_forall_mem.1 h t (Array.mem_of_getElem? ht)
  simpa using this
end Go.Vc
namespace Go.Proofs.YtpblhjgpfmmafaaDoor
open Go.Vc Go.ChangeShapes Go.WideShapes Go.ChangeAt Go.RowKit
abbrev laidS : List (String × DataW Unit) := [("trireme/sha.rounds", Rows.laid_trireme_sha_rounds), ("trireme/sha.start", Rows.laid_trireme_sha_start)]
theorem glob_of_laid {W : World} (h : laidMetH Tryd.prog laidS W) : GlobS (wv W) := by
  rw [Go.MakeChecks.laidMetH_plain _ _ _ (by kernel_rfl)] at h
  obtain ⟨ps, ⟨g, t, cs, fuel, p, q, hg, ht, hv, hd, ⟨g2, t2, cs2, fuel2, p2, q2, hg2, ht2, hv2, hd2, _⟩, _⟩, _⟩ := h
  obtain rfl := Option.some.inj ((show Tryd.prog.globalNamed "trireme/sha.rounds" = some 1 by kernel_rfl).symm.trans hg)
  obtain rfl := Option.some.inj ((show (Tryd.prog.globals[1]?).map (·.type) = some 55 by kernel_rfl).symm.trans ht)
  obtain rfl := Option.some.inj ((show Tryd.prog.globalNamed "trireme/sha.start" = some 0 by kernel_rfl).symm.trans hg2)
  obtain rfl := Option.some.inj ((show (Tryd.prog.globals[0]?).map (·.type) = some 57 by kernel_rfl).symm.trans ht2)
  have e1 := words_of_trod (n := 64) (l := K32) Tryd.underlying55 Tryd.underlying54 (by kernel_rfl) rfl (by kernel_rfl) hd
  have e2 := words_of_trod (n := 8) (l := H32) Tryd.underlying57 Tryd.underlying54 (by kernel_rfl) rfl (by kernel_rfl) hd2
  obtain ⟨T, fz, h1⟩ := heap_of_var hg hv
  obtain ⟨T2, fz2, h2⟩ := heap_of_var hg2 hv2
  refine ⟨⟨T, fz, ?_⟩, T2, fz2, ?_⟩
  · rw [← e1]; simpa [wv] using h1
  · rw [← e2]; simpa [wv] using h2
/-- a world that meets the condition -/
noncomputable def laidWorld (os : Os) : World :=
  let w0 := World.holding Tryd.prog os ⟨#[], #[], []⟩
  { w0 with heap := (w0.heap.modify 1 fun
      | .cells _ t frozen => .cells (uvs K32).toArray t frozen
      | o => o).modify 0 fun
      | .cells _ t frozen => .cells (uvs H32).toArray t frozen
      | o => o }
theorem laidWorld_met (os : Os) (args : Array Value) : laidMetH Tryd.prog laidS ((laidWorld os).forCall (fun _ _ => 0) ⟨#[], args, []⟩).memory := by
  rw [Go.MakeChecks.laidMetH_plain _ _ _ (by kernel_rfl)]
  exact laidMet_of_run' 8 (by kernel_rfl) (by kernel_rfl)
end Go.Proofs.YtpblhjgpfmmafaaDoor

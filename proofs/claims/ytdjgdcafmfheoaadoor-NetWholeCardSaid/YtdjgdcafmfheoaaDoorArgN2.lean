/-
  How rows of integers are read as arguments (nets).
-/
import Derived.Test.YtdjgdcafmfheoaaDoorWalkNet3
set_option linter.unusedVariables false
set_option linter.unusedSimpArgs false
namespace Go.Vc
open Go Go.ChangeShapes Go.WideShapes Go.ChangeAt Go.RowKit
section
variable {P : Program}
theorem tp_ints {t e : TypeId} (ht : P.underlying t = some (.slice e)) (he : P.underlying e = some (.int .i64)) (hz : P.cellsOf e = 1) :
    TP P t fun W cs => ∃ v l, cs = [v] ∧ RdS (wv W) v 1 l.length (jvs l) := fun H enc W fuel cs x h => by
  obtain ⟨v, n, xs, e, hn, hr, hq⟩ := tp_slice ht hz (by omega) (tp_int he) H enc W fuel cs x h
  have hlen : xs.length = n := by obtain ⟨_, _, _, _, hl, _⟩ := hr; simpa using hl
  obtain ⟨l, rfl, hl, hp⟩ := map_of (f := jv) (P := fun _ => True) hlen fun i hi => by
    obtain ⟨k, e, _, _⟩ := hq i hi
    exact ⟨k, e, trivial⟩
  exact ⟨v, l, e, by rw [hl]; exact hr⟩
end
end Go.Vc
namespace Go.Proofs.YtdjgdcafmfheoaaDoor
open Go.Vc Go.ChangeShapes Go.WideShapes Go.ChangeAt Go.RowKit
attribute [local irreducible] TInt TBool TStr TPtr TSl TAgg TMap TChan T2 T3 T4 BS Req TSome TCell TByte LoadC LoadA StoreC AllocC RunV RunU CallV ExtV EqA StableC StableA StableV TCells ReadV
attribute [local irreducible] eU eT eE
theorem tp_msgs : TP Tryd.prog 56 fun W cs => ∃ v l, cs = [v] ∧ LsV MsgP 53 (wv W) v l ∧ l.length ≤ maxLen :=
  tp_list (Q := MsgP) (z := 53) Tryd.underlying56 (by kernel_rfl) (by omega) tp_msg
end Go.Proofs.YtdjgdcafmfheoaaDoor

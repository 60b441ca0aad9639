/-
  slices.Backward over writes: the function that it hands back.
-/
import Derived.RangeFuncNested
import Derived.RangeFuncBound
import Derived.RangeFuncCalls
import Derived.RangeFuncBox
import Derived.RangeFuncLeaves
import Derived.Shelf.Abstract
import Derived.Shelf.RegionOpen
import Derived.WalkKit
import Derived.OwnWalkIn
import Derived.TacticsInMore
import Derived.LoopNIn
import Derived.LoopIn
import Derived.Deep.MidRow
import Derived.Test.YteliekblhcbmgaaProg
namespace Go.Proofs.Yteliekblhcbmgaa
open Go.RowKit Go.Shelf
attribute [local go_sem] Oper.semAt_some

set_option maxRecDepth 100000 in
set_option maxHeartbeats 2000000 in
theorem back_in (l Bs len cap : Nat) (o : Option Addr) (b off : Nat) (ho : 0 < len → o = some ⟨b, off, none⟩) (n : Nat) (hn : 1 ≤ n) (hreach : len ≤ 1000000) (at' : Nat → Int) (dv : Nat → Value) (J : Nat → World → Prop) (Jx : World → Prop)
    (hmem : ∀ k W, J k W → W.cell? ⟨Bs, 0, none⟩ = some (.slice o len cap) ∧ ∀ j, j < len → W.cell? ⟨b, off + j * 2, none⟩ = some (.int .i64 (at' j)) ∧ W.cell? ⟨b, off + j * 2 + 1, none⟩ = some (dv j))
    (hY : ∀ k W, J k W → k < len → YieldAt Fence.wide (n - 1) Try.prog l #[.int .i64 ((len - 1 - k : Nat) : Int), .agg #[.int .i64 (at' (len - 1 - k)), dv (len - 1 - k)]] W fun e W' =>
      (e = .returned (.bool true) ∧ J (k + 1) W') ∨ (e = .returned (.bool false) ∧ Jx W'))
    (W : World) (h0 : J 0 W) :
    CallsIn Fence.wide n Try.prog 32 #[.func (.yield l) #[] #[], .pointer (some ⟨Bs, 0, none⟩)] W fun e W' => (∃ v, e = .returned v) ∧ (J len W' ∨ Jx W') := by
  refine callsIn_of_wp Try.func32 rfl trivial ?_ rfl
  obtain ⟨hBs, _⟩ := hmem 0 W h0
  simp only [Try.ntmps32, List.size_toArray, List.length_cons, List.length_nil, Nat.reduceAdd, Nat.reduceSub, Array.replicate_succ, Array.replicate_zero, List.push_toArray, List.append_toArray, List.nil_append, List.cons_append]
  gi_wp2
  gi_loopw [3] (fun i wr => ∃ k : Nat, k ≤ len ∧ i = .int .i64 ((len : Int) - 1 - k) ∧ J k wr)
    (fun i _ => (intOf i + 1).toNat)
  case atStart => exact ⟨0, Nat.zero_le _, by simp, h0⟩
  case round =>
    obtain ⟨k, hk, rfl, hJ⟩ := hrel
    obtain ⟨hBs', hel⟩ := hmem k wr hJ
    by_cases hlt : k < len
    · have hoo := ho (by omega)
      subst hoo
      obtain ⟨fn, tmps, assign, body, hy, hR⟩ := hY k wr hJ hlt
      obtain ⟨hc0, hc1⟩ := hel (len - 1 - k) (by omega)
      have e0 : ((len - 1 - k : Nat) : Int) = (len : Int) - 1 - k := by omega
      rw [e0] at hy
      gi_wp2
      refine hR.mono ?_
      rintro e W3 (⟨rfl, hJ3⟩ | ⟨rfl, hJx3⟩)
      · gi_wp2
        go_roundw
        case rel => exact ⟨k + 1, by omega, by simp; omega, hJ3⟩
        case measure => simp [intOf]; omega
      · gi_wp2
        refine bodyPost_ret (results_none rfl _ _ _) rfl ?_
        exact ⟨⟨_, rfl⟩, .inr hJx3⟩
    · obtain rfl : k = len := by omega
      gi_wp2
      go_end0
      exact ⟨⟨_, rfl⟩, .inl hJ⟩

set_option maxHeartbeats 1000000 in
/-- slices.Backward: the slice is boxed, the function value captures the box -/
theorem back_fn (n : Nat) (o : Option Addr) (len cap : Nat) (w : World) :
    CallsIn Fence.wide n Try.prog 28 #[.slice o len cap] w fun e w' => e = .returned (.func (.func 32) #[] #[.pointer (some ⟨w.heap.size, 0, none⟩)]) ∧ w' = w.alloc (.cells #[.slice o len cap] 54) := by
  refine callsIn_of_wp Try.func28 rfl trivial ?_ rfl
  simp only [Try.ntmps28, List.size_toArray, List.length_cons, List.length_nil, Nat.reduceAdd, Nat.reduceSub, Array.replicate_succ, Array.replicate_zero, List.push_toArray, List.append_toArray, List.nil_append, List.cons_append]
  gi_wp2
  go_ret
  exact ⟨rfl, rfl⟩

/-- the writes, from the last to the first -/
def bEnc (len : Nat) (at' : Nat → Int) (dv : Nat → Value) (k : Nat) : Array Value := #[.int .i64 ((len - 1 - k : Nat) : Int), .agg #[.int .i64 (at' (len - 1 - k)), dv (len - 1 - k)]]
theorem back_stops (n : Nat) (hn : 1 ≤ n) (Bs n₀ len cap : Nat) (o : Option Addr) (b off : Nat) (ho : 0 < len → o = some ⟨b, off, none⟩) (hb : 0 < len → b < n₀) (hreach : len ≤ 1000000) (at' : Nat → Int) (dv : Nat → Value) (w : World) (hBs : Bs < w.heap.size) (hn₀ : n₀ ≤ w.heap.size)
    (hc : w.cell? ⟨Bs, 0, none⟩ = some (.slice o len cap)) (hBs0 : n₀ ≤ Bs)
    (hm : ∀ j, j < len → w.cell? ⟨b, off + j * 2, none⟩ = some (.int .i64 (at' j)) ∧ w.cell? ⟨b, off + j * 2 + 1, none⟩ = some (dv j)) :
    SeqStopsK Fence.wide n Try.prog 32 #[.pointer (some ⟨Bs, 0, none⟩)] (bEnc len at' dv) (Below (Bs + 1)) (fun ys => ys = List.range len) (fun pre => ∃ k, k < len ∧ pre = List.range (k + 1)) len w := fun l J Jx W hW _ _ hY h0 => by
  have hBsl : Bs + 1 ≤ w.heap.size := by omega
  have hWB : Below (Bs + 1) w W := hW.mono hBsl
  refine (back_in l Bs len cap o b off ho n hn hreach at' dv (fun k W' => J (List.range k) W' ∧ Below (Bs + 1) w W') (fun W' => ∃ k, k < len ∧ Jx (List.range (k + 1)) W')
    (fun k W' hJ => ⟨(hJ.2.cell (p := ⟨Bs, 0, none⟩) (by simp)).trans hc, fun j hj => ⟨(hJ.2.cell (p := ⟨b, off + j * 2, none⟩) (by have := hb (by omega); simp; omega)).trans (hm j hj).1, (hJ.2.cell (p := ⟨b, off + j * 2 + 1, none⟩) (by have := hb (by omega); simp; omega)).trans (hm j hj).2⟩⟩)
    (fun k W' hJ hk => ?_) W ⟨h0, hWB⟩).mono ?_
  · refine YieldAt.mono (hY (List.range k) k W' hJ.1 (by simpa using hk)) ?_
    rintro e W3 (⟨rfl, hJ3, hk3⟩ | ⟨rfl, hx⟩)
    · exact .inl ⟨rfl, by rw [List.range_succ]; exact hJ3, hJ.2.trans hk3⟩
    · exact .inr ⟨rfl, k, hk, by rw [List.range_succ]; exact hx⟩
  · rintro e W' ⟨he, hj | ⟨k, hk, hx⟩⟩
    · exact ⟨he, .inl ⟨_, rfl, hj.1⟩⟩
    · exact ⟨he, .inr ⟨_, ⟨k, hk, rfl⟩, hx⟩⟩
end Go.Proofs.Yteliekblhcbmgaa

/-
  The frame of the laws on clients and nets; lists of one's own, read.
-/
import Derived.Test.YtdjgdcafmfheoaaDoorWalkWire
set_option linter.unusedVariables false
set_option linter.unusedSimpArgs false
namespace Go.Vc
open Go
/-- what was there has colour 0; a function's own has colours 1 to 9 and 20 to 26 -/
abbrev Fx (w0 : World) (c : Nat → Nat) (w : World) : Prop := Step (fun _ => 0) [1, 2, 3, 4, 5, 6, 7, 8, 9, 20, 21, 22, 23, 24, 25, 26] [0, 1, 2, 3, 4, 5, 6, 7, 8, 9, 20, 21, 22, 23, 24, 25, 26] w0 c w
theorem Fx.start (w : World) : Fx w (fun _ => 0) w := .refl ..
theorem Fx.go {w0 : World} {c c' : Nat → Nat} {w w' : World} {W N : List Nat} (S : Fx w0 c w) (st : Step c W N w c' w') (hW : ∀ x ∈ W, x ∈ [1, 2, 3, 4, 5, 6, 7, 8, 9, 20, 21, 22, 23, 24, 25, 26]) (hN : ∀ x ∈ N, x ∈ [0, 1, 2, 3, 4, 5, 6, 7, 8, 9, 20, 21, 22, 23, 24, 25, 26]) : Fx w0 c' w' :=
  S.trans (st.weak hW hN)
def extc (c0 : Nat → Nat) (n : Nat) (c : Nat → Nat) : Nat → Nat := fun b => if b < n then c0 b else c b
theorem extc_old {c0 c : Nat → Nat} {n b : Nat} (h : b < n) : extc c0 n c b = c0 b := by simp [extc, h]
theorem extc_new {c0 c : Nat → Nat} {n b : Nat} (h : n ≤ b) : extc c0 n c b = c b := by simp [extc, Nat.not_lt.2 h]
theorem Fx.leave {w0 : World} {c : Nat → Nat} {w : World} (S : Fx w0 c w) (c0 : Nat → Nat) : Step c0 [] [0, 1, 2, 3, 4, 5, 6, 7, 8, 9, 20, 21, 22, 23, 24, 25, 26] w0 (extc c0 w0.heap.size c) w :=
  ⟨S.os, S.tape, S.output, S.size, fun b hb => extc_old hb, fun b h1 h2 => by rw [extc_new h1]; exact S.new b h1 h2, fun b hb _ => S.keep b hb (by simp)⟩
theorem Fx.out {w0 : World} {c : Nat → Nat} {w : World} (S : Fx w0 c w) (c0 : Nat → Nat) {k : Nat} (hk : k ≠ 0) : Sub (view c k w) (view (extc c0 w0.heap.size c) k w) := fun b o hb => by
  obtain ⟨hc, ho⟩ := view_out hb
  refine view_in ?_ ho
  rcases Nat.lt_or_ge b w0.heap.size with h | h
  · exact absurd ((S.col b h).symm.trans hc) (fun e => hk e.symm)
  · rw [extc_new h]; exact hc
theorem LsO.map {α : Type} {P Q : View → α → List Value → Prop} {T z : Nat} {h g h' g' : View} {v : Value} {l : List α} (hl : LsO P T z h g v l) (hPQ : ∀ a es, P g a es → Q g' a es) (hs : Sub h h') : LsO Q T z h' g' v l := by
  obtain ⟨xs, hr, hx⟩ := hl
  exact ⟨xs, hr.mono hs, fun i a hi => hPQ _ _ (hx i a hi)⟩
theorem LsO.at' {α : Type} {P : View → α → List Value → Prop} {T z : Nat} (hz : 0 < z) {h g : View} {o : Option Addr} {n c : Nat} {l : List α} (hl : LsO P T z h g (.slice o n c) l) {i : Nat} {a : α} (hi : l[i]? = some a) : ∃ es, P g a es ∧ Elt h o z i es := by
  obtain ⟨xs, hr, hx⟩ := hl
  exact LsV.at (P := fun _ => P g) hz ⟨xs, hr.rd, hx⟩ hi
theorem Elt.ld2 {h : View} {o : Option Addr} {z i : Nat} {es : List Value} (E : Elt h o z i es) (hz : 0 < z) {w : World} (hs : Sub h (Vc.wv w)) {j m : Nat} {u : Value} (hu : es[j + m]? = some u) {K : Value → Prop} (hK : K u) : TSome o fun a => LoadC w (((a.add ((i : Int).toNat * z)).add j).add m) K := by
  obtain ⟨b, off, cs, T, fz, rfl, hb, hc⟩ := E.blk hz
  refine TSome.mk ?_
  rw [addr_add, addr_add, addr_add, Int.toNat_natCast]
  exact LoadC.at hs hb (by rw [show off + i * z + j + m = off + i * z + (j + m) by omega]; exact hc _ _ hu) hK
theorem Elt.ld3 {h : View} {o : Option Addr} {z i : Nat} {es : List Value} (E : Elt h o z i es) (hz : 0 < z) {w : World} (hs : Sub h (Vc.wv w)) {j m n : Nat} {u : Value} (hu : es[j + m + n]? = some u) {K : Value → Prop} (hK : K u) : TSome o fun a => LoadC w ((((a.add ((i : Int).toNat * z)).add j).add m).add n) K := by
  obtain ⟨b, off, cs, T, fz, rfl, hb, hc⟩ := E.blk hz
  refine TSome.mk ?_
  rw [addr_add, addr_add, addr_add, addr_add, Int.toNat_natCast]
  exact LoadC.at hs hb (by rw [show off + i * z + j + m + n = off + i * z + (j + m + n) by omega]; exact hc _ _ hu) hK
end Go.Vc
namespace Go.Proofs.YtdjgdcafmfheoaaDoor
open Go.Vc
attribute [local irreducible] TInt TBool TStr TPtr TSl TAgg TMap TChan T2 T3 T4 BS Req TSome TCell TByte LoadC LoadA StoreC AllocC RunV RunU CallV ExtV EqA StableC StableA StableV TCells ReadV
theorem slMsg : SlT Tryd.prog 56 38 53 296 := .of (by kernel_rfl)
end Go.Proofs.YtdjgdcafmfheoaaDoor

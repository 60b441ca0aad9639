/-
  Reading of a disk, and of the document's.
-/
import Derived.Test.YteliekblhcbmgaaDk1
set_option linter.unusedVariables false
set_option linter.unusedSimpArgs false
namespace Go.Vc
open Go Go.RowKit
def slO (v : Option Value) : Option Addr := match v with | some (.slice o _ _) => o | _ => none
def slL (v : Option Value) : Nat := match v with | some (.slice _ n _) => n | _ => 0
def slC (v : Option Value) : Nat := match v with | some (.slice _ _ c) => c | _ => 0
theorem step_of_below {w w' : World} (h : Below w.heap.size w w') (c : Nat → Nat) (j : Nat) : Step c [] [j] w (ext c w.heap.size j) w' :=
  ⟨h.os, h.tape, h.output, h.size, fun b hb => ext_old hb, fun b h1 _ => by rw [ext_new h1]; simp, fun b hb _ => h.block b hb⟩
theorem vN_ext (c : Nat → Nat) (N j : Nat) (w : World) : Sub (vN N w) (view (ext c N j) j w) := fun b o h => by
  unfold vN at h
  split at h
  · rename_i hb; exact view_in (ext_new hb) h
  · simp at h
/-- an own row's base -/
theorem OwS.at0 {h : View} {o : Option Addr} {l c T z n : Nat} {xs : List Value} (ho : OwS h (.slice o l c) T z n xs) (hn : 0 < n) : ∃ g cur, o = some ⟨g, 0, none⟩ ∧ h g = some (.cells cur T (0, 0)) := by
  rcases ho.2 with ⟨e, h0⟩ | ⟨g, cap, cur, e, hg, _⟩
  · omega
  · cases e; exact ⟨g, cur, rfl, hg⟩
end Go.Vc
namespace Go.Proofs.Yteliekblhcbmgaa
open Go.Vc Go.RowKit
attribute [local irreducible] TInt TBool TStr TPtr TSl TAgg TMap TChan T2 T3 T4 BS Req TSome TCell TByte LoadC LoadA StoreC AllocC RunV RunU CallV ExtV EqA StableC StableA StableV TCells ReadV
attribute [local irreducible] DrewC

theorem dRead_c (c : Nat → Nat) (j : Nat) {k : Nat} {w : World} {a : Addr} {D : DkR} {i : Int} {R : Value → World → Prop} (hd : DkV 56 59 c k w a D) (hok : D.ok) (hn : D.opn.length ≤ 100000)
    (h : ∀ v c' w', Step c [] [j] w c' w' → OwS (view c' j w') v 5 1 (rdK D i).1.length (bvs (rdK D i).1) → R (.tuple #[v, .int .i64 (rdK D i).2]) w') : CallV Try.prog 15 #[.pointer (some a), .int .i64 i] w R := by
  obtain ⟨b, vL, vO, rfl, hb, hL, hO⟩ := hd
  obtain ⟨oL, cL, rfl⟩ := hL.form
  obtain ⟨oO, cO, rfl⟩ := hO.form
  have hbw := view_sub _ _ _ _ _ hb
  by_cases hnot : D.down = true ∨ ¬ (0 ≤ i ∧ i < D.last.length)
  · refine read_not c j (hd := hbw) hnot fun c' w' st => ?_
    have := h (.slice none 0 0) c' w' st
    have e : rdK D i = ([], if D.down then 3 else 2) := by
      unfold rdK
      by_cases hdn : D.down = true
      · rw [if_pos hdn, if_pos hdn]
      · rw [if_neg hdn, if_neg hdn, if_neg (by rcases hnot with h | h; exact absurd h hdn; exact h)]
    rw [e] at this
    exact this (OwS.none_bytes ..)
  have hdn : D.down = false := by
    cases hx : D.down
    · rfl
    · exact absurd (.inl hx) hnot
  have hrg : 0 ≤ i ∧ i < D.last.length := Classical.byContradiction fun hx => hnot (.inr hx)
  obtain ⟨iN, rfl⟩ : ∃ iN : Nat, i = iN := ⟨i.toNat, by omega⟩
  have hiN : iN < D.last.length := by omega
  have er : rdK D iN = (curK D iN, 0) := by
    unfold rdK
    rw [if_neg (by rw [hdn]; simp), if_pos hrg, Int.toNat_natCast]
  obtain ⟨xL, hoL, hxL⟩ := hL
  obtain ⟨xO, hoO, hxO⟩ := hO
  obtain ⟨gL, curL, rfl, hgL⟩ := hoL.at0 (by omega)
  have hgw := view_sub _ _ _ _ _ hgL
  obtain ⟨l, hl⟩ := get_of_lt hiN
  obtain ⟨vE, eE, rE⟩ := hxL iN l hl
  obtain ⟨eo, ec, rfl⟩ := rE.form
  have eE1 : xL[iN]? = some (.slice eo l.length ec) := by
    have := congrArg (fun l : List Value => l[0]?) eE
    have := slot_get (k := 0) this
    simpa using this
  have cellOf : ∀ {b : Nat} {cs : Array Value} {T : Nat} {o : Nat} {u : Value}, w.heap[b]? = some (.cells cs T (0, 0)) → cs[o]? = some u → w.cell? ⟨b, o, none⟩ = some u := fun hb hu => by
    rw [cell_of_row w _ _ _ _ _ hb]; exact hu
  have len512 : ∀ p ∈ D.opn, p.2.length = 512 := fun p hp => (hok.2.1 p hp).2
  have slot : ∀ jj, jj < D.opn.length → ∃ p : Nat × List UInt8, D.opn[jj]? = some p ∧ xO[jj * 2]? = some (.int .i64 (p.1 : Int)) ∧ xO[jj * 2 + 1]? = some (.slice (slO xO[jj * 2 + 1]?) (slL xO[jj * 2 + 1]?) (slC xO[jj * 2 + 1]?)) ∧
      RdS (wv w) (.slice (slO xO[jj * 2 + 1]?) (slL xO[jj * 2 + 1]?) (slC xO[jj * 2 + 1]?)) 1 p.2.length (bvs p.2) := fun jj hj => by
    obtain ⟨p, hp⟩ := get_of_lt hj
    obtain ⟨v, ev, rv⟩ := hxO jj p hp
    obtain ⟨o, q, rfl⟩ := rv.form
    have e0 := slot_get (k := 0) (u := .int .i64 (p.1 : Int)) (by rw [ev]; rfl)
    have e1 := slot_get (k := 1) (u := .slice o p.2.length q) (by rw [ev]; rfl)
    rw [Nat.add_zero] at e0
    refine ⟨p, hp, e0, ?_, ?_⟩
    · rw [e1]; rfl
    · rw [e1]; exact rv.mono (view_sub _ _ _)
  have cellO : ∀ {n : Nat} {u : Value}, xO[n]? = some u → ∃ aO : Addr, oO = some aO ∧ w.cell? (aO.add n) = some u := fun hu => (hoO.rd.mono (view_sub _ _ _)).cell hu
  unfold CallV
  refine callsIn_wide.1 (CallsIn.mono (read_main w 3 (Nat.le_refl _) b iN gL 0 D.last.length cL oO D.opn.length cO ((oO.map (·.block)).getD 0) 0 (fun h0 => ?_) (fun h0 => ?_) (by omega) (fun jj => ((D.opn[jj]?.map (·.1)).getD 0 : Nat)) (fun jj => slO xO[jj * 2 + 1]?) (fun jj => slL xO[jj * 2 + 1]?) (fun jj => slC xO[jj * 2 + 1]?) (fun jj => (D.opn[jj]?.map (·.2)).getD [])
    (cellOf hbw (by rw [← hdn]; rfl)) (cellOf hbw rfl) (cellOf hbw rfl) hiN (lt_of_heap hbw) (fun jj hj => ?_) (fun jj hj => ?_) eo ec l ?_ (lt_of_heap hgw) (rE.mono (view_sub _ _ _)) (by have := hok.1 l (List.mem_of_getElem? hl); omega)) ?_)
  · obtain ⟨g, cur, rfl, _⟩ := hoO.at0 h0; rfl
  · obtain ⟨g, cur, rfl, hg⟩ := hoO.at0 h0; exact lt_of_heap (view_sub _ _ _ _ _ hg)
  · obtain ⟨g, cur, rfl, _⟩ := hoO.at0 (by omega)
    obtain ⟨p, hp, e0, e1, _⟩ := slot jj hj
    obtain ⟨a0, ea0, c0⟩ := cellO e0
    obtain ⟨a1, ea1, c1⟩ := cellO e1
    cases ea0; cases ea1
    rw [addr_add] at c0 c1
    rw [hp]
    exact ⟨c0, by rw [Nat.zero_add] at c1; rw [Nat.zero_add]; exact c1⟩
  · obtain ⟨p, hp, _, _, r⟩ := slot jj hj
    rw [hp]
    exact ⟨r, by show p.2.length ≤ _; have := len512 p (List.mem_of_getElem? hp); omega⟩
  · obtain ⟨aL, eaL, cL1⟩ := (hoL.rd.mono (view_sub _ _ _)).cell eE1
    cases eaL
    rw [addr_add] at cL1
    exact cL1
  · rintro e w' ⟨v, rfl, hB, hres⟩
    refine ⟨_, rfl, ?_⟩
    have := h v _ w' (step_of_below hB c j)
    rw [er] at this
    refine this ?_
    have fin : ∀ {l' : List UInt8}, curK D iN = l' → OwS (vN w.heap.size w') v 5 1 l'.length (bvs l') → OwS (view (ext c w.heap.size j) j w') v 5 1 (curK D iN).length (bvs (curK D iN)) := fun e ho => by
      rw [e]; exact ho.mono (vN_ext c _ j w')
    rcases hres with ⟨jj, hj, hat, haft, ho⟩ | ⟨hne, ho⟩
    · obtain ⟨p, hp⟩ := get_of_lt hj
      rw [hp] at hat ho
      refine fin ?_ ho
      have hp1 : p.1 = iN := by have hat : ((p.1 : Nat) : Int) = iN := hat; omega
      refine upon_at (j := jj) (by rw [hp, ← hp1]; rfl) fun kk q hk hq hqe => ?_
      have := haft kk hk (lt_of_get hq)
      rw [hq] at this
      exact this (by show ((q.1 : Nat) : Int) = iN; omega)
    · refine fin ?_ ho
      have e1 : D.last.getD iN [] = l := by rw [List.getD_eq_getElem?_getD, hl]; rfl
      rw [← e1]
      refine upon_none fun p hp hpe => ?_
      obtain ⟨kk, hk⟩ := List.getElem?_of_mem hp
      have := hne kk (lt_of_get hk)
      rw [hk] at this
      exact this (by show ((p.1 : Nat) : Int) = iN; omega)

theorem mRead_c (c : Nat → Nat) (j : Nat) {k : Nat} {w : World} {a : Addr} {D : DkR} {i : Int} {R : Value → World → Prop} (hd : DkV 66 68 c k w a D) (hok : D.ok) (hn : D.opn.length ≤ 100000)
    (h : ∀ v c' w', Step c [] [j] w c' w' → OwS (view c' j w') v 5 1 (rdK D i).1.length (bvs (rdK D i).1) → R (.tuple #[v, .int .i64 (rdK D i).2]) w') : CallV Try.prog 31 #[.pointer (some a), .int .i64 i] w R := by
  obtain ⟨b, vL, vO, rfl, hb, hL, hO⟩ := hd
  obtain ⟨oL, cL, rfl⟩ := hL.form
  obtain ⟨oO, cO, rfl⟩ := hO.form
  have hB : view (fun _ => 0) 0 w b = some (.cells (dcells (.slice oL D.last.length cL) (.slice oO D.opn.length cO) D) 66 (0, 0)) := by rw [view0]; exact view_sub _ _ _ _ _ hb
  have hL' : LsV BytesP 1 (view (fun _ => 0) 0 w) (.slice oL D.last.length cL) D.last := by rw [view0]; exact hL.rd (fun _ _ hp => hp.mono (view_sub _ _ _)) (view_sub _ _ _)
  have hO' : LsV WrP 2 (view (fun _ => 0) 0 w) (.slice oO D.opn.length cO) D.opn := by rw [view0]; exact hO.rd (fun _ _ hp => hp.mono (view_sub _ _ _)) (view_sub _ _ _)
  clear hb hL hO
  have S := Fr.start w
  have empty : ∀ {n : Int}, rdK D i = ([], n) → AllocC w (.cells #[] 5) fun x w1 => R (.tuple #[.slice (some ⟨x, 0, none⟩) 0 0, .int .i64 n]) w1 := fun he => by
    refine AllocC.col (fun _ => 0) 1 fun x c1 w1 st1 b1 _ => ?_
    replace S := S.go st1.step (by decide) (by decide)
    have := h (.slice (some ⟨x, 0, none⟩) 0 0) _ _ (S.leave c j)
    rw [he] at this
    exact this ((OwS.some_bytes b1).mono (S.out c j (by omega)))
  refine ref01_Disk_Read_vc ?_
  unfold ref01_Disk_Read_VC
  refine LoadC.ad (view_sub _ _ _) _ hB rfl (TBool.mk ?_)
  by_cases hdn : D.down = true
  · exact BS.yes hdn (empty (by unfold rdK; rw [if_pos hdn]))
  refine BS.no (by simpa using hdn) ?_
  have far : ¬ (0 ≤ i ∧ i < D.last.length) → rdK D i = ([], 2) := fun hx => by unfold rdK; rw [if_neg hdn, if_neg hx]
  refine BS.dec (fun hneg => empty (far (by omega))) (fun hpos => ?_)
  refine LoadC.ad (view_sub _ _ _) _ hB rfl (TSl.mk ?_)
  unfold ref01_Disk_Read_K1
  refine BS.dec (fun hge => empty (far (by omega))) (fun hlt => ?_)
  refine LoadC.ad (view_sub _ _ _) _ hB rfl (TSl.mk ?_)
  obtain ⟨iN, rfl⟩ : ∃ iN : Nat, i = iN := ⟨i.toNat, by omega⟩
  have hiN : iN < D.last.length := by omega
  obtain ⟨l, hl⟩ := get_of_lt hiN
  obtain ⟨es, ⟨v, rfl, rv⟩, El⟩ := LsV.at (by omega) hL' hl
  obtain ⟨ov, pv, rfl⟩ := rv.form
  refine Req.bnd ⟨by omega, by omega⟩ (El.ld0 (view_sub _ _ _) rfl (TSl.mk ?_))
  have el : D.last.getD iN [] = l := by rw [List.getD_eq_getElem?_getD, hl]; rfl
  have l512 : ∀ n, (upon iN l (D.opn.take n)).length = 512 := fun n => upon_mem (Q := fun l => l.length = 512) (hok.1 l (List.mem_of_getElem? hl)) fun p hp => (hok.2.1 p (List.mem_of_mem_take hp)).2
  refine LoopSI.up D.opn.length (fun n o m q w' => Fr w (fun _ => 0) w' ∧ view (fun _ => 0) 0 w' b = some (.cells (dcells (.slice oL D.last.length cL) (.slice oO D.opn.length cO) D) 66 (0, 0)) ∧ LsV WrP 2 (view (fun _ => 0) 0 w') (.slice oO D.opn.length cO) D.opn ∧
    RdS (view (fun _ => 0) 0 w') (.slice o m q) 1 (upon iN l (D.opn.take n)).length (bvs (upon iN l (D.opn.take n)))) ⟨S, hB, hO', rv⟩ ?_
  clear S hB hO' hL' rv El empty
  rintro n o m q w2 B hn2 ⟨S, hB, hO', rv⟩ back
  refine LoadC.ad (view_sub _ _ _) _ hB rfl (TSl.mk ?_)
  have w1' : IntKind.wrap .i64 ((n : Int) + 1) = (n : Int) + 1 := wrap_i64 (by omega) (by omega)
  refine BS.dec (fun hlt => ?_) (fun hge => ?_)
  · obtain ⟨p, hp⟩ := get_of_lt (l := D.opn) (i := n) (by omega)
    obtain ⟨es, ⟨v, rfl, rp⟩, Ep⟩ := LsV.at (by omega) hO' hp
    obtain ⟨o2, p2, rfl⟩ := rp.form
    have eu : upon iN l (D.opn.take (n + 1)) = if p.1 = iN then p.2 else upon iN l (D.opn.take n) := by
      rw [List.take_add_one, hp, Option.toList_some, upon_snoc]
    refine LoadC.ad (view_sub _ _ _) _ hB rfl (TSl.mk ?_)
    refine Req.bnd ⟨by omega, by omega⟩ (Ep.ld (view_sub _ _ _) (k := 0) rfl (TInt.mk ?_))
    refine BS.eq (fun he => ?_) (fun hne => ?_)
    · refine LoadC.ad (view_sub _ _ _) _ hB rfl (TSl.mk ?_)
      refine Req.bnd ⟨by omega, by omega⟩ (Ep.ld (view_sub _ _ _) (k := 1) rfl (TSl.mk ?_))
      rw [w1']
      refine back _ _ _ _ (by omega) ⟨S, hB, hO', ?_⟩
      rw [eu, if_pos (by omega)]
      exact rp
    · rw [w1']
      refine back _ _ _ _ (by omega) ⟨S, hB, hO', ?_⟩
      rw [eu, if_neg (by omega)]
      exact rv
  · have : n = D.opn.length := by omega
    subst this
    rw [List.take_length] at rv
    have l5 := l512 D.opn.length
    rw [List.take_length] at l5
    refine AllocC.col (fun _ => 0) 1 fun x c3 w3 st3 b3 _ => ?_
    replace S := S.go st3.step (by decide) (by decide); replace rv := rv.mono (st3.step.sub (by decide))
    have hm := rv.len.1
    refine app_bytes slU8 (OwS.some_bytes b3) (m := upon iN l D.opn) (rv.mono (view_sub _ _ _)) (by simp; omega) fun o4 p4 c4 w4 st4 r4 => TSl.mk ?_
    replace S := S.go st4.step (by decide) (by decide)
    rw [List.nil_append] at r4 ⊢
    have := h (.slice o4 (upon iN l D.opn).length p4) _ _ (S.leave c j)
    have er : rdK D iN = (upon iN l D.opn, 0) := by
      unfold rdK curK
      rw [if_neg hdn, if_pos ⟨by omega, by omega⟩, Int.toNat_natCast, el]
    rw [er] at this
    exact this (r4.mono (S.out c j (by omega)))
end Go.Proofs.Yteliekblhcbmgaa

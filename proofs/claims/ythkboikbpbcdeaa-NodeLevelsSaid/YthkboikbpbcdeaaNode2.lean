/-
  Nodes are written, each function once.
-/
import Derived.Test.YthkboikbpbcdeaaNode1
set_option linter.unusedVariables false
set_option linter.unusedSimpArgs false
namespace Go.Proofs.Ythkboikbpbcdeaa
open Go.Vc
attribute [local irreducible] TInt TBool TStr TPtr TSl TAgg TMap TChan T2 T3 T4 BS Req TSome TCell TByte LoadC LoadA StoreC AllocC RunV RunU CallV ExtV EqA StableC StableA StableV TCells ReadV
attribute [local irreducible] eU eT eE

theorem all_of {es : List Value} (h : ∀ u ∈ es, u.oneCell' = true) : es.toArray.all (·.oneCell') = true := by simpa using h
def NodeR.mild (n : NodeR) : Prop := n.pairs.length ≤ 1000000 ∧ (∀ p ∈ n.pairs, p.1.length ≤ 1000000 ∧ p.2.length ≤ 1000000) ∧ ∀ k ∈ n.kids, k.first.length ≤ 1000000
theorem flat_take {α : Type} (g : α → List UInt8) {as' : List α} {i : Nat} {a : α} (h : as'[i]? = some a) : (as'.take (i + 1)).flatMap g = (as'.take i).flatMap g ++ g a := by
  rw [List.take_add_one, h, Option.toList_some, List.flatMap_append]; simp

theorem node_Write_c (c : Nat → Nat) (j : Nat) {w : World} {n : NodeR} {v u : Value} {R : Value → World → Prop} (hv : NodeV (wv w) n v u) (hm : NodeR.mild n)
    (h : ∀ v c' w', Step c [] [j] w c' w' → OwS (view c' j w') v 5 1 (wrN n).1.length (bvs (wrN n).1) → R (.tuple #[v, .int .i64 (wrN n).2]) w') :
    CallV Try.prog 22 #[.agg (n.cells v u).toArray] w R := by
  obtain ⟨ov, cv, rfl⟩ := LsV.form hv.p
  obtain ⟨ou, cu, rfl⟩ := LsV.form hv.k
  have D : NodeV (view (fun _ => 0) 0 w) n (.slice ov n.pairs.length cv) (.slice ou n.kids.length cu) := by rw [view0]; exact hv
  have S := Fr.start w
  obtain ⟨m1, m2, m3⟩ := hm
  refine node_Write_vc ?_
  unfold node_Write_VC
  refine AllocC.col (fun _ => 0) 1 fun a c1 w1 st1 b1 _ => ?_
  replace S := S.go st1.step (by decide) (by decide); replace D := D.mono (st1.step.sub (by decide))
  refine LoadA.all (view_sub _ _ _) b1 rfl ?_
  refine node_right_c c1 3 (D.mono (view_sub _ _ _)) (by omega) fun b c2 w2 st2 hb => TBool.mk ?_
  replace S := S.go st2 (by decide) (by decide); replace D := D.mono (st2.sub (by decide)); replace b1 := st2.sub (by decide) _ _ b1
  have nilR : ∀ {c' w'} (e : Int), Fr w c' w' → wrN n = ([], e) → R (.tuple #[.slice none 0 0, .int .i64 e]) w' := fun e S he => by
    have := h (.slice none 0 0) _ _ (S.leave c j)
    rw [he] at this
    exact this (OwS.none_bytes ..)
  refine BS.nb (fun hf => nilR 1 S (wrN_no fun hr => by rw [hb.2 hr] at hf; simp at hf)) (fun ht => ?_)
  have hR := hb.1 ht
  obtain ⟨q1, q2, q3⟩ := id hR
  have hp255 : n.pairs.length ≤ 255 ∧ n.kids.length ≤ 4 := by omega
  have long : (¬ ((∀ p ∈ n.pairs, p.1.length < 65536 ∧ p.2.length < 65536) ∧ (∀ k ∈ n.kids, k.first.length < 65536))) → wrN n = ([], 23) := fun hn => wrN_long hR fun hl => hn (NodeR.short hl)
  refine AllocC.col c2 2 fun p c3 w3 st3 b3 _ => ?_
  replace S := S.go st3.step (by decide) (by decide); replace D := D.mono (st3.step.sub (by decide)); replace b1 := st3.step.sub (by decide) _ _ b1
  have P : PenV (view c3 2 w3) ⟨p, 0, none⟩ [] := ⟨p, _, rfl, b3, OwS.nil ..⟩
  (repeat (first | refine TInt.mk ?_ | refine TBool.mk ?_ | refine TStr.mk ?_ | refine TSl.mk ?_ | refine TPtr.mk ?_ | refine TAgg.mk ?_ | refine T2.mk ?_ | refine T3.mk ?_ | refine TSome.mk ?_ | refine LoadC.ad (view_sub _ _ _) _ (by assumption) rfl ?_))
  refine AllocC.col c3 4 fun x c4 w4 st4 b4 _ => ?_
  replace S := S.go st4.step (by decide) (by decide); replace D := D.mono (st4.step.sub (by decide)); replace b1 := st4.step.sub (by decide) _ _ b1; replace P := P.mono (st4.step.sub (by decide))
  have ew : IntKind.wrap .u8 (IntKind.wrap .i64 (((n.pairs.length : Nat) : Int) + ((n.kids.length : Nat) : Int))) = ((byteAt (n.pairs.length + n.kids.length) 0).toNat : Int) := by
    rw [wrap_i64 (by omega) (by omega), wrap_u8_mod, byteAt_toNat]; omega
  have el : IntKind.wrap .u8 n.level = ((byteAt n.level.toNat 0).toNat : Int) := by rw [wrap_u8_mod, byteAt_toNat]; omega
  rw [ew, el] at b4
  have r4 : RdS (view c4 4 w4) (.slice (some ⟨x, 0, none⟩) 3 3) 1 3 (bvs [84, byteAt n.level.toNat 0, byteAt (n.pairs.length + n.kids.length) 0]) := RdS.block b4 rfl (Nat.le_refl _)
  refine Pen_Raw P (r4.mono (view_sub _ _ _)) (by simp) fun c5 w5 st5 P => ?_
  replace S := S.go st5 (by decide) (by decide); replace D := D.mono (st5.sub (by decide)); replace b1 := st5.sub (by decide) _ _ b1
  (repeat (first | refine TInt.mk ?_ | refine TBool.mk ?_ | refine TStr.mk ?_ | refine TSl.mk ?_ | refine TPtr.mk ?_ | refine TAgg.mk ?_ | refine T2.mk ?_ | refine T3.mk ?_ | refine TSome.mk ?_ | refine LoadC.ad (view_sub _ _ _) _ (by assumption) rfl ?_))
  generalize hH : [] ++ [84, byteAt n.level.toNat 0, byteAt (n.pairs.length + n.kids.length) 0] = H at P
  have hHl : H.length = 3 := by rw [← hH]; rfl
  have hE : n.enc = H ++ n.pairs.flatMap pEnc ++ n.kids.flatMap kEnc := by rw [← hH]; unfold NodeR.enc; simp
  refine LoopI.up n.pairs.length (fun i w' => ∃ c', Fr w c' w' ∧ NodeV (view c' 0 w') n (.slice ov n.pairs.length cv) (.slice ou n.kids.length cu) ∧ view c' 1 w' a = some (.cells (n.cells (.slice ov n.pairs.length cv) (.slice ou n.kids.length cu)).toArray 38 (0, 0)) ∧
    PenV (view c' 2 w') ⟨p, 0, none⟩ (H ++ (n.pairs.take i).flatMap pEnc) ∧ ((n.pairs.take i).flatMap pEnc).length ≤ i * 200000) ⟨c5, S, D, b1, by simpa using P, by simp⟩ ?_
  rintro i w6 B hi ⟨c6, S, D, b1, P, hlen⟩ back
  refine BS.dec (fun hlt => ?_) (fun hge => ?_)
  · obtain ⟨y, hy⟩ := get_of_lt (l := n.pairs) (i := i) (by omega)
    have hmem := List.mem_of_getElem? hy
    have hyb := m2 y hmem
    obtain ⟨es, ⟨vk, vv, rfl, r1, r2⟩, E⟩ := LsV.at (by omega) D.p hy
    obtain ⟨o1, p1, rfl⟩ := r1.form
    obtain ⟨o2, p2, rfl⟩ := r2.form
    refine Req.bnd ⟨by omega, by omega⟩ (E.all (view_sub _ _ _) ?_)
    refine AllocC.col c6 5 fun z c7 w7 st7 b7 _ => ?_
    replace S := S.go st7.step (by decide) (by decide); replace D := D.mono (st7.step.sub (by decide)); replace b1 := st7.step.sub (by decide) _ _ b1; replace P := P.mono (st7.step.sub (by decide)); replace r1 := r1.mono (st7.step.sub (by decide)); replace r2 := r2.mono (st7.step.sub (by decide))
    refine RunU.var b7 (by kernel_rfl) rfl (by first | (simp [Value.oneCell']; done) | (simp [Value.oneCell', OpR.cells, sv]; done) | (simp [Value.oneCell', AnsR.cells, sv]; done) | rfl) fun w8 st8 b7 => ?_
    replace S := S.go st8.step (by decide) (by decide); replace D := D.mono (st8.step.sub (by decide)); replace b1 := st8.step.sub (by decide) _ _ b1; replace P := P.mono (st8.step.sub (by decide)); replace r1 := r1.mono (st8.step.sub (by decide)); replace r2 := r2.mono (st8.step.sub (by decide))
    (repeat (first | refine TInt.mk ?_ | refine TBool.mk ?_ | refine TStr.mk ?_ | refine TSl.mk ?_ | refine TPtr.mk ?_ | refine TAgg.mk ?_ | refine T2.mk ?_ | refine T3.mk ?_ | refine TSome.mk ?_ | refine LoadC.ad (view_sub _ _ _) _ (by assumption) rfl ?_))
    refine Pen_Text P (r1.mono (view_sub _ _ _)) ⟨0, by omega, r1⟩ (by rw [List.length_append]; omega) (fun hbad => ?_) (fun hs1 c9 w9 st9 P => ?_)
    · refine TInt.mk (BS.ne (fun _ => nilR 23 S (long fun hh => hbad (hh.1 y hmem).1)) (fun e => by simp at e))
    replace S := S.go st9 (by decide) (by decide); replace D := D.mono (st9.sub (by decide)); replace b1 := st9.sub (by decide) _ _ b1; replace b7 := st9.sub (by decide) _ _ b7; replace r2 := r2.mono (st9.sub (by decide))
    refine TInt.mk (BS.ne (fun e => absurd rfl e) (fun _ => ?_))
    (repeat (first | refine TInt.mk ?_ | refine TBool.mk ?_ | refine TStr.mk ?_ | refine TSl.mk ?_ | refine TPtr.mk ?_ | refine TAgg.mk ?_ | refine T2.mk ?_ | refine T3.mk ?_ | refine TSome.mk ?_ | refine LoadC.ad (view_sub _ _ _) _ (by assumption) rfl ?_))
    refine Pen_Text P (r2.mono (view_sub _ _ _)) ⟨0, by omega, r2⟩ (by simp only [List.length_append, be_length]; omega) (fun hbad => ?_) (fun hs2 c10 w10 st10 P => ?_)
    · refine TInt.mk (BS.ne (fun _ => nilR 23 S (long fun hh => hbad (hh.1 y hmem).2)) (fun e => by simp at e))
    replace S := S.go st10 (by decide) (by decide); replace D := D.mono (st10.sub (by decide)); replace b1 := st10.sub (by decide) _ _ b1
    refine TInt.mk (BS.ne (fun e => absurd rfl e) (fun _ => ?_))
    rw [wrap_i64 (by omega) (by omega)]
    refine back _ (by omega) ⟨c10, S, D, b1, ?_, ?_⟩
    · rw [flat_take pEnc hy]
      unfold pEnc txt at *
      simpa using P
    · rw [flat_take pEnc hy]; simp only [pEnc, List.length_append, txt_length]; omega
  · have : i = n.pairs.length := by omega
    subst this
    rw [List.take_length] at P hlen
    (repeat (first | refine TInt.mk ?_ | refine TBool.mk ?_ | refine TStr.mk ?_ | refine TSl.mk ?_ | refine TPtr.mk ?_ | refine TAgg.mk ?_ | refine T2.mk ?_ | refine T3.mk ?_ | refine TSome.mk ?_ | refine LoadC.ad (view_sub _ _ _) _ (by assumption) rfl ?_))
    generalize hH2 : H ++ n.pairs.flatMap pEnc = H2 at P hE
    have hH2l : H2.length ≤ 3 + 255 * 200000 := by rw [← hH2, List.length_append]; omega
    clear back hlen
    refine LoopI.up n.kids.length (fun i w' => ∃ c', Fr w c' w' ∧ NodeV (view c' 0 w') n (.slice ov n.pairs.length cv) (.slice ou n.kids.length cu) ∧
      PenV (view c' 2 w') ⟨p, 0, none⟩ (H2 ++ (n.kids.take i).flatMap kEnc) ∧ ((n.kids.take i).flatMap kEnc).length ≤ i * 200000) ⟨c6, S, D, by simpa using P, by simp⟩ ?_
    rintro i w11 B2 hi ⟨c11, S, D, P, hlen⟩ back
    refine BS.dec (fun hlt => ?_) (fun hge => ?_)
    · obtain ⟨y, hy⟩ := get_of_lt (l := n.kids) (i := i) (by omega)
      have hmem := List.mem_of_getElem? hy
      have hyb := m3 y hmem
      obtain ⟨es, hkp, E⟩ := LsV.at (by omega) D.k hy
      obtain ⟨vk, rfl, hh, r1⟩ := id hkp
      obtain ⟨o1, p1, rfl⟩ := r1.form
      refine Req.bnd ⟨by omega, by omega⟩ (E.all (view_sub _ _ _) ?_)
      refine AllocC.col c11 5 fun z c7 w7 st7 b7 _ => ?_
      replace S := S.go st7.step (by decide) (by decide); replace D := D.mono (st7.step.sub (by decide)); replace P := P.mono (st7.step.sub (by decide)); replace r1 := r1.mono (st7.step.sub (by decide))
      refine RunU.var b7 (by rw [show (Value.slice o1 y.first.length p1 :: bvs y.hash).toArray.size = 33 by simp [hh]]; kernel_rfl) (by simp [hh]) (all_of hkp.ones) fun w8 st8 b7 => ?_
      replace S := S.go st8.step (by decide) (by decide); replace D := D.mono (st8.step.sub (by decide)); replace P := P.mono (st8.step.sub (by decide)); replace r1 := r1.mono (st8.step.sub (by decide))
      (repeat (first | refine TInt.mk ?_ | refine TBool.mk ?_ | refine TStr.mk ?_ | refine TSl.mk ?_ | refine TPtr.mk ?_ | refine TAgg.mk ?_ | refine T2.mk ?_ | refine T3.mk ?_ | refine TSome.mk ?_ | refine LoadC.ad (view_sub _ _ _) _ (by assumption) rfl ?_))
      refine Pen_Text P (r1.mono (view_sub _ _ _)) ⟨0, by omega, r1⟩ (by rw [List.length_append]; omega) (fun hbad => ?_) (fun hs1 c9 w9 st9 P => ?_)
      · refine TInt.mk (BS.ne (fun _ => nilR 23 S (long fun hh => hbad (hh.2 y hmem))) (fun e => by simp at e))
      replace S := S.go st9 (by decide) (by decide); replace D := D.mono (st9.sub (by decide)); replace b7 := st9.sub (by decide) _ _ b7
      refine TInt.mk (BS.ne (fun e => absurd rfl e) (fun _ => ?_))
      have ra : RdS (view c9 5 w9) (.slice (slBase (some ((⟨z, 0, none⟩ : Addr).add 1)) 32 0 1) 32 32) 1 32 (bvs y.hash) := RdS.arr b7 (by simp [hh]) (fun j u hu => by rw [Nat.add_comm]; simpa using hu)
      rw [slBase_whole] at ra ⊢
      refine Pen_Raw P (ra.mono (view_sub _ _ _)) (by simp only [List.length_append, be_length]; omega) fun c10 w10 st10 P => ?_
      replace S := S.go st10 (by decide) (by decide); replace D := D.mono (st10.sub (by decide))
      rw [wrap_i64 (by omega) (by omega)]
      refine back _ (by omega) ⟨c10, S, D, ?_, ?_⟩
      · rw [flat_take kEnc hy]
        unfold kEnc txt at *
        simpa using P
      · rw [flat_take kEnc hy]; simp only [kEnc, List.length_append, txt_length, hh]; omega
    · have : i = n.kids.length := by omega
      subst this
      rw [List.take_length, ← hE] at P
      have hel : n.enc.length ≤ 100000000 := by
        have := congrArg List.length hE
        rw [List.take_length] at hlen
        rw [List.length_append] at this; omega
      refine Pen_Data 3 P (by omega) fun v9 c9 w9 st9 ho => ?_
      replace S := S.go st9 (by decide) (by decide); replace D := D.mono (st9.sub (by decide))
      obtain ⟨o9, p9, rfl⟩ := ho.form
      refine TSl.mk ?_
      refine BS.dec (fun g => nilR 23 S (wrN_long hR (by omega))) (fun g => ?_)
      have := h (.slice o9 n.enc.length p9) _ _ (S.leave c j)
      rw [wrN_yes hR (by omega)] at this
      exact this (ho.mono (S.out c j (by omega)))
end Go.Proofs.Ythkboikbpbcdeaa

/-
  Nodes: the document's writing.
-/
import Derived.Test.YthkboikbpbcdeaaNode2
set_option linter.unusedVariables false
set_option linter.unusedSimpArgs false
namespace Go.Proofs.Ythkboikbpbcdeaa
open Go.Vc
attribute [local irreducible] TInt TBool TStr TPtr TSl TAgg TMap TChan T2 T3 T4 BS Req TSome TCell TByte LoadC LoadA StoreC AllocC RunV RunU CallV ExtV EqA StableC StableA StableV TCells ReadV
attribute [local irreducible] eU eT eE

theorem ref_WriteN_c (c : Nat → Nat) (j : Nat) {w : World} {n : NodeR} {v u : Value} {R : Value → World → Prop} (hv : NodeV (wv w) n v u) (hm : NodeR.mild n)
    (h : ∀ v c' w', Step c [] [j] w c' w' → OwS (view c' j w') v 5 1 (wrN n).1.length (bvs (wrN n).1) → R (.tuple #[v, .int .i64 (wrN n).2]) w') :
    CallV Try.prog 23 #[.agg (n.cells v u).toArray] w R := by
  obtain ⟨ov, cv, rfl⟩ := LsV.form hv.p
  obtain ⟨ou, cu, rfl⟩ := LsV.form hv.k
  have D : NodeV (view (fun _ => 0) 0 w) n (.slice ov n.pairs.length cv) (.slice ou n.kids.length cu) := by rw [view0]; exact hv
  have S := Fr.start w
  obtain ⟨m1, m2, m3⟩ := hm
  refine ref07_Write_vc ?_
  unfold ref07_Write_VC
  refine AllocC.col (fun _ => 0) 1 fun a c1 w1 st1 b1 _ => ?_
  replace S := S.go st1.step (by decide) (by decide); replace D := D.mono (st1.step.sub (by decide))
  refine LoadA.all (view_sub _ _ _) b1 rfl ?_
  refine Right_c c1 3 (D.mono (view_sub _ _ _)) (by omega) fun b c2 w2 st2 hb => TBool.mk ?_
  replace S := S.go st2 (by decide) (by decide); replace D := D.mono (st2.sub (by decide)); replace b1 := st2.sub (by decide) _ _ b1
  have nilR : ∀ {c' w'} (e : Int), Fr w c' w' → wrN n = ([], e) → AllocC w' (.cells #[] 5) fun a16 w3 => R (.tuple #[.slice (some ⟨a16, 0, none⟩) 0 0, .int .i64 e]) w3 := fun {c' w'} e S he => by
    refine AllocC.col c' 6 fun x c3 w3 st3 b3 _ => ?_
    replace S := S.go st3.step (by decide) (by decide)
    have := h (.slice (some ⟨x, 0, none⟩) 0 0) _ _ (S.leave c j)
    rw [he] at this
    exact this ((OwS.some_bytes b3).mono (S.out c j (by omega)))
  refine BS.nb (fun hf => nilR 1 S (wrN_no fun hr => by rw [hb.2 hr] at hf; simp at hf)) (fun ht => ?_)
  have hR := hb.1 ht
  obtain ⟨q1, q2, q3⟩ := id hR
  have hp255 : n.pairs.length ≤ 255 ∧ n.kids.length ≤ 4 := by omega
  have long : (¬ ((∀ p ∈ n.pairs, p.1.length < 65536 ∧ p.2.length < 65536) ∧ (∀ k ∈ n.kids, k.first.length < 65536))) → wrN n = ([], 23) := fun hn => wrN_long hR fun hl => hn (NodeR.short hl)
  (repeat (first | refine TInt.mk ?_ | refine TBool.mk ?_ | refine TStr.mk ?_ | refine TSl.mk ?_ | refine TPtr.mk ?_ | refine TAgg.mk ?_ | refine T2.mk ?_ | refine T3.mk ?_ | refine TSome.mk ?_ | refine LoadC.ad (view_sub _ _ _) _ (by assumption) rfl ?_))
  refine AllocC.col c2 2 fun x c4 w4 st4 b4 _ => ?_
  replace S := S.go st4.step (by decide) (by decide); replace D := D.mono (st4.step.sub (by decide)); replace b1 := st4.step.sub (by decide) _ _ b1
  have ew : IntKind.wrap .u8 (IntKind.wrap .i64 (((n.pairs.length : Nat) : Int) + ((n.kids.length : Nat) : Int))) = ((byteAt (n.pairs.length + n.kids.length) 0).toNat : Int) := by
    rw [wrap_i64 (by omega) (by omega), wrap_u8_mod, byteAt_toNat]; omega
  have el : IntKind.wrap .u8 n.level = ((byteAt n.level.toNat 0).toNat : Int) := by rw [wrap_u8_mod, byteAt_toNat]; omega
  rw [ew, el] at b4
  have ho : OwS (view c4 2 w4) (.slice (some ⟨x, 0, none⟩) 3 3) 5 1 [84, byteAt n.level.toNat 0, byteAt (n.pairs.length + n.kids.length) 0].length (bvs [84, byteAt n.level.toNat 0, byteAt (n.pairs.length + n.kids.length) 0]) := OwS.lit b4 _ rfl rfl (by simp [maxLen])
  generalize hH : [84, byteAt n.level.toNat 0, byteAt (n.pairs.length + n.kids.length) 0] = H at ho
  have hHl : H.length = 3 := by rw [← hH]; rfl
  have hE : n.enc = H ++ n.pairs.flatMap pEnc ++ n.kids.flatMap kEnc := by rw [← hH]; unfold NodeR.enc; simp
  refine LoopSI.up n.pairs.length (fun i o l p w' => ∃ c', (Fr w c' w' ∧ NodeV (view c' 0 w') n (.slice ov n.pairs.length cv) (.slice ou n.kids.length cu) ∧ view c' 1 w' a = some (.cells (n.cells (.slice ov n.pairs.length cv) (.slice ou n.kids.length cu)).toArray 38 (0, 0))) ∧
    OwS (view c' 2 w') (.slice o l p) 5 1 (H ++ (n.pairs.take i).flatMap pEnc).length (bvs (H ++ (n.pairs.take i).flatMap pEnc)) ∧ ((n.pairs.take i).flatMap pEnc).length ≤ i * 200000) ⟨c4, ⟨S, D, b1⟩, by simpa using ho, by simp⟩ ?_
  rintro i o l p w6 B hi ⟨c6, ⟨S, D, b1⟩, ho, hlen⟩ back
  (repeat (first | refine TInt.mk ?_ | refine TBool.mk ?_ | refine TStr.mk ?_ | refine TSl.mk ?_ | refine TPtr.mk ?_ | refine TAgg.mk ?_ | refine T2.mk ?_ | refine T3.mk ?_ | refine TSome.mk ?_ | refine LoadC.ad (view_sub _ _ _) _ (by assumption) rfl ?_))
  refine BS.dec (fun hlt => ?_) (fun hge => ?_)
  · obtain ⟨y, hy⟩ := get_of_lt (l := n.pairs) (i := i) (by omega)
    have hmem := List.mem_of_getElem? hy
    have hyb := m2 y hmem
    obtain ⟨es, ⟨vk, vv, rfl, r1, r2⟩, E⟩ := LsV.at (by omega) D.p hy
    obtain ⟨o1, p1, rfl⟩ := r1.form
    obtain ⟨o2, p2, rfl⟩ := r2.form
    (repeat (first | refine TInt.mk ?_ | refine TBool.mk ?_ | refine TStr.mk ?_ | refine TSl.mk ?_ | refine TPtr.mk ?_ | refine TAgg.mk ?_ | refine T2.mk ?_ | refine T3.mk ?_ | refine TSome.mk ?_ | refine LoadC.ad (view_sub _ _ _) _ (by assumption) rfl ?_))
    refine Req.bnd ⟨by omega, by omega⟩ (E.ld (k := 0) (view_sub _ _ _) rfl (TSl.mk ?_))
    refine ref_T c6 3 (r1.mono (view_sub _ _ _)) (by omega) fun v7 c7 w7 st7 r7 => ?_
    replace E := E.mono (st7.sub (by decide))
    replace S := S.go st7 (by decide) (by decide); replace D := D.mono (st7.sub (by decide)); replace b1 := st7.sub (by decide) _ _ b1; replace ho := ho.mono (st7.sub (by decide)); replace r2 := r2.mono (st7.sub (by decide))
    obtain ⟨o7, p7, rfl⟩ := r7.form
    (repeat (first | refine TInt.mk ?_ | refine TBool.mk ?_ | refine TStr.mk ?_ | refine TSl.mk ?_ | refine TPtr.mk ?_ | refine TAgg.mk ?_ | refine T2.mk ?_ | refine T3.mk ?_ | refine TSome.mk ?_ | refine LoadC.ad (view_sub _ _ _) _ (by assumption) rfl ?_))
    refine Req.bnd ⟨by omega, by omega⟩ (E.ld (k := 1) (view_sub _ _ _) rfl (TSl.mk ?_))
    refine ref_T c7 3 (r2.mono (view_sub _ _ _)) (by omega) fun v8 c8 w8 st8 r8 => ?_
    replace S := S.go st8 (by decide) (by decide); replace D := D.mono (st8.sub (by decide)); replace b1 := st8.sub (by decide) _ _ b1; replace ho := ho.mono (st8.sub (by decide)); replace r7 := r7.mono (st8.sub (by decide))
    obtain ⟨o8, p8, rfl⟩ := r8.form
    (repeat (first | refine TInt.mk ?_ | refine TBool.mk ?_ | refine TStr.mk ?_ | refine TSl.mk ?_ | refine TPtr.mk ?_ | refine TAgg.mk ?_ | refine T2.mk ?_ | refine T3.mk ?_ | refine TSome.mk ?_))
    by_cases hs1 : y.1.length < 65536
    · rw [if_pos hs1] at r7
      rw [if_pos hs1, if_pos hs1]
      refine BS.ne (fun e => absurd rfl e) (fun _ => ?_)
      unfold ref07_Write_K1
      by_cases hs2 : y.2.length < 65536
      · rw [if_pos hs2] at r8
        rw [if_pos hs2, if_pos hs2]
        refine BS.no rfl ?_
        refine app_bytes slU8 ho (r7.rd.mono (view_sub _ _ _)) (by simp only [List.length_append, txt_length]; omega) fun o9 p9 c9 w9 st9 ho => ?_
        replace S := S.go st9.step (by decide) (by decide); replace D := D.mono (st9.step.sub (by decide)); replace b1 := st9.step.sub (by decide) _ _ b1; replace r8 := r8.mono (st9.step.sub (by decide))
        (repeat (first | refine TInt.mk ?_ | refine TBool.mk ?_ | refine TStr.mk ?_ | refine TSl.mk ?_ | refine TPtr.mk ?_ | refine TAgg.mk ?_ | refine T2.mk ?_ | refine T3.mk ?_ | refine TSome.mk ?_))
        refine app_bytes slU8 ho (r8.rd.mono (view_sub _ _ _)) (by simp only [List.length_append, txt_length]; omega) fun o10 p10 c10 w10 st10 ho => ?_
        replace S := S.go st10.step (by decide) (by decide); replace D := D.mono (st10.step.sub (by decide)); replace b1 := st10.step.sub (by decide) _ _ b1
        (repeat (first | refine TInt.mk ?_ | refine TBool.mk ?_ | refine TStr.mk ?_ | refine TSl.mk ?_ | refine TPtr.mk ?_ | refine TAgg.mk ?_ | refine T2.mk ?_ | refine T3.mk ?_ | refine TSome.mk ?_))
        rw [wrap_i64 (by omega) (by omega)]
        refine back _ _ _ _ (by omega) ⟨c10, ⟨S, D, b1⟩, ?_, ?_⟩
        · have e : H ++ (n.pairs.take (i + 1)).flatMap pEnc = H ++ (n.pairs.take i).flatMap pEnc ++ txt y.1 ++ txt y.2 := by rw [flat_take pEnc hy]; unfold pEnc; simp
          rw [e]; exact ho
        · rw [flat_take pEnc hy]; simp only [pEnc, List.length_append, txt_length]; omega
      · rw [if_neg hs2, if_neg hs2]
        exact BS.yes rfl (nilR 23 S (long fun hh => hs2 (hh.1 y hmem).2))
    · rw [if_neg hs1, if_neg hs1]
      refine BS.ne (fun _ => nilR 23 S (long fun hh => hs1 (hh.1 y hmem).1)) (fun e => by simp at e)
  · have : i = n.pairs.length := by omega
    subst this
    rw [List.take_length] at ho hlen
    generalize hH2 : H ++ n.pairs.flatMap pEnc = H2 at ho hE
    have hH2l : H2.length ≤ 3 + 255 * 200000 := by rw [← hH2, List.length_append]; omega
    clear back hlen
    refine LoopSI.up n.kids.length (fun i o l p w' => ∃ c', (Fr w c' w' ∧ NodeV (view c' 0 w') n (.slice ov n.pairs.length cv) (.slice ou n.kids.length cu) ∧ view c' 1 w' a = some (.cells (n.cells (.slice ov n.pairs.length cv) (.slice ou n.kids.length cu)).toArray 38 (0, 0))) ∧
      OwS (view c' 2 w') (.slice o l p) 5 1 (H2 ++ (n.kids.take i).flatMap kEnc).length (bvs (H2 ++ (n.kids.take i).flatMap kEnc)) ∧ ((n.kids.take i).flatMap kEnc).length ≤ i * 200000) ⟨c6, ⟨S, D, b1⟩, by simpa using ho, by simp⟩ ?_
    rintro i o l p w11 B2 hi ⟨c11, ⟨S, D, b1⟩, ho, hlen⟩ back
    (repeat (first | refine TInt.mk ?_ | refine TBool.mk ?_ | refine TStr.mk ?_ | refine TSl.mk ?_ | refine TPtr.mk ?_ | refine TAgg.mk ?_ | refine T2.mk ?_ | refine T3.mk ?_ | refine TSome.mk ?_ | refine LoadC.ad (view_sub _ _ _) _ (by assumption) rfl ?_))
    refine BS.dec (fun hlt => ?_) (fun hge => ?_)
    · obtain ⟨y, hy⟩ := get_of_lt (l := n.kids) (i := i) (by omega)
      have hmem := List.mem_of_getElem? hy
      have hyb := m3 y hmem
      obtain ⟨es, ⟨vk, rfl, hh, r1⟩, E⟩ := LsV.at (by omega) D.k hy
      obtain ⟨o1, p1, rfl⟩ := r1.form
      (repeat (first | refine TInt.mk ?_ | refine TBool.mk ?_ | refine TStr.mk ?_ | refine TSl.mk ?_ | refine TPtr.mk ?_ | refine TAgg.mk ?_ | refine T2.mk ?_ | refine T3.mk ?_ | refine TSome.mk ?_ | refine LoadC.ad (view_sub _ _ _) _ (by assumption) rfl ?_))
      refine Req.bnd ⟨by omega, by omega⟩ (E.ld (k := 0) (view_sub _ _ _) rfl (TSl.mk ?_))
      refine ref_T c11 3 (r1.mono (view_sub _ _ _)) (by omega) fun v7 c7 w7 st7 r7 => ?_
      replace E := E.mono (st7.sub (by decide))
      replace S := S.go st7 (by decide) (by decide); replace D := D.mono (st7.sub (by decide)); replace b1 := st7.sub (by decide) _ _ b1; replace ho := ho.mono (st7.sub (by decide))
      obtain ⟨o7, p7, rfl⟩ := r7.form
      (repeat (first | refine TInt.mk ?_ | refine TBool.mk ?_ | refine TStr.mk ?_ | refine TSl.mk ?_ | refine TPtr.mk ?_ | refine TAgg.mk ?_ | refine T2.mk ?_ | refine T3.mk ?_ | refine TSome.mk ?_))
      by_cases hs1 : y.first.length < 65536
      · rw [if_pos hs1] at r7
        rw [if_pos hs1, if_pos hs1]
        refine BS.ne (fun e => absurd rfl e) (fun _ => ?_)
        refine DrewC.col c7 fun w8 st8 => ?_
        replace E := E.mono (st8.sub (by decide))
        replace S := S.go st8 (by decide) (by decide); replace D := D.mono (st8.sub (by decide)); replace b1 := st8.sub (by decide) _ _ b1; replace ho := ho.mono (st8.sub (by decide)); replace r7 := r7.mono (st8.sub (by decide))
        (repeat (first | refine TInt.mk ?_ | refine TBool.mk ?_ | refine TStr.mk ?_ | refine TSl.mk ?_ | refine TPtr.mk ?_ | refine TAgg.mk ?_ | refine T2.mk ?_ | refine T3.mk ?_ | refine TSome.mk ?_ | refine LoadC.ad (view_sub _ _ _) _ (by assumption) rfl ?_))
        obtain ⟨bb, off, cs, T, fz, rfl, b9, hc⟩ := E.blk (by omega)
        refine Req.bnd ⟨by omega, by omega⟩ (TSome.mk ?_)
        rw [slBase_whole, addr_add bb, addr_add bb, Int.toNat_natCast]
        refine app_bytes slU8 ho (r7.rd.mono (view_sub _ _ _)) (by simp only [List.length_append, txt_length]; omega) fun o9 p9 c9 w9 st9 ho => ?_
        replace S := S.go st9.step (by decide) (by decide); replace D := D.mono (st9.step.sub (by decide)); replace b1 := st9.step.sub (by decide) _ _ b1; replace b9 := st9.step.sub (by decide) _ _ b9
        refine TSl.mk ⟨StableC.ad (view_sub _ _ _) b1 rfl, ?_⟩
        have ra : RdS (view c9 0 w9) (.slice (some ⟨bb, off + i * 33 + 1, none⟩) 32 32) 1 32 (bvs y.hash) := RdS.at' b9 (by simp [hh]) (fun j u hu => by rw [Nat.add_assoc]; exact hc (1 + j) u (by rw [Nat.add_comm]; exact hu))
        have hra : RdS (view c9 0 w9) (.slice (some ⟨bb, off + i * 33 + 1, none⟩) 32 32) 1 y.hash.length (bvs y.hash) := by rw [hh]; exact ra
        refine app_bytes slU8 ho (hra.mono (view_sub _ _ _)) (by simp only [List.length_append, txt_length, hh]; omega) fun o10 p10 c10 w10 st10 ho => ?_
        replace S := S.go st10.step (by decide) (by decide); replace D := D.mono (st10.step.sub (by decide)); replace b1 := st10.step.sub (by decide) _ _ b1
        (repeat (first | refine TInt.mk ?_ | refine TBool.mk ?_ | refine TStr.mk ?_ | refine TSl.mk ?_ | refine TPtr.mk ?_ | refine TAgg.mk ?_ | refine T2.mk ?_ | refine T3.mk ?_ | refine TSome.mk ?_))
        rw [wrap_i64 (by omega) (by omega)]
        refine back _ _ _ _ (by omega) ⟨c10, ⟨S, D, b1⟩, ?_, ?_⟩
        · have e : H2 ++ (n.kids.take (i + 1)).flatMap kEnc = H2 ++ (n.kids.take i).flatMap kEnc ++ txt y.first ++ y.hash := by rw [flat_take kEnc hy]; unfold kEnc; simp
          rw [e]; exact ho
        · rw [flat_take kEnc hy]; simp only [kEnc, List.length_append, txt_length, hh]; omega
      · rw [if_neg hs1, if_neg hs1]
        refine BS.ne (fun _ => nilR 23 S (long fun hh => hs1 (hh.2 y hmem))) (fun e => by simp at e)
    · have : i = n.kids.length := by omega
      subst this
      rw [List.take_length, ← hE] at ho
      have := ho.len.1
      subst this
      refine BS.dec (fun g => nilR 23 S (wrN_long hR (by omega))) (fun g => ?_)
      have := h (.slice o n.enc.length p) _ _ (S.leave c j)
      rw [wrN_yes hR (by omega)] at this
      exact this (ho.mono (S.out c j (by omega)))
end Go.Proofs.Ythkboikbpbcdeaa

/-
  Chapter 01's statements, walked (DiskPlays).
-/
import Derived.Test.YteliekblhcbmgaaWalkDisk2
set_option linter.unusedVariables false
set_option linter.unusedSimpArgs false
namespace Go.Proofs.Yteliekblhcbmgaa
open Go.Vc
theorem slInts : SlT Try.prog 24 3 1 8 := .of (by kernel_rfl)
end Go.Proofs.Yteliekblhcbmgaa
namespace Go.Vc
open Go
theorem jvs_one (l : List Int) : ∀ u ∈ jvs l, u.oneCell' = true := by
  intro u hu; obtain ⟨x, _, rfl⟩ := List.mem_map.1 hu; rfl
theorem app_jvs {P : Program} {t e ty : Nat} (hT : SlT P t e 1 8) {c : Nat → Nat} {i : Nat} {w : World} {s x : Value} {l m : List Int} (ho : OwS (view c i w) s e 1 l.length (jvs l)) (hr : RdS (Vc.wv w) x 1 m.length (jvs m))
    (hm : l.length + m.length ≤ 1000000) {K : Value → World → Prop}
    (h : ∀ o cp c' w', Wr c i w c' w' s.ownBlock → OwS (view c' i w') (.slice o (l ++ m).length cp) e 1 (l ++ m).length (jvs (l ++ m)) → K (.slice o (l ++ m).length cp) w') :
    RunV P (Builtin.append_ #[t, t] ty #[s, x]) w K := by
  refine append_col hT ho hr (jvs_one _) (by omega) (by omega) fun v' c' w' h1 h2 _ => ?_
  have e : jvs l ++ jvs m = jvs (l ++ m) := by simp [jvs]
  rw [← List.length_append, e] at h2
  obtain ⟨o, cp, rfl⟩ := h2.form
  exact h o cp c' w' h1 h2
theorem bytesK_le {raw : Bool} {d : List UInt8} (h : d.length ≤ 2000) : (bytesK raw d).length ≤ 2000 := by
  cases raw
  · rw [bytesK_len]; omega
  · unfold bytesK; rw [if_pos rfl]; exact h
end Go.Vc
namespace Go.Proofs.Yteliekblhcbmgaa.walkDisk
open Go.Vc Go.ChangeShapes Go.WideShapes Go.ChangeAt Go.RowKit
attribute [local irreducible] TInt TBool TStr TPtr TSl TAgg TMap TChan T2 T3 T4 BS Req TSome TCell TByte LoadC LoadA StoreC AllocC RunV RunU CallV ExtV EqA StableC StableA StableV TCells ReadV
attribute [local irreducible] DrewC
attribute [local irreducible] newK rdK crK wrK flK bytesK
theorem and7k (n : Int) : ∃ k : Nat, bitsV .and .i64 n 7 = k ∧ k ≤ 7 := and_mask n 7 (by omega)

theorem plays (n : Int) (v : Value) (ops : List OpK) (w : World) (hv : ScrK (wv w) v ops) : CallV Try.prog 7 #[.int .i64 n, v] w fun r w' => r = .bool true ∧ Below w.heap.size w w' := by
  obtain ⟨o0, p0, rfl⟩ := LsV.form hv
  have V : ScrK (view (fun _ => 0) 0 w) (.slice o0 ops.length p0) ops := by rw [view0]; exact hv
  have S := Fw.start w
  refine law01_DiskPlays_vc ?_
  unfold law01_DiskPlays_VC
  refine speaks01 (fun _ => 0) 9 fun c1 w1 st1 => TBool.mk (BS.no rfl ?_)
  replace S := S.go st1 (by decide) (by decide); replace V := V.mono (st1.sub (by decide))
  have main : (n ≤ 40 ∨ 4096 < n) → CallV Try.prog 10 #[.slice o0 ops.length p0] w1 fun v24 w2 => TBool v24 fun b24 => law01_DiskPlays_K1 n o0 ops.length p0 b24 w2 fun r w' => r = .bool true ∧ Below w.heap.size w w' := fun hn => by
    refine great_c c1 9 (V.mono (view_sub _ _ _)) fun g c2 w2 st2 hg => TBool.mk ?_
    replace S := S.go st2 (by decide) (by decide); replace V := V.mono (st2.sub (by decide))
    unfold law01_DiskPlays_K1
    refine BS.mk (fun _ => ⟨rfl, S.below⟩) (fun hgf => ?_)
    obtain ⟨hl1000, hops⟩ := hg hgf
    refine dNew_c c2 10 (fun hb => T2.mk (TPtr.mk (TInt.mk ?_))) fun m hm h1 h4096 a c3 w3 st3 hd => T2.mk (TPtr.mk (TInt.mk ?_))
    · have bad : law01_DiskPlays_K2 n o0 ops.length p0 none 1 true w2 (fun r w' => r = .bool true ∧ Below w.heap.size w w') := by
        unfold law01_DiskPlays_K2
        refine BS.yes rfl (BS.yes rfl (BS.yes rfl (BS.dec (fun _ => ⟨rfl, S.below⟩) (fun h => ?_))))
        rw [decide_eq_true (show n > 4096 by omega)]
        exact ⟨rfl, S.below⟩
      exact BS.dec (fun _ => bad) (fun _ => BS.dec (fun _ => bad) (fun _ => by omega))
    · subst hm
      refine BS.dec (fun h => by omega) (fun _ => BS.dec (fun h => by omega) (fun _ => ?_))
      replace S := S.go st3 (by decide) (by decide); replace V := V.mono (st3.sub (by decide))
      unfold law01_DiskPlays_K2
      refine BS.no rfl ?_
      refine mNew_c c3 20 m h4096 fun b c4 w4 st4 hm => TPtr.mk ?_
      replace S := S.go st4 (by decide) (by decide); replace V := V.mono (st4.sub (by decide))
      replace hd := hd.mono st4 (by decide) (by decide) (by decide) (by decide)
      have ok0 := newK_ok' m h4096
      have on0 := newK_opn m
      refine ⟨fun vs w' => ∃ (i : Nat) (a b : Addr) (c' : Nat → Nat) (D : DkR), i ≤ ops.length ∧ vs = [.pointer (some a), .pointer (some b), .int .i64 (i : Int)] ∧ Fw w c' w' ∧ ScrK (view c' 0 w') (.slice o0 ops.length p0) ops ∧ DkD c' 10 w' a D ∧ DkM c' 20 w' b D ∧ D.ok ∧ D.opn.length ≤ i,
        fun vs _ => match vs with | [_, _, .int _ x] => ((ops.length : Int) - x).toNat | _ => 0, ⟨0, a, b, c4, _, Nat.zero_le _, rfl, S, V, hd, hm, ok0, by omega⟩, ?_⟩
      clear S V hd hm
      clear a b
      rintro _ w5 p5 p7 n59 ⟨i, a, b, c5, D, hi, e, S, V, hd, hm, hok, hon⟩
      simp only [List.cons.injEq, Value.pointer.injEq, Value.int.injEq, true_and, and_true] at e
      obtain ⟨rfl, rfl, rfl⟩ := e
      refine BS.dec (fun hlt => ?_) (fun hge => ⟨rfl, S.below⟩)
      obtain ⟨o, ho⟩ := get_of_lt (l := ops) (i := i) (by omega)
      have hsz := hops o (List.mem_of_getElem? ho)
      obtain ⟨es, ⟨vd, uf, rfl, rd, ru, hk1, hk2, hfs⟩, E⟩ := LsV.at (by omega) V ho
      obtain ⟨od, pd, rfl⟩ := rd.form
      obtain ⟨ou, pu, rfl⟩ := ru.form
      refine Req.bnd ⟨by omega, by omega⟩ (E.all (view_sub _ _ _) ?_)
      refine AllocC.col c5 37 fun z c6 w6 st6 b6 _ => ?_
      replace S := S.go st6.fresh (by decide) (by decide); replace V := V.mono (st6.fresh.sub (by decide)); replace rd := rd.mono (st6.fresh.sub (by decide)); replace ru := ru.mono (st6.fresh.sub (by decide))
      replace hd := hd.mono st6.fresh (by decide) (by decide) (by decide) (by decide); replace hm := hm.mono st6.fresh (by decide) (by decide) (by decide) (by decide)
      refine RunU.var b6 (by kernel_rfl) rfl (by simp [OpK.vals, Value.oneCell']) fun w7 st7 b7 => ?_
      replace S := S.go st7.step (by decide) (by decide); replace V := V.mono (st7.step.sub (by decide)); replace rd := rd.mono (st7.step.sub (by decide)); replace ru := ru.mono (st7.step.sub (by decide))
      replace hd := hd.mono st7.step (by decide) (by decide) (by decide) (by decide); replace hm := hm.mono st7.step (by decide) (by decide) (by decide) (by decide)
      refine LoadA.all (view_sub _ _ _) b7 (by simp [OpK.vals]) ?_
      refine bytes_c c6 15 (rd.mono (view_sub _ _ _)) rfl (fun _ => by omega) fun v8 c8 w8 st8 r8 => ?_
      replace S := S.go st8 (by decide) (by decide); replace V := V.mono (st8.sub (by decide)); replace ru := ru.mono (st8.sub (by decide)); replace b7 := st8.sub (by decide) _ _ b7
      replace hd := hd.mono st8 (by decide) (by decide) (by decide) (by decide); replace hm := hm.mono st8 (by decide) (by decide) (by decide) (by decide)
      have hlB : (bytesK o.raw o.data).length ≤ 2000 := bytesK_le hsz.1
      obtain ⟨o8, p8, rfl⟩ := r8.form
      refine TSl.mk ?_
      -- the end of a round
      have fin : ∀ {c' : Nat → Nat} {w' : World} {D' : DkR} {a' b' : Addr}, Fw w c' w' → ScrK (view c' 0 w') (.slice o0 ops.length p0) ops → DkD c' 10 w' a' D' → DkM c' 20 w' b' D' → D'.ok → D'.opn.length ≤ i + 1 →
          law01_DiskPlays_K3 (some a') (some b') o0 ops.length p0 ((ops.length : Nat) : Int) i (Back (fun vs w' => ∃ (i : Nat) (a b : Addr) (c' : Nat → Nat) (D : DkR), i ≤ ops.length ∧ vs = [.pointer (some a), .pointer (some b), .int .i64 (i : Int)] ∧ Fw w c' w' ∧ ScrK (view c' 0 w') (.slice o0 ops.length p0) ops ∧ DkD c' 10 w' a D ∧ DkM c' 20 w' b D ∧ D.ok ∧ D.opn.length ≤ i)
            (fun vs _ => match vs with | [_, _, .int _ x] => ((ops.length : Int) - x).toNat | _ => 0) [.pointer (some a), .pointer (some b), .int .i64 (i : Int)] w5) w' (fun r w' => r = .bool true ∧ Below w.heap.size w w') := fun {c' w' D' a' b'} S V hd hm hok hon => by
        unfold law01_DiskPlays_K3
        refine same_c c' 16 hd hm hok (by omega) (by decide) fun c9 w9 st9 hd hm => TBool.mk (BS.no rfl ?_)
        replace S := S.go st9 (by decide) (by decide); replace V := V.mono (st9.sub (by decide))
        rw [wrap_i64 (by omega) (by omega)]
        refine ⟨⟨i + 1, a', b', c9, D', by omega, by simp, S, V, hd, hm, hok, hon⟩, ?_⟩
        show ((ops.length : Int) - ((i : Int) + 1)).toNat < ((ops.length : Int) - (i : Int)).toNat
        omega
      refine LoadC.ad (view_sub _ _ _) _ b7 rfl (TInt.mk ?_)
      refine BS.eq (fun e0 => ?_) (fun e0 => ?_)
      · have on := flK_opn D
        refine dFlush_c hd hok (by omega) fun c9 w9 st9 hd => TInt.mk ?_
        replace S := S.go st9 (by decide) (by decide); replace V := V.mono (st9.sub (by decide))
        replace hm := hm.mono st9 (by decide) (by decide) (by decide) (by decide)
        refine mFlush_c hm hok (by omega) fun c10 w10 st10 hm => TInt.mk ?_
        replace S := S.go st10 (by decide) (by decide); replace V := V.mono (st10.sub (by decide))
        replace hd := hd.mono st10 (by decide) (by decide) (by decide) (by decide)
        exact BS.no (by simp) (fin S V hd hm (flK_ok hok) (by omega))
      refine BS.eq (fun e1 => ?_) (fun e1 => ?_)
      · refine LoadC.ad (view_sub _ _ _) _ b7 rfl (TInt.mk ?_)
        refine dLimit_c hd fun w9 st9 hd => ?_
        replace S := S.go st9 (by decide) (by decide); replace V := V.mono (st9.sub (by decide)); replace b7 := st9.sub (by decide) _ _ b7
        replace hm := hm.mono st9 (by decide) (by decide) (by decide) (by decide)
        refine LoadC.ad (view_sub _ _ _) _ b7 rfl (TInt.mk ?_)
        refine mLimit_c hm fun w10 st10 hm => ?_
        replace S := S.go st10 (by decide) (by decide); replace V := V.mono (st10.sub (by decide))
        replace hd := hd.mono st10 (by decide) (by decide) (by decide) (by decide)
        exact fin S V hd hm (limK_ok hok (by have := hk2.2; omega)) (by show D.opn.length ≤ i + 1; omega)
      refine BS.eq (fun e2 => ?_) (fun e2 => ?_)
      · refine AllocC.col c8 38 fun y c9 w9 st9 b9 _ => ?_
        replace S := S.go st9.fresh (by decide) (by decide); replace V := V.mono (st9.fresh.sub (by decide)); replace ru := ru.mono (st9.fresh.sub (by decide)); replace b7 := st9.fresh.sub (by decide) _ _ b7
        replace hd := hd.mono st9.fresh (by decide) (by decide) (by decide) (by decide); replace hm := hm.mono st9.fresh (by decide) (by decide) (by decide) (by decide)
        refine LoadC.ad (view_sub _ _ _) _ b7 rfl (TSl.mk ?_)
        have hoF : OwS (view c9 38 w9) (.slice (some ⟨y, 0, none⟩) 0 0) 3 1 ([] : List Int).length (jvs []) := OwS.empty b9
        refine app_jvs slInts hoF (ru.mono (view_sub _ _ _)) (by simp; omega) fun o10 p10 c10 w10 st10 r10 => TSl.mk ?_
        replace S := S.go st10.step (by decide) (by decide); replace V := V.mono (st10.step.sub (by decide)); replace ru := ru.mono (st10.step.sub (by decide)); replace b7 := st10.step.sub (by decide) _ _ b7
        replace hd := hd.mono st10.step (by decide) (by decide) (by decide) (by decide); replace hm := hm.mono st10.step (by decide) (by decide) (by decide) (by decide)
        rw [List.nil_append] at r10 ⊢
        refine DrewC.col c10 fun w11 st11 => ?_
        replace S := S.go st11 (by decide) (by decide); replace V := V.mono (st11.sub (by decide)); replace ru := ru.mono (st11.sub (by decide)); replace b7 := st11.sub (by decide) _ _ b7; replace r10 := r10.mono (st11.sub (by decide))
        replace hd := hd.mono st11 (by decide) (by decide) (by decide) (by decide); replace hm := hm.mono st11 (by decide) (by decide) (by decide) (by decide)
        refine LoadC.ad (view_sub _ _ _) _ b7 rfl (TSl.mk ?_)
        refine dCrash_c c10 10 hd hok (by omega) (r10.rd.mono (view_sub _ _ _)) hfs fun ax c12 w12 st12 hx => TPtr.mk ?_
        replace S := S.go st12 (by decide) (by decide); replace V := V.mono (st12.sub (by decide)); replace ru := ru.mono (st12.sub (by decide)); replace b7 := st12.sub (by decide) _ _ b7
        replace hd := hd.mono st12 (by decide) (by decide) (by decide) (by decide); replace hm := hm.mono st12 (by decide) (by decide) (by decide) (by decide)
        refine ⟨StableC.ad (view_sub _ _ _) b7 rfl, ?_⟩
        refine mCrash_c c12 20 hm hok (by omega) (ru.mono (view_sub _ _ _)) hfs fun ay c13 w13 st13 hy => TPtr.mk (BS.no rfl ?_)
        replace S := S.go st13 (by decide) (by decide); replace V := V.mono (st13.sub (by decide)); replace b7 := st13.sub (by decide) _ _ b7
        replace hd := hd.mono st13 (by decide) (by decide) (by decide) (by decide); replace hm := hm.mono st13 (by decide) (by decide) (by decide) (by decide); replace hx := hx.mono st13 (by decide) (by decide) (by decide) (by decide)
        refine same_c c13 16 hd hm hok (by omega) (by decide) fun c14 w14 st14 hd hm => TBool.mk (BS.no rfl ?_)
        replace S := S.go st14 (by decide) (by decide); replace V := V.mono (st14.sub (by decide)); replace b7 := st14.sub (by decide) _ _ b7
        replace hx := hx.mono st14 (by decide) (by decide) (by decide) (by decide); replace hy := hy.mono st14 (by decide) (by decide) (by decide) (by decide)
        refine LoadC.ad (view_sub _ _ _) _ b7 rfl (TSl.mk ?_)
        unfold law01_DiskPlays_K4
        refine BS.no (by simp) (fin S V hx hy (crK_ok hok _) ?_)
        rw [(crK_facts D _).2.2]; simp
      · refine DrewC.col c8 fun w9 st9 => ?_
        replace S := S.go st9 (by decide) (by decide); replace V := V.mono (st9.sub (by decide)); replace b7 := st9.sub (by decide) _ _ b7; replace r8 := r8.mono (st9.sub (by decide))
        replace hd := hd.mono st9 (by decide) (by decide) (by decide) (by decide); replace hm := hm.mono st9 (by decide) (by decide) (by decide) (by decide)
        refine LoadC.ad (view_sub _ _ _) _ b7 rfl (TInt.mk ?_)
        refine LoadC.ad (view_sub _ _ _) _ b7 rfl (TInt.mk ?_)
        have on := wrK_opn D o.at' (bytesK o.raw o.data)
        refine dWrite_c (q := 15) hd hok r8.rd (by decide) (by omega) fun c10 w10 st10 hd => TInt.mk ?_
        replace S := S.go st10 (by decide) (by decide); replace V := V.mono (st10.sub (by decide)); replace b7 := st10.sub (by decide) _ _ b7; replace r8 := r8.mono (st10.sub (by decide))
        replace hm := hm.mono st10 (by decide) (by decide) (by decide) (by decide)
        refine ⟨StableC.ad (view_sub _ _ _) b7 rfl, ?_⟩
        refine mWrite_c (q := 15) hm hok r8.rd (by decide) (by omega) fun c11 w11 st11 hm => TInt.mk ?_
        replace S := S.go st11 (by decide) (by decide); replace V := V.mono (st11.sub (by decide)); replace r8 := r8.mono (st11.sub (by decide))
        replace hd := hd.mono st11 (by decide) (by decide) (by decide) (by decide)
        refine BS.no (by simp) ?_
        refine spoil_c r8 (by omega) fun w12 st12 => ?_
        replace S := S.go st12 (by decide) (by decide); replace V := V.mono (st12.sub (by decide))
        replace hd := hd.mono st12 (by decide) (by decide) (by decide) (by decide); replace hm := hm.mono st12 (by decide) (by decide) (by decide) (by decide)
        exact fin S V hd hm (wrK_ok hok _ _) (by omega)
  refine BS.dec (fun h40 => BS.dec (fun _ => ⟨rfl, S.below⟩) (fun h => main (by omega))) (fun h => main (by omega))
end Go.Proofs.Yteliekblhcbmgaa.walkDisk

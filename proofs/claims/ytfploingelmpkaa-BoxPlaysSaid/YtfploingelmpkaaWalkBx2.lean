/-
  Chapter 22's first law, walked: each call of a script.
-/
import Derived.Test.YtfploingelmpkaaArgB
set_option linter.unusedVariables false
set_option linter.unusedSimpArgs false
namespace Go.Vc
open Go
structure BOpR where
  kind : Int
  m : MsgR
def BOpR.cells (x : BOpR) (v va ua vh vb : Value) : List Value := [.int .i64 x.kind] ++ x.m.cells v va ua vh vb
end Go.Vc
namespace Go.Proofs.Ytfploingelmpkaa
open Go.Vc
attribute [local irreducible] TInt TBool TStr TPtr TSl TAgg TMap TChan T2 T3 T4 BS Req TSome TCell TByte LoadC LoadA StoreC AllocC RunV RunU CallV ExtV EqA StableC StableA StableV TCells ReadV
attribute [local irreducible] DrewC
def BopQ (h : View) (x : BOpR) (es : List Value) : Prop := ∃ v va ua vh vb, es = x.cells v va ua vh vb ∧ MsgV h x.m v va ua vh vb ∧ x.m.ok
theorem BopQ.mono {h h' : View} {x : BOpR} {es : List Value} (H : BopQ h x es) (hs : Sub h h') : BopQ h' x es := by
  obtain ⟨v, va, ua, vh, vb, e, M, ok⟩ := H; exact ⟨v, va, ua, vh, vb, e, M.mono hs, ok⟩
section
variable {x : BOpR} {v va ua vh vb : Value}
theorem bop_len (hok : x.m.ok) : (x.cells v va ua vh vb).length = 54 := by
  unfold BOpR.cells
  rw [List.length_append, msg_get hok.2.2.2.2.2.1]; rfl
theorem bop_msg : ∀ (j : Nat) (u : Value), (x.m.cells v va ua vh vb)[j]? = some u → (x.cells v va ua vh vb).toArray[1 + j]? = some u := by
  intro j u hu
  rw [List.getElem?_toArray]
  unfold BOpR.cells
  rw [List.getElem?_append_right (by simp), show 1 + j - ([.int .i64 x.kind] : List Value).length = j by simp]; exact hu
theorem bop_one {h : View} (M : MsgV h x.m v va ua vh vb) : (x.cells v va ua vh vb).toArray.all (·.oneCell') = true := by
  rw [Array.all_eq_true']; intro u hu
  have hu : u ∈ x.cells v va ua vh vb := by simpa using hu
  unfold BOpR.cells at hu
  rw [List.mem_append] at hu
  rcases hu with hu | hu
  · simp at hu; subst hu; rfl
  · exact msg_one M u hu
end
end Go.Proofs.Ytfploingelmpkaa
namespace Go.Proofs.Ytfploingelmpkaa.walkBx
open Go.Vc Go.ChangeShapes Go.WideShapes Go.ChangeAt Go.RowKit
attribute [local irreducible] TInt TBool TStr TPtr TSl TAgg TMap TChan T2 T3 T4 BS Req TSome TCell TByte LoadC LoadA StoreC AllocC RunV RunU CallV ExtV EqA StableC StableA StableV TCells ReadV
attribute [local irreducible] DrewC
theorem plays (n : Int) (l : List BOpR) (o0 : Option Addr) (p0 : Nat) (w : World) (hT : LsV BopQ 54 (wv w) (.slice o0 l.length p0) l) :
    CallV Try.prog 4 #[.int .i64 n, .slice o0 l.length p0] w fun r w' => r = .bool true ∧ Below w.heap.size w w' := by
  have t1 : LsV BopQ 54 (view (fun _ => 0) 0 w) (.slice o0 l.length p0) l := by rw [view0]; exact hT
  have S := Fx.start w
  refine law22_BoxPlays_vc ?_
  unfold law22_BoxPlays_VC
  refine speaks22 (fun _ => 0) fun c1 w1 st1 => TBool.mk (BS.no rfl ?_)
  replace t1 := t1.mono' (fun _ _ hp => hp.mono (st1.sub (by decide))) (st1.sub (by decide))
  replace S := S.go st1 (by decide) (by decide)
  refine BS.dec (fun _ => ⟨rfl, fin S⟩) (fun hl => ?_)
  refine New_b c1 1 2 (fun hn => ?_) fun hn a c2 w2 st2 N => ?_
  · refine T2.mk (TPtr.mk (TInt.mk ?_))
    refine BS.dec (fun h1 => ?_) (fun h1 => BS.dec (fun h2 => ?_) (fun h2 => absurd ⟨by omega, by omega⟩ hn))
    · unfold law22_BoxPlays_K1
      refine BS.yes rfl (BS.yes rfl (BS.yes rfl (BS.yes (by simpa using h1) ⟨rfl, fin S⟩)))
    · unfold law22_BoxPlays_K1
      refine BS.yes rfl (BS.yes rfl (BS.yes rfl (BS.no (by simpa using h1) ⟨by rw [decide_eq_true h2], fin S⟩)))
  refine T2.mk (TPtr.mk (TInt.mk ?_))
  refine BS.dec (fun h1 => by omega) (fun h1 => BS.dec (fun h2 => by omega) (fun h2 => ?_))
  clear h1 h2
  unfold law22_BoxPlays_K1
  refine BS.no rfl ?_
  replace t1 := t1.mono' (fun _ _ hp => hp.mono (st2.sub (by decide))) (st2.sub (by decide))
  replace S := S.go st2 (by decide) (by decide)
  obtain ⟨room, rfl⟩ : ∃ room : Nat, n = (room : Int) := ⟨n.toNat, by omega⟩
  rw [Int.toNat_natCast] at N
  refine AllocC.col c2 4 fun a4 c3 w3 st3 b4 _ => ?_
  replace t1 := t1.mono' (fun _ _ hp => hp.mono (st3.fresh.sub (by decide))) (st3.fresh.sub (by decide))
  replace N := N.go st3.fresh ⟨by simp, by simp⟩
  replace S := S.go st3.step (by decide) (by decide)
  have U : RfB c3 4 5 0 w3 ⟨a4, 0, none⟩ (room : Int) [] := ⟨a4, _, rfl, b4, LsZ.nil ..⟩
  refine LoopI.up l.length (fun i w' => ∃ (L : List MsgR) (c' : Nat → Nat), (∀ m ∈ L, m.fair) ∧ Fx w c' w' ∧ LsV BopQ 54 (view c' 0 w') (.slice o0 l.length p0) l ∧ BoxV c' 1 2 w' a room L ∧ RfB c' 4 5 0 w' ⟨a4, 0, none⟩ (room : Int) L) ⟨[], c3, by simp, S, t1, N, U⟩ ?_
  clear S t1 N U b4
  rintro i w4 B hi ⟨L, c4, hfair, S, t1, N, U⟩ back
  have hLr := N.room
  refine BS.dec (fun hlt => ?_) (fun _ => ⟨rfl, fin S⟩)
  obtain ⟨x, hx⟩ := get_of_lt (l := l) (i := i) (by omega)
  obtain ⟨es, ⟨v, va, ua, vh, vb, rfl, M, ok⟩, E1⟩ := LsV.at (by omega) t1 hx
  have sz := bop_len (x := x) (v := v) (va := va) (ua := ua) (vh := vh) (vb := vb) ok
  have szA : (x.cells v va ua vh vb).toArray.size = 54 := by rw [List.size_toArray, sz]
  have ms : (x.m.cells v va ua vh vb).length = 53 := by have := msg_sz ok (v := v) (va := va) (ua := ua) (vh := vh) (vb := vb); simpa using this
  refine Req.bnd ⟨by omega, by omega⟩ (E1.all (view_sub _ _ _) ?_)
  clear E1
  refine AllocC.col c4 8 fun a9 c5 w5 st5 b8 _ => ?_
  replace t1 := t1.mono' (fun _ _ hp => hp.mono (st5.fresh.sub (by decide))) (st5.fresh.sub (by decide)); replace M := M.mono (st5.fresh.sub (by decide))
  replace N := N.go st5.fresh ⟨by simp, by simp⟩
  replace U := U.go st5.fresh ⟨by simp, by simp, by simp⟩
  replace S := S.go st5.step (by decide) (by decide)
  refine RunU.var b8 (by rw [szA]; kernel_rfl) (by rw [szA]; rfl) (bop_one M) fun w6 st6 b8 => ?_
  replace t1 := t1.mono' (fun _ _ hp => hp.mono (st6.step.sub (by decide))) (st6.step.sub (by decide))
  replace N := N.go st6.step ⟨by simp, by simp⟩
  replace U := U.go st6.step ⟨by simp, by simp, by simp⟩
  replace M := M.mono (st6.step.sub (i := 0) (by decide))
  replace S := S.go st6.step (by decide) (by decide)
  refine LoadA.part (view_sub _ _ _) (k := 1) (n := 53) (es := x.m.cells v va ua vh vb) b8 ms bop_msg ?_
  refine Great19_c c5 9 (M.mono (view_sub _ _ _)) ok fun b c7 w7 st7 hb => TBool.mk ?_
  replace t1 := t1.mono' (fun _ _ hp => hp.mono (st7.sub (by decide))) (st7.sub (by decide)); replace M := M.mono (st7.sub (by decide)); replace b8 := st7.sub (by decide) _ _ b8
  replace N := N.go st7 ⟨by simp, by simp⟩
  replace U := U.go st7 ⟨by simp, by simp, by simp⟩
  replace S := S.go st7 (by decide) (by decide)
  refine BS.mk (fun _ => ⟨rfl, fin S⟩) (fun hf => ?_)
  have hmild := hb hf
  -- behind each call: the lengths are alike
  have k4 : ∀ (L : List MsgR) c' w', (∀ m ∈ L, m.fair) → Fx w c' w' ∧ LsV BopQ 54 (view c' 0 w') (.slice o0 l.length p0) l ∧ BoxV c' 1 2 w' a room L ∧ RfB c' 4 5 0 w' ⟨a4, 0, none⟩ (room : Int) L → law22_BoxPlays_K4 (some a) ⟨a4, 0, none⟩ o0 l.length p0 (l.length : Int) (i : Int) B w' (fun r w' => r = .bool true ∧ Below w.heap.size w w') := by
    clear S t1 N U M b8 hfair hLr
    rintro L c8 w8 hfair ⟨S, t1, N, U⟩
    unfold law22_BoxPlays_K4
    refine DrewC.col c8 fun w9 st9 => ?_
    replace t1 := t1.mono' (fun _ _ hp => hp.mono (st9.sub (by decide))) (st9.sub (by decide))
    replace N := N.go st9 ⟨by simp, by simp⟩
    replace U := U.go st9 ⟨by simp, by simp, by simp⟩
    replace S := S.go st9 (by decide) (by decide)
    have U2 := U
    obtain ⟨bu, vu, eu, hbu, hlu⟩ := U2
    cases eu
    obtain ⟨ou, pu, rfl⟩ := hlu.form
    refine LoadC.ad (view_sub _ _ _) _ hbu rfl (TSl.mk ?_)
    refine Len_b N (TInt.mk ⟨StableC.ad (view_sub _ _ _) hbu rfl, BS.no (bne_same _) ?_⟩)
    rw [wrap_i64 (by omega) (by omega)]
    exact back _ (by omega) ⟨L, c8, hfair, S, t1, N, U⟩
  refine LoadC.ad (view_sub _ _ _) (.int .i64 x.kind) b8 rfl (TInt.mk ?_)
  have k2 : ∀ q bq, law22_BoxPlays_K2 (some a) ⟨a4, 0, none⟩ ⟨a9, 0, none⟩ o0 l.length p0 (l.length : Int) (i : Int) q bq B w7 (fun r w' => r = .bool true ∧ Below w.heap.size w w') := by
    intro q bq
    unfold law22_BoxPlays_K2
    refine BS.mk (fun _ => ?_) (fun _ => BS.mk (fun _ => ?_) (fun _ => ?_))
    · -- Take
      refine Take_b 9 20 (by decide) N fun y ya yb yh yc c8 w8 st8 N Y yok => ?_
      replace t1 := t1.mono' (fun _ _ hp => hp.mono (st8.sub (by decide))) (st8.sub (by decide))
      replace U := U.go st8 ⟨by simp, by simp, by simp⟩
      replace S := S.go st8 (by decide) (by decide)
      refine T2.mk (TAgg.mk (TBool.mk ?_))
      refine AllocC.col c8 6 fun a10 c9 w9 st9 b6 _ => ?_
      replace t1 := t1.mono' (fun _ _ hp => hp.mono (st9.fresh.sub (by decide))) (st9.fresh.sub (by decide)); replace Y := Y.mono (st9.fresh.sub (by decide))
      replace N := N.go st9.fresh ⟨by simp, by simp⟩
      replace U := U.go st9.fresh ⟨by simp, by simp, by simp⟩
      replace S := S.go st9.step (by decide) (by decide)
      refine RunU.msg b6 rfl Y yok fun w10 st10 b6 => ?_
      replace t1 := t1.mono' (fun _ _ hp => hp.mono (st10.step.sub (by decide))) (st10.step.sub (by decide)); replace Y := Y.mono (st10.step.sub (by decide))
      replace N := N.go st10.step ⟨by simp, by simp⟩
      replace U := U.go st10.step ⟨by simp, by simp, by simp⟩
      replace S := S.go st10.step (by decide) (by decide)
      refine Take_r 9 21 (by decide) U fun z za zb zh zc c11 w11 st11 U Z => ?_
      replace t1 := t1.mono' (fun _ _ hp => hp.mono (st11.sub (by decide))) (st11.sub (by decide)); replace b6 := st11.sub (by decide) _ _ b6; replace Y := Y.mono (st11.sub (by decide))
      replace N := N.go st11 ⟨by simp, by simp⟩
      replace S := S.go st11 (by decide) (by decide)
      refine T2.mk (TAgg.mk (TBool.mk ?_))
      refine AllocC.col c11 7 fun a12 c12 w12 st12 b7 _ => ?_
      replace t1 := t1.mono' (fun _ _ hp => hp.mono (st12.fresh.sub (by decide))) (st12.fresh.sub (by decide)); replace b6 := st12.fresh.sub (by decide) _ _ b6; replace Y := Y.mono (st12.fresh.sub (by decide)); replace Z := Z.mono (st12.fresh.sub (by decide))
      replace N := N.go st12.fresh ⟨by simp, by simp⟩
      replace U := U.go st12.fresh ⟨by simp, by simp, by simp⟩
      replace S := S.go st12.step (by decide) (by decide)
      refine RunU.msg b7 rfl Z yok fun w13 st13 b7 => ?_
      replace t1 := t1.mono' (fun _ _ hp => hp.mono (st13.step.sub (by decide))) (st13.step.sub (by decide)); replace b6 := st13.step.sub (by decide) _ _ b6; replace Y := Y.mono (st13.step.sub (by decide))
      replace Z := Z.mono (st13.step.sub (i := 0) (by decide))
      replace N := N.go st13.step ⟨by simp, by simp⟩
      replace U := U.go st13.step ⟨by simp, by simp, by simp⟩
      replace S := S.go st13.step (by decide) (by decide)
      refine BS.no (by simp) ?_
      refine LoadA.all (view_sub _ _ _) b6 (msg_sz yok) (LoadA.all (view_sub _ _ _) b7 (msg_sz yok) ?_)
      have hdf : (L.headD MsgR.zero).fair := by
        cases L with
        | nil => exact zero_mild.fair
        | cons m r => exact hfair m (by simp)
      refine Same19_c c12 9 (Y.mono (view_sub _ _ _)) (Z.mono (view_sub _ _ _)) yok yok hdf fun sb c14 w14 st14 hsb => TBool.mk ?_
      replace t1 := t1.mono' (fun _ _ hp => hp.mono (st14.sub (by decide))) (st14.sub (by decide))
      replace N := N.go st14 ⟨by simp, by simp⟩
      replace U := U.go st14 ⟨by simp, by simp, by simp⟩
      replace S := S.go st14 (by decide) (by decide)
      rw [hsb.2 rfl]
      unfold law22_BoxPlays_K3
      exact BS.no rfl (k4 _ _ _ (fun m hm => hfair m (List.mem_of_mem_tail hm)) ⟨S, t1, N, U⟩)
    · -- Drain
      refine Drain_b (k := 22) 9 (by decide) (by omega) N fun oD pD c8 w8 st8 N T => TSl.mk ?_
      replace t1 := t1.mono' (fun _ _ hp => hp.mono (st8.sub (by decide))) (st8.sub (by decide))
      replace U := U.go st8 ⟨by simp, by simp, by simp⟩
      replace S := S.go st8 (by decide) (by decide)
      obtain ⟨bu, vu, eu, hbu, hlu⟩ := U
      cases eu
      obtain ⟨ou, pu, rfl⟩ := hlu.form
      refine LoadC.ad (view_sub _ _ _) _ hbu rfl (TSl.mk (BS.no (bne_same _) ?_))
      refine LoopI.up L.length (fun j w' => ∃ c', Fx w c' w' ∧ LsV BopQ 54 (view c' 0 w') (.slice o0 l.length p0) l ∧ BoxV c' 1 2 w' a room [] ∧ view c' 4 w' a4 = some (.cells #[.int .i64 (room : Int), .slice ou L.length pu] 53 (0, 0)) ∧ LsZ MsgP 37 53 (view c' 5 w') (view c' 0 w') (.slice ou L.length pu) L ∧
        LsO MsgP 37 53 (view c' 22 w') (view c' 2 w') (.slice oD L.length pD) L) ⟨c8, S, t1, N, hbu, hlu, T⟩ ?_
      clear S t1 N hbu hlu T M b8
      rintro j w9 B2 hj ⟨c9, S, t1, N, hbu, hlu, T⟩ back2
      refine BS.dec (fun hjl => ?_) (fun _ => ?_)
      · obtain ⟨m, hm⟩ := get_of_lt (l := L) (i := j) (by omega)
        refine DrewC.col c9 fun w10 st10 => ?_
        replace t1 := t1.mono' (fun _ _ hp => hp.mono (st10.sub (by decide))) (st10.sub (by decide))
        replace N := N.go st10 ⟨by simp, by simp⟩
        replace hbu := st10.sub (by decide) _ _ hbu
        replace hlu := hlu.mono' (fun _ _ hp => hp.mono (st10.sub (by decide))) (st10.sub (by decide))
        replace T := T.mono' (fun _ _ hp => hp.mono (st10.sub (by decide))) (st10.sub (by decide))
        replace S := S.go st10 (by decide) (by decide)
        obtain ⟨es, ⟨y, ya, yb, yh, yc, rfl, Y, yok⟩, E⟩ := LsO.at' (by omega) T hm
        obtain ⟨fs, ⟨z, za, zb, zh, zc, rfl, Z, zok⟩, F⟩ := LsZ.at (by omega) hlu hm
        refine Req.bnd ⟨by omega, by omega⟩ (E.all (view_sub _ _ _) ?_)
        refine LoadC.ad (view_sub _ _ _) _ hbu rfl (TSl.mk ?_)
        refine Req.bnd ⟨by omega, by omega⟩ (F.all (view_sub _ _ _) ?_)
        clear E F
        refine Same19_c c9 9 (Y.mono (view_sub _ _ _)) (Z.mono (view_sub _ _ _)) yok zok (hfair m (List.mem_of_getElem? hm)) fun sb c11 w11 st11 hsb => TBool.mk ?_
        replace t1 := t1.mono' (fun _ _ hp => hp.mono (st11.sub (by decide))) (st11.sub (by decide))
        replace N := N.go st11 ⟨by simp, by simp⟩
        replace hbu := st11.sub (by decide) _ _ hbu
        replace hlu := hlu.mono' (fun _ _ hp => hp.mono (st11.sub (by decide))) (st11.sub (by decide))
        replace T := T.mono' (fun _ _ hp => hp.mono (st11.sub (by decide))) (st11.sub (by decide))
        replace S := S.go st11 (by decide) (by decide)
        rw [hsb.2 rfl]
        refine BS.no rfl ?_
        rw [wrap_i64 (by omega) (by omega)]
        exact back2 _ (by omega) ⟨c11, S, t1, N, hbu, hlu, T⟩
      · refine StoreC.ad hbu (by simp) fun w12 _ st12 hbu => ?_
        replace t1 := t1.mono' (fun _ _ hp => hp.mono (st12.sub (by decide))) (st12.sub (by decide))
        replace N := N.go st12 ⟨by simp, by simp⟩
        replace S := S.go st12 (by decide) (by decide)
        exact k4 [] _ _ (by simp) ⟨S, t1, N, a4, _, rfl, hbu, LsZ.nil ..⟩
    · -- Put
      refine LoadA.part (view_sub _ _ _) (k := 1) (n := 53) (es := x.m.cells v va ua vh vb) b8 ms bop_msg ?_
      refine Put_b 9 (by decide) N (M.mono (view_sub _ _ _)) ok hmild fun c8 w8 st8 N => TInt.mk ?_
      replace t1 := t1.mono' (fun _ _ hp => hp.mono (st8.sub (by decide))) (st8.sub (by decide)); replace M := M.mono (st8.sub (by decide)); replace b8 := st8.sub (by decide) _ _ b8
      replace U := U.go st8 ⟨by simp, by simp, by simp⟩
      replace S := S.go st8 (by decide) (by decide)
      refine LoadA.part (view_sub _ _ _) (k := 1) (n := 53) (es := x.m.cells v va ua vh vb) b8 ms bop_msg ?_
      refine Put_r 9 (by decide) (by decide) (by decide) U M ok (by omega) fun c9 w9 st9 U => TBool.mk ?_
      replace t1 := t1.mono' (fun _ _ hp => hp.mono (st9.sub (by decide))) (st9.sub (by decide))
      replace N := N.go st9 ⟨by simp, by simp⟩
      replace S := S.go st9 (by decide) (by decide)
      by_cases hroom : L.length < room
      · rw [if_pos hroom] at N ⊢
        rw [if_pos (by omega)] at U
        rw [decide_eq_true (by omega)]
        refine BS.no rfl (BS.no rfl ?_)
        refine k4 _ _ _ (fun m hm => ?_) ⟨S, t1, N, U⟩
        rcases List.mem_append.1 hm with hm | hm
        · exact hfair m hm
        · rw [List.mem_singleton] at hm; subst hm; exact hmild.fair
      · rw [if_neg hroom] at N ⊢
        rw [if_neg (by omega)] at U
        rw [decide_eq_false (by omega)]
        refine BS.no rfl (BS.yes rfl (BS.no rfl ?_))
        exact k4 _ _ _ hfair ⟨S, t1, N, U⟩
  exact BS.mk (fun _ => k2 _ _) (fun _ => k2 _ _)
end Go.Proofs.Ytfploingelmpkaa.walkBx

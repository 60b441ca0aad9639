/-
  Chapter 22's laws, walked: the example; what comes in order.
-/
import Derived.Test.YtfploingelmpkaaBx5
import Derived.Test.YtfploingelmpkaaArgs
set_option linter.unusedVariables false
set_option linter.unusedSimpArgs false
namespace Go.Vc
open Go
theorem slBase_zero (o : Option Addr) (m z : Nat) : slBase o m 0 z = o := by
  unfold slBase
  split
  · rfl
  · cases o with
    | none => rfl
    | some a => simp [Addr.add]
def uvs (l : List Nat) : List Value := l.map u64v
@[simp] theorem uvs_length (l : List Nat) : (uvs l).length = l.length := by simp [uvs]
theorem uvs_append (l m : List Nat) : uvs (l ++ m) = uvs l ++ uvs m := by simp [uvs]
theorem uvs_one (l : List Nat) : ∀ u ∈ uvs l, u.oneCell' = true := by
  intro u hu; obtain ⟨x, _, rfl⟩ := List.mem_map.1 hu; rfl
theorem app_u64s {P : Program} {t e ty : Nat} (hT : SlT P t e 1 8) {c : Nat → Nat} {i : Nat} {w : World} {s x : Value} {l m : List Nat} (ho : OwS (view c i w) s e 1 l.length (uvs l)) (hr : RdS (Vc.wv w) x 1 m.length (uvs m))
    (hm : l.length + m.length ≤ 8796093022208) {K : Value → World → Prop}
    (h : ∀ o cp c' w', Wr c i w c' w' s.ownBlock → OwS (view c' i w') (.slice o (l ++ m).length cp) e 1 (l ++ m).length (uvs (l ++ m)) → K (.slice o (l ++ m).length cp) w') :
    RunV P (Builtin.append_ #[t, t] ty #[s, x]) w K := by
  refine append_col hT ho hr (uvs_one _) (by omega) (by omega) fun v' c' w' h1 h2 _ => ?_
  rw [← List.length_append, ← uvs_append] at h2
  obtain ⟨o, cp, rfl⟩ := h2.form
  exact h o cp c' w' h1 h2
end Go.Vc
namespace Go.Proofs.Ytfploingelmpkaa
open Go.Vc
theorem slU64 : SlT Try.prog 58 22 1 8 := .of (by kernel_rfl)
end Go.Proofs.Ytfploingelmpkaa
namespace Go.Proofs.Ytfploingelmpkaa.walkBx
open Go.Vc Go.ChangeShapes Go.WideShapes Go.ChangeAt Go.RowKit
attribute [local irreducible] TInt TBool TStr TPtr TSl TAgg TMap TChan T2 T3 T4 BS Req TSome TCell TByte LoadC LoadA StoreC AllocC RunV RunU CallV ExtV EqA StableC StableA StableV TCells ReadV
attribute [local irreducible] DrewC
theorem fin {w : World} {c' w'} (S : Fx w c' w') : Below w.heap.size w w' := Step.below S fun _ => by simp
theorem speaks22 (c0 : Nat → Nat) {w : World} {R : Value → World → Prop} (h : ∀ c' w', Step c0 [] [0, 1, 2, 3, 4, 5, 6, 7, 8, 9, 20, 21, 22, 23, 24, 25, 26] w c' w' → R (.bool true) w') : CallV Try.prog 6 #[] w R := by
  have S := Fx.start w
  have o5 : (mV 0 5).ok := mV_ok (by omega)
  have o6 : (mV 0 6).ok := mV_ok (by omega)
  refine law22_speaks_vc ?_
  unfold law22_speaks_VC
  refine New_b (fun _ => 0) 1 2 (fun hn => absurd ⟨by omega, by omega⟩ hn) fun _ a c1 w1 st1 N => T2.mk (TPtr.mk (TInt.mk (BS.no rfl ?_)))
  replace S := S.go st1 (by decide) (by decide)
  unfold law22_speaks_K1
  refine BS.no rfl ?_
  refine Put_b (m := mV 0 5) (v := nilV) (va := nilV) (ua := nilV) (vh := nilV) (vb := nilV) 8 (by decide) N (mVV (wv w1) 0 5) o5 (mV_mild _ _) fun c2 w2 st2 N => ?_
  replace S := S.go st2 (by decide) (by decide)
  rw [if_pos (by simp)] at N
  rw [if_pos (by simp)]
  refine TInt.mk ?_
  refine Put_b (m := mV 0 6) (v := nilV) (va := nilV) (ua := nilV) (vh := nilV) (vb := nilV) 8 (by decide) N (mVV (wv w2) 0 6) o6 (mV_mild _ _) fun c3 w3 st3 N => ?_
  replace S := S.go st3 (by decide) (by decide)
  rw [if_neg (by simp)] at N
  rw [if_neg (by simp)]
  refine TInt.mk ?_
  refine Take_b 8 9 (by decide) N fun x xa ya xh xb c4 w4 st4 N M ok => ?_
  replace S := S.go st4 (by decide) (by decide)
  refine T2.mk (TAgg.mk (TBool.mk ?_))
  refine AllocC.col c4 6 fun a5 c5 w5 st5 b6 _ => ?_
  replace M := M.mono (st5.fresh.sub (by decide))
  replace N := N.go st5.fresh ⟨by simp, by simp⟩
  replace S := S.go st5.step (by decide) (by decide)
  refine RunU.msg b6 rfl M ok fun w6 st6 b6 => ?_
  replace N := N.go st6.step ⟨by simp, by simp⟩
  replace S := S.go st6.step (by decide) (by decide)
  refine Take_b 8 9 (by decide) N fun y ya yb yh yc c7 w7 st7 N Y ok2 => ?_
  replace b6 := st7.sub (by decide) _ _ b6
  replace S := S.go st7 (by decide) (by decide)
  refine T2.mk (TAgg.mk (TBool.mk ?_))
  refine AllocC.col c7 7 fun a7 c8 w8 st8 b7 _ => ?_
  replace Y := Y.mono (st8.fresh.sub (by decide)); replace b6 := st8.fresh.sub (by decide) _ _ b6
  replace S := S.go st8.step (by decide) (by decide)
  refine RunU.msg b7 rfl Y ok2 fun w9 st9 b7 => ?_
  replace b6 := st9.step.sub (by decide) _ _ b6
  replace S := S.go st9.step (by decide) (by decide)
  refine BS.yes rfl (BS.yes rfl (BS.yes rfl ?_))
  refine LoadC.ad (view_sub _ _ _) (.int .u64 5) b6 rfl (TInt.mk (BS.yes rfl ?_))
  exact h _ _ (S.leave c0)
theorem order (n : Int) (l : List Nat) (o0 : Option Addr) (p0 : Nat) (w : World) (hT : LsV u64P 1 (wv w) (.slice o0 l.length p0) l) :
    CallV Try.prog 5 #[.int .i64 n, .slice o0 l.length p0] w fun r w' => r = .bool true ∧ Below w.heap.size w w' := by
  have t0 : LsV u64P 1 (view (fun _ => 0) 0 w) (.slice o0 l.length p0) l := by rw [view0]; exact hT
  have S := Fx.start w
  refine law22_BoxOrder_vc ?_
  unfold law22_BoxOrder_VC
  refine speaks22 (fun _ => 0) fun c1 w1 st1 => TBool.mk (BS.no rfl ?_)
  replace t0 := u64_go t0 st1 (by decide)
  replace S := S.go st1 (by decide) (by decide)
  refine BS.dec (fun _ => ⟨rfl, fin S⟩) (fun hl => ?_)
  refine New_b c1 1 2 (fun hn => ?_) fun hn a c2 w2 st2 N => ?_
  · refine T2.mk (TPtr.mk (TInt.mk (BS.yes rfl (BS.dec (fun _ => ⟨rfl, fin S⟩) (fun h1 => ⟨?_, fin S⟩)))))
    rw [decide_eq_true (by omega)]
  refine T2.mk (TPtr.mk (TInt.mk (BS.no rfl ?_)))
  replace t0 := u64_go t0 st2 (by decide)
  replace S := S.go st2 (by decide) (by decide)
  refine AllocC.col c2 3 fun a36 c3 w3 st3 b3 _ => ?_
  replace t0 := u64_go t0 st3.fresh (by decide)
  replace N := N.go st3.fresh ⟨by simp, by simp⟩
  replace S := S.go st3.step (by decide) (by decide)
  refine LoopSI.up l.length (fun i o q p w' => ∃ c', q = min n.toNat i ∧ Fx w c' w' ∧ LsV u64P 1 (view c' 0 w') (.slice o0 l.length p0) l ∧ BoxV c' 1 2 w' a n.toNat ((l.take (min n.toNat i)).map (mV 0)) ∧ OwS (view c' 3 w') (.slice o q p) 22 1 (min n.toNat i) (uvs (l.take (min n.toNat i)))) ⟨c3, by simp, S, t0, by simpa using N, by simpa [uvs] using OwS.empty b3⟩ ?_
  clear S t0 N b3
  rintro i o _ p w4 B hi ⟨c4, rfl, S, t0, N, ho⟩ back
  have hlen : ((l.take (min n.toNat i)).map (mV 0)).length = min n.toNat i := by simp; omega
  refine BS.dec (fun hlt => ?_) (fun _ => ?_)
  · obtain ⟨v, hv⟩ := get_of_lt (l := l) (i := i) (by omega)
    obtain ⟨es, ⟨rfl, hv64⟩, E⟩ := LsV.at (by omega) t0 hv
    refine Req.bnd ⟨by omega, by omega⟩ (E.ld0 (view_sub _ _ _) rfl (TInt.mk ?_))
    refine Put_b (m := mV 0 v) (v := nilV) (va := nilV) (ua := nilV) (vh := nilV) (vb := nilV) 8 (by decide) N (mVV (wv w4) 0 v) (mV_ok hv64) (mV_mild _ _) fun c5 w5 st5 N => ?_
    replace t0 := u64_go t0 st5 (by decide)
    replace ho := ho.mono (st5.sub (by decide))
    replace S := S.go st5 (by decide) (by decide)
    rw [hlen] at N ⊢
    by_cases hroom : min n.toNat i < n.toNat
    · have e1 : min n.toNat i = i := by omega
      have e2 : min n.toNat (i + 1) = i + 1 := by omega
      rw [if_pos hroom] at N
      rw [if_pos hroom]
      refine TInt.mk (BS.yes rfl ?_)
      refine AllocC.col c5 4 fun a50 c6 w6 st6 b4 _ => ?_
      replace t0 := u64_go t0 st6.fresh (by decide)
      replace N := N.go st6.fresh ⟨by simp, by simp⟩
      replace ho := ho.mono (st6.fresh.sub (by decide))
      replace S := S.go st6.step (by decide) (by decide)
      have ho' : OwS (view c6 3 w6) (.slice o (min n.toNat i) p) 22 1 (l.take i).length (uvs (l.take i)) := by
        rw [e1] at ho ⊢
        rw [List.length_take, Nat.min_eq_left (by omega)]; exact ho
      have one : RdS (wv w6) (.slice (some ⟨a50, 0, none⟩) 1 1) 1 [v].length (uvs [v]) := (RdS.block b4 (by simp [uvs]) (Nat.le_refl _)).mono (view_sub _ _ _)
      refine app_u64s slU64 ho' one (by simp; omega) fun o7 p7 c7 w7 st7 ho => TSl.mk ?_
      replace t0 := u64_go t0 st7.step (by decide)
      replace N := N.go st7.step ⟨by simp, by simp⟩
      replace S := S.go st7.step (by decide) (by decide)
      rw [wrap_i64 (by omega) (by omega)]
      have e3 : l.take (i + 1) = l.take i ++ [v] := by rw [List.take_add_one, hv]; rfl
      have e4 : (l.take i ++ [v]).length = i + 1 := by simp; omega
      refine back _ _ _ _ (by omega) ⟨c7, by rw [e2, e4], S, t0, ?_, ?_⟩
      · rw [e2, e3, List.map_append]; rw [e1] at N; exact N
      · rw [e2, e3]; rw [e4] at ho ⊢; exact ho
    · have e2 : min n.toNat (i + 1) = min n.toNat i := by omega
      rw [if_neg hroom] at N
      rw [if_neg hroom]
      refine TInt.mk (BS.no rfl ?_)
      rw [wrap_i64 (by omega) (by omega)]
      exact back _ _ _ _ (by omega) ⟨c5, by rw [e2], S, t0, by rw [e2]; exact N, by rw [e2]; exact ho⟩
  have : i = l.length := by omega
  subst this
  clear back B hi t0
  generalize hk : min n.toNat l.length = k at N ho hlen
  have hkl : k ≤ l.length := by omega
  generalize hin : l.take k = inn at N ho hlen
  have hinl : inn.length = k := by rw [← hin, List.length_take]; omega
  refine BS.no (by simp; omega) ?_
  refine Len_b N (TInt.mk ?_)
  rw [hlen]
  unfold law22_BoxOrder_K1
  refine BS.no (bne_same _) ?_
  have hhalf : IntKind.wrap .i64 (Int.tdiv ((k : Nat) : Int) 2) = ((k / 2 : Nat) : Int) := by
    rw [Int.tdiv_eq_ediv_of_nonneg (by omega), wrap_i64 (by omega) (by omega)]; omega
  rw [hhalf]
  obtain ⟨_, hkp, _⟩ := ho.len
  refine Req.bndle ⟨by omega, by omega⟩ ?_
  rw [Int.toNat_natCast]
  have hall : ∀ v ∈ inn, v < 18446744073709551616 := by
    intro v hv
    have hm : mV 0 v ∈ inn.map (mV 0) := List.mem_map_of_mem hv
    have := N.all _ hm
    exact this.1
  refine LoopI.up (k / 2) (fun i w' => ∃ c', Fx w c' w' ∧ BoxV c' 1 2 w' a n.toNat ((inn.drop i).map (mV 0)) ∧ OwS (view c' 3 w') (.slice o k p) 22 1 k (uvs inn)) ⟨c4, S, by rw [List.drop_zero]; exact N, ho⟩ ?_
  clear S N ho
  rintro i w5 B hi ⟨c5, S, N, ho⟩ back
  refine BS.dec (fun hlt => ?_) (fun _ => ?_)
  · obtain ⟨v, hv⟩ := get_of_lt (l := inn) (i := i) (by omega)
    have hu : (uvs inn)[i]? = some (u64v v) := by simp [uvs, hv]
    have hd : inn.drop i = v :: inn.drop (i + 1) := by
      have := List.drop_eq_getElem_cons (l := inn) (i := i) (by omega)
      rw [this]; congr 1
      rw [List.getElem?_eq_getElem (by omega)] at hv
      simpa using hv
    rw [slBase_zero]
    refine Req.bnd ⟨by omega, by omega⟩ (RdS.elt (view_sub c5 3 w5) ho.rd hu (TInt.mk ?_))
    rw [hd, List.map_cons] at N
    refine Take_b 8 9 (by decide) N fun x xa ya xh xb c6 w6 st6 N M ok => ?_
    replace ho := ho.mono (st6.sub (by decide))
    replace S := S.go st6 (by decide) (by decide)
    replace N : BoxV c6 1 2 w6 a n.toNat ((inn.drop (i + 1)).map (mV 0)) := N
    replace M : MsgV (view c6 2 w6) (mV 0 v) x xa ya xh xb := M
    replace ok : (mV 0 v).ok := ok
    refine T2.mk (TAgg.mk (TBool.mk ?_))
    refine AllocC.col c6 6 fun a13 c7 w7 st7 b6 _ => ?_
    replace N := N.go st7.fresh ⟨by simp, by simp⟩
    replace M := M.mono (st7.fresh.sub (by decide)); replace ho := ho.mono (st7.fresh.sub (by decide))
    replace S := S.go st7.step (by decide) (by decide)
    refine RunU.msg b6 rfl M ok fun w8 st8 b6 => ?_
    replace N := N.go st8.step ⟨by simp, by simp⟩
    replace ho := ho.mono (st8.step.sub (by decide))
    replace S := S.go st8.step (by decide) (by decide)
    refine BS.no rfl ?_
    refine LoadC.ad (view_sub _ _ _) (.int .u64 v) b6 rfl (TInt.mk (BS.no (bne_same _) ?_))
    rw [wrap_i64 (by omega) (by omega)]
    exact back _ (by omega) ⟨c7, S, N, ho⟩
  have : i = k / 2 := by omega
  subst this
  clear back B hi
  have hdl : ((inn.drop (k / 2)).map (mV 0)).length = k - k / 2 := by rw [List.length_map, List.length_drop, hinl]
  refine Drain_b (k := 4) 8 (by decide) (by omega) N fun oD pD c6 w6 st6 N T => ?_
  replace ho := ho.mono (st6.sub (by decide))
  replace S := S.go st6 (by decide) (by decide)
  rw [hdl] at T ⊢
  refine TSl.mk ?_
  refine LoopI.up (k - k / 2) (fun i w' => ∃ c', Fx w c' w' ∧ BoxV c' 1 2 w' a n.toNat [] ∧ OwS (view c' 3 w') (.slice o k p) 22 1 k (uvs inn) ∧ LsO MsgP 37 53 (view c' 4 w') (view c' 2 w') (.slice oD (k - k / 2) pD) ((inn.drop (k / 2)).map (mV 0))) ⟨c6, S, N, ho, T⟩ ?_
  clear S N ho T
  rintro i w7 B hi ⟨c7, S, N, ho, T⟩ back
  refine BS.dec (fun hlt => ?_) (fun _ => ?_)
  · obtain ⟨v, hv⟩ := get_of_lt (l := inn) (i := k / 2 + i) (by omega)
    have hm : ((inn.drop (k / 2)).map (mV 0))[i]? = some (mV 0 v) := by rw [List.getElem?_map, List.getElem?_drop, hv]; rfl
    have hu : (uvs inn)[k / 2 + i]? = some (u64v v) := by simp [uvs, hv]
    obtain ⟨es, ⟨x, xa, ya, xh, xb, rfl, M, ok⟩, E⟩ := LsO.at' (by omega) T hm
    refine Req.bnd ⟨by omega, by omega⟩ (E.all (view_sub _ _ _) ?_)
    clear E
    refine AllocC.col c7 6 fun a17 c8 w8 st8 b6 _ => ?_
    replace N := N.go st8.fresh ⟨by simp, by simp⟩
    replace T := T.mono' (fun _ _ hp => hp.mono (st8.fresh.sub (by decide))) (st8.fresh.sub (by decide))
    replace M := M.mono (st8.fresh.sub (by decide)); replace ho := ho.mono (st8.fresh.sub (by decide))
    replace S := S.go st8.step (by decide) (by decide)
    refine RunU.msg b6 rfl M ok fun w9 st9 b6 => ?_
    replace N := N.go st9.step ⟨by simp, by simp⟩
    replace T := T.mono' (fun _ _ hp => hp.mono (st9.step.sub (by decide))) (st9.step.sub (by decide))
    replace ho := ho.mono (st9.step.sub (by decide))
    replace S := S.go st9.step (by decide) (by decide)
    refine DrewC.col c8 fun w10 st10 => ?_
    replace N := N.go st10 ⟨by simp, by simp⟩
    replace T := T.mono' (fun _ _ hp => hp.mono (st10.sub (by decide))) (st10.sub (by decide))
    replace ho := ho.mono (st10.sub (by decide)); replace b6 := st10.sub (by decide) _ _ b6
    replace S := S.go st10 (by decide) (by decide)
    refine LoadC.ad (view_sub _ _ _) (.int .u64 v) b6 rfl (TInt.mk ?_)
    have ei : IntKind.wrap .i64 (((k / 2 : Nat) : Int) + (i : Int)) = ((k / 2 + i : Nat) : Int) := by rw [wrap_i64 (by omega) (by omega)]; omega
    rw [ei]
    refine Req.bnd ⟨by omega, by omega⟩ (RdS.elt (view_sub c8 3 w10) ho.rd hu (TInt.mk (BS.no (bne_same _) ?_)))
    rw [wrap_i64 (by omega) (by omega)]
    exact back _ (by omega) ⟨c8, S, N, ho, T⟩
  have e1 : ((((k - k / 2 : Nat) : Int)) == IntKind.wrap .i64 ((k : Int) - ((k / 2 : Nat) : Int))) = true := by
    rw [wrap_i64 (by omega) (by omega), beq_iff_eq]; omega
  refine BS.yes e1 ?_
  refine Len_b N (TInt.mk ?_)
  exact ⟨rfl, fin S⟩
end Go.Proofs.Ytfploingelmpkaa.walkBx

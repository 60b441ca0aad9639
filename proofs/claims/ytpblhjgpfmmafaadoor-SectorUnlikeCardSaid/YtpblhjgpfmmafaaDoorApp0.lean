/-
  Memory: noughts appended to a slice of one's own.
-/
import Derived.Test.YtpblhjgpfmmafaaDoorFrame
import Derived.Lib.AppendZerosOnto
set_option linter.unusedVariables false
set_option linter.unusedSimpArgs false
namespace Go.Vc
open Go
theorem zeroCells_u8 (n : Nat) : Builtin.zeroCells #[Value.int .u8 0] n = (bvs (List.replicate n 0)).toArray := by
  apply Array.ext'
  simp [Builtin.zeroCells, bvs, bv]
  apply List.ext_getElem?
  intro i
  rw [List.getElem?_map, List.getElem?_replicate]
  rcases Nat.lt_or_ge i n with h | h
  · rw [List.getElem?_range h, if_pos h]; simp [Nat.mod_one]
  · rw [List.getElem?_eq_none (by simpa using h), if_neg (by omega)]; rfl
section
variable {P : Program}
theorem app_zeros {t tn e ty : Nat} {kn : IntKind} (hT : SlT P t e 1 1) (htn : P.underlying tn = some (.int kn)) (hz0 : (P.info? e).bind (·.zero) = some (.int .u8 0)) {c : Nat → Nat} {i : Nat} {w : World} {s : Value} {l : List UInt8} {n : Nat}
    (ho : OwS (view c i w) s e 1 l.length (bvs l)) (hm : l.length + n ≤ 140737488355328) {K : Value → World → Prop}
    (h : ∀ o cp c' w', Wr c i w c' w' s.ownBlock → OwS (view c' i w') (.slice o (l ++ List.replicate n 0).length cp) e 1 (l ++ List.replicate n 0).length (bvs (l ++ List.replicate n 0)) → K (.slice o (l ++ List.replicate n 0).length cp) w') :
    RunV P (Builtin.append_ #[t, tn] ty #[s, .int .i64 (n : Int)]) w K := by
  obtain ⟨ti, zv, hi, hsz, hby, hz, hzs⟩ := hT.inf
  have hzv : zv = .int .u8 0 := by rw [hi] at hz0; simp only [Option.bind_some] at hz0; rw [hz] at hz0; exact Option.some.inj hz0
  subst hzv
  have hll : (l ++ List.replicate n (0 : UInt8)).length = l.length + n := by simp
  have hcol : ∀ b, s.ownBlock = some b → c b = i := fun b hb => by obtain ⟨cur, hc⟩ := ho.block b hb; exact (view_out hc).1
  have hw : IntKind.i64.wrap (n : Int) = n := wrap_i64 (by omega) (by omega)
  have hneg : ¬ ((n : Int) < 0) := by omega
  have h48i : ¬ (281474976710656 < (n : Int) * (ti.bytes : Int)) := by rw [hby]; omega
  by_cases hn0 : n = 0
  · subst hn0
    simp only [List.replicate_zero, List.append_nil] at h hll ⊢
    obtain ⟨o, cp, rfl⟩ := ho.form
    refine RunV.mk (v := .slice o l.length cp) (w' := w) ?_ (h o cp c w (.same ⟨rfl, rfl, rfl, Nat.le_refl _, fun _ _ _ => rfl⟩ rfl hcol) ho)
    have hcap := ho.len.2.1
    cases o with
    | none => simp [Builtin.append_, run_underlying hT.und, run_underlying htn, sizeOf, typeInfo, hi, asInt, asIntOf, IntKind.wrap_i64, hcap]
    | some a => simp [Builtin.append_, run_underlying hT.und, run_underlying htn, sizeOf, typeInfo, hi, asInt, asIntOf, IntKind.wrap_i64, hcap, storeCells]
  · have hns : ¬ (n * ti.size = 0) := by rw [hsz]; omega
    have grown : ∀ (old : Nat), old < l.length + n →
        OwS (view (ext c w.heap.size i) i (w.drew.alloc (.cells ((bvs l).toArray ++ Builtin.zeroCells #[Value.int .u8 0] n ++ Builtin.zeroCells #[Value.int .u8 0] (grownCap w (l.length + n) old e - (l.length + n))) e)))
          (.slice (some ⟨w.heap.size, 0, none⟩) (l ++ List.replicate n 0).length (grownCap w (l.length + n) old e)) e 1 (l ++ List.replicate n 0).length (bvs (l ++ List.replicate n 0)) ∧
        Wr c i w (ext c w.heap.size i) (w.drew.alloc (.cells ((bvs l).toArray ++ Builtin.zeroCells #[Value.int .u8 0] n ++ Builtin.zeroCells #[Value.int .u8 0] (grownCap w (l.length + n) old e - (l.length + n))) e)) s.ownBlock := by
      intro old hold
      have hge := grownCap_ge w (l.length + n) old e
      have hcm : grownCap w (l.length + n) old e ≤ maxLen := grownCap_le_maxLen w (l.length + n) old e (by simp only [maxLen]; omega)
      refine ⟨⟨by simp, .inr ⟨w.heap.size, _, _, rfl, view_in (ext_new (Nat.le_refl _)) (heap_alloc_new w.drew _), by rw [hll]; exact hge, hcm, ?_, ?_⟩⟩, .of_grown ⟨rfl, rfl, rfl, by simp, fun k hk _ => heap_alloc_old w.drew _ hk⟩ hcol⟩
      · simp only [zeroCells_u8, Array.size_append, List.size_toArray, bvs_length, List.length_replicate]; omega
      · simp only [zeroCells_u8, Array.toList_append, bvs_append, Nat.mul_one]
        rw [show (l ++ List.replicate n (0 : UInt8)).length = (bvs l ++ bvs (List.replicate n 0)).length by simp]
        exact List.take_left
    obtain ⟨_, hos⟩ := id ho
    rcases hos with ⟨rfl, hl0⟩ | ⟨g, cap, cur, rfl, hg, hnc, hcm, hcs, htake⟩
    · have hl : l = [] := List.eq_nil_of_length_eq_zero hl0
      subst hl
      have hrun := Go.Lib.run_append_nil_zeros (P := P) w t tn ty e ti (.int .u8 0) .i64 kn hT.und htn hi hz n (by omega) (by rw [hsz]; omega) (by omega) (by rw [hby]; omega)
      have hgr := grown 0 (by simp; omega)
      simp only [List.length_nil, Nat.zero_add, bvs, List.map_nil, Array.empty_append] at hgr
      have e0 : ([] ++ List.replicate n (0 : UInt8)).length = n := by simp
      rw [show (Value.int .u8 0).cells = #[Value.int .u8 0] from rfl] at hrun
      have hf := h (some ⟨w.heap.size, 0, none⟩) (grownCap w n 0 e) _ _ hgr.2 hgr.1
      rw [e0] at hf
      exact .mk hrun hf
    · have hgw := (view_out hg).2
      by_cases hroom : l.length + n ≤ cap
      · have hst := run_storeCells_at P g l.length e (bvs (List.replicate n 0)) 0 cur w hgw (by simp; omega) (bvs_one _)
        simp only [Nat.add_zero] at hst
        have hrun : (Builtin.append_ #[t, tn] ty #[.slice (some ⟨g, 0, none⟩) l.length cap, .int .i64 (n : Int)]).run P w =
            .ok (.slice (some ⟨g, 0, none⟩) (l.length + n) cap) (w.setRow g (cur.toList.take l.length ++ bvs (List.replicate n 0) ++ cur.toList.drop (l.length + (bvs (List.replicate n 0)).length)).toArray) := by
          have hz1 : (Builtin.zeroCells (Value.int .u8 0).cells n).toList = bvs (List.replicate n 0) := by
            rw [show (Value.int .u8 0).cells = #[Value.int .u8 0] from rfl, zeroCells_u8]
          simp [Builtin.append_, run_underlying hT.und, run_underlying htn, sizeOf, typeInfo, zeroValue, hi, hz, asInt, asIntOf, hw, hneg, hn0, hsz, h48i, hroom, addr_add, hz1, hst]
        rw [← hll] at hrun
        refine .mk hrun (h (some ⟨g, 0, none⟩) cap c _ (.same ⟨rfl, rfl, rfl, by simp, fun k _ hk => setRow_other w g k _ (fun e => hk (by simp [Value.ownBlock, e]))⟩ (by simp) hcol) ⟨by simp, .inr ⟨g, cap, _, rfl, view_in (view_out hg).1 (setRow_heap w g cur _ e _ hgw), by rw [hll]; exact hroom, hcm, ?_, ?_⟩⟩)
        · simp only [List.size_toArray, List.length_append, List.length_take, List.length_drop, Array.length_toList, bvs_length, List.length_replicate]; omega
        · rw [Nat.mul_one] at htake ⊢
          simp only [htake, bvs_append]
          rw [show (l ++ List.replicate n (0 : UInt8)).length = (bvs l ++ bvs (List.replicate n 0)).length by simp]
          exact List.take_left
      · have holds : ∀ j u, (bvs l)[j]? = some u → w.drew.cell? ((⟨g, 0, none⟩ : Addr).add j) = some u := by
          intro j u hu
          obtain ⟨a', ea, hc⟩ := (ho.mono (view_sub c i w)).rd.cell hu
          simp at ea; subst ea; exact hc
        have hfo := run_firstCells_some (P := P) w.drew ti.size l.length ⟨g, 0, none⟩ l.length cap (bvs l) (by rw [hsz]; simp) holds
        have hrun := Go.Lib.run_append_grow_zeros (P := P) w t tn ty e ti (.int .u8 0) .i64 kn hT.und htn hi hz (some ⟨g, 0, none⟩) l.length cap (bvs l) hfo n (by omega) (by rw [hsz]; omega) (by omega) (by omega) (by rw [hby]; omega) (by rw [hby]; exact growslice_fits (by omega) (by omega))
        have hgr := grown cap (by omega)
        rw [show (Value.int .u8 0).cells = #[Value.int .u8 0] from rfl] at hrun
        have hf := h (some ⟨w.heap.size, 0, none⟩) (grownCap w (l.length + n) cap e) _ _ hgr.2 hgr.1
        rw [hll] at hf
        exact .mk hrun hf
end
end Go.Vc

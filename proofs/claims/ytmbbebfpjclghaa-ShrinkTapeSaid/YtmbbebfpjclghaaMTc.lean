/- Tapes made from numbers. The examples of the section. The oracle, and lives. The law ShrinkTape. What shrinking leaves of a tape. The law as the rows need it. -/
import Derived.Test.YtmbbebfpjclghaaMTb
import Derived.Test.YtmbbebfpjclghaaMVb
set_option linter.unusedSimpArgs false
set_option linter.unusedSectionVars false
set_option linter.unusedVariables false
namespace Go.Proofs.Ytmbbebfpjclghaa
open Go Go.RowKit

def aroundI (n m : Int) : Int := if n < 0 then (w64 (0 - w64 (n + 1))).tmod m else n.tmod m
theorem aroundV (n m : Int) (hm : m ≠ 0) : VD Try.prog 7 [vi n, vi m] (vi (aroundI n m)) := by
  intro σ
  refine VC_body XF7 ?_
  simp (decide := true) only [↓VW_region, ↓VW_seq, ↓VW_cond, ↓vbindN_normal, ↓VO_nil, ↓VO_cons, ↓VS_mv, ↓VS_bin, ↓vfev_tmp, ↓vfev_int, ↓vupd_same, ↓vupd_ne, ↓vfe0_zero, Now_any, Got_some, ne_eq, xf7, vbin_lss]
  refine TestV_dec (fun h => ?_) (fun h => ?_)
  · simp (decide := true) only [↓VW_ret, ↓VW_region, ↓VW_seq, ↓vbindN_normal, ↓vatEnd_ret, ↓VO_nil, ↓VO_cons, ↓VS_mv, ↓VS_bin, ↓VS_un, ↓vfev_tmp, ↓vfev_int, ↓vupd_same, ↓vupd_ne, ↓vfe0_zero, ↓vfe0_succ, Now_any, Got_some, vrs_one, vr1_tmp, ne_eq, vbin_add, vun_neg, vbin_rem _ _ hm, fg_int]
    exact ⟨Nat.le_refl _, by rw [aroundI, if_pos h]⟩
  · simp (decide := true) only [↓VW_skip, ↓VW_ret, ↓VW_region, ↓VW_seq, ↓vbindN_normal, ↓vatEnd_ret, ↓VO_nil, ↓VO_cons, ↓VS_mv, ↓VS_bin, ↓vfev_tmp, ↓vupd_same, ↓vupd_ne, ↓vfe0_zero, ↓vfe0_succ, Now_any, Got_some, vrs_one, vr1_tmp, ne_eq, vbin_rem _ _ hm, fg_int]
    exact ⟨Nat.le_refl _, by rw [aroundI, if_neg h]⟩
theorem aroundI_bd {n m : Int} (h0 : -9223372036854775808 ≤ n) (h1 : n ≤ 9223372036854775807) (hm : 1 ≤ m) : 0 ≤ aroundI n m ∧ aroundI n m < m := by
  unfold aroundI
  split
  · rw [w64_ok (n := n + 1) (by omega) (by omega), w64_ok (by omega) (by omega), Int.tmod_eq_emod_of_nonneg (by omega)]
    exact ⟨Int.emod_nonneg _ (by omega), Int.emod_lt_of_pos _ (by omega)⟩
  · rw [Int.tmod_eq_emod_of_nonneg (by omega)]
    exact ⟨Int.emod_nonneg _ (by omega), Int.emod_lt_of_pos _ (by omega)⟩

def smallF (n : Int) : Int := if (aroundI n 1000000).tmod 40 = 39 then w64 (2147483647 - (w64 ((aroundI n 1000000).tdiv 40)).tmod 2) else (w64 ((aroundI n 1000000).tdiv 40)).tmod 4
theorem n40 : (40 : Int) ≠ 0 := by decide
theorem n2 : (2 : Int) ≠ 0 := by decide
theorem n4 : (4 : Int) ≠ 0 := by decide
theorem n12 : (12 : Int) ≠ 0 := by decide
theorem n480 : (480 : Int) ≠ 0 := by decide
theorem n7 : (7 : Int) ≠ 0 := by decide
theorem n3 : (3 : Int) ≠ 0 := by decide
theorem n84 : (84 : Int) ≠ 0 := by decide
theorem n336 : (336 : Int) ≠ 0 := by decide
theorem smallV (n : Int) : VD Try.prog 37 [vi n] (vi (smallF n)) := by
  intro σ
  refine VC_body XF37 ?_
  simp (decide := true) only [↓VW_region, ↓VW_seq, ↓vbindN_normal, ↓VO_nil, ↓VO_cons, ↓VS_mv, ↓VS_call, ↓vfev_tmp, ↓vfev_int, ↓vupd_same, ↓vupd_ne, ↓vfe0_zero, Now_any, List.map_cons, List.map_nil, ne_eq, xf37]
  refine VCall.dat (aroundV n 1000000 (by decide)) ⟨Fg.rfl _, Fg.rfl _, trivial⟩ (fun A hs => ?_)
  have lA := hs.low
  rw [low_fresh] at lA
  simp (decide := true) only [↓VW_region, ↓VW_seq, ↓VW_cond, ↓vbindN_normal, ↓VO_nil, ↓VO_cons, ↓VS_mv, ↓VS_bin, ↓vfev_tmp, ↓vfev_int, ↓vupd_same, Now_any, Got_some, vbin_rem _ _ n40, vbin_eql]
  refine TestV_dec (fun h => ?_) (fun h => ?_)
  · simp (decide := true) only [↓VW_ret, ↓VW_region, ↓VW_seq, ↓vbindN_normal, ↓vbindN_ret, ↓vatEnd_ret, ↓VO_nil, ↓VO_cons, ↓VS_mv, ↓VS_bin, ↓vfev_tmp, ↓vfev_int, ↓vupd_same, ↓vupd_ne, Now_any, Got_some, vrs_one, vr1_tmp, ne_eq, vbin_quo _ _ n40, vbin_rem _ _ n2, vbin_sub, fg_int]
    exact ⟨by omega, by rw [smallF, if_pos h]⟩
  · simp (decide := true) only [↓VW_skip, ↓VW_ret, ↓VW_region, ↓VW_seq, ↓vbindN_normal, ↓vatEnd_ret, ↓VO_nil, ↓VO_cons, ↓VS_mv, ↓VS_bin, ↓vfev_tmp, ↓vfev_int, ↓vupd_same, ↓vupd_ne, Now_any, Got_some, vrs_one, vr1_tmp, ne_eq, vbin_quo _ _ n40, vbin_rem _ _ n4, fg_int]
    exact ⟨by omega, by rw [smallF, if_neg h]⟩
def causeF (n : Int) : Int × Int × Int := ((aroundI n 1000000000).tmod 12, (w64 ((aroundI n 1000000000).tdiv 12)).tmod 40, smallF (w64 ((aroundI n 1000000000).tdiv 480)))
theorem causeV (n : Int) : VD Try.prog 38 [vi n] (.agg [vi (causeF n).1, vi (causeF n).2.1, vi (causeF n).2.2]) := by
  intro σ
  refine VC_body XF38 ?_
  simp (decide := true) only [↓VW_region, ↓VW_seq, ↓vbindN_normal, ↓VO_nil, ↓VO_cons, ↓VS_mv, ↓VS_call, ↓VS_zeroA, ↓vfev_tmp, ↓vfev_int, ↓vupd_same, ↓vupd_ne, ↓vfe0_zero, Now_any, List.map_cons, List.map_nil, Need_true, ne_eq, next_fresh, List.length_cons, List.length_nil, Nat.zero_add, Nat.reduceAdd, xf38]
  have g0 : (σ.fresh.box [vi 0, vi 0, vi 0] 46 3).heap σ.next = .cells [vi 0, vi 0, vi 0] 46 3 σ.next := heap_box_self _ _ _ _
  have nA : (σ.fresh.box [vi 0, vi 0, vi 0] 46 3).next = σ.next + 1 := rfl
  have lA : (σ.fresh.box [vi 0, vi 0, vi 0] 46 3).low = σ.next := rfl
  generalize σ.fresh.box [vi 0, vi 0, vi 0] 46 3 = A at g0 nA lA ⊢
  refine VCall.dat (aroundV n 1000000000 (by decide)) ⟨Fg.rfl _, Fg.rfl _, trivial⟩ (fun B hs => ?_)
  have lB := hs.low
  have nB := hs.next
  have b0 := (hs.heap _ (by omega)).trans g0
  simp (decide := true) only [↓VW_region, ↓VW_seq, ↓vbindN_normal, ↓VO_nil, ↓VO_cons, ↓VS_mv, ↓VS_call, ↓VS_bin, ↓vfev_tmp, ↓vfev_int, ↓vupd_same, ↓vupd_ne, Now_any, Got_some, List.map_cons, List.map_nil, ne_eq, vbin_rem _ _ n12, vbin_quo _ _ n12, vbin_rem _ _ n40, vbin_quo _ _ n480]
  refine VCall.dat (smallV _) ⟨Fg.rfl _, trivial⟩ (fun C hs2 => ?_)
  have lC := hs2.low
  have c0 := (hs2.heap _ (by omega)).trans b0
  simp (decide := true) only [↓VW_ret, ↓vbindN_normal, ↓vatEnd_ret, ↓VO_nil, ↓VO_cons, ↓VO_cons_drop, ↓VS_build, ↓VS_store, ↓vfev_tmp, ↓vupd_same, ↓vupd_ne, Now_any, Got_some, vrs_one, vr1_cell, List.map_cons, List.map_nil, ↓vld_ptr, vrdB_cells, vst_ptr, vstB_cells, vpart_agg, cs_agg, cs_v, vAll_v, vAll_nil, ne_eq, List.append_nil, List.nil_append, List.cons_append, heap_write_self, ↓reduceIte, List.length_cons, List.length_nil, List.drop_zero, List.drop_succ_cons, List.take_succ_cons, List.take_zero, Nat.zero_add, Nat.reduceAdd, Nat.reduceLeDiff, and_self, vfill_nil, vfill_cons, vsplice, fg_int, fg_agg, c0, fg_agg]
  exact ⟨by rw [low_write]; omega, rfl⟩

/-- an event made from two numbers. -/
def eventF (n m : Int) : Evt :=
  let k := aroundI n 1000000000
  let x := w64 (1 + k.tmod 7)
  ⟨x, (w64 (k.tdiv 7)).tmod 12, if x = 1 ∨ x = 2 ∨ x = 4 then smallF m else 0, if x = 3 ∨ x = 5 ∨ x = 6 then ⟨(causeF m).1, (causeF m).2.1, (causeF m).2.2, smallF (w64 (k.tdiv 84)), smallF (w64 (k.tdiv 336))⟩ else ⟨0, 0, 0, 0, 0⟩⟩
theorem eventV (n m : Int) : VD Try.prog 20 [vi n, vi m] (.agg (VEnc.e (eventF n m))) := by
  intro σ
  refine VC_body XF20 ?_
  simp (decide := true) only [↓VW_region, ↓VW_seq, ↓vbindN_normal, ↓VO_nil, ↓VO_cons, ↓VS_mv, ↓VS_call, ↓VS_zeroA, ↓vfev_tmp, ↓vfev_int, ↓vupd_same, ↓vupd_ne, ↓vfe0_zero, Now_any, List.map_cons, List.map_nil, Need_true, ne_eq, next_fresh, List.length_cons, List.length_nil, Nat.zero_add, Nat.reduceAdd, xf20]
  have g0 : (σ.fresh.box [vi 0, vi 0, vi 0, vi 0, vi 0, vi 0, vi 0, vi 0] 50 8).heap σ.next = .cells [vi 0, vi 0, vi 0, vi 0, vi 0, vi 0, vi 0, vi 0] 50 8 σ.next := heap_box_self _ _ _ _
  have nA : (σ.fresh.box [vi 0, vi 0, vi 0, vi 0, vi 0, vi 0, vi 0, vi 0] 50 8).next = σ.next + 1 := rfl
  have lA : (σ.fresh.box [vi 0, vi 0, vi 0, vi 0, vi 0, vi 0, vi 0, vi 0] 50 8).low = σ.next := rfl
  generalize σ.fresh.box [vi 0, vi 0, vi 0, vi 0, vi 0, vi 0, vi 0, vi 0] 50 8 = A at g0 nA lA ⊢
  refine VCall.dat (aroundV n 1000000000 (by decide)) ⟨Fg.rfl _, Fg.rfl _, trivial⟩ (fun B hs => ?_)
  have lB := hs.low
  have nB := hs.next
  have b0 := (hs.heap _ (by omega)).trans g0
  have he : eventF n m = ⟨w64 (1 + (aroundI n 1000000000).tmod 7), (w64 ((aroundI n 1000000000).tdiv 7)).tmod 12, if w64 (1 + (aroundI n 1000000000).tmod 7) = 1 ∨ w64 (1 + (aroundI n 1000000000).tmod 7) = 2 ∨ w64 (1 + (aroundI n 1000000000).tmod 7) = 4 then smallF m else 0, if w64 (1 + (aroundI n 1000000000).tmod 7) = 3 ∨ w64 (1 + (aroundI n 1000000000).tmod 7) = 5 ∨ w64 (1 + (aroundI n 1000000000).tmod 7) = 6 then ⟨(causeF m).1, (causeF m).2.1, (causeF m).2.2, smallF (w64 ((aroundI n 1000000000).tdiv 84)), smallF (w64 ((aroundI n 1000000000).tdiv 336))⟩ else ⟨0, 0, 0, 0, 0⟩⟩ := rfl
  rw [he]
  clear he
  generalize aroundI n 1000000000 = k
  simp (decide := true) only [↓VW_region, ↓VW_seq, ↓VW_block, ↓vbindN_normal, ↓VO_nil, ↓VO_cons, ↓VO_cons_drop, ↓VS_mv, ↓VS_load, ↓VS_fa, ↓VS_bin, ↓VS_build, ↓VS_zeroA, ↓VS_store, ↓vfev_tmp, ↓vfev_int, ↓vupd_same, ↓vupd_ne, Now_any, Got_some, List.map_cons, List.map_nil, ↓vld_ptr, vrdB_cells, vst_ptr, vstB_cells, vadd_ptr, vpart_one, cs_agg, cs_v, vAll_v, vAll_nil, Need_true, ne_eq, List.append_nil, List.nil_append, List.cons_append, Nat.add_zero, heap_box_self, heap_write_self, ↓reduceIte, List.length_cons, List.length_nil, List.drop_zero, List.drop_succ_cons, List.take_succ_cons, List.take_zero, Nat.zero_add, Nat.reduceAdd, Nat.reduceLeDiff, and_self, vfill_nil, vfill_cons, vsplice, vbin_rem _ _ n7, vbin_add, vbin_quo _ _ n7, vbin_rem _ _ n12]
  generalize w64 (1 + k.tmod 7) = x
  generalize (w64 (k.tdiv 7)).tmod 12 = y
  generalize hC : (B.box [vi 0, vi 0, vi 0, vi 0, vi 0, vi 0, vi 0, vi 0] 50 8).write B.next [vi x, vi y, vi 0, vi 0, vi 0, vi 0, vi 0, vi 0] 50 8 B.next = C
  have nC : C.next = B.next + 1 := by rw [← hC]; rfl
  have lC : C.low = B.low := by rw [← hC, low_write, low_box]; omega
  have c0 : C.heap σ.next = .cells [vi 0, vi 0, vi 0, vi 0, vi 0, vi 0, vi 0, vi 0] 50 8 σ.next := by rw [← hC, heap_write_ne _ _ _ _ _ _ _ (by omega), heap_box_ne _ _ _ _ _ (by omega)]; exact b0
  have c1 : C.heap B.next = .cells [vi x, vi y, vi 0, vi 0, vi 0, vi 0, vi 0, vi 0] 50 8 B.next := by rw [← hC, heap_write_self]
  clear hC
  have hne : σ.next ≠ B.next := by omega
  by_cases h1 : x = 1 ∨ x = 2 ∨ x = 4
  · rw [if_pos h1]
    have h3 : ¬ (x = 3 ∨ x = 5 ∨ x = 6) := by omega
    rw [if_neg h3]
    rcases h1 with rfl | rfl | rfl
    all_goals
      simp (decide := true) only [↓VW_skip, ↓VW_region, ↓VW_seq, ↓VW_cond, ↓vbindN_normal, ↓VO_nil, ↓VO_cons, ↓VS_mv, ↓VS_call, ↓VS_bin, ↓vfev_tmp, ↓vfev_int, ↓vupd_same, ↓vupd_ne, ↓vfe0_zero, ↓vfe0_succ, Now_any, Got_some, TestV_true, TestV_false, List.map_cons, List.map_nil, ne_eq, vbin_eql, decide_true, decide_false]
      refine VCall.dat (smallV _) ⟨Fg.rfl _, trivial⟩ (fun D hs2 => ?_)
      have lD := hs2.low
      have d0 := (hs2.heap _ (by omega)).trans c0
      have d1 := (hs2.heap B.next (by omega)).trans c1
      simp (decide := true) only [↓VW_ret, ↓VW_region, ↓VW_seq, ↓vbindN_normal, ↓vbindB_normal, ↓vatEnd_ret, ↓VO_nil, ↓VO_cons, ↓VO_cons_drop, ↓VS_load, ↓VS_fa, ↓VS_store, ↓vfev_tmp, ↓vupd_same, ↓vupd_ne, Now_any, Got_some, vrs_one, vr1_cell, List.map_cons, List.map_nil, ↓vld_ptr, vrdB_cells, vst_ptr, vstB_cells, vadd_ptr, vpart_agg, cs_agg, cs_v, vAll_v, vAll_nil, ne_eq, List.append_nil, List.nil_append, List.cons_append, heap_write_self, ↓reduceIte, List.length_cons, List.length_nil, List.drop_zero, List.drop_succ_cons, List.take_succ_cons, List.take_zero, Nat.zero_add, Nat.reduceAdd, Nat.reduceLeDiff, and_true, and_self, d1, vsplice, heap_write_ne _ _ _ _ _ _ _ hne, d0, fg_agg, fg_int, eEvt]
      rw [low_write, low_write]; omega
  · rw [if_neg h1]
    have e1 : decide (x = 1) = false := decide_eq_false (by omega)
    have e2 : decide (x = 2) = false := decide_eq_false (by omega)
    have e4 : decide (x = 4) = false := decide_eq_false (by omega)
    by_cases h3 : x = 3 ∨ x = 5 ∨ x = 6
    · rw [if_pos h3]
      rcases h3 with rfl | rfl | rfl
      all_goals
        simp (decide := true) only [↓VW_skip, ↓VW_region, ↓VW_seq, ↓VW_cond, ↓vbindN_normal, ↓VO_nil, ↓VO_cons, ↓VS_mv, ↓VS_call, ↓VS_bin, ↓vfev_tmp, ↓vfev_int, ↓vupd_same, ↓vupd_ne, ↓vfe0_zero, ↓vfe0_succ, Now_any, Got_some, TestV_true, TestV_false, List.map_cons, List.map_nil, ne_eq, vbin_eql, decide_true, decide_false]
        refine VCall.dat (causeV _) ⟨Fg.rfl _, trivial⟩ (fun D hs2 => ?_)
        have lD := hs2.low
        have nD := hs2.next
        have d0 := (hs2.heap _ (by omega)).trans c0
        have d1 := (hs2.heap B.next (by omega)).trans c1
        simp (decide := true) only [↓VO_cons, ↓VS_mv, ↓VS_call, ↓VS_bin, ↓vfev_tmp, ↓vfev_int, ↓vupd_same, ↓vupd_ne, Now_any, Got_some, List.map_cons, List.map_nil, ne_eq, vbin_quo _ _ n84]
        refine VCall.dat (smallV _) ⟨Fg.rfl _, trivial⟩ (fun E hs3 => ?_)
        have lE := hs3.low
        have nE := hs3.next
        have e0' := (hs3.heap _ (by omega)).trans d0
        have e1' := (hs3.heap B.next (by omega)).trans d1
        simp (decide := true) only [↓VO_cons, ↓VS_mv, ↓VS_call, ↓VS_bin, ↓vfev_tmp, ↓vfev_int, ↓vupd_same, ↓vupd_ne, Now_any, Got_some, List.map_cons, List.map_nil, ne_eq, vbin_quo _ _ n336]
        refine VCall.dat (smallV _) ⟨Fg.rfl _, trivial⟩ (fun F hs4 => ?_)
        have lF := hs4.low
        have f0 := (hs4.heap _ (by omega)).trans e0'
        have f1 := (hs4.heap B.next (by omega)).trans e1'
        simp (decide := true) only [↓VW_ret, ↓VW_region, ↓VW_seq, ↓vbindN_normal, ↓vbindB_normal, ↓vatEnd_ret, ↓VO_nil, ↓VO_cons, ↓VO_cons_drop, ↓VS_load, ↓VS_fa, ↓VS_build, ↓VS_store, ↓vfev_tmp, ↓vupd_same, ↓vupd_ne, Now_any, Got_some, vrs_one, vr1_cell, List.map_cons, List.map_nil, ↓vld_ptr, vrdB_cells, vst_ptr, vstB_cells, vadd_ptr, vpart_agg, cs_agg, cs_v, vAll_v, vAll_nil, ne_eq, List.append_nil, List.nil_append, List.cons_append, heap_write_self, ↓reduceIte, List.length_cons, List.length_nil, List.drop_zero, List.drop_succ_cons, List.take_succ_cons, List.take_zero, Nat.zero_add, Nat.reduceAdd, Nat.reduceLeDiff, and_true, and_self, vfill_nil, vfill_cons, vsplice, fg_int, fg_agg, f1, heap_write_ne _ _ _ _ _ _ _ hne, f0, fg_agg, fg_int, eEvt]
        rw [low_write, low_write]; omega
    · rw [if_neg h3]
      have e3 : decide (x = 3) = false := decide_eq_false (by omega)
      have e5 : decide (x = 5) = false := decide_eq_false (by omega)
      have e6 : decide (x = 6) = false := decide_eq_false (by omega)
      simp (decide := true) only [↓VW_skip, ↓VW_ret, ↓VW_region, ↓VW_seq, ↓VW_cond, ↓vbindN_normal, ↓vbindB_normal, ↓vatEnd_ret, ↓VO_nil, ↓VO_cons, ↓VO_cons_drop, ↓VS_mv, ↓VS_load, ↓VS_bin, ↓VS_store, ↓vfev_tmp, ↓vfev_int, ↓vupd_same, ↓vupd_ne, Now_any, Got_some, TestV_false, vrs_one, vr1_cell, List.map_cons, List.map_nil, ↓vld_ptr, vrdB_cells, vst_ptr, vstB_cells, vpart_agg, cs_agg, vAll_v, vAll_nil, ne_eq, List.append_nil, List.nil_append, heap_write_self, ↓reduceIte, List.length_cons, List.length_nil, List.drop_zero, List.drop_succ_cons, List.take_succ_cons, List.take_zero, Nat.zero_add, Nat.reduceAdd, Nat.reduceLeDiff, and_true, and_self, c1, c0, vbin_eql, e1, e2, e3, e4, e5, e6, vsplice, fg_agg, fg_int, eEvt]
      rw [low_write]; omega

def questF (n m : Int) : Msg :=
  let k := aroundI n 1000000000
  let x := w64 (1 + k.tmod 3)
  ⟨(causeF m).1, if x = 3 then 40 else (causeF m).2.1, (causeF m).2.2, x, smallF (w64 (k.tdiv 3))⟩
theorem questV (n m : Int) : VD Try.prog 21 [vi n, vi m] (.agg (VEnc.e (questF n m))) := by
  intro σ
  refine VC_body XF21 ?_
  simp (decide := true) only [↓VW_region, ↓VW_seq, ↓vbindN_normal, ↓VO_nil, ↓VO_cons, ↓VS_mv, ↓VS_call, ↓VS_zeroA, ↓vfev_tmp, ↓vfev_int, ↓vupd_same, ↓vupd_ne, ↓vfe0_zero, Now_any, List.map_cons, List.map_nil, Need_true, ne_eq, next_fresh, List.length_cons, List.length_nil, Nat.zero_add, Nat.reduceAdd, xf21]
  have g0 : (σ.fresh.box [vi 0, vi 0, vi 0, vi 0, vi 0] 54 5).heap σ.next = .cells [vi 0, vi 0, vi 0, vi 0, vi 0] 54 5 σ.next := heap_box_self _ _ _ _
  have nA : (σ.fresh.box [vi 0, vi 0, vi 0, vi 0, vi 0] 54 5).next = σ.next + 1 := rfl
  have lA : (σ.fresh.box [vi 0, vi 0, vi 0, vi 0, vi 0] 54 5).low = σ.next := rfl
  generalize σ.fresh.box [vi 0, vi 0, vi 0, vi 0, vi 0] 54 5 = A at g0 nA lA ⊢
  refine VCall.dat (aroundV n 1000000000 (by decide)) ⟨Fg.rfl _, Fg.rfl _, trivial⟩ (fun B hs => ?_)
  have lB := hs.low
  have nB := hs.next
  have b0 := (hs.heap _ (by omega)).trans g0
  have he : questF n m = ⟨(causeF m).1, if w64 (1 + (aroundI n 1000000000).tmod 3) = 3 then 40 else (causeF m).2.1, (causeF m).2.2, w64 (1 + (aroundI n 1000000000).tmod 3), smallF (w64 ((aroundI n 1000000000).tdiv 3))⟩ := rfl
  rw [he]
  clear he
  generalize aroundI n 1000000000 = k
  simp (decide := true) only [↓VW_region, ↓VW_seq, ↓vbindN_normal, ↓VO_nil, ↓VO_cons, ↓VS_mv, ↓VS_call, ↓vfev_tmp, ↓vupd_same, ↓vupd_ne, ↓vfe0_zero, ↓vfe0_succ, Now_any, List.map_cons, List.map_nil, ne_eq]
  refine VCall.dat (causeV _) ⟨Fg.rfl _, trivial⟩ (fun C hs2 => ?_)
  have lC := hs2.low
  have nC := hs2.next
  have c0 := (hs2.heap _ (by omega)).trans b0
  simp (decide := true) only [↓VO_cons, ↓VS_mv, ↓VS_call, ↓VS_bin, ↓vfev_tmp, ↓vfev_int, ↓vupd_same, ↓vupd_ne, Now_any, Got_some, List.map_cons, List.map_nil, ne_eq, vbin_rem _ _ n3, vbin_add, vbin_quo _ _ n3]
  refine VCall.dat (smallV _) ⟨Fg.rfl _, trivial⟩ (fun D hs3 => ?_)
  have lD := hs3.low
  have nD := hs3.next
  have d0 := (hs3.heap _ (by omega)).trans c0
  have hne : σ.next ≠ D.next := by omega
  generalize w64 (1 + k.tmod 3) = x
  by_cases hx : x = 3
  · have e3 : decide (x = 3) = true := decide_eq_true hx
    simp (decide := true) only [↓VW_ret, ↓VW_region, ↓VW_seq, ↓VW_cond, ↓vbindN_normal, ↓vatEnd_ret, ↓VO_nil, ↓VO_cons, ↓VO_cons_drop, ↓VS_load, ↓VS_fa, ↓VS_bin, ↓VS_build, ↓VS_zeroA, ↓VS_store, ↓vfev_tmp, ↓vfev_int, ↓vupd_same, ↓vupd_ne, Now_any, Got_some, TestV_true, vrs_one, vr1_cell, List.map_cons, List.map_nil, ↓vld_ptr, vrdB_cells, vst_ptr, vstB_cells, vadd_ptr, vpart_agg, vpart_one, cs_agg, cs_v, vAll_v, vAll_nil, Need_true, ne_eq, List.append_nil, List.nil_append, List.cons_append, Nat.add_zero, heap_box_self, heap_write_self, ↓reduceIte, List.length_cons, List.length_nil, List.drop_zero, List.drop_succ_cons, List.take_succ_cons, List.take_zero, Nat.zero_add, Nat.reduceAdd, Nat.reduceLeDiff, and_self, vfill_nil, vfill_cons, vsplice, fg_int, fg_agg, vbin_eql, e3, heap_write_ne _ _ _ _ _ _ _ hne, heap_box_ne _ _ _ _ _ hne, d0, fg_agg, fg_int, eMsg]
    exact ⟨by rw [low_write, low_write, low_write, low_box]; omega, by rw [if_pos hx]⟩
  · have e3 : decide (x = 3) = false := decide_eq_false hx
    simp (decide := true) only [↓VW_skip, ↓VW_ret, ↓VW_region, ↓VW_seq, ↓VW_cond, ↓vbindN_normal, ↓vatEnd_ret, ↓VO_nil, ↓VO_cons, ↓VO_cons_drop, ↓VS_load, ↓VS_fa, ↓VS_bin, ↓VS_build, ↓VS_zeroA, ↓VS_store, ↓vfev_tmp, ↓vfev_int, ↓vupd_same, ↓vupd_ne, Now_any, Got_some, TestV_false, vrs_one, vr1_cell, List.map_cons, List.map_nil, ↓vld_ptr, vrdB_cells, vst_ptr, vstB_cells, vadd_ptr, vpart_agg, vpart_one, cs_agg, cs_v, vAll_v, vAll_nil, Need_true, ne_eq, List.append_nil, List.nil_append, List.cons_append, heap_box_self, heap_write_self, ↓reduceIte, List.length_cons, List.length_nil, List.drop_zero, List.drop_succ_cons, List.take_succ_cons, List.take_zero, Nat.zero_add, Nat.reduceAdd, Nat.reduceLeDiff, and_self, vfill_nil, vfill_cons, vsplice, fg_int, fg_agg, vbin_eql, e3, heap_write_ne _ _ _ _ _ _ _ hne, heap_box_ne _ _ _ _ _ hne, d0, fg_agg, fg_int, eMsg]
    exact ⟨by rw [low_write, low_write, low_box]; omega, by rw [if_neg hx]⟩

def rndE (l : List Int) (k : Nat) : List Evt := (List.range k).map fun i => { eventF (l.getD i 0) i with node := (i : Int) }
def rndA (l : List Int) (k : Nat) : List Ans := (List.range k).map fun i => ⟨{ questF (l.getD i 0) i with copy := (i : Int) }, aroundI (l.getD i 0) 3⟩
def rndT (l : List Int) : Tape := ⟨rndE l (min l.length 8), rndA l (min l.length 4)⟩
theorem rndE_succ (l : List Int) (k : Nat) : rndE l (k + 1) = rndE l k ++ [{ eventF (l.getD k 0) k with node := (k : Int) }] := by simp [rndE, List.range_succ]
theorem rndA_succ (l : List Int) (k : Nat) : rndA l (k + 1) = rndA l k ++ [⟨{ questF (l.getD k 0) k with copy := (k : Int) }, aroundI (l.getD k 0) 3⟩] := by simp [rndA, List.range_succ]
theorem rndE_len (l : List Int) (k : Nat) : (rndE l k).length = k := by simp [rndE]
theorem rndA_len (l : List Int) (k : Nat) : (rndA l k).length = k := by simp [rndA]

theorem random_any (l : List Int) : VD Try.prog 5 [vl l] (tapeV (rndT l)) := by
  intro σ
  refine VC_body XF5 ?_
  simp (decide := true) only [↓VW_region, ↓VW_seq, ↓VW_block, ↓VW_stuck, ↓vbindN_normal, ↓VO_nil, ↓VO_cons, ↓VS_mv, ↓VS_zeroA, ↓vfev_int, Now_any, List.map_cons, List.map_nil, Need_true, next_box, next_fresh, List.length_cons, List.length_nil, Nat.zero_add, Nat.reduceAdd, xf5]
  generalize hA : ((σ.fresh.box [.v (.slice none 0 0), .v (.slice none 0 0)] 26 2).box [.v (.slice none 0 0), .v (.slice none 0 0)] 26 2) = A
  have nA : A.next = σ.next + 2 := by rw [← hA]; rfl
  have lA : A.low = σ.next := by rw [← hA]; rfl
  have a0 : A.heap σ.next = .cells [.v (.slice none 0 0), .v (.slice none 0 0)] 26 2 σ.next := by rw [← hA, heap_box_ne _ _ _ _ _ (by simp [next_box, next_fresh])]; exact heap_box_self _ _ _ _
  have a1 : A.heap (σ.next + 1) = .cells [.v (.slice none 0 0), .v (.slice none 0 0)] 26 2 (σ.next + 1) := by rw [← hA]; exact heap_box_self _ _ _ _
  clear hA
  refine VW_loopR 0 (fun k fe G => fe 0 = vl l ∧ fe 2 = .ptr σ.next 0 ∧ fe 3 = .ptr (σ.next + 1) 0 ∧ σ.next ≤ G.low ∧ A.next ≤ G.next ∧ G.heap σ.next = .cells [.v (.slice none 0 0), .v (.slice none 0 0)] 26 2 σ.next ∧
      ∃ (i : Nat) (u : VV), fe 4 = vi i ∧ k + i = 8 ∧ i ≤ min l.length 8 ∧ G.heap (σ.next + 1) = .cells [u, .v (.slice none 0 0)] 26 2 (σ.next + 1) ∧ App G A.next u (rndE l i))
    (fun fe G => fe 0 = vl l ∧ fe 2 = .ptr σ.next 0 ∧ fe 3 = .ptr (σ.next + 1) 0 ∧ σ.next ≤ G.low ∧ A.next ≤ G.next ∧ G.heap σ.next = .cells [.v (.slice none 0 0), .v (.slice none 0 0)] 26 2 σ.next ∧
      ∃ u, G.heap (σ.next + 1) = .cells [u, .v (.slice none 0 0)] 26 2 (σ.next + 1) ∧ Rd u (rndE l (min l.length 8))) 8 ?_ ?_ ?_
  · simp (decide := true) only [↓vupd_same, ↓vupd_ne, ↓vfe0_zero, ne_eq, true_and]
    exact ⟨by omega, Nat.le_refl _, a0, 0, _, rfl, by omega, by omega, a1, .nil _ _⟩
  · rintro k fe G ⟨q0, q2, q3, hlo, hn, g0, i, u, q4, hk, hi8, g1, hu⟩
    by_cases hi : i < l.length
    · have c1 : decide ((i : Int) < l.length) = true := decide_eq_true (by omega)
      by_cases h8 : i < 8
      · have c2 : decide ((i : Int) < 8) = true := decide_eq_true (by omega)
        simp (decide := true) only [↓VW_skip, ↓VW_region, ↓VW_seq, ↓VW_block, ↓VW_cond, ↓vbindN_normal, ↓VO_nil, ↓VO_cons, ↓VO_guard, ↓VS_mv, ↓VS_call, ↓VS_load, ↓VS_ia, ↓VS_bin, ↓VS_len, ↓VS_pick, ↓vfev_tmp, ↓vfev_int, ↓vfev_bool, ↓vupd_same, ↓vupd_ne, Now_any, Got_some, TestV_true, PickV_tt, List.map_cons, List.map_nil, len_vl, vpart_one, ne_eq, vpick_t, q0, q4, vbin_lss, c1, c2, via_vl hi, wInt, vld_vep hi, eInt, List.drop_zero, List.take_succ_cons, List.take_zero]
        have hsucc := rndE_succ l i
        rw [show l.getD i 0 = l[i] by simp [List.getD_eq_getElem?_getD, hi]] at hsucc
        refine VCall.dat (eventV l[i] i) ⟨Fg.rfl _, Fg.rfl _, trivial⟩ (fun B hs => ?_)
        have nB := hs.next
        have lB := hs.low
        have b0 := (hs.heap σ.next (by omega)).trans g0
        have b1 := (hs.heap (σ.next + 1) (by omega)).trans g1
        have huB := hu.sub hs
        generalize eventF l[i] i = e at hsucc ⊢
        simp (decide := true) only [↓VW_region, ↓VW_seq, ↓vbindN_normal, ↓VO_nil, ↓VO_cons, ↓VO_cons_drop, ↓VS_mv, ↓VS_load, ↓VS_fa, ↓VS_zeroA, ↓VS_store, ↓vfev_tmp, ↓vupd_same, ↓vupd_ne, Now_any, Got_some, List.map_cons, List.map_nil, ↓vld_ptr, vst_ptr, vstB_cells, vadd_ptr, cs_agg, cs_v, vAll_v, vAll_nil, Need_true, ne_eq, List.append_nil, List.nil_append, List.cons_append, Nat.add_zero, heap_box_self, heap_write_self, ↓reduceIte, List.length_cons, List.length_nil, List.drop_zero, List.drop_succ_cons, List.take_succ_cons, List.take_zero, Nat.zero_add, Nat.reduceAdd, Nat.reduceLeDiff, and_self, eEvt, vsplice, q3, q4]
        generalize hC : ((B.box [vi 0, vi 0, vi 0, vi 0, vi 0, vi 0, vi 0, vi 0] 50 8).write B.next [vi e.kind, vi e.node, vi e.arg, vi e.msg.node, vi e.msg.handler, vi e.msg.count, vi e.msg.index, vi e.msg.copy] 50 8 B.next).write B.next [vi e.kind, vi i, vi e.arg, vi e.msg.node, vi e.msg.handler, vi e.msg.count, vi e.msg.index, vi e.msg.copy] 50 8 B.next = C
        have nC : C.next = B.next + 1 := by rw [← hC]; rfl
        have lC : C.low = min B.low B.next := by rw [← hC, low_write, low_write, low_box]; omega
        have hold : ∀ id, id ≠ B.next → C.heap id = B.heap id := fun id hid => by rw [← hC, heap_write_ne _ _ _ _ _ _ _ hid, heap_write_ne _ _ _ _ _ _ _ hid, heap_box_ne _ _ _ _ _ hid]
        have cB : C.heap B.next = .cells [vi e.kind, vi i, vi e.arg, vi e.msg.node, vi e.msg.handler, vi e.msg.count, vi e.msg.index, vi e.msg.copy] 50 8 B.next := by rw [← hC, heap_write_self]
        have huC : App C A.next u (rndE l i) := huB.keep (by omega) (fun _ _ _ => by rw [← hC]; rfl)
        clear hC
        have c0 := (hold _ (by omega)).trans b0
        have c1' := (hold _ (by omega)).trans b1
        simp (decide := true) only [↓VO_cons, ↓VS_load, ↓VS_buildSlice, ↓vfev_tmp, ↓vupd_same, ↓vupd_ne, Now_any, Got_some, List.map_cons, List.map_nil, ↓vld_ptr, vrdB_cells, vpart_agg, vpart_one, ne_eq, ↓reduceIte, List.length_cons, List.length_nil, List.drop_zero, List.take_succ_cons, List.take_zero, Nat.zero_add, Nat.reduceAdd, Nat.reduceLeDiff, c1', cB]
        refine VBuild.own rfl rfl rfl ?_
        simp (decide := true) only [↓VO_cons, ↓VS_append, ↓vfev_tmp, ↓vupd_same, ↓vupd_ne, Now_any, cs_agg, ne_eq]
        have hx : vcont C.newTok 8 (.own 8 1 (List.map VV.fg [vi e.kind, vi i, vi e.arg, vi e.msg.node, vi e.msg.handler, vi e.msg.count, vi e.msg.index, vi e.msg.copy]) C.next) = some ([({ e with node := (i : Int) } : Evt)].length, vencs [({ e with node := (i : Int) } : Evt)]) := by
          simp only [List.map_cons, List.map_nil, fg_int, vencs_one]; rfl
        obtain ⟨u2, J, j1, j2, j3, j4⟩ := (huC.sub (Sub.newTok _)).push (esz := 8) (bytes := 64) hx rfl (by unfold reach; simp only [rndE_len, List.length_cons, List.length_nil]; omega) (by decide) (by rw [next_newTok]; omega)
        refine VAppend.own j1 ?_
        have jx := j3.next
        have jl := j3.low
        simp only [next_newTok, low_newTok] at jx jl
        have g0J := (congrFun j3.heap _).trans c0
        have g1J := (congrFun j3.heap _).trans c1'
        simp (decide := true) only [↓VW_region, ↓vbindN_normal, ↓vbindB_normal, ↓vbindL_normal, ↓VO_nil, ↓VO_cons, ↓VO_cons_drop, ↓VS_mv, ↓VS_fa, ↓VS_bin, ↓VS_store, ↓vfev_tmp, ↓vfev_int, ↓vupd_same, ↓vupd_ne, Now_any, Got_some, vst_ptr, vstB_cells, vadd_ptr, vAll_nil, ne_eq, Nat.add_zero, next_write, q0, q2, q3, g1J, j2.cs, j2.all, vsplice0, Nat.zero_add, List.length_cons, List.length_nil, Nat.reduceAdd, Nat.reduceLeDiff, and_self, ↓reduceIte, q4, vbin_add, w64_1 h8 (by decide : 8 ≤ 1000000), true_and]
        refine ⟨k - 1, by omega, by rw [low_write]; omega, by omega, by rw [heap_write_ne _ _ _ _ _ _ _ (by omega)]; exact g0J, i + 1, u2, rfl, by omega, by omega, heap_write_self _ _ _ _ _ _, ?_⟩
        rw [hsucc]
        exact j2.keep (Nat.le_refl _) (fun _ _ _ => rfl)
      · have c2 : decide ((i : Int) < 8) = false := decide_eq_false (by omega)
        simp (decide := true) only [↓VW_exit, ↓VW_region, ↓VW_seq, ↓VW_cond, ↓vbindN_normal, ↓vbindN_exit, ↓vbindL_exit, ↓vatExit_self, ↓VO_nil, ↓VO_cons, ↓VO_guard, ↓VS_mv, ↓VS_bin, ↓VS_len, ↓VS_pick, ↓vfev_tmp, ↓vfev_int, ↓vfev_bool, ↓vupd_same, ↓vupd_ne, Now_any, Got_some, TestV_false, PickV_tt, len_vl, ne_eq, vpick_t, q0, q2, q3, q4, vbin_lss, c1, c2, true_and]
        rw [show i = min l.length 8 by omega] at hu
        exact ⟨hlo, hn, g0, u, g1, hu.rd⟩
    · have c1 : decide ((i : Int) < l.length) = false := decide_eq_false (by omega)
      simp (decide := true) only [↓VW_exit, ↓VW_region, ↓VW_seq, ↓VW_cond, ↓vbindN_normal, ↓vbindN_exit, ↓vbindL_exit, ↓vatExit_self, ↓VO_nil, ↓VO_cons, ↓VO_guard, ↓VS_mv, ↓VS_bin, ↓VS_len, ↓VS_pick, ↓vfev_tmp, ↓vfev_bool, ↓vupd_same, ↓vupd_ne, Now_any, Got_some, TestV_false, PickV_ft, len_vl, ne_eq, vpick_f, q0, q2, q3, q4, vbin_lss, c1, true_and]
      rw [show i = min l.length 8 by omega] at hu
      exact ⟨hlo, hn, g0, u, g1, hu.rd⟩
  · rintro fe D ⟨q0, q2, q3, hlo, hn, d0, u1, d1, hu1⟩
    simp (decide := true) only [↓VW_region, ↓VW_seq, ↓VW_block, ↓VW_stuck, ↓vbindN_normal, ↓vbindB_self, ↓VO_nil, ↓VO_cons, ↓VS_mv, ↓vfev_int, Now_any]
    refine VW_loopR 2 (fun k fe G => fe 0 = vl l ∧ fe 2 = .ptr σ.next 0 ∧ fe 3 = .ptr (σ.next + 1) 0 ∧ σ.next ≤ G.low ∧ D.next ≤ G.next ∧ G.heap σ.next = .cells [.v (.slice none 0 0), .v (.slice none 0 0)] 26 2 σ.next ∧
        ∃ (i : Nat) (u : VV), fe 6 = vi i ∧ k + i = 4 ∧ i ≤ min l.length 4 ∧ G.heap (σ.next + 1) = .cells [u1, u] 26 2 (σ.next + 1) ∧ App G D.next u (rndA l i))
      (fun fe G => fe 2 = .ptr σ.next 0 ∧ fe 3 = .ptr (σ.next + 1) 0 ∧ σ.next ≤ G.low ∧ G.heap σ.next = .cells [.v (.slice none 0 0), .v (.slice none 0 0)] 26 2 σ.next ∧
        ∃ u, G.heap (σ.next + 1) = .cells [u1, u] 26 2 (σ.next + 1) ∧ Rd u (rndA l (min l.length 4))) 4 ?_ ?_ ?_
    · simp (decide := true) only [↓vupd_same, ↓vupd_ne, ne_eq, q0, q2, q3, true_and]
      exact ⟨by omega, Nat.le_refl _, d0, 0, _, rfl, by omega, by omega, d1, .nil _ _⟩
    · rintro k fe G ⟨q0, q2, q3, hlo, hnG, g0, i, u, q4, hk, hi8, g1, hu⟩
      by_cases hi : i < l.length
      · have c1 : decide ((i : Int) < l.length) = true := decide_eq_true (by omega)
        by_cases h8 : i < 4
        · have c2 : decide ((i : Int) < 4) = true := decide_eq_true (by omega)
          simp (decide := true) only [↓VW_skip, ↓VW_region, ↓VW_seq, ↓VW_block, ↓VW_cond, ↓vbindN_normal, ↓VO_nil, ↓VO_cons, ↓VO_guard, ↓VS_mv, ↓VS_call, ↓VS_load, ↓VS_ia, ↓VS_bin, ↓VS_len, ↓VS_pick, ↓vfev_tmp, ↓vfev_int, ↓vfev_bool, ↓vupd_same, ↓vupd_ne, Now_any, Got_some, TestV_true, PickV_tt, List.map_cons, List.map_nil, len_vl, vpart_one, ne_eq, vpick_t, q0, q4, vbin_lss, c1, c2, via_vl hi, wInt, vld_vep hi, eInt, List.drop_zero, List.take_succ_cons, List.take_zero]
          have hsucc := rndA_succ l i
          rw [show l.getD i 0 = l[i] by simp [List.getD_eq_getElem?_getD, hi]] at hsucc
          refine VCall.dat (questV l[i] i) ⟨Fg.rfl _, Fg.rfl _, trivial⟩ (fun B hs => ?_)
          have nB := hs.next
          have lB := hs.low
          have b0 := (hs.heap σ.next (by omega)).trans g0
          have b1 := (hs.heap (σ.next + 1) (by omega)).trans g1
          have huB := hu.sub hs
          generalize questF l[i] i = e at hsucc ⊢
          simp (decide := true) only [↓VW_region, ↓VW_draw, ↓VW_seq, ↓vbindN_normal, ↓VO_nil, ↓VO_cons, ↓VO_cons_drop, List.zip_cons_cons, List.zip_nil_left, ↓VM_cons, ↓vearlyP_false, ↓VS_mv, ↓VS_load, ↓VS_fa, ↓VS_bin, ↓VS_zeroA, ↓VS_store, ↓vfev_tmp, ↓vfev_int, ↓vupd_same, ↓vupd_ne, Now_any, Got_some, List.map_cons, List.map_nil, ↓vld_ptr, vst_ptr, vstB_cells, vadd_ptr, cs_agg, cs_v, vAll_v, vAll_nil, Need_true, ne_eq, List.append_nil, List.nil_append, List.cons_append, next_box, next_write, heap_box_self, heap_write_self, ↓reduceIte, List.length_cons, List.length_nil, List.drop_zero, List.drop_succ_cons, List.take_succ_cons, List.take_zero, Nat.zero_add, Nat.reduceAdd, Nat.reduceLeDiff, and_self, eMsg, vsplice, q3, q4]
          generalize hC : ((B.box [vi 0, vi 0, vi 0, vi 0, vi 0] 54 5).write B.next [vi e.node, vi e.handler, vi e.count, vi e.index, vi e.copy] 54 5 B.next).write B.next [vi e.node, vi e.handler, vi e.count, vi e.index, vi i] 54 5 B.next = C
          have nC : C.next = B.next + 1 := by rw [← hC]; rfl
          have lC : C.low = min B.low B.next := by rw [← hC, low_write, low_write, low_box]; omega
          have hold : ∀ id, id ≠ B.next → C.heap id = B.heap id := fun id hid => by rw [← hC, heap_write_ne _ _ _ _ _ _ _ hid, heap_write_ne _ _ _ _ _ _ _ hid, heap_box_ne _ _ _ _ _ hid]
          have cB : C.heap B.next = .cells [vi e.node, vi e.handler, vi e.count, vi e.index, vi i] 54 5 B.next := by rw [← hC, heap_write_self]
          have huC : App C D.next u (rndA l i) := huB.keep (by omega) (fun _ _ _ => by rw [← hC]; rfl)
          clear hC
          have c0 := (hold _ (by omega)).trans b0
          have c1' := (hold _ (by omega)).trans b1
          simp (decide := true) only [↓VM_cons, ↓vearlyP_false, ↓VS_mv, ↓VS_call, ↓VS_load, ↓VS_ia, ↓vfev_tmp, ↓vfev_int, ↓vupd_same, ↓vupd_ne, Now_any, Got_some, List.map_cons, List.map_nil, ↓vld_ptr, vrdB_cells, vpart_agg, vpart_one, ne_eq, ↓reduceIte, List.length_cons, List.length_nil, List.drop_zero, List.drop_succ_cons, List.take_succ_cons, List.take_zero, Nat.zero_add, Nat.reduceAdd, Nat.reduceLeDiff, q0, q4, c1', cB, via_vl hi, wInt, vld_vep hi, eInt]
          refine VCall.dat (aroundV l[i] 3 (by decide)) ⟨Fg.rfl _, Fg.rfl _, trivial⟩ (fun E hs2 => ?_)
          have nE := hs2.next
          have lE := hs2.low
          have e0 := (hs2.heap σ.next (by omega)).trans c0
          have e1 := (hs2.heap (σ.next + 1) (by omega)).trans c1'
          have huE := huC.sub hs2
          simp (decide := true) only [↓VM_cons, ↓vearlyP_false, ↓VS_build, ↓VS_buildSlice, ↓vfev_tmp, ↓vupd_same, ↓vupd_ne, Now_any, Got_some, List.map_cons, List.map_nil, cs_agg, cs_v, ne_eq, List.append_nil, List.nil_append, List.cons_append, ↓reduceIte, List.length_cons, List.length_nil, List.drop_zero, List.drop_succ_cons, List.take_succ_cons, List.take_zero, Nat.zero_add, Nat.reduceAdd, Nat.reduceLeDiff, and_self, vfill_nil, vfill_cons, vsplice]
          refine VBuild.own rfl rfl rfl ?_
          simp (decide := true) only [↓VM_cons, ↓vearlyP_false, ↓VS_append, ↓vfev_tmp, ↓vupd_same, ↓vupd_ne, Now_any, cs_agg, ne_eq]
          have hx : vcont E.newTok 6 (.own 6 1 (List.map VV.fg [vi e.node, vi e.handler, vi e.count, vi e.index, vi i, vi (aroundI l[i] 3)]) E.next) = some ([(⟨{ e with copy := (i : Int) }, aroundI l[i] 3⟩ : Ans)].length, vencs [(⟨{ e with copy := (i : Int) }, aroundI l[i] 3⟩ : Ans)]) := by
            simp only [List.map_cons, List.map_nil, fg_int, vencs_one]; rfl
          obtain ⟨u2, J, j1, j2, j3, j4⟩ := (huE.sub (Sub.newTok _)).push (esz := 6) (bytes := 48) hx rfl (by unfold reach; simp only [rndA_len, List.length_cons, List.length_nil]; omega) (by decide) (by rw [next_newTok]; omega)
          refine VAppend.own j1 ?_
          have jx := j3.next
          have jl := j3.low
          simp only [next_newTok, low_newTok] at jx jl
          have g0J := (congrFun j3.heap _).trans e0
          have g1J := (congrFun j3.heap _).trans e1
          simp (decide := true) only [↓vbindN_normal, ↓vbindB_normal, ↓vbindL_normal, ↓VO_nil, ↓VO_cons, ↓VM_nil, ↓VM_cons, ↓VM_cons_drop, ↓vearlyP_false, ↓VS_mv, ↓VS_fa, ↓VS_store, ↓vfev_tmp, ↓vupd_same, ↓vupd_ne, Now_any, Got_some, vst_ptr, vstB_cells, vadd_ptr, vAll_nil, ne_eq, next_write, q0, q2, q3, g1J, j2.cs, j2.all, vsplice1, Nat.zero_add, List.length_cons, List.length_nil, Nat.reduceAdd, Nat.reduceLeDiff, and_self, ↓reduceIte, q4, vbin_add, w64_1 h8 (by decide : 4 ≤ 1000000), true_and]
          refine ⟨k - 1, by omega, by rw [low_write]; omega, by omega, by rw [heap_write_ne _ _ _ _ _ _ _ (by omega)]; exact g0J, i + 1, u2, rfl, by omega, by omega, heap_write_self _ _ _ _ _ _, ?_⟩
          rw [hsucc]
          exact j2.keep (Nat.le_refl _) (fun _ _ _ => rfl)
        · have c2 : decide ((i : Int) < 4) = false := decide_eq_false (by omega)
          simp (decide := true) only [↓VW_exit, ↓VW_region, ↓VW_seq, ↓VW_cond, ↓vbindN_normal, ↓vbindN_exit, ↓vbindL_exit, ↓vatExit_self, ↓VO_nil, ↓VO_cons, ↓VO_guard, ↓VS_mv, ↓VS_bin, ↓VS_len, ↓VS_pick, ↓vfev_tmp, ↓vfev_int, ↓vfev_bool, ↓vupd_same, ↓vupd_ne, Now_any, Got_some, TestV_false, PickV_tt, len_vl, ne_eq, vpick_t, q0, q2, q3, q4, vbin_lss, c1, c2, true_and]
          rw [show i = min l.length 4 by omega] at hu
          exact ⟨hlo, g0, u, g1, hu.rd⟩
      · have c1 : decide ((i : Int) < l.length) = false := decide_eq_false (by omega)
        simp (decide := true) only [↓VW_exit, ↓VW_region, ↓VW_seq, ↓VW_cond, ↓vbindN_normal, ↓vbindN_exit, ↓vbindL_exit, ↓vatExit_self, ↓VO_nil, ↓VO_cons, ↓VO_guard, ↓VS_mv, ↓VS_bin, ↓VS_len, ↓VS_pick, ↓vfev_tmp, ↓vfev_bool, ↓vupd_same, ↓vupd_ne, Now_any, Got_some, TestV_false, PickV_ft, len_vl, ne_eq, vpick_f, q0, q2, q3, q4, vbin_lss, c1, true_and]
        rw [show i = min l.length 4 by omega] at hu
        exact ⟨hlo, g0, u, g1, hu.rd⟩
    · rintro fe G ⟨q2, q3, hlo, g0, u2, g1, hu2⟩
      simp (decide := true) only [↓VW_ret, ↓VW_region, ↓VW_seq, ↓vbindN_normal, ↓vbindB_self, ↓vatEnd_ret, ↓VO_nil, ↓VO_cons, ↓VO_cons_drop, ↓VS_load, ↓VS_store, ↓vfev_tmp, ↓vupd_same, ↓vupd_ne, Now_any, Got_some, vrs_one, vr1_cell, List.map_cons, List.map_nil, ↓vld_ptr, vrdB_cells, vst_ptr, vstB_cells, vpart_agg, cs_agg, vAll_nil, ne_eq, List.append_nil, List.nil_append, heap_write_self, ↓reduceIte, List.length_cons, List.length_nil, List.drop_zero, List.drop_succ_cons, List.take_succ_cons, List.take_zero, Nat.zero_add, Nat.reduceAdd, Nat.reduceLeDiff, and_self, q2, q3, g1, g0, hu1.all, hu2.all, vsplice, fg_agg, hu1.fg, hu2.fg]
      exact ⟨by rw [low_write]; omega, rfl⟩
end Go.Proofs.Ytmbbebfpjclghaa

set_option linter.unusedSimpArgs false
set_option linter.unusedSectionVars false
set_option linter.unusedVariables false
namespace Go.Proofs.Ytmbbebfpjclghaa
open Go Go.RowKit

theorem hasV (l : List Int) (x : Int) (hl : l.length ≤ 100000) : VD Try.prog 66 [vl l, vi x] (vb (l.contains x)) := by
  intro σ
  refine VC_body XF66 ?_
  simp (decide := true) only [↓VW_region, ↓VW_seq, ↓VW_block, ↓VW_stuck, ↓vbindN_normal, ↓VO_nil, ↓VO_cons, ↓VS_mv, ↓vfev_int, ↓vfev_bool, Now_any, xf66]
  refine VW_loopR 0 (fun k fe G => fe 0 = vl l ∧ fe 1 = vi x ∧ G = σ.fresh ∧ ∃ i : Nat, fe 5 = vi i ∧ k + i = l.length ∧ ∀ j (h : j < l.length), j < i → l[j] ≠ x) (fun fe G => G = σ.fresh ∧ ∀ j (h : j < l.length), l[j] ≠ x) l.length ?_ ?_ ?_
  · simp (decide := true) only [↓vupd_same, ↓vupd_ne, ↓vfe0_zero, ↓vfe0_succ, ne_eq, true_and]
    exact ⟨0, rfl, by omega, fun _ _ h => by omega⟩
  · rintro k fe G ⟨q0, q1, rfl, i, q5, hk, hall⟩
    simp (decide := true) only [↓VW_region, ↓VW_seq, ↓VW_cond, ↓vbindN_normal, ↓VO_nil, ↓VO_cons, ↓VS_mv, ↓VS_bin, ↓VS_len, ↓vfev_tmp, ↓vupd_same, ↓vupd_ne, Now_any, Got_some, len_vl, ne_eq, q0, q5, vbin_lss]
    refine TestV_dec (fun hlt => ?_) (fun hge => ?_)
    · have hi : i < l.length := by omega
      simp (decide := true) only [↓VW_skip, ↓VW_region, ↓VW_seq, ↓VW_block, ↓VW_cond, ↓vbindN_normal, ↓VO_nil, ↓VO_cons, ↓VS_mv, ↓VS_load, ↓VS_ia, ↓VS_bin, ↓vfev_tmp, ↓vupd_same, ↓vupd_ne, Now_any, Got_some, vpart_one, ne_eq, q0, q1, q5, via_vl hi, wInt, vld_vep hi, eInt, List.drop_zero, List.take_succ_cons, List.take_zero, vbin_eql]
      refine TestV_dec (fun he => ?_) (fun he => ?_)
      · simp (decide := true) only [↓VW_ret, ↓VW_region, ↓VW_seq, ↓vbindN_normal, ↓vbindN_ret, ↓vbindB_ret, ↓vbindL_ret, ↓vatExit_ret, ↓vatEnd_ret, ↓VO_nil, ↓VO_cons, ↓VS_mv, ↓vfev_bool, ↓vupd_same, Now_any, Got_some, vrs_one, vr1_tmp, fg_bool]
        have : l.contains x = true := by rw [List.contains_iff_mem, ← he]; exact List.getElem_mem _
        exact ⟨Nat.le_refl _, by rw [this]⟩
      · simp (decide := true) only [↓VW_skip, ↓VW_region, ↓vbindN_normal, ↓vbindB_normal, ↓vbindL_normal, ↓VO_nil, ↓VO_cons, ↓VS_mv, ↓VS_bin, ↓vfev_tmp, ↓vfev_int, ↓vupd_same, ↓vupd_ne, Now_any, Got_some, ne_eq, q0, q1, q5, vbin_add, w64_1 hi (by omega : l.length ≤ 1000000), true_and]
        refine ⟨k - 1, by omega, i + 1, rfl, by omega, fun j hj hlt => ?_⟩
        by_cases e : j = i
        · subst e; exact he
        · exact hall j hj (by omega)
    · simp (decide := true) only [↓VW_exit, ↓vbindN_exit, ↓vbindL_exit, ↓vatExit_self, ne_eq, true_and]
      exact fun j hj => hall j hj (by omega)
  · rintro fe G ⟨rfl, hall⟩
    simp (decide := true) only [↓VW_ret, ↓VW_region, ↓VW_seq, ↓vbindN_normal, ↓vbindB_self, ↓vatEnd_ret, ↓VO_nil, ↓VO_cons, ↓VS_mv, ↓vfev_bool, ↓vupd_same, Now_any, Got_some, vrs_one, vr1_tmp, fg_bool]
    have : l.contains x = false := by
      rw [Bool.eq_false_iff, ne_eq, List.contains_iff_mem]
      intro hm
      obtain ⟨j, hj, rfl⟩ := List.getElem_of_mem hm
      exact hall j hj rfl
    exact ⟨Nat.le_refl _, by rw [this]⟩
theorem subsetV (s l : List Int) (hs : s.length ≤ 100000) (hl : l.length ≤ 100000) : VD Try.prog 51 [vl s, vl l] (vb (s.all fun x => l.contains x)) := by
  intro σ
  refine VC_body XF51 ?_
  simp (decide := true) only [↓VW_region, ↓VW_seq, ↓VW_block, ↓VW_stuck, ↓vbindN_normal, ↓VO_nil, ↓VO_cons, ↓VS_mv, ↓vfev_int, ↓vfev_bool, Now_any, xf51]
  refine VW_loopR 0 (fun k fe G => fe 0 = vl s ∧ fe 1 = vl l ∧ σ.next ≤ G.low ∧ ∃ i : Nat, fe 5 = vi i ∧ k + i = s.length ∧ ∀ j (h : j < s.length), j < i → l.contains s[j] = true) (fun fe G => σ.next ≤ G.low ∧ ∀ j (h : j < s.length), l.contains s[j] = true) s.length ?_ ?_ ?_
  · simp (decide := true) only [↓vupd_same, ↓vupd_ne, ↓vfe0_zero, ↓vfe0_succ, ne_eq, true_and]
    exact ⟨Nat.le_refl _, 0, rfl, by omega, fun _ _ h => by omega⟩
  · rintro k fe G ⟨q0, q1, hlo, i, q5, hk, hall⟩
    simp (decide := true) only [↓VW_region, ↓VW_seq, ↓VW_cond, ↓vbindN_normal, ↓VO_nil, ↓VO_cons, ↓VS_mv, ↓VS_bin, ↓VS_len, ↓vfev_tmp, ↓vupd_same, ↓vupd_ne, Now_any, Got_some, len_vl, ne_eq, q0, q5, vbin_lss]
    refine TestV_dec (fun hlt => ?_) (fun hge => ?_)
    · have hi : i < s.length := by omega
      simp (decide := true) only [↓VW_skip, ↓VW_region, ↓VW_seq, ↓VW_block, ↓vbindN_normal, ↓VO_cons, ↓VS_mv, ↓VS_call, ↓VS_load, ↓VS_ia, ↓vfev_tmp, ↓vupd_same, ↓vupd_ne, Now_any, Got_some, List.map_cons, List.map_nil, vpart_one, ne_eq, q0, q1, q5, via_vl hi, wInt, vld_vep hi, eInt, List.drop_zero, List.take_succ_cons, List.take_zero]
      refine VCall.dat (hasV l s[i] hl) ⟨Fg.rfl _, Fg.rfl _, trivial⟩ (fun H hs2 => ?_)
      have lH := hs2.low
      simp (decide := true) only [↓VW_cond, ↓vbindN_normal, ↓VO_nil, ↓VO_cons, ↓VS_un, ↓vfev_tmp, ↓vupd_same, Now_any, Got_some, vun_not]
      refine TestV_bool (fun hb => ?_) (fun hb => ?_)
      · simp (decide := true) only [↓VW_ret, ↓VW_region, ↓VW_seq, ↓vbindN_normal, ↓vbindN_ret, ↓vbindB_ret, ↓vbindL_ret, ↓vatExit_ret, ↓vatEnd_ret, ↓VO_nil, ↓VO_cons, ↓VS_mv, ↓vfev_bool, ↓vupd_same, Now_any, Got_some, vrs_one, vr1_tmp, fg_bool]
        have hc : l.contains s[i] = false := by simpa using hb
        have : (s.all fun x => l.contains x) = false := by
          rw [List.all_eq_false]
          exact ⟨s[i], List.getElem_mem _, by rw [hc]; decide⟩
        exact ⟨by omega, by rw [this]⟩
      · have hc : l.contains s[i] = true := by simpa using hb
        simp (decide := true) only [↓VW_skip, ↓VW_region, ↓vbindN_normal, ↓vbindB_normal, ↓vbindL_normal, ↓VO_nil, ↓VO_cons, ↓VS_mv, ↓VS_bin, ↓vfev_tmp, ↓vfev_int, ↓vupd_same, ↓vupd_ne, Now_any, Got_some, ne_eq, q0, q1, q5, vbin_add, w64_1 hi (by omega : s.length ≤ 1000000), true_and]
        refine ⟨k - 1, by omega, by omega, i + 1, rfl, by omega, fun j hj hlt => ?_⟩
        by_cases e : j = i
        · subst e; exact hc
        · exact hall j hj (by omega)
    · simp (decide := true) only [↓VW_exit, ↓vbindN_exit, ↓vbindL_exit, ↓vatExit_self]
      exact ⟨hlo, fun j hj => hall j hj (by omega)⟩
  · rintro fe G ⟨hlo, hall⟩
    simp (decide := true) only [↓VW_ret, ↓VW_region, ↓VW_seq, ↓vbindN_normal, ↓vbindB_self, ↓vatEnd_ret, ↓VO_nil, ↓VO_cons, ↓VS_mv, ↓vfev_bool, ↓vupd_same, Now_any, Got_some, vrs_one, vr1_tmp, fg_bool]
    have : (s.all fun x => l.contains x) = true := by
      rw [List.all_eq_true]
      intro x hx
      obtain ⟨j, hj, rfl⟩ := List.getElem_of_mem hx
      exact hall j hj
    exact ⟨hlo, by rw [this]⟩
theorem sameV (l m : List Int) (hl : l.length ≤ 100000) : VD Try.prog 29 [vl l, vl m] (vb (decide (l = m))) := by
  intro σ
  refine VC_body XF29 ?_
  simp (decide := true) only [↓VW_region, ↓VW_seq, ↓VW_cond, ↓vbindN_normal, ↓VO_nil, ↓VO_cons, ↓VS_mv, ↓VS_bin, ↓VS_len, ↓vfev_tmp, ↓vfev_bool, ↓vupd_same, ↓vupd_ne, ↓vfe0_zero, ↓vfe0_succ, Now_any, Got_some, len_vl, ne_eq, xf29, vbin_neq]
  refine TestV_dec (fun hne => ?_) (fun heq => ?_)
  · simp (decide := true) only [↓VW_ret, ↓VW_region, ↓VW_seq, ↓vbindN_normal, ↓vbindN_ret, ↓vatEnd_ret, ↓VO_nil, ↓VO_cons, ↓VS_mv, ↓vfev_bool, ↓vupd_same, Now_any, Got_some, vrs_one, vr1_tmp, fg_bool]
    have : l ≠ m := fun h => hne (by rw [h])
    exact ⟨Nat.le_refl _, by rw [decide_eq_false this]⟩
  · have hlen : l.length = m.length := by omega
    simp (decide := true) only [↓VW_skip, ↓VW_region, ↓VW_seq, ↓VW_block, ↓VW_stuck, ↓vbindN_normal, ↓VO_nil, ↓VO_cons, ↓VS_mv, ↓vfev_int, Now_any]
    refine VW_loopR 0 (fun k fe G => fe 0 = vl l ∧ fe 1 = vl m ∧ G = σ.fresh ∧ ∃ i : Nat, fe 5 = vi i ∧ k + i = l.length ∧ ∀ j (h : j < l.length) (h2 : j < m.length), j < i → l[j] = m[j])
      (fun fe G => G = σ.fresh ∧ l = m) l.length ?_ ?_ ?_
    · simp (decide := true) only [↓vupd_same, ↓vupd_ne, ↓vfe0_zero, ↓vfe0_succ, ne_eq, true_and]
      exact ⟨0, rfl, by omega, fun j _ _ h => by omega⟩
    · rintro k fe G ⟨q0, q1, rfl, i, q5, hk, hall⟩
      simp (decide := true) only [↓VW_region, ↓VW_seq, ↓VW_cond, ↓vbindN_normal, ↓VO_nil, ↓VO_cons, ↓VS_mv, ↓VS_bin, ↓VS_len, ↓vfev_tmp, ↓vupd_same, ↓vupd_ne, Now_any, Got_some, len_vl, ne_eq, q0, q5, vbin_lss]
      refine TestV_dec (fun hlt => ?_) (fun hge => ?_)
      · have hi : i < l.length := by omega
        have hi2 : i < m.length := by omega
        simp (decide := true) only [↓VW_skip, ↓VW_ret, ↓VW_region, ↓VW_draw, ↓VW_seq, ↓VW_block, ↓VW_cond, ↓vbindN_normal, ↓vatEnd_ret, ↓VO_nil, ↓VO_cons, List.zip_cons_cons, List.zip_nil_left, ↓VM_nil, ↓VM_cons, ↓vearlyP_false, ↓VS_mv, ↓VS_load, ↓VS_ia, ↓VS_bin, ↓vfev_tmp, ↓vfev_int, ↓vfev_bool, ↓vupd_same, ↓vupd_ne, Now_any, Got_some, vrs_one, vr1_tmp, vpart_one, ne_eq, next_fresh, q0, q1, q5, via_vl hi, via_vl hi2, wInt, vld_vep hi, vld_vep hi2, eInt, List.drop_zero, List.take_succ_cons, List.take_zero, vbin_neq]
        refine TestV_dec (fun hne => ?_) (fun he => ?_)
        · simp (decide := true) only [↓VW_ret, ↓VW_region, ↓VW_seq, ↓vbindN_normal, ↓vbindN_ret, ↓vbindB_ret, ↓vbindL_ret, ↓vatExit_ret, ↓vatEnd_ret, ↓VO_nil, ↓VO_cons, ↓VS_mv, ↓vfev_bool, ↓vupd_same, Now_any, Got_some, vrs_one, vr1_tmp, fg_bool]
          have : l ≠ m := fun h => hne (by simp only [h])
          exact ⟨Nat.le_refl _, by rw [decide_eq_false this]⟩
        · have he : l[i] = m[i] := Classical.byContradiction fun h => he h
          simp (decide := true) only [↓VW_skip, ↓VW_region, ↓vbindN_normal, ↓vbindB_normal, ↓vbindL_normal, ↓VO_nil, ↓VO_cons, ↓VS_mv, ↓VS_bin, ↓vfev_tmp, ↓vfev_int, ↓vupd_same, ↓vupd_ne, Now_any, Got_some, ne_eq, q0, q1, q5, vbin_add, w64_1 hi (by omega : l.length ≤ 1000000), true_and]
          refine ⟨k - 1, by omega, i + 1, rfl, by omega, fun j hj hj2 hlt => ?_⟩
          by_cases e : j = i
          · subst e; exact he
          · exact hall j hj hj2 (by omega)
      · simp (decide := true) only [↓VW_exit, ↓vbindN_exit, ↓vbindL_exit, ↓vatExit_self, true_and]
        exact list_eq_of hlen fun j h1 h2 => hall j h1 h2 (by omega)
    · rintro fe G ⟨rfl, h⟩
      simp (decide := true) only [↓VW_ret, ↓VW_region, ↓VW_seq, ↓vbindN_normal, ↓vbindB_self, ↓vatEnd_ret, ↓VO_nil, ↓VO_cons, ↓VS_mv, ↓vfev_bool, ↓vupd_same, Now_any, Got_some, vrs_one, vr1_tmp, fg_bool]
      exact ⟨Nat.le_refl _, by rw [decide_eq_true h]⟩
theorem partV (p l : List Int) (hp : p.length ≤ 100000) (hl : l.length ≤ 100000) : VD Try.prog 43 [vl p, vl l] (vb (isPart p l)) := by
  intro σ
  refine VC_body XF43 ?_
  simp (decide := true) only [↓VW_region, ↓VW_seq, ↓VW_block, ↓VW_stuck, ↓vbindN_normal, ↓VO_nil, ↓VO_cons, ↓VS_mv, ↓vfev_int, ↓vfev_bool, Now_any, xf43]
  refine VW_loopR 0 (fun k fe G => fe 0 = vl p ∧ fe 1 = vl l ∧ G = σ.fresh ∧ ∃ i a : Nat, fe 6 = vi i ∧ fe 5 = vi a ∧ k + i = l.length ∧ a ≤ p.length ∧ fitL (p.drop a) (l.drop i) = fitL p l)
    (fun fe G => fe 0 = vl p ∧ G = σ.fresh ∧ ∃ a : Nat, fe 5 = vi a ∧ a ≤ p.length ∧ isPart p l = decide (a = p.length)) l.length ?_ ?_ ?_
  · simp (decide := true) only [↓vupd_same, ↓vupd_ne, ↓vfe0_zero, ↓vfe0_succ, ne_eq, true_and]
    exact ⟨0, 0, rfl, rfl, by omega, by omega, rfl⟩
  · rintro k fe G ⟨q0, q1, rfl, i, a, q6, q5, hk, ha, hfit⟩
    by_cases hi : i < l.length
    · by_cases hat : a < p.length
      · have c1 : decide ((i : Int) < l.length) = true := decide_eq_true (by omega)
        have c2 : decide ((a : Int) < p.length) = true := decide_eq_true (by omega)
        simp (decide := true) only [↓VW_skip, ↓VW_region, ↓VW_draw, ↓VW_seq, ↓VW_block, ↓VW_cond, ↓vbindN_normal, ↓VO_nil, ↓VO_cons, ↓VO_guard, List.zip_cons_cons, List.zip_nil_left, ↓VM_nil, ↓VM_cons, ↓vearlyP_false, ↓VS_mv, ↓VS_load, ↓VS_ia, ↓VS_bin, ↓VS_len, ↓VS_pick, ↓vfev_tmp, ↓vfev_int, ↓vfev_bool, ↓vupd_same, ↓vupd_ne, Now_any, Got_some, TestV_true, PickV_tt, len_vl, vpart_one, ne_eq, vpick_t, next_fresh, q0, q1, q5, q6, vbin_lss, c1, c2, via_vl hi, via_vl hat, wInt, vld_vep hi, vld_vep hat, eInt, List.drop_zero, List.take_succ_cons, List.take_zero, vbin_eql]
        refine TestV_dec (fun he => ?_) (fun he => ?_)
        · simp (decide := true) only [↓VW_region, ↓vbindN_normal, ↓vbindB_normal, ↓vbindL_normal, ↓VO_nil, ↓VO_cons, ↓VS_mv, ↓VS_bin, ↓vfev_tmp, ↓vfev_int, ↓vupd_same, ↓vupd_ne, Now_any, Got_some, ne_eq, q0, q1, q5, q6, vbin_add, w64_1 hi (by omega : l.length ≤ 1000000), w64_1 hat (by omega : p.length ≤ 1000000), true_and]
          exact ⟨k - 1, by omega, i + 1, a + 1, rfl, rfl, by omega, by omega, by rw [← fitL_yes hat hi he]; exact hfit⟩
        · simp (decide := true) only [↓VW_skip, ↓VW_region, ↓vbindN_normal, ↓vbindB_normal, ↓vbindL_normal, ↓VO_nil, ↓VO_cons, ↓VS_mv, ↓VS_bin, ↓vfev_tmp, ↓vfev_int, ↓vupd_same, ↓vupd_ne, Now_any, Got_some, ne_eq, q0, q1, q5, q6, vbin_add, w64_1 hi (by omega : l.length ≤ 1000000), true_and]
          exact ⟨k - 1, by omega, i + 1, a, rfl, rfl, by omega, by omega, by rw [← fitL_no hat hi he]; exact hfit⟩
      · have c1 : decide ((i : Int) < l.length) = true := decide_eq_true (by omega)
        have c2 : decide ((a : Int) < p.length) = false := decide_eq_false (by omega)
        simp (decide := true) only [↓VW_exit, ↓VW_region, ↓VW_seq, ↓VW_cond, ↓vbindN_normal, ↓vbindN_exit, ↓vbindL_exit, ↓vatExit_self, ↓VO_nil, ↓VO_cons, ↓VO_guard, ↓VS_mv, ↓VS_bin, ↓VS_len, ↓VS_pick, ↓vfev_tmp, ↓vfev_bool, ↓vupd_same, ↓vupd_ne, Now_any, Got_some, TestV_false, PickV_tt, len_vl, ne_eq, vpick_t, q0, q1, q5, q6, vbin_lss, c1, c2, true_and]
        exact ⟨a, rfl, ha, isPart_iff hfit ha (by omega)⟩
    · have c1 : decide ((i : Int) < l.length) = false := decide_eq_false (by omega)
      simp (decide := true) only [↓VW_exit, ↓VW_region, ↓VW_seq, ↓VW_cond, ↓vbindN_normal, ↓vbindN_exit, ↓vbindL_exit, ↓vatExit_self, ↓VO_nil, ↓VO_cons, ↓VO_guard, ↓VS_mv, ↓VS_bin, ↓VS_len, ↓VS_pick, ↓vfev_tmp, ↓vfev_bool, ↓vupd_same, ↓vupd_ne, Now_any, Got_some, TestV_false, PickV_ft, len_vl, ne_eq, vpick_f, q0, q1, q5, q6, vbin_lss, c1, true_and]
      exact ⟨a, rfl, ha, isPart_iff hfit ha (by omega)⟩
  · rintro fe G ⟨q0, rfl, a, q5, ha, hp2⟩
    simp (decide := true) only [↓VW_ret, ↓VW_region, ↓VW_seq, ↓vbindN_normal, ↓vbindB_self, ↓vatEnd_ret, ↓VO_nil, ↓VO_cons, ↓VS_mv, ↓VS_bin, ↓VS_len, ↓vfev_tmp, ↓vupd_same, ↓vupd_ne, Now_any, Got_some, vrs_one, vr1_tmp, len_vl, ne_eq, q0, q5, vbin_eql, fg_bool]
    refine ⟨Nat.le_refl _, ?_⟩
    rw [hp2]
    congr 2
    rw [Bool.eq_iff_iff]
    simp only [decide_eq_true_eq]
    omega

/-- the two conditions of the examples. -/
def pEx (kind : Int) (s l : List Int) : Bool := if kind = 0 then s.all fun x => l.contains x else decide ((l.length : Int).tmod 2 = 0)
theorem ar0 : aroundI 0 20 = 0 := by decide
theorem ar1 : aroundI 0 6 = 0 := by decide
theorem ar3 : aroundI 3 6 = 3 := by decide
theorem holds0 (s l f : List Int) (hs : s.length ≤ 100000) (hl : l.length ≤ 100000) : VD Try.prog 44 [.agg [vi 0, vl s, vi 0, vl f], vl l] (vb (pEx 0 s l)) := by
  intro σ
  refine VC_body XF44 ?_
  simp (decide := true) only [↓VW_region, ↓VW_seq, ↓vbindN_normal, ↓VO_nil, ↓VO_cons, ↓VS_mv, ↓VS_call, ↓VS_load, ↓VS_fa, ↓VS_box, ↓vfev_tmp, ↓vfev_int, ↓vfev_bool, ↓vupd_same, ↓vupd_ne, ↓vfe0_zero, Now_any, Got_some, List.map_cons, List.map_nil, ↓vld_ptr, vrdB_cells, vadd_ptr, vpart_one, cs_agg, vAll_v, vAll_vl, vAll_nil, Need_true, ne_eq, next_fresh, heap_box, ↓reduceIte, List.length_cons, List.length_nil, List.drop_zero, List.drop_succ_cons, List.take_succ_cons, List.take_zero, Nat.zero_add, Nat.reduceAdd, Nat.reduceLeDiff, xf44]
  have g0 : (σ.fresh.box [vi 0, vl s, vi 0, vl f] 71 4).heap σ.next = .cells [vi 0, vl s, vi 0, vl f] 71 4 σ.next := heap_box_self _ _ _ _
  have nA : (σ.fresh.box [vi 0, vl s, vi 0, vl f] 71 4).next = σ.next + 1 := rfl
  have lA : (σ.fresh.box [vi 0, vl s, vi 0, vl f] 71 4).low = σ.next := rfl
  generalize σ.fresh.box [vi 0, vl s, vi 0, vl f] 71 4 = A at g0 nA lA ⊢
  refine VCall.dat (aroundV 0 20 (by decide)) ⟨Fg.rfl _, Fg.rfl _, trivial⟩ (fun B hs => ?_)
  have lB := hs.low
  have nB := hs.next
  have b0 := (hs.heap _ (by omega)).trans g0
  simp (decide := true) only [↓VW_region, ↓VW_seq, ↓vbindN_normal, ↓VO_nil, ↓VO_cons, ↓VS_mv, ↓VS_call, ↓VS_load, ↓VS_fa, ↓vfev_tmp, ↓vfev_int, ↓vupd_same, ↓vupd_ne, Now_any, Got_some, List.map_cons, List.map_nil, ↓vld_ptr, vrdB_cells, vadd_ptr, vpart_one, ne_eq, Nat.add_zero, ↓reduceIte, List.length_cons, List.length_nil, List.drop_zero, List.take_succ_cons, List.take_zero, Nat.zero_add, Nat.reduceAdd, Nat.reduceLeDiff, b0, ar0]
  refine VCall.dat (aroundV 0 6 (by decide)) ⟨Fg.rfl _, Fg.rfl _, trivial⟩ (fun C hs2 => ?_)
  have lC := hs2.low
  have c0 := (hs2.heap _ (by omega)).trans b0
  simp (decide := true) only [↓VW_region, ↓VW_seq, ↓VW_block, ↓VW_cond, ↓vbindN_normal, ↓VO_nil, ↓VO_cons, ↓VS_mv, ↓VS_call, ↓VS_load, ↓VS_fa, ↓VS_bin, ↓vfev_tmp, ↓vfev_int, ↓vupd_same, ↓vupd_ne, ↓vfe0_zero, ↓vfe0_succ, Now_any, Got_some, TestV_true, List.map_cons, List.map_nil, ↓vld_ptr, vrdB_cells, vadd_ptr, vpart_one, ne_eq, ↓reduceIte, List.length_cons, List.length_nil, List.drop_zero, List.drop_succ_cons, List.take_succ_cons, List.take_zero, Nat.zero_add, Nat.reduceAdd, Nat.reduceLeDiff, c0, ar1, vbin_eql, decide_true]
  refine VCall.dat (subsetV s l ‹_› hl) ⟨Fg.rfl _, Fg.rfl _, trivial⟩ (fun D hs3 => ?_)
  have lD := hs3.low
  simp (decide := true) only [↓VW_ret, ↓vbindN_normal, ↓vbindN_ret, ↓vbindB_ret, ↓vatEnd_ret, ↓VO_nil, ↓VO_cons, ↓VS_mv, ↓vfev_tmp, ↓vupd_same, Now_any, Got_some, vrs_one, vr1_tmp, fg_bool]
  exact ⟨by omega, by rw [pEx, if_pos rfl]⟩
theorem holds3 (s l f : List Int) (hl : l.length ≤ 100000) : VD Try.prog 44 [.agg [vi 3, vl s, vi 0, vl f], vl l] (vb (pEx 3 s l)) := by
  intro σ
  refine VC_body XF44 ?_
  simp (decide := true) only [↓VW_region, ↓VW_seq, ↓vbindN_normal, ↓VO_nil, ↓VO_cons, ↓VS_mv, ↓VS_call, ↓VS_load, ↓VS_fa, ↓VS_box, ↓vfev_tmp, ↓vfev_int, ↓vfev_bool, ↓vupd_same, ↓vupd_ne, ↓vfe0_zero, Now_any, Got_some, List.map_cons, List.map_nil, ↓vld_ptr, vrdB_cells, vadd_ptr, vpart_one, cs_agg, vAll_v, vAll_vl, vAll_nil, Need_true, ne_eq, next_fresh, heap_box, ↓reduceIte, List.length_cons, List.length_nil, List.drop_zero, List.drop_succ_cons, List.take_succ_cons, List.take_zero, Nat.zero_add, Nat.reduceAdd, Nat.reduceLeDiff, xf44]
  have g0 : (σ.fresh.box [vi 3, vl s, vi 0, vl f] 71 4).heap σ.next = .cells [vi 3, vl s, vi 0, vl f] 71 4 σ.next := heap_box_self _ _ _ _
  have nA : (σ.fresh.box [vi 3, vl s, vi 0, vl f] 71 4).next = σ.next + 1 := rfl
  have lA : (σ.fresh.box [vi 3, vl s, vi 0, vl f] 71 4).low = σ.next := rfl
  generalize σ.fresh.box [vi 3, vl s, vi 0, vl f] 71 4 = A at g0 nA lA ⊢
  refine VCall.dat (aroundV 0 20 (by decide)) ⟨Fg.rfl _, Fg.rfl _, trivial⟩ (fun B hs => ?_)
  have lB := hs.low
  have nB := hs.next
  have b0 := (hs.heap _ (by omega)).trans g0
  simp (decide := true) only [↓VW_region, ↓VW_seq, ↓vbindN_normal, ↓VO_nil, ↓VO_cons, ↓VS_mv, ↓VS_call, ↓VS_load, ↓VS_fa, ↓vfev_tmp, ↓vfev_int, ↓vupd_same, ↓vupd_ne, Now_any, Got_some, List.map_cons, List.map_nil, ↓vld_ptr, vrdB_cells, vadd_ptr, vpart_one, ne_eq, Nat.add_zero, ↓reduceIte, List.length_cons, List.length_nil, List.drop_zero, List.take_succ_cons, List.take_zero, Nat.zero_add, Nat.reduceAdd, Nat.reduceLeDiff, b0, ar0]
  refine VCall.dat (aroundV 3 6 (by decide)) ⟨Fg.rfl _, Fg.rfl _, trivial⟩ (fun C hs2 => ?_)
  have lC := hs2.low
  have r0 : (0 : Int).tmod 2 = 0 := by decide
  simp (decide := true) only [↓VW_ret, ↓VW_region, ↓VW_seq, ↓VW_block, ↓VW_cond, ↓vbindN_normal, ↓vbindN_ret, ↓vbindB_ret, ↓vatEnd_ret, ↓VO_nil, ↓VO_cons, ↓VS_mv, ↓VS_bin, ↓VS_len, ↓vfev_tmp, ↓vfev_int, ↓vupd_same, ↓vupd_ne, ↓vfe0_zero, ↓vfe0_succ, Now_any, Got_some, TestV_true, TestV_false, vrs_one, vr1_tmp, len_vl, ne_eq, ar3, vbin_eql, decide_true, decide_false, vbin_rem _ _ n2, r0, fg_bool]
  exact ⟨by omega, by rw [pEx, if_neg (by decide)]⟩
end Go.Proofs.Ytmbbebfpjclghaa

set_option linter.unusedSimpArgs false
set_option linter.unusedSectionVars false
set_option linter.unusedVariables false
namespace Go.Proofs.Ytmbbebfpjclghaa
open Go Go.RowKit

/-- The oracle's cells after n questions. -/
def OrAt (op : Nat) (kind : Int) (s L : List Int) (vs vf vL : VV) (n : Nat) (σ : VSt) : Prop :=
  ∃ (a : Int) (w : Bool) (ty : TypeId) (z : Nat), σ.heap op = .cells [vi kind, vs, vi 0, vf, vL, vi a, vb w] ty z op ∧ (n ≤ 1000 → a = n)
theorem ofails (kind : Int) (s L : List Int) (vs vf vL : VV) (hvs : Rd vs s) (hvf : Rd vf ([] : List Int)) (hvL : Rd vL L) (hh : ∀ l, l.length ≤ 1000 → VD Try.prog 44 [.agg [vi kind, vl s, vi 0, vl ([] : List Int)], vl l] (vb (pEx kind s l)))
    (hL : L.length ≤ 1000) (l : List Int) (hl : l.length ≤ 1000) (op n : Nat) (σ : VSt) (h : OrAt op kind s L vs vf vL n σ) (hop : op < σ.next) :
    VC Try.prog 28 [.ptr op 0, vl l] σ (fun r σ' => min op σ.next ≤ σ'.low ∧ r.fg = vb (pEx kind s l) ∧ OrAt op kind s L vs vf vL (n + 1) σ' ∧ ∀ id, id < σ.next → id ≠ op → σ'.heap id = σ.heap id) := by
  obtain ⟨a, w, ty, z, hg, han⟩ := h
  have hg' : σ.fresh.heap op = .cells [vi kind, vs, vi 0, vf, vL, vi a, vb w] ty z op := hg
  refine VC_body XF28 ?_
  simp (decide := true) only [↓VW_region, ↓VW_seq, ↓vbindN_normal, ↓VO_nil, ↓VO_cons, ↓VO_cons_drop, ↓VO_guard, ↓VS_mv, ↓VS_load, ↓VS_fa, ↓VS_bin, ↓VS_nilck, ↓VS_store, ↓vfev_tmp, ↓vfev_int, ↓vfev_bool, ↓vupd_same, ↓vupd_ne, ↓vfe0_zero, Now_any, Got_some, ↓vld_ptr, vrdB_cells, vst_ptr, vstB_cells, vadd_ptr, vnilck_ptr, vpart_one, cs_v, vAll_v, vAll_nil, ne_eq, List.nil_append, List.cons_append, heap_write_self, ↓reduceIte, List.length_cons, List.length_nil, List.drop_zero, List.drop_succ_cons, List.take_succ_cons, List.take_zero, Nat.zero_add, Nat.reduceAdd, Nat.reduceLeDiff, and_self, xf28, hg', vbin_add, vsplice]
  have han2 : n + 1 ≤ 1000 → w64 (a + 1) = ((n + 1 : Nat) : Int) := fun h => by rw [han (by omega), w64_ok (by omega) (by omega)]; omega
  generalize w64 (a + 1) = a2 at han2 ⊢
  generalize hA : σ.fresh.write op _ ty z op = A
  have nA : A.next = σ.next := by rw [← hA]; rfl
  have lA : A.low = min op σ.next := by rw [← hA, low_write, low_fresh]; omega
  have g1 : A.heap op = .cells [vi kind, vs, vi 0, vf, vL, vi a2, vb w] ty z op := by rw [← hA, heap_write_self]
  have k1 : ∀ id, id ≠ op → A.heap id = σ.heap id := fun id hid => by rw [← hA, heap_write_ne _ _ _ _ _ _ _ hid]; rfl
  clear hA
  have fin : ∀ (w2 : Bool) (B C : VSt), Sub B C → A.next ≤ B.next → min op σ.next ≤ B.low → B.heap op = .cells [vi kind, vs, vi 0, vf, vL, vi a2, vb w2] ty z op → (∀ id, id < σ.next → id ≠ op → B.heap id = σ.heap id) →
      min op σ.next ≤ C.low ∧ (vb (pEx kind s l)).fg = vb (pEx kind s l) ∧ OrAt op kind s L vs vf vL (n + 1) C ∧ ∀ id, id < σ.next → id ≠ op → C.heap id = σ.heap id := by
    intro w2 B C hs hn hlo hb hk
    have := hs.low
    exact ⟨by omega, by rw [fg_bool], ⟨a2, w2, ty, z, (hs.heap op (by omega)).trans hb, han2⟩, fun id h1 h2 => (hs.heap id (by omega)).trans (hk id h1 h2)⟩
  have hfg : (VV.agg [vi kind, vs, vi 0, vf]).fg = .agg [vi kind, vl s, vi 0, vl ([] : List Int)] := by simp only [fg_agg, List.map_cons, List.map_nil, hvs.fg, hvf.fg, fg_int]
  have call2 : ∀ (w2 : Bool) (B : VSt) (K : VV → VSt → Bool → Prop), A.next ≤ B.next → min op σ.next ≤ B.low → B.heap op = .cells [vi kind, vs, vi 0, vf, vL, vi a2, vb w2] ty z op → (∀ id, id < σ.next → id ≠ op → B.heap id = σ.heap id) →
      (∀ C, (min op σ.next ≤ C.low ∧ (vb (pEx kind s l)).fg = vb (pEx kind s l) ∧ OrAt op kind s L vs vf vL (n + 1) C ∧ ∀ id, id < σ.next → id ≠ op → C.heap id = σ.heap id) → K (vb (pEx kind s l)) C true) →
      @VCall Try.prog _ 44 [.agg [vi kind, vs, vi 0, vf], vl l] ⟨((false, false), B, K)⟩ := by
    intro w2 B K hn hlo hb hk hK
    exact VCall.dat (hh l hl) ⟨Fg.of hfg, Fg.rfl _, trivial⟩ (fun C hs => hK C (fin w2 B C hs hn hlo hb hk))
  cases w with
  | true =>
    simp (decide := true) only [↓VW_region, ↓VW_seq, ↓vbindN_normal, ↓VO_nil, ↓VO_cons, ↓VO_cons_drop, ↓VO_guard, ↓VS_mv, ↓VS_call, ↓VS_load, ↓VS_fa, ↓VS_nilck, ↓VS_pick, ↓VS_store, ↓vfev_tmp, ↓vfev_bool, ↓vupd_same, ↓vupd_ne, ↓vfe0_zero, ↓vfe0_succ, Now_any, Got_some, PickV_tf, List.map_cons, List.map_nil, ↓vld_ptr, vrdB_cells, vst_ptr, vstB_cells, vadd_ptr, vnilck_ptr, vpart_agg, cs_v, ne_eq, vpick_t, List.append_nil, List.nil_append, List.cons_append, Nat.add_zero, heap_write_self, ↓reduceIte, List.length_cons, List.length_nil, List.drop_zero, List.drop_succ_cons, List.take_succ_cons, List.take_zero, Nat.zero_add, Nat.reduceAdd, Nat.reduceLeDiff, and_self, g1, vsplice]
    refine call2 true (A.write op [vi kind, vs, vi 0, vf, vL, vi a2, vb true] ty z op) _ (by rw [next_write]; exact Nat.le_refl _) (by rw [low_write]; omega) (heap_write_self _ _ _ _ _ _) (fun id h1 h2 => (heap_write_ne _ _ _ _ _ _ _ h2).trans (k1 id h2)) (fun C hC => ?_)
    simp (decide := true) only [↓VW_ret, ↓vbindN_normal, ↓vatEnd_ret, ↓VO_nil, ↓VO_cons, ↓VS_mv, ↓vfev_tmp, ↓vupd_same, Now_any, Got_some, vrs_one, vr1_tmp]
    exact hC
  | false =>
    simp (decide := true) only [↓VO_guard, ↓VS_mv, ↓VS_call, ↓VS_load, ↓VS_fa, ↓VS_nilck, ↓vfev_tmp, ↓vupd_same, ↓vupd_ne, ↓vfe0_zero, ↓vfe0_succ, Now_any, Got_some, PickV_ff, List.map_cons, List.map_nil, ↓vld_ptr, vrdB_cells, vadd_ptr, vnilck_ptr, vpart_one, ne_eq, ↓reduceIte, List.length_cons, List.length_nil, List.drop_zero, List.drop_succ_cons, List.take_succ_cons, List.take_zero, Nat.zero_add, Nat.reduceAdd, Nat.reduceLeDiff, g1]
    refine VCall.dat (partV l L (by omega) (by omega)) ⟨Fg.rfl _, Fg.of hvL.fg, trivial⟩ (fun B hs => ?_)
    have nB := hs.next
    have lB := hs.low
    have b1 := (hs.heap op (by omega)).trans g1
    generalize isPart l L = w2
    cases w2 <;> simp (decide := true) only [↓VW_region, ↓VW_seq, ↓vbindN_normal, ↓VO_nil, ↓VO_cons, ↓VO_cons_drop, ↓VO_guard, ↓VS_mv, ↓VS_call, ↓VS_load, ↓VS_fa, ↓VS_un, ↓VS_nilck, ↓VS_pick, ↓VS_store, ↓vfev_tmp, ↓vfev_bool, ↓vupd_same, ↓vupd_ne, ↓vfe0_zero, ↓vfe0_succ, Now_any, Got_some, PickV_ff, List.map_cons, List.map_nil, ↓vld_ptr, vrdB_cells, vst_ptr, vstB_cells, vadd_ptr, vnilck_ptr, vpart_agg, cs_v, ne_eq, vpick_f, vun_not, List.append_nil, List.nil_append, List.cons_append, Nat.add_zero, Bool.not_false, Bool.not_true, heap_write_self, ↓reduceIte, List.length_cons, List.length_nil, List.drop_zero, List.drop_succ_cons, List.take_succ_cons, List.take_zero, Nat.zero_add, Nat.reduceAdd, Nat.reduceLeDiff, and_self, b1, vsplice]
    · refine call2 true (B.write op [vi kind, vs, vi 0, vf, vL, vi a2, vb true] ty z op) _ (by rw [next_write]; exact nB) (by rw [low_write]; omega) (heap_write_self _ _ _ _ _ _) (fun id h1 h2 => (heap_write_ne _ _ _ _ _ _ _ h2).trans ((hs.heap id (by omega)).trans (k1 id h2))) (fun C hC => ?_)
      simp (decide := true) only [↓VW_ret, ↓vbindN_normal, ↓vatEnd_ret, ↓VO_nil, ↓VO_cons, ↓VS_mv, ↓vfev_tmp, ↓vupd_same, Now_any, Got_some, vrs_one, vr1_tmp]
      exact hC
    · refine call2 false (B.write op [vi kind, vs, vi 0, vf, vL, vi a2, vb false] ty z op) _ (by rw [next_write]; exact nB) (by rw [low_write]; omega) (heap_write_self _ _ _ _ _ _) (fun id h1 h2 => (heap_write_ne _ _ _ _ _ _ _ h2).trans ((hs.heap id (by omega)).trans (k1 id h2))) (fun C hC => ?_)
      simp (decide := true) only [↓VW_ret, ↓vbindN_normal, ↓vatEnd_ret, ↓VO_nil, ↓VO_cons, ↓VS_mv, ↓vfev_tmp, ↓vupd_same, Now_any, Got_some, vrs_one, vr1_tmp]
      exact hC

/-- An oracle and what lies at another place. -/
theorem oCond (kind : Int) (s L : List Int) (vs vf vL : VV) (hvs : Rd vs s) (hvf : Rd vf ([] : List Int)) (hvL : Rd vL L) (hh : ∀ l, l.length ≤ 1000 → VD Try.prog 44 [.agg [vi kind, vl s, vi 0, vl ([] : List Int)], vl l] (vb (pEx kind s l)))
    (hL : L.length ≤ 1000) (op oth : Nat) (ho : op ≠ oth) (c : VB) (B : Nat) (h1 : op < B) (h2 : oth < B) : Cond 28 [.ptr op 0] [] (pEx kind s) L (fun n σ => OrAt op kind s L vs vf vL n σ ∧ σ.heap oth = c) B op := by
  refine ⟨?_, ?_⟩
  · rintro n l σ ⟨hI, hc⟩ hB hl
    have hll := hl.length_le
    refine VG.mono (P := Try.prog) (ofails kind s L vs vf vL hvs hvf hvL hh hL l (by omega) op n σ hI (by omega)) ?_
    rintro v σ' ⟨w1, w2, w3, w4⟩
    exact ⟨w1, w2, w3, (w4 oth (by omega) (Ne.symm ho)).trans hc⟩
  · rintro n σ σ' ⟨⟨a, w, ty, z, hg, ha⟩, hc⟩ hk
    exact ⟨⟨a, w, ty, z, (hk op h1).trans hg, ha⟩, (hk oth h2).trans hc⟩

theorem run0 : Shr.run (pEx 0 [3, 5]) [1, 3, 4, 5, 3] = ([5, 3], (Shr.run (pEx 0 [3, 5]) [1, 3, 4, 5, 3]).2) ∧ 0 < (Shr.run (pEx 0 [3, 5]) [1, 3, 4, 5, 3]).2 ∧ (Shr.run (pEx 0 [3, 5]) [1, 3, 4, 5, 3]).2 ≤ 1000 := by decide
theorem run1 : Shr.run (pEx 3 []) [1, 2] = ([1, 2], (Shr.run (pEx 3 []) [1, 2]).2) := by decide

theorem lives_any : VD Try.prog 12 [] (vb true) := by
  intro σ
  refine VC_body XF12 ?_
  simp (decide := true) only [↓VW_region, ↓VW_seq, ↓vbindN_normal, ↓VO_nil, ↓VO_cons, ↓VS_mv, ↓VS_buildSlice, ↓vfev_int, ↓vfev_bool, Now_any, List.map_cons, List.map_nil, xf12]
  refine VBuild.own (l := [vi 3, vi 5]) rfl rfl rfl ?_
  simp (decide := true) only [↓VO_cons, ↓VS_build, ↓VS_buildSlice, ↓vfev_tmp, ↓vfev_int, ↓vupd_same, Now_any, Got_some, List.map_cons, List.map_nil, cs_v, cs_own, List.nil_append, List.cons_append, next_fresh, vfill_nil, vfill_cons, vsplice, fg_int, ↓reduceIte, List.length_cons, List.length_nil, List.drop_zero, List.drop_succ_cons, List.take_succ_cons, List.take_zero, Nat.zero_add, Nat.reduceAdd, and_self]
  refine VBuild.own (l := [vi 1, vi 3, vi 4, vi 5, vi 3]) rfl rfl rfl ?_
  simp (decide := true) only [↓VW_region, ↓VW_seq, ↓vbindN_normal, ↓VO_nil, ↓VO_cons, ↓VS_mv, ↓VS_build, ↓VS_box, ↓VS_buildSlice, ↓vfev_tmp, ↓vfev_int, ↓vupd_same, ↓vupd_ne, Now_any, Got_some, List.map_cons, List.map_nil, cs_agg, cs_v, cs_own, vAll_v, vAll_own, vAll_nil, Need_true, ne_eq, List.nil_append, List.cons_append, next_newTok, next_fresh, vfill_nil, vfill_cons, vsplice, fg_int, ↓reduceIte, List.length_cons, List.length_nil, List.drop_zero, List.drop_succ_cons, List.take_succ_cons, List.take_zero, Nat.zero_add, Nat.add_assoc, Nat.reduceAdd, Nat.reduceLeDiff, and_self]
  refine VBuild.own (l := [vi 1, vi 2]) rfl rfl rfl ?_
  simp (decide := true) only [↓VW_region, ↓VW_seq, ↓vbindN_normal, ↓VO_nil, ↓VO_cons, ↓VS_mv, ↓VS_call, ↓VS_load, ↓VS_fa, ↓VS_nilck, ↓VS_mkFunc, ↓VS_build, ↓VS_box, ↓vfev_tmp, ↓vupd_same, ↓vupd_ne, Now_any, Got_some, List.map_cons, List.map_nil, ↓vld_ptr, vrdB_cells, vadd_ptr, vnilck_ptr, vpart_one, cs_agg, cs_own, vAll_v, vAll_own, vAll_nil, Need_true, ne_eq, List.nil_append, List.cons_append, next_box, next_newTok, next_fresh, vfill_nil, vfill_cons, vsplice, fg_int, heap_box, heap_newTok, ↓reduceIte, Nat.left_eq_add, Nat.add_right_cancel_iff, List.length_cons, List.length_nil, List.drop_zero, List.drop_succ_cons, List.take_succ_cons, List.take_zero, Nat.zero_add, Nat.add_assoc, Nat.reduceAdd, Nat.reduceLeDiff, and_self]
  refine VCall_at (fun A hA => ?_)
  have nA : A.next = σ.next + 5 := by rw [hA]; rfl
  have lA : A.low = σ.next := by rw [hA]; rfl
  have a1 : A.heap (σ.next + 2) = .cells [vi 0, vo [(3 : Int), 5] σ.next, vi 0, .v (.slice none 0 0), vo [(1 : Int), 3, 4, 5, 3] (σ.next + 1), vi 0, vb false] 73 7 (σ.next + 2) := by
    rw [hA, heap_box_ne _ _ _ _ _ (by simp [next_newTok, next_box, next_fresh]), heap_newTok]; exact heap_box_self _ _ _ _
  have a2 : A.heap (σ.next + 4) = .cells [vi 3, .v (.slice none 0 0), vi 0, .v (.slice none 0 0), vo [(1 : Int), 2] (σ.next + 3), vi 0, vb false] 73 7 (σ.next + 4) := by
    rw [hA]; exact heap_box_self _ _ _ _
  clear hA
  have r1 := list_any (oCond 0 [3, 5] [1, 3, 4, 5, 3] (vo [(3 : Int), 5] σ.next) (.v (.slice none 0 0)) (vo [(1 : Int), 3, 4, 5, 3] (σ.next + 1)) (.inr (.inl ⟨_, rfl⟩)) (.inl ⟨rfl, rfl⟩) (.inr (.inl ⟨_, rfl⟩)) (fun l hl => holds0 [3, 5] l [] (by decide) (by omega)) (by decide) (σ.next + 2) (σ.next + 4) (by omega) _ A.next (by omega) (by omega)) (by decide) 0 A ⟨⟨0, false, _, _, a1, fun _ => rfl⟩, a2⟩ (Nat.le_refl _) (a := vo [(1 : Int), 3, 4, 5, 3] (σ.next + 1)) (VC.less (cloneI_any [1, 3, 4, 5, 3] (by decide) _) ⟨Fg.of (fg_vo _ _), trivial⟩)
  refine VCall.any (VG.resFg r1) ?_
  rintro v B ⟨v0, rfl, w1, w2, ⟨cnt, w, ty, z, b1, hcnt⟩, b2⟩ nB fB
  obtain ⟨e1, e2, e3⟩ := run0
  rw [e1] at w2
  rw [w2]
  have hcnt := hcnt (by omega)
  have hpos : 0 < cnt := by omega
  clear hcnt e1 e2 e3 w2 r1
  have jn : (A.join B).next = B.next := rfl
  have jl : (A.join B).low = min A.low B.low := rfl
  have b1 : (A.join B).heap (σ.next + 2) = _ := b1
  have b2 : (A.join B).heap (σ.next + 4) = _ := b2
  generalize A.join B = C at jn jl b1 b2 ⊢
  simp (decide := true) only [↓VW_region, ↓VW_seq, ↓vbindN_normal, ↓VO_nil, ↓VO_cons, ↓VS_mv, ↓VS_call, ↓VS_load, ↓VS_fa, ↓VS_nilck, ↓VS_mkFunc, ↓vfev_tmp, ↓vupd_same, ↓vupd_ne, Now_any, Got_some, List.map_cons, List.map_nil, ↓vld_ptr, vrdB_cells, vadd_ptr, vnilck_ptr, vpart_one, ne_eq, next_box, next_newTok, next_fresh, fg_int, ↓reduceIte, List.length_cons, List.length_nil, List.drop_zero, List.drop_succ_cons, List.take_succ_cons, List.take_zero, Nat.zero_add, Nat.add_assoc, Nat.reduceAdd, Nat.reduceLeDiff, b2]
  have r2 := list_any (oCond 3 [] [1, 2] (.v (.slice none 0 0)) (.v (.slice none 0 0)) (vo [(1 : Int), 2] (σ.next + 3)) (.inl ⟨rfl, rfl⟩) (.inl ⟨rfl, rfl⟩) (.inr (.inl ⟨_, rfl⟩)) (fun l hl => holds3 [] l [] (by omega)) (by decide) (σ.next + 4) (σ.next + 2) (by omega) _ C.next (by omega) (by omega)) (by decide) 0 C ⟨⟨0, false, _, _, b2, fun _ => rfl⟩, b1⟩ (Nat.le_refl _) (a := vo [(1 : Int), 2] (σ.next + 3)) (VC.less (cloneI_any [1, 2] (by decide) _) ⟨Fg.of (fg_vo _ _), trivial⟩)
  refine VCall.any (VG.resFg r2) ?_
  rintro v D ⟨v0, rfl, w3, w4, _, d1⟩ nD fD
  rw [run1] at w4
  rw [w4]
  clear r2
  have kn : (C.join D).next = D.next := rfl
  have kl : (C.join D).low = min C.low D.low := rfl
  have d1 : (C.join D).heap (σ.next + 2) = _ := d1
  generalize C.join D = E at kn kl d1 ⊢
  simp (decide := true) only [↓VW_region, ↓VW_seq, ↓vbindN_normal, ↓VO_nil, ↓VO_cons, ↓VS_mv, ↓VS_buildSlice, ↓vfev_tmp, ↓vfev_int, ↓vupd_same, ↓vupd_ne, Now_any, List.map_cons, List.map_nil, ne_eq, next_box, next_newTok, next_fresh, fg_int, Nat.add_assoc, Nat.reduceAdd]
  refine VBuild.own (l := [vi 3, vi 5]) rfl rfl rfl ?_
  simp (decide := true) only [↓VO_cons, ↓VS_call, ↓vfev_tmp, ↓vupd_same, ↓vupd_ne, List.map_cons, List.map_nil, ne_eq, next_box, next_newTok, next_fresh, fg_int, Nat.add_assoc, Nat.reduceAdd]
  refine VCall.dat (sameV [5, 3] [3, 5] (by decide)) ⟨Fg.rfl _, Fg.of (fg_vo [(3 : Int), 5] _), trivial⟩ (fun F hs => ?_)
  have nF := hs.next
  have lF := hs.low
  simp only [next_newTok, low_newTok] at nF lF
  have f1 := (hs.heap (σ.next + 2) (by rw [next_newTok]; omega)).trans d1
  have c1 : decide ([(5 : Int), 3] = [3, 5]) = false := by decide
  rw [c1]
  simp (decide := true) only [↓VO_cons, ↓VO_guard, ↓VS_mv, ↓VS_buildSlice, ↓vfev_tmp, ↓vfev_int, ↓vupd_same, ↓vupd_ne, Now_any, PickV_ff, List.map_cons, List.map_nil, ne_eq, next_box, next_newTok, next_fresh, fg_int, Nat.add_assoc, Nat.reduceAdd]
  refine VBuild.own (l := [vi 5, vi 3]) rfl rfl rfl ?_
  simp (decide := true) only [↓VO_guard, ↓VS_call, ↓vfev_tmp, ↓vupd_same, ↓vupd_ne, PickV_ff, List.map_cons, List.map_nil, ne_eq, next_box, next_newTok, next_fresh, fg_int, Nat.add_assoc, Nat.reduceAdd]
  refine VCall.dat (sameV [5, 3] [5, 3] (by decide)) ⟨Fg.rfl _, Fg.of (fg_vo [(5 : Int), 3] _), trivial⟩ (fun G hs => ?_)
  have nG := hs.next
  have lG := hs.low
  simp only [next_newTok, low_newTok] at nG lG
  have g1 := (hs.heap (σ.next + 2) (by rw [next_newTok]; omega)).trans f1
  have c2 : decide ([(5 : Int), 3] = [5, 3]) = true := by decide
  rw [c2]
  simp (decide := true) only [↓VO_cons, ↓VO_guard, ↓VS_mv, ↓VS_pick, ↓VS_buildSlice, ↓vfev_tmp, ↓vfev_int, ↓vfev_bool, ↓vupd_same, ↓vupd_ne, Now_any, Got_some, PickV_tt, List.map_cons, List.map_nil, ne_eq, vpick_f, next_box, next_newTok, next_fresh, fg_int, Nat.add_assoc, Nat.reduceAdd]
  refine VBuild.own (l := [vi 1, vi 2]) rfl rfl rfl ?_
  simp (decide := true) only [↓VO_guard, ↓VS_call, ↓vfev_tmp, ↓vupd_same, ↓vupd_ne, PickV_tt, List.map_cons, List.map_nil, ne_eq, next_box, next_newTok, next_fresh, fg_int, Nat.add_assoc, Nat.reduceAdd]
  refine VCall.dat (sameV [1, 2] [1, 2] (by decide)) ⟨Fg.rfl _, Fg.of (fg_vo [(1 : Int), 2] _), trivial⟩ (fun H hs => ?_)
  have lH := hs.low
  simp only [low_newTok] at lH
  have h1 := (hs.heap (σ.next + 2) (by rw [next_newTok]; omega)).trans g1
  have c3 : decide ([(1 : Int), 2] = [1, 2]) = true := by decide
  have c4 : decide (0 < cnt) = true := decide_eq_true hpos
  rw [c3]
  simp (decide := true) only [↓VW_ret, ↓vbindN_normal, ↓vatEnd_ret, ↓VO_nil, ↓VO_cons, ↓VO_guard, ↓VS_mv, ↓VS_load, ↓VS_fa, ↓VS_bin, ↓VS_nilck, ↓VS_pick, ↓vfev_tmp, ↓vfev_int, ↓vfev_bool, ↓vupd_same, ↓vupd_ne, Now_any, Got_some, PickV_tt, vrs_one, vr1_tmp, List.map_cons, List.map_nil, ↓vld_ptr, vrdB_cells, vadd_ptr, vnilck_ptr, vpart_one, ne_eq, vpick_t, next_box, next_newTok, next_fresh, fg_int, fg_bool, ↓reduceIte, List.length_cons, List.length_nil, List.drop_zero, List.drop_succ_cons, List.take_succ_cons, List.take_zero, Nat.zero_add, Nat.add_assoc, Nat.reduceAdd, Nat.reduceLeDiff, and_true, h1, vbin_gtr, c4, fg_bool]
  omega
end Go.Proofs.Ytmbbebfpjclghaa

set_option linter.unusedSimpArgs false
set_option linter.unusedSectionVars false
set_option linter.unusedVariables false
namespace Go.Proofs.Ytmbbebfpjclghaa
open Go Go.RowKit

/-- What the law says about the tapes. -/
structure Plain (t : Tape) (b : Int) (odd : Bool) : Prop where
  small : partsN t ≤ 12
  even : odd = false → equalT (shrunk t b odd) ⟨needE t b, needA t b⟩ = true
  fails : odd = true → failsK t b odd (shrunk t b odd) = true
  part : odd = true → partOfT (shrunk t b odd) t = true
  normal : odd = true → equalT (shrunk t b odd) (normT (shrunk t b odd)) = true
  minimal : odd = true → ∀ i : Nat, i < partsN (shrunk t b odd) → failsK t b odd (withoutT (shrunk t b odd) [(i : Int)]) = false

theorem law_any (l : List Int) (bits : Int) (odd : Bool) (hb0 : 0 ≤ aroundI bits 4096) (hb1 : aroundI bits 4096 < 4096) (hp : Plain (normT (rndT l)) (aroundI bits 4096) odd) :
    VD Try.prog 3 [vl l, vi bits, vb odd] (vb true) := by
  intro σ
  refine VC_body XF3 ?_
  have rE : (rndT l).events.length ≤ 8 := by show (rndE _ _).length ≤ 8; rw [rndE_len]; omega
  have rA : (rndT l).answers.length ≤ 4 := by show (rndA _ _).length ≤ 4; rw [rndA_len]; omega
  simp (decide := true) only [↓VW_region, ↓VW_seq, ↓vbindN_normal, ↓VO_nil, ↓VO_cons, ↓VS_mv, ↓VS_call, ↓vfev_tmp, ↓vfev_bool, ↓vupd_same, ↓vupd_ne, ↓vfe0_zero, Now_any, List.map_cons, List.map_nil, ne_eq, xf3]
  refine VCall.dat (random_any l) ⟨Fg.rfl _, trivial⟩ (fun A hs => ?_)
  have nA := hs.next
  have lA := hs.low
  rw [low_fresh] at lA
  rw [next_fresh] at nA
  clear hs
  simp (decide := true) only [↓VO_cons, ↓VS_call, ↓vfev_tmp, ↓vupd_same, List.map_cons, List.map_nil]
  refine VCall.dat (normal_any (rndT l) (by omega) (by omega)) ⟨Fg.rfl _, trivial⟩ (fun B hs => ?_)
  have nB := hs.next
  have lB := hs.low
  clear hs
  have tE : (normT (rndT l)).events.length ≤ 8 := rE
  have tA : (normT (rndT l)).answers.length ≤ 4 := Nat.le_trans (normA_len _) rA
  obtain ⟨t, ht⟩ : ∃ t, normT (rndT l) = t := ⟨_, rfl⟩
  rw [ht] at hp tE tA ⊢
  have tP : partsN t ≤ 12 := hp.small
  simp (decide := true) only [↓VW_region, ↓VW_seq, ↓vbindN_normal, ↓VO_nil, ↓VO_cons, ↓VO_cons_drop, ↓VS_call, ↓VS_load, ↓VS_zeroA, ↓VS_store, ↓vfev_tmp, ↓vupd_same, ↓vupd_ne, Now_any, Got_some, List.map_cons, List.map_nil, ↓vld_ptr, vrdB_cells, vst_ptr, vstB_cells, vpart_agg, cs_agg, vAll_vl, vAll_nil, Need_true, ne_eq, List.append_nil, List.nil_append, heap_box, heap_write, ↓reduceIte, List.length_cons, List.length_nil, List.drop_zero, List.drop_succ_cons, List.take_succ_cons, List.take_zero, Nat.zero_add, Nat.reduceAdd, Nat.reduceLeDiff, and_self, tapeV, vsplice]
  refine VCall_at (fun C hC => ?_)
  have nC : C.next = B.next + 1 := by rw [hC]; rfl
  have lC : σ.next ≤ C.low := by rw [hC, low_write, low_box]; omega
  have c1 : C.heap B.next = .cells [vl t.events, vl t.answers] 26 2 B.next := by rw [hC]; exact heap_write_self _ _ _ _ _ _
  clear hC
  refine VCall.dat (parts_any t (by omega) (by omega)) ⟨Fg.rfl _, trivial⟩ (fun D hs => ?_)
  have nD := hs.next
  have lD := hs.low
  have d1 := (hs.heap B.next (by omega)).trans c1
  clear hs
  have k1 : decide ((12 : Int) < (partsN t : Nat)) = false := decide_eq_false (by omega)
  simp (decide := true) only [↓VW_skip, ↓VW_region, ↓VW_draw, ↓VW_seq, ↓VW_cond, ↓vbindN_normal, ↓VO_nil, ↓VO_cons, List.zip_cons_cons, List.zip_nil_left, ↓VM_cons, ↓vearlyP_false, ↓VS_mv, ↓VS_call, ↓VS_load, ↓VS_bin, ↓vfev_tmp, ↓vfev_int, ↓vupd_same, ↓vupd_ne, ↓vfe0_zero, ↓vfe0_succ, Now_any, Got_some, TestV_false, List.map_cons, List.map_nil, ↓vld_ptr, vrdB_cells, vpart_agg, ne_eq, ↓reduceIte, List.length_cons, List.length_nil, List.drop_zero, List.take_succ_cons, List.take_zero, Nat.zero_add, Nat.reduceAdd, Nat.reduceLeDiff, vbin_gtr, k1, d1]
  refine VCall.dat (aroundV bits 4096 (by decide)) ⟨Fg.rfl _, Fg.rfl _, trivial⟩ (fun E hs => ?_)
  have nE := hs.next
  have lE := hs.low
  have e1 := (hs.heap B.next (by omega)).trans d1
  clear hs
  obtain ⟨b, hb⟩ : ∃ b, aroundI bits 4096 = b := ⟨_, rfl⟩
  rw [hb] at hp hb0 hb1 ⊢
  simp (decide := true) only [↓vbindN_normal, ↓VM_nil, ↓VM_cons, ↓vearlyP_false, ↓VS_mv, ↓VS_build, ↓VS_box, ↓vfev_tmp, ↓vupd_same, ↓vupd_ne, ↓vfe0_zero, ↓vfe0_succ, Now_any, Got_some, List.map_cons, List.map_nil, cs_agg, cs_v, vAll_v, vAll_vl, vAll_nil, Need_true, ne_eq, List.append_nil, List.nil_append, List.cons_append, ↓reduceIte, List.length_cons, List.length_nil, List.drop_zero, List.drop_succ_cons, List.take_succ_cons, List.take_zero, Nat.zero_add, Nat.reduceAdd, Nat.reduceLeDiff, and_self, vfill_nil, vfill_cons, vsplice]
  refine VCall_at (fun F hF => ?_)
  have nF : F.next = E.next + 1 := by rw [hF]; rfl
  have lF : σ.next ≤ F.low := by rw [hF, low_box]; omega
  have f1 : F.heap B.next = .cells [vl t.events, vl t.answers] 26 2 B.next := by rw [hF, heap_box_ne _ _ _ _ _ (by omega)]; exact e1
  have fk : KeepAt F E.next t b odd := ⟨_, _, _, by rw [hF]; exact heap_box_self _ _ _ _⟩
  clear hF
  refine VCall.data (needs_any t b odd hb0 (by omega) (by omega) (by omega) E.next F fk (by omega)) ⟨Fg.rfl _, trivial⟩ (fun G hs => ?_)
  have nG := hs.next
  have lG := hs.low
  have g1 := (hs.heap B.next (by omega)).trans f1
  have gk := fk.sub hs (by omega)
  clear hs
  simp (decide := true) only [↓VW_region, ↓VW_seq, ↓vbindN_normal, ↓VO_nil, ↓VO_cons, ↓VS_mv, ↓VS_call, ↓VS_ext, ↓vfev_tmp, ↓vupd_same, ↓vupd_ne, ↓vfe0_zero, Now_any, Got_some, List.map_cons, List.map_nil, vext_zero, vext_one, ne_eq]
  refine VCall.dat (random_any l) ⟨Fg.rfl _, trivial⟩ (fun H hs => ?_)
  have nH := hs.next
  have lH := hs.low
  have h1 := (hs.heap B.next (by omega)).trans g1
  have hk := gk.sub hs (by omega)
  clear hs
  simp (decide := true) only [↓VO_cons, ↓VS_mv, ↓VS_call, ↓VS_mkFunc, ↓vfev_tmp, ↓vupd_same, ↓vupd_ne, Now_any, List.map_cons, List.map_nil, ne_eq]
  refine VCall.data (shrinkTape_any (rndT l) b odd hb0 (by omega) (by omega) (by omega) E.next H (by rw [ht]; exact hk) (by omega)) ⟨Fg.rfl _, Fg.rfl _, trivial⟩ (fun I hs => ?_)
  have nI := hs.next
  have lI := hs.low
  have i1 := (hs.heap B.next (by omega)).trans h1
  have ik := hk.sub hs (by omega)
  clear hs
  rw [ht]
  obtain ⟨x, hx⟩ : ∃ x, shrunk t b odd = x := ⟨_, rfl⟩
  have xE : x.events.length ≤ 8 := by rw [← hx]; exact Nat.le_trans (withoutT_len _ _).1 tE
  have xA : x.answers.length ≤ 4 := by rw [← hx]; exact Nat.le_trans (withoutT_len _ _).2 tA
  obtain ⟨p1, p2, p3, p4, p5, p6⟩ := hp
  rw [hx] at p2 p3 p4 p5 p6 ⊢
  simp (decide := true) only [↓VW_region, ↓VW_seq, ↓VW_cond, ↓vbindN_normal, ↓VO_nil, ↓VO_cons, ↓VO_cons_drop, ↓VS_mv, ↓VS_un, ↓VS_zeroA, ↓VS_store, ↓vfev_tmp, ↓vupd_same, ↓vupd_ne, ↓vfe0_zero, ↓vfe0_succ, Now_any, Got_some, List.map_cons, List.map_nil, vst_ptr, vstB_cells, cs_agg, vAll_vl, vAll_nil, Need_true, ne_eq, vun_not, List.append_nil, List.nil_append, heap_box, ↓reduceIte, List.length_cons, List.length_nil, List.drop_zero, List.drop_succ_cons, List.take_zero, Nat.zero_add, Nat.reduceAdd, and_self, tapeV, vsplice]
  generalize hJ : (I.box [.v (.slice none 0 0), .v (.slice none 0 0)] 26 2).write I.next [vl x.events, vl x.answers] 26 2 I.next = J
  have nJ : J.next = I.next + 1 := by rw [← hJ]; rfl
  have lJ : σ.next ≤ J.low := by rw [← hJ, low_write, low_box]; omega
  have j0 : J.heap I.next = .cells [vl x.events, vl x.answers] 26 2 I.next := by rw [← hJ]; exact heap_write_self _ _ _ _ _ _
  have jold : ∀ id, id < I.next → J.heap id = I.heap id := fun id hid => by rw [← hJ, heap_write_ne _ _ _ _ _ _ _ (by omega), heap_box_ne _ _ _ _ _ (by omega)]
  clear hJ
  have j1 := (jold B.next (by omega)).trans i1
  have jk : KeepAt J E.next t b odd := by
    obtain ⟨ty, z, q, h⟩ := ik
    exact ⟨ty, z, q, (jold _ (by omega)).trans h⟩
  clear jold
  cases odd with
  | false =>
    simp (decide := true) only [↓VW_region, ↓VW_seq, ↓VO_cons, ↓VS_mv, ↓VS_call, ↓VS_load, ↓VS_build, ↓vfev_tmp, ↓vupd_same, ↓vupd_ne, Now_any, Got_some, TestV_true, List.map_cons, List.map_nil, ↓vld_ptr, vrdB_cells, vpart_agg, cs_vl, ne_eq, List.append_nil, List.nil_append, List.cons_append, Bool.not_false, ↓reduceIte, List.length_cons, List.length_nil, List.drop_zero, List.drop_succ_cons, List.take_succ_cons, List.take_zero, Nat.zero_add, Nat.reduceAdd, Nat.reduceLeDiff, and_self, j0, vfill_nil, vfill_cons, vsplice]
    refine VCall.dat (equalT_any x ⟨needE t b, needA t b⟩ (by omega) (by show (pickL _ _).length ≤ _; have := pickL_len t.events b; omega) (by omega) (by show (pickL _ _).length ≤ _; have := pickL_len t.answers (bitsL t.events.length b); omega)) ⟨Fg.rfl _, Fg.rfl _, trivial⟩ (fun K hs => ?_)
    have nK := hs.next
    have lK := hs.low
    rw [p2 rfl]
    simp (decide := true) only [↓VO_cons, ↓VO_guard, ↓VS_mv, ↓VS_call, ↓vfev_tmp, ↓vupd_same, Now_any, PickV_tt, List.map_nil, Bool.not_false]
    refine VCall.dat lives_any trivial (fun L hs => ?_)
    have lL := hs.low
    simp (decide := true) only [↓VW_ret, ↓vbindN_normal, ↓vbindN_ret, ↓vatEnd_ret, ↓VO_nil, ↓VO_cons, ↓VS_mv, ↓VS_pick, ↓vfev_tmp, ↓vfev_bool, ↓vupd_same, ↓vupd_ne, Now_any, Got_some, vrs_one, vr1_tmp, ne_eq, vpick_t, Bool.not_false, and_true, fg_bool, and_true]
    omega
  | true =>
    have p3 := p3 rfl
    have p4 := p4 rfl
    have p5 := p5 rfl
    have p6 := p6 rfl
    simp (decide := true) only [↓VW_skip, ↓VW_region, ↓VW_draw, ↓VW_seq, ↓VW_block, ↓VW_cond, ↓VW_stuck, ↓vbindN_normal, ↓VO_nil, ↓VO_cons, List.zip_cons_cons, List.zip_nil_left, ↓VM_cons, ↓vearlyP_false, ↓VS_mv, ↓VS_call, ↓VS_load, ↓vfev_tmp, ↓vfev_int, ↓vupd_same, ↓vupd_ne, Now_any, Got_some, TestV_false, List.map_cons, List.map_nil, ↓vld_ptr, vrdB_cells, vpart_agg, ne_eq, Bool.not_true, ↓reduceIte, List.length_cons, List.length_nil, List.drop_zero, List.take_succ_cons, List.take_zero, Nat.zero_add, Nat.reduceAdd, Nat.reduceLeDiff, j0]
    refine VCall.data (fails_any t x b true hb0 (by omega) (by omega) (by omega) (by omega) (by omega) E.next J jk (by omega)) ⟨Fg.rfl _, Fg.rfl _, trivial⟩ (fun K hs => ?_)
    have nK := hs.next
    have lK := hs.low
    have k0 := (hs.heap I.next (by omega)).trans j0
    have k1 := (hs.heap B.next (by omega)).trans j1
    have kk := jk.sub hs (by omega)
    clear hs
    rw [p3]
    simp (decide := true) only [↓VM_cons, ↓VM_guard, ↓vearlyP_false, ↓VS_mv, ↓VS_call, ↓VS_load, ↓VS_un, ↓vfev_tmp, ↓vupd_same, ↓vupd_ne, Now_any, Got_some, PickV_ff, List.map_cons, List.map_nil, ↓vld_ptr, vrdB_cells, vpart_agg, ne_eq, vun_not, Bool.not_true, ↓reduceIte, List.length_cons, List.length_nil, List.drop_zero, List.take_succ_cons, List.take_zero, Nat.zero_add, Nat.reduceAdd, Nat.reduceLeDiff, k0, k1]
    refine VCall.dat (partOf_any x t (by omega) (by omega) (by omega) (by omega)) ⟨Fg.rfl _, Fg.rfl _, trivial⟩ (fun L hs => ?_)
    have nL := hs.next
    have lL := hs.low
    have l0 := (hs.heap I.next (by omega)).trans k0
    have lk := kk.sub hs (by omega)
    clear hs
    rw [p4]
    simp (decide := true) only [↓VM_cons, ↓VM_guard, ↓vearlyP_false, ↓VS_mv, ↓VS_call, ↓VS_load, ↓VS_un, ↓VS_pick, ↓vfev_tmp, ↓vfev_bool, ↓vupd_same, ↓vupd_ne, Now_any, Got_some, PickV_ff, List.map_cons, List.map_nil, ↓vld_ptr, vrdB_cells, vpart_agg, ne_eq, vpick_f, vun_not, Bool.not_true, ↓reduceIte, List.length_cons, List.length_nil, List.drop_zero, List.take_succ_cons, List.take_zero, Nat.zero_add, Nat.reduceAdd, Nat.reduceLeDiff, l0]
    refine VCall.dat (normal_any x (by omega) (by omega)) ⟨Fg.rfl _, trivial⟩ (fun M hs => ?_)
    have nM := hs.next
    have lM := hs.low
    have m0 := (hs.heap I.next (by omega)).trans l0
    have mk := lk.sub hs (by omega)
    clear hs
    simp (decide := true) only [↓VM_guard, ↓vearlyP_false, ↓VS_call, ↓vfev_tmp, ↓vupd_same, ↓vupd_ne, PickV_ff, List.map_cons, List.map_nil, ne_eq]
    refine VCall.dat (equalT_any x (normT x) (by omega) (Nat.le_trans xE (by decide)) (by omega) (Nat.le_trans (normA_len _) (by omega))) ⟨Fg.rfl _, Fg.rfl _, trivial⟩ (fun N hs => ?_)
    have nN := hs.next
    have lN := hs.low
    have n0 := (hs.heap I.next (by omega)).trans m0
    have nk := mk.sub hs (by omega)
    clear hs
    rw [p5]
    simp (decide := true) only [↓VW_skip, ↓VW_region, ↓VW_seq, ↓VW_block, ↓VW_stuck, ↓vbindN_normal, ↓VO_nil, ↓VO_cons, ↓VM_nil, ↓VM_cons, ↓VM_guard, ↓vearlyP_false, ↓VS_mv, ↓VS_un, ↓VS_pick, ↓vfev_tmp, ↓vfev_int, ↓vfev_bool, ↓vupd_same, ↓vupd_ne, Now_any, Got_some, TestV_false, PickV_ff, ne_eq, vpick_f, vun_not, Bool.not_true]
    have xP : partsN x ≤ 12 := by
      have := ansF_len x.answers
      unfold partsN; omega
    refine VW_loopR 0 (fun k fe Z => fe 9 = .ptr E.next 0 ∧ fe 12 = .ptr I.next 0 ∧ σ.next ≤ Z.low ∧ I.next < Z.next ∧ Z.heap I.next = .cells [vl x.events, vl x.answers] 26 2 I.next ∧ KeepAt Z E.next t b true ∧ ∃ i : Nat, fe 13 = vi i ∧ k + i = partsN x)
      (fun fe Z => σ.next ≤ Z.low) (partsN x) ?_ ?_ ?_
    · simp (decide := true) only [↓vupd_same, ↓vupd_ne, ne_eq, true_and]
      exact ⟨by omega, by omega, n0, nk, 0, rfl, by omega⟩
    · rintro k fe Z ⟨q9, q12, hlo, hnx, z0, zk, i, q13, hki⟩
      simp (decide := true) only [↓VW_region, ↓VW_seq, ↓VO_cons, ↓VS_mv, ↓VS_call, ↓VS_load, ↓vfev_tmp, ↓vupd_same, ↓vupd_ne, Now_any, Got_some, List.map_cons, List.map_nil, ↓vld_ptr, vrdB_cells, vpart_agg, ne_eq, ↓reduceIte, List.length_cons, List.length_nil, List.drop_zero, List.take_succ_cons, List.take_zero, Nat.zero_add, Nat.reduceAdd, Nat.reduceLeDiff, q12, z0, q13]
      refine VCall.dat (parts_any x (by omega) (by omega)) ⟨Fg.rfl _, trivial⟩ (fun Y hs => ?_)
      have nY := hs.next
      have lY := hs.low
      have y0 := (hs.heap I.next (by omega)).trans z0
      have yk := zk.sub hs (by omega)
      clear hs
      simp (decide := true) only [↓VW_cond, ↓vbindN_normal, ↓VO_nil, ↓VO_cons, ↓VS_bin, ↓vfev_tmp, ↓vupd_same, ↓vupd_ne, Now_any, Got_some, ne_eq, vbin_lss]
      refine TestV_dec (fun hlt => ?_) (fun hge => ?_)
      · have hi : i < partsN x := by omega
        simp (decide := true) only [↓VW_skip, ↓VW_region, ↓VW_seq, ↓VW_block, ↓vbindN_normal, ↓VO_cons, ↓VS_mv, ↓VS_load, ↓VS_buildSlice, ↓vfev_tmp, ↓vupd_same, ↓vupd_ne, Now_any, Got_some, List.map_cons, List.map_nil, ↓vld_ptr, vrdB_cells, vpart_agg, ne_eq, ↓reduceIte, List.length_cons, List.length_nil, List.drop_zero, List.take_succ_cons, List.take_zero, Nat.zero_add, Nat.reduceAdd, Nat.reduceLeDiff, q9, q12, y0, q13]
        refine VBuild.own (l := [vi i]) rfl rfl rfl ?_
        simp (decide := true) only [↓VO_cons, ↓VS_call, ↓vfev_tmp, ↓vupd_same, ↓vupd_ne, List.map_cons, List.map_nil, ne_eq, fg_int]
        refine VCall.dat (without_any x [(i : Int)] (by omega) (by omega) (by simp)) ⟨Fg.rfl _, Fg.of (fg_vo [(i : Int)] _), trivial⟩ (fun X hs => ?_)
        have nX := hs.next
        have lX := hs.low
        simp only [next_newTok, low_newTok] at nX lX
        have x0 : X.heap I.next = _ := (hs.heap I.next (by rw [next_newTok]; omega)).trans y0
        have xk : KeepAt X E.next t b true := by
          obtain ⟨ty, z, q, h⟩ := yk
          exact ⟨ty, z, q, (hs.heap _ (by rw [next_newTok]; omega)).trans h⟩
        clear hs
        simp (decide := true) only [↓VO_cons, ↓VS_call, ↓vfev_tmp, ↓vupd_same, ↓vupd_ne, List.map_cons, List.map_nil, ne_eq]
        obtain ⟨e1, e2⟩ := withoutT_len x [(i : Int)]
        refine VCall.data (fails_any t (withoutT x [(i : Int)]) b true hb0 (by omega) (by omega) (by omega) (by omega) (by omega) E.next X xk (by omega)) ⟨Fg.rfl _, Fg.rfl _, trivial⟩ (fun W hs => ?_)
        have nW := hs.next
        have lW := hs.low
        have w0 := (hs.heap I.next (by omega)).trans x0
        have wk := xk.sub hs (by omega)
        rw [p6 i hi]
        simp (decide := true) only [↓VW_skip, ↓VW_region, ↓VW_cond, ↓vbindN_normal, ↓vbindB_normal, ↓vbindL_normal, ↓VO_nil, ↓VO_cons, ↓VS_mv, ↓VS_bin, ↓vfev_tmp, ↓vfev_int, ↓vupd_same, ↓vupd_ne, Now_any, Got_some, TestV_false, ne_eq, q9, q12, q13, vbin_add, w64_1 hi (by omega : partsN x ≤ 1000000), true_and]
        exact ⟨k - 1, by omega, by omega, by omega, w0, wk, i + 1, rfl, by omega⟩
      · simp (decide := true) only [↓VW_exit, ↓vbindN_exit, ↓vbindL_exit, ↓vatExit_self]
        omega
    · rintro fe Z hlo
      simp (decide := true) only [↓VW_region, ↓VW_seq, ↓vbindN_normal, ↓vbindB_self, ↓VO_cons, ↓VS_call, List.map_nil]
      refine VCall.dat lives_any trivial (fun Y hs => ?_)
      have lY := hs.low
      simp (decide := true) only [↓VW_ret, ↓vbindN_normal, ↓vatEnd_ret, ↓VO_nil, ↓VO_cons, ↓VS_mv, ↓vfev_tmp, ↓vupd_same, Now_any, Got_some, vrs_one, vr1_tmp, fg_bool, and_true]
      omega
end Go.Proofs.Ytmbbebfpjclghaa

set_option linter.unusedSimpArgs false
set_option linter.unusedSectionVars false
set_option linter.unusedVariables false
namespace Go.Proofs.Ytmbbebfpjclghaa
open Go Go.RowKit

/-- answers in normal form. -/
def NormL (A : List Ans) : Prop := A.Pairwise (fun a b => ltM a.q b.q) ∧ ∀ a ∈ A, 0 < a.n
def toA (e : Msg × Int × Nat) : Ans := ⟨e.1, e.2.1⟩

theorem lookE_mem : ∀ {es : EL} (_ : (es.map (·.1)).Nodup) {e} (_ : e ∈ es), lookE es e.1 = some e.2.1 := by
  intro es
  induction es with
  | nil => intro _ e he; cases he
  | cons x es ih =>
    intro hn e he
    rw [List.map_cons, List.nodup_cons] at hn
    unfold lookE
    by_cases h : x.1 = e.1
    · rcases List.mem_cons.1 he with rfl | he
      · rw [List.find?_cons, decide_eq_true rfl]; rfl
      · exact absurd (by rw [h]; exact List.mem_map_of_mem he) hn.1
    · rcases List.mem_cons.1 he with rfl | he
      · exact absurd rfl h
      · rw [List.find?_cons, decide_eq_false h]
        exact ih hn.2 he
theorem pos_foldl : ∀ (l : List Ans) (p : EL × Nat), (∀ e ∈ p.1, 0 < e.2.1) → ∀ e ∈ (l.foldl ansStep p).1, 0 < e.2.1 := by
  intro l
  induction l with
  | nil => intro p h; exact h
  | cons a l ih =>
    intro p h
    refine ih _ ?_
    unfold ansStep
    split
    · intro e he
      rcases List.mem_append.1 he with he | he
      · exact h e (List.mem_filter.1 he).1
      · rw [List.mem_singleton.1 he]; show 0 < a.n; omega
    · intro e he
      exact h e (List.mem_filter.1 he).1
theorem ansF_pos (l : List Ans) : ∀ e ∈ (ansF l).1, 0 < e.2.1 := pos_foldl l _ (by simp)
theorem sortQ_sorted {l : List Msg} (h : l.Nodup) : (sortQ l).Pairwise ltM := by
  have hs2 : (sortQ l).Pairwise fun a b => a = b ∨ ltM a b := by
    have := List.pairwise_mergeSort (le := fun a b : Msg => decide (a = b ∨ ltM a b)) (fun a b c h1 h2 => by
      simp only [decide_eq_true_eq] at *
      rcases h1 with rfl | h1
      · exact h2
      · rcases h2 with rfl | h2
        · exact .inr h1
        · exact .inr (ltM_trans h1 h2)) (fun a b => by
      simp only [Bool.or_eq_true, decide_eq_true_eq]
      rcases cmpM_cases a b with h | h | h
      · exact .inl (.inr h.1)
      · exact .inl (.inl h.1)
      · exact .inr (.inr h.1)) l
    exact this.imp fun h => by simpa using h
  have hn : (sortQ l).Nodup := (sortQ_perm l).nodup_iff.2 h
  exact (hs2.and hn).imp fun h => by
    rcases h with ⟨h1 | h1, h2⟩
    · exact absurd h1 h2
    · exact h1
theorem normA_norm (l : List Ans) : NormL (normA l) := by
  refine ⟨?_, fun a ha => ?_⟩
  · unfold normA
    rw [List.pairwise_map]
    exact sortQ_sorted (ansF_good l).ndk
  · unfold normA at ha
    obtain ⟨q, hq, rfl⟩ := List.mem_map.1 ha
    have hq := (sortQ_perm _).mem_iff.1 hq
    obtain ⟨e, he, rfl⟩ := List.mem_map.1 hq
    show 0 < (lookE _ e.1).getD 0
    rw [lookE_mem (ansF_good l).ndk he]
    exact ansF_pos l e he
theorem foldl_norm : ∀ (A : List Ans) (p : EL × Nat), (∀ e ∈ p.1, ∀ a ∈ A, e.1 ≠ a.q) → A.Pairwise (fun a b => a.q ≠ b.q) → (∀ a ∈ A, 0 < a.n) → (A.foldl ansStep p).1.map toA = p.1.map toA ++ A := by
  intro A
  induction A with
  | nil => intro p _ _ _; simp
  | cons a A ih =>
    intro p h1 h2 h3
    rw [List.pairwise_cons] at h2
    have hd : delE p.1 a.q = p.1 := by
      unfold delE
      rw [List.filter_eq_self]
      intro e he
      exact decide_eq_true (h1 e he a List.mem_cons_self)
    have hp : 0 < a.n := h3 a List.mem_cons_self
    have hstep : ansStep p a = (p.1 ++ [(a.q, a.n, p.2)], p.2 + 1) := by
      unfold ansStep
      rw [if_pos hp, hd]
    rw [List.foldl_cons, hstep, ih]
    · simp [toA]
    · intro e he b hb
      rcases List.mem_append.1 he with he | he
      · exact h1 e he b (List.mem_cons_of_mem _ hb)
      · rw [List.mem_singleton.1 he]; exact h2.1 b hb
    · exact h2.2
    · exact fun b hb => h3 b (List.mem_cons_of_mem _ hb)
theorem ansF_norm {A : List Ans} (h : NormL A) : (ansF A).1.map toA = A := by
  have hne : A.Pairwise fun a b => a.q ≠ b.q := List.Pairwise.imp (fun {a b} (h : ltM a.q b.q) (e : a.q = b.q) => ltM_irrefl b.q (by rw [e] at h; exact h)) h.1
  have := foldl_norm A ([], 0) (by simp) hne h.2
  simp only [List.map_nil, List.nil_append] at this
  exact this
theorem normA_id {A : List Ans} (h : NormL A) : normA A = A := by
  have h0 := ansF_norm h
  have hq : (ansF A).1.map (·.1) = A.map (·.q) := by
    conv => rhs; rw [← h0]
    rw [List.map_map]; rfl
  have hs : sortQ (A.map (·.q)) = A.map (·.q) := (sortQ_eq (List.Perm.refl _) (List.pairwise_map.2 h.1)).symm
  unfold normA
  rw [hq, hs, List.map_map]
  refine (List.map_congr_left (g := id) fun a ha => ?_).trans (List.map_id _)
  rw [← h0] at ha
  obtain ⟨e, he, rfl⟩ := List.mem_map.1 ha
  show ansOf _ e.1 = toA e
  unfold ansOf
  rw [lookE_mem (ansF_good A).ndk he]
  rfl
theorem NormL.sub {A B : List Ans} (h : NormL B) (k : A.Sublist B) : NormL A := ⟨h.1.sublist k, fun a ha => h.2 a (k.subset ha)⟩
theorem partsN_norm {t : Tape} (h : NormL t.answers) : partsN t = t.events.length + t.answers.length := by
  have := congrArg List.length (ansF_norm h)
  rw [List.length_map] at this
  unfold partsN
  rw [this]
theorem eqE_refl (l : List Ans) : eqE (ansF l).1 (ansF l).1 = true := by
  unfold eqE
  rw [decide_eq_true rfl, Bool.true_and, List.all_eq_true]
  intro e he
  exact decide_eq_true (lookE_mem (ansF_good l).ndk he)
theorem equalT_refl (t : Tape) : equalT t t = true := by
  unfold equalT
  rw [decide_eq_true rfl, eqE_refl]; rfl
theorem cutL_sub {α : Type} (ps : List Int) : ∀ (l : List α) (k : Nat), (cutL ps k l).Sublist l := by
  intro l
  induction l with
  | nil => intro k; exact List.Sublist.refl _
  | cons a l ih =>
    intro k
    simp only [cutL]
    split
    · exact (ih _).cons a
    · exact (ih _).cons_cons a
theorem pickL_sub {α : Type} : ∀ (l : List α) (b : Int), (pickL b l).Sublist l := by
  intro l
  induction l with
  | nil => intro k; exact List.Sublist.refl _
  | cons a l ih =>
    intro k
    simp only [pickL]
    split
    · exact (ih _).cons_cons a
    · exact (ih _).cons a
theorem isPart_sub {α : Type} [DecidableEq α] : ∀ (l p : List α), isPart p l = true ↔ p.Sublist l := by
  intro l
  unfold isPart
  induction l with
  | nil => intro p; rw [fitL_end, List.isEmpty_iff, List.sublist_nil]
  | cons b l ih =>
    intro p
    cases p with
    | nil => rw [fitL_nil]; exact ⟨fun _ => List.nil_sublist _, fun _ => rfl⟩
    | cons a p =>
      rw [fitL]
      split
      · rename_i e; subst e
        rw [ih, List.cons_sublist_cons]
      · rename_i e
        rw [ih]
        constructor
        · intro h; exact h.cons b
        · intro h
          cases h with
          | cons _ h => exact h
          | cons_cons _ h => exact absurd rfl e

/-- the parts of a tape, in order. -/
def parts (t : Tape) : List (Evt ⊕ Ans) := t.events.map .inl ++ t.answers.map .inr
theorem unE (t : Tape) : (parts t).filterMap Sum.getLeft? = t.events := by
  unfold parts
  rw [List.filterMap_append, List.filterMap_map, List.filterMap_map]
  have h1 : (Sum.getLeft? ∘ (Sum.inl : Evt → Evt ⊕ Ans)) = some := rfl
  have h2 : (Sum.getLeft? ∘ (Sum.inr : Ans → Evt ⊕ Ans)) = fun _ => none := rfl
  rw [h1, h2]
  simp
theorem unA (t : Tape) : (parts t).filterMap Sum.getRight? = t.answers := by
  unfold parts
  rw [List.filterMap_append, List.filterMap_map, List.filterMap_map]
  have h1 : (Sum.getRight? ∘ (Sum.inl : Evt → Evt ⊕ Ans)) = fun _ => none := rfl
  have h2 : (Sum.getRight? ∘ (Sum.inr : Ans → Evt ⊕ Ans)) = some := rfl
  rw [h1, h2]
  simp
theorem parts_inj {t u : Tape} (h : parts t = parts u) : t = u := by
  have h1 := congrArg (List.filterMap Sum.getLeft?) h
  have h2 := congrArg (List.filterMap Sum.getRight?) h
  rw [unE, unE] at h1
  rw [unA, unA] at h2
  cases t; cases u
  simp only at h1 h2
  rw [h1, h2]
theorem parts_len (t : Tape) : (parts t).length = t.events.length + t.answers.length := by simp [parts]
theorem cutL_map {α β : Type} (f : α → β) (ps : List Int) : ∀ (l : List α) (k : Nat), cutL ps k (l.map f) = (cutL ps k l).map f := by
  intro l
  induction l with
  | nil => intro k; rfl
  | cons a l ih =>
    intro k
    simp only [List.map_cons, cutL, ih]
    split <;> rfl
theorem pickL_map {α β : Type} (f : α → β) : ∀ (l : List α) (b : Int), pickL b (l.map f) = (pickL b l).map f := by
  intro l
  induction l with
  | nil => intro k; rfl
  | cons a l ih =>
    intro k
    simp only [List.map_cons, pickL, ih]
    split <;> rfl
theorem parts_without {t : Tape} (h : NormL t.answers) (ps : List Int) : parts (withoutT t ps) = cutL ps 0 (parts t) := by
  unfold parts withoutT
  rw [cutL_append, cutL_map, cutL_map, List.length_map, Nat.zero_add, normA_id h]
theorem parts_need (t : Tape) (b : Int) : parts ⟨needE t b, needA t b⟩ = pickL b (parts t) := by
  unfold parts needE needA
  rw [pickL_append, pickL_map, pickL_map, List.length_map]
theorem partOfT_iff (u v : Tape) : partOfT u v = true ↔ (parts u).Sublist (parts v) := by
  unfold partOfT
  rw [Bool.and_eq_true, isPart_sub, isPart_sub]
  constructor
  · rintro ⟨h1, h2⟩
    exact (h1.map _).append (h2.map _)
  · intro h
    have h1 := h.filterMap Sum.getLeft?
    have h2 := h.filterMap Sum.getRight?
    rw [unE, unE] at h1
    rw [unA, unA] at h2
    exact ⟨h1, h2⟩

/-- the elements at some places. -/
def sel {α : Type} (P : List α) (r : List Int) : List α := r.filterMap fun j => P[j.toNat]?
def kpL {α : Type} (f : Nat → Bool) : Nat → List α → List α
  | _, [] => []
  | k, a :: r => if f k then a :: kpL f (k + 1) r else kpL f (k + 1) r
theorem cutL_kp {α : Type} (ps : List Int) : ∀ (l : List α) (k : Nat), cutL ps k l = kpL (fun (i : Nat) => !ps.contains (i : Int)) k l := by
  intro l
  induction l with
  | nil => intro k; rfl
  | cons a l ih =>
    intro k
    simp only [cutL, kpL, ih]
    by_cases hc : ps.contains (k : Int) = true
    · rw [if_pos hc, if_neg (by rw [hc]; decide)]
    · rw [if_neg hc, if_pos (by rw [Bool.not_eq_true', Bool.eq_false_iff]; exact hc)]
theorem pickL_kp {α : Type} (b : Int) : ∀ (l : List α) (k : Nat), pickL (bitsL k b) l = kpL (fun i => decide ((bitsL i b).tmod 2 = 1)) k l := by
  intro l
  induction l with
  | nil => intro k; rfl
  | cons a l ih =>
    intro k
    have := ih (k + 1)
    rw [bitsL_succ] at this
    simp only [pickL, kpL, this, decide_eq_true_eq]
theorem kpL_sel {α : Type} (f : Nat → Bool) : ∀ (P Q : List α), kpL f Q.length P = sel (Q ++ P) (((List.range' Q.length P.length).map fun (i : Nat) => (i : Int)).filter fun j => f j.toNat) := by
  intro P
  induction P with
  | nil => intro Q; rfl
  | cons a P ih =>
    intro Q
    have h := ih (Q ++ [a])
    rw [List.length_append, List.append_assoc] at h
    simp only [List.length_cons, List.length_nil, Nat.zero_add, List.cons_append, List.nil_append] at h
    rw [List.length_cons, List.range'_succ, List.map_cons, List.filter_cons, kpL, h]
    simp only [Int.toNat_natCast]
    by_cases hc : f Q.length = true
    · rw [if_pos hc, if_pos hc]
      simp only [sel, List.filterMap_cons, Int.toNat_natCast]
      rw [List.getElem?_append_right (Nat.le_refl _), Nat.sub_self]
      rfl
    · rw [if_neg hc, if_neg hc]
theorem kpL_sel0 {α : Type} (f : Nat → Bool) (P : List α) : kpL f 0 P = sel P ((upTo P.length).filter fun j => f j.toNat) := by
  have := kpL_sel f P []
  rw [List.length_nil, List.nil_append, ← List.range_eq_range'] at this
  exact this
theorem filter_sub {r s : List Int} (h : r.Sublist s) (hn : s.Nodup) : s.filter (fun j => r.contains j) = r := by
  induction h with
  | slnil => rfl
  | @cons r s a h ih =>
    rw [List.nodup_cons] at hn
    have ha : r.contains a = false := by
      rw [Bool.eq_false_iff, ne_eq, List.contains_iff_mem]
      exact fun hm => hn.1 (h.subset hm)
    rw [List.filter_cons, ha]
    exact ih hn.2
  | @cons_cons r s a h ih =>
    rw [List.nodup_cons] at hn
    have ha : (a :: r).contains a = true := by rw [List.contains_iff_mem]; exact List.mem_cons_self
    rw [List.filter_cons, ha, if_pos rfl]
    congr 1
    refine Eq.trans (List.filter_congr fun x hx => ?_) (ih hn.2)
    rw [Bool.eq_iff_iff, List.contains_iff_mem, List.contains_iff_mem, List.mem_cons]
    constructor
    · rintro (rfl | h)
      · exact absurd hx hn.1
      · exact h
    · exact .inr
theorem upTo_nodup (n : Nat) : (upTo n).Nodup := (upTo_sorted n).imp fun h e => by omega
theorem mem_upTo {n : Nat} {j : Int} (h : j ∈ upTo n) : 0 ≤ j ∧ j.toNat < n := by
  unfold upTo at h
  obtain ⟨i, hi, rfl⟩ := List.mem_map.1 h
  rw [List.mem_range] at hi
  exact ⟨by omega, by omega⟩
theorem cut_left {α : Type} (P : List α) {r : List Int} (h : r.Sublist (upTo P.length)) : cutL (leftOf P.length r) 0 P = sel P r := by
  rw [cutL_kp, kpL_sel0]
  congr 1
  refine Eq.trans (List.filter_congr fun x hx => ?_) (filter_sub h (upTo_nodup _))
  obtain ⟨h0, h1⟩ := mem_upTo hx
  rw [Int.toNat_of_nonneg h0, Bool.eq_iff_iff, Bool.not_eq_true', Bool.eq_false_iff, ne_eq, List.contains_iff_mem, List.contains_iff_mem]
  unfold leftOf
  rw [List.mem_filter]
  constructor
  · intro h
    exact Classical.byContradiction fun hc => h ⟨hx, by rw [Bool.not_eq_true', Bool.eq_false_iff, ne_eq, List.contains_iff_mem]; exact hc⟩
  · intro h hc
    have := hc.2
    rw [Bool.not_eq_true', Bool.eq_false_iff, ne_eq, List.contains_iff_mem] at this
    exact this h
theorem sel_all {α : Type} (P : List α) : sel P (upTo P.length) = P := by
  have := cut_left P (List.Sublist.refl _)
  rw [← this]
  have h0 : leftOf P.length (upTo P.length) = [] := by
    unfold leftOf
    rw [List.filter_eq_nil_iff]
    intro x hx
    rw [Bool.not_eq_true', Bool.not_eq_false, List.contains_iff_mem]
    exact hx
  rw [h0]
  have : ∀ (l : List α) (k : Nat), cutL [] k l = l := by
    intro l
    induction l with
    | nil => intro k; rfl
    | cons a l ih => intro k; simp [cutL, ih]
  exact this _ _
theorem sel_sub {α : Type} (P : List α) {r s : List Int} (h : r.Sublist s) : (sel P r).Sublist (sel P s) := h.filterMap _
theorem sel_append {α : Type} (P : List α) (r s : List Int) : sel P (r ++ s) = sel P r ++ sel P s := List.filterMap_append
theorem sel_len {α : Type} (P : List α) : ∀ (r : List Int), (∀ j ∈ r, 0 ≤ j ∧ j.toNat < P.length) → (sel P r).length = r.length := by
  intro r
  induction r with
  | nil => intro _; rfl
  | cons a r ih =>
    intro h
    have h1 := (h a List.mem_cons_self).2
    have := ih fun j hj => h j (List.mem_cons_of_mem _ hj)
    unfold sel at this ⊢
    rw [List.filterMap_cons, List.getElem?_eq_getElem h1, List.length_cons, List.length_cons, this]
theorem sel_rmv {α : Type} (P : List α) (r : List Int) (h : ∀ j ∈ r, 0 ≤ j ∧ j.toNat < P.length) (i : Nat) (hi : i < r.length) : Shr.rmv (sel P r) i (i + 1) = sel P (Shr.rmv r i (i + 1)) := by
  have h1 : (sel P (r.take i)).length = i := by
    rw [sel_len P _ fun j hj => h j (List.mem_of_mem_take hj), List.length_take]; omega
  have h2 : (sel P (r.take (i + 1))).length = i + 1 := by
    rw [sel_len P _ fun j hj => h j (List.mem_of_mem_take hj), List.length_take]; omega
  have e1 : sel P r = sel P (r.take i) ++ sel P (r.drop i) := by rw [← sel_append, List.take_append_drop]
  have e2 : sel P r = sel P (r.take (i + 1)) ++ sel P (r.drop (i + 1)) := by rw [← sel_append, List.take_append_drop]
  unfold Shr.rmv
  rw [sel_append]
  congr 1
  · rw [e1, List.take_left' h1]
  · rw [e2, List.drop_left' h2]
theorem cut_one {α : Type} : ∀ (L : List α) (i k : Nat), i < L.length → cutL [((k + i : Nat) : Int)] k L = Shr.rmv L i (i + 1) := by
  have skip : ∀ (L : List α) (p k : Nat), p < k → cutL [(p : Int)] k L = L := by
    intro L
    induction L with
    | nil => intro p k _; rfl
    | cons a L ih =>
      intro p k h
      have : ([(p : Int)]).contains (k : Int) = false := by
        rw [Bool.eq_false_iff, ne_eq, List.contains_iff_mem, List.mem_singleton]; omega
      rw [cutL, this, ih p (k + 1) (by omega)]
      rfl
  intro L
  induction L with
  | nil => intro i k h; exact absurd h (by simp)
  | cons a L ih =>
    intro i k h
    cases i with
    | zero =>
      have : ([((k + 0 : Nat) : Int)]).contains (k : Int) = true := by
        rw [List.contains_iff_mem, List.mem_singleton]; omega
      rw [cutL, this, if_pos rfl, skip L (k + 0) (k + 1) (by omega)]
      simp [Shr.rmv]
    | succ i =>
      have : ([((k + (i + 1) : Nat) : Int)]).contains (k : Int) = false := by
        rw [Bool.eq_false_iff, ne_eq, List.contains_iff_mem, List.mem_singleton]; omega
      rw [cutL, this]
      have h' := ih i (k + 1) (by simpa using h)
      rw [show k + 1 + i = k + (i + 1) by omega] at h'
      rw [h']
      simp [Shr.rmv]

theorem isnt {l : List Int} {x : Int} (h : x ∉ l) : l.contains x = false := by rw [Bool.eq_false_iff, ne_eq, List.contains_iff_mem]; exact h
/-- Two choices of places, one within the other. -/
theorem sub_of_mem {n : Nat} {d r : List Int} (hd : d.Sublist (upTo n)) (hr : r.Sublist (upTo n)) (h : ∀ x ∈ d, x ∈ r) : d.Sublist r := by
  have e := filter_sub hd (upTo_nodup n)
  have e2 := filter_sub hr (upTo_nodup n)
  have : r.filter (fun j => d.contains j) = d := by
    rw [← e2, List.filter_filter]
    refine Eq.trans (List.filter_congr fun x hx => ?_) e
    rw [Bool.eq_iff_iff, Bool.and_eq_true, List.contains_iff_mem, List.contains_iff_mem]
    exact ⟨fun h => h.1, fun h' => ⟨h', h x h'⟩⟩
  rw [← this]
  exact List.filter_sublist
theorem mem_sel {α : Type} {P : List α} {r : List Int} {y : α} : y ∈ sel P r ↔ ∃ j ∈ r, P[j.toNat]? = some y := List.mem_filterMap

/-- What the laws say about a tape whose parts differ. -/
theorem plain_of {t : Tape} (b : Int) (odd : Bool) (hN : NormL t.answers) (hP : (parts t).Nodup) (hs : (parts t).length ≤ 12) : Plain t b odd := by
  have hn : partsN t = (parts t).length := by rw [partsN_norm hN, parts_len]
  generalize hpd : condT t b odd (partsN t) = p
  generalize hr : (Shr.run p (upTo (partsN t))).1 = r
  have hx : shrunk t b odd = withoutT t (leftOf (partsN t) r) := by
    unfold shrunk
    rw [hpd, hr]
  have pdef : ∀ l, p l = failsK t b odd (withoutT t (leftOf (partsN t) l)) := fun l => by rw [← hpd]; rfl
  have hrs : r.Sublist (upTo (partsN t)) := by rw [← hr]; exact Shr.run_sub _ _
  have tape : ∀ {l : List Int}, l.Sublist (upTo (partsN t)) → parts (withoutT t (leftOf (partsN t) l)) = sel (parts t) l := by
    intro l hl
    rw [parts_without hN, hn]
    exact cut_left _ (by rw [← hn]; exact hl)
  -- the places of what is needed
  generalize hD : (upTo (partsN t)).filter (fun j => decide ((bitsL j.toNat b).tmod 2 = 1)) = D
  have hDs : D.Sublist (upTo (partsN t)) := by rw [← hD]; exact List.filter_sublist
  have need : parts ⟨needE t b, needA t b⟩ = sel (parts t) D := by
    rw [parts_need]
    have := pickL_kp b (parts t) 0
    rw [show bitsL 0 b = b from rfl] at this
    rw [this, kpL_sel0, ← hn, hD]
  have all : withoutT t (leftOf (partsN t) (upTo (partsN t))) = t := by
    apply parts_inj
    rw [tape (List.Sublist.refl _), hn, sel_all]
  have htop : p (upTo (partsN t)) = true := by
    rw [pdef, all]
    unfold failsK
    rw [if_neg (fun h => h.2.2 rfl), partOfT_iff, need]
    have := sel_sub (parts t) hDs
    rw [hn, sel_all] at this
    exact this
  have hmin : Shr.Min1 p r := by rw [← hr]; exact Shr.run_min p _ htop
  have hpart : (parts (shrunk t b odd)).Sublist (parts t) := by
    rw [hx, tape hrs]
    have := sel_sub (parts t) hrs
    rw [hn, sel_all] at this
    exact this
  have rng : ∀ {l : List Int}, l.Sublist (upTo (partsN t)) → ∀ j ∈ l, 0 ≤ j ∧ j.toNat < (parts t).length := fun hl j hj => by rw [← hn]; exact mem_upTo (hl.subset hj)
  have ansN : NormL (shrunk t b odd).answers := by
    rw [hx]
    refine hN.sub ?_
    have := cutL_sub (leftOf (partsN t) r) (normA t.answers) t.events.length
    rw [normA_id hN] at this
    show (cutL _ _ (normA t.answers)).Sublist _
    rw [normA_id hN]
    exact this
  refine ⟨by omega, fun ho => ?_, fun _ => ?_, fun _ => ?_, fun _ => ?_, fun _ i hi => ?_⟩
  · subst ho
    have pd : ∀ {l : List Int}, l.Sublist (upTo (partsN t)) → (p l = true ↔ ∀ x ∈ D, x ∈ l) := by
      intro l hl
      rw [pdef]
      unfold failsK
      rw [if_neg (fun h => by cases h.1), partOfT_iff, need, tape hl]
      constructor
      · intro h x hx
        obtain ⟨x0, x1⟩ := rng hDs x hx
        have hm : (parts t)[x.toNat] ∈ sel (parts t) D := mem_sel.2 ⟨x, hx, List.getElem?_eq_getElem x1⟩
        obtain ⟨y, hy, he⟩ := mem_sel.1 (h.subset hm)
        obtain ⟨y0, y1⟩ := rng hl y hy
        rw [List.getElem?_eq_getElem y1, Option.some.injEq] at he
        have := (List.getElem_inj hP).1 he
        have : y = x := by omega
        rw [← this]; exact hy
      · intro h
        exact sel_sub _ (sub_of_mem hDs hl h)
    have h1 : ∀ x ∈ D, x ∈ r := (pd hrs).1 hmin.1
    have hrn : r.Nodup := hrs.nodup (upTo_nodup _)
    have h2 : ∀ x ∈ r, x ∈ D := by
      intro x hx
      obtain ⟨i, hi, rfl⟩ := List.getElem_of_mem hx
      refine Classical.byContradiction fun hc => ?_
      have hsub := Shr.rmv_sub r i (i + 1) (by omega)
      have := (pd (hsub.trans hrs)).2 (fun y hy => ?_)
      · rw [hmin.2 i hi] at this; cases this
      · have hyr := h1 y hy
        obtain ⟨k, hk, rfl⟩ := List.getElem_of_mem hyr
        have hki : k ≠ i := fun e => hc (by subst e; exact hy)
        unfold Shr.rmv
        rw [List.mem_append]
        by_cases hlt : k < i
        · exact .inl (List.mem_take_iff_getElem.2 ⟨k, by omega, rfl⟩)
        · exact .inr (List.mem_drop_iff_getElem.2 ⟨k - (i + 1), by omega, by congr 1; omega⟩)
    have hrD : r = D := (sub_of_mem hrs hDs h2).eq_of_length_le (sub_of_mem hDs hrs h1).length_le
    have : shrunk t b false = ⟨needE t b, needA t b⟩ := by
      apply parts_inj
      rw [hx, tape hrs, need, hrD]
    rw [this]
    exact equalT_refl _
  · rw [hx, ← pdef]; exact hmin.1
  · exact (partOfT_iff _ _).2 hpart
  · have : normT (shrunk t b odd) = shrunk t b odd := by
      unfold normT
      rw [normA_id ansN]
    rw [this]
    exact equalT_refl _
  · have hlen : partsN (shrunk t b odd) = r.length := by
      rw [partsN_norm ansN, ← parts_len, hx, tape hrs, sel_len _ _ (rng hrs)]
    rw [hlen] at hi
    have hsub := Shr.rmv_sub r i (i + 1) (by omega)
    have he : withoutT (shrunk t b odd) [(i : Int)] = withoutT t (leftOf (partsN t) (Shr.rmv r i (i + 1))) := by
      apply parts_inj
      rw [parts_without ansN, hx, tape hrs, tape (hsub.trans hrs)]
      have := cut_one (sel (parts t) r) i 0 (by rw [sel_len _ _ (rng hrs)]; exact hi)
      rw [Nat.zero_add] at this
      rw [this, sel_rmv _ _ (rng hrs) i hi]
    rw [he, ← pdef]
    exact hmin.2 i hi

theorem plain_rnd (l : List Int) (b : Int) (odd : Bool) : Plain (normT (rndT l)) b odd := by
  have hN : NormL (normT (rndT l)).answers := normA_norm _
  have hE : (normT (rndT l)).events = rndE l (min l.length 8) := rfl
  have hA : (normT (rndT l)).answers.length ≤ 4 := by
    refine Nat.le_trans (normA_len _) ?_
    show (rndA _ _).length ≤ 4
    rw [rndA_len]; omega
  refine plain_of b odd hN ?_ ?_
  · unfold parts
    rw [List.nodup_append]
    refine ⟨?_, ?_, ?_⟩
    · rw [hE]
      unfold rndE
      rw [List.map_map]
      refine List.pairwise_map.2 (List.nodup_range.imp fun {a b} h e => h ?_)
      simp only [Function.comp, Sum.inl.injEq, Evt.mk.injEq] at e
      omega
    · refine List.pairwise_map.2 (hN.1.imp fun {a b} (h : ltM a.q b.q) e => ?_)
      rw [Sum.inr.injEq] at e
      rw [e] at h
      exact ltM_irrefl _ h
    · intro a ha b hb e
      obtain ⟨x, _, rfl⟩ := List.mem_map.1 ha
      obtain ⟨y, _, rfl⟩ := List.mem_map.1 hb
      cases e
  · rw [parts_len, hE, rndE_len]
    omega
end Go.Proofs.Ytmbbebfpjclghaa

set_option linter.unusedVariables false
namespace Go.Proofs.Ytmbbebfpjclghaa
open Go Go.RowKit
theorem shrinkTapeLaw {S : St} {v : Value} {l : List Int} {bits : Int} (odd : Bool) (h : RdS S v l) (_ : ∀ n ∈ l, -9223372036854775808 ≤ n ∧ n ≤ 9223372036854775807) (hb : -9223372036854775808 ≤ bits ∧ bits ≤ 9223372036854775807) :
    XC Try.prog 3 #[v, .int .i64 bits, .bool odd] S fun r S' => Ext S S' ∧ r = .bool true := by
  obtain ⟨h0, h1⟩ := aroundI_bd hb.1 hb.2 (m := 4096) (by decide)
  exact VD.law (law_any l bits odd h0 h1 (plain_rnd l _ odd)) (.cons h.vl (.cons (.int _) (.cons (.bool _) .nil)))
end Go.Proofs.Ytmbbebfpjclghaa

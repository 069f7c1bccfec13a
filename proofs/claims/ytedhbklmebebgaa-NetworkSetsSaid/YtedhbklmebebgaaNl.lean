/- The example of the section. -/
import Derived.Test.YtedhbklmebebgaaNk
set_option linter.unusedSimpArgs false
set_option linter.unusedSectionVars false
set_option maxRecDepth 10000
namespace Go.Proofs.Ytedhbklmebebgaa
open Go Go.RowKit

def exA : Evl := ⟨⟨1, 0, 0, 0, 0⟩, 2, 0, 5, 0⟩
def exB : Evl := ⟨⟨0, 0, 0, 0, 0⟩, 1, 0, 0, 0⟩
theorem insM_A : insM exA [] = [exA] := rfl
theorem insM_BA : insM exB [exA] = [exB, exA] := by simp [insM, exA, exB, ltM]
theorem has_B : has exB.msg [exA] = false := by decide
theorem has_BB : has exB.msg [exB, exA] = true := by decide
theorem find_A : findM exA.msg [exB, exA] = some exA := by decide
theorem to_A : toM 2 [exB, exA] = [exA.msg] := by decide
theorem rem_B : removeM exB.msg [exB, exA] = [exA] := by decide
theorem sorted_A : SortedM [exA] := by simp [SortedM]
theorem sorted_BA : SortedM [exB, exA] := by simp [SortedM, exA, exB, ltM]
theorem fill_two (x y : Evl) : fillL (rep 2 [Value.int .i64 0, .int .i64 0, .int .i64 0, .int .i64 0, .int .i64 0, .int .i64 0, .int .i64 0, .int .i64 0, .int .i64 0]) [(0, 9, .agg x.cs.toArray), (9, 9, .agg y.cs.toArray)] = some (x.cs ++ y.cs) := by
  simp only [fillL, splice, rep, List.replicate_succ, List.replicate_zero, List.flatten_cons, List.flatten_nil, List.append_nil, List.nil_append, List.cons_append, Value.cells, List.append_assoc, and_self, true_and, and_true, List.size_toArray, List.length_cons, List.length_nil, Nat.zero_add, ↓reduceIte, List.take_zero, List.drop_zero, List.drop_succ_cons, List.take_succ_cons, Nat.reduceAdd, Nat.reduceLeDiff, Nat.reduceEqDiff, allOne_int, allOne_nil, List.toList_toArray, boxc_agg, blkOf_ptr, stv_cells, Nat.add_zero, Evl.cs]
theorem allOne_two (x y : Evl) : allOne (x.cs ++ y.cs) = true := Eq.trans rfl rfl

theorem lives_any (S : St) : XC Try.prog 14 #[] S fun r S' => Ext S S' ∧ r = .bool true := by
  refine XC_body (args := []) XF14 ?_
  simp (decide := true) only [↓XW_skip, ↓XW_exit, ↓XW_ret, ↓XW_region, ↓XW_draw, ↓XW_seq, ↓XW_block, ↓XW_cond, ↓XW_stuck, ↓bindN_normal, ↓bindN_exit, ↓bindN_ret, ↓bindB_normal, ↓bindB_ret, ↓bindB_self, ↓bindB_ne, ↓bindL_normal, ↓bindL_exit, ↓bindL_ret, ↓atEnd_normal, ↓atEnd_ret, ↓XO_nil, ↓XO_cons, ↓XO_cons_drop, ↓XO_guard, ↓XO_guard_drop, List.zip_cons_cons, List.zip_nil_left, ↓XM_nil, ↓XM_cons, ↓XM_cons_drop, ↓XM_guard, ↓XM_guard_drop, ↓keepP_false, ↓earlyP_false, ↓XS_mv, ↓XS_call, ↓XS_callv, ↓XS_load, ↓XS_fa, ↓XS_fld, ↓XS_ia, ↓XS_iaArr, ↓XS_bin, ↓XS_len, ↓XS_ext, ↓XS_eqf, ↓XS_eqb, ↓XS_eqp, ↓XS_eqs, ↓XS_un, ↓XS_cvi, ↓XS_nilck, ↓XS_pick, ↓XS_mkFunc, ↓XS_mkIface, ↓XS_build, ↓XS_box, ↓XS_zero, ↓XS_store, ↓XS_buildSlice, ↓XS_append, ↓XS_copy, ↓XS_clr, ↓XS_sl, ↓fev_tmp, ↓fev_const, ↓fev_func, ↓upd_same, ↓upd_ne, ↓fe0_zero, ↓fe0_succ, Now_any, Got_some, Test_true, Test_false, Pick_tt, Pick_ft, Pick_tf, Pick_ff, xrs_one, xrs_two, xrs_three, xrs_nil, xr1_tmp, xr1_cell, Option.bind_some, Option.map_some, Option.map_none, List.map_toArray, List.map_cons, List.map_nil, ↓ldv_ptr, ↓ptrAdd_ptr, ↓early_load, ↓early_sl, ↓Low_ptr, ↓LowS_slice, ↓LowS_nil, Need_true, ne_eq, Nat.reduceEqDiff, not_false_eq_true, XCallv_func, List.append_toArray, List.nil_append, List.cons_append, List.append_nil, Nat.add_zero, ↓atExit_self, ↓atExit_ne, ↓atExit_ret, pick_t, pick_f, eqsv_nil, eqsv_some, unv_not, ext_zero, ext_one, ext_two, nilck_ptr, next_alloc, St.next_write, St.get_alloc, next_alloc, ↓reduceIte, Nat.left_eq_add, Nat.add_eq_left, Nat.add_right_cancel_iff, Nat.add_left_cancel_iff, Blk.rd_cells, List.length_cons, List.length_nil, List.drop_zero, List.drop_succ_cons, List.take_succ_cons, List.take_zero, part1_agg, part1_one, Nat.zero_add, Nat.add_assoc, Nat.reduceAdd, Nat.reduceLeDiff, Nat.reduceLT, Nat.lt_add_right_iff_pos, Nat.add_lt_add_iff_left, reduceCtorEq, Nat.lt_add_one, St.get_write, St.next_write, List.not_mem_nil, if_false, fillL, splice, rep, List.replicate_succ, List.replicate_zero, List.flatten_cons, List.flatten_nil, List.append_nil, List.nil_append, List.cons_append, Value.cells, List.append_assoc, and_self, true_and, and_true, List.size_toArray, List.length_cons, List.length_nil, Nat.zero_add, ↓reduceIte, List.take_zero, List.drop_zero, List.drop_succ_cons, List.take_succ_cons, Nat.reduceAdd, Nat.reduceLeDiff, Nat.reduceEqDiff, allOne_int, allOne_nil, List.toList_toArray, boxc_agg, blkOf_ptr, stv_cells, Nat.add_zero, ↓reduceIte, eq_self, Bool.false_eq_true, decide_true, decide_false, Int.reduceEq, Int.reduceLT, Int.reduceLE, Int.reduceNe, Int.reduceGT, Int.reduceGE, boxc_int, xf14]
  refine XCall_at fun S1 hS1 => ?_
  have hx1 : Ext S S1 := by
    rw [hS1]
    exact Fr.ext ((((Fr.alloc _ _ (Nat.le_refl _)).trans (Fr.write _ _ _ _ (Nat.le_refl _) (by simp))).trans (Fr.alloc _ _ (by simp))).trans (Fr.write _ _ _ _ (by simp) (by simp)))
  have kA : S1.get S.next = .cells exA.cs 34 9 true [] := by
    rw [hS1, get_write_ne _ _ _ _ _ _ (by simp), get_alloc_ne _ _ _ (by simp)]
    exact get_write_self _ _ _ _ _ _
  have kB : S1.get (S.next + 1) = .cells exB.cs 34 9 true [] := by
    rw [hS1]
    exact get_write_self _ _ _ _ _ _
  have hn1 : S1.next = S.next + 2 := by rw [hS1]; simp
  clear hS1
  have e5 : ∀ e : Evl, (Blk.cells e.cs 34 9 true []).rd 0 5 = some e.msg.cs := fun _ => rfl
  have e9 : ∀ e : Evl, (Blk.cells e.cs 34 9 true []).rd 0 9 = some e.cs := fun _ => rfl
  refine XCall.of (add_any exA (RdS.nil _) (by simp) (by simp [SortedM])) ?_
  rintro _ S2 ⟨hx2, u2, rfl, hu2⟩
  have hu2 : Own S2 S1.next u2 [exA] := hu2
  have kB2 : S2.get (S.next + 1) = .cells exB.cs 34 9 true [] := by rw [hx2.get _ (by omega)]; exact kB
  have kA2 : S2.get S.next = .cells exA.cs 34 9 true [] := by rw [hx2.get _ (by omega)]; exact kA
  have hn2 := hx2.next
  simp (decide := true) only [↓XW_skip, ↓XW_exit, ↓XW_ret, ↓XW_region, ↓XW_draw, ↓XW_seq, ↓XW_block, ↓XW_cond, ↓XW_stuck, ↓bindN_normal, ↓bindN_exit, ↓bindN_ret, ↓bindB_normal, ↓bindB_ret, ↓bindB_self, ↓bindB_ne, ↓bindL_normal, ↓bindL_exit, ↓bindL_ret, ↓atEnd_normal, ↓atEnd_ret, ↓XO_nil, ↓XO_cons, ↓XO_cons_drop, ↓XO_guard, ↓XO_guard_drop, List.zip_cons_cons, List.zip_nil_left, ↓XM_nil, ↓XM_cons, ↓XM_cons_drop, ↓XM_guard, ↓XM_guard_drop, ↓keepP_false, ↓earlyP_false, ↓XS_mv, ↓XS_call, ↓XS_callv, ↓XS_load, ↓XS_fa, ↓XS_fld, ↓XS_ia, ↓XS_iaArr, ↓XS_bin, ↓XS_len, ↓XS_ext, ↓XS_eqf, ↓XS_eqb, ↓XS_eqp, ↓XS_eqs, ↓XS_un, ↓XS_cvi, ↓XS_nilck, ↓XS_pick, ↓XS_mkFunc, ↓XS_mkIface, ↓XS_build, ↓XS_box, ↓XS_zero, ↓XS_store, ↓XS_buildSlice, ↓XS_append, ↓XS_copy, ↓XS_clr, ↓XS_sl, ↓fev_tmp, ↓fev_const, ↓fev_func, ↓upd_same, ↓upd_ne, ↓fe0_zero, ↓fe0_succ, Now_any, Got_some, Test_true, Test_false, Pick_tt, Pick_ft, Pick_tf, Pick_ff, xrs_one, xrs_two, xrs_three, xrs_nil, xr1_tmp, xr1_cell, Option.bind_some, Option.map_some, Option.map_none, List.map_toArray, List.map_cons, List.map_nil, ↓ldv_ptr, ↓ptrAdd_ptr, ↓early_load, ↓early_sl, ↓Low_ptr, ↓LowS_slice, ↓LowS_nil, Need_true, ne_eq, Nat.reduceEqDiff, not_false_eq_true, XCallv_func, List.append_toArray, List.nil_append, List.cons_append, List.append_nil, Nat.add_zero, ↓atExit_self, ↓atExit_ne, ↓atExit_ret, pick_t, pick_f, eqsv_nil, eqsv_some, unv_not, ext_zero, ext_one, ext_two, nilck_ptr, next_alloc, St.next_write, kB2, e9, part1_agg]
  refine XCall.of (add_any exB hu2.rd (by simp) sorted_A) ?_
  rintro _ S3 ⟨hx3, u3, rfl, hu3⟩
  rw [has_B] at hu3
  have hu3 : Own S3 S2.next u3 (insM exB [exA]) := hu3
  rw [insM_BA] at hu3
  have kB3 : S3.get (S.next + 1) = .cells exB.cs 34 9 true [] := by rw [hx3.get _ (by omega)]; exact kB2
  have kA3 : S3.get S.next = .cells exA.cs 34 9 true [] := by rw [hx3.get _ (by omega)]; exact kA2
  have hn3 := hx3.next
  simp (decide := true) only [↓XW_skip, ↓XW_exit, ↓XW_ret, ↓XW_region, ↓XW_draw, ↓XW_seq, ↓XW_block, ↓XW_cond, ↓XW_stuck, ↓bindN_normal, ↓bindN_exit, ↓bindN_ret, ↓bindB_normal, ↓bindB_ret, ↓bindB_self, ↓bindB_ne, ↓bindL_normal, ↓bindL_exit, ↓bindL_ret, ↓atEnd_normal, ↓atEnd_ret, ↓XO_nil, ↓XO_cons, ↓XO_cons_drop, ↓XO_guard, ↓XO_guard_drop, List.zip_cons_cons, List.zip_nil_left, ↓XM_nil, ↓XM_cons, ↓XM_cons_drop, ↓XM_guard, ↓XM_guard_drop, ↓keepP_false, ↓earlyP_false, ↓XS_mv, ↓XS_call, ↓XS_callv, ↓XS_load, ↓XS_fa, ↓XS_fld, ↓XS_ia, ↓XS_iaArr, ↓XS_bin, ↓XS_len, ↓XS_ext, ↓XS_eqf, ↓XS_eqb, ↓XS_eqp, ↓XS_eqs, ↓XS_un, ↓XS_cvi, ↓XS_nilck, ↓XS_pick, ↓XS_mkFunc, ↓XS_mkIface, ↓XS_build, ↓XS_box, ↓XS_zero, ↓XS_store, ↓XS_buildSlice, ↓XS_append, ↓XS_copy, ↓XS_clr, ↓XS_sl, ↓fev_tmp, ↓fev_const, ↓fev_func, ↓upd_same, ↓upd_ne, ↓fe0_zero, ↓fe0_succ, Now_any, Got_some, Test_true, Test_false, Pick_tt, Pick_ft, Pick_tf, Pick_ff, xrs_one, xrs_two, xrs_three, xrs_nil, xr1_tmp, xr1_cell, Option.bind_some, Option.map_some, Option.map_none, List.map_toArray, List.map_cons, List.map_nil, ↓ldv_ptr, ↓ptrAdd_ptr, ↓early_load, ↓early_sl, ↓Low_ptr, ↓LowS_slice, ↓LowS_nil, Need_true, ne_eq, Nat.reduceEqDiff, not_false_eq_true, XCallv_func, List.append_toArray, List.nil_append, List.cons_append, List.append_nil, Nat.add_zero, ↓atExit_self, ↓atExit_ne, ↓atExit_ret, pick_t, pick_f, eqsv_nil, eqsv_some, unv_not, ext_zero, ext_one, ext_two, nilck_ptr, next_alloc, St.next_write, kB3, e9, part1_agg]
  refine XCall.of (add_any exB hu3.rd (by simp) sorted_BA) ?_
  rintro _ S4 ⟨hx4, u4, rfl, hu4⟩
  have kB4 : S4.get (S.next + 1) = .cells exB.cs 34 9 true [] := by rw [hx4.get _ (by omega)]; exact kB3
  have kA4 : S4.get S.next = .cells exA.cs 34 9 true [] := by rw [hx4.get _ (by omega)]; exact kA3
  have hn4 := hx4.next
  have hr4 := hu3.rd.mono hx4
  simp (decide := true) only [↓XW_skip, ↓XW_exit, ↓XW_ret, ↓XW_region, ↓XW_draw, ↓XW_seq, ↓XW_block, ↓XW_cond, ↓XW_stuck, ↓bindN_normal, ↓bindN_exit, ↓bindN_ret, ↓bindB_normal, ↓bindB_ret, ↓bindB_self, ↓bindB_ne, ↓bindL_normal, ↓bindL_exit, ↓bindL_ret, ↓atEnd_normal, ↓atEnd_ret, ↓XO_nil, ↓XO_cons, ↓XO_cons_drop, ↓XO_guard, ↓XO_guard_drop, List.zip_cons_cons, List.zip_nil_left, ↓XM_nil, ↓XM_cons, ↓XM_cons_drop, ↓XM_guard, ↓XM_guard_drop, ↓keepP_false, ↓earlyP_false, ↓XS_mv, ↓XS_call, ↓XS_callv, ↓XS_load, ↓XS_fa, ↓XS_fld, ↓XS_ia, ↓XS_iaArr, ↓XS_bin, ↓XS_len, ↓XS_ext, ↓XS_eqf, ↓XS_eqb, ↓XS_eqp, ↓XS_eqs, ↓XS_un, ↓XS_cvi, ↓XS_nilck, ↓XS_pick, ↓XS_mkFunc, ↓XS_mkIface, ↓XS_build, ↓XS_box, ↓XS_zero, ↓XS_store, ↓XS_buildSlice, ↓XS_append, ↓XS_copy, ↓XS_clr, ↓XS_sl, ↓fev_tmp, ↓fev_const, ↓fev_func, ↓upd_same, ↓upd_ne, ↓fe0_zero, ↓fe0_succ, Now_any, Got_some, Test_true, Test_false, Pick_tt, Pick_ft, Pick_tf, Pick_ff, xrs_one, xrs_two, xrs_three, xrs_nil, xr1_tmp, xr1_cell, Option.bind_some, Option.map_some, Option.map_none, List.map_toArray, List.map_cons, List.map_nil, ↓ldv_ptr, ↓ptrAdd_ptr, ↓early_load, ↓early_sl, ↓Low_ptr, ↓LowS_slice, ↓LowS_nil, Need_true, ne_eq, Nat.reduceEqDiff, not_false_eq_true, XCallv_func, List.append_toArray, List.nil_append, List.cons_append, List.append_nil, Nat.add_zero, ↓atExit_self, ↓atExit_ne, ↓atExit_ret, pick_t, pick_f, eqsv_nil, eqsv_some, unv_not, ext_zero, ext_one, ext_two, nilck_ptr, next_alloc, St.next_write, kA4, e5, part1_agg]
  refine XCall.of (find_any exA.msg hr4 (by simp) sorted_BA) ?_
  rintro _ S5 ⟨hx5, rfl⟩
  rw [find_A, has_B, has_BB]
  have kB5 : S5.get (S.next + 1) = .cells exB.cs 34 9 true [] := by rw [hx5.get _ (by omega)]; exact kB4
  have kA5 : S5.get S.next = .cells exA.cs 34 9 true [] := by rw [hx5.get _ (by omega)]; exact kA4
  have hn5 := hx5.next
  have hr5 := hr4.mono hx5
  have hx05 := ((((hx1.trans hx2).trans hx3).trans hx4).trans hx5)
  have hne : ¬ (S.next + 1 = S5.next) := by omega
  have hne2 : ¬ (S.next = S5.next) := by omega
  simp (decide := true) only [↓XW_skip, ↓XW_exit, ↓XW_ret, ↓XW_region, ↓XW_draw, ↓XW_seq, ↓XW_block, ↓XW_cond, ↓XW_stuck, ↓bindN_normal, ↓bindN_exit, ↓bindN_ret, ↓bindB_normal, ↓bindB_ret, ↓bindB_self, ↓bindB_ne, ↓bindL_normal, ↓bindL_exit, ↓bindL_ret, ↓atEnd_normal, ↓atEnd_ret, ↓XO_nil, ↓XO_cons, ↓XO_cons_drop, ↓XO_guard, ↓XO_guard_drop, List.zip_cons_cons, List.zip_nil_left, ↓XM_nil, ↓XM_cons, ↓XM_cons_drop, ↓XM_guard, ↓XM_guard_drop, ↓keepP_false, ↓earlyP_false, ↓XS_mv, ↓XS_call, ↓XS_callv, ↓XS_load, ↓XS_fa, ↓XS_fld, ↓XS_ia, ↓XS_iaArr, ↓XS_bin, ↓XS_len, ↓XS_ext, ↓XS_eqf, ↓XS_eqb, ↓XS_eqp, ↓XS_eqs, ↓XS_un, ↓XS_cvi, ↓XS_nilck, ↓XS_pick, ↓XS_mkFunc, ↓XS_mkIface, ↓XS_build, ↓XS_box, ↓XS_zero, ↓XS_store, ↓XS_buildSlice, ↓XS_append, ↓XS_copy, ↓XS_clr, ↓XS_sl, ↓fev_tmp, ↓fev_const, ↓fev_func, ↓upd_same, ↓upd_ne, ↓fe0_zero, ↓fe0_succ, Now_any, Got_some, Test_true, Test_false, Pick_tt, Pick_ft, Pick_tf, Pick_ff, xrs_one, xrs_two, xrs_three, xrs_nil, xr1_tmp, xr1_cell, Option.bind_some, Option.map_some, Option.map_none, List.map_toArray, List.map_cons, List.map_nil, ↓ldv_ptr, ↓ptrAdd_ptr, ↓early_load, ↓early_sl, ↓Low_ptr, ↓LowS_slice, ↓LowS_nil, Need_true, ne_eq, Nat.reduceEqDiff, not_false_eq_true, XCallv_func, List.append_toArray, List.nil_append, List.cons_append, List.append_nil, Nat.add_zero, ↓atExit_self, ↓atExit_ne, ↓atExit_ret, pick_t, pick_f, eqsv_nil, eqsv_some, unv_not, ext_zero, ext_one, ext_two, nilck_ptr, next_alloc, St.next_write, St.get_alloc, next_alloc, ↓reduceIte, Nat.left_eq_add, Nat.add_eq_left, Nat.add_right_cancel_iff, Nat.add_left_cancel_iff, Blk.rd_cells, List.length_cons, List.length_nil, List.drop_zero, List.drop_succ_cons, List.take_succ_cons, List.take_zero, part1_agg, part1_one, Nat.zero_add, Nat.add_assoc, Nat.reduceAdd, Nat.reduceLeDiff, Nat.reduceLT, Nat.lt_add_right_iff_pos, Nat.add_lt_add_iff_left, reduceCtorEq, Nat.lt_add_one, St.get_write, St.next_write, List.not_mem_nil, if_false, fillL, splice, rep, List.replicate_succ, List.replicate_zero, List.flatten_cons, List.flatten_nil, List.append_nil, List.nil_append, List.cons_append, Value.cells, List.append_assoc, and_self, true_and, and_true, List.size_toArray, List.length_cons, List.length_nil, Nat.zero_add, ↓reduceIte, List.take_zero, List.drop_zero, List.drop_succ_cons, List.take_succ_cons, Nat.reduceAdd, Nat.reduceLeDiff, Nat.reduceEqDiff, allOne_int, allOne_nil, List.toList_toArray, boxc_agg, blkOf_ptr, stv_cells, Nat.add_zero, ↓reduceIte, eq_self, Bool.false_eq_true, decide_true, decide_false, Int.reduceEq, Int.reduceLT, Int.reduceLE, Int.reduceNe, Int.reduceGT, Int.reduceGE, boxc_int, has, Option.getD_some, Option.isSome_some, xbin_eql, kA5, kB5, hne, hne2, exA, exB, Evl.cs]
  refine XCall_at fun S6 hS6 => ?_
  have hx6 : Ext S5 S6 := by
    rw [hS6]
    exact Fr.ext (((Fr.alloc _ _ (Nat.le_refl _)).trans (Fr.write _ _ _ _ (Nat.le_refl _) (by simp))).trans (Fr.alloc _ _ (by simp)))
  have hn6 : S6.next = S5.next + 2 := by rw [hS6]; simp
  have k8 : S6.get S5.next = .cells exA.cs 34 9 true [] := by
    rw [hS6, get_alloc_ne _ _ _ (by simp)]
    exact get_write_self _ _ _ _ _ _
  have hr : Own S6 S5.next (.slice (some ⟨S5.next + 1, 0, none⟩) 2 2) [exB, exA] := by
    refine .inr ⟨S5.next + 1, 34, [], rfl, ?_, by omega, by omega, by simp⟩
    rw [hS6, St.get_alloc, if_pos (by simp)]
    rfl
  have hr6 := hr5.mono hx6
  have hx06 := hx05.trans hx6
  refine XCall.of (same_any hr6 hr.rd (by simp)) ?_
  rintro _ S7 ⟨hx7, rfl⟩
  refine keepP.intro (hS6 ▸ hx7) ?_
  have kB7 : S7.get (S.next + 1) = .cells exB.cs 34 9 true [] := by rw [hx7.get _ (by omega), hx6.get _ (by omega)]; exact kB5
  have kA7 : S7.get S.next = .cells exA.cs 34 9 true [] := by rw [hx7.get _ (by omega), hx6.get _ (by omega)]; exact kA5
  have k87 : S7.get S5.next = .cells exA.cs 34 9 true [] := by rw [hx7.get _ (by omega)]; exact k8
  have hn7 := hx7.next
  have hr7 := hr6.mono hx7
  have n1 : S5.next < S5.next + 1 := by omega
  have n2 : S.next < S5.next + 1 := by omega
  have n3 : S.next + 1 < S5.next + 1 := by omega
  have eqe := fun x y => eqfv_evl false x y
  simp only [Evl.v, notIf] at eqe
  simp (decide := true) only [↓XW_skip, ↓XW_exit, ↓XW_ret, ↓XW_region, ↓XW_draw, ↓XW_seq, ↓XW_block, ↓XW_cond, ↓XW_stuck, ↓bindN_normal, ↓bindN_exit, ↓bindN_ret, ↓bindB_normal, ↓bindB_ret, ↓bindB_self, ↓bindB_ne, ↓bindL_normal, ↓bindL_exit, ↓bindL_ret, ↓atEnd_normal, ↓atEnd_ret, ↓XO_nil, ↓XO_cons, ↓XO_cons_drop, ↓XO_guard, ↓XO_guard_drop, List.zip_cons_cons, List.zip_nil_left, ↓XM_nil, ↓XM_cons, ↓XM_cons_drop, ↓XM_guard, ↓XM_guard_drop, ↓keepP_false, ↓earlyP_false, ↓XS_mv, ↓XS_call, ↓XS_callv, ↓XS_load, ↓XS_fa, ↓XS_fld, ↓XS_ia, ↓XS_iaArr, ↓XS_bin, ↓XS_len, ↓XS_ext, ↓XS_eqf, ↓XS_eqb, ↓XS_eqp, ↓XS_eqs, ↓XS_un, ↓XS_cvi, ↓XS_nilck, ↓XS_pick, ↓XS_mkFunc, ↓XS_mkIface, ↓XS_build, ↓XS_box, ↓XS_zero, ↓XS_store, ↓XS_buildSlice, ↓XS_append, ↓XS_copy, ↓XS_clr, ↓XS_sl, ↓fev_tmp, ↓fev_const, ↓fev_func, ↓upd_same, ↓upd_ne, ↓fe0_zero, ↓fe0_succ, Now_any, Got_some, Test_true, Test_false, Pick_tt, Pick_ft, Pick_tf, Pick_ff, xrs_one, xrs_two, xrs_three, xrs_nil, xr1_tmp, xr1_cell, Option.bind_some, Option.map_some, Option.map_none, List.map_toArray, List.map_cons, List.map_nil, ↓ldv_ptr, ↓ptrAdd_ptr, ↓early_load, ↓early_sl, ↓Low_ptr, ↓LowS_slice, ↓LowS_nil, Need_true, ne_eq, Nat.reduceEqDiff, not_false_eq_true, XCallv_func, List.append_toArray, List.nil_append, List.cons_append, List.append_nil, Nat.add_zero, ↓atExit_self, ↓atExit_ne, ↓atExit_ret, pick_t, pick_f, eqsv_nil, eqsv_some, unv_not, ext_zero, ext_one, ext_two, nilck_ptr, next_alloc, St.next_write, ↓reduceIte, eq_self, Bool.false_eq_true, decide_true, decide_false, Int.reduceEq, Int.reduceLT, Int.reduceLE, Int.reduceNe, Int.reduceGT, Int.reduceGE, boxc_int, k87, kA7, kB7, e5, e9, part1_agg, n1, n2, n3, eqe]
  refine XCall.of (to_any 2 hr7 (by simp)) ?_
  rintro r8 S8 ⟨hx8, hr8⟩
  rw [to_A] at hr8
  refine keepP.intro hx8 ?_
  have kB8 : S8.get (S.next + 1) = .cells exB.cs 34 9 true [] := by rw [hx8.get _ (by omega)]; exact kB7
  have kA8 : S8.get S.next = .cells exA.cs 34 9 true [] := by rw [hx8.get _ (by omega)]; exact kA7
  have hn8 := hx8.next
  have hr78 := hr7.mono hx8
  simp (decide := true) only [↓XW_skip, ↓XW_exit, ↓XW_ret, ↓XW_region, ↓XW_draw, ↓XW_seq, ↓XW_block, ↓XW_cond, ↓XW_stuck, ↓bindN_normal, ↓bindN_exit, ↓bindN_ret, ↓bindB_normal, ↓bindB_ret, ↓bindB_self, ↓bindB_ne, ↓bindL_normal, ↓bindL_exit, ↓bindL_ret, ↓atEnd_normal, ↓atEnd_ret, ↓XO_nil, ↓XO_cons, ↓XO_cons_drop, ↓XO_guard, ↓XO_guard_drop, List.zip_cons_cons, List.zip_nil_left, ↓XM_nil, ↓XM_cons, ↓XM_cons_drop, ↓XM_guard, ↓XM_guard_drop, ↓keepP_false, ↓earlyP_false, ↓XS_mv, ↓XS_call, ↓XS_callv, ↓XS_load, ↓XS_fa, ↓XS_fld, ↓XS_ia, ↓XS_iaArr, ↓XS_bin, ↓XS_len, ↓XS_ext, ↓XS_eqf, ↓XS_eqb, ↓XS_eqp, ↓XS_eqs, ↓XS_un, ↓XS_cvi, ↓XS_nilck, ↓XS_pick, ↓XS_mkFunc, ↓XS_mkIface, ↓XS_build, ↓XS_box, ↓XS_zero, ↓XS_store, ↓XS_buildSlice, ↓XS_append, ↓XS_copy, ↓XS_clr, ↓XS_sl, ↓fev_tmp, ↓fev_const, ↓fev_func, ↓upd_same, ↓upd_ne, ↓fe0_zero, ↓fe0_succ, Now_any, Got_some, Test_true, Test_false, Pick_tt, Pick_ft, Pick_tf, Pick_ff, xrs_one, xrs_two, xrs_three, xrs_nil, xr1_tmp, xr1_cell, Option.bind_some, Option.map_some, Option.map_none, List.map_toArray, List.map_cons, List.map_nil, ↓ldv_ptr, ↓ptrAdd_ptr, ↓early_load, ↓early_sl, ↓Low_ptr, ↓LowS_slice, ↓LowS_nil, Need_true, ne_eq, Nat.reduceEqDiff, not_false_eq_true, XCallv_func, List.append_toArray, List.nil_append, List.cons_append, List.append_nil, Nat.add_zero, ↓atExit_self, ↓atExit_ne, ↓atExit_ret, pick_t, pick_f, eqsv_nil, eqsv_some, unv_not, ext_zero, ext_one, ext_two, nilck_ptr, next_alloc, St.next_write, ↓reduceIte, eq_self, Bool.false_eq_true, decide_true, decide_false, Int.reduceEq, Int.reduceLT, Int.reduceLE, Int.reduceNe, Int.reduceGT, Int.reduceGE, boxc_int, kA8, e5, part1_agg, fill_msg, allOne_msg, msg_len, n2]
  refine XCall.of (sameMsgs_any (hr8.mono (Ext.alloc _ _)) (RdS.one S8 exA.msg 32) (by simp)) ?_
  rintro _ S9 ⟨hx9, rfl⟩
  have hn9 := hx9.next
  have hn9 : S8.next + 1 ≤ S9.next := hn9
  have kB9 : S9.get (S.next + 1) = .cells exB.cs 34 9 true [] := by rw [hx9.get _ (by simp only [next_alloc]; omega), get_alloc_ne _ _ _ (by omega)]; exact kB8
  have hr9 := (hr78.mono (Ext.alloc _ _)).mono hx9
  simp (decide := true) only [↓XW_skip, ↓XW_exit, ↓XW_ret, ↓XW_region, ↓XW_draw, ↓XW_seq, ↓XW_block, ↓XW_cond, ↓XW_stuck, ↓bindN_normal, ↓bindN_exit, ↓bindN_ret, ↓bindB_normal, ↓bindB_ret, ↓bindB_self, ↓bindB_ne, ↓bindL_normal, ↓bindL_exit, ↓bindL_ret, ↓atEnd_normal, ↓atEnd_ret, ↓XO_nil, ↓XO_cons, ↓XO_cons_drop, ↓XO_guard, ↓XO_guard_drop, List.zip_cons_cons, List.zip_nil_left, ↓XM_nil, ↓XM_cons, ↓XM_cons_drop, ↓XM_guard, ↓XM_guard_drop, ↓keepP_false, ↓earlyP_false, ↓XS_mv, ↓XS_call, ↓XS_callv, ↓XS_load, ↓XS_fa, ↓XS_fld, ↓XS_ia, ↓XS_iaArr, ↓XS_bin, ↓XS_len, ↓XS_ext, ↓XS_eqf, ↓XS_eqb, ↓XS_eqp, ↓XS_eqs, ↓XS_un, ↓XS_cvi, ↓XS_nilck, ↓XS_pick, ↓XS_mkFunc, ↓XS_mkIface, ↓XS_build, ↓XS_box, ↓XS_zero, ↓XS_store, ↓XS_buildSlice, ↓XS_append, ↓XS_copy, ↓XS_clr, ↓XS_sl, ↓fev_tmp, ↓fev_const, ↓fev_func, ↓upd_same, ↓upd_ne, ↓fe0_zero, ↓fe0_succ, Now_any, Got_some, Test_true, Test_false, Pick_tt, Pick_ft, Pick_tf, Pick_ff, xrs_one, xrs_two, xrs_three, xrs_nil, xr1_tmp, xr1_cell, Option.bind_some, Option.map_some, Option.map_none, List.map_toArray, List.map_cons, List.map_nil, ↓ldv_ptr, ↓ptrAdd_ptr, ↓early_load, ↓early_sl, ↓Low_ptr, ↓LowS_slice, ↓LowS_nil, Need_true, ne_eq, Nat.reduceEqDiff, not_false_eq_true, XCallv_func, List.append_toArray, List.nil_append, List.cons_append, List.append_nil, Nat.add_zero, ↓atExit_self, ↓atExit_ne, ↓atExit_ret, pick_t, pick_f, eqsv_nil, eqsv_some, unv_not, ext_zero, ext_one, ext_two, nilck_ptr, next_alloc, St.next_write, ↓reduceIte, eq_self, Bool.false_eq_true, decide_true, decide_false, Int.reduceEq, Int.reduceLT, Int.reduceLE, Int.reduceNe, Int.reduceGT, Int.reduceGE, boxc_int, kB9, e5, part1_agg]
  refine XCall.of (remove_any exB.msg hr9 (by simp)) ?_
  rintro r10 S10 ⟨hx10, hr10⟩
  rw [rem_B] at hr10
  simp (decide := true) only [↓XW_skip, ↓XW_exit, ↓XW_ret, ↓XW_region, ↓XW_draw, ↓XW_seq, ↓XW_block, ↓XW_cond, ↓XW_stuck, ↓bindN_normal, ↓bindN_exit, ↓bindN_ret, ↓bindB_normal, ↓bindB_ret, ↓bindB_self, ↓bindB_ne, ↓bindL_normal, ↓bindL_exit, ↓bindL_ret, ↓atEnd_normal, ↓atEnd_ret, ↓XO_nil, ↓XO_cons, ↓XO_cons_drop, ↓XO_guard, ↓XO_guard_drop, List.zip_cons_cons, List.zip_nil_left, ↓XM_nil, ↓XM_cons, ↓XM_cons_drop, ↓XM_guard, ↓XM_guard_drop, ↓keepP_false, ↓earlyP_false, ↓XS_mv, ↓XS_call, ↓XS_callv, ↓XS_load, ↓XS_fa, ↓XS_fld, ↓XS_ia, ↓XS_iaArr, ↓XS_bin, ↓XS_len, ↓XS_ext, ↓XS_eqf, ↓XS_eqb, ↓XS_eqp, ↓XS_eqs, ↓XS_un, ↓XS_cvi, ↓XS_nilck, ↓XS_pick, ↓XS_mkFunc, ↓XS_mkIface, ↓XS_build, ↓XS_box, ↓XS_zero, ↓XS_store, ↓XS_buildSlice, ↓XS_append, ↓XS_copy, ↓XS_clr, ↓XS_sl, ↓fev_tmp, ↓fev_const, ↓fev_func, ↓upd_same, ↓upd_ne, ↓fe0_zero, ↓fe0_succ, Now_any, Got_some, Test_true, Test_false, Pick_tt, Pick_ft, Pick_tf, Pick_ff, xrs_one, xrs_two, xrs_three, xrs_nil, xr1_tmp, xr1_cell, Option.bind_some, Option.map_some, Option.map_none, List.map_toArray, List.map_cons, List.map_nil, ↓ldv_ptr, ↓ptrAdd_ptr, ↓early_load, ↓early_sl, ↓Low_ptr, ↓LowS_slice, ↓LowS_nil, Need_true, ne_eq, Nat.reduceEqDiff, not_false_eq_true, XCallv_func, List.append_toArray, List.nil_append, List.cons_append, List.append_nil, Nat.add_zero, ↓atExit_self, ↓atExit_ne, ↓atExit_ret, pick_t, pick_f, eqsv_nil, eqsv_some, unv_not, ext_zero, ext_one, ext_two, nilck_ptr, next_alloc, St.next_write, ↓reduceIte, eq_self, Bool.false_eq_true, decide_true, decide_false, Int.reduceEq, Int.reduceLT, Int.reduceLE, Int.reduceNe, Int.reduceGT, Int.reduceGE, boxc_int, hr10.len, xbin_eql]
  exact ⟨((((hx06.trans hx7).trans hx8).trans (Ext.alloc _ _)).trans hx9).trans hx10, trivial⟩
end Go.Proofs.Ytedhbklmebebgaa

/- Verdicts: Same and Violation. -/
import Derived.Test.YtofjnhdgkhfgnaaDoorWa
import Derived.Test.YtofjnhdgkhfgnaaDoorMsy
set_option linter.unusedSimpArgs false
set_option linter.unusedSectionVars false
set_option maxRecDepth 10000
namespace Go.Proofs.YtofjnhdgkhfgnaaDoor
open Go Go.RowKit

theorem part1_one (v : Value) : part1 false [v] = some v := Eq.trans rfl rfl
theorem part1_agg (l : List Value) : part1 true l = some (.agg l.toArray) := Eq.trans rfl rfl
theorem boxc_i (k : IntKind) (n : Int) : boxc (.int k n) = some [.int k n] := by simp [boxc, Value.cells, allOne]; rfl
theorem eqbv_tff : eqbv true (.bool false) (.bool false) = some (.bool false) := rfl
theorem eqbv_ttt : eqbv true (.bool true) (.bool true) = some (.bool false) := rfl
theorem eqbv_fff : eqbv false (.bool false) (.bool false) = some (.bool true) := rfl
theorem eqbv_ftt : eqbv false (.bool true) (.bool true) = some (.bool true) := rfl
theorem dec_self (a : Int) : decide (a = a) = true := by simp
theorem one_nil : (Value.slice none 0 0).oneCell' = true := rfl
/-- a verdict: three numbers and two lists. -/
def verV (c k a : Int) (o e : Value) : Value := .agg #[.int .i64 c, .int .i64 k, .int .i64 a, o, e]
theorem boxc_ver {c k a : Int} {o e : Value} (ho : o.oneCell' = true) (he : e.oneCell' = true) : boxc (.agg #[.int .i64 c, .int .i64 k, .int .i64 a, o, e]) = some [.int .i64 c, .int .i64 k, .int .i64 a, o, e] := by
  simp [boxc, Value.cells, allOne, ho, he]
  exact ⟨rfl, rfl, rfl⟩
theorem same_any {c k a c' k' a' : Int} {o e o' e' : Value} (ho : o.oneCell' = true) (he : e.oneCell' = true) (ho' : o'.oneCell' = true) (he' : e'.oneCell' = true) {S : St} :
    XC Tryd.prog 4 #[verV c k a o e, verV c' k' a' o' e'] S fun r S' => Ext S S' ∧ r = .bool (decide (c = c') && decide (k = k') && decide (a = a')) := by
  refine XC_body XF4 ?_
  cases d1 : decide (c = c') <;> cases d2 : decide (k = k') <;> cases d3 : decide (a = a')
  all_goals
    simp (decide := true) only [↓symD, symU, ↓XW_cond, Nat.reduceEqDiff, List.zip_cons_cons, List.zip_nil_left, Option.bind_some, Option.map_some, Option.map_none, List.map_toArray, List.map_cons, List.map_nil, ne_eq, List.append_toArray, List.nil_append, List.cons_append, List.append_nil, St.get_alloc, next_alloc, ↓reduceIte, Nat.left_eq_add, Nat.add_eq_left, Nat.add_right_cancel_iff, Nat.add_left_cancel_iff, Blk.rd_cells, List.length_cons, List.length_nil, List.drop_zero, List.drop_succ_cons, List.take_succ_cons, List.take_zero, part1_agg, part1_one, Nat.zero_add, Nat.add_assoc, Nat.reduceAdd, Nat.reduceLeDiff, Nat.reduceLT, Nat.lt_add_right_iff_pos, Nat.add_lt_add_iff_left, reduceCtorEq, Nat.lt_add_one, St.get_write, St.next_write, List.not_mem_nil, if_false, fillL, splice, rep, List.replicate_succ, List.replicate_zero, List.flatten_cons, List.flatten_nil, List.append_nil, List.nil_append, List.cons_append, Value.cells, List.append_assoc, and_self, true_and, and_true, List.size_toArray, List.length_cons, List.length_nil, Nat.zero_add, ↓reduceIte, List.take_zero, List.drop_zero, List.drop_succ_cons, List.take_succ_cons, Nat.reduceAdd, Nat.reduceLeDiff, Nat.reduceEqDiff, allOne_int, allOne_nil, List.toList_toArray, boxc_agg, blkOf_ptr, stv_cells, Nat.add_zero, xf4, verV, boxc_ver ho he, boxc_ver ho' he', xbin_eql, d1, d2, d3]
    exact ⟨(Ext.alloc _ _).trans (Ext.alloc _ _), rfl⟩
theorem violation_any {c k a : Int} {o e : Value} (ho : o.oneCell' = true) (he : e.oneCell' = true) {S : St} :
    XC Tryd.prog 5 #[verV c k a o e] S fun r S' => Ext S S' ∧ r = .bool (decide (k ≠ 0) && decide (k ≠ 14)) := by
  refine XC_body XF5 ?_
  cases d1 : decide (k ≠ 0) <;> cases d2 : decide (k ≠ 14)
  all_goals
    simp (decide := true) only [↓symD, symU, ↓XW_cond, Nat.reduceEqDiff, List.zip_cons_cons, List.zip_nil_left, Option.bind_some, Option.map_some, Option.map_none, List.map_toArray, List.map_cons, List.map_nil, ne_eq, List.append_toArray, List.nil_append, List.cons_append, List.append_nil, St.get_alloc, next_alloc, ↓reduceIte, Nat.left_eq_add, Nat.add_eq_left, Nat.add_right_cancel_iff, Nat.add_left_cancel_iff, Blk.rd_cells, List.length_cons, List.length_nil, List.drop_zero, List.drop_succ_cons, List.take_succ_cons, List.take_zero, part1_agg, part1_one, Nat.zero_add, Nat.add_assoc, Nat.reduceAdd, Nat.reduceLeDiff, Nat.reduceLT, Nat.lt_add_right_iff_pos, Nat.add_lt_add_iff_left, reduceCtorEq, Nat.lt_add_one, St.get_write, St.next_write, List.not_mem_nil, if_false, fillL, splice, rep, List.replicate_succ, List.replicate_zero, List.flatten_cons, List.flatten_nil, List.append_nil, List.nil_append, List.cons_append, Value.cells, List.append_assoc, and_self, true_and, and_true, List.size_toArray, List.length_cons, List.length_nil, Nat.zero_add, ↓reduceIte, List.take_zero, List.drop_zero, List.drop_succ_cons, List.take_succ_cons, Nat.reduceAdd, Nat.reduceLeDiff, Nat.reduceEqDiff, allOne_int, allOne_nil, List.toList_toArray, boxc_agg, blkOf_ptr, stv_cells, Nat.add_zero, xf5, verV, boxc_ver ho he, xbin_neq, d1, d2]
    exact ⟨Ext.alloc _ _, rfl⟩
theorem lives_any {S : St} : XC Tryd.prog 6 #[] S fun r S' => S' = S ∧ r = .bool true :=
  XC_prim XZ6 ⟨.bool true, S, by simp [Prim.run, runL], rfl, rfl⟩
/-- the five rows of the law. -/
structure Five (S S1 : St) (A B X Y Z : Blk) : Prop where
  n : S.next + 5 ≤ S1.next
  x : Ext S S1
  g0 : S1.get S.next = A
  g1 : S1.get (S.next + 1) = B
  g2 : S1.get (S.next + 2) = X
  g3 : S1.get (S.next + 3) = Y
  g4 : S1.get (S.next + 4) = Z
theorem Five.mono {S S1 S2 : St} {A B X Y Z : Blk} (h : Five S S1 A B X Y Z) (hx : Ext S1 S2) : Five S S2 A B X Y Z := by
  have := h.n
  have := hx.next
  exact ⟨by omega, h.x.trans hx, by rw [hx.get _ (by omega)]; exact h.g0, by rw [hx.get _ (by omega)]; exact h.g1, by rw [hx.get _ (by omega)]; exact h.g2, by rw [hx.get _ (by omega)]; exact h.g3, by rw [hx.get _ (by omega)]; exact h.g4⟩
set_option maxHeartbeats 4000000 in
theorem law_any {c k a c' k' a' : Int} {o e o' e' : Value} (ho : o.oneCell' = true) (he : e.oneCell' = true) (ho' : o'.oneCell' = true) (he' : e'.oneCell' = true) {S : St} :
    XC Tryd.prog 3 #[verV c k a o e, verV c' k' a' o' e'] S fun r S' => Ext S S' ∧ r = .bool true := by
  refine XC_body XF3 ?_
  cases d1 : decide (c = c') <;> cases d2 : decide (k = k') <;> cases d3 : decide (a = a')
  all_goals
    simp (decide := true) only [↓symD, symU, ↓XW_cond, Nat.reduceEqDiff, List.zip_cons_cons, List.zip_nil_left, Option.bind_some, Option.map_some, Option.map_none, List.map_toArray, List.map_cons, List.map_nil, ne_eq, List.append_toArray, List.nil_append, List.cons_append, List.append_nil, St.get_alloc, next_alloc, ↓reduceIte, Nat.left_eq_add, Nat.add_eq_left, Nat.add_right_cancel_iff, Nat.add_left_cancel_iff, Blk.rd_cells, List.length_cons, List.length_nil, List.drop_zero, List.drop_succ_cons, List.take_succ_cons, List.take_zero, part1_agg, part1_one, Nat.zero_add, Nat.add_assoc, Nat.reduceAdd, Nat.reduceLeDiff, Nat.reduceLT, Nat.lt_add_right_iff_pos, Nat.add_lt_add_iff_left, reduceCtorEq, Nat.lt_add_one, St.get_write, St.next_write, List.not_mem_nil, if_false, fillL, splice, rep, List.replicate_succ, List.replicate_zero, List.flatten_cons, List.flatten_nil, List.append_nil, List.nil_append, List.cons_append, Value.cells, List.append_assoc, and_self, true_and, and_true, List.size_toArray, List.length_cons, List.length_nil, Nat.zero_add, ↓reduceIte, List.take_zero, List.drop_zero, List.drop_succ_cons, List.take_succ_cons, Nat.reduceAdd, Nat.reduceLeDiff, Nat.reduceEqDiff, allOne_int, allOne_nil, List.toList_toArray, boxc_agg, blkOf_ptr, stv_cells, Nat.add_zero, xf3, verV, boxc_ver ho he, boxc_ver ho' he', boxc_i, xbin_eql, d1, d2, d3]
    refine XCall_at fun SA hA => ?_
    have F : Five S SA (.cells [.int .i64 c, .int .i64 k, .int .i64 a, o, e] 27 5 true []) (.cells [.int .i64 c', .int .i64 k', .int .i64 a', o', e'] 27 5 true []) (.cells [.int .i64 c, .int .i64 k, .int .i64 a, .slice none 0 0, .slice none 0 0] 27 5 true []) (.cells [.int .i64 c', .int .i64 k', .int .i64 a', .slice none 0 0, .slice none 0 0] 27 5 true []) (.cells [.int .i64 c, .int .i64 k, .int .i64 a', .slice none 0 0, .slice none 0 0] 27 5 true []) := by
      subst hA
      refine ⟨?_, ?_, ?_, ?_, ?_, ?_, ?_⟩
      · simp only [St.get_alloc, next_alloc, ↓reduceIte, Nat.left_eq_add, Nat.add_eq_left, Nat.add_right_cancel_iff, Nat.add_left_cancel_iff, Blk.rd_cells, List.length_cons, List.length_nil, List.drop_zero, List.drop_succ_cons, List.take_succ_cons, List.take_zero, part1_agg, part1_one, Nat.zero_add, Nat.add_assoc, Nat.reduceAdd, Nat.reduceLeDiff, Nat.reduceLT, Nat.lt_add_right_iff_pos, Nat.add_lt_add_iff_left, reduceCtorEq, Nat.lt_add_one, St.get_write, St.next_write, List.not_mem_nil, if_false]; omega
      · refine Fr.ext ?_
        repeat' first
          | exact Fr.refl _ _
          | refine Fr.trans ?_ (Fr.alloc _ _ (by first | exact Nat.le_refl _ | (simp only [St.get_alloc, next_alloc, ↓reduceIte, Nat.left_eq_add, Nat.add_eq_left, Nat.add_right_cancel_iff, Nat.add_left_cancel_iff, Blk.rd_cells, List.length_cons, List.length_nil, List.drop_zero, List.drop_succ_cons, List.take_succ_cons, List.take_zero, part1_agg, part1_one, Nat.zero_add, Nat.add_assoc, Nat.reduceAdd, Nat.reduceLeDiff, Nat.reduceLT, Nat.lt_add_right_iff_pos, Nat.add_lt_add_iff_left, reduceCtorEq, Nat.lt_add_one, St.get_write, St.next_write, List.not_mem_nil, if_false]; omega)))
          | refine Fr.trans ?_ (Fr.write _ _ _ _ (by omega) (by simp))
      all_goals simp (decide := true) only [St.get_alloc, next_alloc, ↓reduceIte, Nat.left_eq_add, Nat.add_eq_left, Nat.add_right_cancel_iff, Nat.add_left_cancel_iff, Blk.rd_cells, List.length_cons, List.length_nil, List.drop_zero, List.drop_succ_cons, List.take_succ_cons, List.take_zero, part1_agg, part1_one, Nat.zero_add, Nat.add_assoc, Nat.reduceAdd, Nat.reduceLeDiff, Nat.reduceLT, Nat.lt_add_right_iff_pos, Nat.add_lt_add_iff_left, reduceCtorEq, Nat.lt_add_one, St.get_write, St.next_write, List.not_mem_nil, if_false]
    clear hA
    refine XCall.of (same_any ho he ho' he') ?_
    rintro _ S1 ⟨hx1, rfl⟩
    have F1 := F.mono hx1
    have g0 := F1.g0
    have g1 := F1.g1
    have g2 := F1.g2
    have g3 := F1.g3
    have g4 := F1.g4
    simp (decide := true) only [↓symD, symU, ↓XW_cond, Nat.reduceEqDiff, List.zip_cons_cons, List.zip_nil_left, Option.bind_some, Option.map_some, Option.map_none, List.map_toArray, List.map_cons, List.map_nil, ne_eq, List.append_toArray, List.nil_append, List.cons_append, List.append_nil, St.get_alloc, next_alloc, ↓reduceIte, Nat.left_eq_add, Nat.add_eq_left, Nat.add_right_cancel_iff, Nat.add_left_cancel_iff, Blk.rd_cells, List.length_cons, List.length_nil, List.drop_zero, List.drop_succ_cons, List.take_succ_cons, List.take_zero, part1_agg, part1_one, Nat.zero_add, Nat.add_assoc, Nat.reduceAdd, Nat.reduceLeDiff, Nat.reduceLT, Nat.lt_add_right_iff_pos, Nat.add_lt_add_iff_left, reduceCtorEq, Nat.lt_add_one, St.get_write, St.next_write, List.not_mem_nil, if_false, fillL, splice, rep, List.replicate_succ, List.replicate_zero, List.flatten_cons, List.flatten_nil, List.append_nil, List.nil_append, List.cons_append, Value.cells, List.append_assoc, and_self, true_and, and_true, List.size_toArray, List.length_cons, List.length_nil, Nat.zero_add, ↓reduceIte, List.take_zero, List.drop_zero, List.drop_succ_cons, List.take_succ_cons, Nat.reduceAdd, Nat.reduceLeDiff, Nat.reduceEqDiff, allOne_int, allOne_nil, List.toList_toArray, boxc_agg, blkOf_ptr, stv_cells, Nat.add_zero, boxc_i, xbin_eql, xbin_neq, eqbv_tff, eqbv_ttt, eqbv_fff, eqbv_ftt, dec_self, decide_true, decide_false, Bool.not_true, Bool.not_false, Bool.and_true, Bool.and_false, Bool.true_and, Bool.false_and, d1, d2, d3, g0, g1, g2, g3, g4]
    refine XCall.of (same_any one_nil one_nil one_nil one_nil) ?_
    rintro _ S2 ⟨hx2, rfl⟩
    have F2 := F1.mono hx2
    clear g0 g1 g2 g3 g4
    have g0 := F2.g0
    have g1 := F2.g1
    have g2 := F2.g2
    have g3 := F2.g3
    have g4 := F2.g4
    simp (decide := true) only [↓symD, symU, ↓XW_cond, Nat.reduceEqDiff, List.zip_cons_cons, List.zip_nil_left, Option.bind_some, Option.map_some, Option.map_none, List.map_toArray, List.map_cons, List.map_nil, ne_eq, List.append_toArray, List.nil_append, List.cons_append, List.append_nil, St.get_alloc, next_alloc, ↓reduceIte, Nat.left_eq_add, Nat.add_eq_left, Nat.add_right_cancel_iff, Nat.add_left_cancel_iff, Blk.rd_cells, List.length_cons, List.length_nil, List.drop_zero, List.drop_succ_cons, List.take_succ_cons, List.take_zero, part1_agg, part1_one, Nat.zero_add, Nat.add_assoc, Nat.reduceAdd, Nat.reduceLeDiff, Nat.reduceLT, Nat.lt_add_right_iff_pos, Nat.add_lt_add_iff_left, reduceCtorEq, Nat.lt_add_one, St.get_write, St.next_write, List.not_mem_nil, if_false, fillL, splice, rep, List.replicate_succ, List.replicate_zero, List.flatten_cons, List.flatten_nil, List.append_nil, List.nil_append, List.cons_append, Value.cells, List.append_assoc, and_self, true_and, and_true, List.size_toArray, List.length_cons, List.length_nil, Nat.zero_add, ↓reduceIte, List.take_zero, List.drop_zero, List.drop_succ_cons, List.take_succ_cons, Nat.reduceAdd, Nat.reduceLeDiff, Nat.reduceEqDiff, allOne_int, allOne_nil, List.toList_toArray, boxc_agg, blkOf_ptr, stv_cells, Nat.add_zero, boxc_i, xbin_eql, xbin_neq, eqbv_tff, eqbv_ttt, eqbv_fff, eqbv_ftt, dec_self, decide_true, decide_false, Bool.not_true, Bool.not_false, Bool.and_true, Bool.and_false, Bool.true_and, Bool.false_and, d1, d2, d3, g0, g1, g2, g3, g4]
    refine XCall.of (same_any ho he one_nil one_nil) ?_
    rintro _ S3 ⟨hx3, rfl⟩
    have F3 := F2.mono hx3
    clear g0 g1 g2 g3 g4
    have g0 := F3.g0
    have g1 := F3.g1
    have g2 := F3.g2
    have g3 := F3.g3
    have g4 := F3.g4
    simp (decide := true) only [↓symD, symU, ↓XW_cond, Nat.reduceEqDiff, List.zip_cons_cons, List.zip_nil_left, Option.bind_some, Option.map_some, Option.map_none, List.map_toArray, List.map_cons, List.map_nil, ne_eq, List.append_toArray, List.nil_append, List.cons_append, List.append_nil, St.get_alloc, next_alloc, ↓reduceIte, Nat.left_eq_add, Nat.add_eq_left, Nat.add_right_cancel_iff, Nat.add_left_cancel_iff, Blk.rd_cells, List.length_cons, List.length_nil, List.drop_zero, List.drop_succ_cons, List.take_succ_cons, List.take_zero, part1_agg, part1_one, Nat.zero_add, Nat.add_assoc, Nat.reduceAdd, Nat.reduceLeDiff, Nat.reduceLT, Nat.lt_add_right_iff_pos, Nat.add_lt_add_iff_left, reduceCtorEq, Nat.lt_add_one, St.get_write, St.next_write, List.not_mem_nil, if_false, fillL, splice, rep, List.replicate_succ, List.replicate_zero, List.flatten_cons, List.flatten_nil, List.append_nil, List.nil_append, List.cons_append, Value.cells, List.append_assoc, and_self, true_and, and_true, List.size_toArray, List.length_cons, List.length_nil, Nat.zero_add, ↓reduceIte, List.take_zero, List.drop_zero, List.drop_succ_cons, List.take_succ_cons, Nat.reduceAdd, Nat.reduceLeDiff, Nat.reduceEqDiff, allOne_int, allOne_nil, List.toList_toArray, boxc_agg, blkOf_ptr, stv_cells, Nat.add_zero, boxc_i, xbin_eql, xbin_neq, eqbv_tff, eqbv_ttt, eqbv_fff, eqbv_ftt, dec_self, decide_true, decide_false, Bool.not_true, Bool.not_false, Bool.and_true, Bool.and_false, Bool.true_and, Bool.false_and, d1, d2, d3, g0, g1, g2, g3, g4]
    refine XCall.of (same_any one_nil one_nil one_nil one_nil) ?_
    rintro _ S4 ⟨hx4, rfl⟩
    have F4 := F3.mono hx4
    clear g0 g1 g2 g3 g4
    have g0 := F4.g0
    have g1 := F4.g1
    have g2 := F4.g2
    have g3 := F4.g3
    have g4 := F4.g4
    refine keepP.intro hx4 ?_
    cases e1 : decide (k ≠ 0) <;> cases e2 : decide (k ≠ 14)
  all_goals
    simp (decide := true) only [↓symD, symU, ↓XW_cond, Nat.reduceEqDiff, List.zip_cons_cons, List.zip_nil_left, Option.bind_some, Option.map_some, Option.map_none, List.map_toArray, List.map_cons, List.map_nil, ne_eq, List.append_toArray, List.nil_append, List.cons_append, List.append_nil, St.get_alloc, next_alloc, ↓reduceIte, Nat.left_eq_add, Nat.add_eq_left, Nat.add_right_cancel_iff, Nat.add_left_cancel_iff, Blk.rd_cells, List.length_cons, List.length_nil, List.drop_zero, List.drop_succ_cons, List.take_succ_cons, List.take_zero, part1_agg, part1_one, Nat.zero_add, Nat.add_assoc, Nat.reduceAdd, Nat.reduceLeDiff, Nat.reduceLT, Nat.lt_add_right_iff_pos, Nat.add_lt_add_iff_left, reduceCtorEq, Nat.lt_add_one, St.get_write, St.next_write, List.not_mem_nil, if_false, fillL, splice, rep, List.replicate_succ, List.replicate_zero, List.flatten_cons, List.flatten_nil, List.append_nil, List.nil_append, List.cons_append, Value.cells, List.append_assoc, and_self, true_and, and_true, List.size_toArray, List.length_cons, List.length_nil, Nat.zero_add, ↓reduceIte, List.take_zero, List.drop_zero, List.drop_succ_cons, List.take_succ_cons, Nat.reduceAdd, Nat.reduceLeDiff, Nat.reduceEqDiff, allOne_int, allOne_nil, List.toList_toArray, boxc_agg, blkOf_ptr, stv_cells, Nat.add_zero, boxc_i, xbin_eql, xbin_neq, eqbv_tff, eqbv_ttt, eqbv_fff, eqbv_ftt, dec_self, decide_true, decide_false, Bool.not_true, Bool.not_false, Bool.and_true, Bool.and_false, Bool.true_and, Bool.false_and, d1, d2, d3, g0, g1, g2, g3, g4, e1, e2]
    refine XCall.of (violation_any ho he) ?_
    rintro _ S5 ⟨hx5, rfl⟩
    have F5 := F4.mono hx5
    clear g0 g1 g2 g3 g4
    have g0 := F5.g0
    have g1 := F5.g1
    have g2 := F5.g2
    have g3 := F5.g3
    have g4 := F5.g4
    simp (decide := true) only [↓symD, symU, ↓XW_cond, Nat.reduceEqDiff, List.zip_cons_cons, List.zip_nil_left, Option.bind_some, Option.map_some, Option.map_none, List.map_toArray, List.map_cons, List.map_nil, ne_eq, List.append_toArray, List.nil_append, List.cons_append, List.append_nil, St.get_alloc, next_alloc, ↓reduceIte, Nat.left_eq_add, Nat.add_eq_left, Nat.add_right_cancel_iff, Nat.add_left_cancel_iff, Blk.rd_cells, List.length_cons, List.length_nil, List.drop_zero, List.drop_succ_cons, List.take_succ_cons, List.take_zero, part1_agg, part1_one, Nat.zero_add, Nat.add_assoc, Nat.reduceAdd, Nat.reduceLeDiff, Nat.reduceLT, Nat.lt_add_right_iff_pos, Nat.add_lt_add_iff_left, reduceCtorEq, Nat.lt_add_one, St.get_write, St.next_write, List.not_mem_nil, if_false, fillL, splice, rep, List.replicate_succ, List.replicate_zero, List.flatten_cons, List.flatten_nil, List.append_nil, List.nil_append, List.cons_append, Value.cells, List.append_assoc, and_self, true_and, and_true, List.size_toArray, List.length_cons, List.length_nil, Nat.zero_add, ↓reduceIte, List.take_zero, List.drop_zero, List.drop_succ_cons, List.take_succ_cons, Nat.reduceAdd, Nat.reduceLeDiff, Nat.reduceEqDiff, allOne_int, allOne_nil, List.toList_toArray, boxc_agg, blkOf_ptr, stv_cells, Nat.add_zero, boxc_i, xbin_eql, xbin_neq, eqbv_tff, eqbv_ttt, eqbv_fff, eqbv_ftt, dec_self, decide_true, decide_false, Bool.not_true, Bool.not_false, Bool.and_true, Bool.and_false, Bool.true_and, Bool.false_and, d1, d2, d3, g0, g1, g2, g3, g4, e1, e2]
    refine XCall.of (violation_any one_nil one_nil) ?_
    rintro _ S6 ⟨hx6, rfl⟩
    have F6 := F5.mono hx6
    clear g0 g1 g2 g3 g4
    have g0 := F6.g0
    have g1 := F6.g1
    have g2 := F6.g2
    have g3 := F6.g3
    have g4 := F6.g4
    simp (decide := true) only [↓symD, symU, ↓XW_cond, Nat.reduceEqDiff, List.zip_cons_cons, List.zip_nil_left, Option.bind_some, Option.map_some, Option.map_none, List.map_toArray, List.map_cons, List.map_nil, ne_eq, List.append_toArray, List.nil_append, List.cons_append, List.append_nil, St.get_alloc, next_alloc, ↓reduceIte, Nat.left_eq_add, Nat.add_eq_left, Nat.add_right_cancel_iff, Nat.add_left_cancel_iff, Blk.rd_cells, List.length_cons, List.length_nil, List.drop_zero, List.drop_succ_cons, List.take_succ_cons, List.take_zero, part1_agg, part1_one, Nat.zero_add, Nat.add_assoc, Nat.reduceAdd, Nat.reduceLeDiff, Nat.reduceLT, Nat.lt_add_right_iff_pos, Nat.add_lt_add_iff_left, reduceCtorEq, Nat.lt_add_one, St.get_write, St.next_write, List.not_mem_nil, if_false, fillL, splice, rep, List.replicate_succ, List.replicate_zero, List.flatten_cons, List.flatten_nil, List.append_nil, List.nil_append, List.cons_append, Value.cells, List.append_assoc, and_self, true_and, and_true, List.size_toArray, List.length_cons, List.length_nil, Nat.zero_add, ↓reduceIte, List.take_zero, List.drop_zero, List.drop_succ_cons, List.take_succ_cons, Nat.reduceAdd, Nat.reduceLeDiff, Nat.reduceEqDiff, allOne_int, allOne_nil, List.toList_toArray, boxc_agg, blkOf_ptr, stv_cells, Nat.add_zero, boxc_i, xbin_eql, xbin_neq, eqbv_tff, eqbv_ttt, eqbv_fff, eqbv_ftt, dec_self, decide_true, decide_false, Bool.not_true, Bool.not_false, Bool.and_true, Bool.and_false, Bool.true_and, Bool.false_and, d1, d2, d3, g0, g1, g2, g3, g4, e1, e2]
    refine XCall.of lives_any ?_
    rintro _ _ ⟨rfl, rfl⟩
    simp (decide := true) only [↓symD, symU, ↓XW_cond, Nat.reduceEqDiff, List.zip_cons_cons, List.zip_nil_left, Option.bind_some, Option.map_some, Option.map_none, List.map_toArray, List.map_cons, List.map_nil, ne_eq, List.append_toArray, List.nil_append, List.cons_append, List.append_nil, St.get_alloc, next_alloc, ↓reduceIte, Nat.left_eq_add, Nat.add_eq_left, Nat.add_right_cancel_iff, Nat.add_left_cancel_iff, Blk.rd_cells, List.length_cons, List.length_nil, List.drop_zero, List.drop_succ_cons, List.take_succ_cons, List.take_zero, part1_agg, part1_one, Nat.zero_add, Nat.add_assoc, Nat.reduceAdd, Nat.reduceLeDiff, Nat.reduceLT, Nat.lt_add_right_iff_pos, Nat.add_lt_add_iff_left, reduceCtorEq, Nat.lt_add_one, St.get_write, St.next_write, List.not_mem_nil, if_false, fillL, splice, rep, List.replicate_succ, List.replicate_zero, List.flatten_cons, List.flatten_nil, List.append_nil, List.nil_append, List.cons_append, Value.cells, List.append_assoc, and_self, true_and, and_true, List.size_toArray, List.length_cons, List.length_nil, Nat.zero_add, ↓reduceIte, List.take_zero, List.drop_zero, List.drop_succ_cons, List.take_succ_cons, Nat.reduceAdd, Nat.reduceLeDiff, Nat.reduceEqDiff, allOne_int, allOne_nil, List.toList_toArray, boxc_agg, blkOf_ptr, stv_cells, Nat.add_zero, boxc_i, xbin_eql, xbin_neq, eqbv_tff, eqbv_ttt, eqbv_fff, eqbv_ftt, dec_self, decide_true, decide_false, Bool.not_true, Bool.not_false, Bool.and_true, Bool.and_false, Bool.true_and, Bool.false_and, d1, d2, d3, g0, g1, g2, g3, g4, e1, e2]
    exact F6.x
end Go.Proofs.YtofjnhdgkhfgnaaDoor

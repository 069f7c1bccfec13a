/- Names and envelopes. -/
import Derived.Test.YtedhbklmebebgaaMz
import Derived.Test.YtedhbklmebebgaaP
namespace Go.Proofs.Ytedhbklmebebgaa
open Go Go.RowKit

structure Msg where
  node : Int
  handler : Int
  count : Int
  index : Int
  copy : Int
  deriving DecidableEq
structure Evl where
  msg : Msg
  to_ : Int
  kind : Int
  a : Int
  b : Int
  deriving DecidableEq

theorem Msg.eq_iff (m m' : Msg) : m = m' ↔ m.node = m'.node ∧ m.handler = m'.handler ∧ m.count = m'.count ∧ m.index = m'.index ∧ m.copy = m'.copy := by
  obtain ⟨a, b, c, d, e⟩ := m
  obtain ⟨a', b', c', d', e'⟩ := m'
  simp only [Msg.mk.injEq]
theorem Evl.eq_iff (x y : Evl) : x = y ↔ x.msg = y.msg ∧ x.to_ = y.to_ ∧ x.kind = y.kind ∧ x.a = y.a ∧ x.b = y.b := by
  obtain ⟨a, b, c, d, e⟩ := x
  obtain ⟨a', b', c', d', e'⟩ := y
  simp only [Evl.mk.injEq]

def Msg.cs (m : Msg) : List Value := [.int .i64 m.node, .int .i64 m.handler, .int .i64 m.count, .int .i64 m.index, .int .i64 m.copy]
def Evl.cs (e : Evl) : List Value := [.int .i64 e.msg.node, .int .i64 e.msg.handler, .int .i64 e.msg.count, .int .i64 e.msg.index, .int .i64 e.msg.copy, .int .i64 e.to_, .int .i64 e.kind, .int .i64 e.a, .int .i64 e.b]
instance : Enc Msg := ⟨5, Msg.cs, fun _ => rfl, fun _ => rfl, by decide⟩
instance : Enc Evl := ⟨9, Evl.cs, fun _ => rfl, fun _ => rfl, by decide⟩
abbrev Msg.v (m : Msg) : Value := .agg m.cs.toArray
abbrev Evl.v (e : Evl) : Value := .agg e.cs.toArray

theorem eqfv_msg (neg : Bool) (m m' : Msg) : eqfv [1, 1, 1, 1, 1] neg m.v m'.v = some (.bool (notIf neg (decide (m = m')))) := by
  have e : decide (m = m') = (m.node == m'.node && (m.handler == m'.handler && (m.count == m'.count && (m.index == m'.index && m.copy == m'.copy)))) := by
    rw [Bool.eq_iff_iff]
    simp [Msg.eq_iff]
  rw [e]
  simp [eqfv, Msg.cs, eqL, eq1]
theorem eqfv_evl (neg : Bool) (x y : Evl) : eqfv [1, 1, 1, 1, 1, 1, 1, 1, 1] neg x.v y.v = some (.bool (notIf neg (decide (x = y)))) := by
  have e : decide (x = y) = (x.msg.node == y.msg.node && (x.msg.handler == y.msg.handler && (x.msg.count == y.msg.count && (x.msg.index == y.msg.index && (x.msg.copy == y.msg.copy && (x.to_ == y.to_ && (x.kind == y.kind && (x.a == y.a && x.b == y.b)))))))) := by
    rw [Bool.eq_iff_iff]
    simp [Evl.eq_iff, Msg.eq_iff, and_assoc]
  rw [e]
  simp [eqfv, Evl.cs, eqL, eq1]

set_option linter.unusedSimpArgs false
set_option linter.unusedSectionVars false
variable [Prim Try.prog]


theorem RdS.evl {S : St} {v : Value} {l : List Evl} (h : RdS S v l) (i : Nat) (hi : i < l.length) : ∃ id o, iav 9 v (.int .i64 i) = some (.pointer (some ⟨id, o, none⟩)) ∧ id < S.next ∧ (S.get id).rd o 9 = some l[i].cs := h.get .i64 i hi
theorem RdS.msg {S : St} {v : Value} {l : List Msg} (h : RdS S v l) (i : Nat) (hi : i < l.length) : ∃ id o, iav 5 v (.int .i64 i) = some (.pointer (some ⟨id, o, none⟩)) ∧ id < S.next ∧ (S.get id).rd o 5 = some l[i].cs := h.get .i64 i hi
theorem part1_agg (l : List Value) : part1 true l = some (.agg l.toArray) := Eq.trans rfl rfl
theorem part1_one (v : Value) : part1 false [v] = some v := Eq.trans rfl rfl

set_option maxRecDepth 10000 in
theorem same_any {v u : Value} {x y : List Evl} {S : St} (hv : RdS S v x) (hu : RdS S u y) (hx : x.length ≤ 1000) :
    XC Try.prog 13 #[v, u] S fun r S' => Ext S S' ∧ r = .bool (decide (x = y)) := by
  refine XC_body XF13 ?_
  simp (decide := true) only [↓XW_skip, ↓XW_exit, ↓XW_ret, ↓XW_region, ↓XW_draw, ↓XW_seq, ↓XW_block, ↓XW_cond, ↓XW_stuck, ↓bindN_normal, ↓bindN_exit, ↓bindN_ret, ↓bindB_normal, ↓bindB_ret, ↓bindB_self, ↓bindB_ne, ↓bindL_normal, ↓bindL_exit, ↓bindL_ret, ↓atEnd_normal, ↓atEnd_ret, ↓XO_nil, ↓XO_cons, ↓XO_cons_drop, ↓XO_guard, ↓XO_guard_drop, List.zip_cons_cons, List.zip_nil_left, ↓XM_nil, ↓XM_cons, ↓XM_cons_drop, ↓XM_guard, ↓XM_guard_drop, ↓keepP_false, ↓earlyP_false, ↓XS_mv, ↓XS_call, ↓XS_callv, ↓XS_load, ↓XS_fa, ↓XS_fld, ↓XS_ia, ↓XS_iaArr, ↓XS_bin, ↓XS_len, ↓XS_ext, ↓XS_eqf, ↓XS_eqb, ↓XS_eqp, ↓XS_eqs, ↓XS_un, ↓XS_cvi, ↓XS_nilck, ↓XS_pick, ↓XS_mkFunc, ↓XS_mkIface, ↓XS_build, ↓XS_box, ↓XS_zero, ↓XS_store, ↓XS_buildSlice, ↓XS_append, ↓XS_copy, ↓XS_clr, ↓XS_sl, ↓fev_tmp, ↓fev_const, ↓fev_func, ↓upd_same, ↓upd_ne, ↓fe0_zero, ↓fe0_succ, Now_any, Got_some, Test_true, Test_false, Pick_tt, Pick_ft, Pick_tf, Pick_ff, xrs_one, xrs_two, xrs_three, xrs_nil, xr1_tmp, xr1_cell, Option.bind_some, Option.map_some, Option.map_none, List.map_toArray, List.map_cons, List.map_nil, ↓ldv_ptr, ↓ptrAdd_ptr, ↓early_load, ↓early_sl, ↓Low_ptr, ↓LowS_slice, ↓LowS_nil, Need_true, ne_eq, Nat.reduceEqDiff, not_false_eq_true, XCallv_func, List.append_toArray, List.nil_append, List.cons_append, List.append_nil, Nat.add_zero, ↓atExit_self, ↓atExit_ne, ↓atExit_ret, pick_t, pick_f, eqsv_nil, eqsv_some, unv_not, ext_zero, ext_one, ext_two, nilck_ptr, next_alloc, St.next_write, xf13, hv.len, hu.len, xbin_neq]
  refine Test_dec (fun h => ?_) (fun h => ?_)
  · simp (decide := true) only [↓XW_skip, ↓XW_exit, ↓XW_ret, ↓XW_region, ↓XW_draw, ↓XW_seq, ↓XW_block, ↓XW_cond, ↓XW_stuck, ↓bindN_normal, ↓bindN_exit, ↓bindN_ret, ↓bindB_normal, ↓bindB_ret, ↓bindB_self, ↓bindB_ne, ↓bindL_normal, ↓bindL_exit, ↓bindL_ret, ↓atEnd_normal, ↓atEnd_ret, ↓XO_nil, ↓XO_cons, ↓XO_cons_drop, ↓XO_guard, ↓XO_guard_drop, List.zip_cons_cons, List.zip_nil_left, ↓XM_nil, ↓XM_cons, ↓XM_cons_drop, ↓XM_guard, ↓XM_guard_drop, ↓keepP_false, ↓earlyP_false, ↓XS_mv, ↓XS_call, ↓XS_callv, ↓XS_load, ↓XS_fa, ↓XS_fld, ↓XS_ia, ↓XS_iaArr, ↓XS_bin, ↓XS_len, ↓XS_ext, ↓XS_eqf, ↓XS_eqb, ↓XS_eqp, ↓XS_eqs, ↓XS_un, ↓XS_cvi, ↓XS_nilck, ↓XS_pick, ↓XS_mkFunc, ↓XS_mkIface, ↓XS_build, ↓XS_box, ↓XS_zero, ↓XS_store, ↓XS_buildSlice, ↓XS_append, ↓XS_copy, ↓XS_clr, ↓XS_sl, ↓fev_tmp, ↓fev_const, ↓fev_func, ↓upd_same, ↓upd_ne, ↓fe0_zero, ↓fe0_succ, Now_any, Got_some, Test_true, Test_false, Pick_tt, Pick_ft, Pick_tf, Pick_ff, xrs_one, xrs_two, xrs_three, xrs_nil, xr1_tmp, xr1_cell, Option.bind_some, Option.map_some, Option.map_none, List.map_toArray, List.map_cons, List.map_nil, ↓ldv_ptr, ↓ptrAdd_ptr, ↓early_load, ↓early_sl, ↓Low_ptr, ↓LowS_slice, ↓LowS_nil, Need_true, ne_eq, Nat.reduceEqDiff, not_false_eq_true, XCallv_func, List.append_toArray, List.nil_append, List.cons_append, List.append_nil, Nat.add_zero, ↓atExit_self, ↓atExit_ne, ↓atExit_ret, pick_t, pick_f, eqsv_nil, eqsv_some, unv_not, ext_zero, ext_one, ext_two, nilck_ptr, next_alloc, St.next_write]
    exact ⟨Ext.refl _, by rw [decide_eq_false]; intro e; subst e; exact h rfl⟩
  have hl : x.length = y.length := by omega
  simp (decide := true) only [↓XW_skip, ↓XW_exit, ↓XW_ret, ↓XW_region, ↓XW_draw, ↓XW_seq, ↓XW_block, ↓XW_cond, ↓XW_stuck, ↓bindN_normal, ↓bindN_exit, ↓bindN_ret, ↓bindB_normal, ↓bindB_ret, ↓bindB_self, ↓bindB_ne, ↓bindL_normal, ↓bindL_exit, ↓bindL_ret, ↓atEnd_normal, ↓atEnd_ret, ↓XO_nil, ↓XO_cons, ↓XO_cons_drop, ↓XO_guard, ↓XO_guard_drop, List.zip_cons_cons, List.zip_nil_left, ↓XM_nil, ↓XM_cons, ↓XM_cons_drop, ↓XM_guard, ↓XM_guard_drop, ↓keepP_false, ↓earlyP_false, ↓XS_mv, ↓XS_call, ↓XS_callv, ↓XS_load, ↓XS_fa, ↓XS_fld, ↓XS_ia, ↓XS_iaArr, ↓XS_bin, ↓XS_len, ↓XS_ext, ↓XS_eqf, ↓XS_eqb, ↓XS_eqp, ↓XS_eqs, ↓XS_un, ↓XS_cvi, ↓XS_nilck, ↓XS_pick, ↓XS_mkFunc, ↓XS_mkIface, ↓XS_build, ↓XS_box, ↓XS_zero, ↓XS_store, ↓XS_buildSlice, ↓XS_append, ↓XS_copy, ↓XS_clr, ↓XS_sl, ↓fev_tmp, ↓fev_const, ↓fev_func, ↓upd_same, ↓upd_ne, ↓fe0_zero, ↓fe0_succ, Now_any, Got_some, Test_true, Test_false, Pick_tt, Pick_ft, Pick_tf, Pick_ff, xrs_one, xrs_two, xrs_three, xrs_nil, xr1_tmp, xr1_cell, Option.bind_some, Option.map_some, Option.map_none, List.map_toArray, List.map_cons, List.map_nil, ↓ldv_ptr, ↓ptrAdd_ptr, ↓early_load, ↓early_sl, ↓Low_ptr, ↓LowS_slice, ↓LowS_nil, Need_true, ne_eq, Nat.reduceEqDiff, not_false_eq_true, XCallv_func, List.append_toArray, List.nil_append, List.cons_append, List.append_nil, Nat.add_zero, ↓atExit_self, ↓atExit_ne, ↓atExit_ret, pick_t, pick_f, eqsv_nil, eqsv_some, unv_not, ext_zero, ext_one, ext_two, nilck_ptr, next_alloc, St.next_write]
  refine XW_loop (fun k fe S' => S' = S ∧ fe 0 = v ∧ fe 1 = u ∧ ∃ i : Nat, fe 5 = .int .i64 i ∧ i + k = x.length ∧ x.take i = y.take i) x.length ?_ ?_
  · simp (decide := true) only [↓XW_skip, ↓XW_exit, ↓XW_ret, ↓XW_region, ↓XW_draw, ↓XW_seq, ↓XW_block, ↓XW_cond, ↓XW_stuck, ↓bindN_normal, ↓bindN_exit, ↓bindN_ret, ↓bindB_normal, ↓bindB_ret, ↓bindB_self, ↓bindB_ne, ↓bindL_normal, ↓bindL_exit, ↓bindL_ret, ↓atEnd_normal, ↓atEnd_ret, ↓XO_nil, ↓XO_cons, ↓XO_cons_drop, ↓XO_guard, ↓XO_guard_drop, List.zip_cons_cons, List.zip_nil_left, ↓XM_nil, ↓XM_cons, ↓XM_cons_drop, ↓XM_guard, ↓XM_guard_drop, ↓keepP_false, ↓earlyP_false, ↓XS_mv, ↓XS_call, ↓XS_callv, ↓XS_load, ↓XS_fa, ↓XS_fld, ↓XS_ia, ↓XS_iaArr, ↓XS_bin, ↓XS_len, ↓XS_ext, ↓XS_eqf, ↓XS_eqb, ↓XS_eqp, ↓XS_eqs, ↓XS_un, ↓XS_cvi, ↓XS_nilck, ↓XS_pick, ↓XS_mkFunc, ↓XS_mkIface, ↓XS_build, ↓XS_box, ↓XS_zero, ↓XS_store, ↓XS_buildSlice, ↓XS_append, ↓XS_copy, ↓XS_clr, ↓XS_sl, ↓fev_tmp, ↓fev_const, ↓fev_func, ↓upd_same, ↓upd_ne, ↓fe0_zero, ↓fe0_succ, Now_any, Got_some, Test_true, Test_false, Pick_tt, Pick_ft, Pick_tf, Pick_ff, xrs_one, xrs_two, xrs_three, xrs_nil, xr1_tmp, xr1_cell, Option.bind_some, Option.map_some, Option.map_none, List.map_toArray, List.map_cons, List.map_nil, ↓ldv_ptr, ↓ptrAdd_ptr, ↓early_load, ↓early_sl, ↓Low_ptr, ↓LowS_slice, ↓LowS_nil, Need_true, ne_eq, Nat.reduceEqDiff, not_false_eq_true, XCallv_func, List.append_toArray, List.nil_append, List.cons_append, List.append_nil, Nat.add_zero, ↓atExit_self, ↓atExit_ne, ↓atExit_ret, pick_t, pick_f, eqsv_nil, eqsv_some, unv_not, ext_zero, ext_one, ext_two, nilck_ptr, next_alloc, St.next_write, true_and]
    exact ⟨0, rfl, by omega, rfl⟩
  rintro k fe _ ⟨rfl, h0, h1, i, h5, hk, heq⟩
  simp (decide := true) only [↓XW_skip, ↓XW_exit, ↓XW_ret, ↓XW_region, ↓XW_draw, ↓XW_seq, ↓XW_block, ↓XW_cond, ↓XW_stuck, ↓bindN_normal, ↓bindN_exit, ↓bindN_ret, ↓bindB_normal, ↓bindB_ret, ↓bindB_self, ↓bindB_ne, ↓bindL_normal, ↓bindL_exit, ↓bindL_ret, ↓atEnd_normal, ↓atEnd_ret, ↓XO_nil, ↓XO_cons, ↓XO_cons_drop, ↓XO_guard, ↓XO_guard_drop, List.zip_cons_cons, List.zip_nil_left, ↓XM_nil, ↓XM_cons, ↓XM_cons_drop, ↓XM_guard, ↓XM_guard_drop, ↓keepP_false, ↓earlyP_false, ↓XS_mv, ↓XS_call, ↓XS_callv, ↓XS_load, ↓XS_fa, ↓XS_fld, ↓XS_ia, ↓XS_iaArr, ↓XS_bin, ↓XS_len, ↓XS_ext, ↓XS_eqf, ↓XS_eqb, ↓XS_eqp, ↓XS_eqs, ↓XS_un, ↓XS_cvi, ↓XS_nilck, ↓XS_pick, ↓XS_mkFunc, ↓XS_mkIface, ↓XS_build, ↓XS_box, ↓XS_zero, ↓XS_store, ↓XS_buildSlice, ↓XS_append, ↓XS_copy, ↓XS_clr, ↓XS_sl, ↓fev_tmp, ↓fev_const, ↓fev_func, ↓upd_same, ↓upd_ne, ↓fe0_zero, ↓fe0_succ, Now_any, Got_some, Test_true, Test_false, Pick_tt, Pick_ft, Pick_tf, Pick_ff, xrs_one, xrs_two, xrs_three, xrs_nil, xr1_tmp, xr1_cell, Option.bind_some, Option.map_some, Option.map_none, List.map_toArray, List.map_cons, List.map_nil, ↓ldv_ptr, ↓ptrAdd_ptr, ↓early_load, ↓early_sl, ↓Low_ptr, ↓LowS_slice, ↓LowS_nil, Need_true, ne_eq, Nat.reduceEqDiff, not_false_eq_true, XCallv_func, List.append_toArray, List.nil_append, List.cons_append, List.append_nil, Nat.add_zero, ↓atExit_self, ↓atExit_ne, ↓atExit_ret, pick_t, pick_f, eqsv_nil, eqsv_some, unv_not, ext_zero, ext_one, ext_two, nilck_ptr, next_alloc, St.next_write, h0, h1, h5, hv.len, hu.len, xbin_lss]
  refine Test_dec (fun hlt => ?_) (fun hge => ?_)
  · have hi : i < x.length := by omega
    obtain ⟨id, o, e1, e2, e3⟩ := hv.evl i hi
    obtain ⟨id', o', e1', e2', e3'⟩ := hu.evl i (by omega)
    simp (decide := true) only [↓XW_skip, ↓XW_exit, ↓XW_ret, ↓XW_region, ↓XW_draw, ↓XW_seq, ↓XW_block, ↓XW_cond, ↓XW_stuck, ↓bindN_normal, ↓bindN_exit, ↓bindN_ret, ↓bindB_normal, ↓bindB_ret, ↓bindB_self, ↓bindB_ne, ↓bindL_normal, ↓bindL_exit, ↓bindL_ret, ↓atEnd_normal, ↓atEnd_ret, ↓XO_nil, ↓XO_cons, ↓XO_cons_drop, ↓XO_guard, ↓XO_guard_drop, List.zip_cons_cons, List.zip_nil_left, ↓XM_nil, ↓XM_cons, ↓XM_cons_drop, ↓XM_guard, ↓XM_guard_drop, ↓keepP_false, ↓earlyP_false, ↓XS_mv, ↓XS_call, ↓XS_callv, ↓XS_load, ↓XS_fa, ↓XS_fld, ↓XS_ia, ↓XS_iaArr, ↓XS_bin, ↓XS_len, ↓XS_ext, ↓XS_eqf, ↓XS_eqb, ↓XS_eqp, ↓XS_eqs, ↓XS_un, ↓XS_cvi, ↓XS_nilck, ↓XS_pick, ↓XS_mkFunc, ↓XS_mkIface, ↓XS_build, ↓XS_box, ↓XS_zero, ↓XS_store, ↓XS_buildSlice, ↓XS_append, ↓XS_copy, ↓XS_clr, ↓XS_sl, ↓fev_tmp, ↓fev_const, ↓fev_func, ↓upd_same, ↓upd_ne, ↓fe0_zero, ↓fe0_succ, Now_any, Got_some, Test_true, Test_false, Pick_tt, Pick_ft, Pick_tf, Pick_ff, xrs_one, xrs_two, xrs_three, xrs_nil, xr1_tmp, xr1_cell, Option.bind_some, Option.map_some, Option.map_none, List.map_toArray, List.map_cons, List.map_nil, ↓ldv_ptr, ↓ptrAdd_ptr, ↓early_load, ↓early_sl, ↓Low_ptr, ↓LowS_slice, ↓LowS_nil, Need_true, ne_eq, Nat.reduceEqDiff, not_false_eq_true, XCallv_func, List.append_toArray, List.nil_append, List.cons_append, List.append_nil, Nat.add_zero, ↓atExit_self, ↓atExit_ne, ↓atExit_ret, pick_t, pick_f, eqsv_nil, eqsv_some, unv_not, ext_zero, ext_one, ext_two, nilck_ptr, next_alloc, St.next_write, h0, h1, h5, e1, e3, e1', e3', part1_agg, eqfv_evl, notIf, if_true]
    refine Test_bool (fun hne => ?_) (fun hne => ?_)
    · simp (decide := true) only [↓XW_skip, ↓XW_exit, ↓XW_ret, ↓XW_region, ↓XW_draw, ↓XW_seq, ↓XW_block, ↓XW_cond, ↓XW_stuck, ↓bindN_normal, ↓bindN_exit, ↓bindN_ret, ↓bindB_normal, ↓bindB_ret, ↓bindB_self, ↓bindB_ne, ↓bindL_normal, ↓bindL_exit, ↓bindL_ret, ↓atEnd_normal, ↓atEnd_ret, ↓XO_nil, ↓XO_cons, ↓XO_cons_drop, ↓XO_guard, ↓XO_guard_drop, List.zip_cons_cons, List.zip_nil_left, ↓XM_nil, ↓XM_cons, ↓XM_cons_drop, ↓XM_guard, ↓XM_guard_drop, ↓keepP_false, ↓earlyP_false, ↓XS_mv, ↓XS_call, ↓XS_callv, ↓XS_load, ↓XS_fa, ↓XS_fld, ↓XS_ia, ↓XS_iaArr, ↓XS_bin, ↓XS_len, ↓XS_ext, ↓XS_eqf, ↓XS_eqb, ↓XS_eqp, ↓XS_eqs, ↓XS_un, ↓XS_cvi, ↓XS_nilck, ↓XS_pick, ↓XS_mkFunc, ↓XS_mkIface, ↓XS_build, ↓XS_box, ↓XS_zero, ↓XS_store, ↓XS_buildSlice, ↓XS_append, ↓XS_copy, ↓XS_clr, ↓XS_sl, ↓fev_tmp, ↓fev_const, ↓fev_func, ↓upd_same, ↓upd_ne, ↓fe0_zero, ↓fe0_succ, Now_any, Got_some, Test_true, Test_false, Pick_tt, Pick_ft, Pick_tf, Pick_ff, xrs_one, xrs_two, xrs_three, xrs_nil, xr1_tmp, xr1_cell, Option.bind_some, Option.map_some, Option.map_none, List.map_toArray, List.map_cons, List.map_nil, ↓ldv_ptr, ↓ptrAdd_ptr, ↓early_load, ↓early_sl, ↓Low_ptr, ↓LowS_slice, ↓LowS_nil, Need_true, ne_eq, Nat.reduceEqDiff, not_false_eq_true, XCallv_func, List.append_toArray, List.nil_append, List.cons_append, List.append_nil, Nat.add_zero, ↓atExit_self, ↓atExit_ne, ↓atExit_ret, pick_t, pick_f, eqsv_nil, eqsv_some, unv_not, ext_zero, ext_one, ext_two, nilck_ptr, next_alloc, St.next_write]
      refine ⟨Ext.refl _, ?_⟩
      rw [decide_eq_false]
      intro e
      subst e
      simp at hne
    · simp (decide := true) only [↓XW_skip, ↓XW_exit, ↓XW_ret, ↓XW_region, ↓XW_draw, ↓XW_seq, ↓XW_block, ↓XW_cond, ↓XW_stuck, ↓bindN_normal, ↓bindN_exit, ↓bindN_ret, ↓bindB_normal, ↓bindB_ret, ↓bindB_self, ↓bindB_ne, ↓bindL_normal, ↓bindL_exit, ↓bindL_ret, ↓atEnd_normal, ↓atEnd_ret, ↓XO_nil, ↓XO_cons, ↓XO_cons_drop, ↓XO_guard, ↓XO_guard_drop, List.zip_cons_cons, List.zip_nil_left, ↓XM_nil, ↓XM_cons, ↓XM_cons_drop, ↓XM_guard, ↓XM_guard_drop, ↓keepP_false, ↓earlyP_false, ↓XS_mv, ↓XS_call, ↓XS_callv, ↓XS_load, ↓XS_fa, ↓XS_fld, ↓XS_ia, ↓XS_iaArr, ↓XS_bin, ↓XS_len, ↓XS_ext, ↓XS_eqf, ↓XS_eqb, ↓XS_eqp, ↓XS_eqs, ↓XS_un, ↓XS_cvi, ↓XS_nilck, ↓XS_pick, ↓XS_mkFunc, ↓XS_mkIface, ↓XS_build, ↓XS_box, ↓XS_zero, ↓XS_store, ↓XS_buildSlice, ↓XS_append, ↓XS_copy, ↓XS_clr, ↓XS_sl, ↓fev_tmp, ↓fev_const, ↓fev_func, ↓upd_same, ↓upd_ne, ↓fe0_zero, ↓fe0_succ, Now_any, Got_some, Test_true, Test_false, Pick_tt, Pick_ft, Pick_tf, Pick_ff, xrs_one, xrs_two, xrs_three, xrs_nil, xr1_tmp, xr1_cell, Option.bind_some, Option.map_some, Option.map_none, List.map_toArray, List.map_cons, List.map_nil, ↓ldv_ptr, ↓ptrAdd_ptr, ↓early_load, ↓early_sl, ↓Low_ptr, ↓LowS_slice, ↓LowS_nil, Need_true, ne_eq, Nat.reduceEqDiff, not_false_eq_true, XCallv_func, List.append_toArray, List.nil_append, List.cons_append, List.append_nil, Nat.add_zero, ↓atExit_self, ↓atExit_ne, ↓atExit_ret, pick_t, pick_f, eqsv_nil, eqsv_some, unv_not, ext_zero, ext_one, ext_two, nilck_ptr, next_alloc, St.next_write, h5, xbin_add, w64_ok (n := (i : Int) + 1) (by omega) (by omega), h0, h1, true_and]
      refine ⟨k - 1, by omega, i + 1, by simp, by omega, ?_⟩
      rw [← List.take_append_getElem hi, ← List.take_append_getElem (show i < y.length by omega), heq]
      simp at hne
      rw [hne]
  · simp (decide := true) only [↓XW_skip, ↓XW_exit, ↓XW_ret, ↓XW_region, ↓XW_draw, ↓XW_seq, ↓XW_block, ↓XW_cond, ↓XW_stuck, ↓bindN_normal, ↓bindN_exit, ↓bindN_ret, ↓bindB_normal, ↓bindB_ret, ↓bindB_self, ↓bindB_ne, ↓bindL_normal, ↓bindL_exit, ↓bindL_ret, ↓atEnd_normal, ↓atEnd_ret, ↓XO_nil, ↓XO_cons, ↓XO_cons_drop, ↓XO_guard, ↓XO_guard_drop, List.zip_cons_cons, List.zip_nil_left, ↓XM_nil, ↓XM_cons, ↓XM_cons_drop, ↓XM_guard, ↓XM_guard_drop, ↓keepP_false, ↓earlyP_false, ↓XS_mv, ↓XS_call, ↓XS_callv, ↓XS_load, ↓XS_fa, ↓XS_fld, ↓XS_ia, ↓XS_iaArr, ↓XS_bin, ↓XS_len, ↓XS_ext, ↓XS_eqf, ↓XS_eqb, ↓XS_eqp, ↓XS_eqs, ↓XS_un, ↓XS_cvi, ↓XS_nilck, ↓XS_pick, ↓XS_mkFunc, ↓XS_mkIface, ↓XS_build, ↓XS_box, ↓XS_zero, ↓XS_store, ↓XS_buildSlice, ↓XS_append, ↓XS_copy, ↓XS_clr, ↓XS_sl, ↓fev_tmp, ↓fev_const, ↓fev_func, ↓upd_same, ↓upd_ne, ↓fe0_zero, ↓fe0_succ, Now_any, Got_some, Test_true, Test_false, Pick_tt, Pick_ft, Pick_tf, Pick_ff, xrs_one, xrs_two, xrs_three, xrs_nil, xr1_tmp, xr1_cell, Option.bind_some, Option.map_some, Option.map_none, List.map_toArray, List.map_cons, List.map_nil, ↓ldv_ptr, ↓ptrAdd_ptr, ↓early_load, ↓early_sl, ↓Low_ptr, ↓LowS_slice, ↓LowS_nil, Need_true, ne_eq, Nat.reduceEqDiff, not_false_eq_true, XCallv_func, List.append_toArray, List.nil_append, List.cons_append, List.append_nil, Nat.add_zero, ↓atExit_self, ↓atExit_ne, ↓atExit_ret, pick_t, pick_f, eqsv_nil, eqsv_some, unv_not, ext_zero, ext_one, ext_two, nilck_ptr, next_alloc, St.next_write]
    refine ⟨Ext.refl _, ?_⟩
    obtain rfl : i = x.length := by omega
    rw [List.take_length, hl, List.take_length] at heq
    simp [heq]
end Go.Proofs.Ytedhbklmebebgaa

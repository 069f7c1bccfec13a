/- Names are compared, and the law DependSymmetric. -/
import Derived.Test.YtolfpchcmiljpaaDv
set_option linter.unusedSimpArgs false
set_option linter.unusedSectionVars false
set_option maxRecDepth 10000
namespace Go.Proofs.Ytolfpchcmiljpaa
open Go Go.RowKit

def cmpI (a b : Int) : Int := if a < b then -1 else if b < a then 1 else 0

/-- the first pair of different numbers decides. -/
def numI : List Int → Int
  | a :: b :: r => if cmpI a b = 0 then numI r else cmpI a b
  | _ => 0

theorem numI_step {l : List Int} {k : Nat} (h : k + 1 < l.length) : numI (l.drop k) = if cmpI l[k] l[k + 1] = 0 then numI (l.drop (k + 2)) else cmpI l[k] l[k + 1] := by
  rw [List.drop_eq_getElem_cons (by omega : k < l.length), List.drop_eq_getElem_cons h, numI]
theorem numI_end {l : List Int} {k : Nat} (h : ¬ k + 1 < l.length) : numI (l.drop k) = 0 := by
  match hd : l.drop k with
  | [] => rfl
  | [_] => rfl
  | a :: b :: r =>
    have := congrArg List.length hd
    simp at this
    omega

/-- the first number that is not zero. -/
def orI : List Int → Int
  | [] => 0
  | a :: r => if a = 0 then orI r else a

def cmpM (m m' : Msg) : Int := orI [numI [m.node, m'.node, m.handler, m'.handler, m.count, m'.count], numI [m.index, m'.index, m.copy, m'.copy]]

theorem boxc_three (a b c : Int) : boxc (.agg [.int .i64 a, .int .i64 b, .int .i64 c].toArray) = some [.int .i64 a, .int .i64 b, .int .i64 c] := Eq.trans rfl rfl
theorem RdS.int {S : St} {v : Value} {l : List Int} (h : RdS S v l) (i : Nat) (hi : i < l.length) : ∃ id o, iav 1 v (.int .i64 i) = some (.pointer (some ⟨id, o, none⟩)) ∧ id < S.next ∧ (S.get id).rd o 1 = some [.int .i64 l[i]] := h.get .i64 i hi
/-- a slice that was just made. -/
theorem RdS.made (S : St) (l : List Int) (t : TypeId) (n : Nat) (hn : n = l.length) : RdS (S.alloc (.cells (l.map fun n => Value.int .i64 n) t 1 true [])) (.slice (some ⟨S.next, 0, none⟩) n n) l := by
  subst hn
  have e : encs l = l.map fun n => Value.int .i64 n := by
    induction l with
    | nil => rfl
    | cons a l ih => rw [encs_cons, ih]; rfl
  refine .inr ⟨S.next, 0, l.length, _, t, true, [], rfl, Nat.le_refl _, by simp, by rw [get_alloc_self]; rfl, ?_, ?_⟩
  · show 0 + l.length * 1 ≤ _
    simp
  · rw [e, List.drop_zero, List.take_of_length_le]
    show _ ≤ l.length * 1
    simp

section
variable [Prim Try.prog]
theorem depP_comm (a b : Step) : depP a b = depP b a := by
  unfold depP
  rw [show decide (a.ev.node = b.ev.node) = decide (b.ev.node = a.ev.node) from decide_eq_decide.2 ⟨Eq.symm, Eq.symm⟩, Bool.and_comm a.obs, Bool.or_assoc, Bool.or_assoc, Bool.or_assoc, Bool.or_assoc, Bool.or_comm (feedsP a b)]

theorem isNaN_any (a : Int) (S : St) : XC Try.prog 53 #[.int .i64 a] S fun r S' => S' = S ∧ r = .bool false := by
  refine XC_body XF53 ?_
  simp (decide := true) only [↓symD, symU, ↓XW_cond, Nat.reduceEqDiff, List.zip_cons_cons, List.zip_nil_left, Option.bind_some, Option.map_some, Option.map_none, List.map_toArray, List.map_cons, List.map_nil, ne_eq, List.append_toArray, List.nil_append, List.cons_append, List.append_nil, xf53, xbin_neq]
  simp

theorem compare_any (a b : Int) (S : St) : XC Try.prog 50 #[.int .i64 a, .int .i64 b] S fun r S' => S' = S ∧ r = .int .i64 (cmpI a b) := by
  refine XC_body XF50 ?_
  simp (decide := true) only [↓symD, symU, ↓XW_cond, Nat.reduceEqDiff, List.zip_cons_cons, List.zip_nil_left, Option.bind_some, Option.map_some, Option.map_none, List.map_toArray, List.map_cons, List.map_nil, ne_eq, List.append_toArray, List.nil_append, List.cons_append, List.append_nil, xf50]
  refine XCall.of (isNaN_any a S) ?_
  rintro _ _ ⟨rfl, rfl⟩
  simp (decide := true) only [↓symD, symU, ↓XW_cond, Nat.reduceEqDiff, List.zip_cons_cons, List.zip_nil_left, Option.bind_some, Option.map_some, Option.map_none, List.map_toArray, List.map_cons, List.map_nil, ne_eq, List.append_toArray, List.nil_append, List.cons_append, List.append_nil]
  refine XCall.of (isNaN_any b _) ?_
  rintro _ _ ⟨rfl, rfl⟩
  simp (decide := true) only [↓symD, symU, ↓XW_cond, Nat.reduceEqDiff, List.zip_cons_cons, List.zip_nil_left, Option.bind_some, Option.map_some, Option.map_none, List.map_toArray, List.map_cons, List.map_nil, ne_eq, List.append_toArray, List.nil_append, List.cons_append, List.append_nil, xbin_lss, xbin_gtr]
  unfold cmpI
  refine Test_dec (fun h => ?_) (fun h => ?_)
  · simp (decide := true) only [↓symD, symU, ↓XW_cond, Nat.reduceEqDiff, List.zip_cons_cons, List.zip_nil_left, Option.bind_some, Option.map_some, Option.map_none, List.map_toArray, List.map_cons, List.map_nil, ne_eq, List.append_toArray, List.nil_append, List.cons_append, List.append_nil, h, if_true, and_self]
  simp (decide := true) only [↓symD, symU, ↓XW_cond, Nat.reduceEqDiff, List.zip_cons_cons, List.zip_nil_left, Option.bind_some, Option.map_some, Option.map_none, List.map_toArray, List.map_cons, List.map_nil, ne_eq, List.append_toArray, List.nil_append, List.cons_append, List.append_nil, xbin_gtr]
  refine Test_dec (fun h' => ?_) (fun h' => ?_)
  · simp (decide := true) only [↓symD, symU, ↓XW_cond, Nat.reduceEqDiff, List.zip_cons_cons, List.zip_nil_left, Option.bind_some, Option.map_some, Option.map_none, List.map_toArray, List.map_cons, List.map_nil, ne_eq, List.append_toArray, List.nil_append, List.cons_append, List.append_nil, true_and]
    rw [if_neg h, if_pos h']
  · simp (decide := true) only [↓symD, symU, ↓XW_cond, Nat.reduceEqDiff, List.zip_cons_cons, List.zip_nil_left, Option.bind_some, Option.map_some, Option.map_none, List.map_toArray, List.map_cons, List.map_nil, ne_eq, List.append_toArray, List.nil_append, List.cons_append, List.append_nil, true_and]
    rw [if_neg h, if_neg h']

theorem numbers_any {v : Value} {l : List Int} {S : St} (hv : RdS S v l) (hl : l.length ≤ 1000) : XC Try.prog 40 #[v] S fun r S' => S' = S ∧ r = .int .i64 (numI l) := by
  refine XC_body XF40 ?_
  simp (decide := true) only [↓symD, symU, ↓XW_cond, Nat.reduceEqDiff, List.zip_cons_cons, List.zip_nil_left, Option.bind_some, Option.map_some, Option.map_none, List.map_toArray, List.map_cons, List.map_nil, ne_eq, List.append_toArray, List.nil_append, List.cons_append, List.append_nil, xf40]
  refine XW_loop (fun k fe S' => S' = S ∧ fe 0 = v ∧ ∃ i : Nat, fe 3 = .int .i64 i ∧ k + i = l.length + 2 ∧ i ≤ l.length + 2 ∧ numI (l.drop i) = numI l) (l.length + 2) ?_ ?_
  · simp (decide := true) only [↓symD, symU, ↓XW_cond, Nat.reduceEqDiff, List.zip_cons_cons, List.zip_nil_left, Option.bind_some, Option.map_some, Option.map_none, List.map_toArray, List.map_cons, List.map_nil, ne_eq, List.append_toArray, List.nil_append, List.cons_append, List.append_nil, true_and]
    exact ⟨0, rfl, by omega, by omega, rfl⟩
  rintro k fe _ ⟨rfl, h0, i, h3, hk, hi, heq⟩
  have w1 : w64 ((i : Int) + 1) = ((i + 1 : Nat) : Int) := by rw [w64_ok (by omega) (by omega)]; omega
  simp (decide := true) only [↓symD, symU, ↓XW_cond, Nat.reduceEqDiff, List.zip_cons_cons, List.zip_nil_left, Option.bind_some, Option.map_some, Option.map_none, List.map_toArray, List.map_cons, List.map_nil, ne_eq, List.append_toArray, List.nil_append, List.cons_append, List.append_nil, h0, h3, hv.len, xbin_lss, xbin_add, w1]
  refine Test_dec (fun hlt => ?_) (fun hge => ?_)
  · obtain ⟨id, o, e1, e2, e3⟩ := hv.int i (by omega)
    obtain ⟨id', o', e1', e2', e3'⟩ := hv.int (i + 1) (by omega)
    simp (decide := true) only [↓symD, symU, ↓XW_cond, Nat.reduceEqDiff, List.zip_cons_cons, List.zip_nil_left, Option.bind_some, Option.map_some, Option.map_none, List.map_toArray, List.map_cons, List.map_nil, ne_eq, List.append_toArray, List.nil_append, List.cons_append, List.append_nil, h0, h3, e1, e3, xbin_add, w1, e1', e3', part1_one]
    refine XCall.of (compare_any _ _ _) ?_
    rintro _ _ ⟨rfl, rfl⟩
    simp (decide := true) only [↓symD, symU, ↓XW_cond, Nat.reduceEqDiff, List.zip_cons_cons, List.zip_nil_left, Option.bind_some, Option.map_some, Option.map_none, List.map_toArray, List.map_cons, List.map_nil, ne_eq, List.append_toArray, List.nil_append, List.cons_append, List.append_nil, xbin_neq]
    rw [numI_step (by omega : i + 1 < l.length)] at heq
    refine Test_dec (fun hne => ?_) (fun hne => ?_)
    · simp (decide := true) only [↓symD, symU, ↓XW_cond, Nat.reduceEqDiff, List.zip_cons_cons, List.zip_nil_left, Option.bind_some, Option.map_some, Option.map_none, List.map_toArray, List.map_cons, List.map_nil, ne_eq, List.append_toArray, List.nil_append, List.cons_append, List.append_nil]
      rw [if_neg hne] at heq
      simp [heq]
    · have w2 : w64 ((i : Int) + 2) = ((i + 2 : Nat) : Int) := by rw [w64_ok (by omega) (by omega)]; omega
      simp (decide := true) only [↓symD, symU, ↓XW_cond, Nat.reduceEqDiff, List.zip_cons_cons, List.zip_nil_left, Option.bind_some, Option.map_some, Option.map_none, List.map_toArray, List.map_cons, List.map_nil, ne_eq, List.append_toArray, List.nil_append, List.cons_append, List.append_nil, h3, h0, xbin_add, w2, true_and]
      rw [if_pos (by simpa using hne)] at heq
      exact ⟨k - 2, by omega, i + 2, rfl, by omega, by omega, heq⟩
  · simp (decide := true) only [↓symD, symU, ↓XW_cond, Nat.reduceEqDiff, List.zip_cons_cons, List.zip_nil_left, Option.bind_some, Option.map_some, Option.map_none, List.map_toArray, List.map_cons, List.map_nil, ne_eq, List.append_toArray, List.nil_append, List.cons_append, List.append_nil, true_and]
    rw [← heq, numI_end (by omega)]

theorem or_any {v : Value} {l : List Int} {S : St} (hv : RdS S v l) (hl : l.length ≤ 1000) : XC Try.prog 38 #[v] S fun r S' => S' = S ∧ r = .int .i64 (orI l) := by
  refine XC_body XF38 ?_
  simp (decide := true) only [↓symD, symU, ↓XW_cond, Nat.reduceEqDiff, List.zip_cons_cons, List.zip_nil_left, Option.bind_some, Option.map_some, Option.map_none, List.map_toArray, List.map_cons, List.map_nil, ne_eq, List.append_toArray, List.nil_append, List.cons_append, List.append_nil, xf38, hv.len]
  refine XW_loop (fun k fe S' => S' = S ∧ fe 3 = .int .i64 0 ∧ fe 6 = v ∧ fe 7 = .int .i64 l.length ∧ ∃ i : Nat, fe 8 = .int .i64 i ∧ k + i = l.length ∧ orI (l.drop i) = orI l) l.length ?_ ?_
  · simp (decide := true) only [↓symD, symU, ↓XW_cond, Nat.reduceEqDiff, List.zip_cons_cons, List.zip_nil_left, Option.bind_some, Option.map_some, Option.map_none, List.map_toArray, List.map_cons, List.map_nil, ne_eq, List.append_toArray, List.nil_append, List.cons_append, List.append_nil, true_and]
    exact ⟨0, rfl, by omega, rfl⟩
  rintro k fe _ ⟨rfl, h3, h6, h7, i, h8, hk, heq⟩
  simp (decide := true) only [↓symD, symU, ↓XW_cond, Nat.reduceEqDiff, List.zip_cons_cons, List.zip_nil_left, Option.bind_some, Option.map_some, Option.map_none, List.map_toArray, List.map_cons, List.map_nil, ne_eq, List.append_toArray, List.nil_append, List.cons_append, List.append_nil, h7, h8, xbin_lss]
  refine Test_dec (fun hlt => ?_) (fun hge => ?_)
  · obtain ⟨id, o, e1, e2, e3⟩ := hv.int i (by omega)
    simp (decide := true) only [↓symD, symU, ↓XW_cond, Nat.reduceEqDiff, List.zip_cons_cons, List.zip_nil_left, Option.bind_some, Option.map_some, Option.map_none, List.map_toArray, List.map_cons, List.map_nil, ne_eq, List.append_toArray, List.nil_append, List.cons_append, List.append_nil, h3, h6, h8, e1, e3, xbin_neq, part1_one]
    rw [List.drop_eq_getElem_cons (by omega : i < l.length), orI] at heq
    refine Test_dec (fun hne => ?_) (fun hne => ?_)
    · simp (decide := true) only [↓symD, symU, ↓XW_cond, Nat.reduceEqDiff, List.zip_cons_cons, List.zip_nil_left, Option.bind_some, Option.map_some, Option.map_none, List.map_toArray, List.map_cons, List.map_nil, ne_eq, List.append_toArray, List.nil_append, List.cons_append, List.append_nil]
      rw [if_neg hne] at heq
      simp [heq]
    · have w1 : w64 ((i : Int) + 1) = ((i + 1 : Nat) : Int) := by rw [w64_ok (by omega) (by omega)]; omega
      simp (decide := true) only [↓symD, symU, ↓XW_cond, Nat.reduceEqDiff, List.zip_cons_cons, List.zip_nil_left, Option.bind_some, Option.map_some, Option.map_none, List.map_toArray, List.map_cons, List.map_nil, ne_eq, List.append_toArray, List.nil_append, List.cons_append, List.append_nil, h8, h3, h6, h7, xbin_add, w1, true_and]
      rw [if_pos (by simpa using hne)] at heq
      exact ⟨k - 1, by omega, i + 1, rfl, by omega, heq⟩
  · simp (decide := true) only [↓symD, symU, ↓XW_cond, Nat.reduceEqDiff, List.zip_cons_cons, List.zip_nil_left, Option.bind_some, Option.map_some, Option.map_none, List.map_toArray, List.map_cons, List.map_nil, ne_eq, List.append_toArray, List.nil_append, List.cons_append, List.append_nil, h3, true_and]
    rw [← heq, List.drop_of_length_le (by omega)]
    rfl

theorem compareCause_any (a b c a' b' c' : Int) (S : St) :
    XC Try.prog 39 #[.agg [.int .i64 a, .int .i64 b, .int .i64 c].toArray, .agg [.int .i64 a', .int .i64 b', .int .i64 c'].toArray] S fun r S' => Ext S S' ∧ r = .int .i64 (numI [a, a', b, b', c, c']) := by
  refine XC_body XF39 ?_
  simp (decide := true) only [↓symD, symU, ↓XW_cond, Nat.reduceEqDiff, List.zip_cons_cons, List.zip_nil_left, Option.bind_some, Option.map_some, Option.map_none, List.map_toArray, List.map_cons, List.map_nil, ne_eq, List.append_toArray, List.nil_append, List.cons_append, List.append_nil, St.get_alloc, next_alloc, ↓reduceIte, Nat.left_eq_add, Nat.add_eq_left, Nat.add_right_cancel_iff, Nat.add_left_cancel_iff, Blk.rd_cells, List.length_cons, List.length_nil, List.drop_zero, List.drop_succ_cons, List.take_succ_cons, List.take_zero, part1_agg, part1_one, Nat.zero_add, Nat.add_assoc, Nat.reduceAdd, Nat.reduceLeDiff, Nat.reduceLT, Nat.lt_add_right_iff_pos, Nat.add_lt_add_iff_left, reduceCtorEq, Nat.lt_add_one, St.get_write, St.next_write, List.not_mem_nil, if_false, fillL, splice, rep, List.replicate_succ, List.replicate_zero, List.flatten_cons, List.flatten_nil, List.append_nil, List.nil_append, List.cons_append, Value.cells, List.append_assoc, and_self, true_and, and_true, List.size_toArray, List.length_cons, List.length_nil, Nat.zero_add, ↓reduceIte, List.take_zero, List.drop_zero, List.drop_succ_cons, List.take_succ_cons, Nat.reduceAdd, Nat.reduceLeDiff, Nat.reduceEqDiff, allOne_int, allOne_nil, List.toList_toArray, boxc_agg, blkOf_ptr, stv_cells, Nat.add_zero, xf39, boxc_three]
  refine XCall.of (numbers_any (RdS.made _ [a, a', b, b', c, c'] _ 6 rfl) (by simp)) ?_
  rintro _ _ ⟨rfl, rfl⟩
  simp (decide := true) only [↓symD, symU, ↓XW_cond, Nat.reduceEqDiff, List.zip_cons_cons, List.zip_nil_left, Option.bind_some, Option.map_some, Option.map_none, List.map_toArray, List.map_cons, List.map_nil, ne_eq, List.append_toArray, List.nil_append, List.cons_append, List.append_nil]
  exact ⟨((Ext.alloc _ _).trans (Ext.alloc _ _)).trans (Ext.alloc _ _), trivial⟩

theorem compareMsg_any (m m' : Msg) (S : St) :
    XC Try.prog 26 #[m.v, m'.v] S fun r S' => Ext S S' ∧ r = .int .i64 (cmpM m m') := by
  refine XC_body XF26 ?_
  simp (decide := true) only [↓symD, symU, ↓XW_cond, Nat.reduceEqDiff, List.zip_cons_cons, List.zip_nil_left, Option.bind_some, Option.map_some, Option.map_none, List.map_toArray, List.map_cons, List.map_nil, ne_eq, List.append_toArray, List.nil_append, List.cons_append, List.append_nil, St.get_alloc, next_alloc, ↓reduceIte, Nat.left_eq_add, Nat.add_eq_left, Nat.add_right_cancel_iff, Nat.add_left_cancel_iff, Blk.rd_cells, List.length_cons, List.length_nil, List.drop_zero, List.drop_succ_cons, List.take_succ_cons, List.take_zero, part1_agg, part1_one, Nat.zero_add, Nat.add_assoc, Nat.reduceAdd, Nat.reduceLeDiff, Nat.reduceLT, Nat.lt_add_right_iff_pos, Nat.add_lt_add_iff_left, reduceCtorEq, Nat.lt_add_one, St.get_write, St.next_write, List.not_mem_nil, if_false, xf26, boxc_msg, Msg.cs]
  refine XCall.of (compareCause_any _ _ _ _ _ _ _) ?_
  rintro _ S1 ⟨hx, rfl⟩
  refine keepP.intro hx ?_
  have g0 := hx.get S.next (by simp only [next_alloc]; omega)
  have g1 := hx.get (S.next + 1) (by simp only [next_alloc]; omega)
  have hn := hx.next
  simp only [St.get_alloc, next_alloc, ↓reduceIte, Nat.left_eq_add, Nat.add_eq_left, Nat.add_right_cancel_iff, Nat.add_left_cancel_iff, Blk.rd_cells, List.length_cons, List.length_nil, List.drop_zero, List.drop_succ_cons, List.take_succ_cons, List.take_zero, part1_agg, part1_one, Nat.zero_add, Nat.add_assoc, Nat.reduceAdd, Nat.reduceLeDiff, Nat.reduceLT, Nat.lt_add_right_iff_pos, Nat.add_lt_add_iff_left, reduceCtorEq, Nat.lt_add_one, St.get_write, St.next_write, List.not_mem_nil, if_false] at g0 g1 hn
  simp (decide := true) only [↓symD, symU, ↓XW_cond, Nat.reduceEqDiff, List.zip_cons_cons, List.zip_nil_left, Option.bind_some, Option.map_some, Option.map_none, List.map_toArray, List.map_cons, List.map_nil, ne_eq, List.append_toArray, List.nil_append, List.cons_append, List.append_nil, St.get_alloc, next_alloc, ↓reduceIte, Nat.left_eq_add, Nat.add_eq_left, Nat.add_right_cancel_iff, Nat.add_left_cancel_iff, Blk.rd_cells, List.length_cons, List.length_nil, List.drop_zero, List.drop_succ_cons, List.take_succ_cons, List.take_zero, part1_agg, part1_one, Nat.zero_add, Nat.add_assoc, Nat.reduceAdd, Nat.reduceLeDiff, Nat.reduceLT, Nat.lt_add_right_iff_pos, Nat.add_lt_add_iff_left, reduceCtorEq, Nat.lt_add_one, St.get_write, St.next_write, List.not_mem_nil, if_false, fillL, splice, rep, List.replicate_succ, List.replicate_zero, List.flatten_cons, List.flatten_nil, List.append_nil, List.nil_append, List.cons_append, Value.cells, List.append_assoc, and_self, true_and, and_true, List.size_toArray, List.length_cons, List.length_nil, Nat.zero_add, ↓reduceIte, List.take_zero, List.drop_zero, List.drop_succ_cons, List.take_succ_cons, Nat.reduceAdd, Nat.reduceLeDiff, Nat.reduceEqDiff, allOne_int, allOne_nil, List.toList_toArray, boxc_agg, blkOf_ptr, stv_cells, Nat.add_zero, g0, g1]
  refine XCall.of (numbers_any (RdS.made _ [m.index, m'.index, m.copy, m'.copy] _ 4 rfl) (by simp)) ?_
  rintro _ _ ⟨rfl, rfl⟩
  simp (decide := true) only [↓symD, symU, ↓XW_cond, Nat.reduceEqDiff, List.zip_cons_cons, List.zip_nil_left, Option.bind_some, Option.map_some, Option.map_none, List.map_toArray, List.map_cons, List.map_nil, ne_eq, List.append_toArray, List.nil_append, List.cons_append, List.append_nil, St.get_alloc, next_alloc, ↓reduceIte, Nat.left_eq_add, Nat.add_eq_left, Nat.add_right_cancel_iff, Nat.add_left_cancel_iff, Blk.rd_cells, List.length_cons, List.length_nil, List.drop_zero, List.drop_succ_cons, List.take_succ_cons, List.take_zero, part1_agg, part1_one, Nat.zero_add, Nat.add_assoc, Nat.reduceAdd, Nat.reduceLeDiff, Nat.reduceLT, Nat.lt_add_right_iff_pos, Nat.add_lt_add_iff_left, reduceCtorEq, Nat.lt_add_one, St.get_write, St.next_write, List.not_mem_nil, if_false, fillL, splice, rep, List.replicate_succ, List.replicate_zero, List.flatten_cons, List.flatten_nil, List.append_nil, List.nil_append, List.cons_append, Value.cells, List.append_assoc, and_self, true_and, and_true, List.size_toArray, List.length_cons, List.length_nil, Nat.zero_add, ↓reduceIte, List.take_zero, List.drop_zero, List.drop_succ_cons, List.take_succ_cons, Nat.reduceAdd, Nat.reduceLeDiff, Nat.reduceEqDiff, allOne_int, allOne_nil, List.toList_toArray, boxc_agg, blkOf_ptr, stv_cells, Nat.add_zero]
  refine XCall.of (or_any (RdS.made _ [_, _] _ 2 rfl) (by simp)) ?_
  rintro _ _ ⟨rfl, rfl⟩
  simp (decide := true) only [↓symD, symU, ↓XW_cond, Nat.reduceEqDiff, List.zip_cons_cons, List.zip_nil_left, Option.bind_some, Option.map_some, Option.map_none, List.map_toArray, List.map_cons, List.map_nil, ne_eq, List.append_toArray, List.nil_append, List.cons_append, List.append_nil]
  exact ⟨(((Ext.alloc _ _).trans (Ext.alloc _ _)).trans hx).trans ((Ext.alloc _ _).trans (Ext.alloc _ _)), rfl⟩

theorem stMsg0 (m : Msg) (t : TypeId) : stv 5 m.cs 0 (.cells [.int .i64 0, .int .i64 0, .int .i64 0, .int .i64 0, .int .i64 0] t 5 true []) = some (m.cs, t, 5, []) := Eq.trans rfl rfl
theorem stMsg4 (m : Msg) (c : Int) (t : TypeId) : stv 1 [.int .i64 c] 4 (.cells m.cs t 5 true []) = some (Msg.cs { m with copy := c }, t, 5, []) := Eq.trans rfl rfl
theorem cells_zm : (Value.agg #[.int .i64 0, .int .i64 0, .int .i64 0, .int .i64 0, .int .i64 0]).cells.toList = [.int .i64 0, .int .i64 0, .int .i64 0, .int .i64 0, .int .i64 0] := by simp [Value.cells]
theorem zm_len : ([.int .i64 0, .int .i64 0, .int .i64 0, .int .i64 0, .int .i64 0] : List Value).length = 5 := Eq.trans rfl rfl
theorem cmp_copy {m : Msg} (h : m.copy = 0) {c : Int} (hc : 0 < c) : cmpM { m with copy := c } m = 1 := by
  have e0 : ∀ x : Int, cmpI x x = 0 := fun x => by unfold cmpI; rw [if_neg (by omega), if_neg (by omega)]
  have e1 : cmpI c 0 = 1 := by unfold cmpI; rw [if_neg (by omega), if_pos hc]
  simp [cmpM, numI, orI, e0, h, e1]
/-- the step that delivers a copy of a message. -/
def dlv (node : Int) (m : Msg) : RStep := ⟨⟨3, node, 0, m⟩, ⟨none, 0, 0⟩, false, ⟨none, 0, 0⟩⟩
def dlvS (node : Int) (m : Msg) : Step := ⟨⟨3, node, 0, m⟩, [], false, []⟩
theorem dlv_cs (node : Int) (m : Msg) : ([.int .i64 3, .int .i64 node, .int .i64 0, .int .i64 m.node, .int .i64 m.handler, .int .i64 m.count, .int .i64 m.index, .int .i64 m.copy, .slice none 0 0, .bool false, .slice none 0 0] : List Value) = (dlv node m).cs := Eq.trans rfl rfl
theorem dlv_rep (S : St) (node : Int) (m : Msg) : Rep S (dlv node m) (dlvS node m) := ⟨rfl, rfl, RdS.nil _, RdS.nil _⟩
theorem dlv_dep {a : Step} {node : Int} {m : Msg} (hm : m ∈ a.sent) (h : m.copy = 0) (c : Int) : depP a (dlvS node { m with copy := c }) = true := by
  have : feedsP a (dlvS node { m with copy := c }) = true := by
    unfold feedsP
    rw [Bool.and_eq_true, List.any_eq_true]
    refine ⟨rfl, m, hm, decide_eq_true ?_⟩
    obtain ⟨x1, x2, x3, x4, x5⟩ := m
    simp only at h
    subst h
    rfl
  simp [depP, this]

theorem symmetricLaw_any {v : Value} {l : List Int} {c : Int} {S : St} (hv : RdS S v l) (hb : ∀ x ∈ l, -9223372036854775808 ≤ x ∧ x ≤ 9223372036854775807) (hc : -9223372036854775808 ≤ c ∧ c ≤ 9223372036854775807) :
    XC Try.prog 9 #[v, .int .i64 c] S fun r S' => Ext S S' ∧ r = .bool true := by
  refine XC_body XF9 ?_
  simp (decide := true) only [↓symD, symU, ↓XW_cond, Nat.reduceEqDiff, List.zip_cons_cons, List.zip_nil_left, Option.bind_some, Option.map_some, Option.map_none, List.map_toArray, List.map_cons, List.map_nil, ne_eq, List.append_toArray, List.nil_append, List.cons_append, List.append_nil, xf9]
  refine XCall.of (run_any hv hb) ?_
  rintro v1 S1 ⟨hx1, rl, hrun, hlen, hgood⟩
  have hs : ∀ j (h : j < rl.length), Short rl[j] := fun j h => (hgood j h).short
  simp (decide := true) only [↓symD, symU, ↓XW_cond, Nat.reduceEqDiff, List.zip_cons_cons, List.zip_nil_left, Option.bind_some, Option.map_some, Option.map_none, List.map_toArray, List.map_cons, List.map_nil, ne_eq, List.append_toArray, List.nil_append, List.cons_append, List.append_nil]
  refine XW_loopR 0 (fun m fe S' => Ext S1 S' ∧ fe 1 = .int .i64 c ∧ fe 5 = v1 ∧ ∃ i : Nat, fe 6 = .int .i64 i ∧ m + i = rl.length) (fun fe S' => Ext S1 S') rl.length ?_ ?_ ?_
  · simp (decide := true) only [↓symD, symU, ↓XW_cond, Nat.reduceEqDiff, List.zip_cons_cons, List.zip_nil_left, Option.bind_some, Option.map_some, Option.map_none, List.map_toArray, List.map_cons, List.map_nil, ne_eq, List.append_toArray, List.nil_append, List.cons_append, List.append_nil, true_and]
    exact ⟨Ext.refl _, 0, rfl, by omega⟩
  · rintro m fe S2 ⟨hx2, h1, h5, i, h6, hm⟩
    simp (decide := true) only [↓symD, symU, ↓XW_cond, Nat.reduceEqDiff, List.zip_cons_cons, List.zip_nil_left, Option.bind_some, Option.map_some, Option.map_none, List.map_toArray, List.map_cons, List.map_nil, ne_eq, List.append_toArray, List.nil_append, List.cons_append, List.append_nil, h5, h6, (hrun.mono hx2).len, xbin_lss]
    refine Test_dec (fun hlt => ?_) (fun hge => ?_)
    · have hi : i < rl.length := by omega
      have wi : w64 ((i : Int) + 1) = ((i + 1 : Nat) : Int) := w64_add1 i (by omega)
      simp (decide := true) only [↓symD, symU, ↓XW_cond, Nat.reduceEqDiff, List.zip_cons_cons, List.zip_nil_left, Option.bind_some, Option.map_some, Option.map_none, List.map_toArray, List.map_cons, List.map_nil, ne_eq, List.append_toArray, List.nil_append, List.cons_append, List.append_nil]
      refine XW_loopR 2 (fun m2 fe S' => Ext S1 S' ∧ fe 1 = .int .i64 c ∧ fe 5 = v1 ∧ fe 6 = .int .i64 i ∧ ∃ k : Nat, fe 7 = .int .i64 k ∧ m2 + k = rl.length) (fun fe S' => Ext S1 S' ∧ fe 1 = .int .i64 c ∧ fe 5 = v1 ∧ fe 6 = .int .i64 i) rl.length ?_ ?_ ?_
      · simp (decide := true) only [↓symD, symU, ↓XW_cond, Nat.reduceEqDiff, List.zip_cons_cons, List.zip_nil_left, Option.bind_some, Option.map_some, Option.map_none, List.map_toArray, List.map_cons, List.map_nil, ne_eq, List.append_toArray, List.nil_append, List.cons_append, List.append_nil, h1, h5, h6, true_and]
        exact ⟨hx2, 0, rfl, by omega⟩
      · clear h1 h5 h6
        rintro m2 fe S3 ⟨hx3, h1, h5, h6, k, h7, hm2⟩
        simp (decide := true) only [↓symD, symU, ↓XW_cond, Nat.reduceEqDiff, List.zip_cons_cons, List.zip_nil_left, Option.bind_some, Option.map_some, Option.map_none, List.map_toArray, List.map_cons, List.map_nil, ne_eq, List.append_toArray, List.nil_append, List.cons_append, List.append_nil, h5, h7, (hrun.mono hx3).len, xbin_lss]
        refine Test_dec (fun hlt2 => ?_) (fun hge2 => ?_)
        · have hk : k < rl.length := by omega
          have wk : w64 ((k : Int) + 1) = ((k + 1 : Nat) : Int) := w64_add1 k (by omega)
          obtain ⟨ia, oa, ra, a1, a2, a3, a4⟩ := (hrun.mono hx3).step i hi
          have xA : Ext S3 ((S3.alloc (.cells [.int .i64 0, .int .i64 0, .int .i64 0, .int .i64 0, .int .i64 0, .int .i64 0, .int .i64 0, .int .i64 0, .slice none 0 0, .bool false, .slice none 0 0] 41 11 true [])).write S3.next ra.cs 41 11 []) := ext_box_write _ _ _ _ _
          have gA : ((S3.alloc (.cells [.int .i64 0, .int .i64 0, .int .i64 0, .int .i64 0, .int .i64 0, .int .i64 0, .int .i64 0, .int .i64 0, .slice none 0 0, .bool false, .slice none 0 0] 41 11 true [])).write S3.next ra.cs 41 11 []).get S3.next = .cells ra.cs 41 11 true [] := get_write_self _ _ _ _ _ _
          have nA : ((S3.alloc (.cells [.int .i64 0, .int .i64 0, .int .i64 0, .int .i64 0, .int .i64 0, .int .i64 0, .int .i64 0, .int .i64 0, .slice none 0 0, .bool false, .slice none 0 0] 41 11 true [])).write S3.next ra.cs 41 11 []).next = S3.next + 1 := rfl
          generalize hA : (S3.alloc (.cells [.int .i64 0, .int .i64 0, .int .i64 0, .int .i64 0, .int .i64 0, .int .i64 0, .int .i64 0, .int .i64 0, .slice none 0 0, .bool false, .slice none 0 0] 41 11 true [])).write S3.next ra.cs 41 11 [] = SA at xA gA nA
          obtain ⟨ib, ob, rb, b1, b2, b3, b4⟩ := ((hrun.mono hx3).mono xA).step k hk
          have xB : Ext SA ((SA.alloc (.cells [.int .i64 0, .int .i64 0, .int .i64 0, .int .i64 0, .int .i64 0, .int .i64 0, .int .i64 0, .int .i64 0, .slice none 0 0, .bool false, .slice none 0 0] 41 11 true [])).write SA.next rb.cs 41 11 []) := ext_box_write _ _ _ _ _
          have gB : ((SA.alloc (.cells [.int .i64 0, .int .i64 0, .int .i64 0, .int .i64 0, .int .i64 0, .int .i64 0, .int .i64 0, .int .i64 0, .slice none 0 0, .bool false, .slice none 0 0] 41 11 true [])).write SA.next rb.cs 41 11 []).get SA.next = .cells rb.cs 41 11 true [] := get_write_self _ _ _ _ _ _
          generalize hB : (SA.alloc (.cells [.int .i64 0, .int .i64 0, .int .i64 0, .int .i64 0, .int .i64 0, .int .i64 0, .int .i64 0, .int .i64 0, .slice none 0 0, .bool false, .slice none 0 0] 41 11 true [])).write SA.next rb.cs 41 11 [] = SB at xB gB
          have gBx : SB.get (S3.next + 1) = .cells rb.cs 41 11 true [] := by rw [← nA]; exact gB
          have hBn : S3.next + 1 < SB.next := by rw [← nA, ← hB]; simp
          have gA2 : SB.get S3.next = .cells ra.cs 41 11 true [] := by rw [xB.get _ (by omega)]; exact gA
          have a5 := (a4.mono xA).mono xB
          have b5 := b4.mono xB
          simp (decide := true) only [↓symD, symU, ↓XW_cond, Nat.reduceEqDiff, List.zip_cons_cons, List.zip_nil_left, Option.bind_some, Option.map_some, Option.map_none, List.map_toArray, List.map_cons, List.map_nil, ne_eq, List.append_toArray, List.nil_append, List.cons_append, List.append_nil, h5, h6, h7, a1, a3, part1_agg, cells_zs, zs_len, boxc_step, blkOf_ptr, get_alloc_self, Nat.zero_add, stZs, hA, b1, b3, hB, gA2, gB, gBx, rdStep]
          refine XCall_at fun SB' hSB => ?_
          obtain rfl : SB = SB' := by rw [hSB, ← hB, ← hA]; rfl
          refine XCall.of (dependent_any a5 b5 (hs i hi).1 (hs k hk).1) ?_
          rintro _ S4 ⟨hx4, rfl⟩
          have nB := xB.next
          have gA4 : S4.get S3.next = .cells ra.cs 41 11 true [] := by rw [hx4.get _ (by omega)]; exact gA2
          have gB4 : S4.get (S3.next + 1) = .cells rb.cs 41 11 true [] := by rw [hx4.get _ hBn]; exact gBx
          simp (decide := true) only [↓symD, symU, ↓XW_cond, Nat.reduceEqDiff, List.zip_cons_cons, List.zip_nil_left, Option.bind_some, Option.map_some, Option.map_none, List.map_toArray, List.map_cons, List.map_nil, ne_eq, List.append_toArray, List.nil_append, List.cons_append, List.append_nil, gA4, gB4, rdStep, part1_agg]
          refine XCall_at fun S4' hS4 => ?_
          obtain rfl : S4 = S4' := hS4.symm
          refine XCall.of (dependent_any (b5.mono hx4) (a5.mono hx4) (hs k hk).1 (hs i hi).1) ?_
          rintro _ S5 ⟨hx5, rfl⟩
          rw [depP_comm rl[k] rl[i]]
          have eb : ∀ q : Bool, (!(q == q)) = false := fun q => by simp
          have gA5 : S5.get S3.next = .cells ra.cs 41 11 true [] := by rw [hx5.get _ (by have := hx4.next; omega)]; exact gA4
          have gB5 : S5.get (S3.next + 1) = .cells rb.cs 41 11 true [] := by rw [hx5.get _ (by have := hx4.next; omega)]; exact gB4
          have hx35 := (((hx3.trans xA).trans xB).trans hx4).trans hx5
          have nd1 := a5.1
          have nd2 := b5.1
          have ob1 := a5.2.1
          have ob2 := b5.2.1
          cases hd : depP rl[i] rl[k] with
          | true =>
            simp (decide := true) only [↓symD, symU, ↓XW_cond, Nat.reduceEqDiff, List.zip_cons_cons, List.zip_nil_left, Option.bind_some, Option.map_some, Option.map_none, List.map_toArray, List.map_cons, List.map_nil, ne_eq, List.append_toArray, List.nil_append, List.cons_append, List.append_nil, eqbN, eb, hd, Bool.not_true, Pick_undef, h7, xbin_add, wk, h1, h5, h6, true_and]
            exact ⟨m2 - 1, by omega, hx35, k + 1, rfl, by omega⟩
          | false =>
            have n1 : ¬ rl[i].ev.node = rl[k].ev.node := fun h => by rw [dep_node h] at hd; cases hd
            have d1 : decide (ra.ev.node = rb.ev.node) = false := by rw [nd1, nd2]; exact decide_eq_false n1
            cases h2 : rl[i].obs with
            | false =>
              rw [h2] at ob1
              simp (decide := true) only [↓symD, symU, ↓XW_cond, Nat.reduceEqDiff, List.zip_cons_cons, List.zip_nil_left, Option.bind_some, Option.map_some, Option.map_none, List.map_toArray, List.map_cons, List.map_nil, ne_eq, List.append_toArray, List.nil_append, List.cons_append, List.append_nil, eqbN, eb, hd, Bool.not_false, gA5, gB5, Nat.zero_add, rdNode, part1_one, xbin_eql, d1, rdObs, ob1, Pick_undef, h7, xbin_add, wk, h1, h5, h6, true_and]
              exact ⟨m2 - 1, by omega, hx35, k + 1, rfl, by omega⟩
            | true =>
              have h3 : rl[k].obs = false := by
                cases h3 : rl[k].obs with
                | false => rfl
                | true => rw [dep_obs h2 h3] at hd; cases hd
              rw [h2] at ob1
              rw [h3] at ob2
              simp (decide := true) only [↓symD, symU, ↓XW_cond, Nat.reduceEqDiff, List.zip_cons_cons, List.zip_nil_left, Option.bind_some, Option.map_some, Option.map_none, List.map_toArray, List.map_cons, List.map_nil, ne_eq, List.append_toArray, List.nil_append, List.cons_append, List.append_nil, eqbN, eb, hd, Bool.not_false, gA5, gB5, Nat.zero_add, rdNode, part1_one, xbin_eql, d1, rdObs, ob1, ob2, Pick_undef, h7, xbin_add, wk, h1, h5, h6, true_and]
              exact ⟨m2 - 1, by omega, hx35, k + 1, rfl, by omega⟩
        · simp (decide := true) only [↓symD, symU, ↓XW_cond, Nat.reduceEqDiff, List.zip_cons_cons, List.zip_nil_left, Option.bind_some, Option.map_some, Option.map_none, List.map_toArray, List.map_cons, List.map_nil, ne_eq, List.append_toArray, List.nil_append, List.cons_append, List.append_nil, h1, h5, h6, true_and, and_true]
          exact hx3
      · clear h1 h5 h6
        rintro fe S3 ⟨hx3, h1, h5, h6⟩
        simp (decide := true) only [↓symD, symU, ↓XW_cond, Nat.reduceEqDiff, List.zip_cons_cons, List.zip_nil_left, Option.bind_some, Option.map_some, Option.map_none, List.map_toArray, List.map_cons, List.map_nil, ne_eq, List.append_toArray, List.nil_append, List.cons_append, List.append_nil]
        refine XW_loopR 4 (fun m2 fe S' => Ext S1 S' ∧ fe 1 = .int .i64 c ∧ fe 5 = v1 ∧ fe 6 = .int .i64 i ∧ ∃ k : Nat, fe 11 = .int .i64 k ∧ m2 + k = rl[i].sent.length) (fun fe S' => Ext S1 S' ∧ fe 1 = .int .i64 c ∧ fe 5 = v1 ∧ fe 6 = .int .i64 i) rl[i].sent.length ?_ ?_ ?_
        · simp (decide := true) only [↓symD, symU, ↓XW_cond, Nat.reduceEqDiff, List.zip_cons_cons, List.zip_nil_left, Option.bind_some, Option.map_some, Option.map_none, List.map_toArray, List.map_cons, List.map_nil, ne_eq, List.append_toArray, List.nil_append, List.cons_append, List.append_nil, h1, h5, h6, true_and]
          exact ⟨hx3, 0, rfl, by omega⟩
        · clear h1 h5 h6
          rintro m2 fe S4 ⟨hx4, h1, h5, h6, k, h11, hm2⟩
          obtain ⟨ia, oa, a1, a2, a3, a4, ra, a5, a6, a7, a8⟩ := (hrun.mono hx4).cells i hi
          have hsn := a5.2.2.2
          simp (decide := true) only [↓symD, symU, ↓XW_cond, Nat.reduceEqDiff, List.zip_cons_cons, List.zip_nil_left, Option.bind_some, Option.map_some, Option.map_none, List.map_toArray, List.map_cons, List.map_nil, ne_eq, List.append_toArray, List.nil_append, List.cons_append, List.append_nil, h5, h6, h11, a1, a6, part1_one, hsn.len, xbin_lss]
          refine Test_dec (fun hlt2 => ?_) (fun hge2 => ?_)
          · have hk : k < rl[i].sent.length := by omega
            have hsl := (hgood i hi).1
            have wk : w64 ((k : Int) + 1) = ((k + 1 : Nat) : Int) := w64_add1 k (by omega)
            obtain ⟨im, om, p1, p2, p3⟩ := hsn.msg k hk
            have hmem : rl[i].sent[k] ∈ rl[i].sent := List.getElem_mem hk
            have hcp := (hgood i hi).2.2 _ hmem
            generalize hmm : rl[i].sent[k] = mm at p3 hmem hcp
            have xA : Ext S4 ((S4.alloc (.cells [.int .i64 0, .int .i64 0, .int .i64 0, .int .i64 0, .int .i64 0] 35 5 true [])).write S4.next mm.cs 35 5 []) := ext_box_write _ _ _ _ _
            have gA : ((S4.alloc (.cells [.int .i64 0, .int .i64 0, .int .i64 0, .int .i64 0, .int .i64 0] 35 5 true [])).write S4.next mm.cs 35 5 []).get S4.next = .cells mm.cs 35 5 true [] := get_write_self _ _ _ _ _ _
            have nA : ((S4.alloc (.cells [.int .i64 0, .int .i64 0, .int .i64 0, .int .i64 0, .int .i64 0] 35 5 true [])).write S4.next mm.cs 35 5 []).next = S4.next + 1 := rfl
            generalize hA : (S4.alloc (.cells [.int .i64 0, .int .i64 0, .int .i64 0, .int .i64 0, .int .i64 0] 35 5 true [])).write S4.next mm.cs 35 5 [] = SA at xA gA nA
            simp (decide := true) only [↓symD, symU, ↓XW_cond, Nat.reduceEqDiff, List.zip_cons_cons, List.zip_nil_left, Option.bind_some, Option.map_some, Option.map_none, List.map_toArray, List.map_cons, List.map_nil, ne_eq, List.append_toArray, List.nil_append, List.cons_append, List.append_nil, h1, h5, h6, h11, a1, a6, p1, p3, part1_one, part1_agg, cells_zm, zm_len, boxc_msg, blkOf_ptr, get_alloc_self, stMsg0, hA]
            refine XCall_at fun SA' hSA => ?_
            obtain rfl : SA = SA' := by rw [hSA, ← hA]; rfl
            refine XCall.of (around_any c 5 SA hc.1 hc.2 (by decide)) ?_
            rintro _ S5 ⟨hS5, rfl⟩
            obtain rfl : SA = S5 := hS5.symm
            have har := around_lt c 5 (by decide)
            generalize around c 5 = x at har ⊢
            have w1 : w64 (1 + x) = 1 + x := w64_ok (by omega) (by omega)
            have xB : Ext S4 (SA.write S4.next (Msg.cs { mm with copy := 1 + x }) 35 5 []) := Fr.ext ((xA.fr (Nat.le_refl _)).trans (Fr.write SA _ _ _ (Nat.le_refl _) (by simp)))
            have gB : (SA.write S4.next (Msg.cs { mm with copy := 1 + x }) 35 5 []).get S4.next = .cells (Msg.cs { mm with copy := 1 + x }) 35 5 true [] := get_write_self _ _ _ _ _ _
            have nB : (SA.write S4.next (Msg.cs { mm with copy := 1 + x }) 35 5 []).next = S4.next + 1 := nA
            generalize hB : SA.write S4.next (Msg.cs { mm with copy := 1 + x }) 35 5 [] = SB at xB gB nB
            have b3 : (SB.get ia).rd (oa + 1) 1 = some [.int .i64 rl[i].ev.node] := by rw [xB.get _ a2]; exact a3
            generalize hnd : w64 (rl[i].ev.node + 1) = nd
            have xC : Ext SB ((SB.alloc (.cells [.int .i64 0, .int .i64 0, .int .i64 0, .int .i64 0, .int .i64 0, .int .i64 0, .int .i64 0, .int .i64 0, .slice none 0 0, .bool false, .slice none 0 0] 41 11 true [])).write SB.next (dlv nd { mm with copy := 1 + x }).cs 41 11 []) := ext_box_write _ _ _ _ _
            have gC : ((SB.alloc (.cells [.int .i64 0, .int .i64 0, .int .i64 0, .int .i64 0, .int .i64 0, .int .i64 0, .int .i64 0, .int .i64 0, .slice none 0 0, .bool false, .slice none 0 0] 41 11 true [])).write SB.next (dlv nd { mm with copy := 1 + x }).cs 41 11 []).get SB.next = .cells (dlv nd { mm with copy := 1 + x }).cs 41 11 true [] := get_write_self _ _ _ _ _ _
            have nC : ((SB.alloc (.cells [.int .i64 0, .int .i64 0, .int .i64 0, .int .i64 0, .int .i64 0, .int .i64 0, .int .i64 0, .int .i64 0, .slice none 0 0, .bool false, .slice none 0 0] 41 11 true [])).write SB.next (dlv nd { mm with copy := 1 + x }).cs 41 11 []).next = SB.next + 1 := rfl
            generalize hC : (SB.alloc (.cells [.int .i64 0, .int .i64 0, .int .i64 0, .int .i64 0, .int .i64 0, .int .i64 0, .int .i64 0, .int .i64 0, .slice none 0 0, .bool false, .slice none 0 0] 41 11 true [])).write SB.next (dlv nd { mm with copy := 1 + x }).cs 41 11 [] = SC at xC gC nC
            have c8 : (SC.get ia).rd oa 11 = some ra.cs := by rw [xC.get _ (by omega), xB.get _ a2]; exact a8
            have hbx : boxc (.agg #[.int .i64 3, .int .i64 nd, .int .i64 0, .int .i64 mm.node, .int .i64 mm.handler, .int .i64 mm.count, .int .i64 mm.index, .int .i64 (1 + x), .slice none 0 0, .bool false, .slice none 0 0]) = some (dlv nd { mm with copy := 1 + x }).cs := boxc_step (dlv nd { mm with copy := 1 + x })
            have rdm : (Blk.cells (Msg.cs { mm with copy := 1 + x }) 35 5 true []).rd 0 5 = some [.int .i64 mm.node, .int .i64 mm.handler, .int .i64 mm.count, .int .i64 mm.index, .int .i64 (1 + x)] := rfl
            simp (decide := true) only [↓symD, symU, ↓XW_cond, Nat.reduceEqDiff, List.zip_cons_cons, List.zip_nil_left, Option.bind_some, Option.map_some, Option.map_none, List.map_toArray, List.map_cons, List.map_nil, ne_eq, List.append_toArray, List.nil_append, List.cons_append, List.append_nil, fillL, splice, rep, List.replicate_succ, List.replicate_zero, List.flatten_cons, List.flatten_nil, List.append_nil, List.nil_append, List.cons_append, Value.cells, List.append_assoc, and_self, true_and, and_true, List.size_toArray, List.length_cons, List.length_nil, Nat.zero_add, ↓reduceIte, List.take_zero, List.drop_zero, List.drop_succ_cons, List.take_succ_cons, Nat.reduceAdd, Nat.reduceLeDiff, Nat.reduceEqDiff, allOne_int, allOne_nil, List.toList_toArray, blkOf_ptr, Nat.add_zero, h5, h6, xbin_add, w1, boxc_int, blkOf_ptr, gA, stMsg4, hB, a1, b3, part1_one, part1_agg, hnd, gB, rdm, cells_zs, zs_len, hbx, get_alloc_self, stZs, hC, c8, gC, rdStep]
            refine XCall_at fun SC' hSC => ?_
            obtain rfl : SC = SC' := by rw [hSC, ← hC, ← hB]; rfl
            refine XCall.of (dependent_any (rb := dlv nd { mm with copy := 1 + x }) ((a5.mono xB).mono xC) (dlv_rep _ nd { mm with copy := 1 + x }) (hs i hi).1 (by simp [dlvS])) ?_
            rintro _ S6 ⟨hx6, rfl⟩
            rw [dlv_dep hmem hcp]
            have g6 : S6.get S4.next = .cells (Msg.cs { mm with copy := 1 + x }) 35 5 true [] := by rw [hx6.get _ (by omega), xC.get _ (by omega)]; exact gB
            have d6 : (S6.get ia).rd (oa + 10) 1 = some [ra.sent.v] := by rw [hx6.get _ (by omega), xC.get _ (by omega), xB.get _ a2]; exact a6
            have q3 : (S6.get im).rd om 5 = some mm.cs := by rw [hx6.get _ (by omega), xC.get _ (by omega), xB.get _ p2]; exact p3
            simp (decide := true) only [↓symD, symU, ↓XW_cond, Nat.reduceEqDiff, List.zip_cons_cons, List.zip_nil_left, Option.bind_some, Option.map_some, Option.map_none, List.map_toArray, List.map_cons, List.map_nil, ne_eq, List.append_toArray, List.nil_append, List.cons_append, List.append_nil, Bool.not_true, g6, rdM, part1_agg, h5, h6, h11, a1, d6, part1_one, p1, q3]
            refine XCall.of (compareMsg_any { mm with copy := 1 + x } mm S6) ?_
            rintro _ S7 ⟨hx7, rfl⟩
            rw [cmp_copy hcp (by omega)]
            simp (decide := true) only [↓symD, symU, ↓XW_cond, Nat.reduceEqDiff, List.zip_cons_cons, List.zip_nil_left, Option.bind_some, Option.map_some, Option.map_none, List.map_toArray, List.map_cons, List.map_nil, ne_eq, List.append_toArray, List.nil_append, List.cons_append, List.append_nil, xbin_neq, not_true_eq_false, decide_false, h11, xbin_add, wk, h1, h5, h6, true_and]
            exact ⟨m2 - 1, by omega, ((((hx4.trans xB).trans xC).trans hx6).trans hx7), k + 1, rfl, by omega⟩
          · simp (decide := true) only [↓symD, symU, ↓XW_cond, Nat.reduceEqDiff, List.zip_cons_cons, List.zip_nil_left, Option.bind_some, Option.map_some, Option.map_none, List.map_toArray, List.map_cons, List.map_nil, ne_eq, List.append_toArray, List.nil_append, List.cons_append, List.append_nil, h1, h5, h6, true_and, and_true]
            exact hx4
        · rintro fe S4 ⟨hx4, h1, h5, h6⟩
          simp (decide := true) only [↓symD, symU, ↓XW_cond, Nat.reduceEqDiff, List.zip_cons_cons, List.zip_nil_left, Option.bind_some, Option.map_some, Option.map_none, List.map_toArray, List.map_cons, List.map_nil, ne_eq, List.append_toArray, List.nil_append, List.cons_append, List.append_nil, h6, xbin_add, wi, h1, h5, true_and]
          exact ⟨m - 1, by omega, hx4, i + 1, rfl, by omega⟩
    · simp (decide := true) only [↓symD, symU, ↓XW_cond, Nat.reduceEqDiff, List.zip_cons_cons, List.zip_nil_left, Option.bind_some, Option.map_some, Option.map_none, List.map_toArray, List.map_cons, List.map_nil, ne_eq, List.append_toArray, List.nil_append, List.cons_append, List.append_nil]
      exact hx2
  · rintro fe S2 hx2
    simp (decide := true) only [↓symD, symU, ↓XW_cond, Nat.reduceEqDiff, List.zip_cons_cons, List.zip_nil_left, Option.bind_some, Option.map_some, Option.map_none, List.map_toArray, List.map_cons, List.map_nil, ne_eq, List.append_toArray, List.nil_append, List.cons_append, List.append_nil]
    refine XCall.of lives_any ?_
    rintro _ S3 ⟨hx3, rfl⟩
    simp (decide := true) only [↓symD, symU, ↓XW_cond, Nat.reduceEqDiff, List.zip_cons_cons, List.zip_nil_left, Option.bind_some, Option.map_some, Option.map_none, List.map_toArray, List.map_cons, List.map_nil, ne_eq, List.append_toArray, List.nil_append, List.cons_append, List.append_nil, and_true]
    exact (hx1.trans hx2).trans hx3
end
end Go.Proofs.Ytolfpchcmiljpaa

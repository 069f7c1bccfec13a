/- The examples. -/
import Derived.Test.YtolfpchcmiljpaaDm
set_option linter.unusedSimpArgs false
set_option linter.unusedSectionVars false
set_option maxRecDepth 10000
namespace Go.Proofs.Ytolfpchcmiljpaa
open Go Go.RowKit

theorem allOne_slc (a : Option Addr) (k c : Nat) (l : List Value) : allOne (.slice a k c :: l) = allOne l := by simp [allOne, Value.oneCell']
theorem allOne_bl (b : Bool) (l : List Value) : allOne (.bool b :: l) = allOne l := by simp [allOne, Value.oneCell']

def mL : Msg := ⟨0, 1, 0, 0, 0⟩
def aL : Step := ⟨⟨4, 0, 0, ⟨0, 0, 0, 0, 0⟩⟩, [], false, [mL]⟩
def bL : Step := ⟨⟨3, 1, 0, mL⟩, [], false, []⟩
def cL : Step := ⟨⟨4, 1, 0, ⟨0, 0, 0, 0, 0⟩⟩, [], false, []⟩
def raL (n : Nat) : RStep := ⟨aL.ev, ⟨none, 0, 0⟩, false, ⟨some ⟨n, 0, none⟩, 1, 1⟩⟩
def rbL : RStep := ⟨bL.ev, ⟨none, 0, 0⟩, false, ⟨none, 0, 0⟩⟩
def rcL : RStep := ⟨cL.ev, ⟨none, 0, 0⟩, false, ⟨none, 0, 0⟩⟩
theorem races_L : races [aL, bL, cL] = [(1, 2)] := by
  have h : depPairs [aL, bL, cL] = [(0, 1), (1, 2)] := by decide
  have h1 : betw [(0, 1), (1, 2)] 1 2 = false := by
    rw [Bool.eq_false_iff]
    intro hb
    obtain ⟨j, h1, h2, _⟩ := (betw_iff _ _ _).1 hb
    omega
  have f1 : fp [aL, bL, cL] 0 1 = true := by decide
  have f2 : fp [aL, bL, cL] 1 2 = false := by decide
  simp [races, raceP, h, h1, f1, f2]

section
variable [Prim Try.prog]

theorem lives_any {S : St} : XC Try.prog 13 #[] S fun r S' => Ext S S' ∧ r = .bool true := by
  refine XC_body XF13 ?_
  simp (decide := true) only [↓symD, symU, ↓XW_cond, Nat.reduceEqDiff, List.zip_cons_cons, List.zip_nil_left, Option.bind_some, Option.map_some, Option.map_none, List.map_toArray, List.map_cons, List.map_nil, ne_eq, List.append_toArray, List.nil_append, List.cons_append, List.append_nil, St.get_alloc, next_alloc, ↓reduceIte, Nat.left_eq_add, Nat.add_eq_left, Nat.add_right_cancel_iff, Nat.add_left_cancel_iff, Blk.rd_cells, List.length_cons, List.length_nil, List.drop_zero, List.drop_succ_cons, List.take_succ_cons, List.take_zero, part1_agg, part1_one, Nat.zero_add, Nat.add_assoc, Nat.reduceAdd, Nat.reduceLeDiff, Nat.reduceLT, Nat.lt_add_right_iff_pos, Nat.add_lt_add_iff_left, reduceCtorEq, Nat.lt_add_one, St.get_write, St.next_write, List.not_mem_nil, if_false, fillL, splice, rep, List.replicate_succ, List.replicate_zero, List.flatten_cons, List.flatten_nil, List.append_nil, List.nil_append, List.cons_append, Value.cells, List.append_assoc, and_self, true_and, and_true, List.size_toArray, List.length_cons, List.length_nil, Nat.zero_add, ↓reduceIte, List.take_zero, List.drop_zero, List.drop_succ_cons, List.take_succ_cons, Nat.reduceAdd, Nat.reduceLeDiff, Nat.reduceEqDiff, allOne_int, allOne_nil, List.toList_toArray, boxc_agg, blkOf_ptr, stv_cells, Nat.add_zero, ↓reduceIte, eq_self, Bool.false_eq_true, decide_true, decide_false, Int.reduceEq, Int.reduceLT, Int.reduceLE, Int.reduceNe, Int.reduceGT, Int.reduceGE, boxc_int, xf13, boxc_slice, allOne_slc, allOne_bl, cells_slice, boxc_bool]
  refine XCall_at fun S1 hS1 => ?_
  have n1 : S1.next = S.next + 6 := by rw [hS1]; simp
  have hx : Ext S S1 := ⟨by omega, fun id hid => by
    rw [hS1]
    simp only [St.get_alloc, St.get_write, next_alloc, St.next_write, List.not_mem_nil, if_false]
    repeat rw [if_neg (by omega)]⟩
  have g1 : S1.get (S.next + 1) = .cells mL.cs 35 5 true [] := by rw [hS1]; simp [St.get_alloc, St.get_write, Msg.cs, mL]
  have g2 : S1.get (S.next + 2) = .cells (raL (S.next + 1)).cs 41 11 true [] := by rw [hS1]; simp [St.get_alloc, St.get_write, RStep.cs, raL, aL, Ev.cs, SV.v]
  have g3 : S1.get (S.next + 3) = .cells rbL.cs 41 11 true [] := by rw [hS1]; simp [St.get_alloc, St.get_write, RStep.cs, rbL, bL, mL, Ev.cs, SV.v]
  have g4 : S1.get (S.next + 4) = .cells rcL.cs 41 11 true [] := by rw [hS1]; simp [St.get_alloc, St.get_write, RStep.cs, rcL, cL, Ev.cs, SV.v]
  have g5 : S1.get (S.next + 5) = .cells (encs [raL (S.next + 1), rbL, rcL]) 41 11 true [] := by rw [hS1]; simp [St.get_alloc, encs, Enc.e, RStep.cs, raL, rbL, rcL, aL, bL, cL, mL, Ev.cs, SV.v]
  clear hS1
  have hsent : RdS S1 (raL (S.next + 1)).sent.v [mL] := .inr ⟨S.next + 1, 0, 1, _, _, _, _, rfl, Nat.le_refl _, by omega, g1, by decide, rfl⟩
  have ra : Rep S1 (raL (S.next + 1)) aL := ⟨rfl, rfl, RdS.nil _, hsent⟩
  have rb : Rep S1 rbL bL := ⟨rfl, rfl, RdS.nil _, RdS.nil _⟩
  have rc : Rep S1 rcL cL := ⟨rfl, rfl, RdS.nil _, RdS.nil _⟩
  have hrun : Run S1 (.slice (some ⟨S.next + 5, 0, none⟩) 3 3) [aL, bL, cL] := ⟨[raL (S.next + 1), rbL, rcL], .inr ⟨S.next + 5, 0, 3, _, _, _, _, rfl, Nat.le_refl _, by omega, g5, Nat.le_refl _, rfl⟩, ((All2.one ra).append (All2.one rb)).append (All2.one rc)⟩
  have hs : Sents [aL, bL, cL] := fun i h => by
    have : i = 0 ∨ i = 1 ∨ i = 2 := by simp at h; omega
    rcases this with rfl | rfl | rfl <;> simp [aL, bL, cL]
  refine XCall.of (race_any hrun (by decide) hs) ?_
  rintro r S2 ⟨hx2, hr⟩
  rw [races_L] at hr
  obtain ⟨ip, op, p1, p2, p3⟩ := hr.pairs 0 (by decide)
  have k2 : S2.get (S.next + 2) = .cells (raL (S.next + 1)).cs 41 11 true [] := by rw [hx2.get _ (by omega)]; exact g2
  have k3 : S2.get (S.next + 3) = .cells rbL.cs 41 11 true [] := by rw [hx2.get _ (by omega)]; exact g3
  have k4 : S2.get (S.next + 4) = .cells rcL.cs 41 11 true [] := by rw [hx2.get _ (by omega)]; exact g4
  simp (decide := true) only [↓symD, symU, ↓XW_cond, Nat.reduceEqDiff, List.zip_cons_cons, List.zip_nil_left, Option.bind_some, Option.map_some, Option.map_none, List.map_toArray, List.map_cons, List.map_nil, ne_eq, List.append_toArray, List.nil_append, List.cons_append, List.append_nil, k2, k3, rdStep, part1_agg]
  refine XCall.of (dependent_any (ra.mono hx2) (rb.mono hx2) (by decide) (by decide)) ?_
  rintro _ S3 ⟨hx3, rfl⟩
  have d1 : depP aL bL = true := by decide
  have l2 : S3.get (S.next + 2) = .cells (raL (S.next + 1)).cs 41 11 true [] := by rw [hx3.get _ (by have := hx2.next; omega)]; exact k2
  have l4 : S3.get (S.next + 4) = .cells rcL.cs 41 11 true [] := by rw [hx3.get _ (by have := hx2.next; omega)]; exact k4
  simp (decide := true) only [↓symD, symU, ↓XW_cond, Nat.reduceEqDiff, List.zip_cons_cons, List.zip_nil_left, Option.bind_some, Option.map_some, Option.map_none, List.map_toArray, List.map_cons, List.map_nil, ne_eq, List.append_toArray, List.nil_append, List.cons_append, List.append_nil, d1, l2, l4, rdStep, part1_agg]
  refine XCall.of (dependent_any ((ra.mono hx2).mono hx3) ((rc.mono hx2).mono hx3) (by decide) (by decide)) ?_
  rintro _ S4 ⟨hx4, rfl⟩
  have d2 : depP aL cL = false := by decide
  have p3' : (S4.get ip).rd op 2 = some (pairCs (1, 2)) := by rw [hx4.get _ (Nat.lt_of_lt_of_le p2 hx3.next), hx3.get _ p2]; exact p3
  have e0 : iav 2 r (.int .i64 0) = some (.pointer (some ⟨ip, op, none⟩)) := p1
  have hlen : lenv r = some (.int .i64 1) := hr.len
  have heq : eqfv [1, 1] false (.agg (pairCs (1, 2)).toArray) (.agg #[.int .i64 1, .int .i64 2]) = some (.bool true) := by simp [eqfv, pairCs, eqL, eq1, notIf]
  simp (decide := true) only [↓symD, symU, ↓XW_cond, Nat.reduceEqDiff, List.zip_cons_cons, List.zip_nil_left, Option.bind_some, Option.map_some, Option.map_none, List.map_toArray, List.map_cons, List.map_nil, ne_eq, List.append_toArray, List.nil_append, List.cons_append, List.append_nil, fillL, splice, rep, List.replicate_succ, List.replicate_zero, List.flatten_cons, List.flatten_nil, List.append_nil, List.nil_append, List.cons_append, Value.cells, List.append_assoc, and_self, true_and, and_true, List.size_toArray, List.length_cons, List.length_nil, Nat.zero_add, ↓reduceIte, List.take_zero, List.drop_zero, List.drop_succ_cons, List.take_succ_cons, Nat.reduceAdd, Nat.reduceLeDiff, Nat.reduceEqDiff, allOne_int, allOne_nil, List.toList_toArray, boxc_agg, blkOf_ptr, stv_cells, Nat.add_zero, ↓reduceIte, eq_self, Bool.false_eq_true, decide_true, decide_false, Int.reduceEq, Int.reduceLT, Int.reduceLE, Int.reduceNe, Int.reduceGT, Int.reduceGE, boxc_int, d2, Bool.not_false, hlen, xbin_eql, e0, p3', part1_agg, heq]
  exact ((hx.trans hx2).trans hx3).trans hx4
end
end Go.Proofs.Ytolfpchcmiljpaa

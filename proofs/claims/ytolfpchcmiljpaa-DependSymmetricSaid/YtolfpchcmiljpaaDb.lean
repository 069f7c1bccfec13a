/- Dependent steps: the program and the reference. -/
import Derived.Test.YtolfpchcmiljpaaDa
set_option linter.unusedSimpArgs false
set_option linter.unusedSectionVars false
set_option maxRecDepth 10000
namespace Go.Proofs.Ytolfpchcmiljpaa
open Go Go.RowKit

/-- the first place at which something holds. -/
def firstIx {α : Type} (p : α → Bool) : List α → Nat → Int
  | [], _ => -1
  | x :: l, i => if p x then i else firstIx p l (i + 1)
theorem firstIx_step {α : Type} (p : α → Bool) (l : List α) (i : Nat) (h : i < l.length) : firstIx p (l.drop i) i = if p l[i] then (i : Int) else firstIx p (l.drop (i + 1)) (i + 1) := by
  rw [List.drop_eq_getElem_cons h, firstIx]
theorem firstIx_end {α : Type} (p : α → Bool) (l : List α) (i : Nat) (h : ¬ i < l.length) : firstIx p (l.drop i) i = -1 := by
  rw [List.drop_of_length_le (by omega), firstIx]
theorem firstIx_any {α : Type} (p : α → Bool) : ∀ (l : List α) (i : Nat), decide (firstIx p l i ≥ 0) = l.any p := by
  intro l
  induction l with
  | nil => intro i; rfl
  | cons x l ih =>
    intro i
    rw [firstIx, List.any_cons]
    cases h : p x with
    | true => simp
    | false => simpa using ih (i + 1)

theorem RdS.msg {S : St} {v : Value} {l : List Msg} (h : RdS S v l) (i : Nat) (hi : i < l.length) : ∃ id o, iav 5 v (.int .i64 i) = some (.pointer (some ⟨id, o, none⟩)) ∧ id < S.next ∧ (S.get id).rd o 5 = some l[i].cs := h.get .i64 i hi

theorem boxc_ptr (p : Option Addr) : boxc (.pointer p) = some [.pointer p] := by simp [boxc, Value.cells, allOne, Value.oneCell']
theorem eqpn_none : eqpv true (.pointer none) (.pointer none) = some (.bool false) := Eq.trans rfl rfl
theorem eqpn_some (a : Addr) : eqpv true (.pointer (some a)) (.pointer none) = some (.bool true) := Eq.trans rfl rfl
def feedsP (a b : Step) : Bool := consumes b.ev && a.sent.any fun x => decide (x = orig b.ev)
def depP (a b : Step) : Bool := decide (a.ev.node = b.ev.node) || (a.obs && b.obs) || feedsP a b || feedsP b a

section
variable [Prim Try.prog]

theorem indexFunc_any {v : Value} {l : List Msg} (m : Msg) {S : St} (hv : RdS S v l) (hl : l.length ≤ 1000) (id id2 : Nat) (t t2 : TypeId) (an an2 : List Nat) (mi mi2 : Bool) (hid : id < S.next) (hm : S.get id = .cells m.cs t 5 mi an) (hid2 : id2 < S.next) (hp : S.get id2 = .cells [.pointer (some ⟨id, 0, none⟩)] t2 1 mi2 an2) :
    XC Try.prog 51 #[v, .func (.func 44) #[] #[.pointer (some ⟨id2, 0, none⟩)]] S fun r S' => Ext S S' ∧ r = .int .i64 (firstIx (fun x => decide (x = m)) l 0) := by
  refine XC_body XF51 ?_
  simp (decide := true) only [↓symD, symU, ↓XW_cond, Nat.reduceEqDiff, List.zip_cons_cons, List.zip_nil_left, Option.bind_some, Option.map_some, Option.map_none, List.map_toArray, List.map_cons, List.map_nil, ne_eq, List.append_toArray, List.nil_append, List.cons_append, List.append_nil, xf51, hv.len]
  refine XW_loop (fun k fe S' => Ext S S' ∧ fe 0 = v ∧ fe 1 = .func (.func 44) #[] #[.pointer (some ⟨id2, 0, none⟩)] ∧ fe 7 = .int .i64 l.length ∧ ∃ i : Nat, fe 8 = .int .i64 i ∧ k + i = l.length ∧ firstIx (fun x => decide (x = m)) (l.drop i) i = firstIx (fun x => decide (x = m)) l 0) l.length ?_ ?_
  · simp (decide := true) only [↓symD, symU, ↓XW_cond, Nat.reduceEqDiff, List.zip_cons_cons, List.zip_nil_left, Option.bind_some, Option.map_some, Option.map_none, List.map_toArray, List.map_cons, List.map_nil, ne_eq, List.append_toArray, List.nil_append, List.cons_append, List.append_nil, true_and]
    exact ⟨Ext.refl _, 0, rfl, by omega, rfl⟩
  rintro k fe S2 ⟨hx, h0, h1, h7, i, h8, hk, heq⟩
  have hv2 := hv.mono hx
  simp (decide := true) only [↓symD, symU, ↓XW_cond, Nat.reduceEqDiff, List.zip_cons_cons, List.zip_nil_left, Option.bind_some, Option.map_some, Option.map_none, List.map_toArray, List.map_cons, List.map_nil, ne_eq, List.append_toArray, List.nil_append, List.cons_append, List.append_nil, h7, h8, xbin_lss]
  refine Test_dec (fun hlt => ?_) (fun hge => ?_)
  · obtain ⟨ix, o, e1, e2, e3⟩ := hv2.msg i (by omega)
    simp (decide := true) only [↓symD, symU, ↓XW_cond, Nat.reduceEqDiff, List.zip_cons_cons, List.zip_nil_left, Option.bind_some, Option.map_some, Option.map_none, List.map_toArray, List.map_cons, List.map_nil, ne_eq, List.append_toArray, List.nil_append, List.cons_append, List.append_nil, h0, h1, h8, e1, e3, part1_agg]
    refine XCall.of (feeds1_any l[i] m id id2 S2 t t2 an an2 mi mi2 (Nat.lt_of_lt_of_le hid hx.next) (by rw [hx.get _ hid]; exact hm) (Nat.lt_of_lt_of_le hid2 hx.next) (by rw [hx.get _ hid2]; exact hp)) ?_
    rintro _ S3 ⟨hx3, rfl⟩
    simp (decide := true) only [↓symD, symU, ↓XW_cond, Nat.reduceEqDiff, List.zip_cons_cons, List.zip_nil_left, Option.bind_some, Option.map_some, Option.map_none, List.map_toArray, List.map_cons, List.map_nil, ne_eq, List.append_toArray, List.nil_append, List.cons_append, List.append_nil]
    rw [firstIx_step _ l i (by omega)] at heq
    refine Test_dec (fun he => ?_) (fun he => ?_)
    · simp (decide := true) only [↓symD, symU, ↓XW_cond, Nat.reduceEqDiff, List.zip_cons_cons, List.zip_nil_left, Option.bind_some, Option.map_some, Option.map_none, List.map_toArray, List.map_cons, List.map_nil, ne_eq, List.append_toArray, List.nil_append, List.cons_append, List.append_nil]
      rw [if_pos (by simpa using he)] at heq
      exact ⟨hx.trans hx3, by rw [heq]⟩
    · have w1 : w64 ((i : Int) + 1) = ((i + 1 : Nat) : Int) := by rw [w64_ok (by omega) (by omega)]; omega
      simp (decide := true) only [↓symD, symU, ↓XW_cond, Nat.reduceEqDiff, List.zip_cons_cons, List.zip_nil_left, Option.bind_some, Option.map_some, Option.map_none, List.map_toArray, List.map_cons, List.map_nil, ne_eq, List.append_toArray, List.nil_append, List.cons_append, List.append_nil, h0, h1, h7, h8, xbin_add, w1, true_and]
      rw [if_neg (by simpa using he)] at heq
      exact ⟨k - 1, by omega, hx.trans hx3, i + 1, rfl, by omega, heq⟩
  · simp (decide := true) only [↓symD, symU, ↓XW_cond, Nat.reduceEqDiff, List.zip_cons_cons, List.zip_nil_left, Option.bind_some, Option.map_some, Option.map_none, List.map_toArray, List.map_cons, List.map_nil, ne_eq, List.append_toArray, List.nil_append, List.cons_append, List.append_nil]
    rw [← heq, firstIx_end _ l i (by omega)]
    exact ⟨hx, rfl⟩

theorem containsFunc_any {v : Value} {l : List Msg} (m : Msg) {S : St} (hv : RdS S v l) (hl : l.length ≤ 1000) (id id2 : Nat) (t t2 : TypeId) (an an2 : List Nat) (mi mi2 : Bool) (hid : id < S.next) (hm : S.get id = .cells m.cs t 5 mi an) (hid2 : id2 < S.next) (hp : S.get id2 = .cells [.pointer (some ⟨id, 0, none⟩)] t2 1 mi2 an2) :
    XC Try.prog 43 #[v, .func (.func 44) #[] #[.pointer (some ⟨id2, 0, none⟩)]] S fun r S' => Ext S S' ∧ r = .bool (l.any fun x => decide (x = m)) := by
  refine XC_body XF43 ?_
  simp (decide := true) only [↓symD, symU, ↓XW_cond, Nat.reduceEqDiff, List.zip_cons_cons, List.zip_nil_left, Option.bind_some, Option.map_some, Option.map_none, List.map_toArray, List.map_cons, List.map_nil, ne_eq, List.append_toArray, List.nil_append, List.cons_append, List.append_nil, xf43]
  refine XCall.of (indexFunc_any m hv hl id id2 t t2 an an2 mi mi2 hid hm hid2 hp) ?_
  rintro _ S1 ⟨hx, rfl⟩
  simp (decide := true) only [↓symD, symU, ↓XW_cond, Nat.reduceEqDiff, List.zip_cons_cons, List.zip_nil_left, Option.bind_some, Option.map_some, Option.map_none, List.map_toArray, List.map_cons, List.map_nil, ne_eq, List.append_toArray, List.nil_append, List.cons_append, List.append_nil, xbin_geq, firstIx_any, and_true]
  exact hx

theorem feeds_any {ra rb : RStep} {a b : Step} {S : St} (ha : Rep S ra a) (hb : Rep S rb b) (hl : a.sent.length ≤ 1000) :
    XC Try.prog 28 #[ra.v, rb.v] S fun r S' => Ext S S' ∧ r = .bool (feedsP a b) := by
  refine XC_body XF28 ?_
  simp (decide := true) only [↓symD, symU, ↓XW_cond, Nat.reduceEqDiff, List.zip_cons_cons, List.zip_nil_left, Option.bind_some, Option.map_some, Option.map_none, List.map_toArray, List.map_cons, List.map_nil, ne_eq, List.append_toArray, List.nil_append, List.cons_append, List.append_nil, St.get_alloc, next_alloc, ↓reduceIte, Nat.left_eq_add, Nat.add_eq_left, Nat.add_right_cancel_iff, Nat.add_left_cancel_iff, Blk.rd_cells, List.length_cons, List.length_nil, List.drop_zero, List.drop_succ_cons, List.take_succ_cons, List.take_zero, part1_agg, part1_one, Nat.zero_add, Nat.add_assoc, Nat.reduceAdd, Nat.reduceLeDiff, Nat.reduceLT, Nat.lt_add_right_iff_pos, Nat.add_lt_add_iff_left, reduceCtorEq, Nat.lt_add_one, St.get_write, St.next_write, List.not_mem_nil, if_false, xf28, boxc_step, step_len, tkStep]
  refine XCall_at fun S1 hS1 => ?_
  have hx0 : Ext S S1 := by rw [hS1]; exact (Ext.alloc _ _).trans (Ext.alloc _ _)
  have g0 : S1.get S.next = .cells ra.cs 41 11 true [] := by rw [hS1, get_alloc_ne _ _ _ (by simp), get_alloc_self]; rfl
  have n0 : S1.next = S.next + 2 := by rw [hS1]; rfl
  clear hS1
  refine XCall.of (consumed_any rb S1) ?_
  rintro u S2 ⟨hx2, hu⟩
  have hn2 := hx2.next
  have k0 : S2.get S.next = .cells ra.cs 41 11 true [] := by rw [hx2.get _ (by omega)]; exact g0
  obtain ⟨_, _, _, hsent⟩ := ha
  have hsent2 := (hsent.mono hx0).mono hx2
  cases hc : consumes rb.ev with
  | false =>
    rw [hc] at hu
    simp only [Bool.false_eq_true, if_false] at hu
    subst hu
    simp (decide := true) only [↓symD, symU, ↓XW_cond, Nat.reduceEqDiff, List.zip_cons_cons, List.zip_nil_left, Option.bind_some, Option.map_some, Option.map_none, List.map_toArray, List.map_cons, List.map_nil, ne_eq, List.append_toArray, List.nil_append, List.cons_append, List.append_nil, St.get_alloc, next_alloc, ↓reduceIte, Nat.left_eq_add, Nat.add_eq_left, Nat.add_right_cancel_iff, Nat.add_left_cancel_iff, Blk.rd_cells, List.length_cons, List.length_nil, List.drop_zero, List.drop_succ_cons, List.take_succ_cons, List.take_zero, part1_agg, part1_one, Nat.zero_add, Nat.add_assoc, Nat.reduceAdd, Nat.reduceLeDiff, Nat.reduceLT, Nat.lt_add_right_iff_pos, Nat.add_lt_add_iff_left, reduceCtorEq, Nat.lt_add_one, St.get_write, St.next_write, List.not_mem_nil, if_false, fillL, splice, rep, List.replicate_succ, List.replicate_zero, List.flatten_cons, List.flatten_nil, List.append_nil, List.nil_append, List.cons_append, Value.cells, List.append_assoc, and_self, true_and, and_true, List.size_toArray, List.length_cons, List.length_nil, Nat.zero_add, ↓reduceIte, List.take_zero, List.drop_zero, List.drop_succ_cons, List.take_succ_cons, Nat.reduceAdd, Nat.reduceLeDiff, Nat.reduceEqDiff, allOne_int, allOne_nil, List.toList_toArray, boxc_agg, blkOf_ptr, stv_cells, Nat.add_zero, boxc_ptr, eqpn_none]
    refine ⟨((hx0.trans hx2).trans (ext_box_write _ _ _ _ _)), ?_⟩
    have hb1 : consumes b.ev = false := by rw [← hb.1]; exact hc
    simp [feedsP, hb1]
  | true =>
    rw [hc] at hu
    simp only [if_true] at hu
    obtain ⟨id, rfl, hid, hget⟩ := hu
    have hne : ¬ S.next = S2.next := by omega
    simp (decide := true) only [↓symD, symU, ↓XW_cond, Nat.reduceEqDiff, List.zip_cons_cons, List.zip_nil_left, Option.bind_some, Option.map_some, Option.map_none, List.map_toArray, List.map_cons, List.map_nil, ne_eq, List.append_toArray, List.nil_append, List.cons_append, List.append_nil, St.get_alloc, next_alloc, ↓reduceIte, Nat.left_eq_add, Nat.add_eq_left, Nat.add_right_cancel_iff, Nat.add_left_cancel_iff, Blk.rd_cells, List.length_cons, List.length_nil, List.drop_zero, List.drop_succ_cons, List.take_succ_cons, List.take_zero, part1_agg, part1_one, Nat.zero_add, Nat.add_assoc, Nat.reduceAdd, Nat.reduceLeDiff, Nat.reduceLT, Nat.lt_add_right_iff_pos, Nat.add_lt_add_iff_left, reduceCtorEq, Nat.lt_add_one, St.get_write, St.next_write, List.not_mem_nil, if_false, fillL, splice, rep, List.replicate_succ, List.replicate_zero, List.flatten_cons, List.flatten_nil, List.append_nil, List.nil_append, List.cons_append, Value.cells, List.append_assoc, and_self, true_and, and_true, List.size_toArray, List.length_cons, List.length_nil, Nat.zero_add, ↓reduceIte, List.take_zero, List.drop_zero, List.drop_succ_cons, List.take_succ_cons, Nat.reduceAdd, Nat.reduceLeDiff, Nat.reduceEqDiff, allOne_int, allOne_nil, List.toList_toArray, boxc_agg, blkOf_ptr, stv_cells, Nat.add_zero, boxc_ptr, eqpn_some, k0, hne, step_len, tkSent]
    refine XCall_at fun S3 hS3 => ?_
    have hx3 : Ext S2 S3 := by rw [hS3]; exact ext_box_write _ _ _ _ _
    have p3 : S3.get S2.next = .cells [.pointer (some ⟨id, 0, none⟩)] 77 1 true [] := by rw [hS3]; exact get_write_self _ _ _ _ _ _
    have n3 : S3.next = S2.next + 1 := by rw [hS3]; simp
    clear hS3
    refine XCall.of (containsFunc_any (orig rb.ev) (hsent2.mono hx3) hl id S2.next _ _ _ _ _ _ (by omega) (by rw [hx3.get _ hid]; exact hget) (by omega) p3) ?_
    rintro _ S4 ⟨hx4, rfl⟩
    simp (decide := true) only [↓symD, symU, ↓XW_cond, Nat.reduceEqDiff, List.zip_cons_cons, List.zip_nil_left, Option.bind_some, Option.map_some, Option.map_none, List.map_toArray, List.map_cons, List.map_nil, ne_eq, List.append_toArray, List.nil_append, List.cons_append, List.append_nil]
    refine ⟨((hx0.trans hx2).trans hx3).trans hx4, ?_⟩
    have hb1 : consumes b.ev = true := by rw [← hb.1]; exact hc
    simp [feedsP, hb1, hb.1]
end
end Go.Proofs.Ytolfpchcmiljpaa

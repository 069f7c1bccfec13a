/- Dependent steps: the program and the reference. -/
import Derived.Test.YtolfpchcmiljpaaDb
set_option linter.unusedSimpArgs false
set_option linter.unusedSectionVars false
set_option maxRecDepth 10000
namespace Go.Proofs.Ytolfpchcmiljpaa
open Go Go.RowKit

theorem eqfv_cause (a b c a' b' c' : Int) : eqfv [1, 1, 1] false (.agg #[.int .i64 a, .int .i64 b, .int .i64 c]) (.agg #[.int .i64 a', .int .i64 b', .int .i64 c']) = some (.bool (decide (a = a' ∧ b = b' ∧ c = c'))) := by
  have e : decide (a = a' ∧ b = b' ∧ c = c') = (a == a' && (b == b' && c == c')) := by rw [Bool.eq_iff_iff]; simp
  rw [e]
  simp [eqfv, eqL, eq1, notIf]

theorem RdS.msgP {S : St} {v : Value} {l : List Msg} (h : RdS S v l) (i : Nat) (hi : i < l.length) : ∃ id o, iav 5 v (.int .i64 i) = some (.pointer (some ⟨id, o, none⟩)) ∧ id < S.next ∧ (S.get id).rd (o + 4) 1 = some [.int .i64 l[i].copy] ∧ (S.get id).rd o 3 = some [.int .i64 l[i].node, .int .i64 l[i].handler, .int .i64 l[i].count] ∧ (S.get id).rd (o + 3) 1 = some [.int .i64 l[i].index] ∧ (S.get id).rd o 5 = some l[i].cs := by
  obtain ⟨id, o, h1, h2, h3⟩ := h.at .i64 i hi
  exact ⟨id, o, h1, h2, h3 S rfl 4 1 (by decide), h3 S rfl 0 3 (by decide), h3 S rfl 3 1 (by decide), h3 S rfl 0 5 (by decide)⟩

theorem any_step {α : Type} (p : α → Bool) (l : List α) (i : Nat) (h : i < l.length) : (l.drop i).any p = (p l[i] || (l.drop (i + 1)).any p) := by
  rw [List.drop_eq_getElem_cons h, List.any_cons]

section
variable [Prim Try.prog]

theorem refFeeds_any {ra rb : RStep} {a b : Step} {S : St} (ha : Rep S ra a) (hb : Rep S rb b) (hl : a.sent.length ≤ 1000) :
    XC Try.prog 30 #[ra.v, rb.v] S fun r S' => Ext S S' ∧ r = .bool (feedsP a b) := by
  refine XC_body XF30 ?_
  obtain ⟨_, _, _, hsent⟩ := ha
  have hbe := hb.1
  by_cases hc : consumes rb.ev = true
  · have hk : rb.ev.kind = 3 ∨ rb.ev.kind = 5 ∨ rb.ev.kind = 6 := by simpa [consumes, or_assoc] using hc
    have hcb : consumes b.ev = true := by rw [← hbe]; exact hc
    rcases hk with hk | hk | hk
    all_goals
      simp (decide := true) only [↓symD, symU, ↓XW_cond, Nat.reduceEqDiff, List.zip_cons_cons, List.zip_nil_left, Option.bind_some, Option.map_some, Option.map_none, List.map_toArray, List.map_cons, List.map_nil, ne_eq, List.append_toArray, List.nil_append, List.cons_append, List.append_nil, St.get_alloc, next_alloc, ↓reduceIte, Nat.left_eq_add, Nat.add_eq_left, Nat.add_right_cancel_iff, Nat.add_left_cancel_iff, Blk.rd_cells, List.length_cons, List.length_nil, List.drop_zero, List.drop_succ_cons, List.take_succ_cons, List.take_zero, part1_agg, part1_one, Nat.zero_add, Nat.add_assoc, Nat.reduceAdd, Nat.reduceLeDiff, Nat.reduceLT, Nat.lt_add_right_iff_pos, Nat.add_lt_add_iff_left, reduceCtorEq, Nat.lt_add_one, St.get_write, St.next_write, List.not_mem_nil, if_false, ↓reduceIte, eq_self, Bool.false_eq_true, decide_true, decide_false, Int.reduceEq, Int.reduceLT, Int.reduceLE, Int.reduceNe, Int.reduceGT, Int.reduceGE, boxc_int, xf30, boxc_step, step_len, tkKind, xbin_neq, hk, not_true_eq_false]
      refine XLoop_at fun S1 hS1 => ?_
      have hx0 : Ext S S1 := by rw [hS1]; exact (Ext.alloc _ _).trans (Ext.alloc _ _)
      have g0 : S1.get S.next = .cells ra.cs 41 11 true [] := by rw [hS1, get_alloc_ne _ _ _ (by simp), get_alloc_self]; rfl
      have g1 : S1.get (S.next + 1) = .cells rb.cs 41 11 true [] := by rw [hS1]; exact get_alloc_self (S.alloc (.cells ra.cs 41 11 true [])) _
      have n0 : S1.next = S.next + 2 := by rw [hS1]; rfl
      clear hS1
      have hsent1 := hsent.mono hx0
      refine XW_loopR 0 (fun k fe S' => S' = S1 ∧ fe 2 = .pointer (some ⟨S.next, 0, none⟩) ∧ fe 3 = .pointer (some ⟨S.next + 1, 0, none⟩) ∧ ∃ i : Nat, fe 6 = .int .i64 i ∧ k + i = a.sent.length ∧ (a.sent.drop i).any (fun x => decide (x = orig b.ev)) = a.sent.any fun x => decide (x = orig b.ev))
        (fun fe S' => S' = S1 ∧ (a.sent.any fun x => decide (x = orig b.ev)) = false) a.sent.length ?_ ?_ ?_
      · simp (decide := true) only [↓symD, symU, ↓XW_cond, Nat.reduceEqDiff, List.zip_cons_cons, List.zip_nil_left, Option.bind_some, Option.map_some, Option.map_none, List.map_toArray, List.map_cons, List.map_nil, ne_eq, List.append_toArray, List.nil_append, List.cons_append, List.append_nil, true_and]
        exact ⟨0, rfl, by omega, rfl⟩
      · rintro k fe S2 ⟨e0, h2, h3, i, h6, hki, heq⟩
        subst e0
        simp (decide := true) only [↓symD, symU, ↓XW_cond, Nat.reduceEqDiff, List.zip_cons_cons, List.zip_nil_left, Option.bind_some, Option.map_some, Option.map_none, List.map_toArray, List.map_cons, List.map_nil, ne_eq, List.append_toArray, List.nil_append, List.cons_append, List.append_nil, h2, h3, h6, g0, rdSent, part1_one, hsent1.len, xbin_lss, Nat.zero_add]
        refine Test_dec (fun hlt => ?_) (fun hge => ?_)
        · obtain ⟨ix, o, e1, e2, e3, e4, e5, e6⟩ := hsent1.msgP i (by omega)
          rw [any_step _ a.sent i (by omega)] at heq
          have hcase : (decide (a.sent[i] = orig b.ev)) = (decide (a.sent[i].copy = 0) && (decide (a.sent[i].node = rb.ev.msg.node ∧ a.sent[i].handler = rb.ev.msg.handler ∧ a.sent[i].count = rb.ev.msg.count) && decide (a.sent[i].index = rb.ev.msg.index))) := by
            rw [Bool.eq_iff_iff, hbe]
            simp [Msg.eq_iff, orig]
            constructor
            · rintro ⟨q1, q2, q3, q4, q5⟩; exact ⟨q5, ⟨q1, q2, q3⟩, q4⟩
            · rintro ⟨q5, ⟨q1, q2, q3⟩, q4⟩; exact ⟨q1, q2, q3, q4, q5⟩
          rw [hcase] at heq
          clear hcase
          have w1 : w64 ((i : Int) + 1) = ((i + 1 : Nat) : Int) := by rw [w64_ok (by omega) (by omega)]; omega
          have l1 : S.next < S2.next := by omega
          have l2 : S.next + 1 < S2.next := by omega
          have er : ∀ o, o + 0 = o := fun o => rfl
          have cont : (decide (a.sent[i].copy = 0) && (decide (a.sent[i].node = rb.ev.msg.node ∧ a.sent[i].handler = rb.ev.msg.handler ∧ a.sent[i].count = rb.ev.msg.count) && decide (a.sent[i].index = rb.ev.msg.index))) = false → (a.sent.drop (i + 1)).any (fun x => decide (x = orig b.ev)) = a.sent.any fun x => decide (x = orig b.ev) := fun h => by rw [h] at heq; simpa using heq
          cases q1 : decide (a.sent[i].copy = 0) with
          | false =>
            simp (decide := true) only [↓symD, symU, ↓XW_cond, Nat.reduceEqDiff, List.zip_cons_cons, List.zip_nil_left, Option.bind_some, Option.map_some, Option.map_none, List.map_toArray, List.map_cons, List.map_nil, ne_eq, List.append_toArray, List.nil_append, List.cons_append, List.append_nil, h2, h3, h6, g0, g1, rdSent, rdCause, rdIndex, part1_one, part1_agg, Nat.zero_add, Nat.reduceAdd, e1, e2, e3, e4, e5, er, l1, l2, xbin_eql, xbin_add, q1, w1, true_and]
            exact ⟨k - 1, by omega, i + 1, rfl, by omega, cont (by rw [q1]; rfl)⟩
          | true =>
            cases q2 : decide (a.sent[i].node = rb.ev.msg.node ∧ a.sent[i].handler = rb.ev.msg.handler ∧ a.sent[i].count = rb.ev.msg.count) with
            | false =>
              simp (decide := true) only [↓symD, symU, ↓XW_cond, Nat.reduceEqDiff, List.zip_cons_cons, List.zip_nil_left, Option.bind_some, Option.map_some, Option.map_none, List.map_toArray, List.map_cons, List.map_nil, ne_eq, List.append_toArray, List.nil_append, List.cons_append, List.append_nil, h2, h3, h6, g0, g1, rdSent, rdCause, rdIndex, part1_one, part1_agg, Nat.zero_add, Nat.reduceAdd, e1, e2, e3, e4, e5, er, l1, l2, xbin_eql, xbin_add, eqfv_cause, q1, q2, w1, true_and]
              exact ⟨k - 1, by omega, i + 1, rfl, by omega, cont (by rw [q1, q2]; rfl)⟩
            | true =>
              cases q3 : decide (a.sent[i].index = rb.ev.msg.index) with
              | false =>
                simp (decide := true) only [↓symD, symU, ↓XW_cond, Nat.reduceEqDiff, List.zip_cons_cons, List.zip_nil_left, Option.bind_some, Option.map_some, Option.map_none, List.map_toArray, List.map_cons, List.map_nil, ne_eq, List.append_toArray, List.nil_append, List.cons_append, List.append_nil, h2, h3, h6, g0, g1, rdSent, rdCause, rdIndex, part1_one, part1_agg, Nat.zero_add, Nat.reduceAdd, e1, e2, e3, e4, e5, er, l1, l2, xbin_eql, xbin_add, eqfv_cause, q1, q2, q3, w1, true_and]
                exact ⟨k - 1, by omega, i + 1, rfl, by omega, cont (by rw [q1, q2, q3]; rfl)⟩
              | true =>
                simp (decide := true) only [↓symD, symU, ↓XW_cond, Nat.reduceEqDiff, List.zip_cons_cons, List.zip_nil_left, Option.bind_some, Option.map_some, Option.map_none, List.map_toArray, List.map_cons, List.map_nil, ne_eq, List.append_toArray, List.nil_append, List.cons_append, List.append_nil, h2, h3, h6, g0, g1, rdSent, rdCause, rdIndex, part1_one, part1_agg, Nat.zero_add, Nat.reduceAdd, e1, e2, e3, e4, e5, er, l1, l2, xbin_eql, eqfv_cause, q1, q2, q3]
                refine ⟨hx0, ?_⟩
                rw [q1, q2, q3] at heq
                simp only [feedsP, hcb, ← heq]
                rfl
        · simp (decide := true) only [↓symD, symU, ↓XW_cond, Nat.reduceEqDiff, List.zip_cons_cons, List.zip_nil_left, Option.bind_some, Option.map_some, Option.map_none, List.map_toArray, List.map_cons, List.map_nil, ne_eq, List.append_toArray, List.nil_append, List.cons_append, List.append_nil, true_and]
          rw [← heq, List.drop_of_length_le (by omega)]
          rfl
      · rintro fe _ ⟨rfl, h⟩
        simp (decide := true) only [↓symD, symU, ↓XW_cond, Nat.reduceEqDiff, List.zip_cons_cons, List.zip_nil_left, Option.bind_some, Option.map_some, Option.map_none, List.map_toArray, List.map_cons, List.map_nil, ne_eq, List.append_toArray, List.nil_append, List.cons_append, List.append_nil]
        exact ⟨hx0, by simp [feedsP, hcb, h]⟩
  · have hcb : consumes b.ev = false := by rw [← hbe]; simpa using hc
    have hk : rb.ev.kind ≠ 3 ∧ rb.ev.kind ≠ 5 ∧ rb.ev.kind ≠ 6 := by simpa [consumes, not_or, and_assoc] using hc
    have d3 : decide (rb.ev.kind ≠ 3) = true := decide_eq_true hk.1
    have d5 : decide (rb.ev.kind ≠ 5) = true := decide_eq_true hk.2.1
    have d6 : decide (rb.ev.kind ≠ 6) = true := decide_eq_true hk.2.2
    simp only [ne_eq] at d3 d5 d6
    simp (decide := true) only [↓symD, symU, ↓XW_cond, Nat.reduceEqDiff, List.zip_cons_cons, List.zip_nil_left, Option.bind_some, Option.map_some, Option.map_none, List.map_toArray, List.map_cons, List.map_nil, ne_eq, List.append_toArray, List.nil_append, List.cons_append, List.append_nil, St.get_alloc, next_alloc, ↓reduceIte, Nat.left_eq_add, Nat.add_eq_left, Nat.add_right_cancel_iff, Nat.add_left_cancel_iff, Blk.rd_cells, List.length_cons, List.length_nil, List.drop_zero, List.drop_succ_cons, List.take_succ_cons, List.take_zero, part1_agg, part1_one, Nat.zero_add, Nat.add_assoc, Nat.reduceAdd, Nat.reduceLeDiff, Nat.reduceLT, Nat.lt_add_right_iff_pos, Nat.add_lt_add_iff_left, reduceCtorEq, Nat.lt_add_one, St.get_write, St.next_write, List.not_mem_nil, if_false, xf30, boxc_step, step_len, tkKind, xbin_neq, d3, d5, d6]
    exact ⟨(Ext.alloc _ _).trans (Ext.alloc _ _), by simp [feedsP, hcb]⟩
theorem dependent_any {ra rb : RStep} {a b : Step} {S : St} (ha : Rep S ra a) (hb : Rep S rb b) (hla : a.sent.length ≤ 1000) (hlb : b.sent.length ≤ 1000) :
    XC Try.prog 25 #[ra.v, rb.v] S fun r S' => Ext S S' ∧ r = .bool (depP a b) := by
  refine XC_body XF25 ?_
  have hae := ha.1
  have hbe := hb.1
  have hao := ha.2.1
  have hbo := hb.2.1
  have hx0 : Ext S ((S.alloc (.cells ra.cs 41 ra.cs.length true [])).alloc (.cells rb.cs 41 rb.cs.length true [])) := (Ext.alloc _ _).trans (Ext.alloc _ _)
  cases q1 : decide (ra.ev.node = rb.ev.node) with
  | true =>
    simp (decide := true) only [↓symD, symU, ↓XW_cond, Nat.reduceEqDiff, List.zip_cons_cons, List.zip_nil_left, Option.bind_some, Option.map_some, Option.map_none, List.map_toArray, List.map_cons, List.map_nil, ne_eq, List.append_toArray, List.nil_append, List.cons_append, List.append_nil, St.get_alloc, next_alloc, ↓reduceIte, Nat.left_eq_add, Nat.add_eq_left, Nat.add_right_cancel_iff, Nat.add_left_cancel_iff, Blk.rd_cells, List.length_cons, List.length_nil, List.drop_zero, List.drop_succ_cons, List.take_succ_cons, List.take_zero, part1_agg, part1_one, Nat.zero_add, Nat.add_assoc, Nat.reduceAdd, Nat.reduceLeDiff, Nat.reduceLT, Nat.lt_add_right_iff_pos, Nat.add_lt_add_iff_left, reduceCtorEq, Nat.lt_add_one, St.get_write, St.next_write, List.not_mem_nil, if_false, xf25, boxc_step, step_len, tkNode, xbin_eql, Pick_undef, q1]
    refine ⟨hx0, ?_⟩
    rw [hae, hbe] at q1
    simp [depP, q1]
  | false =>
    have q1' := q1
    rw [hae, hbe] at q1'
    have rest : ∀ (o : Bool), o = false → (ra.obs && rb.obs) = o → depP a b = (feedsP a b || feedsP b a) := fun o h1 h2 => by
      rw [hao, hbo, h1] at h2
      simp only [depP, q1', h2, Bool.false_or]
    have go : ∀ S1, S1 = ((S.alloc (.cells ra.cs 41 ra.cs.length true [])).alloc (.cells rb.cs 41 rb.cs.length true [])) → Ext S S1 ∧ S1.get S.next = .cells ra.cs 41 11 true [] ∧ S1.get (S.next + 1) = .cells rb.cs 41 11 true [] ∧ S1.next = S.next + 2 := by
      intro S1 hS1
      refine ⟨by rw [hS1]; exact hx0, by rw [hS1, get_alloc_ne _ _ _ (by simp), get_alloc_self]; rfl, by rw [hS1]; exact get_alloc_self (S.alloc (.cells ra.cs 41 11 true [])) _, by rw [hS1]; rfl⟩
    cases q2 : ra.obs with
    | true =>
      cases q3 : rb.obs with
      | true =>
        simp (decide := true) only [↓symD, symU, ↓XW_cond, Nat.reduceEqDiff, List.zip_cons_cons, List.zip_nil_left, Option.bind_some, Option.map_some, Option.map_none, List.map_toArray, List.map_cons, List.map_nil, ne_eq, List.append_toArray, List.nil_append, List.cons_append, List.append_nil, St.get_alloc, next_alloc, ↓reduceIte, Nat.left_eq_add, Nat.add_eq_left, Nat.add_right_cancel_iff, Nat.add_left_cancel_iff, Blk.rd_cells, List.length_cons, List.length_nil, List.drop_zero, List.drop_succ_cons, List.take_succ_cons, List.take_zero, part1_agg, part1_one, Nat.zero_add, Nat.add_assoc, Nat.reduceAdd, Nat.reduceLeDiff, Nat.reduceLT, Nat.lt_add_right_iff_pos, Nat.add_lt_add_iff_left, reduceCtorEq, Nat.lt_add_one, St.get_write, St.next_write, List.not_mem_nil, if_false, xf25, boxc_step, step_len, tkNode, tkObs, xbin_eql, Pick_undef, q1, q2, q3]
        refine ⟨hx0, ?_⟩
        simp [depP, ← hao, ← hbo, q2, q3]
      | false =>
        rw [rest false rfl (by rw [q2, q3]; rfl)]
        simp (decide := true) only [↓symD, symU, ↓XW_cond, Nat.reduceEqDiff, List.zip_cons_cons, List.zip_nil_left, Option.bind_some, Option.map_some, Option.map_none, List.map_toArray, List.map_cons, List.map_nil, ne_eq, List.append_toArray, List.nil_append, List.cons_append, List.append_nil, St.get_alloc, next_alloc, ↓reduceIte, Nat.left_eq_add, Nat.add_eq_left, Nat.add_right_cancel_iff, Nat.add_left_cancel_iff, Blk.rd_cells, List.length_cons, List.length_nil, List.drop_zero, List.drop_succ_cons, List.take_succ_cons, List.take_zero, part1_agg, part1_one, Nat.zero_add, Nat.add_assoc, Nat.reduceAdd, Nat.reduceLeDiff, Nat.reduceLT, Nat.lt_add_right_iff_pos, Nat.add_lt_add_iff_left, reduceCtorEq, Nat.lt_add_one, St.get_write, St.next_write, List.not_mem_nil, if_false, xf25, boxc_step, step_len, tkNode, tkObs, tkStep, xbin_eql, Pick_undef, q1, q2, q3]
        refine XCall_at fun S1 hS1 => ?_
        obtain ⟨hx1, g0, g1, n1⟩ := go S1 hS1
        clear hS1
        refine XCall.of (feeds_any (ha.mono hx1) (hb.mono hx1) hla) ?_
        rintro _ S2 ⟨hx2, rfl⟩
        have k0 : S2.get S.next = .cells ra.cs 41 11 true [] := by rw [hx2.get _ (by omega)]; exact g0
        have k1 : S2.get (S.next + 1) = .cells rb.cs 41 11 true [] := by rw [hx2.get _ (by omega)]; exact g1
        cases feedsP a b with
        | true =>
          simp (decide := true) only [↓symD, symU, ↓XW_cond, Nat.reduceEqDiff, List.zip_cons_cons, List.zip_nil_left, Option.bind_some, Option.map_some, Option.map_none, List.map_toArray, List.map_cons, List.map_nil, ne_eq, List.append_toArray, List.nil_append, List.cons_append, List.append_nil]
          exact ⟨hx1.trans hx2, rfl⟩
        | false =>
          simp (decide := true) only [↓symD, symU, ↓XW_cond, Nat.reduceEqDiff, List.zip_cons_cons, List.zip_nil_left, Option.bind_some, Option.map_some, Option.map_none, List.map_toArray, List.map_cons, List.map_nil, ne_eq, List.append_toArray, List.nil_append, List.cons_append, List.append_nil, k0, k1, rdStep, part1_agg]
          refine XCall.of (feeds_any ((hb.mono hx1).mono hx2) ((ha.mono hx1).mono hx2) hlb) ?_
          rintro _ S3 ⟨hx3, rfl⟩
          simp (decide := true) only [↓symD, symU, ↓XW_cond, Nat.reduceEqDiff, List.zip_cons_cons, List.zip_nil_left, Option.bind_some, Option.map_some, Option.map_none, List.map_toArray, List.map_cons, List.map_nil, ne_eq, List.append_toArray, List.nil_append, List.cons_append, List.append_nil, Bool.false_or, and_true]
          exact (hx1.trans hx2).trans hx3
    | false =>
      rw [rest false rfl (by rw [q2]; rfl)]
      simp (decide := true) only [↓symD, symU, ↓XW_cond, Nat.reduceEqDiff, List.zip_cons_cons, List.zip_nil_left, Option.bind_some, Option.map_some, Option.map_none, List.map_toArray, List.map_cons, List.map_nil, ne_eq, List.append_toArray, List.nil_append, List.cons_append, List.append_nil, St.get_alloc, next_alloc, ↓reduceIte, Nat.left_eq_add, Nat.add_eq_left, Nat.add_right_cancel_iff, Nat.add_left_cancel_iff, Blk.rd_cells, List.length_cons, List.length_nil, List.drop_zero, List.drop_succ_cons, List.take_succ_cons, List.take_zero, part1_agg, part1_one, Nat.zero_add, Nat.add_assoc, Nat.reduceAdd, Nat.reduceLeDiff, Nat.reduceLT, Nat.lt_add_right_iff_pos, Nat.add_lt_add_iff_left, reduceCtorEq, Nat.lt_add_one, St.get_write, St.next_write, List.not_mem_nil, if_false, xf25, boxc_step, step_len, tkNode, tkObs, tkStep, xbin_eql, Pick_undef, q1, q2]
      refine XCall_at fun S1 hS1 => ?_
      obtain ⟨hx1, g0, g1, n1⟩ := go S1 hS1
      clear hS1
      refine XCall.of (feeds_any (ha.mono hx1) (hb.mono hx1) hla) ?_
      rintro _ S2 ⟨hx2, rfl⟩
      have k0 : S2.get S.next = .cells ra.cs 41 11 true [] := by rw [hx2.get _ (by omega)]; exact g0
      have k1 : S2.get (S.next + 1) = .cells rb.cs 41 11 true [] := by rw [hx2.get _ (by omega)]; exact g1
      cases feedsP a b with
      | true =>
        simp (decide := true) only [↓symD, symU, ↓XW_cond, Nat.reduceEqDiff, List.zip_cons_cons, List.zip_nil_left, Option.bind_some, Option.map_some, Option.map_none, List.map_toArray, List.map_cons, List.map_nil, ne_eq, List.append_toArray, List.nil_append, List.cons_append, List.append_nil]
        exact ⟨hx1.trans hx2, rfl⟩
      | false =>
        simp (decide := true) only [↓symD, symU, ↓XW_cond, Nat.reduceEqDiff, List.zip_cons_cons, List.zip_nil_left, Option.bind_some, Option.map_some, Option.map_none, List.map_toArray, List.map_cons, List.map_nil, ne_eq, List.append_toArray, List.nil_append, List.cons_append, List.append_nil, k0, k1, rdStep, part1_agg]
        refine XCall.of (feeds_any ((hb.mono hx1).mono hx2) ((ha.mono hx1).mono hx2) hlb) ?_
        rintro _ S3 ⟨hx3, rfl⟩
        simp (decide := true) only [↓symD, symU, ↓XW_cond, Nat.reduceEqDiff, List.zip_cons_cons, List.zip_nil_left, Option.bind_some, Option.map_some, Option.map_none, List.map_toArray, List.map_cons, List.map_nil, ne_eq, List.append_toArray, List.nil_append, List.cons_append, List.append_nil, Bool.false_or, and_true]
        exact (hx1.trans hx2).trans hx3

theorem refDependent_any {ra rb : RStep} {a b : Step} {S : St} (ha : Rep S ra a) (hb : Rep S rb b) (hla : a.sent.length ≤ 1000) (hlb : b.sent.length ≤ 1000) :
    XC Try.prog 29 #[ra.v, rb.v] S fun r S' => Ext S S' ∧ r = .bool (depP a b) := by
  refine XC_body XF29 ?_
  have hae := ha.1
  have hbe := hb.1
  have hao := ha.2.1
  have hbo := hb.2.1
  have hx0 : Ext S ((S.alloc (.cells ra.cs 41 ra.cs.length true [])).alloc (.cells rb.cs 41 rb.cs.length true [])) := (Ext.alloc _ _).trans (Ext.alloc _ _)
  cases q1 : decide (ra.ev.node = rb.ev.node) with
  | true =>
    simp (decide := true) only [↓symD, symU, ↓XW_cond, Nat.reduceEqDiff, List.zip_cons_cons, List.zip_nil_left, Option.bind_some, Option.map_some, Option.map_none, List.map_toArray, List.map_cons, List.map_nil, ne_eq, List.append_toArray, List.nil_append, List.cons_append, List.append_nil, St.get_alloc, next_alloc, ↓reduceIte, Nat.left_eq_add, Nat.add_eq_left, Nat.add_right_cancel_iff, Nat.add_left_cancel_iff, Blk.rd_cells, List.length_cons, List.length_nil, List.drop_zero, List.drop_succ_cons, List.take_succ_cons, List.take_zero, part1_agg, part1_one, Nat.zero_add, Nat.add_assoc, Nat.reduceAdd, Nat.reduceLeDiff, Nat.reduceLT, Nat.lt_add_right_iff_pos, Nat.add_lt_add_iff_left, reduceCtorEq, Nat.lt_add_one, St.get_write, St.next_write, List.not_mem_nil, if_false, xf29, boxc_step, step_len, tkNode, xbin_eql, Pick_undef, q1]
    refine ⟨hx0, ?_⟩
    rw [hae, hbe] at q1
    simp [depP, q1]
  | false =>
    have q1' := q1
    rw [hae, hbe] at q1'
    have rest : ∀ (o : Bool), o = false → (ra.obs && rb.obs) = o → depP a b = (feedsP a b || feedsP b a) := fun o h1 h2 => by
      rw [hao, hbo, h1] at h2
      simp only [depP, q1', h2, Bool.false_or]
    have go : ∀ S1, S1 = ((S.alloc (.cells ra.cs 41 ra.cs.length true [])).alloc (.cells rb.cs 41 rb.cs.length true [])) → Ext S S1 ∧ S1.get S.next = .cells ra.cs 41 11 true [] ∧ S1.get (S.next + 1) = .cells rb.cs 41 11 true [] ∧ S1.next = S.next + 2 := by
      intro S1 hS1
      refine ⟨by rw [hS1]; exact hx0, by rw [hS1, get_alloc_ne _ _ _ (by simp), get_alloc_self]; rfl, by rw [hS1]; exact get_alloc_self (S.alloc (.cells ra.cs 41 11 true [])) _, by rw [hS1]; rfl⟩
    cases q2 : ra.obs with
    | true =>
      cases q3 : rb.obs with
      | true =>
        simp (decide := true) only [↓symD, symU, ↓XW_cond, Nat.reduceEqDiff, List.zip_cons_cons, List.zip_nil_left, Option.bind_some, Option.map_some, Option.map_none, List.map_toArray, List.map_cons, List.map_nil, ne_eq, List.append_toArray, List.nil_append, List.cons_append, List.append_nil, St.get_alloc, next_alloc, ↓reduceIte, Nat.left_eq_add, Nat.add_eq_left, Nat.add_right_cancel_iff, Nat.add_left_cancel_iff, Blk.rd_cells, List.length_cons, List.length_nil, List.drop_zero, List.drop_succ_cons, List.take_succ_cons, List.take_zero, part1_agg, part1_one, Nat.zero_add, Nat.add_assoc, Nat.reduceAdd, Nat.reduceLeDiff, Nat.reduceLT, Nat.lt_add_right_iff_pos, Nat.add_lt_add_iff_left, reduceCtorEq, Nat.lt_add_one, St.get_write, St.next_write, List.not_mem_nil, if_false, xf29, boxc_step, step_len, tkNode, tkObs, xbin_eql, Pick_undef, q1, q2, q3]
        refine ⟨hx0, ?_⟩
        simp [depP, ← hao, ← hbo, q2, q3]
      | false =>
        rw [rest false rfl (by rw [q2, q3]; rfl)]
        simp (decide := true) only [↓symD, symU, ↓XW_cond, Nat.reduceEqDiff, List.zip_cons_cons, List.zip_nil_left, Option.bind_some, Option.map_some, Option.map_none, List.map_toArray, List.map_cons, List.map_nil, ne_eq, List.append_toArray, List.nil_append, List.cons_append, List.append_nil, St.get_alloc, next_alloc, ↓reduceIte, Nat.left_eq_add, Nat.add_eq_left, Nat.add_right_cancel_iff, Nat.add_left_cancel_iff, Blk.rd_cells, List.length_cons, List.length_nil, List.drop_zero, List.drop_succ_cons, List.take_succ_cons, List.take_zero, part1_agg, part1_one, Nat.zero_add, Nat.add_assoc, Nat.reduceAdd, Nat.reduceLeDiff, Nat.reduceLT, Nat.lt_add_right_iff_pos, Nat.add_lt_add_iff_left, reduceCtorEq, Nat.lt_add_one, St.get_write, St.next_write, List.not_mem_nil, if_false, xf29, boxc_step, step_len, tkNode, tkObs, tkStep, xbin_eql, Pick_undef, q1, q2, q3]
        refine XCall_at fun S1 hS1 => ?_
        obtain ⟨hx1, g0, g1, n1⟩ := go S1 hS1
        clear hS1
        refine XCall.of (refFeeds_any (ha.mono hx1) (hb.mono hx1) hla) ?_
        rintro _ S2 ⟨hx2, rfl⟩
        have k0 : S2.get S.next = .cells ra.cs 41 11 true [] := by rw [hx2.get _ (by omega)]; exact g0
        have k1 : S2.get (S.next + 1) = .cells rb.cs 41 11 true [] := by rw [hx2.get _ (by omega)]; exact g1
        cases feedsP a b with
        | true =>
          simp (decide := true) only [↓symD, symU, ↓XW_cond, Nat.reduceEqDiff, List.zip_cons_cons, List.zip_nil_left, Option.bind_some, Option.map_some, Option.map_none, List.map_toArray, List.map_cons, List.map_nil, ne_eq, List.append_toArray, List.nil_append, List.cons_append, List.append_nil]
          exact ⟨hx1.trans hx2, rfl⟩
        | false =>
          simp (decide := true) only [↓symD, symU, ↓XW_cond, Nat.reduceEqDiff, List.zip_cons_cons, List.zip_nil_left, Option.bind_some, Option.map_some, Option.map_none, List.map_toArray, List.map_cons, List.map_nil, ne_eq, List.append_toArray, List.nil_append, List.cons_append, List.append_nil, k0, k1, rdStep, part1_agg]
          refine XCall.of (refFeeds_any ((hb.mono hx1).mono hx2) ((ha.mono hx1).mono hx2) hlb) ?_
          rintro _ S3 ⟨hx3, rfl⟩
          simp (decide := true) only [↓symD, symU, ↓XW_cond, Nat.reduceEqDiff, List.zip_cons_cons, List.zip_nil_left, Option.bind_some, Option.map_some, Option.map_none, List.map_toArray, List.map_cons, List.map_nil, ne_eq, List.append_toArray, List.nil_append, List.cons_append, List.append_nil, Bool.false_or, and_true]
          exact (hx1.trans hx2).trans hx3
    | false =>
      rw [rest false rfl (by rw [q2]; rfl)]
      simp (decide := true) only [↓symD, symU, ↓XW_cond, Nat.reduceEqDiff, List.zip_cons_cons, List.zip_nil_left, Option.bind_some, Option.map_some, Option.map_none, List.map_toArray, List.map_cons, List.map_nil, ne_eq, List.append_toArray, List.nil_append, List.cons_append, List.append_nil, St.get_alloc, next_alloc, ↓reduceIte, Nat.left_eq_add, Nat.add_eq_left, Nat.add_right_cancel_iff, Nat.add_left_cancel_iff, Blk.rd_cells, List.length_cons, List.length_nil, List.drop_zero, List.drop_succ_cons, List.take_succ_cons, List.take_zero, part1_agg, part1_one, Nat.zero_add, Nat.add_assoc, Nat.reduceAdd, Nat.reduceLeDiff, Nat.reduceLT, Nat.lt_add_right_iff_pos, Nat.add_lt_add_iff_left, reduceCtorEq, Nat.lt_add_one, St.get_write, St.next_write, List.not_mem_nil, if_false, xf29, boxc_step, step_len, tkNode, tkObs, tkStep, xbin_eql, Pick_undef, q1, q2]
      refine XCall_at fun S1 hS1 => ?_
      obtain ⟨hx1, g0, g1, n1⟩ := go S1 hS1
      clear hS1
      refine XCall.of (refFeeds_any (ha.mono hx1) (hb.mono hx1) hla) ?_
      rintro _ S2 ⟨hx2, rfl⟩
      have k0 : S2.get S.next = .cells ra.cs 41 11 true [] := by rw [hx2.get _ (by omega)]; exact g0
      have k1 : S2.get (S.next + 1) = .cells rb.cs 41 11 true [] := by rw [hx2.get _ (by omega)]; exact g1
      cases feedsP a b with
      | true =>
        simp (decide := true) only [↓symD, symU, ↓XW_cond, Nat.reduceEqDiff, List.zip_cons_cons, List.zip_nil_left, Option.bind_some, Option.map_some, Option.map_none, List.map_toArray, List.map_cons, List.map_nil, ne_eq, List.append_toArray, List.nil_append, List.cons_append, List.append_nil]
        exact ⟨hx1.trans hx2, rfl⟩
      | false =>
        simp (decide := true) only [↓symD, symU, ↓XW_cond, Nat.reduceEqDiff, List.zip_cons_cons, List.zip_nil_left, Option.bind_some, Option.map_some, Option.map_none, List.map_toArray, List.map_cons, List.map_nil, ne_eq, List.append_toArray, List.nil_append, List.cons_append, List.append_nil, k0, k1, rdStep, part1_agg]
        refine XCall.of (refFeeds_any ((hb.mono hx1).mono hx2) ((ha.mono hx1).mono hx2) hlb) ?_
        rintro _ S3 ⟨hx3, rfl⟩
        simp (decide := true) only [↓symD, symU, ↓XW_cond, Nat.reduceEqDiff, List.zip_cons_cons, List.zip_nil_left, Option.bind_some, Option.map_some, Option.map_none, List.map_toArray, List.map_cons, List.map_nil, ne_eq, List.append_toArray, List.nil_append, List.cons_append, List.append_nil, Bool.false_or, and_true]
        exact (hx1.trans hx2).trans hx3

end
end Go.Proofs.Ytolfpchcmiljpaa

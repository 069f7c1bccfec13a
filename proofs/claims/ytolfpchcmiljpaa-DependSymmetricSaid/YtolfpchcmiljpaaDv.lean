/- The reference's Swap, equal runs, and the law DependSwap. -/
import Derived.Test.YtolfpchcmiljpaaDu
set_option linter.unusedSimpArgs false
set_option linter.unusedSectionVars false
set_option maxRecDepth 10000
namespace Go.Proofs.Ytolfpchcmiljpaa
open Go Go.RowKit

theorem eqbN (a b : Bool) : eqbv true (.bool a) (.bool b) = some (.bool (!(a == b))) := Eq.trans rfl rfl
theorem eqfv_askT (m : Ask) : eqfv [1, 1, 1, 1, 1, 1, 1] true m.v m.v = some (.bool false) := by rw [eqfv_ask]; simp [notIf]
theorem eqfv_msgT (m : Msg) : eqfv [1, 1, 1, 1, 1] true m.v m.v = some (.bool false) := by rw [eqfv_msg]; simp [notIf]
theorem RdS.askP {S : St} {v : Value} {l : List Ask} (h : RdS S v l) (i : Nat) (hi : i < l.length) : ∃ id o, iav 7 v (.int .i64 i) = some (.pointer (some ⟨id, o, none⟩)) ∧ id < S.next ∧ (S.get id).rd o 7 = some l[i].cs := h.get .i64 i hi
theorem GoodS.short {s : Step} (h : GoodS s) : Short s := ⟨Nat.le_trans h.1 (by decide), Nat.le_trans h.2.1 (by decide)⟩

theorem swapL_mem {l : List Step} {i : Nat} {s : Step} (h : s ∈ swapL l i) : s ∈ l := by
  unfold swapL at h
  split at h
  · rename_i a b ha hb
    rcases List.mem_or_eq_of_mem_set h with h | rfl
    · rcases List.mem_or_eq_of_mem_set h with h | rfl
      · exact h
      · exact List.mem_of_getElem? hb
    · exact List.mem_of_getElem? ha
  · exact h
theorem swapL_len (l : List Step) (i : Nat) : (swapL l i).length = l.length := by
  unfold swapL
  split <;> simp
theorem swapR_len (l : List Step) (i : Int) : (swapR l i).length ≤ l.length := by
  unfold swapR
  split
  · rw [swapL_len]; exact Nat.le_refl _
  · simp
theorem swapR_short {l : List Step} (h : ∀ j (h : j < l.length), Short l[j]) (i : Int) : ∀ j (h : j < (swapR l i).length), Short (swapR l i)[j] := by
  intro j hj
  have hm : (swapR l i)[j] ∈ l := by
    have := List.getElem_mem hj
    unfold swapR at this ⊢
    split at this
    · rename_i e
      simp only [e, if_pos]
      exact swapL_mem this
    · cases this
  obtain ⟨k, hk, e⟩ := List.getElem_of_mem hm
  rw [← e]
  exact h k hk

section
variable [Prim Try.prog]

theorem refSwap_any {v : Value} {l : List Step} {S : St} (hr : Run S v l) (hl : l.length ≤ 64) (hs : ∀ j (h : j < l.length), Short l[j]) (i : Int) (hi0 : -9223372036854775808 ≤ i) (hi1 : i ≤ 9223372036854775807) :
    XC Try.prog 20 #[v, .int .i64 i] S fun r S' => Ext S S' ∧ ∃ w, r = .tuple #[w, .int .i64 (swapE l i)] ∧ Run S' w (swapR l i) := by
  refine XC_body XF20 ?_
  have w2 : w64 ((l.length : Int) - 2) = (l.length : Int) - 2 := w64_ok (by omega) (by omega)
  by_cases h0 : i < 0
  · have c0 : decide (i < 0) = true := decide_eq_true h0
    simp (decide := true) only [↓symD, symU, ↓XW_cond, Nat.reduceEqDiff, List.zip_cons_cons, List.zip_nil_left, Option.bind_some, Option.map_some, Option.map_none, List.map_toArray, List.map_cons, List.map_nil, ne_eq, List.append_toArray, List.nil_append, List.cons_append, List.append_nil, xf20, xbin_lss, c0, Pick_undef]
    have e : swapE l i = 1 := swapE_out (.inl h0)
    refine ⟨Ext.refl _, _, by rw [e], ?_⟩
    unfold swapR
    rw [e, if_neg (by decide)]
    exact ⟨[], RdS.nil _, All2.nil _⟩
  · have c0 : decide (i < 0) = false := decide_eq_false h0
    by_cases h1 : i > (l.length : Int) - 2
    · have c1 : decide (i > (l.length : Int) - 2) = true := decide_eq_true h1
      simp (decide := true) only [↓symD, symU, ↓XW_cond, Nat.reduceEqDiff, List.zip_cons_cons, List.zip_nil_left, Option.bind_some, Option.map_some, Option.map_none, List.map_toArray, List.map_cons, List.map_nil, ne_eq, List.append_toArray, List.nil_append, List.cons_append, List.append_nil, xf20, xbin_lss, c0, hr.len, xbin_sub, w2, xbin_gtr, c1]
      have e : swapE l i = 1 := swapE_out (.inr h1)
      refine ⟨Ext.refl _, _, by rw [e], ?_⟩
      unfold swapR
      rw [e, if_neg (by decide)]
      exact ⟨[], RdS.nil _, All2.nil _⟩
    · have c1 : decide (i > (l.length : Int) - 2) = false := decide_eq_false h1
      obtain ⟨i, rfl⟩ : ∃ n : Nat, i = (n : Int) := ⟨i.toNat, by omega⟩
      have hi : i + 1 < l.length := by omega
      have wi : w64 ((i : Int) + 1) = ((i + 1 : Nat) : Int) := w64_add1 i (by omega)
      obtain ⟨ia, oa, ra, a1, a2, a3, a4⟩ := hr.step i (by omega)
      obtain ⟨ib, ob, rb, b1, b2, b3, b4⟩ := hr.step (i + 1) hi
      simp (decide := true) only [↓symD, symU, ↓XW_cond, Nat.reduceEqDiff, List.zip_cons_cons, List.zip_nil_left, Option.bind_some, Option.map_some, Option.map_none, List.map_toArray, List.map_cons, List.map_nil, ne_eq, List.append_toArray, List.nil_append, List.cons_append, List.append_nil, xf20, xbin_lss, c0, hr.len, xbin_sub, w2, xbin_gtr, c1, a1, a3, xbin_add, wi, b1, b3, part1_agg]
      refine XCall.of (refDependent_any a4 b4 (hs i (by omega)).1 (hs (i + 1) hi).1) ?_
      rintro _ S1 ⟨hx1, rfl⟩
      have hdp : dp l i (i + 1) = depP l[i] l[i + 1] := dp_of (by omega) hi
      cases hd : depP l[i] l[i + 1] with
      | true =>
        have e : swapE l i = 5 := by rw [swapE_in hi, hdp, hd, if_pos rfl]
        simp (decide := true) only [↓symD, symU, ↓XW_cond, Nat.reduceEqDiff, List.zip_cons_cons, List.zip_nil_left, Option.bind_some, Option.map_some, Option.map_none, List.map_toArray, List.map_cons, List.map_nil, ne_eq, List.append_toArray, List.nil_append, List.cons_append, List.append_nil]
        refine ⟨hx1, _, by rw [e], ?_⟩
        unfold swapR
        rw [e, if_neg (by decide)]
        exact ⟨[], RdS.nil _, All2.nil _⟩
      | false =>
        have e : swapE l i = 0 := by rw [swapE_in hi, hdp, hd, if_neg (by decide)]
        clear a1 a2 a3 a4 b1 b2 b3 b4
        obtain ⟨rs, hrd, hall⟩ := hr.mono hx1
        have hrl := hall.1
        obtain ⟨w, S2, e1, o2, f2⟩ := (Own.made S1 ([] : List RStep) 41 S1.next (Nat.le_refl _) 0 rfl [] rfl).append (hrd.mono (Ext.alloc _ _)) (by simp) 41 120 (reach_le (by simp; omega)) (by decide)
        have e1' : xappend 41 11 120 (.slice (some ⟨S1.next, 0, none⟩) 0 0) v (S1.alloc (.cells [] 41 11 true [])) = some (w, S2) := e1
        rw [List.nil_append] at o2
        have f2 : Fr S1.next S1 S2 := (Fr.alloc S1 _ (Nat.le_refl _)).trans f2
        obtain ⟨x1, y1, cs1, t1, z1, an1, s1, s2, s3, s4⟩ := o2.store i (by omega) (rs[i + 1]'(by omega))
        obtain ⟨x2, y2, cs2, t2, z2, an2, r1, r2, r3, r4⟩ := s3.store (i + 1) (by simp; omega) (rs[i]'(by omega))
        obtain ⟨i2, o2', q1, q2, q3⟩ := (hrd.mono f2.ext).get .i64 (i + 1) (by omega)
        obtain ⟨i1, o1', p1, p2, p3⟩ := (hrd.mono (f2.trans s4).ext).get .i64 i (by omega)
        have s1' : iav 11 w (.int .i64 i) = some (.pointer (some ⟨x1, y1, none⟩)) := s1
        have r1' : iav 11 w (.int .i64 (i + 1 : Nat)) = some (.pointer (some ⟨x2, y2, none⟩)) := r1
        have q1' : iav 11 v (.int .i64 (i + 1 : Nat)) = some (.pointer (some ⟨i2, o2', none⟩)) := q1
        have p1' : iav 11 v (.int .i64 i) = some (.pointer (some ⟨i1, o1', none⟩)) := p1
        have q3' : (S2.get i2).rd o2' 11 = some (RStep.cs (rs[i + 1]'(by omega))) := q3
        have p3' : ((S2.write x1 cs1 t1 z1 an1).get i1).rd o1' 11 = some (RStep.cs (rs[i]'(by omega))) := p3
        have s2' : stv 11 (RStep.cs (rs[i + 1]'(by omega))) y1 (S2.get x1) = some (cs1, t1, z1, an1) := s2
        have r2' : stv 11 (RStep.cs (rs[i]'(by omega))) y2 ((S2.write x1 cs1 t1 z1 an1).get x2) = some (cs2, t2, z2, an2) := r2
        have hset : All2 (Rep S1) ((rs.set i (rs[i + 1]'(by omega))).set (i + 1) (rs[i]'(by omega))) ((l.set i l[i + 1]).set (i + 1) (l[i]'(by omega))) :=
          (hall.set i (hall.2 (i + 1) (by omega) hi)).set (i + 1) (hall.2 i (by omega) (by omega))
        generalize rs[i]'(by omega) = ri at p3' r2' hset r3
        generalize rs[i + 1]'(by omega) = rk at q3' s2' hset r3 s3
        have f3 := ((f2.trans s4).trans r4).ext
        generalize hW : (S2.write x1 cs1 t1 z1 an1).write x2 cs2 t2 z2 an2 = S4 at f3 r3
        simp (decide := true) only [↓symD, symU, ↓XW_cond, Nat.reduceEqDiff, List.zip_cons_cons, List.zip_nil_left, Option.bind_some, Option.map_some, Option.map_none, List.map_toArray, List.map_cons, List.map_nil, ne_eq, List.append_toArray, List.nil_append, List.cons_append, List.append_nil, fillL, splice, rep, List.replicate_succ, List.replicate_zero, List.flatten_cons, List.flatten_nil, List.append_nil, List.nil_append, List.cons_append, Value.cells, List.append_assoc, and_self, true_and, and_true, List.size_toArray, List.length_cons, List.length_nil, Nat.zero_add, ↓reduceIte, List.take_zero, List.drop_zero, List.drop_succ_cons, List.take_succ_cons, Nat.reduceAdd, Nat.reduceLeDiff, Nat.reduceEqDiff, allOne_int, allOne_nil, List.toList_toArray, blkOf_ptr, Nat.add_zero, e1', xbin_add, wi, q1', q3', p1', p3', s1', r1', part1_agg, boxc_step, blkOf_ptr, s2', r2', hW]
        refine ⟨hx1.trans f3, w, by rw [e], ?_⟩
        unfold swapR
        rw [e, if_pos rfl, Int.toNat_natCast, swapL_of hi]
        exact ⟨_, r3.rd, hset.imp fun a b k => k.mono f3⟩

theorem sameStep_any {r r' : RStep} {s : Step} {S : St} (h : Rep S r s) (h' : Rep S r' s) (hs : Short s) :
    XC Try.prog 36 #[r.v, r'.v] S fun u S' => Ext S S' ∧ u = .bool true := by
  refine XC_body XF36 ?_
  have hxB : Ext S ((S.alloc (.cells r.cs 41 11 true [])).alloc (.cells r'.cs 41 11 true [])) := (Ext.alloc _ _).trans (Ext.alloc _ _)
  have g1 : ((S.alloc (.cells r.cs 41 11 true [])).alloc (.cells r'.cs 41 11 true [])).get S.next = .cells r.cs 41 11 true [] := by rw [get_alloc_ne _ _ _ (by simp), get_alloc_self]
  have g2 : ((S.alloc (.cells r.cs 41 11 true [])).alloc (.cells r'.cs 41 11 true [])).get (S.next + 1) = .cells r'.cs 41 11 true [] := get_alloc_self (S.alloc (.cells r.cs 41 11 true [])) _
  generalize hB : (S.alloc (.cells r.cs 41 11 true [])).alloc (.cells r'.cs 41 11 true []) = SB at hxB g1 g2
  have q1 : eqfv [1, 1, 1, 1, 1, 1, 1, 1] true r.ev.v r'.ev.v = some (.bool false) := by rw [eqfv_ev, h.1, h'.1]; simp [notIf]
  have q2 : (!(r.obs == r'.obs)) = false := by rw [h.2.1, h'.2.1]; simp
  have a1 := h.2.2.1.mono hxB
  have a2 := h'.2.2.1.mono hxB
  have m1 := h.2.2.2.mono hxB
  have m2 := h'.2.2.2.mono hxB
  simp (decide := true) only [↓symD, symU, ↓XW_cond, Nat.reduceEqDiff, List.zip_cons_cons, List.zip_nil_left, Option.bind_some, Option.map_some, Option.map_none, List.map_toArray, List.map_cons, List.map_nil, ne_eq, List.append_toArray, List.nil_append, List.cons_append, List.append_nil, xf36, boxc_step, step_len, hB, g1, g2, Nat.zero_add, rdEv, part1_agg, part1_one, q1, rdObs, eqbN, q2, rdAsks, rdSent, a1.len, a2.len, m1.len, m2.len, xbin_neq, not_true_eq_false, decide_false]
  refine XW_loopR 0 (fun m fe S' => S' = SB ∧ fe 2 = .pointer (some ⟨S.next, 0, none⟩) ∧ fe 3 = .pointer (some ⟨S.next + 1, 0, none⟩) ∧ ∃ k : Nat, fe 5 = .int .i64 k ∧ m + k = s.asks.length) (fun fe S' => S' = SB ∧ fe 2 = .pointer (some ⟨S.next, 0, none⟩) ∧ fe 3 = .pointer (some ⟨S.next + 1, 0, none⟩)) s.asks.length ?_ ?_ ?_
  · have hB' : ∀ S', S' = (S.alloc (.cells r.cs 41 11 true [])).alloc (.cells r'.cs 41 11 true []) → S' = SB := fun S' e => e.trans hB
    simp (decide := true) only [↓symD, symU, ↓XW_cond, Nat.reduceEqDiff, List.zip_cons_cons, List.zip_nil_left, Option.bind_some, Option.map_some, Option.map_none, List.map_toArray, List.map_cons, List.map_nil, ne_eq, List.append_toArray, List.nil_append, List.cons_append, List.append_nil, step_len, hB, true_and]
    exact ⟨0, rfl, by omega⟩
  · rintro m fe SB ⟨rfl, h2, h3, k, h5, hm⟩
    simp (decide := true) only [↓symD, symU, ↓XW_cond, Nat.reduceEqDiff, List.zip_cons_cons, List.zip_nil_left, Option.bind_some, Option.map_some, Option.map_none, List.map_toArray, List.map_cons, List.map_nil, ne_eq, List.append_toArray, List.nil_append, List.cons_append, List.append_nil, h2, h5, g1, Nat.zero_add, rdAsks, part1_one, a1.len, xbin_lss]
    refine Test_dec (fun hlt => ?_) (fun hge => ?_)
    · have hk : k < s.asks.length := by omega
      have hl := hs.2
      have wk : w64 ((k : Int) + 1) = ((k + 1 : Nat) : Int) := w64_add1 k (by omega)
      obtain ⟨i1, o1, p1, p2, p3⟩ := a1.askP k hk
      obtain ⟨i2, o2, r1, r2, r3⟩ := a2.askP k hk
      generalize s.asks[k] = q at p3 r3
      simp (decide := true) only [↓symD, symU, ↓XW_cond, Nat.reduceEqDiff, List.zip_cons_cons, List.zip_nil_left, Option.bind_some, Option.map_some, Option.map_none, List.map_toArray, List.map_cons, List.map_nil, ne_eq, List.append_toArray, List.nil_append, List.cons_append, List.append_nil, h2, h3, h5, g1, g2, Nat.zero_add, rdAsks, part1_one, part1_agg, p1, p3, r1, r3, eqfv_askT, xbin_add, wk, true_and]
      exact ⟨m - 1, by omega, k + 1, rfl, by omega⟩
    · simp (decide := true) only [↓symD, symU, ↓XW_cond, Nat.reduceEqDiff, List.zip_cons_cons, List.zip_nil_left, Option.bind_some, Option.map_some, Option.map_none, List.map_toArray, List.map_cons, List.map_nil, ne_eq, List.append_toArray, List.nil_append, List.cons_append, List.append_nil, h2, h3, true_and]
  · rintro fe SB ⟨rfl, h2, h3⟩
    simp (decide := true) only [↓symD, symU, ↓XW_cond, Nat.reduceEqDiff, List.zip_cons_cons, List.zip_nil_left, Option.bind_some, Option.map_some, Option.map_none, List.map_toArray, List.map_cons, List.map_nil, ne_eq, List.append_toArray, List.nil_append, List.cons_append, List.append_nil]
    refine XW_loopR 2 (fun m fe S' => S' = SB ∧ fe 2 = .pointer (some ⟨S.next, 0, none⟩) ∧ fe 3 = .pointer (some ⟨S.next + 1, 0, none⟩) ∧ ∃ k : Nat, fe 6 = .int .i64 k ∧ m + k = s.sent.length) (fun fe S' => S' = SB) s.sent.length ?_ ?_ ?_
    · simp (decide := true) only [↓symD, symU, ↓XW_cond, Nat.reduceEqDiff, List.zip_cons_cons, List.zip_nil_left, Option.bind_some, Option.map_some, Option.map_none, List.map_toArray, List.map_cons, List.map_nil, ne_eq, List.append_toArray, List.nil_append, List.cons_append, List.append_nil, h2, h3, true_and]
      exact ⟨0, rfl, by omega⟩
    · clear h2 h3
      rintro m fe SB ⟨rfl, h2, h3, k, h6, hm⟩
      simp (decide := true) only [↓symD, symU, ↓XW_cond, Nat.reduceEqDiff, List.zip_cons_cons, List.zip_nil_left, Option.bind_some, Option.map_some, Option.map_none, List.map_toArray, List.map_cons, List.map_nil, ne_eq, List.append_toArray, List.nil_append, List.cons_append, List.append_nil, h2, h6, g1, Nat.zero_add, rdSent, part1_one, m1.len, xbin_lss]
      refine Test_dec (fun hlt => ?_) (fun hge => ?_)
      · have hk : k < s.sent.length := by omega
        have hl := hs.1
        have wk : w64 ((k : Int) + 1) = ((k + 1 : Nat) : Int) := w64_add1 k (by omega)
        obtain ⟨i1, o1, p1, p2, p3⟩ := m1.msg k hk
        obtain ⟨i2, o2, r1, r2, r3⟩ := m2.msg k hk
        generalize s.sent[k] = q at p3 r3
        simp (decide := true) only [↓symD, symU, ↓XW_cond, Nat.reduceEqDiff, List.zip_cons_cons, List.zip_nil_left, Option.bind_some, Option.map_some, Option.map_none, List.map_toArray, List.map_cons, List.map_nil, ne_eq, List.append_toArray, List.nil_append, List.cons_append, List.append_nil, h2, h3, h6, g1, g2, Nat.zero_add, rdSent, part1_one, part1_agg, p1, p3, r1, r3, eqfv_msgT, xbin_add, wk, true_and]
        exact ⟨m - 1, by omega, k + 1, rfl, by omega⟩
      · simp (decide := true) only [↓symD, symU, ↓XW_cond, Nat.reduceEqDiff, List.zip_cons_cons, List.zip_nil_left, Option.bind_some, Option.map_some, Option.map_none, List.map_toArray, List.map_cons, List.map_nil, ne_eq, List.append_toArray, List.nil_append, List.cons_append, List.append_nil]
    · rintro fe SB rfl
      simp (decide := true) only [↓symD, symU, ↓XW_cond, Nat.reduceEqDiff, List.zip_cons_cons, List.zip_nil_left, Option.bind_some, Option.map_some, Option.map_none, List.map_toArray, List.map_cons, List.map_nil, ne_eq, List.append_toArray, List.nil_append, List.cons_append, List.append_nil, and_true]
      exact hxB

theorem sameRun_any {v u : Value} {l : List Step} {S : St} (hv : Run S v l) (hu : Run S u l) (hl : l.length ≤ 64) (hs : ∀ j (h : j < l.length), Short l[j]) :
    XC Try.prog 21 #[v, u] S fun r S' => Ext S S' ∧ r = .bool true := by
  refine XC_body XF21 ?_
  simp (decide := true) only [↓symD, symU, ↓XW_cond, Nat.reduceEqDiff, List.zip_cons_cons, List.zip_nil_left, Option.bind_some, Option.map_some, Option.map_none, List.map_toArray, List.map_cons, List.map_nil, ne_eq, List.append_toArray, List.nil_append, List.cons_append, List.append_nil, xf21, hv.len, hu.len, xbin_neq, not_true_eq_false, decide_false]
  refine XW_loopR 0 (fun m fe S' => Ext S S' ∧ fe 0 = v ∧ fe 1 = u ∧ ∃ k : Nat, fe 5 = .int .i64 k ∧ m + k = l.length) (fun fe S' => Ext S S') l.length ?_ ?_ ?_
  · simp (decide := true) only [↓symD, symU, ↓XW_cond, Nat.reduceEqDiff, List.zip_cons_cons, List.zip_nil_left, Option.bind_some, Option.map_some, Option.map_none, List.map_toArray, List.map_cons, List.map_nil, ne_eq, List.append_toArray, List.nil_append, List.cons_append, List.append_nil, true_and]
    exact ⟨Ext.refl _, 0, rfl, by omega⟩
  · rintro m fe S1 ⟨hx1, h0, h1, k, h5, hm⟩
    have hv := hv.mono hx1
    have hu := hu.mono hx1
    simp (decide := true) only [↓symD, symU, ↓XW_cond, Nat.reduceEqDiff, List.zip_cons_cons, List.zip_nil_left, Option.bind_some, Option.map_some, Option.map_none, List.map_toArray, List.map_cons, List.map_nil, ne_eq, List.append_toArray, List.nil_append, List.cons_append, List.append_nil, h0, h5, hv.len, xbin_lss]
    refine Test_dec (fun hlt => ?_) (fun hge => ?_)
    · have hk : k < l.length := by omega
      have wk : w64 ((k : Int) + 1) = ((k + 1 : Nat) : Int) := w64_add1 k (by omega)
      obtain ⟨ia, oa, ra, a1, a2, a3, a4⟩ := hv.step k hk
      obtain ⟨ib, ob, rb, b1, b2, b3, b4⟩ := hu.step k hk
      simp (decide := true) only [↓symD, symU, ↓XW_cond, Nat.reduceEqDiff, List.zip_cons_cons, List.zip_nil_left, Option.bind_some, Option.map_some, Option.map_none, List.map_toArray, List.map_cons, List.map_nil, ne_eq, List.append_toArray, List.nil_append, List.cons_append, List.append_nil, h0, h1, h5, a1, a3, b1, b3, part1_agg]
      refine XCall.of (sameStep_any a4 b4 (hs k hk)) ?_
      rintro _ S2 ⟨hx2, rfl⟩
      simp (decide := true) only [↓symD, symU, ↓XW_cond, Nat.reduceEqDiff, List.zip_cons_cons, List.zip_nil_left, Option.bind_some, Option.map_some, Option.map_none, List.map_toArray, List.map_cons, List.map_nil, ne_eq, List.append_toArray, List.nil_append, List.cons_append, List.append_nil, Bool.not_true, h5, xbin_add, wk, h0, h1, true_and]
      exact ⟨m - 1, by omega, hx1.trans hx2, k + 1, rfl, by omega⟩
    · simp (decide := true) only [↓symD, symU, ↓XW_cond, Nat.reduceEqDiff, List.zip_cons_cons, List.zip_nil_left, Option.bind_some, Option.map_some, Option.map_none, List.map_toArray, List.map_cons, List.map_nil, ne_eq, List.append_toArray, List.nil_append, List.cons_append, List.append_nil]
      exact hx1
  · rintro fe S1 hx1
    simp (decide := true) only [↓symD, symU, ↓XW_cond, Nat.reduceEqDiff, List.zip_cons_cons, List.zip_nil_left, Option.bind_some, Option.map_some, Option.map_none, List.map_toArray, List.map_cons, List.map_nil, ne_eq, List.append_toArray, List.nil_append, List.cons_append, List.append_nil, and_true]
    exact hx1

theorem swapLaw_any {v : Value} {l : List Int} {i : Int} {S : St} (hv : RdS S v l) (hb : ∀ x ∈ l, -9223372036854775808 ≤ x ∧ x ≤ 9223372036854775807) (hi : -9223372036854775808 ≤ i ∧ i ≤ 9223372036854775807) :
    XC Try.prog 6 #[v, .int .i64 i] S fun r S' => Ext S S' ∧ r = .bool true := by
  refine XC_body XF6 ?_
  simp (decide := true) only [↓symD, symU, ↓XW_cond, Nat.reduceEqDiff, List.zip_cons_cons, List.zip_nil_left, Option.bind_some, Option.map_some, Option.map_none, List.map_toArray, List.map_cons, List.map_nil, ne_eq, List.append_toArray, List.nil_append, List.cons_append, List.append_nil, xf6]
  refine XCall.of (run_any hv hb) ?_
  rintro v1 S1 ⟨hx1, rl, hrun, hlen, hgood⟩
  have hs : ∀ j (h : j < rl.length), Short rl[j] := fun j h => (hgood j h).short
  have w2 : w64 ((rl.length : Int) + 2) = (rl.length : Int) + 2 := w64_ok (by omega) (by omega)
  simp (decide := true) only [↓symD, symU, ↓XW_cond, Nat.reduceEqDiff, List.zip_cons_cons, List.zip_nil_left, Option.bind_some, Option.map_some, Option.map_none, List.map_toArray, List.map_cons, List.map_nil, ne_eq, List.append_toArray, List.nil_append, List.cons_append, List.append_nil, hrun.len, xbin_add, w2]
  refine XCall.of (around_any i ((rl.length : Int) + 2) S1 hi.1 hi.2 (by omega)) ?_
  rintro _ S2 ⟨rfl, rfl⟩
  have har := around_lt i ((rl.length : Int) + 2) (by omega)
  generalize around i ((rl.length : Int) + 2) = x at har ⊢
  have w1 : w64 (x - 1) = x - 1 := w64_ok (by omega) (by omega)
  have hx2 : Ext S2 (S2.alloc (.cells [.int .i64 i, .int .i64 (x - 1)] 3 1 true [])) := Ext.alloc _ _
  have rdF := (Own.made S2 [i, x - 1] 3 0 (Nat.zero_le _) 2 rfl [.int .i64 i, .int .i64 (x - 1)] rfl).rd
  change RdS (S2.alloc (.cells [.int .i64 i, .int .i64 (x - 1)] 3 1 true [])) _ _ at rdF
  have hrun := hrun.mono hx2
  generalize hA : S2.alloc (.cells [.int .i64 i, .int .i64 (x - 1)] 3 1 true []) = S3 at hx2 rdF hrun
  simp (decide := true) only [↓symD, symU, ↓XW_cond, Nat.reduceEqDiff, List.zip_cons_cons, List.zip_nil_left, Option.bind_some, Option.map_some, Option.map_none, List.map_toArray, List.map_cons, List.map_nil, ne_eq, List.append_toArray, List.nil_append, List.cons_append, List.append_nil, fillL, splice, rep, List.replicate_succ, List.replicate_zero, List.flatten_cons, List.flatten_nil, List.append_nil, List.nil_append, List.cons_append, Value.cells, List.append_assoc, and_self, true_and, and_true, List.size_toArray, List.length_cons, List.length_nil, Nat.zero_add, ↓reduceIte, List.take_zero, List.drop_zero, List.drop_succ_cons, List.take_succ_cons, Nat.reduceAdd, Nat.reduceLeDiff, Nat.reduceEqDiff, allOne_int, allOne_nil, List.toList_toArray, blkOf_ptr, Nat.add_zero, xbin_sub, w1, hA]
  refine XW_loopR 0 (fun m fe S' => Ext S3 S' ∧ fe 5 = v1 ∧ fe 6 = .slice (some ⟨S2.next, 0, none⟩) 2 2 ∧ ∃ p : Nat, fe 7 = .int .i64 p ∧ m + p = 2) (fun fe S' => Ext S3 S') 2 ?_ ?_ ?_
  · have e : ∀ S', S' = S3 → Ext S3 S' := fun S' h => by rw [h]; exact Ext.refl _
    simp (decide := true) only [↓symD, symU, ↓XW_cond, Nat.reduceEqDiff, List.zip_cons_cons, List.zip_nil_left, Option.bind_some, Option.map_some, Option.map_none, List.map_toArray, List.map_cons, List.map_nil, ne_eq, List.append_toArray, List.nil_append, List.cons_append, List.append_nil, true_and]
    refine ⟨e _ (by rw [← hA]), 0, rfl, by omega⟩
  · rintro m fe S4 ⟨hx4, h5, h6, p, h7, hm⟩
    simp (decide := true) only [↓symD, symU, ↓XW_cond, Nat.reduceEqDiff, List.zip_cons_cons, List.zip_nil_left, Option.bind_some, Option.map_some, Option.map_none, List.map_toArray, List.map_cons, List.map_nil, ne_eq, List.append_toArray, List.nil_append, List.cons_append, List.append_nil, h7, xbin_lss]
    refine Test_dec (fun hlt => ?_) (fun hge => ?_)
    · have hp : p < 2 := by omega
      have wp : w64 ((p : Int) + 1) = ((p + 1 : Nat) : Int) := w64_add1 p (by omega)
      obtain ⟨ia, oa, a1, a2, a3⟩ := (rdF.mono hx4).get .i64 p (by simpa using hp)
      have a1' : iav 1 (.slice (some ⟨S2.next, 0, none⟩) 2 2) (.int .i64 p) = some (.pointer (some ⟨ia, oa, none⟩)) := a1
      have a3' : (S4.get ia).rd oa 1 = some [.int .i64 ([i, x - 1][p]'(by simpa using hp))] := a3
      have hz : -9223372036854775808 ≤ ([i, x - 1][p]'(by simpa using hp)) ∧ ([i, x - 1][p]'(by simpa using hp)) ≤ 9223372036854775807 := by
        have : ([i, x - 1][p]'(by simpa using hp)) ∈ [i, x - 1] := List.getElem_mem _
        simp only [List.mem_cons, List.not_mem_nil, or_false] at this
        rcases this with h | h <;> rw [h] <;> omega
      generalize ([i, x - 1][p]'(by simpa using hp)) = z at a3' hz
      simp (decide := true) only [↓symD, symU, ↓XW_cond, Nat.reduceEqDiff, List.zip_cons_cons, List.zip_nil_left, Option.bind_some, Option.map_some, Option.map_none, List.map_toArray, List.map_cons, List.map_nil, ne_eq, List.append_toArray, List.nil_append, List.cons_append, List.append_nil, h5, h6, h7, a1', a3', part1_one]
      refine XCall.of (swap_any (hrun.mono hx4) (by omega) hs z hz.1 hz.2) ?_
      rintro _ S5 ⟨hx5, wa, rfl, ra⟩
      have b3' : (S5.get ia).rd oa 1 = some [.int .i64 z] := by rw [hx5.get _ a2]; exact a3'
      simp (decide := true) only [↓symD, symU, ↓XW_cond, Nat.reduceEqDiff, List.zip_cons_cons, List.zip_nil_left, Option.bind_some, Option.map_some, Option.map_none, List.map_toArray, List.map_cons, List.map_nil, ne_eq, List.append_toArray, List.nil_append, List.cons_append, List.append_nil, h5, h6, h7, a1', b3', part1_one]
      refine XCall.of (refSwap_any ((hrun.mono hx4).mono hx5) (by omega) hs z hz.1 hz.2) ?_
      rintro _ S6 ⟨hx6, wb, rfl, rb⟩
      simp (decide := true) only [↓symD, symU, ↓XW_cond, Nat.reduceEqDiff, List.zip_cons_cons, List.zip_nil_left, Option.bind_some, Option.map_some, Option.map_none, List.map_toArray, List.map_cons, List.map_nil, ne_eq, List.append_toArray, List.nil_append, List.cons_append, List.append_nil, xbin_neq, not_true_eq_false, decide_false]
      refine XCall.of (sameRun_any (ra.mono hx6) rb (Nat.le_trans (swapR_len rl z) (by omega)) (swapR_short hs z)) ?_
      rintro _ S7 ⟨hx7, rfl⟩
      simp (decide := true) only [↓symD, symU, ↓XW_cond, Nat.reduceEqDiff, List.zip_cons_cons, List.zip_nil_left, Option.bind_some, Option.map_some, Option.map_none, List.map_toArray, List.map_cons, List.map_nil, ne_eq, List.append_toArray, List.nil_append, List.cons_append, List.append_nil, Bool.not_true, h7, xbin_add, wp, h5, h6, true_and]
      exact ⟨m - 1, by omega, ((hx4.trans hx5).trans hx6).trans hx7, p + 1, rfl, by omega⟩
    · simp (decide := true) only [↓symD, symU, ↓XW_cond, Nat.reduceEqDiff, List.zip_cons_cons, List.zip_nil_left, Option.bind_some, Option.map_some, Option.map_none, List.map_toArray, List.map_cons, List.map_nil, ne_eq, List.append_toArray, List.nil_append, List.cons_append, List.append_nil]
      exact hx4
  · rintro fe S4 hx4
    simp (decide := true) only [↓symD, symU, ↓XW_cond, Nat.reduceEqDiff, List.zip_cons_cons, List.zip_nil_left, Option.bind_some, Option.map_some, Option.map_none, List.map_toArray, List.map_cons, List.map_nil, ne_eq, List.append_toArray, List.nil_append, List.cons_append, List.append_nil]
    refine XCall.of lives_any ?_
    rintro _ S5 ⟨hx5, rfl⟩
    simp (decide := true) only [↓symD, symU, ↓XW_cond, Nat.reduceEqDiff, List.zip_cons_cons, List.zip_nil_left, Option.bind_some, Option.map_some, Option.map_none, List.map_toArray, List.map_cons, List.map_nil, ne_eq, List.append_toArray, List.nil_append, List.cons_append, List.append_nil, and_true]
    exact ((hx1.trans hx2).trans hx4).trans hx5
end
end Go.Proofs.Ytolfpchcmiljpaa

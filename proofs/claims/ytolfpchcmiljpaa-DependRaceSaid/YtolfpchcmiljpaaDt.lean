/- The reference's racing pairs, and the law DependRace. -/
import Derived.Test.YtolfpchcmiljpaaDr
set_option linter.unusedSimpArgs false
set_option linter.unusedSectionVars false
set_option maxRecDepth 10000
namespace Go.Proofs.Ytolfpchcmiljpaa
open Go Go.RowKit

/-- what is still to come. -/
noncomputable def restRow (l : List Step) (i k : Nat) : List (Nat × Nat) := (rowL l i k (l.length - k)).filter (raceP l)
noncomputable def restAll (l : List Step) (i : Nat) : List (Nat × Nat) := (pairsL l i (l.length - i)).filter (raceP l)
theorem rest_row {l : List Step} {i k : Nat} (h : k < l.length) : restRow l i k = (if (dp l i k && raceP l (i, k)) = true then [(i, k)] else []) ++ restRow l i (k + 1) := by
  unfold restRow
  rw [rowL_step l i k h, List.filter_append]
  congr 1
  cases dp l i k <;> cases h2 : raceP l (i, k) <;> simp [h2]
theorem rest_row_end {l : List Step} {i k : Nat} (h : l.length ≤ k) : restRow l i k = [] := by
  unfold restRow
  rw [show l.length - k = 0 by omega]
  rfl
theorem rest_all {l : List Step} {i : Nat} (h : i < l.length) : restAll l i = restRow l i (i + 1) ++ restAll l (i + 1) := by
  unfold restAll restRow
  rw [pairsL_step l i h, List.filter_append]
theorem rest_all_end {l : List Step} {i : Nat} (h : l.length ≤ i) : restAll l i = [] := by
  unfold restAll
  rw [show l.length - i = 0 by omega]
  rfl
theorem rest_zero (l : List Step) : restAll l 0 = races l := rfl
theorem race_lt {l : List Step} {p : Nat × Nat} (h : p ∈ races l) : p.1 < p.2 ∧ p.2 < l.length ∧ dp l p.1 p.2 = true ∧ raceP l p = true := by
  obtain ⟨h1, h2⟩ := List.mem_filter.1 h
  obtain ⟨h3, h4, h5⟩ := (mem_depPairs l p).1 h1
  exact ⟨h3, h4, h5, h2⟩

theorem eqfv_pairT (p : Nat × Nat) : eqfv [1, 1] true (pairV p) (pairV p) = some (.bool false) := by
  simp [eqfv, pairCs, eqL, eq1, notIf]
section
variable [Prim Try.prog]

theorem refRace_any {v : Value} {l : List Step} {S0 : St} (hr : Run S0 v l) (hl : l.length ≤ 64) (hs : Sents l) :
    XC Try.prog 12 #[v] S0 fun r S' => Ext S0 S' ∧ RdS S' r (races l) := by
  refine XC_body XF12 ?_
  simp (decide := true) only [↓symD, symU, ↓XW_cond, Nat.reduceEqDiff, List.zip_cons_cons, List.zip_nil_left, Option.bind_some, Option.map_some, Option.map_none, List.map_toArray, List.map_cons, List.map_nil, ne_eq, List.append_toArray, List.nil_append, List.cons_append, List.append_nil, xf12]
  refine XCall.of (refLess_any hr hl hs) ?_
  rintro u S1 ⟨hx1, hmat⟩
  have hr := hr.mono hx1
  simp (decide := true) only [↓symD, symU, ↓XW_cond, Nat.reduceEqDiff, List.zip_cons_cons, List.zip_nil_left, Option.bind_some, Option.map_some, Option.map_none, List.map_toArray, List.map_cons, List.map_nil, ne_eq, List.append_toArray, List.nil_append, List.cons_append, List.append_nil]
  have hd0 := depPairs_length hl
  have hdl : (races l).length ≤ 4096 := Nat.le_trans (List.length_filter_le _ _) hd0
  refine XW_loopR 0 (fun m fe S' => Ext S1 S' ∧ fe 0 = v ∧ fe 3 = u ∧ ∃ (i : Nat) (w : Value) (out : List (Nat × Nat)), fe 4 = w ∧ fe 5 = .int .i64 i ∧ m + i = l.length ∧ Own S' S1.next w out ∧ out ++ restAll l i = races l)
    (fun fe S' => Ext S1 S' ∧ ∃ w, fe 4 = w ∧ Own S' S1.next w (races l)) l.length ?_ ?_ ?_
  · simp (decide := true) only [↓symD, symU, ↓XW_cond, Nat.reduceEqDiff, List.zip_cons_cons, List.zip_nil_left, Option.bind_some, Option.map_some, Option.map_none, List.map_toArray, List.map_cons, List.map_nil, ne_eq, List.append_toArray, List.nil_append, List.cons_append, List.append_nil, true_and]
    exact ⟨Ext.refl _, 0, _, [], rfl, rfl, by omega, Own.nil _ _, by rw [List.nil_append, rest_zero]⟩
  · rintro m fe S2 ⟨hx2, h0, h3, i, w, out, h4, h5, hm, hown, heq⟩
    simp (decide := true) only [↓symD, symU, ↓XW_cond, Nat.reduceEqDiff, List.zip_cons_cons, List.zip_nil_left, Option.bind_some, Option.map_some, Option.map_none, List.map_toArray, List.map_cons, List.map_nil, ne_eq, List.append_toArray, List.nil_append, List.cons_append, List.append_nil, h0, h5, (hr.mono hx2).len, xbin_lss]
    refine Test_dec (fun hlt => ?_) (fun hge => ?_)
    · have hi : i < l.length := by omega
      have wi : w64 ((i : Int) + 1) = ((i + 1 : Nat) : Int) := w64_add1 i (by omega)
      simp (decide := true) only [↓symD, symU, ↓XW_cond, Nat.reduceEqDiff, List.zip_cons_cons, List.zip_nil_left, Option.bind_some, Option.map_some, Option.map_none, List.map_toArray, List.map_cons, List.map_nil, ne_eq, List.append_toArray, List.nil_append, List.cons_append, List.append_nil, h5, xbin_add, wi]
      refine XW_loopR 2 (fun m2 fe S' => Ext S1 S' ∧ fe 0 = v ∧ fe 3 = u ∧ fe 5 = .int .i64 i ∧ ∃ (k : Nat) (w : Value) (out : List (Nat × Nat)), fe 4 = w ∧ fe 6 = .int .i64 k ∧ m2 + k = l.length ∧ i < k ∧ Own S' S1.next w out ∧ out ++ (restRow l i k ++ restAll l (i + 1)) = races l)
        (fun fe S' => Ext S1 S' ∧ fe 0 = v ∧ fe 3 = u ∧ fe 5 = .int .i64 i ∧ ∃ (w : Value) (out : List (Nat × Nat)), fe 4 = w ∧ Own S' S1.next w out ∧ out ++ restAll l (i + 1) = races l) (l.length - (i + 1)) ?_ ?_ ?_
      · simp (decide := true) only [↓symD, symU, ↓XW_cond, Nat.reduceEqDiff, List.zip_cons_cons, List.zip_nil_left, Option.bind_some, Option.map_some, Option.map_none, List.map_toArray, List.map_cons, List.map_nil, ne_eq, List.append_toArray, List.nil_append, List.cons_append, List.append_nil, h0, h3, h5, true_and]
        exact ⟨hx2, i + 1, w, out, h4, rfl, by omega, by omega, hown, by rw [← rest_all hi]; exact heq⟩
      · clear h0 h3 h4 h5 hown heq hx2 w out
        rintro m2 fe S2 ⟨hx2, h0, h3, h5, k, w, out, h4, h6, hm2, hik, hown, heq⟩
        simp (decide := true) only [↓symD, symU, ↓XW_cond, Nat.reduceEqDiff, List.zip_cons_cons, List.zip_nil_left, Option.bind_some, Option.map_some, Option.map_none, List.map_toArray, List.map_cons, List.map_nil, ne_eq, List.append_toArray, List.nil_append, List.cons_append, List.append_nil, h0, h6, (hr.mono hx2).len, xbin_lss]
        refine Test_dec (fun hlt => ?_) (fun hge => ?_)
        · have hk : k < l.length := by omega
          have wk : w64 ((k : Int) + 1) = ((k + 1 : Nat) : Int) := w64_add1 k (by omega)
          obtain ⟨ia, oa, ra, a1, a2, a3, a4⟩ := (hr.mono hx2).step i hi
          obtain ⟨ib, ob, rb, b1, b2, b3, b4⟩ := (hr.mono hx2).step k hk
          simp only [XW_skip, bindN_normal]
          rw [XW_seq, XW_block]
          refine XW_cut (fun fe S3 => Ext S2 S3 ∧ fe 0 = v ∧ fe 3 = u ∧ fe 4 = w ∧ fe 5 = .int .i64 i ∧ fe 6 = .int .i64 k ∧ fe 7 = .bool (dp l i k && !(fp l i k))) ?_ ?_
          · simp (decide := true) only [↓symD, symU, ↓XW_cond, Nat.reduceEqDiff, List.zip_cons_cons, List.zip_nil_left, Option.bind_some, Option.map_some, Option.map_none, List.map_toArray, List.map_cons, List.map_nil, ne_eq, List.append_toArray, List.nil_append, List.cons_append, List.append_nil, h0, h5, h6, a1, a3, b1, b3, part1_agg]
            refine XCall.of (refDependent_any a4 b4 (hs i hi) (hs k hk)) ?_
            rintro _ S3 ⟨hx3, rfl⟩
            rw [dp_of hi hk, fp_of hi hk]
            cases hd : depP l[i] l[k] with
            | false =>
              simp (decide := true) only [↓symD, symU, ↓XW_cond, Nat.reduceEqDiff, List.zip_cons_cons, List.zip_nil_left, Option.bind_some, Option.map_some, Option.map_none, List.map_toArray, List.map_cons, List.map_nil, ne_eq, List.append_toArray, List.nil_append, List.cons_append, List.append_nil, Pick_undef, h0, h3, h4, h5, h6, Bool.false_and, true_and, and_true]
              exact hx3
            | true =>
              obtain ⟨ia, oa, ra, a1, a2, a3, a4⟩ := ((hr.mono hx2).mono hx3).step i hi
              obtain ⟨ib, ob, rb, b1, b2, b3, b4⟩ := ((hr.mono hx2).mono hx3).step k hk
              simp (decide := true) only [↓symD, symU, ↓XW_cond, Nat.reduceEqDiff, List.zip_cons_cons, List.zip_nil_left, Option.bind_some, Option.map_some, Option.map_none, List.map_toArray, List.map_cons, List.map_nil, ne_eq, List.append_toArray, List.nil_append, List.cons_append, List.append_nil, h0, h5, h6, a1, a3, b1, b3, part1_agg]
              refine XCall.of (refFeeds_any a4 b4 (hs i hi)) ?_
              rintro _ S4 ⟨hx4, rfl⟩
              simp (decide := true) only [↓symD, symU, ↓XW_cond, Nat.reduceEqDiff, List.zip_cons_cons, List.zip_nil_left, Option.bind_some, Option.map_some, Option.map_none, List.map_toArray, List.map_cons, List.map_nil, ne_eq, List.append_toArray, List.nil_append, List.cons_append, List.append_nil, h0, h3, h4, h5, h6, Bool.true_and, true_and, and_true]
              exact hx3.trans hx4
          · clear h0 h3 h4 h5 h6 a1 a2 a3 a4 b1 b2 b3 b4
            rintro fe S3 ⟨hx3, h0, h3, h4, h5, h6, h7⟩
            simp (decide := true) only [↓symD, symU, ↓XW_cond, Nat.reduceEqDiff, List.zip_cons_cons, List.zip_nil_left, Option.bind_some, Option.map_some, Option.map_none, List.map_toArray, List.map_cons, List.map_nil, ne_eq, List.append_toArray, List.nil_append, List.cons_append, List.append_nil, h5, xbin_add, wi]
            refine XW_loopR 4 (fun m3 fe S' => S' = S3 ∧ fe 0 = v ∧ fe 3 = u ∧ fe 4 = w ∧ fe 5 = .int .i64 i ∧ fe 6 = .int .i64 k ∧ ∃ (j : Nat) (q : Bool), fe 8 = .int .i64 j ∧ fe 7 = .bool q ∧ m3 + j = k ∧ i < j ∧ (q = true ↔ (dp l i k && !(fp l i k)) = true ∧ ¬ ∃ x, i < x ∧ x < j ∧ Rch (depPairs l) i x ∧ Rch (depPairs l) x k))
              (fun fe S' => S' = S3 ∧ fe 0 = v ∧ fe 3 = u ∧ fe 4 = w ∧ fe 5 = .int .i64 i ∧ fe 6 = .int .i64 k ∧ fe 7 = .bool (dp l i k && raceP l (i, k))) (k - (i + 1)) ?_ ?_ ?_
            · simp (decide := true) only [↓symD, symU, ↓XW_cond, Nat.reduceEqDiff, List.zip_cons_cons, List.zip_nil_left, Option.bind_some, Option.map_some, Option.map_none, List.map_toArray, List.map_cons, List.map_nil, ne_eq, List.append_toArray, List.nil_append, List.cons_append, List.append_nil, h0, h3, h4, h5, h6, h7, true_and]
              refine ⟨i + 1, _, rfl, rfl, by omega, by omega, ?_⟩
              constructor
              · intro h; exact ⟨h, fun ⟨x, x1, x2, _⟩ => by omega⟩
              · exact fun h => h.1
            · clear h0 h3 h4 h5 h6 h7
              have hmat := (hmat.mono hx2).mono hx3
              rintro m3 fe S3 ⟨rfl, h0, h3, h4, h5, h6, j, q, h8, h7, hm3, hij, hq⟩
              simp (decide := true) only [↓symD, symU, ↓XW_cond, Nat.reduceEqDiff, List.zip_cons_cons, List.zip_nil_left, Option.bind_some, Option.map_some, Option.map_none, List.map_toArray, List.map_cons, List.map_nil, ne_eq, List.append_toArray, List.nil_append, List.cons_append, List.append_nil, h6, h8, xbin_lss]
              refine Test_dec (fun hlt => ?_) (fun hge => ?_)
              · have hj : j < l.length := by omega
                have wj : w64 ((j : Int) + 1) = ((j + 1 : Nat) : Int) := w64_add1 j (by omega)
                have fin : ∀ q' : Bool, (q' = true ↔ Rch (depPairs l) i j ∧ Rch (depPairs l) j k) → ((q && !q') = true ↔ (dp l i k && !(fp l i k)) = true ∧ ¬ ∃ x, i < x ∧ x < j + 1 ∧ Rch (depPairs l) i x ∧ Rch (depPairs l) x k) := by
                  intro q' hq'
                  have e : (∃ x, i < x ∧ x < j + 1 ∧ Rch (depPairs l) i x ∧ Rch (depPairs l) x k) ↔ (∃ x, i < x ∧ x < j ∧ Rch (depPairs l) i x ∧ Rch (depPairs l) x k) ∨ q' = true := by
                    rw [hq']
                    constructor
                    · rintro ⟨x, x1, x2, x3⟩
                      by_cases e : x = j
                      · subst e; exact .inr x3
                      · exact .inl ⟨x, x1, by omega, x3⟩
                    · rintro (⟨x, x1, x2, x3⟩ | h)
                      · exact ⟨x, x1, by omega, x3⟩
                      · exact ⟨j, hij, by omega, h⟩
                  rw [e, Bool.and_eq_true, hq]
                  cases q' <;> simp
                obtain ⟨id, o, w1, id2, o2, b, c1, c2, c3, c4, c5, c6, c7⟩ := hmat.cell (i := i) (j := j) hi hj
                obtain ⟨id', o', w1', id2', o2', b', d1, d2, d3, d4, d5, d6, d7⟩ := hmat.cell (i := j) (j := k) hj hk
                cases q with
                | false =>
                  have f0 := fin (b && b') (by rw [Bool.and_eq_true, c7, d7])
                  rw [Bool.false_and] at f0
                  simp (decide := true) only [↓symD, symU, ↓XW_cond, Nat.reduceEqDiff, List.zip_cons_cons, List.zip_nil_left, Option.bind_some, Option.map_some, Option.map_none, List.map_toArray, List.map_cons, List.map_nil, ne_eq, List.append_toArray, List.nil_append, List.cons_append, List.append_nil, h7, h8, Pick_undef, xbin_add, wj, h0, h3, h4, h5, h6, true_and]
                  exact ⟨m3 - 1, by omega, j + 1, false, rfl, rfl, by omega, by omega, f0⟩
                | true =>
                  have f0 := fin (b && b') (by rw [Bool.and_eq_true, c7, d7])
                  rw [Bool.true_and] at f0
                  cases b with
                  | false =>
                    rw [Bool.false_and, Bool.not_false] at f0
                    simp (decide := true) only [↓symD, symU, ↓XW_cond, Nat.reduceEqDiff, List.zip_cons_cons, List.zip_nil_left, Option.bind_some, Option.map_some, Option.map_none, List.map_toArray, List.map_cons, List.map_nil, ne_eq, List.append_toArray, List.nil_append, List.cons_append, List.append_nil, h7, h8, h3, h5, c1, c3, c4, c6, part1_one, Pick_undef, Bool.not_false, xbin_add, wj, h0, h4, h6, true_and]
                    exact ⟨m3 - 1, by omega, j + 1, true, rfl, rfl, by omega, by omega, f0⟩
                  | true =>
                    rw [Bool.true_and] at f0
                    simp (decide := true) only [↓symD, symU, ↓XW_cond, Nat.reduceEqDiff, List.zip_cons_cons, List.zip_nil_left, Option.bind_some, Option.map_some, Option.map_none, List.map_toArray, List.map_cons, List.map_nil, ne_eq, List.append_toArray, List.nil_append, List.cons_append, List.append_nil, h7, h8, h3, h5, c1, c3, c4, c6, d1, d3, d4, d6, part1_one, xbin_add, wj, h0, h4, h6, true_and]
                    exact ⟨m3 - 1, by omega, j + 1, !b', rfl, rfl, by omega, by omega, f0⟩
              · obtain rfl : j = k := by omega
                simp (decide := true) only [↓symD, symU, ↓XW_cond, Nat.reduceEqDiff, List.zip_cons_cons, List.zip_nil_left, Option.bind_some, Option.map_some, Option.map_none, List.map_toArray, List.map_cons, List.map_nil, ne_eq, List.append_toArray, List.nil_append, List.cons_append, List.append_nil, h0, h3, h4, h5, h6, h7, true_and]
                congr 1
                rw [Bool.eq_iff_iff, hq, ← betw_iff]
                cases dp l i j <;> cases hf : fp l i j <;> cases hb : betw (depPairs l) i j <;> simp [raceP, hf, hb]
            · rintro fe S3 ⟨rfl, h0, h3, h4, h5, h6, h7⟩
              rw [rest_row hk] at heq
              simp (decide := true) only [↓symD, symU, ↓XW_cond, Nat.reduceEqDiff, List.zip_cons_cons, List.zip_nil_left, Option.bind_some, Option.map_some, Option.map_none, List.map_toArray, List.map_cons, List.map_nil, ne_eq, List.append_toArray, List.nil_append, List.cons_append, List.append_nil, h7]
              refine Test_bool (fun hq => ?_) (fun hq => ?_)
              · have hone : RdS (S3.alloc (.cells (pairCs (i, k)) 27 2 true [])) (.slice (some ⟨S3.next, 0, none⟩) 1 1) [(i, k)] := RdS.one S3 (i, k) _
                have hol : out.length ≤ 4096 := by
                  have := congrArg List.length heq
                  simp at this
                  omega
                have hn1 := hx2.next
                have hn2 := hx3.next
                obtain ⟨r, S6, c1, c2, c3⟩ := ((hown.mono hx3).mono (Ext.alloc S3 (.cells (pairCs (i, k)) 27 2 true []))).append hone (by simp; omega) 27 16 (reach_le (by simp; omega)) (by decide)
                have c1' : xappend 27 2 16 w (.slice (some ⟨S3.next, 0, none⟩) 1 1) (S3.alloc (.cells [.int .i64 i, .int .i64 k] 27 2 true [])) = some (r, S6) := c1
                rw [hq, if_pos rfl, List.append_assoc, ← List.append_assoc] at heq
                simp (decide := true) only [↓symD, symU, ↓XW_cond, Nat.reduceEqDiff, List.zip_cons_cons, List.zip_nil_left, Option.bind_some, Option.map_some, Option.map_none, List.map_toArray, List.map_cons, List.map_nil, ne_eq, List.append_toArray, List.nil_append, List.cons_append, List.append_nil, fillL, splice, rep, List.replicate_succ, List.replicate_zero, List.flatten_cons, List.flatten_nil, List.append_nil, List.nil_append, List.cons_append, Value.cells, List.append_assoc, and_self, true_and, and_true, List.size_toArray, List.length_cons, List.length_nil, Nat.zero_add, ↓reduceIte, List.take_zero, List.drop_zero, List.drop_succ_cons, List.take_succ_cons, Nat.reduceAdd, Nat.reduceLeDiff, Nat.reduceEqDiff, allOne_int, allOne_nil, List.toList_toArray, blkOf_ptr, Nat.add_zero, h4, h5, h6, c1', xbin_add, wk, h0, h3, true_and]
                have hE := (hx2.trans hx3).trans (Ext.alloc S3 (.cells (pairCs (i, k)) 27 2 true []))
                exact ⟨m2 - 1, by omega, ⟨Nat.le_trans hE.next c3.next, fun id hid => (c3.get id hid).trans (hE.get id hid)⟩, k + 1, r, _, rfl, rfl, by omega, by omega, c2, heq⟩
              · rw [hq] at heq
                simp (decide := true) only [↓symD, symU, ↓XW_cond, Nat.reduceEqDiff, List.zip_cons_cons, List.zip_nil_left, Option.bind_some, Option.map_some, Option.map_none, List.map_toArray, List.map_cons, List.map_nil, ne_eq, List.append_toArray, List.nil_append, List.cons_append, List.append_nil, h4, h5, h6, xbin_add, wk, h0, h3, true_and]
                exact ⟨m2 - 1, by omega, hx2.trans hx3, k + 1, w, out, rfl, rfl, by omega, by omega, hown.mono hx3, by simpa using heq⟩
        · simp (decide := true) only [↓symD, symU, ↓XW_cond, Nat.reduceEqDiff, List.zip_cons_cons, List.zip_nil_left, Option.bind_some, Option.map_some, Option.map_none, List.map_toArray, List.map_cons, List.map_nil, ne_eq, List.append_toArray, List.nil_append, List.cons_append, List.append_nil, h0, h3, h5, true_and]
          rw [rest_row_end (by omega), List.nil_append] at heq
          exact ⟨hx2, w, out, h4, hown, heq⟩
      · rintro fe S2 ⟨hx2, h0, h3, h5, w, out, h4, hown, heq⟩
        simp (decide := true) only [↓symD, symU, ↓XW_cond, Nat.reduceEqDiff, List.zip_cons_cons, List.zip_nil_left, Option.bind_some, Option.map_some, Option.map_none, List.map_toArray, List.map_cons, List.map_nil, ne_eq, List.append_toArray, List.nil_append, List.cons_append, List.append_nil, h0, h3, h5, xbin_add, wi, true_and]
        exact ⟨m - 1, by omega, hx2, i + 1, w, out, h4, rfl, by omega, hown, heq⟩
    · simp (decide := true) only [↓symD, symU, ↓XW_cond, Nat.reduceEqDiff, List.zip_cons_cons, List.zip_nil_left, Option.bind_some, Option.map_some, Option.map_none, List.map_toArray, List.map_cons, List.map_nil, ne_eq, List.append_toArray, List.nil_append, List.cons_append, List.append_nil, h4]
      rw [rest_all_end (by omega), List.append_nil] at heq
      subst heq
      exact ⟨hx2, w, rfl, hown⟩
  · rintro fe S2 ⟨hx2, w, h4, hown⟩
    simp (decide := true) only [↓symD, symU, ↓XW_cond, Nat.reduceEqDiff, List.zip_cons_cons, List.zip_nil_left, Option.bind_some, Option.map_some, Option.map_none, List.map_toArray, List.map_cons, List.map_nil, ne_eq, List.append_toArray, List.nil_append, List.cons_append, List.append_nil, h4]
    exact ⟨hx1.trans hx2, hown.rd⟩

theorem raceLaw_any {v : Value} {l : List Int} {S : St} (hv : RdS S v l) (hb : ∀ x ∈ l, -9223372036854775808 ≤ x ∧ x ≤ 9223372036854775807) :
    XC Try.prog 3 #[v] S fun r S' => Ext S S' ∧ r = .bool true := by
  refine XC_body XF3 ?_
  simp (decide := true) only [↓symD, symU, ↓XW_cond, Nat.reduceEqDiff, List.zip_cons_cons, List.zip_nil_left, Option.bind_some, Option.map_some, Option.map_none, List.map_toArray, List.map_cons, List.map_nil, ne_eq, List.append_toArray, List.nil_append, List.cons_append, List.append_nil, xf3]
  refine XCall.of (run_any hv hb) ?_
  rintro v1 S1 ⟨hx1, rl, hrun, hlen, hgood⟩
  simp (decide := true) only [↓symD, symU, ↓XW_cond, Nat.reduceEqDiff, List.zip_cons_cons, List.zip_nil_left, Option.bind_some, Option.map_some, Option.map_none, List.map_toArray, List.map_cons, List.map_nil, ne_eq, List.append_toArray, List.nil_append, List.cons_append, List.append_nil]
  refine XCall.of (race_any hrun (by omega) (GoodS.sents hgood)) ?_
  rintro a S2 ⟨hx2, ha⟩
  simp (decide := true) only [↓symD, symU, ↓XW_cond, Nat.reduceEqDiff, List.zip_cons_cons, List.zip_nil_left, Option.bind_some, Option.map_some, Option.map_none, List.map_toArray, List.map_cons, List.map_nil, ne_eq, List.append_toArray, List.nil_append, List.cons_append, List.append_nil]
  refine XCall.of (refRace_any (hrun.mono hx2) (by omega) (GoodS.sents hgood)) ?_
  rintro b S3 ⟨hx3, hb3⟩
  have ha := ha.mono hx3
  have hdl : (races rl).length ≤ 4096 := Nat.le_trans (List.length_filter_le _ _) (depPairs_length (by omega))
  simp (decide := true) only [↓symD, symU, ↓XW_cond, Nat.reduceEqDiff, List.zip_cons_cons, List.zip_nil_left, Option.bind_some, Option.map_some, Option.map_none, List.map_toArray, List.map_cons, List.map_nil, ne_eq, List.append_toArray, List.nil_append, List.cons_append, List.append_nil, ha.len, hb3.len, xbin_neq, not_true_eq_false, decide_false]
  refine XW_loopR 0 (fun m fe S' => S' = S3 ∧ fe 4 = a ∧ fe 5 = b ∧ ∃ i : Nat, fe 6 = .int .i64 i ∧ m + i = (races rl).length) (fun fe S' => S' = S3) (races rl).length ?_ ?_ ?_
  · simp (decide := true) only [↓symD, symU, ↓XW_cond, Nat.reduceEqDiff, List.zip_cons_cons, List.zip_nil_left, Option.bind_some, Option.map_some, Option.map_none, List.map_toArray, List.map_cons, List.map_nil, ne_eq, List.append_toArray, List.nil_append, List.cons_append, List.append_nil, true_and]
    exact ⟨0, rfl, by omega⟩
  · rintro m fe S3 ⟨rfl, h4, h5, i, h6, hm⟩
    simp (decide := true) only [↓symD, symU, ↓XW_cond, Nat.reduceEqDiff, List.zip_cons_cons, List.zip_nil_left, Option.bind_some, Option.map_some, Option.map_none, List.map_toArray, List.map_cons, List.map_nil, ne_eq, List.append_toArray, List.nil_append, List.cons_append, List.append_nil, h4, h6, ha.len, xbin_lss]
    refine Test_dec (fun hlt => ?_) (fun hge => ?_)
    · have hi : i < (races rl).length := by omega
      have wi : w64 ((i : Int) + 1) = ((i + 1 : Nat) : Int) := w64_add1 i (by omega)
      obtain ⟨id, o, a1, a2, a3⟩ := ha.get .i64 i hi
      obtain ⟨id2, o2, b1, b2, b3⟩ := hb3.get .i64 i hi
      generalize (races rl)[i] = q at a3 b3
      have a1' : iav 2 a (.int .i64 i) = some (.pointer (some ⟨id, o, none⟩)) := a1
      have b1' : iav 2 b (.int .i64 i) = some (.pointer (some ⟨id2, o2, none⟩)) := b1
      have a3' : (S3.get id).rd o 2 = some (pairCs q) := a3
      have b3' : (S3.get id2).rd o2 2 = some (pairCs q) := b3
      simp (decide := true) only [↓symD, symU, ↓XW_cond, Nat.reduceEqDiff, List.zip_cons_cons, List.zip_nil_left, Option.bind_some, Option.map_some, Option.map_none, List.map_toArray, List.map_cons, List.map_nil, ne_eq, List.append_toArray, List.nil_append, List.cons_append, List.append_nil, h4, h5, h6, a1', b1', a3', b3', part1_agg, eqfv_pairT, not_true_eq_false, decide_false, xbin_add, wi, true_and]
      exact ⟨m - 1, by omega, i + 1, rfl, by omega⟩
    · simp (decide := true) only [↓symD, symU, ↓XW_cond, Nat.reduceEqDiff, List.zip_cons_cons, List.zip_nil_left, Option.bind_some, Option.map_some, Option.map_none, List.map_toArray, List.map_cons, List.map_nil, ne_eq, List.append_toArray, List.nil_append, List.cons_append, List.append_nil]
  · rintro fe S3 rfl
    simp (decide := true) only [↓symD, symU, ↓XW_cond, Nat.reduceEqDiff, List.zip_cons_cons, List.zip_nil_left, Option.bind_some, Option.map_some, Option.map_none, List.map_toArray, List.map_cons, List.map_nil, ne_eq, List.append_toArray, List.nil_append, List.cons_append, List.append_nil]
    refine XCall.of lives_any ?_
    rintro _ S4 ⟨hx4, rfl⟩
    simp (decide := true) only [↓symD, symU, ↓XW_cond, Nat.reduceEqDiff, List.zip_cons_cons, List.zip_nil_left, Option.bind_some, Option.map_some, Option.map_none, List.map_toArray, List.map_cons, List.map_nil, ne_eq, List.append_toArray, List.nil_append, List.cons_append, List.append_nil, and_true]
    exact ((hx1.trans hx2).trans hx3).trans hx4
end
end Go.Proofs.Ytolfpchcmiljpaa

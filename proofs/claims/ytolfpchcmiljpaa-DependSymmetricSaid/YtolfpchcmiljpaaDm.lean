/- depend.Race. -/
import Derived.Test.YtolfpchcmiljpaaDl
set_option linter.unusedSimpArgs false
set_option linter.unusedSectionVars false
set_option maxRecDepth 10000
namespace Go.Proofs.Ytolfpchcmiljpaa
open Go Go.RowKit

noncomputable def betw (ps : Pairs) (i k : Nat) : Bool := @decide (∃ j, i < j ∧ j < k ∧ Rch ps i j ∧ Rch ps j k) (Classical.propDecidable _)
theorem betw_iff (ps : Pairs) (i k : Nat) : betw ps i k = true ↔ ∃ j, i < j ∧ j < k ∧ Rch ps i j ∧ Rch ps j k := by unfold betw; exact @decide_eq_true_iff _ (Classical.propDecidable _)
def fp (l : List Step) (i k : Nat) : Bool := match l[i]?, l[k]? with
  | some a, some b => feedsP a b
  | _, _ => false
theorem fp_of {l : List Step} {i k : Nat} (hi : i < l.length) (hk : k < l.length) : fp l i k = feedsP l[i] l[k] := by
  simp [fp, List.getElem?_eq_getElem hi, List.getElem?_eq_getElem hk]
noncomputable def raceP (l : List Step) (p : Nat × Nat) : Bool := !(betw (depPairs l) p.1 p.2) && !(fp l p.1 p.2)
noncomputable def races (l : List Step) : List (Nat × Nat) := (depPairs l).filter (raceP l)

section
variable [Prim Try.prog]

theorem raceRound_any {S S2 : St} {v u p : Value} {l : List Step} {fe : FEnv} {i k b4 B : Nat} {d : List (Nat × Nat)} {bb : Nat}
    (hr : Run S2 v l) (hl : l.length ≤ 64) (hs : Sents l) (hik : i < k) (hk : k < l.length)
    (g1 : S2.get S.next = .cells [v] 23 1 true []) (g3 : S2.get (S.next + 1) = .cells [u] 25 1 true []) (g4 : S2.get b4 = .cells [p] 30 1 true [])
    (ho : Ord S2 bb p l.length (depPairs l)) (hown : Own S2 B u d) (hB : S.next + 2 ≤ B) (hb4 : b4 < B) (hBn : B ≤ S2.next) (hd : d.length < 1000000)
    (h1 : fe 1 = .pointer (some ⟨S.next, 0, none⟩)) (h3 : fe 3 = .pointer (some ⟨S.next + 1, 0, none⟩)) (h4 : fe 4 = .pointer (some ⟨b4, 0, none⟩)) (h12 : fe 12 = pairV (i, k)) :
    XW Try.prog xa11_1 fe S2 (fun e fe1 S3 => e = .normal ∧ XW Try.prog xb11_1 fe1 S3 (fun ex _ S4 => ex = .normal ∧
      S2.next ≤ S4.next ∧ (∀ id, id < B → id ≠ S.next + 1 → S4.get id = S2.get id) ∧ ∃ u', S4.get (S.next + 1) = .cells [u'] 25 1 true [] ∧ Own S4 B u' (d ++ if raceP l (i, k) then [(i, k)] else []))) := by
  simp (decide := true) only [↓symD, symU, ↓XW_cond, Nat.reduceEqDiff, List.zip_cons_cons, List.zip_nil_left, Option.bind_some, Option.map_some, Option.map_none, List.map_toArray, List.map_cons, List.map_nil, ne_eq, List.append_toArray, List.nil_append, List.cons_append, List.append_nil, xa11_1, h12, cells_zp, boxc_pair, blkOf_ptr, get_alloc_self, List.length_cons, List.length_nil, Nat.zero_add, Nat.reduceAdd, stPair, true_and]
  have hx3 : Ext S2 ((S2.alloc (.cells [.int .i64 0, .int .i64 0] 27 2 true [])).write S2.next (pairCs (i, k)) 27 2 []) := ext_box_write _ _ _ _ _
  have g5 : ((S2.alloc (.cells [.int .i64 0, .int .i64 0] 27 2 true [])).write S2.next (pairCs (i, k)) 27 2 []).get S2.next = .cells (pairCs (i, k)) 27 2 true [] := get_write_self _ _ _ _ _ _
  have n3 : ((S2.alloc (.cells [.int .i64 0, .int .i64 0] 27 2 true [])).write S2.next (pairCs (i, k)) 27 2 []).next = S2.next + 1 := by simp
  generalize (S2.alloc (.cells [.int .i64 0, .int .i64 0] 27 2 true [])).write S2.next (pairCs (i, k)) 27 2 [] = S3 at hx3 g5 n3 ⊢
  have wi : w64 ((i : Int) + 1) = ((i + 1 : Nat) : Int) := w64_add1 i (by omega)
  have q1 : S3.get S.next = .cells [v] 23 1 true [] := by rw [hx3.get _ (by omega)]; exact g1
  have q3 : S3.get (S.next + 1) = .cells [u] 25 1 true [] := by rw [hx3.get _ (by omega)]; exact g3
  have q4 : S3.get b4 = .cells [p] 30 1 true [] := by rw [hx3.get _ (by omega)]; exact g4
  have ho3 := ho.mono hx3
  have hr3 := hr.mono hx3
  have hown3 := hown.mono hx3
  simp (decide := true) only [↓symD, symU, ↓XW_cond, Nat.reduceEqDiff, List.zip_cons_cons, List.zip_nil_left, Option.bind_some, Option.map_some, Option.map_none, List.map_toArray, List.map_cons, List.map_nil, ne_eq, List.append_toArray, List.nil_append, List.cons_append, List.append_nil, xb11_1, h1, h3, h4, ia0, ia1, g5, rdP0, rdP1, part1_one, xbin_add, wi]
  refine XW_loopR 2 (fun m fe S' => S' = S3 ∧ fe 1 = .pointer (some ⟨S.next, 0, none⟩) ∧ fe 3 = .pointer (some ⟨S.next + 1, 0, none⟩) ∧ fe 4 = .pointer (some ⟨b4, 0, none⟩) ∧ fe 5 = .pointer (some ⟨S2.next, 0, none⟩) ∧ ∃ (j : Nat) (q : Bool), fe 7 = .int .i64 j ∧ fe 6 = .bool q ∧ m + j = k ∧ i < j ∧ (q = true ↔ ∃ x, i < x ∧ x < j ∧ Rch (depPairs l) i x ∧ Rch (depPairs l) x k))
    (fun fe S' => S' = S3 ∧ fe 1 = .pointer (some ⟨S.next, 0, none⟩) ∧ fe 3 = .pointer (some ⟨S.next + 1, 0, none⟩) ∧ fe 5 = .pointer (some ⟨S2.next, 0, none⟩) ∧ fe 6 = .bool (betw (depPairs l) i k)) (k - (i + 1)) ?_ ?_ ?_
  · simp (decide := true) only [↓symD, symU, ↓XW_cond, Nat.reduceEqDiff, List.zip_cons_cons, List.zip_nil_left, Option.bind_some, Option.map_some, Option.map_none, List.map_toArray, List.map_cons, List.map_nil, ne_eq, List.append_toArray, List.nil_append, List.cons_append, List.append_nil, h1, h3, h4, true_and]
    exact ⟨i + 1, false, rfl, rfl, by omega, by omega, by simp; intro x; omega⟩
  · rintro m fe _ ⟨rfl, h1, h3, h4, h5, j, q, h7, h6, hm, hij, hq⟩
    simp (decide := true) only [↓symD, symU, ↓XW_cond, Nat.reduceEqDiff, List.zip_cons_cons, List.zip_nil_left, Option.bind_some, Option.map_some, Option.map_none, List.map_toArray, List.map_cons, List.map_nil, ne_eq, List.append_toArray, List.nil_append, List.cons_append, List.append_nil, h5, h7, ia1, g5, rdP1, part1_one, xbin_lss]
    refine Test_dec (fun hlt => ?_) (fun hge => ?_)
    · have wj : w64 ((j : Int) + 1) = ((j + 1 : Nat) : Int) := w64_add1 j (by omega)
      have fin : ∀ q' : Bool, (q' = true ↔ Rch (depPairs l) i j ∧ Rch (depPairs l) j k) → ((q || q') = true ↔ ∃ x, i < x ∧ x < j + 1 ∧ Rch (depPairs l) i x ∧ Rch (depPairs l) x k) := by
        intro q' hq'
        rw [Bool.or_eq_true, hq, hq']
        constructor
        · rintro (⟨x, x1, x2, x3⟩ | h)
          · exact ⟨x, x1, by omega, x3⟩
          · exact ⟨j, hij, by omega, h⟩
        · rintro ⟨x, x1, x2, x3⟩
          by_cases e : x = j
          · subst e; exact .inr x3
          · exact .inl ⟨x, x1, by omega, x3⟩
      cases q with
      | true =>
        simp (decide := true) only [↓symD, symU, ↓XW_cond, Nat.reduceEqDiff, List.zip_cons_cons, List.zip_nil_left, Option.bind_some, Option.map_some, Option.map_none, List.map_toArray, List.map_cons, List.map_nil, ne_eq, List.append_toArray, List.nil_append, List.cons_append, List.append_nil, h1, h3, h4, h5, h6, h7, Pick_undef, xbin_add, wj, true_and]
        exact ⟨m - 1, by omega, j + 1, true, rfl, rfl, by omega, by omega, ⟨fun _ => by obtain ⟨x, x1, x2, x3⟩ := hq.1 rfl; exact ⟨x, x1, by omega, x3⟩, fun _ => rfl⟩⟩
      | false =>
        simp (decide := true) only [↓symD, symU, ↓XW_cond, Nat.reduceEqDiff, List.zip_cons_cons, List.zip_nil_left, Option.bind_some, Option.map_some, Option.map_none, List.map_toArray, List.map_cons, List.map_nil, ne_eq, List.append_toArray, List.nil_append, List.cons_append, List.append_nil, h1, h3, h4, h5, h6, h7, q4, rdBox, ia0, ia1, g5, rdP0, rdP1, part1_one]
        refine XCall.of (less_any ho3 hl i j (by omega) (by omega)) ?_
        rintro _ _ ⟨rfl, qa, rfl, hqa⟩
        cases qa with
        | false =>
          simp (decide := true) only [↓symD, symU, ↓XW_cond, Nat.reduceEqDiff, List.zip_cons_cons, List.zip_nil_left, Option.bind_some, Option.map_some, Option.map_none, List.map_toArray, List.map_cons, List.map_nil, ne_eq, List.append_toArray, List.nil_append, List.cons_append, List.append_nil, h1, h3, h4, h5, h6, h7, Pick_undef, xbin_add, wj, true_and]
          exact ⟨m - 1, by omega, j + 1, false, rfl, rfl, by omega, by omega, fin false (by simp at hqa ⊢; intro h; exact absurd h hqa)⟩
        | true =>
          simp (decide := true) only [↓symD, symU, ↓XW_cond, Nat.reduceEqDiff, List.zip_cons_cons, List.zip_nil_left, Option.bind_some, Option.map_some, Option.map_none, List.map_toArray, List.map_cons, List.map_nil, ne_eq, List.append_toArray, List.nil_append, List.cons_append, List.append_nil, h1, h3, h4, h5, h6, h7, q4, rdBox, ia0, ia1, g5, rdP0, rdP1, part1_one]
          refine XCall.of (less_any ho3 hl j k (by omega) (by omega)) ?_
          rintro _ _ ⟨rfl, qb, rfl, hqb⟩
          simp (decide := true) only [↓symD, symU, ↓XW_cond, Nat.reduceEqDiff, List.zip_cons_cons, List.zip_nil_left, Option.bind_some, Option.map_some, Option.map_none, List.map_toArray, List.map_cons, List.map_nil, ne_eq, List.append_toArray, List.nil_append, List.cons_append, List.append_nil, h1, h3, h4, h5, h6, h7, xbin_add, wj, true_and]
          exact ⟨m - 1, by omega, j + 1, qb, rfl, rfl, by omega, by omega, fin qb (by rw [hqb]; exact ⟨fun h => ⟨hqa.1 rfl, h⟩, fun h => h.2⟩)⟩
    · simp (decide := true) only [↓symD, symU, ↓XW_cond, Nat.reduceEqDiff, List.zip_cons_cons, List.zip_nil_left, Option.bind_some, Option.map_some, Option.map_none, List.map_toArray, List.map_cons, List.map_nil, ne_eq, List.append_toArray, List.nil_append, List.cons_append, List.append_nil, h1, h3, h5, true_and]
      rw [h6]
      obtain rfl : j = k := by omega
      congr 1
      rw [Bool.eq_iff_iff, hq, betw_iff]
  rintro fe S4 ⟨rfl, h1, h3, h5, h6⟩
  have skip : raceP l (i, k) = false → ∀ S5, Ext S4 S5 → S2.next ≤ S5.next ∧ (∀ id, id < B → ¬ id = S.next + 1 → S5.get id = S2.get id) ∧ ∃ u', S5.get (S.next + 1) = .cells [u'] 25 1 true [] ∧ Own S5 B u' (d ++ if raceP l (i, k) = true then [(i, k)] else []) := by
    intro hf S5 hx5
    refine ⟨Nat.le_trans hx3.next hx5.next, fun id hid _ => ?_, u, ?_, ?_⟩
    · rw [hx5.get _ (by omega), hx3.get _ (by omega)]
    · rw [hx5.get _ (by omega)]; exact q3
    · rw [hf]; simpa using hown3.mono hx5
  cases hbt : betw (depPairs l) i k with
  | true =>
    rw [hbt] at h6
    simp (decide := true) only [↓symD, symU, ↓XW_cond, Nat.reduceEqDiff, List.zip_cons_cons, List.zip_nil_left, Option.bind_some, Option.map_some, Option.map_none, List.map_toArray, List.map_cons, List.map_nil, ne_eq, List.append_toArray, List.nil_append, List.cons_append, List.append_nil, h1, h3, h5, h6, Bool.not_true, Pick_undef, true_and]
    exact skip (by simp [raceP, hbt]) _ (Ext.refl _)
  | false =>
    rw [hbt] at h6
    obtain ⟨ia, oa, ra, a1, a2, a3, a4⟩ := hr3.step i (by omega)
    obtain ⟨ib, ob, rb, b1, b2, b3, b4'⟩ := hr3.step k (by omega)
    simp (decide := true) only [↓symD, symU, ↓XW_cond, Nat.reduceEqDiff, List.zip_cons_cons, List.zip_nil_left, Option.bind_some, Option.map_some, Option.map_none, List.map_toArray, List.map_cons, List.map_nil, ne_eq, List.append_toArray, List.nil_append, List.cons_append, List.append_nil, h1, h3, h5, h6, Bool.not_false, q1, rdBox, ia0, ia1, g5, rdP0, rdP1, part1_one, part1_agg, a1, a3, b1, b3]
    refine XCall.of (feeds_any a4 b4' (hs i (by omega))) ?_
    rintro _ S5 ⟨hx5, rfl⟩
    have hfp : fp l i k = feedsP l[i] l[k] := fp_of (by omega) hk
    cases hf : feedsP l[i] l[k] with
    | true =>
      simp (decide := true) only [↓symD, symU, ↓XW_cond, Nat.reduceEqDiff, List.zip_cons_cons, List.zip_nil_left, Option.bind_some, Option.map_some, Option.map_none, List.map_toArray, List.map_cons, List.map_nil, ne_eq, List.append_toArray, List.nil_append, List.cons_append, List.append_nil, h1, h3, h5, h6, Bool.not_true, true_and]
      exact skip (by simp [raceP, hfp, hf]) _ hx5
    | false =>
      have hrp : raceP l (i, k) = true := by simp [raceP, hfp, hf, hbt]
      have p3 : S5.get (S.next + 1) = .cells [u] 25 1 true [] := by rw [hx5.get _ (by omega)]; exact q3
      have p5 : S5.get S2.next = .cells (pairCs (i, k)) 27 2 true [] := by rw [hx5.get _ (by omega)]; exact g5
      have hn5 := hx5.next
      have e2 : (Blk.cells (pairCs (i, k)) 27 2 true []).rd 0 2 = some (pairCs (i, k)) := rfl
      have hone : RdS (S5.alloc (.cells (pairCs (i, k)) 27 2 true [])) (.slice (some ⟨S5.next, 0, none⟩) 1 1) [(i, k)] := RdS.one S5 (i, k) _
      obtain ⟨r, S6, c1, c2, c3⟩ := ((hown3.mono hx5).mono (Ext.alloc S5 (.cells (pairCs (i, k)) 27 2 true []))).append hone (by simp; omega) 27 16 (by simpa using reach_pairs hd) (by decide)
      have c1' : xappend 27 2 16 u (.slice (some ⟨S5.next, 0, none⟩) 1 1) (S5.alloc (.cells (pairCs (i, k)) 27 2 true [])) = some (r, S6) := c1
      have hn6 := c3.next
      have p6 : S6.get (S.next + 1) = .cells [u] 25 1 true [] := by rw [c3.get _ (by omega), get_alloc_ne _ _ _ (by omega)]; exact p3
      simp (decide := true) only [↓symD, symU, ↓XW_cond, Nat.reduceEqDiff, List.zip_cons_cons, List.zip_nil_left, Option.bind_some, Option.map_some, Option.map_none, List.map_toArray, List.map_cons, List.map_nil, ne_eq, List.append_toArray, List.nil_append, List.cons_append, List.append_nil, fillL, splice, rep, List.replicate_succ, List.replicate_zero, List.flatten_cons, List.flatten_nil, List.append_nil, List.nil_append, List.cons_append, Value.cells, List.append_assoc, and_self, true_and, and_true, List.size_toArray, List.length_cons, List.length_nil, Nat.zero_add, ↓reduceIte, List.take_zero, List.drop_zero, List.drop_succ_cons, List.take_succ_cons, Nat.reduceAdd, Nat.reduceLeDiff, Nat.reduceEqDiff, allOne_int, allOne_nil, List.toList_toArray, boxc_agg, blkOf_ptr, stv_cells, Nat.add_zero, h1, h3, h5, h6, Bool.not_false, p3, p5, rdBox, e2, part1_one, part1_agg, pairCs_len, allOne_pair, List.drop_succ_cons, List.drop_nil, c1', c2.boxc, blkOf_ptr, p6, stBox, true_and]
      refine ⟨by simp at hn6 ⊢; omega, fun id hid hne => ?_, r, get_write_self _ _ _ _ _ _, ?_⟩
      · rw [get_write_ne _ _ _ _ _ _ hne, c3.get _ hid, get_alloc_ne _ _ _ (by omega), hx5.get _ (by omega), hx3.get _ (by omega)]
      · rw [hrp]
        exact c2.off (by omega) _ _ _
theorem race_any {v : Value} {l : List Step} {S : St} (hr : Run S v l) (hl : l.length ≤ 64) (hs : Sents l) :
    XC Try.prog 11 #[v] S fun r S' => Ext S S' ∧ RdS S' r (races l) := by
  refine XC_body XF11 ?_
  have cz : (Value.pointer none).cells.toList = [.pointer none] := by simp [Value.cells]
  have hxA : Ext S ((S.alloc (.cells [v] 23 1 true [])).alloc (.cells [.slice none 0 0] 25 1 true [])) := (Ext.alloc _ _).trans (Ext.alloc _ _)
  have gA1 : ((S.alloc (.cells [v] 23 1 true [])).alloc (.cells [.slice none 0 0] 25 1 true [])).get S.next = .cells [v] 23 1 true [] := by rw [get_alloc_ne _ _ _ (by simp), get_alloc_self]
  have gA3 : ((S.alloc (.cells [v] 23 1 true [])).alloc (.cells [.slice none 0 0] 25 1 true [])).get (S.next + 1) = .cells [.slice none 0 0] 25 1 true [] := get_alloc_self (S.alloc (.cells [v] 23 1 true [])) _
  have nA : ((S.alloc (.cells [v] 23 1 true [])).alloc (.cells [.slice none 0 0] 25 1 true [])).next = S.next + 2 := rfl
  generalize hA : (S.alloc (.cells [v] 23 1 true [])).alloc (.cells [.slice none 0 0] 25 1 true []) = SA at hxA gA1 gA3 nA
  simp (decide := true) only [↓symD, symU, ↓XW_cond, Nat.reduceEqDiff, List.zip_cons_cons, List.zip_nil_left, Option.bind_some, Option.map_some, Option.map_none, List.map_toArray, List.map_cons, List.map_nil, ne_eq, List.append_toArray, List.nil_append, List.cons_append, List.append_nil, xf11, hr.boxc, List.length_cons, List.length_nil, Nat.zero_add, cells_slice, hA, gA1, rdBox, part1_one]
  refine XCall_at fun SA' hSA' => ?_
  obtain rfl : SA' = SA := by rw [hSA', ← hA]; simp only [List.length_cons, List.length_nil, Nat.zero_add]
  clear hSA'
  refine XCall.of (order_any (hr.mono hxA) hl hs) ?_
  rintro p S2 ⟨hx2, ho⟩
  have hbp : boxc p = some [p] := by
    obtain ⟨id, va, t, mi, an, xs, rfl, _⟩ := ho
    exact boxc_ptr _
  have hxB : Ext S2 ((S2.alloc (.cells [.pointer none] 30 1 true [])).write S2.next [p] 30 1 []) := ext_box_write _ _ _ _ _
  have gB4 : ((S2.alloc (.cells [.pointer none] 30 1 true [])).write S2.next [p] 30 1 []).get S2.next = .cells [p] 30 1 true [] := get_write_self _ _ _ _ _ _
  have nB : ((S2.alloc (.cells [.pointer none] 30 1 true [])).write S2.next [p] 30 1 []).next = S2.next + 1 := by simp
  generalize hB : (S2.alloc (.cells [.pointer none] 30 1 true [])).write S2.next [p] 30 1 [] = SB at hxB gB4 nB
  have hn2 := hx2.next
  have gB1 : SB.get S.next = .cells [v] 23 1 true [] := by rw [hxB.get _ (by omega), hx2.get _ (by omega)]; exact gA1
  have gB3 : SB.get (S.next + 1) = .cells [.slice none 0 0] 25 1 true [] := by rw [hxB.get _ (by omega), hx2.get _ (by omega)]; exact gA3
  simp (decide := true) only [↓symD, symU, ↓XW_cond, Nat.reduceEqDiff, List.zip_cons_cons, List.zip_nil_left, Option.bind_some, Option.map_some, Option.map_none, List.map_toArray, List.map_cons, List.map_nil, ne_eq, List.append_toArray, List.nil_append, List.cons_append, List.append_nil, cz, List.length_cons, List.length_nil, Nat.zero_add, hbp, blkOf_ptr, get_alloc_self, stBox, hB, gB1, rdBox, part1_one]
  refine XCall_at fun SB' hSB' => ?_
  obtain rfl : SB' = SB := by rw [hSB', ← hB]; simp only [List.length_cons, List.length_nil, Nat.zero_add]
  clear hSB'
  have hrB := ((hr.mono hxA).mono hx2).mono hxB
  refine XCall.of (deps_any hrB) ?_
  rintro _ SC ⟨hxC, nC, rfl, gC⟩
  simp (decide := true) only [↓symD, symU, ↓XW_cond, Nat.reduceEqDiff, List.zip_cons_cons, List.zip_nil_left, Option.bind_some, Option.map_some, Option.map_none, List.map_toArray, List.map_cons, List.map_nil, ne_eq, List.append_toArray, List.nil_append, List.cons_append, List.append_nil]
  refine XRange.intro fun env henv hnv => ?_
  have hxSC : Ext S SC := ((hxA.trans hx2).trans hxB).trans hxC
  have hrC := hrB.mono hxC
  have hxD : Ext SC (SC.alloc (.loop env (loopIn Try.prog 11 1) none)) := Ext.alloc _ _
  have gDy : (SC.alloc (.loop env (loopIn Try.prog 11 1) none)).get SC.next = .loop env (loopIn Try.prog 11 1) none := get_alloc_self _ _
  have nD : (SC.alloc (.loop env (loopIn Try.prog 11 1) none)).next = SC.next + 1 := rfl
  generalize SC.alloc (.loop env (loopIn Try.prog 11 1) none) = SD at hxD gDy nD ⊢
  have hoD := ((ho.mono hxB).mono hxC).mono hxD
  have gD1 : SD.get S.next = .cells [v] 23 1 true [] := by rw [hxD.get _ (by omega), hxC.get _ (by omega)]; exact gB1
  have gD3 : SD.get (S.next + 1) = .cells [.slice none 0 0] 25 1 true [] := by rw [hxD.get _ (by omega), hxC.get _ (by omega)]; exact gB3
  have gD4 : SD.get S2.next = .cells [p] 30 1 true [] := by rw [hxD.get _ (by omega), hxC.get _ (by omega)]; exact gB4
  have gDd : SD.get SB'.next = .cells [v] 23 1 true [] := by rw [hxD.get _ (by omega)]; exact gC
  have hdep := dep1_any (fun d S' => SD.next ≤ S'.next ∧ (∀ id, id < SD.next → id ≠ S.next + 1 → S'.get id = SD.get id) ∧ ∃ u, S'.get (S.next + 1) = .cells [u] 25 1 true [] ∧ Own S' SD.next u (d.filter (raceP l)))
    (v := v) (l := l) SC.next SB'.next 23 true [] ?_ ?_ ?_ (by omega) hs (S := SD) ?_
  · refine XC.mono hdep ?_
    rintro _ S3 ⟨n3, f3, u, gu, hown⟩
    have hlp : S3.get SC.next = .loop env (loopIn Try.prog 11 1) none := by rw [f3 _ (by omega) (by omega)]; exact gDy
    refine ⟨env, _, none, hlp, ?_⟩
    have g1 : (S3.put SC.next .gone).get (S.next + 1) = .cells [u] 25 1 true [] := by rw [St.get_put, if_neg (by omega)]; exact gu
    have h1 : Ext S (S3.put SC.next .gone) := ⟨by have := hxSC.next; simp; omega, fun id hid => by rw [St.get_put, if_neg (by omega), f3 _ (by omega) (by omega), hxD.get _ (by omega), hxSC.get _ hid]⟩
    have h2 := hown.putB (id := SC.next) (by omega) .gone
    generalize S3.put SC.next .gone = S4 at g1 h1 h2 ⊢
    simp (decide := true) only [↓symD, symU, ↓XW_cond, Nat.reduceEqDiff, List.zip_cons_cons, List.zip_nil_left, Option.bind_some, Option.map_some, Option.map_none, List.map_toArray, List.map_cons, List.map_nil, ne_eq, List.append_toArray, List.nil_append, List.cons_append, List.append_nil, Option.getD_none, g1, rdBox, part1_one]
    exact ⟨h1, h2.rd⟩
  · rintro d S3 ⟨n3, f3, _⟩
    have hx3 : Ext S S3 := ⟨by have := hxSC.next; omega, fun id hid => by rw [f3 _ (by have := hxSC.next; omega) (by omega), hxD.get _ (by have := hxSC.next; omega), hxSC.get _ hid]⟩
    exact ⟨hr.mono hx3, by omega, by rw [f3 _ (by omega) (by omega)]; exact gDd⟩
  · rintro d S3 S4 ⟨n3, f3, u, gu, hown⟩ hx
    exact ⟨Nat.le_trans n3 hx.next, fun id h1 h2 => by rw [hx.get _ (by omega)]; exact f3 id h1 h2, u, by rw [hx.get _ (by omega)]; exact gu, hown.mono hx⟩
  · rintro d i k S3 ⟨n3, f3, u, gu, hown⟩ hik hk hdp hlen
    have hlp : S3.get SC.next = .loop env (loopIn Try.prog 11 1) none := by rw [f3 _ (by omega) (by omega)]; exact gDy
    refine XY_roundN hlp XL11_1 hnv (by rw [XP11_1]; rfl) ?_
    rw [XP11_1]
    simp only [updL, List.zip_cons_cons, List.zip_nil_left, List.foldl_cons, List.foldl_nil]
    rw [henv]
    have n3' : SD.next ≤ (S3.put SC.next .gone).next := by simpa using n3
    have f3' : ∀ id, id < SD.next → id ≠ S.next + 1 → id ≠ SC.next → (S3.put SC.next .gone).get id = SD.get id := fun id h1 h2 h3 => by rw [St.get_put, if_neg h3]; exact f3 id h1 h2
    have gu' : (S3.put SC.next .gone).get (S.next + 1) = .cells [u] 25 1 true [] := by rw [St.get_put, if_neg (by omega)]; exact gu
    have hown' := hown.putB (id := SC.next) (by omega) .gone
    have back : ∀ S4 : St, S4.next ≥ SD.next → (∀ id, id < SD.next → id ≠ S.next + 1 → S4.get id = (S3.put SC.next .gone).get id) → ∀ id, id < SD.next → id ≠ S.next + 1 → (S4.put SC.next (.loop env (loopIn Try.prog 11 1) none)).get id = SD.get id := by
      intro S4 h1 h2 id h3 h4
      rw [St.get_put]
      split
      · rename_i e; rw [e]; exact gDy.symm
      · rename_i e; rw [h2 id h3 h4]; exact f3' id h3 h4 e
    generalize S3.put SC.next .gone = S4 at n3' f3' gu' hown' back ⊢
    have hx4 : Ext S S4 := ⟨by have := hxSC.next; omega, fun id hid => by rw [f3' _ (by have := hxSC.next; omega) (by omega) (by have := hxSC.next; omega), hxD.get _ (by have := hxSC.next; omega), hxSC.get _ hid]⟩
    have ho4 : Ord S4 SA'.next p l.length (depPairs l) := ((ho.mono hxB).mono hxC).mid (by omega) fun id h1 h2 => by rw [f3' id (by omega) (by omega) (by omega), hxD.get _ h2]
    refine XW.mono (fun e fe1 S5 hh => ⟨hh.1, XW.mono (fun ex fe2 S6 hq => ?_) hh.2⟩) (raceRound_any (S := S) (S2 := S4) (b4 := S2.next) (B := SD.next) (p := p) (l := l) (d := d.filter (raceP l)) (hr.mono hx4) hl hs hik hk (by rw [f3' _ (by omega) (by omega) (by omega)]; exact gD1) gu' (by rw [f3' _ (by omega) (by omega) (by omega)]; exact gD4) ho4 hown' (by omega) (by omega) n3' (Nat.lt_of_le_of_lt (List.length_filter_le _ _) hlen) ?_ ?_ ?_ ?_)
    · obtain ⟨rfl, m1, m2, u', m3, m4⟩ := hq
      refine ⟨rfl, trivial, by simpa using Nat.le_trans n3' m1, back S6 (Nat.le_trans n3' m1) m2, u', by rw [St.get_put, if_neg (by omega)]; exact m3, ?_⟩
      rw [List.filter_append, List.filter_cons, List.filter_nil]
      exact m4.putB (by omega) _
    · simp (decide := true) only [↓symD, symU, ↓XW_cond, Nat.reduceEqDiff, List.zip_cons_cons, List.zip_nil_left, Option.bind_some, Option.map_some, Option.map_none, List.map_toArray, List.map_cons, List.map_nil, ne_eq, List.append_toArray, List.nil_append, List.cons_append, List.append_nil]
    · simp (decide := true) only [↓symD, symU, ↓XW_cond, Nat.reduceEqDiff, List.zip_cons_cons, List.zip_nil_left, Option.bind_some, Option.map_some, Option.map_none, List.map_toArray, List.map_cons, List.map_nil, ne_eq, List.append_toArray, List.nil_append, List.cons_append, List.append_nil]
    · simp (decide := true) only [↓symD, symU, ↓XW_cond, Nat.reduceEqDiff, List.zip_cons_cons, List.zip_nil_left, Option.bind_some, Option.map_some, Option.map_none, List.map_toArray, List.map_cons, List.map_nil, ne_eq, List.append_toArray, List.nil_append, List.cons_append, List.append_nil]
    · simp (decide := true) only [↓symD, symU, ↓XW_cond, Nat.reduceEqDiff, List.zip_cons_cons, List.zip_nil_left, Option.bind_some, Option.map_some, Option.map_none, List.map_toArray, List.map_cons, List.map_nil, ne_eq, List.append_toArray, List.nil_append, List.cons_append, List.append_nil]
  · exact ⟨Nat.le_refl _, fun _ _ _ => rfl, _, gD3, Own.nil _ _⟩
end
end Go.Proofs.Ytolfpchcmiljpaa

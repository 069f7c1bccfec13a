/- The pairs of dependent steps. -/
import Derived.Test.YtolfpchcmiljpaaDc
set_option linter.unusedSimpArgs false
set_option linter.unusedSectionVars false
set_option maxRecDepth 10000
namespace Go.Proofs.Ytolfpchcmiljpaa
open Go Go.RowKit

/-- whether two places of a run are dependent. -/
def dp (l : List Step) (i k : Nat) : Bool := match l[i]?, l[k]? with
  | some a, some b => depP a b
  | _, _ => false
theorem dp_of {l : List Step} {i k : Nat} (hi : i < l.length) (hk : k < l.length) : dp l i k = depP l[i] l[k] := by
  simp [dp, List.getElem?_eq_getElem hi, List.getElem?_eq_getElem hk]
def rowL (l : List Step) (i : Nat) : Nat → Nat → List (Nat × Nat)
  | _, 0 => []
  | k, m + 1 => (if dp l i k then [(i, k)] else []) ++ rowL l i (k + 1) m
def pairsL (l : List Step) : Nat → Nat → List (Nat × Nat)
  | _, 0 => []
  | i, m + 1 => rowL l i (i + 1) (l.length - (i + 1)) ++ pairsL l (i + 1) m
def depPairs (l : List Step) : List (Nat × Nat) := pairsL l 0 l.length
theorem rowL_step (l : List Step) (i k : Nat) (h : k < l.length) : rowL l i k (l.length - k) = (if dp l i k then [(i, k)] else []) ++ rowL l i (k + 1) (l.length - (k + 1)) := by
  rw [show l.length - k = (l.length - (k + 1)) + 1 by omega, rowL]
theorem pairsL_step (l : List Step) (i : Nat) (h : i < l.length) : pairsL l i (l.length - i) = rowL l i (i + 1) (l.length - (i + 1)) ++ pairsL l (i + 1) (l.length - (i + 1)) := by
  rw [show l.length - i = (l.length - (i + 1)) + 1 by omega, pairsL]
theorem mem_rowL (l : List Step) (i : Nat) (q : Nat × Nat) : ∀ m k, q ∈ rowL l i k m ↔ q.1 = i ∧ k ≤ q.2 ∧ q.2 < k + m ∧ dp l i q.2 = true := by
  intro m
  induction m with
  | zero => intro k; simp only [rowL, List.not_mem_nil, false_iff]; omega
  | succ m ih =>
    intro k
    rw [rowL, List.mem_append, ih (k + 1)]
    obtain ⟨a, b⟩ := q
    constructor
    · rintro (h | ⟨h1, h2, h3, h4⟩)
      · split at h
        · simp only [List.mem_singleton, Prod.mk.injEq] at h
          obtain ⟨rfl, rfl⟩ := h
          exact ⟨rfl, Nat.le_refl _, by show b < b + (m + 1); omega, by assumption⟩
        · simp at h
      · exact ⟨h1, by omega, by omega, h4⟩
    · rintro ⟨h1, h2, h3, h4⟩
      by_cases hb : b = k
      · left
        simp only at h1 h4
        rw [hb] at h4
        rw [if_pos h4, h1, hb]
        simp
      · right
        simp only at h2 h3
        exact ⟨h1, by simp only; omega, by simp only; omega, h4⟩
theorem mem_pairsL (l : List Step) (q : Nat × Nat) : ∀ m i, i + m = l.length → (q ∈ pairsL l i m ↔ i ≤ q.1 ∧ q.1 < q.2 ∧ q.2 < l.length ∧ dp l q.1 q.2 = true) := by
  intro m
  induction m with
  | zero => intro i hi; simp only [pairsL, List.not_mem_nil, false_iff]; omega
  | succ m ih =>
    intro i hi
    rw [pairsL, List.mem_append, ih (i + 1) (by omega), mem_rowL]
    obtain ⟨a, b⟩ := q
    simp only
    constructor
    · rintro (⟨h1, h2, h3, h4⟩ | ⟨h1, h2, h3, h4⟩)
      · subst h1; exact ⟨by omega, by omega, by omega, h4⟩
      · exact ⟨by omega, h2, h3, h4⟩
    · rintro ⟨h1, h2, h3, h4⟩
      by_cases ha : a = i
      · left; subst ha; exact ⟨rfl, by omega, by omega, h4⟩
      · right; exact ⟨by omega, h2, h3, h4⟩
theorem mem_depPairs (l : List Step) (q : Nat × Nat) : q ∈ depPairs l ↔ q.1 < q.2 ∧ q.2 < l.length ∧ dp l q.1 q.2 = true := by
  rw [depPairs, mem_pairsL l q l.length 0 (by omega)]
  simp
theorem rowL_length (l : List Step) (i : Nat) : ∀ m k, (rowL l i k m).length ≤ m := by
  intro m
  induction m with
  | zero => intro k; simp [rowL]
  | succ m ih =>
    intro k
    rw [rowL, List.length_append]
    have := ih (k + 1)
    split
    · simp; omega
    · simp; omega
theorem pairsL_length (l : List Step) : ∀ m i, (pairsL l i m).length ≤ m * l.length := by
  intro m
  induction m with
  | zero => intro i; simp [pairsL]
  | succ m ih =>
    intro i
    rw [pairsL, List.length_append, Nat.succ_mul]
    have h1 := rowL_length l i (l.length - (i + 1)) (i + 1)
    have h2 := ih (i + 1)
    omega

/-- a pair of numbers in memory. -/
def pairCs (p : Nat × Nat) : List Value := [.int .i64 p.1, .int .i64 p.2]
instance : Enc (Nat × Nat) := ⟨2, pairCs, fun _ => rfl, fun _ => rfl, by decide⟩
abbrev pairV (p : Nat × Nat) : Value := .agg (pairCs p).toArray

theorem Run.step {S : St} {v : Value} {l : List Step} (h : Run S v l) (i : Nat) (hi : i < l.length) : ∃ id o r, iav 11 v (.int .i64 i) = some (.pointer (some ⟨id, o, none⟩)) ∧ id < S.next ∧ (S.get id).rd o 11 = some (RStep.cs r) ∧ Rep S r l[i] := by
  obtain ⟨rs, h1, h2⟩ := h
  have hi' : i < rs.length := by rw [h2.1]; exact hi
  obtain ⟨id, o, e1, e2, e3⟩ := h1.get .i64 i hi'
  exact ⟨id, o, rs[i], e1, e2, e3, h2.2 i hi' hi⟩

section
variable [Prim Try.prog]

def Sents (l : List Step) : Prop := ∀ i (h : i < l.length), l[i].sent.length ≤ 1000

theorem dep1_any {v : Value} {l : List Step} (J : List (Nat × Nat) → St → Prop) (y idp : Nat) (t : TypeId) (mi : Bool) (an : List Nat)
    (hJ : ∀ d S, J d S → Run S v l ∧ idp < S.next ∧ S.get idp = .cells [v] t 1 mi an)
    (hx : ∀ d S S', J d S → Ext S S' → J d S')
    (hY : ∀ d (i k : Nat) S, J d S → i < k → k < l.length → dp l i k = true → d.length < 1000000 → XG Try.prog (.yield y) #[pairV (i, k)] S (fun r S' => r = .bool true ∧ J (d ++ [(i, k)]) S'))
    (hl : l.length ≤ 1000) (hs : Sents l) {S : St} (h0 : J [] S) :
    XC Try.prog 41 #[.func (.yield y) #[] #[], .pointer (some ⟨idp, 0, none⟩)] S fun _ S' => J (depPairs l) S' := by
  refine XC_body XF41 ?_
  have e1 : (Blk.cells [v] t 1 mi an).rd 0 1 = some [v] := rfl
  obtain ⟨r0, p0, g0⟩ := hJ _ _ h0
  simp (decide := true) only [↓symD, symU, ↓XW_cond, Nat.reduceEqDiff, List.zip_cons_cons, List.zip_nil_left, Option.bind_some, Option.map_some, Option.map_none, List.map_toArray, List.map_cons, List.map_nil, ne_eq, List.append_toArray, List.nil_append, List.cons_append, List.append_nil, xf41, g0, e1, part1_one, r0.len]
  refine XW_loopR 0 (fun m fe S' => fe 0 = .func (.yield y) #[] #[] ∧ fe 1 = .pointer (some ⟨idp, 0, none⟩) ∧ fe 6 = .int .i64 l.length ∧ ∃ i : Nat, ∃ d, fe 7 = .int .i64 i ∧ m + i = l.length ∧ J d S' ∧ d ++ pairsL l i (l.length - i) = depPairs l)
    (fun fe S' => J (depPairs l) S') l.length ?_ ?_ ?_
  · simp (decide := true) only [↓symD, symU, ↓XW_cond, Nat.reduceEqDiff, List.zip_cons_cons, List.zip_nil_left, Option.bind_some, Option.map_some, Option.map_none, List.map_toArray, List.map_cons, List.map_nil, ne_eq, List.append_toArray, List.nil_append, List.cons_append, List.append_nil, true_and]
    exact ⟨0, [], rfl, by omega, h0, rfl⟩
  · rintro m fe S2 ⟨h0, h1, h6, i, d, h7, hm, hj, heq⟩
    simp (decide := true) only [↓symD, symU, ↓XW_cond, Nat.reduceEqDiff, List.zip_cons_cons, List.zip_nil_left, Option.bind_some, Option.map_some, Option.map_none, List.map_toArray, List.map_cons, List.map_nil, ne_eq, List.append_toArray, List.nil_append, List.cons_append, List.append_nil, h6, h7, xbin_lss]
    refine Test_dec (fun hlt => ?_) (fun hge => ?_)
    · have w1 : w64 ((i : Int) + 1) = ((i + 1 : Nat) : Int) := by rw [w64_ok (by omega) (by omega)]; omega
      simp (decide := true) only [↓symD, symU, ↓XW_cond, Nat.reduceEqDiff, List.zip_cons_cons, List.zip_nil_left, Option.bind_some, Option.map_some, Option.map_none, List.map_toArray, List.map_cons, List.map_nil, ne_eq, List.append_toArray, List.nil_append, List.cons_append, List.append_nil, h7, xbin_add, w1]
      rw [pairsL_step l i (by omega)] at heq
      refine XW_loopR 2 (fun m fe S' => fe 0 = .func (.yield y) #[] #[] ∧ fe 1 = .pointer (some ⟨idp, 0, none⟩) ∧ fe 6 = .int .i64 l.length ∧ fe 7 = .int .i64 i ∧ fe 3 = .int .i64 i ∧ ∃ k : Nat, ∃ d, fe 4 = .int .i64 k ∧ m + k = l.length ∧ i < k ∧ J d S' ∧ d ++ (rowL l i k (l.length - k) ++ pairsL l (i + 1) (l.length - (i + 1))) = depPairs l)
        (fun fe S' => fe 0 = .func (.yield y) #[] #[] ∧ fe 1 = .pointer (some ⟨idp, 0, none⟩) ∧ fe 6 = .int .i64 l.length ∧ fe 7 = .int .i64 i ∧ ∃ d, J d S' ∧ d ++ pairsL l (i + 1) (l.length - (i + 1)) = depPairs l) (l.length - (i + 1)) ?_ ?_ ?_
      · simp (decide := true) only [↓symD, symU, ↓XW_cond, Nat.reduceEqDiff, List.zip_cons_cons, List.zip_nil_left, Option.bind_some, Option.map_some, Option.map_none, List.map_toArray, List.map_cons, List.map_nil, ne_eq, List.append_toArray, List.nil_append, List.cons_append, List.append_nil, h0, h1, h6, h7, true_and]
        exact ⟨i + 1, d, rfl, by omega, by omega, hj, heq⟩
      · rintro m2 fe S3 ⟨h0, h1, h6, h7, h3, k, d, h4, hm2, hik, hj, heq⟩
        obtain ⟨r3, p3, g3⟩ := hJ _ _ hj
        simp (decide := true) only [↓symD, symU, ↓XW_cond, Nat.reduceEqDiff, List.zip_cons_cons, List.zip_nil_left, Option.bind_some, Option.map_some, Option.map_none, List.map_toArray, List.map_cons, List.map_nil, ne_eq, List.append_toArray, List.nil_append, List.cons_append, List.append_nil, h1, h3, h4, g3, e1, part1_one, r3.len, xbin_lss]
        refine Test_dec (fun hlt2 => ?_) (fun hge2 => ?_)
        · obtain ⟨ia, oa, ra, a1, a2, a3, a4⟩ := r3.step i (by omega)
          obtain ⟨ib, ob, rb, b1, b2, b3, b4⟩ := r3.step k (by omega)
          simp (decide := true) only [↓symD, symU, ↓XW_cond, Nat.reduceEqDiff, List.zip_cons_cons, List.zip_nil_left, Option.bind_some, Option.map_some, Option.map_none, List.map_toArray, List.map_cons, List.map_nil, ne_eq, List.append_toArray, List.nil_append, List.cons_append, List.append_nil, h1, h3, h4, g3, e1, part1_one, a1, a3, b1, b3, part1_agg]
          refine XCall.of (dependent_any a4 b4 (hs i (by omega)) (hs k (by omega))) ?_
          rintro _ S4 ⟨hx4, rfl⟩
          rw [rowL_step l i k (by omega), dp_of (by omega) (by omega : k < l.length)] at heq
          have w2 : w64 ((k : Int) + 1) = ((k + 1 : Nat) : Int) := by rw [w64_ok (by omega) (by omega)]; omega
          have hj4 := hx _ _ _ hj hx4
          cases hd : depP l[i] l[k] with
          | false =>
            rw [hd] at heq
            simp (decide := true) only [↓symD, symU, ↓XW_cond, Nat.reduceEqDiff, List.zip_cons_cons, List.zip_nil_left, Option.bind_some, Option.map_some, Option.map_none, List.map_toArray, List.map_cons, List.map_nil, ne_eq, List.append_toArray, List.nil_append, List.cons_append, List.append_nil, h0, h1, h3, h4, h6, h7, Pick_undef, xbin_add, w2, true_and]
            exact ⟨m2 - 1, by omega, k + 1, d, rfl, by omega, by omega, hj4, heq⟩
          | true =>
            rw [hd] at heq
            have hdp : dp l i k = true := by rw [dp_of (by omega) (by omega)]; exact hd
            have hlen : d.length < 1000000 := by
              have := pairsL_length l l.length 0
              have h9 : d.length < (depPairs l).length := by rw [← heq]; simp
              have h8 : l.length * l.length ≤ 1000 * 1000 := Nat.mul_le_mul hl hl
              rw [depPairs] at h9
              omega
            simp (decide := true) only [↓symD, symU, ↓XW_cond, Nat.reduceEqDiff, List.zip_cons_cons, List.zip_nil_left, Option.bind_some, Option.map_some, Option.map_none, List.map_toArray, List.map_cons, List.map_nil, ne_eq, List.append_toArray, List.nil_append, List.cons_append, List.append_nil, fillL, splice, rep, List.replicate_succ, List.replicate_zero, List.flatten_cons, List.flatten_nil, List.append_nil, List.nil_append, List.cons_append, Value.cells, List.append_assoc, and_self, true_and, and_true, List.size_toArray, List.length_cons, List.length_nil, Nat.zero_add, ↓reduceIte, List.take_zero, List.drop_zero, List.drop_succ_cons, List.take_succ_cons, Nat.reduceAdd, Nat.reduceLeDiff, Nat.reduceEqDiff, allOne_int, allOne_nil, List.toList_toArray, boxc_agg, blkOf_ptr, stv_cells, Nat.add_zero, h0, h1, h3, h4, h6, h7]
            refine XYield.of (hY d i k S4 hj4 hik (by omega) hdp hlen) ?_
            rintro _ S5 ⟨rfl, hj5⟩
            simp (decide := true) only [↓symD, symU, ↓XW_cond, Nat.reduceEqDiff, List.zip_cons_cons, List.zip_nil_left, Option.bind_some, Option.map_some, Option.map_none, List.map_toArray, List.map_cons, List.map_nil, ne_eq, List.append_toArray, List.nil_append, List.cons_append, List.append_nil, Bool.not_true, h0, h1, h3, h4, h6, h7, xbin_add, w2, true_and]
            exact ⟨m2 - 1, by omega, k + 1, d ++ [(i, k)], rfl, by omega, by omega, hj5, by rw [← heq]; simp⟩
        · simp (decide := true) only [↓symD, symU, ↓XW_cond, Nat.reduceEqDiff, List.zip_cons_cons, List.zip_nil_left, Option.bind_some, Option.map_some, Option.map_none, List.map_toArray, List.map_cons, List.map_nil, ne_eq, List.append_toArray, List.nil_append, List.cons_append, List.append_nil, h0, h1, h6, h7, true_and]
          refine ⟨d, hj, ?_⟩
          rw [← heq, show l.length - k = 0 by omega, rowL]; rfl
      · rintro fe S3 ⟨h0, h1, h6, h7, d, hj, heq⟩
        simp (decide := true) only [↓symD, symU, ↓XW_cond, Nat.reduceEqDiff, List.zip_cons_cons, List.zip_nil_left, Option.bind_some, Option.map_some, Option.map_none, List.map_toArray, List.map_cons, List.map_nil, ne_eq, List.append_toArray, List.nil_append, List.cons_append, List.append_nil, h0, h1, h6, h7, xbin_add, w1, true_and]
        exact ⟨m - 1, by omega, i + 1, d, rfl, by omega, hj, heq⟩
    · simp (decide := true) only [↓symD, symU, ↓XW_cond, Nat.reduceEqDiff, List.zip_cons_cons, List.zip_nil_left, Option.bind_some, Option.map_some, Option.map_none, List.map_toArray, List.map_cons, List.map_nil, ne_eq, List.append_toArray, List.nil_append, List.cons_append, List.append_nil]
      rw [show l.length - i = 0 by omega, pairsL, List.append_nil] at heq
      rw [← heq]; exact hj
  · rintro fe S' h
    simp (decide := true) only [↓symD, symU, ↓XW_cond, Nat.reduceEqDiff, List.zip_cons_cons, List.zip_nil_left, Option.bind_some, Option.map_some, Option.map_none, List.map_toArray, List.map_cons, List.map_nil, ne_eq, List.append_toArray, List.nil_append, List.cons_append, List.append_nil]
    exact h
end
end Go.Proofs.Ytolfpchcmiljpaa

/- Steps of a run in memory, and the law DependChains. -/
import Derived.Test.YtolfpchcmiljpaaDp
set_option linter.unusedSimpArgs false
set_option linter.unusedSectionVars false
set_option maxRecDepth 10000
namespace Go.Proofs.Ytolfpchcmiljpaa
open Go Go.RowKit

/-- the cells of a step. -/
theorem Run.cells {S : St} {v : Value} {l : List Step} (h : Run S v l) (i : Nat) (hi : i < l.length) : ∃ id o, iav 11 v (.int .i64 i) = some (.pointer (some ⟨id, o, none⟩)) ∧ id < S.next ∧
    (S.get id).rd (o + 1) 1 = some [.int .i64 l[i].ev.node] ∧ (S.get id).rd (o + 9) 1 = some [.bool l[i].obs] ∧ ∃ r, Rep S r l[i] ∧ (S.get id).rd (o + 10) 1 = some [r.sent.v] ∧ (S.get id).rd (o + 8) 1 = some [r.asks.v] ∧ (S.get id).rd o 11 = some r.cs := by
  obtain ⟨rs, h1, h2⟩ := h
  have hi' : i < rs.length := by rw [h2.1]; exact hi
  obtain ⟨id, o, e1, e2, e3⟩ := h1.at .i64 i hi'
  have hr := h2.2 i hi' hi
  have n1 := e3 S rfl 1 1 (by show 1 + 1 ≤ 11; omega)
  have n9 := e3 S rfl 9 1 (by show 9 + 1 ≤ 11; omega)
  have n10 := e3 S rfl 10 1 (by show 10 + 1 ≤ 11; omega)
  have n8 := e3 S rfl 8 1 (by show 8 + 1 ≤ 11; omega)
  have n0 := e3 S rfl 0 11 (by show 0 + 11 ≤ 11; omega)
  refine ⟨id, o, e1, e2, ?_, ?_, rs[i], hr, n10, n8, n0⟩
  · rw [n1, ← hr.1]; rfl
  · rw [n9, ← hr.2.1]; rfl
theorem Ord.ptr {S : St} {b : Nat} {p : Value} {n : Nat} {ps : Pairs} (h : Ord S b p n ps) : ∃ id, p = .pointer (some ⟨id, 0, none⟩) ∧ id < S.next ∧ b ≤ id := by
  obtain ⟨id, va, t, mi, an, xs, h1, h2, _⟩ := h
  exact ⟨id, h1, h2.2, h2.1⟩
theorem eqp_some (a : Addr) : eqpv false (.pointer (some a)) (.pointer none) = some (.bool false) := Eq.trans rfl rfl
theorem GoodS.sents {l : List Step} (h : ∀ j (h : j < l.length), GoodS l[j]) : Sents l := fun j hj => Nat.le_trans (h j hj).1 (by decide)
theorem dep_node {a b : Step} (h : a.ev.node = b.ev.node) : depP a b = true := by simp [depP, h]
theorem dep_obs {a b : Step} (h : a.obs = true) (h' : b.obs = true) : depP a b = true := by simp [depP, h, h']
theorem reach_of {l : List Step} {i k : Nat} (hik : i < k) (hk : k < l.length) (h : depP l[i] l[k] = true) : Rch (depPairs l) i k :=
  .one ((mem_depPairs l (i, k)).2 ⟨hik, hk, by rw [dp_of (by omega) hk]; exact h⟩)
theorem not_back {l : List Step} {i k : Nat} (hik : i ≤ k) : ¬ Rch (depPairs l) k i := fun h => by
  have := (Rch.lt (up_depPairs l) h).1
  omega

section
variable [Prim Try.prog]

theorem chains_any {v : Value} {l : List Int} {S : St} (hv : RdS S v l) (hb : ∀ x ∈ l, -9223372036854775808 ≤ x ∧ x ≤ 9223372036854775807) :
    XC Try.prog 4 #[v] S fun r S' => Ext S S' ∧ r = .bool true := by
  refine XC_body XF4 ?_
  simp (decide := true) only [↓symD, symU, ↓XW_cond, Nat.reduceEqDiff, List.zip_cons_cons, List.zip_nil_left, Option.bind_some, Option.map_some, Option.map_none, List.map_toArray, List.map_cons, List.map_nil, ne_eq, List.append_toArray, List.nil_append, List.cons_append, List.append_nil, xf4]
  refine XCall.of (run_any hv hb) ?_
  rintro v1 S1 ⟨hx1, rl, hrun, hlen, hgood⟩
  simp (decide := true) only [↓symD, symU, ↓XW_cond, Nat.reduceEqDiff, List.zip_cons_cons, List.zip_nil_left, Option.bind_some, Option.map_some, Option.map_none, List.map_toArray, List.map_cons, List.map_nil, ne_eq, List.append_toArray, List.nil_append, List.cons_append, List.append_nil]
  refine XCall.of (order_any hrun (by omega) (GoodS.sents hgood)) ?_
  rintro p S2 ⟨hx2, ho⟩
  have hrun2 := hrun.mono hx2
  obtain ⟨ip, rfl, hip⟩ := ho.ptr
  simp (decide := true) only [↓symD, symU, ↓XW_cond, Nat.reduceEqDiff, List.zip_cons_cons, List.zip_nil_left, Option.bind_some, Option.map_some, Option.map_none, List.map_toArray, List.map_cons, List.map_nil, ne_eq, List.append_toArray, List.nil_append, List.cons_append, List.append_nil, eqp_some]
  refine XW_loopR 0 (fun m fe S' => S' = S2 ∧ fe 3 = v1 ∧ fe 4 = .pointer (some ⟨ip, 0, none⟩) ∧ ∃ i : Nat, fe 5 = .int .i64 i ∧ m + i = rl.length) (fun fe S' => S' = S2) rl.length ?_ ?_ ?_
  · simp (decide := true) only [↓symD, symU, ↓XW_cond, Nat.reduceEqDiff, List.zip_cons_cons, List.zip_nil_left, Option.bind_some, Option.map_some, Option.map_none, List.map_toArray, List.map_cons, List.map_nil, ne_eq, List.append_toArray, List.nil_append, List.cons_append, List.append_nil, true_and]
    exact ⟨0, rfl, by omega⟩
  · rintro m fe S2 ⟨rfl, h3, h4, i, h5, hm⟩
    simp (decide := true) only [↓symD, symU, ↓XW_cond, Nat.reduceEqDiff, List.zip_cons_cons, List.zip_nil_left, Option.bind_some, Option.map_some, Option.map_none, List.map_toArray, List.map_cons, List.map_nil, ne_eq, List.append_toArray, List.nil_append, List.cons_append, List.append_nil, h3, h5, hrun2.len, xbin_lss]
    refine Test_dec (fun hlt => ?_) (fun hge => ?_)
    · have hi : i < rl.length := by omega
      have wi : w64 ((i : Int) + 1) = ((i + 1 : Nat) : Int) := w64_add1 i (by omega)
      simp (decide := true) only [↓symD, symU, ↓XW_cond, Nat.reduceEqDiff, List.zip_cons_cons, List.zip_nil_left, Option.bind_some, Option.map_some, Option.map_none, List.map_toArray, List.map_cons, List.map_nil, ne_eq, List.append_toArray, List.nil_append, List.cons_append, List.append_nil, h5, xbin_add, wi]
      refine XW_loopR 2 (fun m2 fe S' => S' = S2 ∧ fe 3 = v1 ∧ fe 4 = .pointer (some ⟨ip, 0, none⟩) ∧ fe 5 = .int .i64 i ∧ ∃ k : Nat, fe 6 = .int .i64 k ∧ m2 + k = rl.length ∧ i < k) (fun fe S' => S' = S2 ∧ fe 3 = v1 ∧ fe 4 = .pointer (some ⟨ip, 0, none⟩) ∧ fe 5 = .int .i64 i) (rl.length - (i + 1)) ?_ ?_ ?_
      · simp (decide := true) only [↓symD, symU, ↓XW_cond, Nat.reduceEqDiff, List.zip_cons_cons, List.zip_nil_left, Option.bind_some, Option.map_some, Option.map_none, List.map_toArray, List.map_cons, List.map_nil, ne_eq, List.append_toArray, List.nil_append, List.cons_append, List.append_nil, h3, h4, h5, true_and]
        exact ⟨i + 1, rfl, by omega, by omega⟩
      · clear h3 h4 h5
        rintro m2 fe S2 ⟨rfl, h3, h4, h5, k, h6, hm2, hik⟩
        simp (decide := true) only [↓symD, symU, ↓XW_cond, Nat.reduceEqDiff, List.zip_cons_cons, List.zip_nil_left, Option.bind_some, Option.map_some, Option.map_none, List.map_toArray, List.map_cons, List.map_nil, ne_eq, List.append_toArray, List.nil_append, List.cons_append, List.append_nil, h3, h6, hrun2.len, xbin_lss]
        refine Test_dec (fun hlt2 => ?_) (fun hge2 => ?_)
        · have hk : k < rl.length := by omega
          have wk : w64 ((k : Int) + 1) = ((k + 1 : Nat) : Int) := w64_add1 k (by omega)
          obtain ⟨ia, oa, a1, a2, a3, a4, _⟩ := hrun2.cells i hi
          obtain ⟨ib, ob, b1, b2, b3, b4, _⟩ := hrun2.cells k hk
          have fin : ∀ q : Bool, (q = true → Rch (depPairs rl) i k) → q = true ∨ q = false := fun q _ => by cases q <;> simp
          have yes : depP rl[i] rl[k] = true → Rch (depPairs rl) i k := reach_of hik hk
          cases q1 : decide (rl[i].ev.node = rl[k].ev.node) with
          | true =>
            simp (decide := true) only [↓symD, symU, ↓XW_cond, Nat.reduceEqDiff, List.zip_cons_cons, List.zip_nil_left, Option.bind_some, Option.map_some, Option.map_none, List.map_toArray, List.map_cons, List.map_nil, ne_eq, List.append_toArray, List.nil_append, List.cons_append, List.append_nil, h3, h5, h6, a1, b1, a3, b3, ptrAdd_ptr, part1_one, xbin_eql, q1, Pick_undef, Nat.add_zero]
            have hy := yes (dep_node (of_decide_eq_true q1))
            simp (decide := true) only [↓symD, symU, ↓XW_cond, Nat.reduceEqDiff, List.zip_cons_cons, List.zip_nil_left, Option.bind_some, Option.map_some, Option.map_none, List.map_toArray, List.map_cons, List.map_nil, ne_eq, List.append_toArray, List.nil_append, List.cons_append, List.append_nil, h4, h5, h6, Bool.not_true, Bool.not_false]
            refine XCall.of (less_any ho (by omega) i k hi hk) ?_
            rintro _ S4 ⟨rfl, q, rfl, hq⟩
            obtain rfl : q = true := hq.2 hy
            simp (decide := true) only [↓symD, symU, ↓XW_cond, Nat.reduceEqDiff, List.zip_cons_cons, List.zip_nil_left, Option.bind_some, Option.map_some, Option.map_none, List.map_toArray, List.map_cons, List.map_nil, ne_eq, List.append_toArray, List.nil_append, List.cons_append, List.append_nil, h4, h5, h6, Bool.not_true, Bool.not_false]
            refine XCall.of (less_any ho (by omega) k i hk hi) ?_
            rintro _ S4 ⟨rfl, q, rfl, hq⟩
            have hq0 : q = false := by
              cases q with
              | false => rfl
              | true => exact absurd (hq.1 rfl) (not_back (by omega))
            subst hq0
            simp (decide := true) only [↓symD, symU, ↓XW_cond, Nat.reduceEqDiff, List.zip_cons_cons, List.zip_nil_left, Option.bind_some, Option.map_some, Option.map_none, List.map_toArray, List.map_cons, List.map_nil, ne_eq, List.append_toArray, List.nil_append, List.cons_append, List.append_nil, h3, h4, h5, h6, xbin_add, wk, true_and]
            exact ⟨m2 - 1, by omega, k + 1, rfl, by omega, by omega⟩
          | false =>
            cases q2 : rl[i].obs with
            | false =>
              simp (decide := true) only [↓symD, symU, ↓XW_cond, Nat.reduceEqDiff, List.zip_cons_cons, List.zip_nil_left, Option.bind_some, Option.map_some, Option.map_none, List.map_toArray, List.map_cons, List.map_nil, ne_eq, List.append_toArray, List.nil_append, List.cons_append, List.append_nil, h3, h5, h6, a1, b1, a3, b3, a4, b4, ptrAdd_ptr, part1_one, xbin_eql, q1, q2, Pick_undef, Nat.add_zero]
              simp (decide := true) only [↓symD, symU, ↓XW_cond, Nat.reduceEqDiff, List.zip_cons_cons, List.zip_nil_left, Option.bind_some, Option.map_some, Option.map_none, List.map_toArray, List.map_cons, List.map_nil, ne_eq, List.append_toArray, List.nil_append, List.cons_append, List.append_nil, h4, h5, h6, Bool.not_true, Bool.not_false]
              refine XCall.of (less_any ho (by omega) k i hk hi) ?_
              rintro _ S4 ⟨rfl, q, rfl, hq⟩
              have hq0 : q = false := by
                cases q with
                | false => rfl
                | true => exact absurd (hq.1 rfl) (not_back (by omega))
              subst hq0
              simp (decide := true) only [↓symD, symU, ↓XW_cond, Nat.reduceEqDiff, List.zip_cons_cons, List.zip_nil_left, Option.bind_some, Option.map_some, Option.map_none, List.map_toArray, List.map_cons, List.map_nil, ne_eq, List.append_toArray, List.nil_append, List.cons_append, List.append_nil, h3, h4, h5, h6, xbin_add, wk, true_and]
              exact ⟨m2 - 1, by omega, k + 1, rfl, by omega, by omega⟩
            | true =>
              cases q3 : rl[k].obs with
              | false =>
                simp (decide := true) only [↓symD, symU, ↓XW_cond, Nat.reduceEqDiff, List.zip_cons_cons, List.zip_nil_left, Option.bind_some, Option.map_some, Option.map_none, List.map_toArray, List.map_cons, List.map_nil, ne_eq, List.append_toArray, List.nil_append, List.cons_append, List.append_nil, h3, h5, h6, a1, b1, a3, b3, a4, b4, ptrAdd_ptr, part1_one, xbin_eql, q1, q2, q3, Pick_undef, Nat.add_zero]
                simp (decide := true) only [↓symD, symU, ↓XW_cond, Nat.reduceEqDiff, List.zip_cons_cons, List.zip_nil_left, Option.bind_some, Option.map_some, Option.map_none, List.map_toArray, List.map_cons, List.map_nil, ne_eq, List.append_toArray, List.nil_append, List.cons_append, List.append_nil, h4, h5, h6, Bool.not_true, Bool.not_false]
                refine XCall.of (less_any ho (by omega) k i hk hi) ?_
                rintro _ S4 ⟨rfl, q, rfl, hq⟩
                have hq0 : q = false := by
                  cases q with
                  | false => rfl
                  | true => exact absurd (hq.1 rfl) (not_back (by omega))
                subst hq0
                simp (decide := true) only [↓symD, symU, ↓XW_cond, Nat.reduceEqDiff, List.zip_cons_cons, List.zip_nil_left, Option.bind_some, Option.map_some, Option.map_none, List.map_toArray, List.map_cons, List.map_nil, ne_eq, List.append_toArray, List.nil_append, List.cons_append, List.append_nil, h3, h4, h5, h6, xbin_add, wk, true_and]
                exact ⟨m2 - 1, by omega, k + 1, rfl, by omega, by omega⟩
              | true =>
                simp (decide := true) only [↓symD, symU, ↓XW_cond, Nat.reduceEqDiff, List.zip_cons_cons, List.zip_nil_left, Option.bind_some, Option.map_some, Option.map_none, List.map_toArray, List.map_cons, List.map_nil, ne_eq, List.append_toArray, List.nil_append, List.cons_append, List.append_nil, h3, h5, h6, a1, b1, a3, b3, a4, b4, ptrAdd_ptr, part1_one, xbin_eql, q1, q2, q3, Pick_undef, Nat.add_zero]
                have hy := yes (dep_obs q2 q3)
                simp (decide := true) only [↓symD, symU, ↓XW_cond, Nat.reduceEqDiff, List.zip_cons_cons, List.zip_nil_left, Option.bind_some, Option.map_some, Option.map_none, List.map_toArray, List.map_cons, List.map_nil, ne_eq, List.append_toArray, List.nil_append, List.cons_append, List.append_nil, h4, h5, h6, Bool.not_true, Bool.not_false]
                refine XCall.of (less_any ho (by omega) i k hi hk) ?_
                rintro _ S4 ⟨rfl, q, rfl, hq⟩
                obtain rfl : q = true := hq.2 hy
                simp (decide := true) only [↓symD, symU, ↓XW_cond, Nat.reduceEqDiff, List.zip_cons_cons, List.zip_nil_left, Option.bind_some, Option.map_some, Option.map_none, List.map_toArray, List.map_cons, List.map_nil, ne_eq, List.append_toArray, List.nil_append, List.cons_append, List.append_nil, h4, h5, h6, Bool.not_true, Bool.not_false]
                refine XCall.of (less_any ho (by omega) k i hk hi) ?_
                rintro _ S4 ⟨rfl, q, rfl, hq⟩
                have hq0 : q = false := by
                  cases q with
                  | false => rfl
                  | true => exact absurd (hq.1 rfl) (not_back (by omega))
                subst hq0
                simp (decide := true) only [↓symD, symU, ↓XW_cond, Nat.reduceEqDiff, List.zip_cons_cons, List.zip_nil_left, Option.bind_some, Option.map_some, Option.map_none, List.map_toArray, List.map_cons, List.map_nil, ne_eq, List.append_toArray, List.nil_append, List.cons_append, List.append_nil, h3, h4, h5, h6, xbin_add, wk, true_and]
                exact ⟨m2 - 1, by omega, k + 1, rfl, by omega, by omega⟩
        · simp (decide := true) only [↓symD, symU, ↓XW_cond, Nat.reduceEqDiff, List.zip_cons_cons, List.zip_nil_left, Option.bind_some, Option.map_some, Option.map_none, List.map_toArray, List.map_cons, List.map_nil, ne_eq, List.append_toArray, List.nil_append, List.cons_append, List.append_nil, h3, h4, h5, true_and]
      · rintro fe S2 ⟨rfl, h3, h4, h5⟩
        simp (decide := true) only [↓symD, symU, ↓XW_cond, Nat.reduceEqDiff, List.zip_cons_cons, List.zip_nil_left, Option.bind_some, Option.map_some, Option.map_none, List.map_toArray, List.map_cons, List.map_nil, ne_eq, List.append_toArray, List.nil_append, List.cons_append, List.append_nil, h5, xbin_add, wi, h3, h4, true_and]
        exact ⟨m - 1, by omega, i + 1, rfl, by omega⟩
    · simp (decide := true) only [↓symD, symU, ↓XW_cond, Nat.reduceEqDiff, List.zip_cons_cons, List.zip_nil_left, Option.bind_some, Option.map_some, Option.map_none, List.map_toArray, List.map_cons, List.map_nil, ne_eq, List.append_toArray, List.nil_append, List.cons_append, List.append_nil]
  · rintro fe S2 rfl
    simp (decide := true) only [↓symD, symU, ↓XW_cond, Nat.reduceEqDiff, List.zip_cons_cons, List.zip_nil_left, Option.bind_some, Option.map_some, Option.map_none, List.map_toArray, List.map_cons, List.map_nil, ne_eq, List.append_toArray, List.nil_append, List.cons_append, List.append_nil]
    refine XCall.of lives_any ?_
    rintro _ S3 ⟨hx3, rfl⟩
    simp (decide := true) only [↓symD, symU, ↓XW_cond, Nat.reduceEqDiff, List.zip_cons_cons, List.zip_nil_left, Option.bind_some, Option.map_some, Option.map_none, List.map_toArray, List.map_cons, List.map_nil, ne_eq, List.append_toArray, List.nil_append, List.cons_append, List.append_nil, and_true]
    exact (hx1.trans hx2).trans hx3
end
end Go.Proofs.Ytolfpchcmiljpaa

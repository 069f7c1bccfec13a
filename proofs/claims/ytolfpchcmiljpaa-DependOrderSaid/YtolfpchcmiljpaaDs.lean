/- The law DependOrder. -/
import Derived.Test.YtolfpchcmiljpaaDr
set_option linter.unusedSimpArgs false
set_option linter.unusedSectionVars false
set_option maxRecDepth 10000
namespace Go.Proofs.Ytolfpchcmiljpaa
open Go Go.RowKit

theorem eqbT (a b : Bool) : eqbv true (.bool a) (.bool b) = some (.bool (!(a == b))) := Eq.trans rfl rfl
section
variable [Prim Try.prog]

theorem orderLaw_any {v : Value} {l : List Int} {S : St} (hv : RdS S v l) (hb : ∀ x ∈ l, -9223372036854775808 ≤ x ∧ x ≤ 9223372036854775807) :
    XC Try.prog 5 #[v] S fun r S' => Ext S S' ∧ r = .bool true := by
  refine XC_body XF5 ?_
  simp (decide := true) only [↓symD, symU, ↓XW_cond, Nat.reduceEqDiff, List.zip_cons_cons, List.zip_nil_left, Option.bind_some, Option.map_some, Option.map_none, List.map_toArray, List.map_cons, List.map_nil, ne_eq, List.append_toArray, List.nil_append, List.cons_append, List.append_nil, xf5]
  refine XCall.of (run_any hv hb) ?_
  rintro v1 S1 ⟨hx1, rl, hrun, hlen, hgood⟩
  simp (decide := true) only [↓symD, symU, ↓XW_cond, Nat.reduceEqDiff, List.zip_cons_cons, List.zip_nil_left, Option.bind_some, Option.map_some, Option.map_none, List.map_toArray, List.map_cons, List.map_nil, ne_eq, List.append_toArray, List.nil_append, List.cons_append, List.append_nil]
  refine XCall.of (order_any hrun (by omega) (GoodS.sents hgood)) ?_
  rintro p S2 ⟨hx2, ho⟩
  obtain ⟨ip, rfl, hip⟩ := ho.ptr
  simp (decide := true) only [↓symD, symU, ↓XW_cond, Nat.reduceEqDiff, List.zip_cons_cons, List.zip_nil_left, Option.bind_some, Option.map_some, Option.map_none, List.map_toArray, List.map_cons, List.map_nil, ne_eq, List.append_toArray, List.nil_append, List.cons_append, List.append_nil, eqp_some]
  refine XCall.of (refLess_any (hrun.mono hx2) (by omega) (GoodS.sents hgood)) ?_
  rintro u S3 ⟨hx3, hmat⟩
  have ho := ho.mono hx3
  have hrun := (hrun.mono hx2).mono hx3
  simp (decide := true) only [↓symD, symU, ↓XW_cond, Nat.reduceEqDiff, List.zip_cons_cons, List.zip_nil_left, Option.bind_some, Option.map_some, Option.map_none, List.map_toArray, List.map_cons, List.map_nil, ne_eq, List.append_toArray, List.nil_append, List.cons_append, List.append_nil]
  refine XW_loopR 0 (fun m fe S' => S' = S3 ∧ fe 3 = v1 ∧ fe 4 = .pointer (some ⟨ip, 0, none⟩) ∧ fe 5 = u ∧ ∃ i : Nat, fe 6 = .int .i64 i ∧ m + i = rl.length) (fun fe S' => S' = S3 ∧ fe 3 = v1 ∧ fe 4 = .pointer (some ⟨ip, 0, none⟩)) rl.length ?_ ?_ ?_
  · simp (decide := true) only [↓symD, symU, ↓XW_cond, Nat.reduceEqDiff, List.zip_cons_cons, List.zip_nil_left, Option.bind_some, Option.map_some, Option.map_none, List.map_toArray, List.map_cons, List.map_nil, ne_eq, List.append_toArray, List.nil_append, List.cons_append, List.append_nil, true_and]
    exact ⟨0, rfl, by omega⟩
  · rintro m fe S3 ⟨rfl, h3, h4, h5, i, h6, hm⟩
    simp (decide := true) only [↓symD, symU, ↓XW_cond, Nat.reduceEqDiff, List.zip_cons_cons, List.zip_nil_left, Option.bind_some, Option.map_some, Option.map_none, List.map_toArray, List.map_cons, List.map_nil, ne_eq, List.append_toArray, List.nil_append, List.cons_append, List.append_nil, h3, h6, hrun.len, xbin_lss]
    refine Test_dec (fun hlt => ?_) (fun hge => ?_)
    · have hi : i < rl.length := by omega
      have wi : w64 ((i : Int) + 1) = ((i + 1 : Nat) : Int) := w64_add1 i (by omega)
      simp (decide := true) only [↓symD, symU, ↓XW_cond, Nat.reduceEqDiff, List.zip_cons_cons, List.zip_nil_left, Option.bind_some, Option.map_some, Option.map_none, List.map_toArray, List.map_cons, List.map_nil, ne_eq, List.append_toArray, List.nil_append, List.cons_append, List.append_nil]
      refine XW_loopR 2 (fun m2 fe S' => S' = S3 ∧ fe 3 = v1 ∧ fe 4 = .pointer (some ⟨ip, 0, none⟩) ∧ fe 5 = u ∧ fe 6 = .int .i64 i ∧ ∃ k : Nat, fe 7 = .int .i64 k ∧ m2 + k = rl.length) (fun fe S' => S' = S3 ∧ fe 3 = v1 ∧ fe 4 = .pointer (some ⟨ip, 0, none⟩) ∧ fe 5 = u ∧ fe 6 = .int .i64 i) rl.length ?_ ?_ ?_
      · simp (decide := true) only [↓symD, symU, ↓XW_cond, Nat.reduceEqDiff, List.zip_cons_cons, List.zip_nil_left, Option.bind_some, Option.map_some, Option.map_none, List.map_toArray, List.map_cons, List.map_nil, ne_eq, List.append_toArray, List.nil_append, List.cons_append, List.append_nil, h3, h4, h5, h6, true_and]
        exact ⟨0, rfl, by omega⟩
      · clear h3 h4 h5 h6
        rintro m2 fe S3 ⟨rfl, h3, h4, h5, h6, k, h7, hm2⟩
        simp (decide := true) only [↓symD, symU, ↓XW_cond, Nat.reduceEqDiff, List.zip_cons_cons, List.zip_nil_left, Option.bind_some, Option.map_some, Option.map_none, List.map_toArray, List.map_cons, List.map_nil, ne_eq, List.append_toArray, List.nil_append, List.cons_append, List.append_nil, h3, h7, hrun.len, xbin_lss]
        refine Test_dec (fun hlt2 => ?_) (fun hge2 => ?_)
        · have hk : k < rl.length := by omega
          have wk : w64 ((k : Int) + 1) = ((k + 1 : Nat) : Int) := w64_add1 k (by omega)
          obtain ⟨id, o, w, id2, o2, b, c1, c2, c3, c4, c5, c6, c7⟩ := hmat.cell hi hk
          simp (decide := true) only [↓symD, symU, ↓XW_cond, Nat.reduceEqDiff, List.zip_cons_cons, List.zip_nil_left, Option.bind_some, Option.map_some, Option.map_none, List.map_toArray, List.map_cons, List.map_nil, ne_eq, List.append_toArray, List.nil_append, List.cons_append, List.append_nil, h4, h6, h7]
          refine XCall.of (less_any ho (by omega) i k hi hk) ?_
          rintro _ S4 ⟨rfl, q, rfl, hq⟩
          obtain rfl : q = b := by rw [Bool.eq_iff_iff, hq, c7]
          refine keepP.intro (Ext.refl _) ?_
          have eb : (!(q == q)) = false := by simp
          simp (decide := true) only [↓symD, symU, ↓XW_cond, Nat.reduceEqDiff, List.zip_cons_cons, List.zip_nil_left, Option.bind_some, Option.map_some, Option.map_none, List.map_toArray, List.map_cons, List.map_nil, ne_eq, List.append_toArray, List.nil_append, List.cons_append, List.append_nil, h5, h6, h7, c1, c2, c3, c4, c5, c6, part1_one, eqbT, eb, xbin_add, wk, h3, h4, true_and]
          exact ⟨m2 - 1, by omega, k + 1, rfl, by omega⟩
        · simp (decide := true) only [↓symD, symU, ↓XW_cond, Nat.reduceEqDiff, List.zip_cons_cons, List.zip_nil_left, Option.bind_some, Option.map_some, Option.map_none, List.map_toArray, List.map_cons, List.map_nil, ne_eq, List.append_toArray, List.nil_append, List.cons_append, List.append_nil, h3, h4, h5, h6, true_and]
      · rintro fe S3 ⟨rfl, h3, h4, h5, h6⟩
        simp (decide := true) only [↓symD, symU, ↓XW_cond, Nat.reduceEqDiff, List.zip_cons_cons, List.zip_nil_left, Option.bind_some, Option.map_some, Option.map_none, List.map_toArray, List.map_cons, List.map_nil, ne_eq, List.append_toArray, List.nil_append, List.cons_append, List.append_nil, h6, xbin_add, wi, h3, h4, h5, true_and]
        exact ⟨m - 1, by omega, i + 1, rfl, by omega⟩
    · simp (decide := true) only [↓symD, symU, ↓XW_cond, Nat.reduceEqDiff, List.zip_cons_cons, List.zip_nil_left, Option.bind_some, Option.map_some, Option.map_none, List.map_toArray, List.map_cons, List.map_nil, ne_eq, List.append_toArray, List.nil_append, List.cons_append, List.append_nil, h3, h4, true_and]
  · rintro fe S3 ⟨rfl, h3, h4⟩
    simp (decide := true) only [↓symD, symU, ↓XW_cond, Nat.reduceEqDiff, List.zip_cons_cons, List.zip_nil_left, Option.bind_some, Option.map_some, Option.map_none, List.map_toArray, List.map_cons, List.map_nil, ne_eq, List.append_toArray, List.nil_append, List.cons_append, List.append_nil, h4]
    refine XCall.of (ordLen_any ho) ?_
    rintro _ S4 ⟨rfl, rfl⟩
    simp (decide := true) only [↓symD, symU, ↓XW_cond, Nat.reduceEqDiff, List.zip_cons_cons, List.zip_nil_left, Option.bind_some, Option.map_some, Option.map_none, List.map_toArray, List.map_cons, List.map_nil, ne_eq, List.append_toArray, List.nil_append, List.cons_append, List.append_nil, h3, hrun.len, xbin_eql, decide_true]
    refine XCall.of lives_any ?_
    rintro _ S3 ⟨hx4, rfl⟩
    simp (decide := true) only [↓symD, symU, ↓XW_cond, Nat.reduceEqDiff, List.zip_cons_cons, List.zip_nil_left, Option.bind_some, Option.map_some, Option.map_none, List.map_toArray, List.map_cons, List.map_nil, ne_eq, List.append_toArray, List.nil_append, List.cons_append, List.append_nil, and_true]
    exact ((hx1.trans hx2).trans hx3).trans hx4
end
end Go.Proofs.Ytolfpchcmiljpaa

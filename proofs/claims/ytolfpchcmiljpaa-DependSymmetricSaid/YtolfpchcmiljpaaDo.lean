/- Around, and what lies in memory while a run is made. -/
import Derived.Test.YtolfpchcmiljpaaDn
set_option linter.unusedSimpArgs false
set_option linter.unusedSectionVars false
set_option maxRecDepth 10000
namespace Go.Proofs.Ytolfpchcmiljpaa
open Go Go.RowKit

def around (n m : Int) : Int := (if n < 0 then -(n + 1) else n) % m
theorem around_lt (n m : Int) (h : 0 < m) : 0 ≤ around n m ∧ around n m < m := ⟨Int.emod_nonneg _ (by omega), Int.emod_lt_of_pos _ h⟩
theorem unv_neg (n : Int) (h : -9223372036854775808 < n) (h' : n ≤ 9223372036854775807) : unv .neg (.int .i64 n) = some (.int .i64 (-n)) := by
  have := w64_ok (n := 0 - n) (by omega) (by omega)
  unfold w64 at this
  simp only [unv, this]
  simp


/-- the two ways of a condition meet again. -/
theorem Test_join {P : Program} [Prim P] {q : Bool} {x y : XCode} {fe : FEnv} {S : St} {K : FEnv → St → Prop} {Q : Ex → FEnv → St → Prop} (R : FEnv → St → Prop)
    (h1 : q = true → XW P x fe S (fun e fe S => e = .normal ∧ R fe S)) (h2 : q = false → XW P y fe S (fun e fe S => e = .normal ∧ R fe S)) (hk : ∀ fe S, R fe S → K fe S) :
    @Test (.bool q) ⟨(XW P x fe S (bindN K Q), XW P y fe S (bindN K Q))⟩ :=
  ⟨q, rfl, fun h => XW.mono (fun e fe S hh => by obtain ⟨rfl, hh⟩ := hh; exact hk fe S hh) (h1 h), fun h => XW.mono (fun e fe S hh => by obtain ⟨rfl, hh⟩ := hh; exact hk fe S hh) (h2 h)⟩

/-- a step as the generator makes it. -/
def GoodS (s : Step) : Prop := s.sent.length ≤ 2 ∧ s.asks.length ≤ 1 ∧ ∀ m ∈ s.sent, m.copy = 0
/-- what has been made. -/
structure MadeS (S : St) (col : Col) (rs : List RStep) (rl : List Step) : Prop where
  len : rs.length = rl.length
  each : ∀ j (h : j < rs.length) (h' : j < rl.length), rs[j].ev = rl[j].ev ∧ rs[j].obs = rl[j].obs ∧ OwnK S col (10 + 2 * j) rs[j].sent.v rl[j].sent ∧ OwnK S col (11 + 2 * j) rs[j].asks.v rl[j].asks ∧ GoodS rl[j]
theorem MadeS.nil (S : St) (col : Col) : MadeS S col [] [] := ⟨rfl, fun j h => by simp at h⟩
theorem MadeS.keepP {S S' : St} {col col' : Col} {C : Nat → Prop} {rs : List RStep} {rl : List Step} (h : MadeS S col rs rl) (k : ChgP col C S col' S') (hC : ∀ j, j < rs.length → ¬ C (10 + 2 * j) ∧ ¬ C (11 + 2 * j)) : MadeS S' col' rs rl :=
  ⟨h.len, fun j h1 h2 => by
    obtain ⟨e1, e2, e3, e4, e5⟩ := h.each j h1 h2
    exact ⟨e1, e2, e3.keepP k (hC j h1).1, e4.keepP k (hC j h1).2, e5⟩⟩
theorem MadeS.keep {S S' : St} {col col' : Col} {c : Nat} {rs : List RStep} {rl : List Step} (h : MadeS S col rs rl) (k : Chg col c S col' S') (hc : c < 10 ∨ 10 + 2 * rs.length ≤ c) : MadeS S' col' rs rl :=
  h.keepP (k.toP (C := fun x => x = c) rfl) fun j hj => ⟨fun e => by omega, fun e => by omega⟩
theorem MadeS.mono {S S' : St} {col : Col} {rs : List RStep} {rl : List Step} (h : MadeS S col rs rl) (k : Ext S S') : MadeS S' col rs rl :=
  ⟨h.len, fun j h1 h2 => by
    obtain ⟨e1, e2, e3, e4, e5⟩ := h.each j h1 h2
    exact ⟨e1, e2, e3.mono k, e4.mono k, e5⟩⟩
theorem MadeS.add {S : St} {col : Col} {rs : List RStep} {rl : List Step} (h : MadeS S col rs rl) {r : RStep} {s : Step} (e1 : r.ev = s.ev) (e2 : r.obs = s.obs) (e3 : OwnK S col (10 + 2 * rs.length) r.sent.v s.sent) (e4 : OwnK S col (11 + 2 * rs.length) r.asks.v s.asks) (e5 : GoodS s) : MadeS S col (rs ++ [r]) (rl ++ [s]) := by
  have hl := h.len
  refine ⟨by simp [hl], fun j h1 h2 => ?_⟩
  by_cases hj : j < rs.length
  · rw [List.getElem_append_left hj, List.getElem_append_left (by omega)]
    exact h.each j hj (by omega)
  · obtain rfl : j = rs.length := by simp at h1; omega
    rw [List.getElem_append_right (Nat.le_refl _), List.getElem_append_right (by omega)]
    simp only [Nat.sub_self, List.getElem_cons_zero]
    have : rs.length - rl.length = 0 := by omega
    simp only [this, List.getElem_cons_zero]
    exact ⟨e1, e2, e3, e4, e5⟩
theorem MadeS.run {S : St} {col : Col} {rs : List RStep} {rl : List Step} {v : Value} (h : MadeS S col rs rl) (hv : RdS S v rs) : Run S v rl :=
  ⟨rs, hv, h.len, fun j h1 h2 => by
    obtain ⟨e1, e2, e3, e4, e5⟩ := h.each j h1 h2
    exact ⟨e1, e2, e4.rd, e3.rd⟩⟩
theorem MadeS.good {S : St} {col : Col} {rs : List RStep} {rl : List Step} (h : MadeS S col rs rl) : ∀ j (h' : j < rl.length), GoodS rl[j] := fun j h' => (h.each j (by rw [h.len]; exact h') h').2.2.2.2
section
variable [Prim Try.prog]

theorem around_any (n m : Int) (S : St) (h0 : -9223372036854775808 ≤ n) (h1 : n ≤ 9223372036854775807) (hm : 1 ≤ m) :
    XC Try.prog 18 #[.int .i64 n, .int .i64 m] S fun r S' => S' = S ∧ r = .int .i64 (around n m) := by
  refine XC_body XF18 ?_
  simp (decide := true) only [↓symD, symU, ↓XW_cond, Nat.reduceEqDiff, List.zip_cons_cons, List.zip_nil_left, Option.bind_some, Option.map_some, Option.map_none, List.map_toArray, List.map_cons, List.map_nil, ne_eq, List.append_toArray, List.nil_append, List.cons_append, List.append_nil, xf18, xbin_lss]
  refine Test_dec (fun h => ?_) (fun h => ?_)
  · have w1 : w64 (n + 1) = n + 1 := w64_ok (by omega) (by omega)
    simp (decide := true) only [↓symD, symU, ↓XW_cond, Nat.reduceEqDiff, List.zip_cons_cons, List.zip_nil_left, Option.bind_some, Option.map_some, Option.map_none, List.map_toArray, List.map_cons, List.map_nil, ne_eq, List.append_toArray, List.nil_append, List.cons_append, List.append_nil, xbin_add, w1, unv_neg (n + 1) (by omega) (by omega), xbin_rem _ m (by omega), true_and]
    rw [Int.tmod_eq_emod_of_nonneg (by omega)]
    unfold around
    rw [if_pos h]
  · simp (decide := true) only [↓symD, symU, ↓XW_cond, Nat.reduceEqDiff, List.zip_cons_cons, List.zip_nil_left, Option.bind_some, Option.map_some, Option.map_none, List.map_toArray, List.map_cons, List.map_nil, ne_eq, List.append_toArray, List.nil_append, List.cons_append, List.append_nil, xbin_rem _ m (by omega), true_and]
    rw [Int.tmod_eq_emod_of_nonneg (by omega)]
    unfold around
    rw [if_neg h]

end
end Go.Proofs.Ytolfpchcmiljpaa

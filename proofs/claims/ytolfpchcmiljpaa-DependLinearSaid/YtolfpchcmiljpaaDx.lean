/- Linear extensions, and the law DependLinear. -/
import Derived.Test.YtolfpchcmiljpaaDv
set_option linter.unusedSimpArgs false
set_option linter.unusedSectionVars false
set_option maxRecDepth 10000
namespace Go.Proofs.Ytolfpchcmiljpaa
open Go Go.RowKit

instance : Enc Bool := ⟨1, fun b => [.bool b], fun _ => rfl, fun _ => rfl, by decide⟩
theorem RdS.boolP {S : St} {v : Value} {l : List Bool} (h : RdS S v l) (i : Nat) (hi : i < l.length) : ∃ id o, iav 1 v (.int .i64 i) = some (.pointer (some ⟨id, o, none⟩)) ∧ id < S.next ∧ (S.get id).rd o 1 = some [.bool l[i]] := h.get .i64 i hi
theorem rdOrd0' (n : Int) (v : Value) (t : TypeId) (mi : Bool) (an : List Nat) : (Blk.cells [.int .i64 n, v] t 2 mi an).rd 0 1 = some [.int .i64 n] := Eq.trans rfl rfl
theorem Ord.count {S : St} {bb : Nat} {p : Value} {n : Nat} {ps : Pairs} (h : Ord S bb p n ps) : ∃ id va t mi an, p = .pointer (some ⟨id, 0, none⟩) ∧ id < S.next ∧ S.get id = .cells [.int .i64 (n : Int), va] t 2 mi an := by
  obtain ⟨id, va, t, mi, an, xs, rfl, h2, h3, h4, h5, h7⟩ := h
  exact ⟨id, va, t, mi, an, rfl, h2.2, h3⟩

section
variable [Prim Try.prog]

/-- positions exchanged. -/
def pl (at_ a : Nat) : Nat := if a = at_ then at_ + 1 else if a = at_ + 1 then at_ else a
theorem pl_pl (t a : Nat) : pl t (pl t a) = a := by unfold pl; split <;> split <;> (try split) <;> omega
theorem pl_lt {t a n : Nat} (ht : t + 1 < n) (ha : a < n) : pl t a < n := by unfold pl; split <;> (try split) <;> omega
theorem depP_comm (a b : Step) : depP a b = depP b a := by
  unfold depP
  rw [show decide (a.ev.node = b.ev.node) = decide (b.ev.node = a.ev.node) from decide_eq_decide.2 ⟨Eq.symm, Eq.symm⟩, Bool.and_comm a.obs, Bool.or_assoc, Bool.or_assoc, Bool.or_assoc, Bool.or_assoc, Bool.or_comm (feedsP a b)]
theorem swapL_get {l : List Step} {t : Nat} (ht : t + 1 < l.length) {a : Nat} (ha : a < l.length) : (swapL l t)[pl t a]? = l[a]? := by
  rw [swapL_of ht]
  unfold pl
  by_cases h1 : a = t
  · subst h1
    rw [if_pos rfl, List.getElem?_set_self (by simp; omega), List.getElem?_eq_getElem ha]
  · rw [if_neg h1]
    by_cases h2 : a = t + 1
    · subst h2
      rw [if_pos rfl, List.getElem?_set_ne (by omega), List.getElem?_set_self (by omega), List.getElem?_eq_getElem ht]
    · rw [if_neg h2, List.getElem?_set_ne (by omega), List.getElem?_set_ne (by omega)]
theorem dp_swap {l : List Step} {t : Nat} (ht : t + 1 < l.length) {a b : Nat} (ha : a < l.length) (hb : b < l.length) : dp (swapL l t) (pl t a) (pl t b) = dp l a b := by
  unfold dp
  rw [swapL_get ht ha, swapL_get ht hb]
theorem pair_swap {l : List Step} {t : Nat} (ht : t + 1 < l.length) (hd : dp l t (t + 1) = false) {a b : Nat} (h : (a, b) ∈ depPairs l) : (pl t a, pl t b) ∈ depPairs (swapL l t) := by
  obtain ⟨h1, h2, h3⟩ := (mem_depPairs l _).1 h
  simp only at h1 h2 h3
  refine (mem_depPairs _ _).2 ⟨?_, by rw [swapL_len]; exact pl_lt ht h2, by rw [dp_swap ht (by omega) h2]; exact h3⟩
  show pl t a < pl t b
  by_cases e : a = t ∧ b = t + 1
  · obtain ⟨rfl, rfl⟩ := e
    rw [hd] at h3; cases h3
  · unfold pl
    split <;> split <;> (try split) <;> (try split) <;> omega
theorem rch_swap {l : List Step} {t : Nat} (ht : t + 1 < l.length) (hd : dp l t (t + 1) = false) {a b : Nat} (h : Rch (depPairs l) a b) : Rch (depPairs (swapL l t)) (pl t a) (pl t b) := by
  induction h with
  | one h => exact .one (pair_swap ht hd h)
  | more h _ ih => exact .more (pair_swap ht hd h) ih
theorem dp_back {l : List Step} {t : Nat} (ht : t + 1 < l.length) (hd : dp l t (t + 1) = false) : dp (swapL l t) t (t + 1) = false := by
  have h := dp_swap ht (a := t + 1) (b := t) ht (by omega)
  have e1 : pl t (t + 1) = t := by unfold pl; rw [if_neg (by omega), if_pos rfl]
  have e2 : pl t t = t + 1 := by unfold pl; rw [if_pos rfl]
  rw [e1, e2] at h
  rw [h]
  rw [dp_of (by omega) ht] at hd
  rw [dp_of ht (by omega), depP_comm]
  exact hd
theorem swap_swap {l : List Step} {t : Nat} (ht : t + 1 < l.length) : swapL (swapL l t) t = l := by
  have hl := swapL_len l t
  apply List.ext_getElem?
  intro j
  by_cases hj : j < l.length
  · have h1 := swapL_get (l := swapL l t) (t := t) (by omega) (a := pl t j) (by rw [hl]; exact pl_lt ht hj)
    rw [pl_pl, swapL_get ht hj] at h1
    exact h1
  · rw [List.getElem?_eq_none (by rw [swapL_len, hl]; omega), List.getElem?_eq_none (by omega)]
theorem rch_swap_iff {l : List Step} {t : Nat} (ht : t + 1 < l.length) (hd : dp l t (t + 1) = false) (a b : Nat) : Rch (depPairs l) a b ↔ Rch (depPairs (swapL l t)) (pl t a) (pl t b) := by
  refine ⟨rch_swap ht hd, fun h => ?_⟩
  have := rch_swap (l := swapL l t) (t := t) (by rw [swapL_len]; exact ht) (dp_back ht hd) h
  rw [pl_pl, pl_pl, swap_swap ht] at this
  exact this
theorem rch_adj' {l : List Step} {i : Nat} (hi : i + 1 < l.length) : Rch (depPairs l) i (i + 1) ↔ dp l i (i + 1) = true := by
  constructor
  · intro h
    cases h with
    | one h => exact ((mem_depPairs l _).1 h).2.2
    | more h k =>
      have h1 := up_depPairs l _ h
      have h2 := Rch.lt (up_depPairs l) k
      simp only at h1
      omega
  · intro h
    exact .one ((mem_depPairs l (i, i + 1)).2 ⟨by omega, hi, h⟩)

theorem place_any (t a : Nat) (S : St) (ht : t < 1000) :
    XC Try.prog 24 #[.int .i64 a, .int .i64 t] S fun r S' => S' = S ∧ r = .int .i64 (pl t a : Nat) := by
  refine XC_body XF24 ?_
  have wt : w64 ((t : Int) + 1) = ((t + 1 : Nat) : Int) := w64_add1 t (by omega)
  simp (decide := true) only [↓symD, symU, ↓XW_cond, Nat.reduceEqDiff, List.zip_cons_cons, List.zip_nil_left, Option.bind_some, Option.map_some, Option.map_none, List.map_toArray, List.map_cons, List.map_nil, ne_eq, List.append_toArray, List.nil_append, List.cons_append, List.append_nil, xf24, xbin_eql]
  refine Test_dec (fun h => ?_) (fun h => ?_)
  · simp (decide := true) only [↓symD, symU, ↓XW_cond, Nat.reduceEqDiff, List.zip_cons_cons, List.zip_nil_left, Option.bind_some, Option.map_some, Option.map_none, List.map_toArray, List.map_cons, List.map_nil, ne_eq, List.append_toArray, List.nil_append, List.cons_append, List.append_nil, xbin_add, wt, true_and]
    unfold pl
    rw [if_pos (by omega)]
  · simp (decide := true) only [↓symD, symU, ↓XW_cond, Nat.reduceEqDiff, List.zip_cons_cons, List.zip_nil_left, Option.bind_some, Option.map_some, Option.map_none, List.map_toArray, List.map_cons, List.map_nil, ne_eq, List.append_toArray, List.nil_append, List.cons_append, List.append_nil, xbin_add, wt, xbin_eql]
    refine Test_dec (fun h' => ?_) (fun h' => ?_)
    · simp (decide := true) only [↓symD, symU, ↓XW_cond, Nat.reduceEqDiff, List.zip_cons_cons, List.zip_nil_left, Option.bind_some, Option.map_some, Option.map_none, List.map_toArray, List.map_cons, List.map_nil, ne_eq, List.append_toArray, List.nil_append, List.cons_append, List.append_nil, true_and]
      unfold pl
      rw [if_neg (by omega), if_pos (by omega)]
    · simp (decide := true) only [↓symD, symU, ↓XW_cond, Nat.reduceEqDiff, List.zip_cons_cons, List.zip_nil_left, Option.bind_some, Option.map_some, Option.map_none, List.map_toArray, List.map_cons, List.map_nil, ne_eq, List.append_toArray, List.nil_append, List.cons_append, List.append_nil, true_and]
      unfold pl
      rw [if_neg (by omega), if_neg (by omega)]

theorem isLinear_any {p v : Value} {l : List Step} {bb : Nat} {S0 : St} (ho : Ord S0 bb p l.length (depPairs l)) (hl : l.length ≤ 64) (hv : RdS S0 v (List.range l.length)) :
    XC Try.prog 23 #[p, v] S0 fun r S' => Ext S0 S' ∧ r = .bool true := by
  refine XC_body XF23 ?_
  obtain ⟨id, va, t, mi, an, rfl, hid, hg⟩ := ho.count
  have hvl := hv.len
  rw [List.length_range] at hvl
  have k2 := mksv_ok 4 1 1 [.bool false] l.length S0 (reach_le (by omega)) (by decide) rfl (by simp [allOne, Value.oneCell'])
  have m1 := OwnK.made S0 (fun _ => 0) 1 1 (List.replicate l.length false) 4 l.length (by simp) (rep l.length [.bool false]) (rep_encs false l.length)
  change OwnK (S0.alloc (.cells (rep l.length [.bool false]) 4 1 true [])) _ _ _ _ ∧ Chg _ _ _ _ (S0.alloc (.cells (rep l.length [.bool false]) 4 1 true [])) at m1
  have f1 := (Floor.start S0 S0 (Ext.refl _)).chg m1.2 (by decide)
  generalize hA : S0.alloc (.cells (rep l.length [.bool false]) 4 1 true []) = SA at m1 f1 k2
  simp (decide := true) only [↓symD, symU, ↓XW_cond, Nat.reduceEqDiff, List.zip_cons_cons, List.zip_nil_left, Option.bind_some, Option.map_some, Option.map_none, List.map_toArray, List.map_cons, List.map_nil, ne_eq, List.append_toArray, List.nil_append, List.cons_append, List.append_nil, ↓XS_mkSlice, xf23, hvl, hg, rdOrd0', part1_one, xbin_neq, not_true_eq_false, decide_false, k2]
  refine XW_loopR 0 (fun m fe S' => fe 0 = .pointer (some ⟨id, 0, none⟩) ∧ fe 1 = v ∧ fe 5 = .slice (some ⟨S0.next, 0, none⟩) l.length l.length ∧ fe 22 = v ∧ fe 23 = .int .i64 l.length ∧ ∃ (i : Nat) (col : Col) (seen : List Bool), fe 24 = .int .i64 i ∧ m + i = l.length ∧ Floor col S0 S' ∧ OwnK S' col 1 (.slice (some ⟨S0.next, 0, none⟩) l.length l.length) seen ∧ seen.length = l.length ∧ ∀ j (h : j < seen.length), i ≤ j → seen[j] = false)
    (fun fe S' => Ext S0 S') l.length ?_ ?_ ?_
  · simp (decide := true) only [↓symD, symU, ↓XW_cond, Nat.reduceEqDiff, List.zip_cons_cons, List.zip_nil_left, Option.bind_some, Option.map_some, Option.map_none, List.map_toArray, List.map_cons, List.map_nil, ne_eq, List.append_toArray, List.nil_append, List.cons_append, List.append_nil, true_and]
    exact ⟨0, _, List.replicate l.length false, rfl, by omega, f1, m1.1, by simp, by simp⟩
  · rintro m fe S1 ⟨h0, h1, h5, h22, h23, i, col, seen, h24, hm, hf, hs, hsl, hsf⟩
    simp (decide := true) only [↓symD, symU, ↓XW_cond, Nat.reduceEqDiff, List.zip_cons_cons, List.zip_nil_left, Option.bind_some, Option.map_some, Option.map_none, List.map_toArray, List.map_cons, List.map_nil, ne_eq, List.append_toArray, List.nil_append, List.cons_append, List.append_nil, h23, h24, xbin_lss]
    refine Test_dec (fun hlt => ?_) (fun hge => ?_)
    · have hi : i < l.length := by omega
      have wi : w64 ((i : Int) + 1) = ((i + 1 : Nat) : Int) := w64_add1 i (by omega)
      obtain ⟨ii, oi, a1, a2, a3⟩ := (hv.mono hf.ext).nat i (by simpa using hi)
      rw [List.getElem_range] at a3
      simp (decide := true) only [↓symD, symU, ↓XW_cond, Nat.reduceEqDiff, List.zip_cons_cons, List.zip_nil_left, Option.bind_some, Option.map_some, Option.map_none, List.map_toArray, List.map_cons, List.map_nil, ne_eq, List.append_toArray, List.nil_append, List.cons_append, List.append_nil, h0, h22, h24, a1, a3, part1_one]
      refine XCall.of (ordHas_any (ho.mono hf.ext) i hi) ?_
      rintro _ S2 ⟨rfl, rfl⟩
      obtain ⟨is, os, s1, s2, s3⟩ := hs.rd.boolP i (by omega)
      rw [hsf i (by omega) (Nat.le_refl _)] at s3
      obtain ⟨ix, ox, cs, t1, z1, an1, x1, x2, x3, x4, x5⟩ := hs.store i (by omega) true
      have x1' : iav 1 (.slice (some ⟨S0.next, 0, none⟩) l.length l.length) (.int .i64 i) = some (.pointer (some ⟨ix, ox, none⟩)) := x1
      rw [s1] at x1'
      simp only [Option.some.injEq, Value.pointer.injEq, Addr.mk.injEq, and_true] at x1'
      obtain ⟨rfl, rfl⟩ := x1'
      have x2' : stv 1 [.bool true] os (S2.get is) = some (cs, t1, z1, an1) := x2
      have hf3 := hf.chg x4 (by decide)
      generalize hW : S2.write is cs t1 z1 an1 = S3 at x3 x4 hf3
      obtain ⟨r, p1, p2⟩ := (hv.mono hf3.ext).part 0 i (by omega) (by simp; omega) (vl := none) (vh := some (.int .i64 (i : Int))) rfl (by simp [bound])
      have p1' : slv S3 1 v none (some (.int .i64 i)) = some r := p1
      rw [List.drop_zero, List.take_range, Nat.min_eq_left (by omega)] at p2
      have hrl := p2.len
      rw [List.length_range] at hrl
      simp (decide := true) only [↓symD, symU, ↓XW_cond, Nat.reduceEqDiff, List.zip_cons_cons, List.zip_nil_left, Option.bind_some, Option.map_some, Option.map_none, List.map_toArray, List.map_cons, List.map_nil, ne_eq, List.append_toArray, List.nil_append, List.cons_append, List.append_nil, Bool.not_true, h1, h5, h24, s1, s3, part1_one, boxc_bool, blkOf_ptr, x2', hW, p1', hrl]
      refine XW_loopR 2 (fun m2 fe S' => S' = S3 ∧ fe 0 = .pointer (some ⟨id, 0, none⟩) ∧ fe 1 = v ∧ fe 5 = .slice (some ⟨S0.next, 0, none⟩) l.length l.length ∧ fe 22 = v ∧ fe 23 = .int .i64 l.length ∧ fe 24 = .int .i64 i ∧ fe 7 = .int .i64 i ∧ fe 44 = r ∧ fe 45 = .int .i64 i ∧ ∃ j : Nat, fe 46 = .int .i64 j ∧ m2 + j = i)
        (fun fe S' => S' = S3 ∧ fe 0 = .pointer (some ⟨id, 0, none⟩) ∧ fe 1 = v ∧ fe 5 = .slice (some ⟨S0.next, 0, none⟩) l.length l.length ∧ fe 22 = v ∧ fe 23 = .int .i64 l.length ∧ fe 24 = .int .i64 i) i ?_ ?_ ?_
      · simp (decide := true) only [↓symD, symU, ↓XW_cond, Nat.reduceEqDiff, List.zip_cons_cons, List.zip_nil_left, Option.bind_some, Option.map_some, Option.map_none, List.map_toArray, List.map_cons, List.map_nil, ne_eq, List.append_toArray, List.nil_append, List.cons_append, List.append_nil, h0, h1, h5, h22, h23, h24, true_and]
        refine ⟨hW, 0, rfl, by omega⟩
      · clear h0 h1 h5 h22 h23 h24
        rintro m2 fe S3 ⟨rfl, h0, h1, h5, h22, h23, h24, h7, h44, h45, j, h46, hm2⟩
        simp (decide := true) only [↓symD, symU, ↓XW_cond, Nat.reduceEqDiff, List.zip_cons_cons, List.zip_nil_left, Option.bind_some, Option.map_some, Option.map_none, List.map_toArray, List.map_cons, List.map_nil, ne_eq, List.append_toArray, List.nil_append, List.cons_append, List.append_nil, h45, h46, xbin_lss]
        refine Test_dec (fun hlt2 => ?_) (fun hge2 => ?_)
        · have hj : j < i := by omega
          have wj : w64 ((j : Int) + 1) = ((j + 1 : Nat) : Int) := w64_add1 j (by omega)
          obtain ⟨ij, oj, b1, b2, b3⟩ := p2.nat j (by simpa using hj)
          rw [List.getElem_range] at b3
          simp (decide := true) only [↓symD, symU, ↓XW_cond, Nat.reduceEqDiff, List.zip_cons_cons, List.zip_nil_left, Option.bind_some, Option.map_some, Option.map_none, List.map_toArray, List.map_cons, List.map_nil, ne_eq, List.append_toArray, List.nil_append, List.cons_append, List.append_nil, h0, h7, h44, h46, b1, b3, part1_one]
          refine XCall.of (less_any (ho.mono hf3.ext) hl i j hi (by omega)) ?_
          rintro _ S4 ⟨rfl, q, rfl, hq⟩
          obtain rfl : q = false := by
            cases q with
            | false => rfl
            | true => exact absurd (hq.1 rfl) (not_back (by omega))
          simp (decide := true) only [↓symD, symU, ↓XW_cond, Nat.reduceEqDiff, List.zip_cons_cons, List.zip_nil_left, Option.bind_some, Option.map_some, Option.map_none, List.map_toArray, List.map_cons, List.map_nil, ne_eq, List.append_toArray, List.nil_append, List.cons_append, List.append_nil, h46, xbin_add, wj, h0, h1, h5, h7, h22, h23, h24, h44, h45, true_and]
          exact ⟨m2 - 1, by omega, j + 1, rfl, by omega⟩
        · simp (decide := true) only [↓symD, symU, ↓XW_cond, Nat.reduceEqDiff, List.zip_cons_cons, List.zip_nil_left, Option.bind_some, Option.map_some, Option.map_none, List.map_toArray, List.map_cons, List.map_nil, ne_eq, List.append_toArray, List.nil_append, List.cons_append, List.append_nil, h0, h1, h5, h22, h23, h24, true_and]
      · clear h0 h1 h5 h22 h23 h24
        rintro fe S3 ⟨rfl, h0, h1, h5, h22, h23, h24⟩
        simp (decide := true) only [↓symD, symU, ↓XW_cond, Nat.reduceEqDiff, List.zip_cons_cons, List.zip_nil_left, Option.bind_some, Option.map_some, Option.map_none, List.map_toArray, List.map_cons, List.map_nil, ne_eq, List.append_toArray, List.nil_append, List.cons_append, List.append_nil, h24, xbin_add, wi, h0, h1, h5, h22, h23, true_and]
        refine ⟨m - 1, by omega, i + 1, col, seen.set i true, rfl, by omega, hf3, x3, by simpa using hsl, fun j hj hij => ?_⟩
        rw [List.getElem_set_ne (by omega)]
        exact hsf j (by simpa using hj) (by omega)
    · simp (decide := true) only [↓symD, symU, ↓XW_cond, Nat.reduceEqDiff, List.zip_cons_cons, List.zip_nil_left, Option.bind_some, Option.map_some, Option.map_none, List.map_toArray, List.map_cons, List.map_nil, ne_eq, List.append_toArray, List.nil_append, List.cons_append, List.append_nil]
      exact hf.ext
  · rintro fe S1 hx
    simp (decide := true) only [↓symD, symU, ↓XW_cond, Nat.reduceEqDiff, List.zip_cons_cons, List.zip_nil_left, Option.bind_some, Option.map_some, Option.map_none, List.map_toArray, List.map_cons, List.map_nil, ne_eq, List.append_toArray, List.nil_append, List.cons_append, List.append_nil, and_true]
    exact hx

theorem linearLaw_any {v : Value} {l : List Int} {i : Int} {S : St} (hv : RdS S v l) (hb : ∀ x ∈ l, -9223372036854775808 ≤ x ∧ x ≤ 9223372036854775807) (hi : -9223372036854775808 ≤ i ∧ i ≤ 9223372036854775807) :
    XC Try.prog 8 #[v, .int .i64 i] S fun r S' => Ext S S' ∧ r = .bool true := by
  refine XC_body XF8 ?_
  simp (decide := true) only [↓symD, symU, ↓XW_cond, Nat.reduceEqDiff, List.zip_cons_cons, List.zip_nil_left, Option.bind_some, Option.map_some, Option.map_none, List.map_toArray, List.map_cons, List.map_nil, ne_eq, List.append_toArray, List.nil_append, List.cons_append, List.append_nil, xf8]
  refine XCall.of (run_any hv hb) ?_
  rintro v1 S1 ⟨hx1, rl, hrun, hlen, hgood⟩
  have hs : ∀ j (h : j < rl.length), Short rl[j] := fun j h => (hgood j h).short
  simp (decide := true) only [↓symD, symU, ↓XW_cond, Nat.reduceEqDiff, List.zip_cons_cons, List.zip_nil_left, Option.bind_some, Option.map_some, Option.map_none, List.map_toArray, List.map_cons, List.map_nil, ne_eq, List.append_toArray, List.nil_append, List.cons_append, List.append_nil, hrun.len]
  refine XCall.of (order_any hrun (by omega) (GoodS.sents hgood)) ?_
  rintro p S2 ⟨hx2, ho⟩
  obtain ⟨ip, rfl, hip⟩ := ho.ptr
  have hrun := hrun.mono hx2
  simp (decide := true) only [↓symD, symU, ↓XW_cond, Nat.reduceEqDiff, List.zip_cons_cons, List.zip_nil_left, Option.bind_some, Option.map_some, Option.map_none, List.map_toArray, List.map_cons, List.map_nil, ne_eq, List.append_toArray, List.nil_append, List.cons_append, List.append_nil, eqp_some]
  refine XW_loopR 0 (fun m fe S' => Ext S2 S' ∧ fe 1 = .int .i64 i ∧ fe 5 = v1 ∧ fe 6 = .int .i64 rl.length ∧ fe 7 = .pointer (some ⟨ip, 0, none⟩) ∧ ∃ (k : Nat) (w : Value), fe 9 = .int .i64 k ∧ m + k = rl.length ∧ fe 8 = w ∧ Own S' S2.next w (List.range k)) (fun fe S' => Ext S2 S' ∧ fe 1 = .int .i64 i ∧ fe 5 = v1 ∧ fe 6 = .int .i64 rl.length ∧ fe 7 = .pointer (some ⟨ip, 0, none⟩) ∧ ∃ w, fe 8 = w ∧ Own S' S2.next w (List.range rl.length)) rl.length ?_ ?_ ?_
  · simp (decide := true) only [↓symD, symU, ↓XW_cond, Nat.reduceEqDiff, List.zip_cons_cons, List.zip_nil_left, Option.bind_some, Option.map_some, Option.map_none, List.map_toArray, List.map_cons, List.map_nil, ne_eq, List.append_toArray, List.nil_append, List.cons_append, List.append_nil, true_and]
    exact ⟨Ext.refl _, 0, _, rfl, by omega, rfl, Own.nil _ _⟩
  · rintro m fe S3 ⟨hx3, h1, h5, h6, h7, k, w, h9, hm, h8, hw⟩
    simp (decide := true) only [↓symD, symU, ↓XW_cond, Nat.reduceEqDiff, List.zip_cons_cons, List.zip_nil_left, Option.bind_some, Option.map_some, Option.map_none, List.map_toArray, List.map_cons, List.map_nil, ne_eq, List.append_toArray, List.nil_append, List.cons_append, List.append_nil, h6, h9, xbin_lss]
    refine Test_dec (fun hlt => ?_) (fun hge => ?_)
    · have hk : k < rl.length := by omega
      have wk : w64 ((k : Int) + 1) = ((k + 1 : Nat) : Int) := w64_add1 k (by omega)
      have hone : RdS (S3.alloc (.cells [.int .i64 (k : Int)] 3 1 true [])) (.slice (some ⟨S3.next, 0, none⟩) 1 1) [k] := RdS.one S3 k _
      have hn3 := hx3.next
      obtain ⟨r, S6, c1, c2, c3⟩ := (hw.mono (Ext.alloc S3 (.cells [.int .i64 (k : Int)] 3 1 true []))).append hone (by simp; omega) 3 8 (reach_le (by simp; omega)) (by decide)
      have c1' : xappend 3 1 8 w (.slice (some ⟨S3.next, 0, none⟩) 1 1) (S3.alloc (.cells [.int .i64 (k : Int)] 3 1 true [])) = some (r, S6) := c1
      have hE := hx3.trans (Ext.alloc S3 (.cells [.int .i64 (k : Int)] 3 1 true []))
      simp (decide := true) only [↓symD, symU, ↓XW_cond, Nat.reduceEqDiff, List.zip_cons_cons, List.zip_nil_left, Option.bind_some, Option.map_some, Option.map_none, List.map_toArray, List.map_cons, List.map_nil, ne_eq, List.append_toArray, List.nil_append, List.cons_append, List.append_nil, fillL, splice, rep, List.replicate_succ, List.replicate_zero, List.flatten_cons, List.flatten_nil, List.append_nil, List.nil_append, List.cons_append, Value.cells, List.append_assoc, and_self, true_and, and_true, List.size_toArray, List.length_cons, List.length_nil, Nat.zero_add, ↓reduceIte, List.take_zero, List.drop_zero, List.drop_succ_cons, List.take_succ_cons, Nat.reduceAdd, Nat.reduceLeDiff, Nat.reduceEqDiff, allOne_int, allOne_nil, List.toList_toArray, blkOf_ptr, Nat.add_zero, h8, h9, c1', xbin_add, wk, h1, h5, h6, h7, true_and]
      exact ⟨m - 1, by omega, ⟨Nat.le_trans hE.next c3.next, fun id hid => (c3.get id hid).trans (hE.get id hid)⟩, k + 1, r, rfl, by omega, rfl, by rw [List.range_succ]; exact c2⟩
    · obtain rfl : k = rl.length := by omega
      simp (decide := true) only [↓symD, symU, ↓XW_cond, Nat.reduceEqDiff, List.zip_cons_cons, List.zip_nil_left, Option.bind_some, Option.map_some, Option.map_none, List.map_toArray, List.map_cons, List.map_nil, ne_eq, List.append_toArray, List.nil_append, List.cons_append, List.append_nil, h1, h5, h6, h7, true_and]
      exact ⟨hx3, w, h8, hw⟩
  · rintro fe S3 ⟨hx3, h1, h5, h6, h7, w, h8, hw⟩
    simp (decide := true) only [↓symD, symU, ↓XW_cond, Nat.reduceEqDiff, List.zip_cons_cons, List.zip_nil_left, Option.bind_some, Option.map_some, Option.map_none, List.map_toArray, List.map_cons, List.map_nil, ne_eq, List.append_toArray, List.nil_append, List.cons_append, List.append_nil, h7, h8]
    refine XCall.of (isLinear_any (ho.mono hx3) (by omega) hw.rd) ?_
    rintro _ S4 ⟨hx4, rfl⟩
    simp (decide := true) only [↓symD, symU, ↓XW_cond, Nat.reduceEqDiff, List.zip_cons_cons, List.zip_nil_left, Option.bind_some, Option.map_some, Option.map_none, List.map_toArray, List.map_cons, List.map_nil, ne_eq, List.append_toArray, List.nil_append, List.cons_append, List.append_nil, Bool.not_true, h6, xbin_lss]
    have hx14 := (hx1.trans hx2).trans (hx3.trans hx4)
    have hrun := hrun.mono (hx3.trans hx4)
    have ho := ho.mono (hx3.trans hx4)
    refine Test_dec (fun hlt => ?_) (fun hge => ?_)
    · simp (decide := true) only [↓symD, symU, ↓XW_cond, Nat.reduceEqDiff, List.zip_cons_cons, List.zip_nil_left, Option.bind_some, Option.map_some, Option.map_none, List.map_toArray, List.map_cons, List.map_nil, ne_eq, List.append_toArray, List.nil_append, List.cons_append, List.append_nil]
      refine XCall.of lives_any ?_
      rintro _ S5 ⟨hx5, rfl⟩
      simp (decide := true) only [↓symD, symU, ↓XW_cond, Nat.reduceEqDiff, List.zip_cons_cons, List.zip_nil_left, Option.bind_some, Option.map_some, Option.map_none, List.map_toArray, List.map_cons, List.map_nil, ne_eq, List.append_toArray, List.nil_append, List.cons_append, List.append_nil, and_true]
      exact hx14.trans hx5
    · have w1 : w64 ((rl.length : Int) - 1) = (rl.length : Int) - 1 := w64_ok (by omega) (by omega)
      simp (decide := true) only [↓symD, symU, ↓XW_cond, Nat.reduceEqDiff, List.zip_cons_cons, List.zip_nil_left, Option.bind_some, Option.map_some, Option.map_none, List.map_toArray, List.map_cons, List.map_nil, ne_eq, List.append_toArray, List.nil_append, List.cons_append, List.append_nil, h1, h6, xbin_sub, w1]
      refine XCall.of (around_any i ((rl.length : Int) - 1) S4 hi.1 hi.2 (by omega)) ?_
      rintro _ S4 ⟨rfl, rfl⟩
      have har := around_lt i ((rl.length : Int) - 1) (by omega)
      generalize around i ((rl.length : Int) - 1) = x at har ⊢
      obtain ⟨t, rfl⟩ : ∃ n : Nat, x = (n : Int) := ⟨x.toNat, by omega⟩
      have ht : t + 1 < rl.length := by omega
      have wt : w64 ((t : Int) + 1) = ((t + 1 : Nat) : Int) := w64_add1 t (by omega)
      simp (decide := true) only [↓symD, symU, ↓XW_cond, Nat.reduceEqDiff, List.zip_cons_cons, List.zip_nil_left, Option.bind_some, Option.map_some, Option.map_none, List.map_toArray, List.map_cons, List.map_nil, ne_eq, List.append_toArray, List.nil_append, List.cons_append, List.append_nil, h5]
      refine XCall.of (swap_any hrun (by omega) hs (t : Int) (by omega) (by omega)) ?_
      rintro _ S5 ⟨hx5, nx, rfl, hnx⟩
      have hadj := rch_adj' ht
      have hsE := swapE_in ht
      cases hd : dp rl t (t + 1) with
      | true =>
        rw [hd, if_pos rfl] at hsE
        simp (decide := true) only [↓symD, symU, ↓XW_cond, Nat.reduceEqDiff, List.zip_cons_cons, List.zip_nil_left, Option.bind_some, Option.map_some, Option.map_none, List.map_toArray, List.map_cons, List.map_nil, ne_eq, List.append_toArray, List.nil_append, List.cons_append, List.append_nil, hsE, xbin_neq, xbin_eql, ↓reduceIte, eq_self, Bool.false_eq_true, decide_true, decide_false, Int.reduceEq, Int.reduceLT, Int.reduceLE, Int.reduceNe, Int.reduceGT, Int.reduceGE, boxc_int, h7, xbin_add, wt]
        refine XCall.of (less_any (ho.mono hx5) (by omega) t (t + 1) (by omega) ht) ?_
        rintro _ S6 ⟨rfl, q, rfl, hq⟩
        obtain rfl : q = true := hq.2 (hadj.2 hd)
        simp (decide := true) only [↓symD, symU, ↓XW_cond, Nat.reduceEqDiff, List.zip_cons_cons, List.zip_nil_left, Option.bind_some, Option.map_some, Option.map_none, List.map_toArray, List.map_cons, List.map_nil, ne_eq, List.append_toArray, List.nil_append, List.cons_append, List.append_nil]
        refine XCall.of lives_any ?_
        rintro _ S7 ⟨hx7, rfl⟩
        simp (decide := true) only [↓symD, symU, ↓XW_cond, Nat.reduceEqDiff, List.zip_cons_cons, List.zip_nil_left, Option.bind_some, Option.map_some, Option.map_none, List.map_toArray, List.map_cons, List.map_nil, ne_eq, List.append_toArray, List.nil_append, List.cons_append, List.append_nil, and_true]
        exact (hx14.trans hx5).trans hx7
      | false =>
        rw [hd, if_neg (by decide)] at hsE
        have hnx : Run S5 nx (swapL rl t) := by
          unfold swapR at hnx
          rw [hsE, if_pos rfl, Int.toNat_natCast] at hnx
          exact hnx
        have hsl := swapL_len rl t
        have hs2 : ∀ j (h : j < (swapL rl t).length), Short (swapL rl t)[j] := fun j h => by
          obtain ⟨k, hk, e⟩ := List.getElem_of_mem (swapL_mem (List.getElem_mem h))
          rw [← e]
          exact hs k hk
        have hnl := hnx.len
        rw [hsl] at hnl
        simp (decide := true) only [↓symD, symU, ↓XW_cond, Nat.reduceEqDiff, List.zip_cons_cons, List.zip_nil_left, Option.bind_some, Option.map_some, Option.map_none, List.map_toArray, List.map_cons, List.map_nil, ne_eq, List.append_toArray, List.nil_append, List.cons_append, List.append_nil, hsE, xbin_neq, ↓reduceIte, eq_self, Bool.false_eq_true, decide_true, decide_false, Int.reduceEq, Int.reduceLT, Int.reduceLE, Int.reduceNe, Int.reduceGT, Int.reduceGE, boxc_int, hnl, h6, not_true_eq_false]
        refine XCall.of (order_any hnx (by omega) (fun j h => (hs2 j h).1)) ?_
        rintro p2 S6 ⟨hx6, ho2⟩
        obtain ⟨ip2, rfl, hip2⟩ := ho2.ptr
        simp (decide := true) only [↓symD, symU, ↓XW_cond, Nat.reduceEqDiff, List.zip_cons_cons, List.zip_nil_left, Option.bind_some, Option.map_some, Option.map_none, List.map_toArray, List.map_cons, List.map_nil, ne_eq, List.append_toArray, List.nil_append, List.cons_append, List.append_nil]
        refine XCall.of (swap_any (hnx.mono hx6) (by omega) hs2 (t : Int) (by omega) (by omega)) ?_
        rintro _ S7 ⟨hx7, bk, rfl, hbk⟩
        have hsE2 := swapE_in (l := swapL rl t) (i := t) (by omega)
        rw [dp_back ht hd, if_neg (by decide)] at hsE2
        have hbk : Run S7 bk rl := by
          unfold swapR at hbk
          rw [hsE2, if_pos rfl, Int.toNat_natCast, swap_swap ht] at hbk
          exact hbk
        have hx57 := (hx5.trans hx6).trans hx7
        simp (decide := true) only [↓symD, symU, ↓XW_cond, Nat.reduceEqDiff, List.zip_cons_cons, List.zip_nil_left, Option.bind_some, Option.map_some, Option.map_none, List.map_toArray, List.map_cons, List.map_nil, ne_eq, List.append_toArray, List.nil_append, List.cons_append, List.append_nil, hsE2, eqp_some, xbin_neq, ↓reduceIte, eq_self, Bool.false_eq_true, decide_true, decide_false, Int.reduceEq, Int.reduceLT, Int.reduceLE, Int.reduceNe, Int.reduceGT, Int.reduceGE, boxc_int, h5]
        refine XCall.of (sameRun_any hbk (hrun.mono hx57) (by omega) hs) ?_
        rintro _ S8 ⟨hx8, rfl⟩
        have ho := ho.mono (hx57.trans hx8)
        have ho2 := ho2.mono (hx7.trans hx8)
        rw [hsl] at ho2
        simp (decide := true) only [↓symD, symU, ↓XW_cond, Nat.reduceEqDiff, List.zip_cons_cons, List.zip_nil_left, Option.bind_some, Option.map_some, Option.map_none, List.map_toArray, List.map_cons, List.map_nil, ne_eq, List.append_toArray, List.nil_append, List.cons_append, List.append_nil, Bool.not_true]
        refine XW_loopR 2 (fun m fe S' => S' = S8 ∧ fe 6 = .int .i64 rl.length ∧ fe 7 = .pointer (some ⟨ip, 0, none⟩) ∧ fe 10 = .int .i64 t ∧ fe 13 = .pointer (some ⟨ip2, 0, none⟩) ∧ ∃ a : Nat, fe 16 = .int .i64 a ∧ m + a = rl.length) (fun fe S' => S' = S8 ∧ fe 7 = .pointer (some ⟨ip, 0, none⟩) ∧ fe 10 = .int .i64 t) rl.length ?_ ?_ ?_
        · simp (decide := true) only [↓symD, symU, ↓XW_cond, Nat.reduceEqDiff, List.zip_cons_cons, List.zip_nil_left, Option.bind_some, Option.map_some, Option.map_none, List.map_toArray, List.map_cons, List.map_nil, ne_eq, List.append_toArray, List.nil_append, List.cons_append, List.append_nil, h6, h7, true_and]
          exact ⟨0, rfl, by omega⟩
        · clear h1 h5 h6 h7 h8
          rintro m fe S8 ⟨rfl, h6, h7, h10, h13, a, h16, hm⟩
          simp (decide := true) only [↓symD, symU, ↓XW_cond, Nat.reduceEqDiff, List.zip_cons_cons, List.zip_nil_left, Option.bind_some, Option.map_some, Option.map_none, List.map_toArray, List.map_cons, List.map_nil, ne_eq, List.append_toArray, List.nil_append, List.cons_append, List.append_nil, h6, h16, xbin_lss]
          refine Test_dec (fun hlt => ?_) (fun hge => ?_)
          · have ha : a < rl.length := by omega
            have wa : w64 ((a : Int) + 1) = ((a + 1 : Nat) : Int) := w64_add1 a (by omega)
            simp (decide := true) only [↓symD, symU, ↓XW_cond, Nat.reduceEqDiff, List.zip_cons_cons, List.zip_nil_left, Option.bind_some, Option.map_some, Option.map_none, List.map_toArray, List.map_cons, List.map_nil, ne_eq, List.append_toArray, List.nil_append, List.cons_append, List.append_nil]
            refine XW_loopR 4 (fun m2 fe S' => S' = S8 ∧ fe 6 = .int .i64 rl.length ∧ fe 7 = .pointer (some ⟨ip, 0, none⟩) ∧ fe 10 = .int .i64 t ∧ fe 13 = .pointer (some ⟨ip2, 0, none⟩) ∧ fe 16 = .int .i64 a ∧ ∃ b : Nat, fe 17 = .int .i64 b ∧ m2 + b = rl.length) (fun fe S' => S' = S8 ∧ fe 6 = .int .i64 rl.length ∧ fe 7 = .pointer (some ⟨ip, 0, none⟩) ∧ fe 10 = .int .i64 t ∧ fe 13 = .pointer (some ⟨ip2, 0, none⟩) ∧ fe 16 = .int .i64 a) rl.length ?_ ?_ ?_
            · simp (decide := true) only [↓symD, symU, ↓XW_cond, Nat.reduceEqDiff, List.zip_cons_cons, List.zip_nil_left, Option.bind_some, Option.map_some, Option.map_none, List.map_toArray, List.map_cons, List.map_nil, ne_eq, List.append_toArray, List.nil_append, List.cons_append, List.append_nil, h6, h7, h10, h13, h16, true_and]
              exact ⟨0, rfl, by omega⟩
            · clear h6 h7 h10 h13 h16
              rintro m2 fe S8 ⟨rfl, h6, h7, h10, h13, h16, b, h17, hm2⟩
              simp (decide := true) only [↓symD, symU, ↓XW_cond, Nat.reduceEqDiff, List.zip_cons_cons, List.zip_nil_left, Option.bind_some, Option.map_some, Option.map_none, List.map_toArray, List.map_cons, List.map_nil, ne_eq, List.append_toArray, List.nil_append, List.cons_append, List.append_nil, h6, h17, xbin_lss]
              refine Test_dec (fun hlt => ?_) (fun hge => ?_)
              · have hb : b < rl.length := by omega
                have wb : w64 ((b : Int) + 1) = ((b + 1 : Nat) : Int) := w64_add1 b (by omega)
                simp (decide := true) only [↓symD, symU, ↓XW_cond, Nat.reduceEqDiff, List.zip_cons_cons, List.zip_nil_left, Option.bind_some, Option.map_some, Option.map_none, List.map_toArray, List.map_cons, List.map_nil, ne_eq, List.append_toArray, List.nil_append, List.cons_append, List.append_nil, h7, h16, h17]
                refine XCall.of (less_any ho (by omega) a b ha hb) ?_
                rintro _ S9 ⟨rfl, q, rfl, hq⟩
                simp (decide := true) only [↓symD, symU, ↓XW_cond, Nat.reduceEqDiff, List.zip_cons_cons, List.zip_nil_left, Option.bind_some, Option.map_some, Option.map_none, List.map_toArray, List.map_cons, List.map_nil, ne_eq, List.append_toArray, List.nil_append, List.cons_append, List.append_nil, h10, h13, h16]
                refine XCall.of (place_any t a _ (by omega)) ?_
                rintro _ S9 ⟨rfl, rfl⟩
                simp (decide := true) only [↓symD, symU, ↓XW_cond, Nat.reduceEqDiff, List.zip_cons_cons, List.zip_nil_left, Option.bind_some, Option.map_some, Option.map_none, List.map_toArray, List.map_cons, List.map_nil, ne_eq, List.append_toArray, List.nil_append, List.cons_append, List.append_nil, h10, h17]
                refine XCall.of (place_any t b _ (by omega)) ?_
                rintro _ S9 ⟨rfl, rfl⟩
                simp (decide := true) only [↓symD, symU, ↓XW_cond, Nat.reduceEqDiff, List.zip_cons_cons, List.zip_nil_left, Option.bind_some, Option.map_some, Option.map_none, List.map_toArray, List.map_cons, List.map_nil, ne_eq, List.append_toArray, List.nil_append, List.cons_append, List.append_nil, h13]
                refine XCall.of (less_any ho2 (by omega) (pl t a) (pl t b) (pl_lt ht ha) (pl_lt ht hb)) ?_
                rintro _ S9 ⟨rfl, q2, rfl, hq2⟩
                obtain rfl : q = q2 := by rw [Bool.eq_iff_iff, hq, hq2]; exact rch_swap_iff ht hd a b
                have eb : (!(q == q)) = false := by simp
                simp (decide := true) only [↓symD, symU, ↓XW_cond, Nat.reduceEqDiff, List.zip_cons_cons, List.zip_nil_left, Option.bind_some, Option.map_some, Option.map_none, List.map_toArray, List.map_cons, List.map_nil, ne_eq, List.append_toArray, List.nil_append, List.cons_append, List.append_nil, eqbN, eb, h17, xbin_add, wb, h6, h7, h10, h13, h16, true_and]
                exact ⟨m2 - 1, by omega, b + 1, rfl, by omega⟩
              · simp (decide := true) only [↓symD, symU, ↓XW_cond, Nat.reduceEqDiff, List.zip_cons_cons, List.zip_nil_left, Option.bind_some, Option.map_some, Option.map_none, List.map_toArray, List.map_cons, List.map_nil, ne_eq, List.append_toArray, List.nil_append, List.cons_append, List.append_nil, h6, h7, h10, h13, h16, true_and]
            · clear h6 h7 h10 h13 h16
              rintro fe S8 ⟨rfl, h6, h7, h10, h13, h16⟩
              simp (decide := true) only [↓symD, symU, ↓XW_cond, Nat.reduceEqDiff, List.zip_cons_cons, List.zip_nil_left, Option.bind_some, Option.map_some, Option.map_none, List.map_toArray, List.map_cons, List.map_nil, ne_eq, List.append_toArray, List.nil_append, List.cons_append, List.append_nil, h16, xbin_add, wa, h6, h7, h10, h13, true_and]
              exact ⟨m - 1, by omega, a + 1, rfl, by omega⟩
          · simp (decide := true) only [↓symD, symU, ↓XW_cond, Nat.reduceEqDiff, List.zip_cons_cons, List.zip_nil_left, Option.bind_some, Option.map_some, Option.map_none, List.map_toArray, List.map_cons, List.map_nil, ne_eq, List.append_toArray, List.nil_append, List.cons_append, List.append_nil, h7, h10, true_and]
        · clear h1 h5 h6 h7 h8
          rintro fe S8 ⟨rfl, h7, h10⟩
          simp (decide := true) only [↓symD, symU, ↓XW_cond, Nat.reduceEqDiff, List.zip_cons_cons, List.zip_nil_left, Option.bind_some, Option.map_some, Option.map_none, List.map_toArray, List.map_cons, List.map_nil, ne_eq, List.append_toArray, List.nil_append, List.cons_append, List.append_nil, h7, h10, xbin_add, wt]
          refine XCall.of (less_any ho (by omega) t (t + 1) (by omega) ht) ?_
          rintro _ S9 ⟨rfl, q, rfl, hq⟩
          obtain rfl : q = false := by
            cases q with
            | false => rfl
            | true => have := hadj.1 (hq.1 rfl); rw [hd] at this; cases this
          simp (decide := true) only [↓symD, symU, ↓XW_cond, Nat.reduceEqDiff, List.zip_cons_cons, List.zip_nil_left, Option.bind_some, Option.map_some, Option.map_none, List.map_toArray, List.map_cons, List.map_nil, ne_eq, List.append_toArray, List.nil_append, List.cons_append, List.append_nil, Bool.not_false]
          refine XCall.of lives_any ?_
          rintro _ S10 ⟨hx10, rfl⟩
          simp (decide := true) only [↓symD, symU, ↓XW_cond, Nat.reduceEqDiff, List.zip_cons_cons, List.zip_nil_left, Option.bind_some, Option.map_some, Option.map_none, List.map_toArray, List.map_cons, List.map_nil, ne_eq, List.append_toArray, List.nil_append, List.cons_append, List.append_nil, and_true]
          exact ((hx14.trans hx57).trans hx8).trans hx10
end
end Go.Proofs.Ytolfpchcmiljpaa

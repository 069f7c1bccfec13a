/- The covering pairs of an order, and the law DependCovers. -/
import Derived.Test.YtolfpchcmiljpaaDu
set_option linter.unusedSimpArgs false
set_option linter.unusedSectionVars false
set_option maxRecDepth 10000
namespace Go.Proofs.Ytolfpchcmiljpaa
open Go Go.RowKit

theorem Ord.word {S : St} {bb : Nat} {p : Value} {n : Nat} {ps : Pairs} (h : Ord S bb p n ps) : ∃ id va t mi an, p = .pointer (some ⟨id, 0, none⟩) ∧ id < S.next ∧ S.get id = .cells [.int .i64 (n : Int), va] t 2 mi an ∧
    ∀ a, a < n → ∃ io oo w m, iav 1 va (.int .i64 a) = some (.pointer (some ⟨io, oo, none⟩)) ∧ (S.get io).rd oo 1 = some [w] ∧ RdS S w [(⟨m⟩ : W64)] ∧ Mask ps a m ∧ m < 18446744073709551616 := by
  obtain ⟨id, va, t, mi, an, xs, rfl, h2, h3, h4, h5, h7⟩ := h
  refine ⟨id, va, t, mi, an, rfl, h2.2, h3, fun a ha => ?_⟩
  obtain ⟨io, oo, a1, a2, a3⟩ := h4.rd.svs a (by omega)
  obtain ⟨m, y1, y2, y3⟩ := h7 a (by omega)
  exact ⟨io, oo, _, m, a1, a3, y1.rd, y2, y3⟩
theorem rdOrd0 (n : Int) (v : Value) (t : TypeId) (mi : Bool) (an : List Nat) : (Blk.cells [.int .i64 n, v] t 2 mi an).rd 0 1 = some [.int .i64 n] := Eq.trans rfl rfl
theorem rdOrd1 (n : Int) (v : Value) (t : TypeId) (mi : Bool) (an : List Nat) : (Blk.cells [.int .i64 n, v] t 2 mi an).rd 1 1 = some [v] := Eq.trans rfl rfl
theorem rch_adj {l : List Step} {i : Nat} (hi : i + 1 < l.length) : Rch (depPairs l) i (i + 1) ↔ dp l i (i + 1) = true := by
  constructor
  · intro h
    cases h with
    | one h => exact ((mem_depPairs l _).1 h).2.2
    | more h k =>
      have h1 := up_depPairs l _ h
      have h2 := Rch.lt (up_depPairs l) k
      simp only at h1
      omega
  · intro h
    exact .one ((mem_depPairs l (i, i + 1)).2 ⟨by omega, hi, h⟩)
theorem eqfv_pair2 (p q : Nat × Nat) : eqfv [1, 1] false (pairV p) (pairV q) = some (.bool (decide (p = q))) := by
  have e : decide (p = q) = ((p.1 : Int) == (q.1 : Int) && (p.2 : Int) == (q.2 : Int)) := by
    rw [Bool.eq_iff_iff]
    obtain ⟨a, b⟩ := p
    obtain ⟨c, d⟩ := q
    simp only [decide_eq_true_eq, Prod.mk.injEq, Bool.and_eq_true, beq_iff_eq]
    omega
  rw [e]
  simp [eqfv, pairCs, eqL, eq1, notIf]

/-- the words of what lies behind the elements below b that a reaches. -/
def Behind (ps : Pairs) (a b m : Nat) : Prop := ∀ c, m.testBit c = true ↔ ∃ x, x < b ∧ Rch ps a x ∧ Rch ps x c
theorem Behind.zero (ps : Pairs) (a : Nat) : Behind ps a 0 0 := fun c => by simp
theorem Behind.skip {ps : Pairs} {a b m : Nat} (h : Behind ps a b m) (hn : ¬ Rch ps a b) : Behind ps a (b + 1) m := fun c => by
  rw [h c]
  constructor
  · rintro ⟨x, h1, h2⟩; exact ⟨x, by omega, h2⟩
  · rintro ⟨x, h1, h2, h3⟩
    refine ⟨x, ?_, h2, h3⟩
    rcases Nat.lt_or_ge x b with h4 | h4
    · exact h4
    · obtain rfl : x = b := by omega
      exact absurd h2 hn
theorem Behind.next {ps : Pairs} {a b m u : Nat} (h : Behind ps a b m) (hu : Mask ps b u) (hr : Rch ps a b) : Behind ps a (b + 1) (m ||| u) := fun c => by
  rw [Nat.testBit_or, Bool.or_eq_true, h c, hu c]
  constructor
  · rintro (⟨x, h1, h2⟩ | h1)
    · exact ⟨x, by omega, h2⟩
    · exact ⟨b, by omega, hr, h1⟩
  · rintro ⟨x, h1, h2, h3⟩
    rcases Nat.lt_or_ge x b with h4 | h4
    · exact .inl ⟨x, h4, h2, h3⟩
    · obtain rfl : x = b := by omega
      exact .inr h3
/-- a covering pair. -/
def Cov (ps : Pairs) (p : Nat × Nat) : Prop := Rch ps p.1 p.2 ∧ ¬ ∃ x, Rch ps p.1 x ∧ Rch ps x p.2
theorem or_lt {m u : Nat} (h : m < 18446744073709551616) (h' : u < 18446744073709551616) : m ||| u < 18446744073709551616 := Nat.or_lt_two_pow (n := 64) h h'
theorem race_cov {l : List Step} {p : Nat × Nat} (h : p ∈ races l) : Cov (depPairs l) p := by
  obtain ⟨h1, h2⟩ := List.mem_filter.1 h
  refine ⟨.one h1, ?_⟩
  rintro ⟨x, hx1, hx2⟩
  have := Rch.lt (up_depPairs l) hx1
  have := Rch.lt (up_depPairs l) hx2
  have hb : betw (depPairs l) p.1 p.2 = true := (betw_iff _ _ _).2 ⟨x, by omega, by omega, hx1, hx2⟩
  simp [raceP, hb] at h2

theorem eqbF (a b : Bool) : eqbv false (.bool a) (.bool b) = some (.bool (a == b)) := Eq.trans rfl rfl

section
variable [Prim Try.prog]

theorem setJoinR_any {S : St} {col : Col} {c : Nat} {v x : Value} {w u : Nat} (hv : OwnK S col c v [(⟨w⟩ : W64)]) (hx : RdS S x [(⟨u⟩ : W64)]) (hw : w < 18446744073709551616) (hu : u < 18446744073709551616) :
    XC Try.prog 37 #[v, x] S fun _ S' => OwnK S' col c v [(⟨w ||| u⟩ : W64)] ∧ Chg col c S col S' := by
  refine XC_body XF37 ?_
  simp (decide := true) only [↓symD, symU, ↓XW_cond, Nat.reduceEqDiff, List.zip_cons_cons, List.zip_nil_left, Option.bind_some, Option.map_some, Option.map_none, List.map_toArray, List.map_cons, List.map_nil, ne_eq, List.append_toArray, List.nil_append, List.cons_append, List.append_nil, xf37, hx.len, List.length_cons, List.length_nil, Nat.zero_add]
  refine XW_loopR 0 (fun k fe S' => (k = 1 ∧ S' = S ∧ fe 0 = v ∧ fe 6 = x ∧ fe 7 = .int .i64 ((1 : Nat) : Int) ∧ fe 8 = .int .i64 ((0 : Nat) : Int)) ∨ (k = 0 ∧ fe 7 = .int .i64 ((1 : Nat) : Int) ∧ fe 8 = .int .i64 ((1 : Nat) : Int) ∧ OwnK S' col c v [(⟨w ||| u⟩ : W64)] ∧ Chg col c S col S'))
    (fun fe S' => OwnK S' col c v [(⟨w ||| u⟩ : W64)] ∧ Chg col c S col S') 1 ?_ ?_ ?_
  · simp (decide := true) only [↓symD, symU, ↓XW_cond, Nat.reduceEqDiff, List.zip_cons_cons, List.zip_nil_left, Option.bind_some, Option.map_some, Option.map_none, List.map_toArray, List.map_cons, List.map_nil, ne_eq, List.append_toArray, List.nil_append, List.cons_append, List.append_nil, true_and]
    exact .inl rfl
  · rintro k fe S2 (⟨rfl, rfl, h0, h6, h7, h8⟩ | ⟨rfl, h7, h8, hr⟩)
    · obtain ⟨id, o, e1, e2, e3⟩ := hv.rd.w64
      obtain ⟨ix, ox, x1, x2, x3⟩ := hx.w64
      obtain ⟨id', o', cs, t, z, an, a1, a2, a3, a4, a5⟩ := hv.store 0 (by simp) (⟨w ||| u⟩ : W64)
      obtain ⟨rfl, rfl⟩ : id' = id ∧ o' = o := by
        have := e1.symm.trans a1
        simp only [Option.some.injEq, Value.pointer.injEq, Addr.mk.injEq, and_true] at this
        exact ⟨this.1.symm, this.2.symm⟩
      have a2' : stv 1 [.int .u64 ((w ||| u : Nat) : Int)] o' (S2.get id') = some (cs, t, z, an) := a2
      have w1 : w64 (((0 : Nat) : Int) + 1) = ((1 : Nat) : Int) := rfl
      simp (decide := true) only [↓symD, symU, ↓XW_cond, Nat.reduceEqDiff, List.zip_cons_cons, List.zip_nil_left, Option.bind_some, Option.map_some, Option.map_none, List.map_toArray, List.map_cons, List.map_nil, ne_eq, List.append_toArray, List.nil_append, List.cons_append, List.append_nil, h0, h6, h7, h8, xbin_lss, decide_true, e1, e3, x1, x3, part1_one, u64_or w u hw hu, boxc_u64, blkOf_ptr, a2', xbin_add, w1]
      exact ⟨0, by decide, .inr ⟨rfl, trivial, trivial, a3, a4⟩⟩
    · simp (decide := true) only [↓symD, symU, ↓XW_cond, Nat.reduceEqDiff, List.zip_cons_cons, List.zip_nil_left, Option.bind_some, Option.map_some, Option.map_none, List.map_toArray, List.map_cons, List.map_nil, ne_eq, List.append_toArray, List.nil_append, List.cons_append, List.append_nil, h7, h8, xbin_lss, decide_false]
      exact hr
  · rintro fe S' h
    simp (decide := true) only [↓symD, symU, ↓XW_cond, Nat.reduceEqDiff, List.zip_cons_cons, List.zip_nil_left, Option.bind_some, Option.map_some, Option.map_none, List.map_toArray, List.map_cons, List.map_nil, ne_eq, List.append_toArray, List.nil_append, List.cons_append, List.append_nil]
    exact h

theorem covers_any {p : Value} {n bb : Nat} {ps : Pairs} {S0 : St} (hu : Up ps n) (ho : Ord S0 bb p n ps) (hn : n ≤ 64) :
    XC Try.prog 22 #[p] S0 fun r S' => Ext S0 S' ∧ ∃ cs : List (Nat × Nat), RdS S' r cs ∧ cs.length ≤ 4096 ∧ ∀ q, Cov ps q → q ∈ cs := by
  refine XC_body XF22 ?_
  have hw := fun {S : St} (h : Ext S0 S) => (ho.mono h).word
  obtain ⟨id, va, t, mi, an, rfl, hid, hg, hwd⟩ := ho.word
  simp (decide := true) only [↓symD, symU, ↓XW_cond, Nat.reduceEqDiff, List.zip_cons_cons, List.zip_nil_left, Option.bind_some, Option.map_some, Option.map_none, List.map_toArray, List.map_cons, List.map_nil, ne_eq, List.append_toArray, List.nil_append, List.cons_append, List.append_nil, xf22, hg, rdOrd0, part1_one]
  refine XW_loopR 0 (fun m fe S' => fe 0 = .pointer (some ⟨id, 0, none⟩) ∧ fe 11 = .int .i64 n ∧ ∃ (a : Nat) (col : Col) (w : Value) (cs : List (Nat × Nat)), fe 12 = .int .i64 a ∧ m + a = n ∧ fe 3 = w ∧ Floor col S0 S' ∧ OwnK S' col 1 w cs ∧ cs.length ≤ 64 * a ∧ ∀ q, Cov ps q → q.1 < a → q ∈ cs)
    (fun fe S' => ∃ (col : Col) (w : Value) (cs : List (Nat × Nat)), fe 3 = w ∧ Floor col S0 S' ∧ OwnK S' col 1 w cs ∧ cs.length ≤ 4096 ∧ ∀ q, Cov ps q → q ∈ cs) n ?_ ?_ ?_
  · simp (decide := true) only [↓symD, symU, ↓XW_cond, Nat.reduceEqDiff, List.zip_cons_cons, List.zip_nil_left, Option.bind_some, Option.map_some, Option.map_none, List.map_toArray, List.map_cons, List.map_nil, ne_eq, List.append_toArray, List.nil_append, List.cons_append, List.append_nil, true_and]
    exact ⟨0, fun _ => 0, _, [], rfl, by omega, rfl, Floor.start _ _ (Ext.refl _), OwnK.nil _ _ _, by simp, fun q _ h => by omega⟩
  · rintro m fe S1 ⟨h0, h11, a, col, w, cs, h12, hm, h3, hf, hown, hcl, hcov⟩
    simp (decide := true) only [↓symD, symU, ↓XW_cond, Nat.reduceEqDiff, List.zip_cons_cons, List.zip_nil_left, Option.bind_some, Option.map_some, Option.map_none, List.map_toArray, List.map_cons, List.map_nil, ne_eq, List.append_toArray, List.nil_append, List.cons_append, List.append_nil, h11, h12, xbin_lss]
    refine Test_dec (fun hlt => ?_) (fun hge => ?_)
    · have ha : a < n := by omega
      have wa : w64 ((a : Int) + 1) = ((a + 1 : Nat) : Int) := w64_add1 a (by omega)
      have g1 : S1.get id = .cells [.int .i64 (n : Int), va] t 2 mi an := by rw [hf.ext.get _ hid]; exact hg
      have w63 : w64 ((n : Int) + 63) = (n : Int) + 63 := w64_ok (by omega) (by omega)
      have wq : w64 (((n : Int) + 63).tdiv 64) = ((1 : Nat) : Int) := by
        rw [Int.tdiv_eq_ediv_of_nonneg (by omega), show ((n : Int) + 63) / 64 = 1 by omega]
        rfl
      have k2 := mksv_ok 87 1 8 [.int .u64 0] 1 S1 (reach_le (by omega)) (by decide) rfl (by simp [allOne, Value.oneCell'])
      have m2 := OwnK.made S1 col 2 2 [(⟨0⟩ : W64)] 87 1 rfl (rep 1 [.int .u64 0]) rfl
      change OwnK (S1.alloc (.cells (rep 1 [.int .u64 0]) 87 1 true [])) _ _ _ _ ∧ Chg _ _ _ _ (S1.alloc (.cells (rep 1 [.int .u64 0]) 87 1 true [])) at m2
      have f2 := hf.chg m2.2 (by decide)
      have o2 := hown.keep m2.2 (by decide)
      have x2 : Ext S1 (S1.alloc (.cells (rep 1 [.int .u64 0]) 87 1 true [])) := Ext.alloc _ _
      generalize hA : S1.alloc (.cells (rep 1 [.int .u64 0]) 87 1 true []) = S2 at m2 f2 o2 k2 x2
      generalize paint col S1 2 = col2 at m2 f2 o2
      have g2 : S2.get id = .cells [.int .i64 (n : Int), va] t 2 mi an := by rw [f2.ext.get _ hid]; exact hg
      simp (decide := true) only [↓symD, symU, ↓XW_cond, Nat.reduceEqDiff, List.zip_cons_cons, List.zip_nil_left, Option.bind_some, Option.map_some, Option.map_none, List.map_toArray, List.map_cons, List.map_nil, ne_eq, List.append_toArray, List.nil_append, List.cons_append, List.append_nil, ↓XS_mkSlice, h0, h12, g1, rdOrd0, part1_one, xbin_add, w63, xbin_quo, wq, k2, g2]
      refine XW_loopR 2 (fun m2 fe S' => fe 0 = .pointer (some ⟨id, 0, none⟩) ∧ fe 3 = w ∧ fe 4 = .int .i64 a ∧ fe 5 = .slice (some ⟨S1.next, 0, none⟩) 1 1 ∧ fe 11 = .int .i64 n ∧ fe 12 = .int .i64 a ∧ fe 25 = .int .i64 n ∧ ∃ (b k : Nat), fe 26 = .int .i64 b ∧ m2 + b = n ∧ Floor col2 S0 S' ∧ OwnK S' col2 1 w cs ∧ OwnK S' col2 2 (.slice (some ⟨S1.next, 0, none⟩) 1 1) [(⟨k⟩ : W64)] ∧ Behind ps a b k ∧ k < 18446744073709551616)
        (fun fe S' => fe 0 = .pointer (some ⟨id, 0, none⟩) ∧ fe 3 = w ∧ fe 4 = .int .i64 a ∧ fe 5 = .slice (some ⟨S1.next, 0, none⟩) 1 1 ∧ fe 11 = .int .i64 n ∧ fe 12 = .int .i64 a ∧ ∃ k : Nat, Floor col2 S0 S' ∧ OwnK S' col2 1 w cs ∧ OwnK S' col2 2 (.slice (some ⟨S1.next, 0, none⟩) 1 1) [(⟨k⟩ : W64)] ∧ Behind ps a n k ∧ k < 18446744073709551616) n ?_ ?_ ?_
      · simp (decide := true) only [↓symD, symU, ↓XW_cond, Nat.reduceEqDiff, List.zip_cons_cons, List.zip_nil_left, Option.bind_some, Option.map_some, Option.map_none, List.map_toArray, List.map_cons, List.map_nil, ne_eq, List.append_toArray, List.nil_append, List.cons_append, List.append_nil, h0, h3, h11, h12, true_and]
        exact ⟨0, 0, rfl, by omega, f2, o2, m2.1, Behind.zero ps a, by decide⟩
      · clear h0 h3 h11 h12
        rintro m2 fe S3 ⟨h0, h3, h4, h5, h11, h12, h25, b, k, h26, hm2, hf3, ho3, hk3, hbe, hk⟩
        simp (decide := true) only [↓symD, symU, ↓XW_cond, Nat.reduceEqDiff, List.zip_cons_cons, List.zip_nil_left, Option.bind_some, Option.map_some, Option.map_none, List.map_toArray, List.map_cons, List.map_nil, ne_eq, List.append_toArray, List.nil_append, List.cons_append, List.append_nil, h25, h26, xbin_lss]
        refine Test_dec (fun hlt2 => ?_) (fun hge2 => ?_)
        · have hb : b < n := by omega
          have wb : w64 ((b : Int) + 1) = ((b + 1 : Nat) : Int) := w64_add1 b (by omega)
          simp (decide := true) only [↓symD, symU, ↓XW_cond, Nat.reduceEqDiff, List.zip_cons_cons, List.zip_nil_left, Option.bind_some, Option.map_some, Option.map_none, List.map_toArray, List.map_cons, List.map_nil, ne_eq, List.append_toArray, List.nil_append, List.cons_append, List.append_nil, h0, h4, h26]
          refine XCall.of (less_any (ho.mono hf3.ext) hn a b ha hb) ?_
          rintro _ S4 ⟨rfl, q, rfl, hq⟩
          simp (decide := true) only [↓symD, symU, ↓XW_cond, Nat.reduceEqDiff, List.zip_cons_cons, List.zip_nil_left, Option.bind_some, Option.map_some, Option.map_none, List.map_toArray, List.map_cons, List.map_nil, ne_eq, List.append_toArray, List.nil_append, List.cons_append, List.append_nil]
          refine Test_bool (fun hq1 => ?_) (fun hq1 => ?_)
          · have g3 : S4.get id = .cells [.int .i64 (n : Int), va] t 2 mi an := by rw [hf3.ext.get _ hid]; exact hg
            obtain ⟨id', va', t', mi', an', e0, _, e1, e2⟩ := hw hf3.ext
            simp only [Value.pointer.injEq, Option.some.injEq, Addr.mk.injEq, and_true] at e0
            subst e0
            rw [g3] at e1
            simp only [Blk.cells.injEq, List.cons.injEq, and_true, true_and] at e1
            obtain ⟨rfl, _⟩ := e1
            obtain ⟨io, oo, x, u, y1, y2, y3, y4, y5⟩ := e2 b hb
            simp (decide := true) only [↓symD, symU, ↓XW_cond, Nat.reduceEqDiff, List.zip_cons_cons, List.zip_nil_left, Option.bind_some, Option.map_some, Option.map_none, List.map_toArray, List.map_cons, List.map_nil, ne_eq, List.append_toArray, List.nil_append, List.cons_append, List.append_nil, h0, h5, h26, g3, Nat.zero_add, rdOrd1, part1_one, y1, y2]
            refine XCall.of (setJoinR_any hk3 y3 hk y5) ?_
            rintro _ S5 ⟨hk5, c5⟩
            simp (decide := true) only [↓symD, symU, ↓XW_cond, Nat.reduceEqDiff, List.zip_cons_cons, List.zip_nil_left, Option.bind_some, Option.map_some, Option.map_none, List.map_toArray, List.map_cons, List.map_nil, ne_eq, List.append_toArray, List.nil_append, List.cons_append, List.append_nil, h26, xbin_add, wb, h0, h3, h4, h5, h11, h12, h25, true_and]
            exact ⟨m2 - 1, by omega, b + 1, k ||| u, rfl, by omega, hf3.chg c5 (by decide), ho3.keep c5 (by decide), hk5, hbe.next y4 (hq.1 hq1), or_lt hk y5⟩
          · simp (decide := true) only [↓symD, symU, ↓XW_cond, Nat.reduceEqDiff, List.zip_cons_cons, List.zip_nil_left, Option.bind_some, Option.map_some, Option.map_none, List.map_toArray, List.map_cons, List.map_nil, ne_eq, List.append_toArray, List.nil_append, List.cons_append, List.append_nil, h26, xbin_add, wb, h0, h3, h4, h5, h11, h12, h25, true_and]
            exact ⟨m2 - 1, by omega, b + 1, k, rfl, by omega, hf3, ho3, hk3, hbe.skip (fun h => by rw [hq.2 h] at hq1; cases hq1), hk⟩
        · obtain rfl : b = n := by omega
          simp (decide := true) only [↓symD, symU, ↓XW_cond, Nat.reduceEqDiff, List.zip_cons_cons, List.zip_nil_left, Option.bind_some, Option.map_some, Option.map_none, List.map_toArray, List.map_cons, List.map_nil, ne_eq, List.append_toArray, List.nil_append, List.cons_append, List.append_nil, h0, h3, h4, h5, h11, h12, true_and]
          exact ⟨k, hf3, ho3, hk3, hbe, hk⟩
      · clear h0 h3 h11 h12
        rintro fe S3 ⟨h0, h3, h4, h5, h11, h12, k, hf3, ho3, hk3, hbe, hk⟩
        have g3 : S3.get id = .cells [.int .i64 (n : Int), va] t 2 mi an := by rw [hf3.ext.get _ hid]; exact hg
        simp (decide := true) only [↓symD, symU, ↓XW_cond, Nat.reduceEqDiff, List.zip_cons_cons, List.zip_nil_left, Option.bind_some, Option.map_some, Option.map_none, List.map_toArray, List.map_cons, List.map_nil, ne_eq, List.append_toArray, List.nil_append, List.cons_append, List.append_nil, h0, g3, rdOrd0, part1_one]
        refine XW_loopR 4 (fun m2 fe S' => fe 0 = .pointer (some ⟨id, 0, none⟩) ∧ fe 4 = .int .i64 a ∧ fe 5 = .slice (some ⟨S1.next, 0, none⟩) 1 1 ∧ fe 11 = .int .i64 n ∧ fe 12 = .int .i64 a ∧ fe 46 = .int .i64 n ∧ ∃ (b : Nat) (col : Col) (w : Value) (cs : List (Nat × Nat)), fe 47 = .int .i64 b ∧ m2 + b = n ∧ fe 3 = w ∧ Floor col S0 S' ∧ OwnK S' col 1 w cs ∧ OwnK S' col 2 (.slice (some ⟨S1.next, 0, none⟩) 1 1) [(⟨k⟩ : W64)] ∧ cs.length ≤ 64 * a + b ∧ ∀ q, Cov ps q → (q.1 < a ∨ (q.1 = a ∧ q.2 < b)) → q ∈ cs)
          (fun fe S' => fe 0 = .pointer (some ⟨id, 0, none⟩) ∧ fe 11 = .int .i64 n ∧ fe 12 = .int .i64 a ∧ ∃ (col : Col) (w : Value) (cs : List (Nat × Nat)), fe 3 = w ∧ Floor col S0 S' ∧ OwnK S' col 1 w cs ∧ cs.length ≤ 64 * (a + 1) ∧ ∀ q, Cov ps q → q.1 < a + 1 → q ∈ cs) n ?_ ?_ ?_
        · simp (decide := true) only [↓symD, symU, ↓XW_cond, Nat.reduceEqDiff, List.zip_cons_cons, List.zip_nil_left, Option.bind_some, Option.map_some, Option.map_none, List.map_toArray, List.map_cons, List.map_nil, ne_eq, List.append_toArray, List.nil_append, List.cons_append, List.append_nil, h0, h3, h4, h5, h11, h12, true_and]
          exact ⟨0, col2, w, cs, rfl, by omega, rfl, hf3, ho3, hk3, by omega, fun q hq h => hcov q hq (by omega)⟩
        · clear h0 h3 h4 h5 h11 h12 hcov hcl hown hf f2 o2 g1 g2 g3 hf3 ho3 hk3 m2
          rintro m2 fe S3 ⟨h0, h4, h5, h11, h12, h46, b, col, w, cs, h47, hm2, h3, hf, hown, hkk, hcl, hcov⟩
          simp (decide := true) only [↓symD, symU, ↓XW_cond, Nat.reduceEqDiff, List.zip_cons_cons, List.zip_nil_left, Option.bind_some, Option.map_some, Option.map_none, List.map_toArray, List.map_cons, List.map_nil, ne_eq, List.append_toArray, List.nil_append, List.cons_append, List.append_nil, h46, h47, xbin_lss]
          refine Test_dec (fun hlt2 => ?_) (fun hge2 => ?_)
          · have hb : b < n := by omega
            have wb : w64 ((b : Int) + 1) = ((b + 1 : Nat) : Int) := w64_add1 b (by omega)
            simp (decide := true) only [↓symD, symU, ↓XW_cond, Nat.reduceEqDiff, List.zip_cons_cons, List.zip_nil_left, Option.bind_some, Option.map_some, Option.map_none, List.map_toArray, List.map_cons, List.map_nil, ne_eq, List.append_toArray, List.nil_append, List.cons_append, List.append_nil, h0, h4, h47]
            refine XCall.of (less_any (ho.mono hf.ext) hn a b ha hb) ?_
            rintro _ S4 ⟨rfl, q, rfl, hq⟩
            have skip : ¬ Cov ps (a, b) → ∀ q, Cov ps q → (q.1 < a ∨ (q.1 = a ∧ q.2 < b + 1)) → q ∈ cs := fun hnc q hq h => by
              by_cases e : q = (a, b)
              · subst e; exact absurd hq hnc
              · refine hcov q hq ?_
                rcases h with h | ⟨h, h'⟩
                · exact .inl h
                · refine .inr ⟨h, ?_⟩
                  rcases Nat.lt_or_ge q.2 b with h2 | h2
                  · exact h2
                  · exact absurd (Prod.ext h (by simp only; omega)) e
            cases q with
            | false =>
              have hnc : ¬ Cov ps (a, b) := fun h => by have := hq.2 h.1; cases this
              simp (decide := true) only [↓symD, symU, ↓XW_cond, Nat.reduceEqDiff, List.zip_cons_cons, List.zip_nil_left, Option.bind_some, Option.map_some, Option.map_none, List.map_toArray, List.map_cons, List.map_nil, ne_eq, List.append_toArray, List.nil_append, List.cons_append, List.append_nil, Pick_undef, h47, xbin_add, wb, h0, h3, h4, h5, h11, h12, h46, true_and]
              exact ⟨m2 - 1, by omega, b + 1, col, w, cs, rfl, by omega, rfl, hf, hown, hkk, by omega, skip hnc⟩
            | true =>
              simp (decide := true) only [↓symD, symU, ↓XW_cond, Nat.reduceEqDiff, List.zip_cons_cons, List.zip_nil_left, Option.bind_some, Option.map_some, Option.map_none, List.map_toArray, List.map_cons, List.map_nil, ne_eq, List.append_toArray, List.nil_append, List.cons_append, List.append_nil, h5, h47]
              refine XCall.of (setHas_any hkk.rd hk b (by omega)) ?_
              rintro _ S5 ⟨rfl, rfl⟩
              simp (decide := true) only [↓symD, symU, ↓XW_cond, Nat.reduceEqDiff, List.zip_cons_cons, List.zip_nil_left, Option.bind_some, Option.map_some, Option.map_none, List.map_toArray, List.map_cons, List.map_nil, ne_eq, List.append_toArray, List.nil_append, List.cons_append, List.append_nil]
              refine Test_bool (fun hq1 => ?_) (fun hq1 => ?_)
              · have hone : RdS (S5.alloc (.cells (pairCs (a, b)) 27 2 true [])) (.slice (some ⟨S5.next, 0, none⟩) 1 1) [(a, b)] := RdS.one S5 (a, b) _
                obtain ⟨r, S6, c6, e1, o6, k6, _⟩ := (hown.mono (Ext.alloc S5 (.cells (pairCs (a, b)) 27 2 true []))).append hone 27 16 (reach_le (by simp; omega)) (by decide)
                have e1' : xappend 27 2 16 w (.slice (some ⟨S5.next, 0, none⟩) 1 1) (S5.alloc (.cells [.int .i64 a, .int .i64 b] 27 2 true [])) = some (r, S6) := e1
                simp (decide := true) only [↓symD, symU, ↓XW_cond, Nat.reduceEqDiff, List.zip_cons_cons, List.zip_nil_left, Option.bind_some, Option.map_some, Option.map_none, List.map_toArray, List.map_cons, List.map_nil, ne_eq, List.append_toArray, List.nil_append, List.cons_append, List.append_nil, fillL, splice, rep, List.replicate_succ, List.replicate_zero, List.flatten_cons, List.flatten_nil, List.append_nil, List.nil_append, List.cons_append, Value.cells, List.append_assoc, and_self, true_and, and_true, List.size_toArray, List.length_cons, List.length_nil, Nat.zero_add, ↓reduceIte, List.take_zero, List.drop_zero, List.drop_succ_cons, List.take_succ_cons, Nat.reduceAdd, Nat.reduceLeDiff, Nat.reduceEqDiff, allOne_int, allOne_nil, List.toList_toArray, blkOf_ptr, Nat.add_zero, h3, h4, h47, e1', xbin_add, wb, h0, h5, h11, h12, h46, true_and]
                refine ⟨m2 - 1, by omega, b + 1, c6, r, cs ++ [(a, b)], rfl, by omega, rfl, (hf.mono (Ext.alloc _ _)).chg k6 (by decide), o6, (hkk.mono (Ext.alloc _ _)).keep k6 (by decide), by simp; omega, fun q hq h => ?_⟩
                by_cases e : q = (a, b)
                · subst e; simp
                · refine List.mem_append_left _ (hcov q hq ?_)
                  rcases h with h | ⟨h, h'⟩
                  · exact .inl h
                  · refine .inr ⟨h, ?_⟩
                    rcases Nat.lt_or_ge q.2 b with h2 | h2
                    · exact h2
                    · exact absurd (Prod.ext h (by simp only; omega)) e
              · have hnc : ¬ Cov ps (a, b) := fun h => by
                  have ht : k.testBit b = true := by simpa using hq1
                  obtain ⟨x, _, h2, h3⟩ := (hbe b).1 ht
                  exact h.2 ⟨x, h2, h3⟩
                simp (decide := true) only [↓symD, symU, ↓XW_cond, Nat.reduceEqDiff, List.zip_cons_cons, List.zip_nil_left, Option.bind_some, Option.map_some, Option.map_none, List.map_toArray, List.map_cons, List.map_nil, ne_eq, List.append_toArray, List.nil_append, List.cons_append, List.append_nil, h47, xbin_add, wb, h0, h3, h4, h5, h11, h12, h46, true_and]
                exact ⟨m2 - 1, by omega, b + 1, col, w, cs, rfl, by omega, rfl, hf, hown, hkk, by omega, skip hnc⟩
          · simp (decide := true) only [↓symD, symU, ↓XW_cond, Nat.reduceEqDiff, List.zip_cons_cons, List.zip_nil_left, Option.bind_some, Option.map_some, Option.map_none, List.map_toArray, List.map_cons, List.map_nil, ne_eq, List.append_toArray, List.nil_append, List.cons_append, List.append_nil, h0, h11, h12, true_and]
            refine ⟨col, w, cs, h3, hf, hown, by omega, fun q hq h => hcov q hq ?_⟩
            have := (Rch.lt hu hq.1).2
            omega
        · rintro fe S4 ⟨h0, h11, h12, col, w, cs, h3, hf, hown, hcl, hcov⟩
          simp (decide := true) only [↓symD, symU, ↓XW_cond, Nat.reduceEqDiff, List.zip_cons_cons, List.zip_nil_left, Option.bind_some, Option.map_some, Option.map_none, List.map_toArray, List.map_cons, List.map_nil, ne_eq, List.append_toArray, List.nil_append, List.cons_append, List.append_nil, h12, xbin_add, wa, h0, h3, h11, true_and]
          exact ⟨m - 1, by omega, a + 1, col, w, cs, rfl, by omega, rfl, hf, hown, hcl, hcov⟩
    · simp (decide := true) only [↓symD, symU, ↓XW_cond, Nat.reduceEqDiff, List.zip_cons_cons, List.zip_nil_left, Option.bind_some, Option.map_some, Option.map_none, List.map_toArray, List.map_cons, List.map_nil, ne_eq, List.append_toArray, List.nil_append, List.cons_append, List.append_nil]
      refine ⟨col, w, cs, h3, hf, hown, by omega, fun q hq => hcov q hq ?_⟩
      have := Rch.lt hu hq.1
      omega
  · rintro fe S1 ⟨col, w, cs, h3, hf, hown, hcl, hcov⟩
    simp (decide := true) only [↓symD, symU, ↓XW_cond, Nat.reduceEqDiff, List.zip_cons_cons, List.zip_nil_left, Option.bind_some, Option.map_some, Option.map_none, List.map_toArray, List.map_cons, List.map_nil, ne_eq, List.append_toArray, List.nil_append, List.cons_append, List.append_nil, h3]
    exact ⟨hf.ext, cs, hown.rd, hcl, hcov⟩

theorem coversLaw_any {v : Value} {l : List Int} {S : St} (hv : RdS S v l) (hb : ∀ x ∈ l, -9223372036854775808 ≤ x ∧ x ≤ 9223372036854775807) :
    XC Try.prog 7 #[v] S fun r S' => Ext S S' ∧ r = .bool true := by
  refine XC_body XF7 ?_
  simp (decide := true) only [↓symD, symU, ↓XW_cond, Nat.reduceEqDiff, List.zip_cons_cons, List.zip_nil_left, Option.bind_some, Option.map_some, Option.map_none, List.map_toArray, List.map_cons, List.map_nil, ne_eq, List.append_toArray, List.nil_append, List.cons_append, List.append_nil, xf7]
  refine XCall.of (run_any hv hb) ?_
  rintro v1 S1 ⟨hx1, rl, hrun, hlen, hgood⟩
  have hs : ∀ j (h : j < rl.length), Short rl[j] := fun j h => ⟨Nat.le_trans (hgood j h).1 (by decide), Nat.le_trans (hgood j h).2.1 (by decide)⟩
  simp (decide := true) only [↓symD, symU, ↓XW_cond, Nat.reduceEqDiff, List.zip_cons_cons, List.zip_nil_left, Option.bind_some, Option.map_some, Option.map_none, List.map_toArray, List.map_cons, List.map_nil, ne_eq, List.append_toArray, List.nil_append, List.cons_append, List.append_nil]
  refine XCall.of (order_any hrun (by omega) (GoodS.sents hgood)) ?_
  rintro p S2 ⟨hx2, ho⟩
  obtain ⟨ip, rfl, hip⟩ := ho.ptr
  have hrun := hrun.mono hx2
  simp (decide := true) only [↓symD, symU, ↓XW_cond, Nat.reduceEqDiff, List.zip_cons_cons, List.zip_nil_left, Option.bind_some, Option.map_some, Option.map_none, List.map_toArray, List.map_cons, List.map_nil, ne_eq, List.append_toArray, List.nil_append, List.cons_append, List.append_nil, eqp_some]
  refine XW_loopR 0 (fun m fe S' => Ext S2 S' ∧ fe 3 = v1 ∧ fe 4 = .pointer (some ⟨ip, 0, none⟩) ∧ ∃ i : Nat, fe 5 = .int .i64 i ∧ m + i = rl.length + 1 ∧ i ≤ rl.length) (fun fe S' => Ext S2 S' ∧ fe 3 = v1 ∧ fe 4 = .pointer (some ⟨ip, 0, none⟩)) (rl.length + 1) ?_ ?_ ?_
  · simp (decide := true) only [↓symD, symU, ↓XW_cond, Nat.reduceEqDiff, List.zip_cons_cons, List.zip_nil_left, Option.bind_some, Option.map_some, Option.map_none, List.map_toArray, List.map_cons, List.map_nil, ne_eq, List.append_toArray, List.nil_append, List.cons_append, List.append_nil, true_and]
    exact ⟨Ext.refl _, 0, rfl, by omega, by omega⟩
  · rintro m fe S3 ⟨hx3, h3, h4, i, h5, hm, hil⟩
    have wi : w64 ((i : Int) + 1) = ((i + 1 : Nat) : Int) := w64_add1 i (by omega)
    simp (decide := true) only [↓symD, symU, ↓XW_cond, Nat.reduceEqDiff, List.zip_cons_cons, List.zip_nil_left, Option.bind_some, Option.map_some, Option.map_none, List.map_toArray, List.map_cons, List.map_nil, ne_eq, List.append_toArray, List.nil_append, List.cons_append, List.append_nil, h3, h5, xbin_add, wi, (hrun.mono hx3).len, xbin_lss]
    refine Test_dec (fun hlt => ?_) (fun hge => ?_)
    · have hi : i + 1 < rl.length := by omega
      simp (decide := true) only [↓symD, symU, ↓XW_cond, Nat.reduceEqDiff, List.zip_cons_cons, List.zip_nil_left, Option.bind_some, Option.map_some, Option.map_none, List.map_toArray, List.map_cons, List.map_nil, ne_eq, List.append_toArray, List.nil_append, List.cons_append, List.append_nil, h3, h5]
      refine XCall.of (swap_any (hrun.mono hx3) (by omega) hs (i : Int) (by omega) (by omega)) ?_
      rintro _ S4 ⟨hx4, w, rfl, _⟩
      simp (decide := true) only [↓symD, symU, ↓XW_cond, Nat.reduceEqDiff, List.zip_cons_cons, List.zip_nil_left, Option.bind_some, Option.map_some, Option.map_none, List.map_toArray, List.map_cons, List.map_nil, ne_eq, List.append_toArray, List.nil_append, List.cons_append, List.append_nil, h4, h5, xbin_add, wi, xbin_eql]
      refine XCall.of (less_any ((ho.mono hx3).mono hx4) (by omega) i (i + 1) (by omega) hi) ?_
      rintro _ S5 ⟨rfl, q, rfl, hq⟩
      rw [rch_adj hi] at hq
      have e : (decide (swapE rl (i : Int) = 0) == q) = false := by
        rw [swapE_in hi]
        cases hd : dp rl i (i + 1) with
        | true =>
          obtain rfl : q = true := hq.2 hd
          decide
        | false =>
          obtain rfl : q = false := by
            cases q with
            | false => rfl
            | true => rw [hq.1 rfl] at hd; cases hd
          decide
      simp (decide := true) only [↓symD, symU, ↓XW_cond, Nat.reduceEqDiff, List.zip_cons_cons, List.zip_nil_left, Option.bind_some, Option.map_some, Option.map_none, List.map_toArray, List.map_cons, List.map_nil, ne_eq, List.append_toArray, List.nil_append, List.cons_append, List.append_nil, eqbF, e, h3, h4, h5, xbin_add, wi, true_and]
      exact ⟨m - 1, by omega, hx3.trans hx4, i + 1, rfl, by omega, by omega⟩
    · simp (decide := true) only [↓symD, symU, ↓XW_cond, Nat.reduceEqDiff, List.zip_cons_cons, List.zip_nil_left, Option.bind_some, Option.map_some, Option.map_none, List.map_toArray, List.map_cons, List.map_nil, ne_eq, List.append_toArray, List.nil_append, List.cons_append, List.append_nil, h3, h4, true_and, and_true]
      exact hx3
  · rintro fe S3 ⟨hx3, h3, h4⟩
    simp (decide := true) only [↓symD, symU, ↓XW_cond, Nat.reduceEqDiff, List.zip_cons_cons, List.zip_nil_left, Option.bind_some, Option.map_some, Option.map_none, List.map_toArray, List.map_cons, List.map_nil, ne_eq, List.append_toArray, List.nil_append, List.cons_append, List.append_nil, h4]
    refine XCall.of (covers_any (up_depPairs rl) (ho.mono hx3) (by omega)) ?_
    rintro c S4 ⟨hx4, cs, hc, hcl, hcov⟩
    simp (decide := true) only [↓symD, symU, ↓XW_cond, Nat.reduceEqDiff, List.zip_cons_cons, List.zip_nil_left, Option.bind_some, Option.map_some, Option.map_none, List.map_toArray, List.map_cons, List.map_nil, ne_eq, List.append_toArray, List.nil_append, List.cons_append, List.append_nil, h3]
    refine XCall.of (race_any ((hrun.mono hx3).mono hx4) (by omega) (GoodS.sents hgood)) ?_
    rintro u S5 ⟨hx5, hu⟩
    have hc := hc.mono hx5
    have hdl : (races rl).length ≤ 4096 := Nat.le_trans (List.length_filter_le _ _) (depPairs_length (by omega))
    have hall : ∀ q ∈ races rl, q ∈ cs := fun q hq => hcov q (race_cov hq)
    clear h3 h4
    simp (decide := true) only [↓symD, symU, ↓XW_cond, Nat.reduceEqDiff, List.zip_cons_cons, List.zip_nil_left, Option.bind_some, Option.map_some, Option.map_none, List.map_toArray, List.map_cons, List.map_nil, ne_eq, List.append_toArray, List.nil_append, List.cons_append, List.append_nil]
    refine XW_loopR 2 (fun m fe S' => S' = S5 ∧ fe 8 = c ∧ fe 9 = u ∧ ∃ i : Nat, fe 10 = .int .i64 i ∧ m + i = (races rl).length) (fun fe S' => S' = S5) (races rl).length ?_ ?_ ?_
    · simp (decide := true) only [↓symD, symU, ↓XW_cond, Nat.reduceEqDiff, List.zip_cons_cons, List.zip_nil_left, Option.bind_some, Option.map_some, Option.map_none, List.map_toArray, List.map_cons, List.map_nil, ne_eq, List.append_toArray, List.nil_append, List.cons_append, List.append_nil, true_and]
      exact ⟨0, rfl, by omega⟩
    · rintro m fe S5 ⟨rfl, h8, h9, i, h10, hm⟩
      simp (decide := true) only [↓symD, symU, ↓XW_cond, Nat.reduceEqDiff, List.zip_cons_cons, List.zip_nil_left, Option.bind_some, Option.map_some, Option.map_none, List.map_toArray, List.map_cons, List.map_nil, ne_eq, List.append_toArray, List.nil_append, List.cons_append, List.append_nil, h9, h10, hu.len, xbin_lss]
      refine Test_dec (fun hlt => ?_) (fun hge => ?_)
      · have hi : i < (races rl).length := by omega
        have wi : w64 ((i : Int) + 1) = ((i + 1 : Nat) : Int) := w64_add1 i (by omega)
        obtain ⟨id, o, a1, a2, a3⟩ := hu.get .i64 i hi
        have hmem := hall _ (List.getElem_mem hi)
        generalize (races rl)[i] = q at a3 hmem
        have a1' : iav 2 u (.int .i64 i) = some (.pointer (some ⟨id, o, none⟩)) := a1
        have a3' : (S5.get id).rd o 2 = some (pairCs q) := a3
        simp (decide := true) only [↓symD, symU, ↓XW_cond, Nat.reduceEqDiff, List.zip_cons_cons, List.zip_nil_left, Option.bind_some, Option.map_some, Option.map_none, List.map_toArray, List.map_cons, List.map_nil, ne_eq, List.append_toArray, List.nil_append, List.cons_append, List.append_nil]
        refine XW_loopR 4 (fun m2 fe S' => S' = S5 ∧ fe 8 = c ∧ fe 9 = u ∧ fe 10 = .int .i64 i ∧ ∃ (k : Nat) (b : Bool), fe 12 = .int .i64 k ∧ fe 11 = .bool b ∧ m2 + k = cs.length ∧ (b = true ↔ q ∈ cs.take k)) (fun fe S' => S' = S5 ∧ fe 8 = c ∧ fe 9 = u ∧ fe 10 = .int .i64 i ∧ fe 11 = .bool true) cs.length ?_ ?_ ?_
        · simp (decide := true) only [↓symD, symU, ↓XW_cond, Nat.reduceEqDiff, List.zip_cons_cons, List.zip_nil_left, Option.bind_some, Option.map_some, Option.map_none, List.map_toArray, List.map_cons, List.map_nil, ne_eq, List.append_toArray, List.nil_append, List.cons_append, List.append_nil, h8, h9, h10, true_and]
          exact ⟨0, false, rfl, rfl, by omega, by simp⟩
        · clear h8 h9 h10
          rintro m2 fe S5 ⟨rfl, h8, h9, h10, k, b, h12, h11, hm2, hb⟩
          simp (decide := true) only [↓symD, symU, ↓XW_cond, Nat.reduceEqDiff, List.zip_cons_cons, List.zip_nil_left, Option.bind_some, Option.map_some, Option.map_none, List.map_toArray, List.map_cons, List.map_nil, ne_eq, List.append_toArray, List.nil_append, List.cons_append, List.append_nil, h8, h12, hc.len, xbin_lss]
          refine Test_dec (fun hlt2 => ?_) (fun hge2 => ?_)
          · have hk : k < cs.length := by omega
            have wk : w64 ((k : Int) + 1) = ((k + 1 : Nat) : Int) := w64_add1 k (by omega)
            have htk : cs.take (k + 1) = cs.take k ++ [cs[k]] := by rw [List.take_add_one, List.getElem?_eq_getElem hk]; rfl
            cases b with
            | true =>
              simp (decide := true) only [↓symD, symU, ↓XW_cond, Nat.reduceEqDiff, List.zip_cons_cons, List.zip_nil_left, Option.bind_some, Option.map_some, Option.map_none, List.map_toArray, List.map_cons, List.map_nil, ne_eq, List.append_toArray, List.nil_append, List.cons_append, List.append_nil, h11, h12, Pick_undef, xbin_add, wk, h8, h9, h10, true_and]
              exact ⟨m2 - 1, by omega, k + 1, true, rfl, rfl, by omega, by rw [htk]; exact ⟨fun _ => List.mem_append_left _ (hb.1 rfl), fun _ => rfl⟩⟩
            | false =>
              obtain ⟨id2, o2, b1, b2, b3⟩ := hc.get .i64 k hk
              have b1' : iav 2 c (.int .i64 k) = some (.pointer (some ⟨id2, o2, none⟩)) := b1
              have b3' : (S5.get id2).rd o2 2 = some (pairCs cs[k]) := b3
              generalize cs[k] = z at b3' htk
              simp (decide := true) only [↓symD, symU, ↓XW_cond, Nat.reduceEqDiff, List.zip_cons_cons, List.zip_nil_left, Option.bind_some, Option.map_some, Option.map_none, List.map_toArray, List.map_cons, List.map_nil, ne_eq, List.append_toArray, List.nil_append, List.cons_append, List.append_nil, h8, h9, h10, h11, h12, b1', b3', a1', a3', part1_agg, eqfv_pair2, xbin_add, wk, true_and]
              refine ⟨m2 - 1, by omega, k + 1, decide (z = q), rfl, rfl, by omega, ?_⟩
              rw [htk, List.mem_append, ← hb]
              simp [eq_comm]
          · have : k = cs.length := by omega
            rw [this, List.take_length] at hb
            obtain rfl : b = true := hb.2 hmem
            simp (decide := true) only [↓symD, symU, ↓XW_cond, Nat.reduceEqDiff, List.zip_cons_cons, List.zip_nil_left, Option.bind_some, Option.map_some, Option.map_none, List.map_toArray, List.map_cons, List.map_nil, ne_eq, List.append_toArray, List.nil_append, List.cons_append, List.append_nil, h8, h9, h10, h11, true_and]
        · clear h8 h9 h10
          rintro fe S5 ⟨rfl, h8, h9, h10, h11⟩
          simp (decide := true) only [↓symD, symU, ↓XW_cond, Nat.reduceEqDiff, List.zip_cons_cons, List.zip_nil_left, Option.bind_some, Option.map_some, Option.map_none, List.map_toArray, List.map_cons, List.map_nil, ne_eq, List.append_toArray, List.nil_append, List.cons_append, List.append_nil, h11, Bool.not_true, h10, xbin_add, wi, h8, h9, true_and]
          exact ⟨m - 1, by omega, i + 1, rfl, by omega⟩
      · simp (decide := true) only [↓symD, symU, ↓XW_cond, Nat.reduceEqDiff, List.zip_cons_cons, List.zip_nil_left, Option.bind_some, Option.map_some, Option.map_none, List.map_toArray, List.map_cons, List.map_nil, ne_eq, List.append_toArray, List.nil_append, List.cons_append, List.append_nil]
    · rintro fe S5 rfl
      simp (decide := true) only [↓symD, symU, ↓XW_cond, Nat.reduceEqDiff, List.zip_cons_cons, List.zip_nil_left, Option.bind_some, Option.map_some, Option.map_none, List.map_toArray, List.map_cons, List.map_nil, ne_eq, List.append_toArray, List.nil_append, List.cons_append, List.append_nil]
      refine XCall.of lives_any ?_
      rintro _ S6 ⟨hx6, rfl⟩
      simp (decide := true) only [↓symD, symU, ↓XW_cond, Nat.reduceEqDiff, List.zip_cons_cons, List.zip_nil_left, Option.bind_some, Option.map_some, Option.map_none, List.map_toArray, List.map_cons, List.map_nil, ne_eq, List.append_toArray, List.nil_append, List.cons_append, List.append_nil, and_true]
      exact ((((hx1.trans hx2).trans hx3).trans hx4).trans hx5).trans hx6
end
end Go.Proofs.Ytolfpchcmiljpaa

/- slices.Backward, and what an order answers. -/
import Derived.Test.YtolfpchcmiljpaaDg
import Derived.Test.YtolfpchcmiljpaaDf
set_option linter.unusedSimpArgs false
set_option linter.unusedSectionVars false
set_option maxRecDepth 10000
namespace Go.Proofs.Ytolfpchcmiljpaa
open Go Go.RowKit

instance encNat : Enc Nat := ⟨1, fun n => [.int .i64 (n : Int)], fun _ => rfl, fun _ => rfl, by decide⟩
theorem RdS.nat {S : St} {v : Value} {l : List Nat} (h : RdS S v l) (i : Nat) (hi : i < l.length) : ∃ id o, iav 1 v (.int .i64 i) = some (.pointer (some ⟨id, o, none⟩)) ∧ id < S.next ∧ (S.get id).rd o 1 = some [.int .i64 (l[i] : Int)] := h.get .i64 i hi
theorem RdS.svs {S : St} {v : Value} {l : List SV} (h : RdS S v l) (i : Nat) (hi : i < l.length) : ∃ id o, iav 1 v (.int .i64 i) = some (.pointer (some ⟨id, o, none⟩)) ∧ id < S.next ∧ (S.get id).rd o 1 = some [l[i].v] := h.get .i64 i hi
theorem w64_sub1 (i : Nat) (h : i ≤ 9223372036854775807) : w64 ((i : Int) - 1) = (i : Int) - 1 := w64_ok (by omega) (by omega)
theorem w64_add1 (i : Nat) (h : i < 9223372036854775807) : w64 ((i : Int) + 1) = ((i + 1 : Nat) : Int) := by rw [w64_ok (by omega) (by omega)]; omega

/-- an order in memory, in blocks from b on. -/
def Ord (S : St) (b : Nat) (p : Value) (n : Nat) (ps : Pairs) : Prop :=
  ∃ (id : Nat) (va : Value) (t : TypeId) (mi : Bool) (an : List Nat) (xs : List SV), p = .pointer (some ⟨id, 0, none⟩) ∧ (b ≤ id ∧ id < S.next) ∧ S.get id = .cells [.int .i64 (n : Int), va] t 2 mi an ∧ Own S b va xs ∧ xs.length = n ∧
    ∀ a (h : a < xs.length), ∃ m, Own S b xs[a].v [(⟨m⟩ : W64)] ∧ Mask ps a m ∧ m < 18446744073709551616
theorem Own.mid {α : Type} [Enc α] {S S' : St} {b : Nat} {v : Value} {l : List α} (h : Own S b v l) (hn : S.next ≤ S'.next) (hg : ∀ id, b ≤ id → id < S.next → S'.get id = S.get id) : Own S' b v l := by
  rcases h with h | ⟨id, t, an, rfl, h1, h2, h3, h4⟩
  · exact .inl h
  · exact .inr ⟨id, t, an, rfl, by rw [hg id h2 h3]; exact h1, h2, Nat.lt_of_lt_of_le h3 hn, h4⟩
theorem Ord.mid {S S' : St} {b : Nat} {p : Value} {n : Nat} {ps : Pairs} (h : Ord S b p n ps) (hn : S.next ≤ S'.next) (hg : ∀ id, b ≤ id → id < S.next → S'.get id = S.get id) : Ord S' b p n ps := by
  obtain ⟨id, va, t, mi, an, xs, h1, h2, h3, h4, h5, h7⟩ := h
  refine ⟨id, va, t, mi, an, xs, h1, ⟨h2.1, Nat.lt_of_lt_of_le h2.2 hn⟩, by rw [hg _ h2.1 h2.2]; exact h3, h4.mid hn hg, h5, fun a q1 => ?_⟩
  obtain ⟨m, k1, k2⟩ := h7 a q1
  exact ⟨m, k1.mid hn hg, k2⟩
theorem Ord.mono {S S' : St} {b : Nat} {p : Value} {n : Nat} {ps : Pairs} (h : Ord S b p n ps) (hx : Ext S S') : Ord S' b p n ps := h.mid hx.next fun id _ h2 => hx.get id h2
theorem Ord.weak {S : St} {b b' : Nat} {p : Value} {n : Nat} {ps : Pairs} (h : Ord S b p n ps) (hb : b' ≤ b) : Ord S b' p n ps := by
  obtain ⟨id, va, t, mi, an, xs, h1, h2, h3, h4, h5, h7⟩ := h
  refine ⟨id, va, t, mi, an, xs, h1, ⟨by omega, h2.2⟩, h3, h4.weak hb, h5, fun a q1 => ?_⟩
  obtain ⟨m, k1, k2⟩ := h7 a q1
  exact ⟨m, k1.weak hb, k2⟩
theorem Floor.ge {col : Col} {S0 S : St} (h : Floor col S0 S) {id c : Nat} (hc : col id = c) (h0 : c ≠ 0) : S0.next ≤ id := Nat.le_of_not_lt fun hlt => h0 (hc.symm.trans (h.hcol id hlt))

section
variable [Prim Try.prog]

theorem backward1_any {v : Value} {R : List Nat} (J : Nat → St → Prop) (y idp : Nat) (t : TypeId) (mi : Bool) (an : List Nat)
    (hJ : ∀ j S, J j S → RdS S v R ∧ idp < S.next ∧ S.get idp = .cells [v] t 1 mi an)
    (hY : ∀ j S, J j S → (h : j < R.length) → XG Try.prog (.yield y) #[.int .i64 (R.length - 1 - j : Nat), .int .i64 (R[R.length - 1 - j]'(by omega) : Nat)] S (fun r S' => r = .bool true ∧ J (j + 1) S'))
    (hl : R.length ≤ 1000000) {S : St} (h0 : J 0 S) :
    XC Try.prog 52 #[.func (.yield y) #[] #[], .pointer (some ⟨idp, 0, none⟩)] S fun _ S' => J R.length S' := by
  refine XC_body XF52 ?_
  have e1 : (Blk.cells [v] t 1 mi an).rd 0 1 = some [v] := rfl
  obtain ⟨r0, p0, g0⟩ := hJ _ _ h0
  simp (decide := true) only [↓symD, symU, ↓XW_cond, Nat.reduceEqDiff, List.zip_cons_cons, List.zip_nil_left, Option.bind_some, Option.map_some, Option.map_none, List.map_toArray, List.map_cons, List.map_nil, ne_eq, List.append_toArray, List.nil_append, List.cons_append, List.append_nil, xf52, g0, e1, part1_one, r0.len, xbin_sub, w64_sub1 _ (show R.length ≤ 9223372036854775807 by omega)]
  refine XW_loopR 0 (fun m fe S' => fe 0 = .func (.yield y) #[] #[] ∧ fe 1 = .pointer (some ⟨idp, 0, none⟩) ∧ ∃ j : Nat, fe 3 = .int .i64 ((R.length : Int) - 1 - j) ∧ m + j = R.length ∧ J j S')
    (fun fe S' => J R.length S') R.length ?_ ?_ ?_
  · simp (decide := true) only [↓symD, symU, ↓XW_cond, Nat.reduceEqDiff, List.zip_cons_cons, List.zip_nil_left, Option.bind_some, Option.map_some, Option.map_none, List.map_toArray, List.map_cons, List.map_nil, ne_eq, List.append_toArray, List.nil_append, List.cons_append, List.append_nil, true_and]
    exact ⟨0, by simp, by omega, h0⟩
  · rintro m fe S2 ⟨h0, h1, j, h3, hm, hj⟩
    obtain ⟨r3, p3, g3⟩ := hJ _ _ hj
    simp (decide := true) only [↓symD, symU, ↓XW_cond, Nat.reduceEqDiff, List.zip_cons_cons, List.zip_nil_left, Option.bind_some, Option.map_some, Option.map_none, List.map_toArray, List.map_cons, List.map_nil, ne_eq, List.append_toArray, List.nil_append, List.cons_append, List.append_nil, h1, h3, xbin_geq]
    refine Test_dec (fun hlt => ?_) (fun hge => ?_)
    · have hlt' : j < R.length := by omega
      have hc : (R.length : Int) - 1 - j = ((R.length - 1 - j : Nat) : Int) := by omega
      obtain ⟨ia, oa, a1, a2, a3⟩ := r3.nat (R.length - 1 - j) (by omega)
      rw [hc] at h3
      have w2 : w64 (((R.length - 1 - j : Nat) : Int) - 1) = (R.length : Int) - 1 - ((j + 1 : Nat) : Int) := by rw [w64_ok (by omega) (by omega)]; omega
      simp (decide := true) only [↓symD, symU, ↓XW_cond, Nat.reduceEqDiff, List.zip_cons_cons, List.zip_nil_left, Option.bind_some, Option.map_some, Option.map_none, List.map_toArray, List.map_cons, List.map_nil, ne_eq, List.append_toArray, List.nil_append, List.cons_append, List.append_nil, h0, h1, h3, g3, e1, part1_one, a1, a3]
      refine XYield.of (hY j S2 hj hlt') ?_
      rintro _ S5 ⟨rfl, hj5⟩
      simp (decide := true) only [↓symD, symU, ↓XW_cond, Nat.reduceEqDiff, List.zip_cons_cons, List.zip_nil_left, Option.bind_some, Option.map_some, Option.map_none, List.map_toArray, List.map_cons, List.map_nil, ne_eq, List.append_toArray, List.nil_append, List.cons_append, List.append_nil, Bool.not_true, h0, h1, h3, xbin_sub, w2, true_and]
      exact ⟨m - 1, by omega, j + 1, rfl, by omega, hj5⟩
    · simp (decide := true) only [↓symD, symU, ↓XW_cond, Nat.reduceEqDiff, List.zip_cons_cons, List.zip_nil_left, Option.bind_some, Option.map_some, Option.map_none, List.map_toArray, List.map_cons, List.map_nil, ne_eq, List.append_toArray, List.nil_append, List.cons_append, List.append_nil]
      obtain rfl : j = R.length := by omega
      exact hj
  · rintro fe S' h
    simp (decide := true) only [↓symD, symU, ↓XW_cond, Nat.reduceEqDiff, List.zip_cons_cons, List.zip_nil_left, Option.bind_some, Option.map_some, Option.map_none, List.map_toArray, List.map_cons, List.map_nil, ne_eq, List.append_toArray, List.nil_append, List.cons_append, List.append_nil]
    exact h

theorem backward_any {v : Value} {R : List Nat} {S : St} (hv : RdS S v R) :
    XC Try.prog 45 #[v] S fun r S' => S' = S.alloc (.cells [v] 22 1 true []) ∧ r = .func (.func 52) #[] #[.pointer (some ⟨S.next, 0, none⟩)] := by
  refine XC_body XF45 ?_
  have hb : boxc v = some [v] := by
    obtain ⟨s, rfl⟩ := hv.sv
    exact boxc_slice _ _ _
  simp (decide := true) only [↓symD, symU, ↓XW_cond, Nat.reduceEqDiff, List.zip_cons_cons, List.zip_nil_left, Option.bind_some, Option.map_some, Option.map_none, List.map_toArray, List.map_cons, List.map_nil, ne_eq, List.append_toArray, List.nil_append, List.cons_append, List.append_nil, xf45, hb, List.length_cons, List.length_nil, Nat.zero_add, true_and]

theorem ordHas_any {p : Value} {n bb : Nat} {ps : Pairs} {S : St} (h : Ord S bb p n ps) (a : Nat) (ha : a < n) :
    XC Try.prog 33 #[p, .int .i64 a] S fun r S' => S' = S ∧ r = .bool true := by
  refine XC_body XF33 ?_
  obtain ⟨id, va, t, mi, an, xs, rfl, h2, h3, h4, h5, h7⟩ := h
  have e1 : (Blk.cells [.int .i64 (n : Int), va] t 2 mi an).rd 0 1 = some [.int .i64 (n : Int)] := rfl
  have d1 : decide ((a : Int) ≥ 0) = true := by simp
  have d2 : decide ((a : Int) < n) = true := by simp [ha]
  simp (decide := true) only [↓symD, symU, ↓XW_cond, Nat.reduceEqDiff, List.zip_cons_cons, List.zip_nil_left, Option.bind_some, Option.map_some, Option.map_none, List.map_toArray, List.map_cons, List.map_nil, ne_eq, List.append_toArray, List.nil_append, List.cons_append, List.append_nil, xf33, xbin_geq, xbin_lss, d1, d2, h3, e1, part1_one, true_and, Int.natCast_nonneg, ge_iff_le, decide_true, Int.ofNat_lt, ha]
theorem less_any {p : Value} {n bb : Nat} {ps : Pairs} {S : St} (h : Ord S bb p n ps) (hn : n ≤ 64) (a b : Nat) (ha : a < n) (hb : b < n) :
    XC Try.prog 15 #[p, .int .i64 a, .int .i64 b] S fun r S' => S' = S ∧ ∃ q, r = .bool q ∧ (q = true ↔ Rch ps a b) := by
  refine XC_body XF15 ?_
  have h0 := h
  obtain ⟨id, va, t, mi, an, xs, rfl, h2, h3, h4, h5, h7⟩ := h
  have e1 : (Blk.cells [.int .i64 (n : Int), va] t 2 mi an).rd 1 1 = some [va] := rfl
  simp (decide := true) only [↓symD, symU, ↓XW_cond, Nat.reduceEqDiff, List.zip_cons_cons, List.zip_nil_left, Option.bind_some, Option.map_some, Option.map_none, List.map_toArray, List.map_cons, List.map_nil, ne_eq, List.append_toArray, List.nil_append, List.cons_append, List.append_nil, xf15]
  refine XCall.of (ordHas_any h0 a ha) ?_
  rintro _ _ ⟨rfl, rfl⟩
  simp (decide := true) only [↓symD, symU, ↓XW_cond, Nat.reduceEqDiff, List.zip_cons_cons, List.zip_nil_left, Option.bind_some, Option.map_some, Option.map_none, List.map_toArray, List.map_cons, List.map_nil, ne_eq, List.append_toArray, List.nil_append, List.cons_append, List.append_nil]
  refine XCall.of (ordHas_any h0 b hb) ?_
  rintro _ S ⟨rfl, rfl⟩
  obtain ⟨ix, ox, x1, x2, x3⟩ := h4.rd.svs a (by omega)
  obtain ⟨m, y1, y2, y3⟩ := h7 a (by omega)
  simp (decide := true) only [↓symD, symU, ↓XW_cond, Nat.reduceEqDiff, List.zip_cons_cons, List.zip_nil_left, Option.bind_some, Option.map_some, Option.map_none, List.map_toArray, List.map_cons, List.map_nil, ne_eq, List.append_toArray, List.nil_append, List.cons_append, List.append_nil, h3, e1, part1_one, x1, x3, Nat.zero_add]
  refine XCall.of (setHas_any y1.rd y3 b (by omega)) ?_
  rintro _ _ ⟨rfl, rfl⟩
  simp (decide := true) only [↓symD, symU, ↓XW_cond, Nat.reduceEqDiff, List.zip_cons_cons, List.zip_nil_left, Option.bind_some, Option.map_some, Option.map_none, List.map_toArray, List.map_cons, List.map_nil, ne_eq, List.append_toArray, List.nil_append, List.cons_append, List.append_nil, true_and]
  exact ⟨_, rfl, y2 b⟩
theorem ordLen_any {p : Value} {n bb : Nat} {ps : Pairs} {S : St} (h : Ord S bb p n ps) :
    XC Try.prog 17 #[p] S fun r S' => S' = S ∧ r = .int .i64 n := by
  refine XC_body XF17 ?_
  obtain ⟨id, va, t, mi, an, xs, rfl, h2, h3, h4, h5, h7⟩ := h
  have e1 : (Blk.cells [.int .i64 (n : Int), va] t 2 mi an).rd 0 1 = some [.int .i64 (n : Int)] := rfl
  simp (decide := true) only [↓symD, symU, ↓XW_cond, Nat.reduceEqDiff, List.zip_cons_cons, List.zip_nil_left, Option.bind_some, Option.map_some, Option.map_none, List.map_toArray, List.map_cons, List.map_nil, ne_eq, List.append_toArray, List.nil_append, List.cons_append, List.append_nil, xf17, h3, e1, part1_one, true_and]
end
end Go.Proofs.Ytolfpchcmiljpaa

/- Sets of small numbers in a word. -/
import Derived.Test.YtolfpchcmiljpaaMmk
import Derived.Test.YtolfpchcmiljpaaDd
set_option linter.unusedSimpArgs false
set_option linter.unusedSectionVars false
set_option maxRecDepth 10000
namespace Go.Proofs.Ytolfpchcmiljpaa
open Go Go.RowKit

structure W64 where
  n : Nat
instance : Enc W64 := ⟨1, fun w => [.int .u64 w.n], fun _ => rfl, fun _ => rfl, by decide⟩
theorem boxc_u64 (n : Int) : boxc (.int .u64 n) = some [.int .u64 n] := by simp [boxc, Value.cells, allOne_int, allOne_nil]
theorem tdiv64 (i : Nat) (h : i < 64) : w64 ((i : Int).tdiv 64) = ((0 : Nat) : Int) := by
  have : (i : Int).tdiv 64 = 0 := by rw [Int.tdiv_eq_ediv_of_nonneg (by omega)]; omega
  rw [this]; rfl
theorem tmod64 (i : Nat) (h : i < 64) : (i : Int).tmod 64 = (i : Int) := by
  rw [Int.tmod_eq_emod_of_nonneg (by omega)]; omega
theorem RdS.w64 {S : St} {v : Value} {w : W64} (h : RdS S v [w]) : ∃ id o, iav 1 v (.int .i64 ((0 : Nat) : Int)) = some (.pointer (some ⟨id, o, none⟩)) ∧ id < S.next ∧ (S.get id).rd o 1 = some [.int .u64 w.n] := by
  obtain ⟨id, o, e1, e2, e3⟩ := h.get .i64 0 (by simp)
  exact ⟨id, o, e1, e2, e3⟩

section
variable [Prim Try.prog]

theorem setHas_any {S : St} {v : Value} {w : Nat} (hv : RdS S v [(⟨w⟩ : W64)]) (hw : w < 18446744073709551616) (i : Nat) (hi : i < 64) :
    XC Try.prog 34 #[v, .int .i64 i] S fun r S' => S' = S ∧ r = .bool (w.testBit i) := by
  refine XC_body XF34 ?_
  obtain ⟨id, o, e1, e2, e3⟩ := hv.w64
  have h2 : w >>> i < 18446744073709551616 := Nat.lt_of_le_of_lt (Nat.shiftRight_le w i) hw
  have u1 := u64_and (w >>> i) 1 h2 (by decide)
  rw [show ((1 : Nat) : Int) = 1 from rfl] at u1
  simp (decide := true) only [↓symD, symU, ↓XW_cond, Nat.reduceEqDiff, List.zip_cons_cons, List.zip_nil_left, Option.bind_some, Option.map_some, Option.map_none, List.map_toArray, List.map_cons, List.map_nil, ne_eq, List.append_toArray, List.nil_append, List.cons_append, List.append_nil, xf34, xbin_quo, xbin_rem, tdiv64 i hi, tmod64 i hi, e1, e3, part1_one, u64_shr w i hi, u1, u64_eql, bit_of, true_and]

theorem setAdd_any {S : St} {col : Col} {c : Nat} {v : Value} {w : Nat} (hv : OwnK S col c v [(⟨w⟩ : W64)]) (hw : w < 18446744073709551616) (i : Nat) (hi : i < 64) :
    XC Try.prog 46 #[v, .int .i64 i] S fun _ S' => OwnK S' col c v [(⟨w ||| 2 ^ i⟩ : W64)] ∧ Chg col c S col S' := by
  refine XC_body XF46 ?_
  obtain ⟨id, o, e1, e2, e3⟩ := hv.rd.w64
  obtain ⟨id', o', cs, t, z, an, a1, a2, a3, a4, a5⟩ := hv.store 0 (by simp) (⟨w ||| 2 ^ i⟩ : W64)
  obtain ⟨rfl, rfl⟩ : id' = id ∧ o' = o := by
    have := e1.symm.trans a1
    simp only [Option.some.injEq, Value.pointer.injEq, Addr.mk.injEq, and_true] at this
    exact ⟨this.1.symm, this.2.symm⟩
  have h2 : 2 ^ i < 18446744073709551616 := Nat.lt_of_lt_of_le (Nat.pow_lt_pow_right (by decide) hi) (by decide)
  have a2' : stv 1 [.int .u64 ((w ||| 2 ^ i : Nat) : Int)] o' (S.get id') = some (cs, t, z, an) := a2
  simp (decide := true) only [↓symD, symU, ↓XW_cond, Nat.reduceEqDiff, List.zip_cons_cons, List.zip_nil_left, Option.bind_some, Option.map_some, Option.map_none, List.map_toArray, List.map_cons, List.map_nil, ne_eq, List.append_toArray, List.nil_append, List.cons_append, List.append_nil, xf46, xbin_quo, xbin_rem, tdiv64 i hi, tmod64 i hi, e1, e3, part1_one, u64_shl i hi, u64_or w (2 ^ i) hw h2, boxc_u64, blkOf_ptr, a2']
  exact ⟨a3, a4⟩

theorem setJoin_any {S : St} {col : Col} {c d : Nat} {v x : Value} {w u : Nat} (hv : OwnK S col c v [(⟨w⟩ : W64)]) (hx : OwnK S col d x [(⟨u⟩ : W64)]) (hw : w < 18446744073709551616) (hu : u < 18446744073709551616) :
    XC Try.prog 37 #[v, x] S fun _ S' => OwnK S' col c v [(⟨w ||| u⟩ : W64)] ∧ Chg col c S col S' := by
  refine XC_body XF37 ?_
  simp (decide := true) only [↓symD, symU, ↓XW_cond, Nat.reduceEqDiff, List.zip_cons_cons, List.zip_nil_left, Option.bind_some, Option.map_some, Option.map_none, List.map_toArray, List.map_cons, List.map_nil, ne_eq, List.append_toArray, List.nil_append, List.cons_append, List.append_nil, xf37, hx.rd.len, List.length_cons, List.length_nil, Nat.zero_add]
  refine XW_loopR 0 (fun k fe S' => (k = 1 ∧ S' = S ∧ fe 0 = v ∧ fe 6 = x ∧ fe 7 = .int .i64 ((1 : Nat) : Int) ∧ fe 8 = .int .i64 ((0 : Nat) : Int)) ∨ (k = 0 ∧ fe 7 = .int .i64 ((1 : Nat) : Int) ∧ fe 8 = .int .i64 ((1 : Nat) : Int) ∧ OwnK S' col c v [(⟨w ||| u⟩ : W64)] ∧ Chg col c S col S'))
    (fun fe S' => OwnK S' col c v [(⟨w ||| u⟩ : W64)] ∧ Chg col c S col S') 1 ?_ ?_ ?_
  · simp (decide := true) only [↓symD, symU, ↓XW_cond, Nat.reduceEqDiff, List.zip_cons_cons, List.zip_nil_left, Option.bind_some, Option.map_some, Option.map_none, List.map_toArray, List.map_cons, List.map_nil, ne_eq, List.append_toArray, List.nil_append, List.cons_append, List.append_nil, true_and]
    exact .inl rfl
  · rintro k fe S2 (⟨rfl, rfl, h0, h6, h7, h8⟩ | ⟨rfl, h7, h8, hr⟩)
    · obtain ⟨id, o, e1, e2, e3⟩ := hv.rd.w64
      obtain ⟨ix, ox, x1, x2, x3⟩ := hx.rd.w64
      obtain ⟨id', o', cs, t, z, an, a1, a2, a3, a4, a5⟩ := hv.store 0 (by simp) (⟨w ||| u⟩ : W64)
      obtain ⟨rfl, rfl⟩ : id' = id ∧ o' = o := by
        have := e1.symm.trans a1
        simp only [Option.some.injEq, Value.pointer.injEq, Addr.mk.injEq, and_true] at this
        exact ⟨this.1.symm, this.2.symm⟩
      have a2' : stv 1 [.int .u64 ((w ||| u : Nat) : Int)] o' (S2.get id') = some (cs, t, z, an) := a2
      have d1 : decide (((0 : Nat) : Int) < ((1 : Nat) : Int)) = true := rfl
      have w1 : w64 (((0 : Nat) : Int) + 1) = ((1 : Nat) : Int) := rfl
      simp (decide := true) only [↓symD, symU, ↓XW_cond, Nat.reduceEqDiff, List.zip_cons_cons, List.zip_nil_left, Option.bind_some, Option.map_some, Option.map_none, List.map_toArray, List.map_cons, List.map_nil, ne_eq, List.append_toArray, List.nil_append, List.cons_append, List.append_nil, h0, h6, h7, h8, xbin_lss, decide_true,  e1, e3, x1, x3, part1_one, u64_or w u hw hu, boxc_u64, blkOf_ptr, a2', xbin_add, w1]
      exact ⟨0, by decide, .inr ⟨rfl, trivial, trivial, a3, a4⟩⟩
    · have d1 : decide (((1 : Nat) : Int) < ((1 : Nat) : Int)) = false := rfl
      simp (decide := true) only [↓symD, symU, ↓XW_cond, Nat.reduceEqDiff, List.zip_cons_cons, List.zip_nil_left, Option.bind_some, Option.map_some, Option.map_none, List.map_toArray, List.map_cons, List.map_nil, ne_eq, List.append_toArray, List.nil_append, List.cons_append, List.append_nil, h7, h8, xbin_lss, decide_false]
      exact hr
  · rintro fe S' h
    simp (decide := true) only [↓symD, symU, ↓XW_cond, Nat.reduceEqDiff, List.zip_cons_cons, List.zip_nil_left, Option.bind_some, Option.map_some, Option.map_none, List.map_toArray, List.map_cons, List.map_nil, ne_eq, List.append_toArray, List.nil_append, List.cons_append, List.append_nil]
    exact h
end
end Go.Proofs.Ytolfpchcmiljpaa

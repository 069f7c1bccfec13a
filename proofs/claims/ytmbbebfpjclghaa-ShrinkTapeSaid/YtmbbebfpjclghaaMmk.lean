/- make, min and max, words of bits. -/
import Derived.Test.YtmbbebfpjclghaaMco
set_option linter.unusedVariables false
set_option linter.unnecessarySimpa false
namespace Go.Proofs.Ytmbbebfpjclghaa
open Go Go.RowKit

def mksv (e : TypeId) (esz bytes : Nat) (z : List Value) (l c : Value) (S : St) : Option (Value × St) := match l, c with
  | .int _ l, .int _ c => if 0 ≤ l ∧ l ≤ c ∧ bytes * c.toNat ≤ reach ∧ 0 < bytes ∧ z.length = esz ∧ allOne z = true then
      some (.slice (some ⟨S.next, 0, none⟩) l.toNat c.toNat, S.alloc (.cells (rep c.toNat z) e esz true [])) else none
  | _, _ => none
def mmv (mx : Bool) (x : Value) (l : List Value) : Option Value := match x with
  | .int k a => xminmax mx a k l
  | _ => none
section
variable {P : Program} [Prim P] {ρ : Operand → Value} {S : St} {K : Value → St → Prop}
theorem XS_mkSlice (e : TypeId) (esz bytes : Nat) (z : List Value) (l c : Operand) : XS P (.mkSlice e esz bytes z l c) ρ S K = @Now _ (ρ l) ⟨fun v => @Now _ (ρ c) ⟨fun u => @Got _ (mksv e esz bytes z v u S) ⟨fun r => K r.1 r.2⟩⟩⟩ := by
  rw [XS_gen (by simp) (by simp)]
  simp only [xop, Now, mksv]
  rfl
theorem XS_minmax (mx : Bool) (x : Operand) (l : List Operand) : XS P (.minmax mx x l) ρ S K = @Now _ (ρ x) ⟨fun v => @Now _ (l.map ρ) ⟨fun u => @Got _ (mmv mx v u) ⟨fun r => K r S⟩⟩⟩ := by
  rw [XS_one (mmv mx (ρ x) (l.map ρ)) (by simp) (by simp)]; rfl
  simp only [xop, mmv]
  cases ρ x <;> rfl
end
theorem mksv_ok (e : TypeId) (esz bytes : Nat) (z : List Value) (n : Nat) (S : St) (h : bytes * n ≤ reach) (hb : 0 < bytes) (hz : z.length = esz) (ha : allOne z = true) : mksv e esz bytes z (.int .i64 n) (.int .i64 n) S = some (.slice (some ⟨S.next, 0, none⟩) n n, S.alloc (.cells (rep n z) e esz true [])) := by
  simp only [mksv, Int.toNat_natCast]
  rw [if_pos ⟨by omega, by omega, h, hb, hz, ha⟩]
theorem mm_min (a b : Int) : mmv false (.int .i64 a) [.int .i64 b] = some (.int .i64 (if b < a then b else a)) := Eq.trans rfl rfl
theorem mm_max (a b : Int) : mmv true (.int .i64 a) [.int .i64 b] = some (.int .i64 (if b > a then b else a)) := Eq.trans rfl rfl

theorem wrap_u64 (n : Nat) (h : n < 18446744073709551616) : IntKind.u64.wrap (n : Int) = n := by
  rw [IntKind.wrap_u64]
  omega
theorem u64_shr (w i : Nat) (hi : i < 64) : xbin .shr (.int .u64 w) (.int .i64 i) = some (.int .u64 ((w >>> i : Nat) : Int)) := by
  simp only [xbin, xbinI]
  rw [if_neg (by omega)]
  congr 2
  rw [Int.toNat_natCast, show IntKind.u64.bits = 64 from rfl, Nat.min_eq_left (by omega), Nat.shiftRight_eq_div_pow, show (2 : Int) ^ i = ((2 ^ i : Nat) : Int) by simp, Int.fdiv_eq_ediv_of_nonneg _ (Int.natCast_nonneg _)]
  exact (Int.natCast_ediv _ _).symm
theorem u64_shl (i : Nat) (hi : i < 64) : xbin .shl (.int .u64 1) (.int .i64 i) = some (.int .u64 ((2 ^ i : Nat) : Int)) := by
  simp only [xbin, xbinI]
  rw [if_neg (by omega), Int.toNat_natCast, show IntKind.u64.bits = 64 from rfl, Nat.min_eq_left (by omega)]
  have h : 2 ^ i < 2 ^ 64 := Nat.pow_lt_pow_right (by decide) hi
  have e : (1 : Int) * 2 ^ i = ((2 ^ i : Nat) : Int) := by simp
  rw [e, wrap_u64 _ h]
theorem u64_and (a b : Nat) (ha : a < 18446744073709551616) (hb : b < 18446744073709551616) : xbin .and (.int .u64 a) (.int .u64 b) = some (.int .u64 ((a &&& b : Nat) : Int)) := by
  have h : a &&& b < 2 ^ 64 := Nat.and_lt_two_pow _ (by simpa using hb)
  have e : (BitVec.ofInt 64 (a : Int) &&& BitVec.ofInt 64 (b : Int)).toNat = a &&& b := by
    simp [BitVec.ofInt_natCast, Nat.mod_eq_of_lt ha, Nat.mod_eq_of_lt hb]
  simp only [xbin, xbinI]
  rw [if_pos trivial, show IntKind.u64.bits = 64 from rfl, e, wrap_u64 _ h]
theorem u64_or (a b : Nat) (ha : a < 18446744073709551616) (hb : b < 18446744073709551616) : xbin .or (.int .u64 a) (.int .u64 b) = some (.int .u64 ((a ||| b : Nat) : Int)) := by
  have h : a ||| b < 2 ^ 64 := Nat.or_lt_two_pow (by simpa using ha) (by simpa using hb)
  have e : (BitVec.ofInt 64 (a : Int) ||| BitVec.ofInt 64 (b : Int)).toNat = a ||| b := by
    simp [BitVec.ofInt_natCast, Nat.mod_eq_of_lt ha, Nat.mod_eq_of_lt hb]
  simp only [xbin, xbinI]
  rw [if_pos trivial, show IntKind.u64.bits = 64 from rfl, e, wrap_u64 _ h]
theorem u64_eql (a b : Int) : xbin .eql (.int .u64 a) (.int .u64 b) = some (.bool (decide (a = b))) := by
  simp only [xbin, xbinI, if_true]
  rw [Bool.eq_iff_iff.2 (by simp : (a == b) = true ↔ decide (a = b) = true)]
theorem bit_of (w i : Nat) : decide ((((w >>> i : Nat) &&& 1 : Nat) : Int) = 1) = w.testBit i := by
  rw [Nat.testBit, Nat.and_comm 1]
  have : (w >>> i) &&& 1 = 0 ∨ (w >>> i) &&& 1 = 1 := by
    rw [Nat.and_one_is_mod]; omega
  rcases this with h | h <;> rw [h] <;> rfl
end Go.Proofs.Ytmbbebfpjclghaa

/- Lists in the abstract memory: made, written, cleared. -/
import Derived.Test.YtofjnhdgkhfgnaaDoorMy
set_option linter.unusedVariables false
set_option linter.unnecessarySimpa false
namespace Go.Proofs.YtofjnhdgkhfgnaaDoor
open Go Go.RowKit

theorem ext_box_write (S : St) (b : Blk) (c : List Value) (t : TypeId) (z : Nat) : Ext S ((S.alloc b).write S.next c t z []) := Fr.ext ((Fr.alloc S _ (Nat.le_refl _)).trans (Fr.write _ _ _ _ (Nat.le_refl _) (by simp)))
theorem xbin_shr1 (n : Int) (h : 0 ≤ n) : xbin .shr (.int .u64 n) (.int .u64 1) = some (.int .u64 (n / 2)) := by
  simp only [xbin, xbinI]
  rw [if_neg (by omega)]
  congr 2
  rw [show (2 : Int) ^ min (Int.toNat 1) IntKind.u64.bits = 2 by decide, Int.fdiv_eq_ediv_of_nonneg _ (by omega)]
theorem cviv_u64 (n : Int) (h : 0 ≤ n) (h' : n ≤ 9223372036854775807) : cviv .u64 (.int .i64 n) = some (.int .u64 n) := by
  simp only [cviv]
  congr 2
  rw [IntKind.wrap_u64]
  omega
theorem cviv_i64 (n : Int) (h : 0 ≤ n) (h' : n ≤ 9223372036854775807) : cviv .i64 (.int .u64 n) = some (.int .i64 n) := by
  have := w64_ok (n := n) (by omega) h'
  unfold w64 at this
  simp only [cviv, this]

instance : Enc Int := ⟨1, fun n => [.int .i64 n], fun _ => rfl, fun _ => rfl, by decide⟩

section
variable {α : Type} [Enc α]

theorem encs_set (l : List α) (i : Nat) (hi : i < l.length) (a : α) : splice (encs l) (i * Enc.w α) (Enc.e a) = encs (l.set i a) := by
  unfold splice
  rw [Enc.len, encs_take, show i * Enc.w α + Enc.w α = (i + 1) * Enc.w α by rw [Nat.add_mul, Nat.one_mul], encs_drop, List.set_eq_take_append_cons_drop, if_pos hi]
  simp

theorem RdS.one (S : St) (a : α) (t : TypeId) : RdS (S.alloc (.cells (Enc.e a) t (Enc.w α) true [])) (.slice (some ⟨S.next, 0, none⟩) 1 1) [a] :=
  .inr ⟨S.next, 0, 1, _, t, true, [], rfl, Nat.le_refl _, by simp, by rw [get_alloc_self], by simp [Enc.len], by simp [← Enc.len a]⟩
theorem Own.made (S : St) (l : List α) (t : TypeId) (b : Nat) (hb : b ≤ S.next) (n : Nat) (hn : n = l.length) (c : List Value) (hc : c = encs l) : Own (S.alloc (.cells c t (Enc.w α) true [])) b (.slice (some ⟨S.next, 0, none⟩) n n) l := by
  subst hn hc
  exact .inr ⟨S.next, t, [], rfl, by rw [get_alloc_self], hb, by simp, by simp⟩

/-- an element is written. -/
theorem Own.store {S : St} {b : Nat} {v : Value} {l : List α} (h : Own S b v l) (i : Nat) (hi : i < l.length) (a : α) :
    ∃ id o c t z an, iav (Enc.w α) v (.int .i64 i) = some (.pointer (some ⟨id, o, none⟩)) ∧ stv (Enc.w α) (Enc.e a) o (S.get id) = some (c, t, z, an) ∧ Own (S.write id c t z an) b v (l.set i a) ∧ Fr b S (S.write id c t z an) := by
  rcases h with ⟨rfl, rfl⟩ | ⟨id, t, an, rfl, h1, h2, h3, h4⟩
  · exact absurd hi (by simp)
  · have hm : i * Enc.w α + Enc.w α ≤ l.length * Enc.w α := by
      have := Nat.mul_le_mul_right (Enc.w α) (show i + 1 ≤ l.length by omega)
      rw [Nat.add_mul] at this; omega
    refine ⟨id, 0 + i * Enc.w α, encs (l.set i a), t, Enc.w α, an, ?_, ?_, ?_, Fr.write S _ _ _ h2 h4⟩
    · simp only [iav]
      rw [if_pos ⟨by omega, by omega⟩]
      simp
    · rw [h1, stv_cells, if_pos ⟨Enc.len a, by rw [encs_length]; omega⟩, Nat.zero_add, encs_set l i hi a]
    · exact .inr ⟨id, t, [], by simp, by rw [St.get_write, if_pos rfl], h2, by simpa using h3, by simp⟩

theorem rep_encs (z : α) (n : Nat) : rep n (Enc.e z) = encs (List.replicate n z) := by
  induction n with
  | zero => rfl
  | succ n ih =>
    unfold rep at *
    rw [List.replicate_succ, List.flatten_cons, ih, List.replicate_succ, encs_cons]

/-- what stands from a place on is cleared. -/
theorem Own.clear {S : St} {b : Nat} {v : Value} {l : List α} (h : Own S b v l) (i : Nat) (hi : i ≤ l.length) (z : α) :
    ∃ u S', slv S (Enc.w α) v (some (.int .i64 i)) none = some u ∧ xclr (Enc.w α) (Enc.e z) u S = some (.tuple #[], S') ∧ Own S' b v (l.take i ++ List.replicate (l.length - i) z) ∧ Fr b S S' := by
  have hb0 : bound (some (.int .i64 (i : Int))) 0 = some i := by simp [bound]
  have hb1 : ∀ n, bound none n = some n := fun n => rfl
  rcases h with ⟨rfl, rfl⟩ | ⟨id, t, an, rfl, h1, h2, h3, h4⟩
  · obtain rfl : i = 0 := by simpa using hi
    refine ⟨_, S, by simp only [slv, hb0, hb1]; rfl, by simp only [xclr], .inl ⟨rfl, by simp⟩, Fr.refl _ _⟩
  · refine ⟨.slice (some ⟨id, 0 + i * Enc.w α, none⟩) (l.length - i) (l.length - i), ?_⟩
    have e1 : slv S (Enc.w α) (.slice (some ⟨id, 0, none⟩) l.length l.length) (some (.int .i64 i)) none = some (.slice (some ⟨id, 0 + i * Enc.w α, none⟩) (l.length - i) (l.length - i)) := by
      simp only [slv, hb0, hb1]
      rw [if_pos ⟨hi, Nat.le_refl _⟩, h1, Blk.width_cells, if_pos (slFit_self _ _)]
    rw [e1]
    by_cases hn : l.length - i = 0
    · refine ⟨S, rfl, by simp only [xclr, hn, if_true], ?_, Fr.refl _ _⟩
      rw [hn, List.replicate_zero, List.append_nil, List.take_of_length_le (by omega)]
      exact .inr ⟨id, t, an, rfl, h1, h2, h3, h4⟩
    · have hm : i * Enc.w α + (l.length - i) * Enc.w α = l.length * Enc.w α := by
        rw [← Nat.add_mul]; congr 1; omega
      refine ⟨S.write id (encs (l.take i ++ List.replicate (l.length - i) z)) t (Enc.w α) an, rfl, ?_, ?_, Fr.write S _ _ _ h2 h4⟩
      · simp only [xclr]
        rw [if_neg hn]
        simp only [h1]
        rw [if_pos ⟨Enc.len z, by rw [encs_length]; omega, Enc.flat z⟩]
        congr 3
        unfold splice
        rw [Nat.zero_add, encs_take, rep_encs, encs_append, List.drop_of_length_le (by rw [encs_length, encs_length, List.length_replicate]; omega), List.append_nil]
      · exact .inr ⟨id, t, [], by simp; omega, by rw [St.get_write, if_pos rfl], h2, by simpa using h3, by simp⟩
end
end Go.Proofs.YtofjnhdgkhfgnaaDoor

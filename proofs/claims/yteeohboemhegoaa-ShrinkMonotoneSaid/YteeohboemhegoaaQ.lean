/- The walk of the law ShrinkMonotone. -/
import Derived.Test.YteeohboemhegoaaN
namespace Go.Proofs.Yteeohboemhegoaa
open Go Go.RowKit

def subI : List Int → Nat → List Int
  | [], _ => []
  | a :: r, b => (if b % 2 = 1 then [a] else []) ++ subI r (b / 2)

theorem subI_sub : ∀ (l : List Int) (b : Nat), (subI l b).Sublist l := by
  intro l
  induction l with
  | nil => intro b; exact List.Sublist.refl _
  | cons a r ih =>
    intro b
    rw [subI]
    by_cases h : b % 2 = 1
    · rw [if_pos h]; exact (ih _).cons_cons a
    · rw [if_neg h]; exact (ih _).cons a

theorem subI_proper : ∀ (l : List Int) (b : Nat), b + 1 < 2 ^ l.length → ∃ i, i < l.length ∧ (subI l b).Sublist (Shr.rmv l i (i + 1)) := by
  intro l
  induction l with
  | nil => intro b h; simp at h
  | cons a r ih =>
    intro b h
    rw [subI]
    by_cases hb : b % 2 = 1
    · rw [if_pos hb]
      have hp : 2 ^ (a :: r).length = 2 * 2 ^ r.length := by rw [List.length_cons, Nat.pow_succ, Nat.mul_comm]
      obtain ⟨i, hi, hs⟩ := ih (b / 2) (by omega)
      refine ⟨i + 1, by simpa using hi, ?_⟩
      exact hs.cons_cons a
    · rw [if_neg hb]
      exact ⟨0, by simp, subI_sub r _⟩

theorem has_mono {y z : List Int} (h : y.Sublist z) (n : Int) (hy : has y n = true) : has z n = true := by
  obtain ⟨a, ha, e⟩ := List.any_eq_true.1 hy
  exact List.any_eq_true.2 ⟨a, h.mem ha, e⟩
theorem subset_mono {y z s : List Int} (h : y.Sublist z) (hy : subsetB s y = true) : subsetB s z = true := by
  unfold subsetB at *
  rw [List.all_eq_true] at *
  exact fun a ha => has_mono h a (hy a ha)
theorem sum_mono {y z : List Int} (h : y.Sublist z) : sum10 y ≤ sum10 z := by
  induction h with
  | slnil => exact Int.le_refl _
  | cons a _ ih =>
    have := around_lt a 10 (by decide)
    simp only [sum10, List.map_cons, List.sum_cons] at *
    omega
  | cons_cons a _ ih =>
    simp only [sum10, List.map_cons, List.sum_cons] at *
    omega
theorem rises_mono {y z : List Int} (h : y.Sublist z) (d : Int) (hy : risesB y d = true) : risesB z d = true := by
  unfold risesB at *
  rw [Bool.not_eq_true', decide_eq_false_iff_not] at *
  exact fun hz => hy (List.Pairwise.sublist h hz)
theorem holds_mono {c : Cond} (hk : around c.kind 6 < 3) {y z : List Int} (h : y.Sublist z) (hy : holdsB c y = true) : holdsB c z = true := by
  have h0 := around_lt c.kind 6 (by decide)
  unfold holdsB at *
  by_cases e0 : around c.kind 6 = 0
  · rw [if_pos e0] at *; exact subset_mono h hy
  · rw [if_neg e0] at *
    by_cases e1 : around c.kind 6 = 1
    · rw [if_pos e1] at *
      have := sum_mono h
      simp only [decide_eq_true_eq] at *
      omega
    · rw [if_neg e1] at *
      have e2 : around c.kind 6 = 2 := by omega
      rw [if_pos e2] at *
      exact rises_mono h _ hy

theorem sub_not {c : Cond} (hk : around c.kind 6 < 3) {x : List Int} (hm : minimalB c x = true) (b : Nat) (hb : b + 1 < 2 ^ x.length) : holdsB c (subI x b) = false := by
  obtain ⟨i, hi, hs⟩ := subI_proper x b hb
  unfold minimalB at hm
  rw [Bool.and_eq_true, Shr.scanB_iff] at hm
  have h1 := hm.2 i hi
  cases e : holdsB c (subI x b) with
  | false => rfl
  | true => rw [holds_mono hk hs e] at h1; cases h1

set_option maxHeartbeats 800000 in
theorem sub_any (v : Value) (l : List Int) (b0 : Nat) (w : World) (h : Rd w v (ints l)) (hb : l.length ≤ 100000) (hb0 : b0 ≤ 1000000) :
    Calls Try.prog 16 #[v, .int .i64 b0] w fun e w' => ∃ v', e = .returned v' ∧ Own w' w.heap.size 3 v' (ints (subI l b0)) ∧ Below w.heap.size w w' := by
  obtain ⟨i0, hi0, hz0, hz1, hz2⟩ := info_parts Try.infoInt
  obtain ⟨a, cap, rfl, hlc, hcm, _, hc⟩ := h.int
  unfold maxLen at hcm
  have HC := hid hc
  clear hc h
  go_enter Try.func16, Try.ntmps16
  go_wp2
  go_loopw [1, 5, 6] (fun x o i wr => ∃ (k b : Nat) (y : List Int), k ≤ l.length ∧ i = .int .i64 k ∧ x = .int .i64 b ∧ b ≤ 1000000 ∧ Own wr w.heap.size 3 o (ints y) ∧ y.length ≤ k ∧ Hid (y ++ subI (l.drop k) b = subI l b0) ∧ Below w.heap.size w wr) (fun _ _ i _ => l.length - (intOf i).toNat)
  case atStart => exact ⟨0, b0, [], Nat.zero_le _, rfl, rfl, hb0, Own.nil _ _ _, by simp, hid rfl, Below.refl _ _⟩
  case round =>
    obtain ⟨k, b, y, hk, rfl, rfl, hb1, hown, hyl, hh, hbel⟩ := hrel
    by_cases hlt : k < l.length
    · obtain ⟨bb, off, rfl, hcell0⟩ := HC.out k hlt
      have hcell := (hbel.cell (p := ⟨bb, off + k, none⟩) (lt_of_cell hcell0)).trans hcell0
      have hst := hh.out
      rw [List.drop_eq_getElem_cons hlt, subI] at hst
      have hsz := hbel.size
      have hyl2 : (ints y).length ≤ 100000 := by rw [ints_length]; omega
      by_cases e : b % 2 = 1
      · have e1 : (((b : Int) % 2) == 1) = true := by simp; omega
        rw [if_pos e, ← List.append_assoc] at hst
        have HS := hid hst
        clear hst e
        go_wp2_with (at_builtin; refine wpList_push rfl _ _ 22 rfl w.heap.size 3 i0 (.int .i64 0) 8 Try.underlying22 hi0 hz0 hz1 hz2 rfl _ (ints y) rfl hown (.int .i64 l[k]) rfl rfl (by omega) (by omega) hsz ?_; intro v' w2 hown' _ hbel')
        go_roundw
        case rel => exact ⟨k + 1, b / 2, y ++ [l[k]], by omega, by go_num, by go_num, by omega, by simpa [ints] using hown', by simp; omega, hid HS.out, hbel.trans hbel'⟩
        case measure => simp [intOf]; omega
      · have e1 : (((b : Int) % 2) == 1) = false := by simp; omega
        rw [if_neg e, List.nil_append] at hst
        have HS := hid hst
        clear hst e
        go_wp2
        go_roundw
        case rel => exact ⟨k + 1, b / 2, y, by omega, by go_num, by go_num, by omega, hown, by omega, hid HS.out, hbel⟩
        case measure => simp [intOf]; omega
    · have hst := hh.out
      rw [List.drop_of_length_le (by omega), subI, List.append_nil] at hst
      have HS := hid hst
      clear hst
      go_wp2
      go_ret
      exact ⟨_, rfl, by rw [← HS.out]; exact hown, hbel⟩
end Go.Proofs.Yteeohboemhegoaa

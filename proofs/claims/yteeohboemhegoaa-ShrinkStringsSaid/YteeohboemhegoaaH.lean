/- Walks: parts of lists. -/
import Derived.Test.YteeohboemhegoaaG
namespace Go.Proofs.Yteeohboemhegoaa
open Go Go.RowKit

def partB (l of_ : List Int) : Bool := l.isSublist of_

theorem part_done (l of_ : List Int) (at_ i : Nat) (h : (l.drop at_).isSublist (of_.drop i) = partB l of_) (hat : at_ ≤ l.length) (hi : ¬ (i < of_.length ∧ at_ < l.length)) :
    ((at_ : Int) == (l.length : Int)) = partB l of_ := by
  rw [← h]
  by_cases e : at_ = l.length
  · subst e; simp [List.isSublist]
  · have e1 : at_ < l.length := by omega
    have e2 : of_.drop i = [] := List.drop_of_length_le (by omega)
    rw [e2]
    obtain ⟨x, r, hr⟩ : ∃ x r, l.drop at_ = x :: r := by
      cases hd : l.drop at_ with
      | nil => simp at hd; omega
      | cons x r => exact ⟨x, r, rfl⟩
    rw [hr]
    simp [List.isSublist]; omega

theorem part_eq (l of_ : List Int) (at_ i : Nat) (hat : at_ < l.length) (hi : i < of_.length) (e : (of_[i] == l[at_]) = true) (h : (l.drop at_).isSublist (of_.drop i) = partB l of_) :
    (l.drop (at_ + 1)).isSublist (of_.drop (i + 1)) = partB l of_ := by
  rw [← h, List.drop_eq_getElem_cons hat, List.drop_eq_getElem_cons hi, List.isSublist, if_pos (by simp at e; simp [e])]
theorem part_ne (l of_ : List Int) (at_ i : Nat) (hat : at_ < l.length) (hi : i < of_.length) (e : (of_[i] == l[at_]) = false) (h : (l.drop at_).isSublist (of_.drop i) = partB l of_) :
    (l.drop at_).isSublist (of_.drop (i + 1)) = partB l of_ := by
  rw [← h]
  conv => rhs; rw [List.drop_eq_getElem_cons hat, List.drop_eq_getElem_cons hi, List.isSublist, if_neg (by simp at e; simp; exact fun h => e h.symm)]
  rw [← List.drop_eq_getElem_cons hat]

theorem partB_iff (l of_ : List Int) : partB l of_ = true ↔ l.Sublist of_ := List.isSublist_iff_sublist

set_option maxHeartbeats 800000 in
theorem part_any (u v : Value) (x y : List Int) (w : World) (hx : Rd w u (ints x)) (hy : Rd w v (ints y)) :
    Calls Try.prog 13 #[u, v] w fun e w' => e = .returned (.bool (partB x y)) ∧ ∃ n, w' = w.drewN n := by
  obtain ⟨a, cap, rfl, hlc, hcm, _, hc⟩ := hx.int
  obtain ⟨b, cap', rfl, hlc', hcm', _, hc'⟩ := hy.int
  clear hx hy
  unfold maxLen at hcm hcm'
  have HC := hid hc; clear hc
  have HC' := hid hc'; clear hc'
  go_enter Try.func13, Try.ntmps13
  go_wp2
  go_loopw [5, 6] (fun s i wr => ∃ (m k nq : Nat), m ≤ x.length ∧ k ≤ y.length ∧ s = .int .i64 m ∧ i = .int .i64 k ∧ Hid ((x.drop m).isSublist (y.drop k) = partB x y) ∧ wr = w.drewN nq) (fun _ i _ => y.length - (intOf i).toNat)
  case atStart => exact ⟨0, 0, 0, Nat.zero_le _, Nat.zero_le _, rfl, rfl, hid rfl, rfl⟩
  case round =>
    obtain ⟨m, k, nq, hm, hk, rfl, rfl, hh, rfl⟩ := hrel
    by_cases hlt : k < y.length
    · have hd1 : decide ((k : Int) < (y.length : Int)) = true := by simp; omega
      by_cases hlm : m < x.length
      · have hd2 : decide ((m : Int) < (x.length : Int)) = true := by simp; omega
        obtain ⟨b1, off1, rfl, hcell1⟩ := HC.out m hlm
        obtain ⟨b2, off2, rfl, hcell2⟩ := HC'.out k hlt
        go_wp2
        go_quiet (fail)
        go_wp2
        · have e : (y[k] == x[m]) = true := by assumption
          go_roundw
          case rel => exact ⟨m + 1, k + 1, _, by omega, by omega, by go_num, by go_num, hid (part_eq x y m k hlm hlt e hh.out), rfl⟩
          case measure => simp [intOf]; omega
        · have e : (y[k] == x[m]) = false := by assumption
          go_roundw
          case rel => exact ⟨m, k + 1, _, by omega, by omega, by go_num, by go_num, hid (part_ne x y m k hlm hlt e hh.out), rfl⟩
          case measure => simp [intOf]; omega
      · have hd2 : decide ((m : Int) < (x.length : Int)) = false := by simp; omega
        go_wp2
        go_ret
        exact ⟨ret_bool (part_done x y m k hh.out hm (by omega)), nq, rfl⟩
    · have hd1 : decide ((k : Int) < (y.length : Int)) = false := by simp; omega
      go_wp2
      go_ret
      exact ⟨ret_bool (part_done x y m k hh.out hm (by omega)), nq, rfl⟩

set_option maxHeartbeats 800000 in
theorem refWithout_any (v : Value) (xs : List Int) (i : Nat) (w : World) (h : Rd w v (ints xs)) (hi : i < xs.length) (hb : xs.length * 8 ≤ 140737488351232) :
    Calls Try.prog 27 #[v, .int .i64 i] w fun e w' => ∃ v', e = .returned v' ∧ Own w' w.heap.size 3 v' (ints (Shr.rmv xs i (i + 1))) ∧ Below w.heap.size w w' := by
  obtain ⟨i0, hi0, hz0, hz1, hz2⟩ := info_parts Try.infoInt
  obtain ⟨a, cap, rfl, hlc, hcm, _, _⟩ := h.int
  unfold maxLen at hcm
  have hR1 : RdN w (.slice a i cap) 1 i (ints (xs.take i)) := by rw [← ints_take]; exact Rd.take (n := xs.length) h i (by simp; omega)
  have hR2 := Rd.piece (n := xs.length) h (i + 1) xs.length (by omega) (by simp)
  rw [ints_take, ints_drop, List.take_length] at hR2
  have hl1 : (xs.take i).length = i := by simp; omega
  have H1 := hid hR1
  have H2 := hid (fun W (hb : Below w.heap.size w W) => hR2.below hb)
  have HL := hid hl1
  clear h hR1 hR2 hl1
  have hic : (i : Int) ≤ cap := by omega
  have hic2 : (i : Int) + 1 ≤ xs.length := by omega
  go_enter Try.func27, Try.ntmps27
  go_wp2_with (first
    | (at_builtin; refine wpList_app rfl (.tmp 6) (.tmp 9) 22 rfl w.heap.size 3 i0 (.int .i64 0) 8 Try.underlying22 hi0 hz0 hz1 hz2 rfl _ [] rfl (Own.nil _ _ _) _ i (ints (xs.take i)) rfl H1.out (oneCell_ints _) (by simp; omega) (by simp; omega) (Nat.le_refl _) ?_; intro v1 w1 hown1 _ hbel1; rw [List.nil_append] at hown1)
    | (at_builtin; refine wpList_app rfl (.tmp 11) (.tmp 15) 22 rfl w.heap.size 3 i0 (.int .i64 0) 8 Try.underlying22 hi0 hz0 hz1 hz2 rfl _ (ints (xs.take i)) rfl hown1 _ (xs.length - (i + 1)) (ints (xs.drop (i + 1))) rfl (H2.out _ hbel1) (oneCell_ints _) (by rw [ints_length, HL.out]; omega) (by rw [ints_length, HL.out]; omega) hbel1.size ?_; intro v2 w2 hown2 _ hbel2; rw [ints_append] at hown2))
  all_goals (go_ret; exact ⟨_, rfl, hown2, hbel1.trans hbel2⟩)
end Go.Proofs.Yteeohboemhegoaa

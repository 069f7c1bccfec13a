/- Walks of the conditions on lists. -/
import Derived.Test.YteeohboemhegoaaC
namespace Go.Proofs.Yteeohboemhegoaa
open Go Go.RowKit

def subsetB (s l : List Int) : Bool := s.all fun x => has l x

theorem subset_step {s l : List Int} {k : Nat} (hk : k < s.length) (h : subsetB (s.take k) l = true) (e : has l s[k] = true) : subsetB (s.take (k + 1)) l = true := by
  unfold subsetB at *
  rw [List.take_succ_eq_append_getElem hk, List.all_append, h]
  simp [e]
theorem subset_hit {s l : List Int} {k : Nat} (hk : k < s.length) (e : has l s[k] = false) : subsetB s l = false := by
  unfold subsetB
  rw [List.all_eq_false]
  exact ⟨s[k], List.getElem_mem hk, by simp [e]⟩

set_option maxHeartbeats 400000 in
theorem subset_any (u v : Value) (s l : List Int) (w : World) (hs : Rd w u (ints s)) (h : Rd w v (ints l)) :
    Calls Try.prog 23 #[u, v] w fun e w' => e = .returned (.bool (subsetB s l)) ∧ w = w' := by
  obtain ⟨a, cap, rfl, hlc, hcm, _, hc⟩ := hs.int
  clear hs
  unfold maxLen at hcm
  have HC := hid hc; clear hc
  have HH := hid (fun n => has_any v l n w h)
  clear h
  go_enter Try.func23, Try.ntmps23
  go_wp2
  go_loop [5] (fun i => ∃ k : Nat, k ≤ s.length ∧ i = .int .i64 k ∧ Hid (subsetB (s.take k) l = true)) (fun i => s.length - (intOf i).toNat)
  case atStart => exact ⟨0, Nat.zero_le _, rfl, hid rfl⟩
  case round =>
    obtain ⟨k, hk, rfl, hh⟩ := hrel
    by_cases hlt : k < s.length
    · obtain ⟨b, off, rfl, hcell⟩ := HC.out k hlt
      by_cases e : has l s[k] = true
      · have HE := hid e
        have HH2 := HH.out s[k]
        rw [e] at HH2
        have HH3 := hid HH2
        clear HH2 e
        go_wp2_with (go_at_call 30; refine HH3.out.mono ?_; rintro e w' ⟨rfl, rfl⟩)
        go_round
        case rel => exact ⟨k + 1, by omega, by go_num, hid (subset_step hlt hh.out HE.out)⟩
        case measure => simp [intOf]; omega
      · have e : has l s[k] = false := by simpa using e
        have HE := hid e
        have HH2 := HH.out s[k]
        rw [e] at HH2
        have HH3 := hid HH2
        clear HH2 e
        go_wp2_with (go_at_call 30; refine HH3.out.mono ?_; rintro e w' ⟨rfl, rfl⟩)
        go_ret
        exact ⟨ret_bool (subset_hit hlt HE.out).symm, rfl⟩
    · go_wp2
      go_ret
      exact ⟨ret_bool (by rw [← hh.out, List.take_of_length_le (by omega)]), rfl⟩

def sum10 (l : List Int) : Int := (l.map (around · 10)).sum
theorem sum10_step {l : List Int} {k : Nat} (hk : k < l.length) : sum10 (l.take (k + 1)) = sum10 (l.take k) + around l[k] 10 := by
  unfold sum10
  rw [List.take_succ_eq_append_getElem hk, List.map_append, List.sum_append]
  simp
theorem sum10_le (l : List Int) : 0 ≤ sum10 l ∧ sum10 l ≤ 9 * l.length := by
  induction l with
  | nil => simp [sum10]
  | cons a l ih =>
    have := around_lt a 10 (by decide)
    simp only [sum10, List.map_cons, List.sum_cons, List.length_cons] at *
    omega

/-- every number of a list fits. -/
def Fit (l : List Int) : Prop := ∀ i (h : i < l.length), -9223372036854775808 ≤ l[i] ∧ l[i] ≤ 9223372036854775807

set_option maxHeartbeats 400000 in
theorem sum_any (v : Value) (l : List Int) (w : World) (h : Rd w v (ints l)) (hf : Fit l) (hb : l.length ≤ 1000000) :
    Calls Try.prog 24 #[v] w fun e w' => e = .returned (.int .i64 (sum10 l)) ∧ w = w' := by
  obtain ⟨a, cap, rfl, hlc, hcm, _, hc⟩ := h.int
  clear h
  unfold maxLen at hcm
  have HC := hid hc; clear hc
  have HF := hid hf; clear hf
  go_enter Try.func24, Try.ntmps24
  go_wp2
  go_loop [3, 4] (fun n i => ∃ k : Nat, k ≤ l.length ∧ i = .int .i64 k ∧ n = .int .i64 (sum10 (l.take k))) (fun _ i => l.length - (intOf i).toNat)
  case atStart => exact ⟨0, Nat.zero_le _, rfl, rfl⟩
  case round =>
    obtain ⟨k, hk, rfl, rfl⟩ := hrel
    by_cases hlt : k < l.length
    · obtain ⟨b, off, rfl, hcell⟩ := HC.out k hlt
      have hs := sum10_le (l.take k)
      have hl : (l.take k).length ≤ k := List.length_take_le _ _
      have ha := around_lt l[k] 10 (by decide)
      have HS := hid (sum10_step hlt)
      obtain ⟨q1, q2⟩ := HF.out k hlt
      go_wp2_with (go_at_call 15; refine (around_any _ _ _ q1 q2 (by decide) (by decide)).mono ?_; rintro e w' ⟨rfl, rfl⟩)
      go_round
      case rel => exact ⟨k + 1, by omega, by go_num, by rw [HS.out]⟩
      case measure => simp [intOf]; omega
    · go_wp2
      go_ret
      exact ⟨ret_int (by rw [List.take_of_length_le (by omega)]), rfl⟩
end Go.Proofs.Yteeohboemhegoaa

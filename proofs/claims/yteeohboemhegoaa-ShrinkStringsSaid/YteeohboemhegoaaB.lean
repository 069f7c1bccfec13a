/- Walks of the functions that make slices. -/
import Derived.Test.YteeohboemhegoaaA
namespace Go.Proofs.Yteeohboemhegoaa
open Go Go.RowKit

theorem Try.infoInt : (Try.prog.info? 3).map (fun i => (i.zero, i.size, i.bytes)) = some (some (.int .i64 0), 1, 8) := by kernel_rfl


theorem oneCell_ints (l : List Int) : ∀ y ∈ ints l, y.oneCell' = true := ints_oneCell .i64 l

set_option maxHeartbeats 400000 in
theorem ints_any (v : Value) (l : List Int) (m : Int) (w : World) (h : Rd w v (ints l)) (hm : 0 ≤ m) (hm2 : m ≤ 9223372036854775807) (hb : (l.take m.toNat).length * 8 ≤ 140737488351232) :
    Calls Try.prog 20 #[v, .int .i64 m] w fun e w' => ∃ v', e = .returned v' ∧ Own w' w.heap.size 3 v' (ints (l.take m.toNat)) ∧ Below w.heap.size w w' := by
  obtain ⟨a, cap, rfl, hlc, hcm, hnone, hc⟩ := h.int
  have hT : ∀ k, k ≤ l.length → RdN w (.slice a k cap) 1 k (ints (l.take k)) := fun k hk => by rw [← ints_take]; exact h.take k (by simpa using hk)
  clear h hc hnone
  unfold maxLen at hcm
  obtain ⟨i0, hi, hz0, hz1, hz2⟩ := info_parts Try.infoInt
  rw [List.length_take] at hb
  by_cases hml : m < (l.length : Int)
  · have hmn : m.toNat < l.length := by omega
    have hmc : m ≤ (cap : Int) := by omega
    have HR := hid (hT m.toNat (by omega))
    clear hT
    go_enter Try.func20, Try.ntmps20
    go_wp2_with (first | (at_builtin; refine wpList_app rfl _ _ 22 rfl w.heap.size 3 i0 (.int .i64 0) 8 Try.underlying22 hi hz0 hz1 hz2 rfl _ [] rfl (Own.nil _ _ _) _ m.toNat (ints (l.take m.toNat)) rfl HR.out (oneCell_ints _) (by simp; omega) (by simp; omega) (Nat.le_refl _) ?_; intro v' w1 hown _ hbel))
    go_ret
    exact ⟨_, rfl, hown, hbel⟩
  · have e : l.take m.toNat = l := List.take_of_length_le (by omega)
    rw [e]
    have HR := hid (hT l.length (by omega))
    clear hT
    rw [List.take_length] at HR
    have hml' : (l.length : Int) ≤ m := by omega
    go_enter Try.func20, Try.ntmps20
    go_wp2_with (first | (at_builtin; refine wpList_app rfl _ _ 22 rfl w.heap.size 3 i0 (.int .i64 0) 8 Try.underlying22 hi hz0 hz1 hz2 rfl _ [] rfl (Own.nil _ _ _) _ l.length (ints l) rfl HR.out (oneCell_ints _) (by simp; omega) (by simp; omega) (Nat.le_refl _) ?_; intro v' w1 hown _ hbel))
    go_ret
    exact ⟨_, rfl, hown, hbel⟩
end Go.Proofs.Yteeohboemhegoaa

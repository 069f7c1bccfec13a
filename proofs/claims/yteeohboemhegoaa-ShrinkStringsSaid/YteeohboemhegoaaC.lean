/- Walks of Clone and without. -/
import Derived.Test.YteeohboemhegoaaB
import Derived.Test.YteeohboemhegoaaShrPlain
import Derived.Deep.RegionLaw
namespace Go.Proofs.Yteeohboemhegoaa
open Go Go.RowKit

set_option maxHeartbeats 400000 in
theorem clone_any (v : Value) (xs : List Value) (w : World) (h : Rd w v xs) (h1 : ∀ y ∈ xs, y.oneCell' = true) (hb : xs.length * 8 ≤ 140737488351232) :
    Calls Try.prog 21 #[v] w fun e w' => ∃ v', e = .returned v' ∧ Own w' w.heap.size 3 v' xs ∧ Below w.heap.size w w' := by
  obtain ⟨i0, hi, hz0, hz1, hz2⟩ := info_parts Try.infoInt
  obtain ⟨a, cap, rfl, hlc, hcm, hnone, hc⟩ := id h
  clear hc
  unfold maxLen at hcm
  have HR := hid h.toN
  clear h
  have q22 : ∀ (w : World) (a : Option Addr) (n c n' c' : Nat), (binOp .eql 22 (.slice a n c) (.slice none n' c')).run Try.prog w = .ok (.bool a.isNone) w := fun w a n c n' c' => Lib.run_eql_slice_nil w _ _ a n c n' c' Try.underlying22
  cases a with
  | none =>
    have hcap : cap = 0 := hnone rfl
    have e : xs = [] := List.eq_nil_of_length_eq_zero (by omega)
    subst e
    clear hnone hlc hcap
    go_enter Try.func21, Try.ntmps21
    go_wp2_with fail
    go_ret
    exact ⟨_, rfl, Own.nil _ _ _, Below.refl _ _⟩
  | some ad =>
    clear hnone
    go_enter Try.func21, Try.ntmps21
    go_wp2_with (first | (at_builtin; refine wpList_app rfl _ _ 22 rfl w.heap.size 3 i0 (.int .i64 0) 8 Try.underlying22 hi hz0 hz1 hz2 rfl _ [] rfl (Own.made0 _ _) _ xs.length xs rfl (HR.out.alloc _) h1 (by simp; omega) (by simp; omega) (by simp) ?_; intro v' w1 hown _ hbel))
    go_ret
    exact ⟨_, rfl, hown, ((Below.refl _ _).alloc (Nat.le_refl _) _).trans hbel⟩

/-- a piece of what is read. -/
theorem Rd.piece {w : World} {a : Option Addr} {n cap : Nat} {xs : List Value} (h : Rd w (.slice a n cap) xs) (lo hi : Nat) (h1 : lo ≤ hi) (h2 : hi ≤ xs.length) :
    RdN w (.slice (if cap = lo then a else a.map (·.add lo)) (hi - lo) (cap - lo)) 1 (hi - lo) ((xs.take hi).drop lo) := by
  obtain ⟨a', cap', e, q2, q3, q4, q5⟩ := h
  simp only [Value.slice.injEq] at e
  obtain ⟨rfl, rfl, rfl⟩ := e
  refine ⟨by simp; omega, _, _, rfl, by omega, by omega, ?_, fun i hi' => ?_⟩
  · intro e
    by_cases hc : cap = lo
    · omega
    · rw [if_neg hc] at e
      have : a = none := by cases a <;> simp_all
      have := q4 this
      omega
  · have hi2 : i < hi - lo := by simp at hi'; omega
    obtain ⟨b, off, e1, e2⟩ := q5 (lo + i) (by omega)
    subst e1
    rw [if_neg (by omega)]
    refine ⟨b, off + lo, by simp [Addr.add_lit], ?_⟩
    rw [Nat.add_assoc, e2]
    simp

set_option maxHeartbeats 800000 in
theorem without_any (v : Value) (xs : List Value) (i j : Nat) (w : World) (h : Rd w v xs) (hij : i ≤ j) (hj : j ≤ xs.length) (h1 : ∀ y ∈ xs, y.oneCell' = true) (hb : xs.length * 8 ≤ 140737488351232) :
    Calls Try.prog 22 #[v, .int .i64 i, .int .i64 j] w fun e w' => ∃ v', e = .returned v' ∧ Own w' w.heap.size 3 v' (Shr.rmv xs i j) ∧ Below w.heap.size w w' := by
  obtain ⟨i0, hi, hz0, hz1, hz2⟩ := info_parts Try.infoInt
  obtain ⟨a, cap, rfl, hlc, hcm, hnone, hc⟩ := id h
  clear hc hnone
  unfold maxLen at hcm
  have hR1 : RdN w (.slice a i cap) 1 i (xs.take i) := h.take i (by omega)
  have hR2 := h.piece j xs.length (by omega) (by omega)
  rw [List.take_length] at hR2
  have hic : i ≤ cap := by omega
  have hm1 : ∀ y ∈ xs.take i, y.oneCell' = true := fun y hy => h1 y (List.mem_of_mem_take hy)
  have hm2 : ∀ y ∈ xs.drop j, y.oneCell' = true := fun y hy => h1 y (List.mem_of_mem_drop hy)
  have hl1 : (xs.take i).length = i := by simp; omega
  have HC := hid (clone_any (.slice a i cap) (xs.take i) w.drew hR1.rd.drew hm1 (by omega))
  have HA := hid (fun W (hb : Below w.heap.size w W) => hR2.below hb)
  have H2 := hid hm2
  have HL := hid hl1
  clear h hR1 hR2 h1 hm1 hm2 hl1
  go_enter Try.func22, Try.ntmps22
  go_wp2_with fail
  go_region_law (first
    | (refine step_app rfl _ _ 22 rfl w.heap.size 3 i0 (.int .i64 0) 8 Try.underlying22 hi hz0 hz1 hz2 rfl _ (xs.take i) rfl (by assumption) _ (xs.length - j) (xs.drop j) rfl (HA.out _ (by assumption)) H2.out (by rw [HL.out]; omega) (by rw [HL.out]; omega) (by have := Below.size (by assumption : Below w.heap.size w _); exact this) ?_; intro v' w1 hown2 _ hbel2)
    | (go_simp; go_at_call 21; refine HC.out.mono ?_; rintro e w1 ⟨v', rfl, hown, hbel⟩; replace hown : Own w1 w.heap.size 3 v' (xs.take i) := hown; replace hbel : Below w.heap.size w w1 := (Below.refl _ _).drew.trans hbel))
  all_goals go_wp2
  all_goals (go_ret; exact ⟨_, rfl, (by assumption), Below.trans (by assumption) (by assumption)⟩)
end Go.Proofs.Yteeohboemhegoaa

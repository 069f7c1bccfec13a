/- Walks of the small functions of package simproofref01. -/
import Derived.Test.YteeohboemhegoaaRows
import Derived.Test.YteeohboemhegoaaLib
import Derived.Deep.QuietTactic
import Derived.BigQuiet
import Derived.RegionTactic
import Derived.Handy
namespace Go.Proofs.Yteeohboemhegoaa
open Go Go.RowKit

def around (n m : Int) : Int := (if n < 0 then -(n + 1) else n) % m

theorem around_lt (n m : Int) (h : 0 < m) : 0 ≤ around n m ∧ around n m < m := ⟨Int.emod_nonneg _ (by omega), Int.emod_lt_of_pos _ h⟩

theorem ret_int {k : IntKind} {a b : Int} (h : a = b) : Ending.returned (.int k a) = .returned (.int k b) := by rw [h]

theorem ret_bool {a b : Bool} (h : a = b) : Ending.returned (.bool a) = .returned (.bool b) := by rw [h]

def I64 (n : Int) : Prop := -9223372036854775808 ≤ n ∧ n ≤ 9223372036854775807

set_option maxHeartbeats 400000 in
theorem around_any (n m : Int) (w : World) (h0 : -9223372036854775808 ≤ n) (h1 : n ≤ 9223372036854775807) (hm : 1 ≤ m) (hm2 : m ≤ 9223372036854775807) :
    Calls Try.prog 15 #[.int .i64 n, .int .i64 m] w fun e w' => e = .returned (.int .i64 (around n m)) ∧ w = w' := by
  by_cases h : n < 0
  · have ha : around n m = (-(n + 1)) % m := by unfold around; rw [if_pos h]
    have HA := hid ha; clear ha
    go_enter Try.func15, Try.ntmps15
    go_wp2
    go_ret
    rw [HA.out]
    exact ⟨ret_int (by rw [← Int.neg_tmod, Int.tmod_eq_emod_of_nonneg (by omega)]), rfl⟩
  · have ha : around n m = n % m := by unfold around; rw [if_neg h]
    have HA := hid ha; clear ha
    go_enter Try.func15, Try.ntmps15
    go_wp2
    go_ret
    rw [HA.out]
    exact ⟨rfl, rfl⟩

/-- two slices of numbers, read as lists. -/
def ints (l : List Int) : List Value := l.map (Value.int .i64)
@[simp] theorem ints_length (l : List Int) : (ints l).length = l.length := by simp [ints]
theorem ints_take (l : List Int) (k : Nat) : (ints l).take k = ints (l.take k) := by simp [ints]
theorem ints_drop (l : List Int) (k : Nat) : (ints l).drop k = ints (l.drop k) := by simp [ints]
theorem ints_append (l r : List Int) : ints l ++ ints r = ints (l ++ r) := by simp [ints]
theorem ints_inj {l r : List Int} (h : ints l = ints r) : l = r := by
  induction l generalizing r with
  | nil => cases r with
    | nil => rfl
    | cons b r => simp [ints] at h
  | cons a l ih => cases r with
    | nil => simp [ints] at h
    | cons b r =>
      simp only [ints, List.map_cons, List.cons.injEq, Value.int.injEq, true_and] at h
      rw [h.1, ih h.2]

theorem Rd.int {w : World} {v : Value} {l : List Int} (h : Rd w v (ints l)) :
    ∃ a cap, v = .slice a l.length cap ∧ l.length ≤ cap ∧ cap ≤ maxLen ∧ (a = none → cap = 0) ∧
      ∀ i (h : i < l.length), ∃ b off, a = some ⟨b, off, none⟩ ∧ w.cell? ⟨b, off + i, none⟩ = some (.int .i64 l[i]) := by
  obtain ⟨a, cap, h1, h2, h3, h4, h5⟩ := h
  simp only [ints_length] at h1 h2 h5
  exact ⟨a, cap, h1, h2, h3, h4, fun i hi => by obtain ⟨b, off, e, hc⟩ := h5 i hi; exact ⟨b, off, e, by simpa [ints] using hc⟩⟩

def has (l : List Int) (n : Int) : Bool := l.any (· == n)

theorem has_hit {l : List Int} {n : Int} {k : Nat} (hk : k < l.length) (e : (l[k] == n) = true) : has l n = true :=
  List.any_eq_true.2 ⟨l[k], List.getElem_mem hk, e⟩
theorem has_step {l : List Int} {n : Int} {k : Nat} (hk : k < l.length) (e : (l[k] == n) = false) (h : has (l.take k) n = false) : has (l.take (k + 1)) n = false := by
  unfold has at *
  rw [List.take_succ_eq_append_getElem hk, List.any_append, h]
  simp [e]

set_option maxHeartbeats 400000 in
theorem has_any (v : Value) (l : List Int) (n : Int) (w : World) (h : Rd w v (ints l)) :
    Calls Try.prog 30 #[v, .int .i64 n] w fun e w' => e = .returned (.bool (has l n)) ∧ w = w' := by
  obtain ⟨a, cap, rfl, hlc, hcm, _, hc⟩ := h.int
  clear h
  unfold maxLen at hcm
  have HC := hid hc; clear hc
  go_enter Try.func30, Try.ntmps30
  go_wp2
  go_loop [5] (fun i => ∃ k : Nat, k ≤ l.length ∧ i = .int .i64 k ∧ Hid (has (l.take k) n = false)) (fun i => l.length - (intOf i).toNat)
  case atStart => exact ⟨0, Nat.zero_le _, rfl, hid rfl⟩
  case round =>
    obtain ⟨k, hk, rfl, hh⟩ := hrel
    by_cases hlt : k < l.length
    · obtain ⟨b, off, rfl, hcell⟩ := HC.out k hlt
      go_wp2
      · have e : (l[k] == n) = true := by assumption
        go_ret
        exact ⟨ret_bool (has_hit hlt e).symm, rfl⟩
      · have e : (l[k] == n) = false := by assumption
        go_round
        case rel => exact ⟨k + 1, by omega, by go_num, hid (has_step hlt e hh.out)⟩
        case measure => simp [intOf]; omega
    · go_wp2
      go_ret
      exact ⟨ret_bool (by rw [← hh.out, List.take_of_length_le (by omega)]), rfl⟩

/-- two lists of numbers agree. -/
def same (a b : List Int) : Bool := decide (a = b)

theorem same_hit {x y : List Int} {k : Nat} (h1 : k < x.length) (h2 : k < y.length) (e : (x[k] != y[k]) = true) : same x y = false := by
  unfold same
  rw [decide_eq_false_iff_not]
  rintro rfl
  simp at e
theorem same_step {x y : List Int} {k : Nat} (h1 : k < x.length) (h2 : k < y.length) (e : (x[k] != y[k]) = false) (h : x.take k = y.take k) : x.take (k + 1) = y.take (k + 1) := by
  rw [List.take_succ_eq_append_getElem h1, List.take_succ_eq_append_getElem h2, h]
  simp only [bne_eq_false_iff_eq] at e
  rw [e]

set_option maxHeartbeats 400000 in
theorem sameInts_any (u v : Value) (x y : List Int) (w : World) (hx : Rd w u (ints x)) (hy : Rd w v (ints y)) :
    Calls Try.prog 11 #[u, v] w fun e w' => e = .returned (.bool (same x y)) ∧ ∃ n, w' = w.drewN n := by
  obtain ⟨a, cap, rfl, hlc, hcm, _, hc⟩ := hx.int
  obtain ⟨b, cap', rfl, hlc', hcm', _, hc'⟩ := hy.int
  clear hx hy
  unfold maxLen at hcm hcm'
  have HC := hid hc; clear hc
  have HC' := hid hc'; clear hc'
  by_cases hl : x.length = y.length
  · have hb : ((x.length : Int) != (y.length : Int)) = false := by simp [hl]
    have HL := hid hl; clear hl
    have hle : x.length ≤ y.length := Nat.le_of_eq HL.out
    go_enter Try.func11, Try.ntmps11
    go_wp2
    go_loopw [5] (fun i wr => ∃ (k nq : Nat), k ≤ x.length ∧ i = .int .i64 k ∧ Hid (x.take k = y.take k) ∧ wr = w.drewN nq) (fun i _ => x.length - (intOf i).toNat)
    case atStart => exact ⟨0, 0, Nat.zero_le _, rfl, hid rfl, rfl⟩
    case round =>
      obtain ⟨k, nq, hk, rfl, hh, rfl⟩ := hrel
      by_cases hlt : k < x.length
      · obtain ⟨b1, off1, rfl, hcell1⟩ := HC.out k hlt
        obtain ⟨b2, off2, rfl, hcell2⟩ := HC'.out k (by omega)
        have hly : k < y.length := by omega
        go_wp2
        go_quiet (fail)
        go_wp2
        · have e : (x[k] != y[k]) = true := by assumption
          go_ret
          exact ⟨ret_bool (same_hit hlt hly e).symm, _, World.drewN_drewN _ _ _⟩
        · have e : (x[k] != y[k]) = false := by assumption
          go_roundw
          case rel => exact ⟨k + 1, _, by omega, by go_num, hid (same_step hlt hly e hh.out), rfl⟩
          case measure => simp [intOf]; omega
      · go_wp2
        go_ret
        exact ⟨ret_bool (by unfold same; rw [eq_comm, decide_eq_true_eq]; have := hh.out; rwa [List.take_of_length_le (by omega), List.take_of_length_le (by have := HL.out; omega)] at this), nq, rfl⟩
  · have hb : ((x.length : Int) != (y.length : Int)) = true := by simp; omega
    go_enter Try.func11, Try.ntmps11
    go_wp2
    go_ret
    exact ⟨ret_bool (by unfold same; rw [eq_comm, decide_eq_false_iff_not]; rintro rfl; exact hl rfl), 0, rfl⟩
end Go.Proofs.Yteeohboemhegoaa

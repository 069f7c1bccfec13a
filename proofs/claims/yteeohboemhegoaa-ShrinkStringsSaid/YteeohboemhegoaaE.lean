/- Walks: rises, the hash. -/
import Derived.Test.YteeohboemhegoaaD
namespace Go.Proofs.Yteeohboemhegoaa
open Go Go.RowKit

/-- no later number is greater by at least 'by'. -/
def risesB (l : List Int) (d : Int) : Bool := !decide (l.Pairwise fun a b => around b 10 < around a 10 + d)

theorem rises_of {l : List Int} {d : Int} {i k : Nat} (hik : i < k) (hk : k < l.length) (h : around l[i] 10 + d ≤ around l[k] 10) : risesB l d = true := by
  unfold risesB
  rw [Bool.not_eq_true', decide_eq_false_iff_not]
  intro hp
  have := List.pairwise_iff_getElem.1 hp i k (by omega) hk hik
  omega
theorem rises_not {l : List Int} {d : Int} (h : ∀ i k (hik : i < k) (hk : k < l.length), around l[k] 10 < around (l[i]'(by omega)) 10 + d) : risesB l d = false := by
  unfold risesB
  rw [Bool.not_eq_false', decide_eq_true_eq]
  exact List.pairwise_iff_getElem.2 fun i k h1 h2 h3 => h i k h3 h2

set_option maxHeartbeats 800000 in
theorem rises_any (v : Value) (l : List Int) (d : Int) (w : World) (h : Rd w v (ints l)) (hf : Fit l) (hd : 0 ≤ d) (hd2 : d ≤ 1000) :
    Calls Try.prog 25 #[v, .int .i64 d] w fun e w' => e = .returned (.bool (risesB l d)) ∧ ∃ n, w' = w.drewN n := by
  obtain ⟨a, cap, rfl, hlc, hcm, _, hc⟩ := h.int
  clear h
  unfold maxLen at hcm
  have HC := hid hc; clear hc
  have HF := hid hf; clear hf
  go_enter Try.func25, Try.ntmps25
  go_wp2
  go_loopw [5] (fun i wr => ∃ (k nq : Nat), k ≤ l.length ∧ i = .int .i64 k ∧ Hid (∀ x y (_ : x < k) (_ : x < y) (hy : y < l.length), around l[y] 10 < around (l[x]'(by omega)) 10 + d) ∧ wr = w.drewN nq) (fun i _ => l.length - (intOf i).toNat)
  case atStart => exact ⟨0, 0, Nat.zero_le _, rfl, hid (fun x y hx _ _ => by omega), rfl⟩
  case round =>
    obtain ⟨k, nq, hk, rfl, hh, rfl⟩ := hrel
    by_cases hlt : k < l.length
    · obtain ⟨b1, off1, rfl, hcell1⟩ := HC.out k hlt
      go_wp2
      go_loopw [6] (fun i wr => ∃ (m nr : Nat), k < m ∧ m ≤ l.length ∧ i = .int .i64 m ∧ Hid (∀ y (_ : k < y) (_ : y < m) (hy : y < l.length), around l[y] 10 < around (l[k]'(by omega)) 10 + d) ∧ wr = w.drewN nr) (fun i _ => l.length - (intOf i).toNat)
      case atStart => exact ⟨k + 1, nq, by omega, by omega, by go_num, hid (fun y _ _ _ => by omega), rfl⟩
      case round =>
        obtain ⟨m, nr, hkm, hm, rfl, hh2, hw⟩ := hrel
        by_cases hlm : m < l.length
        · obtain ⟨b2, off2, e2, hcell2⟩ := HC.out m hlm
          simp only [Option.some.injEq, Addr.mk.injEq, and_true] at e2
          obtain ⟨rfl, rfl⟩ := e2
          have a1 := around_lt l[k] 10 (by decide)
          have a2 := around_lt l[m] 10 (by decide)
          obtain ⟨q1, q2⟩ := HF.out k hlt
          obtain ⟨q3, q4⟩ := HF.out m hlm
          rename_i wr
          replace hcell1 : wr.cell? ⟨b1, off1 + k, none⟩ = some (.int .i64 l[k]) := by rw [hw]; exact hcell1
          replace hcell2 : wr.cell? ⟨b1, off1 + m, none⟩ = some (.int .i64 l[m]) := by rw [hw]; exact hcell2
          have HW := hid hw; clear hw
          go_wp2
          go_quiet ((go_at_call 15; exact Calls.quiet_of_same ((around_any _ _ _ (by assumption) (by assumption) (by decide) (by decide)).mono fun e w' h => ⟨h.1, h.2.symm⟩)))
          go_wp2
          · have e : around l[k] 10 + d ≤ around l[m] 10 := by assumption
            go_ret
            exact ⟨ret_bool (rises_of hkm hlm e).symm, _, by rw [HW.out]; exact World.drewN_drewN _ _ _⟩
          · have e : around l[m] 10 < around l[k] 10 + d := by assumption
            go_roundw
            case rel => exact ⟨m + 1, _, by omega, by omega, by go_num, hid (fun y h1 h2 h3 => by
              by_cases e2 : y = m
              · subst e2; exact e
              · exact hh2.out y h1 (by omega) h3), by rw [HW.out]; exact World.drewN_drewN _ _ _⟩
            case measure => simp [intOf]; omega
        · subst hw
          go_wp2
          go_roundw
          case rel => exact ⟨k + 1, _, by omega, by go_num, hid (fun x y h1 h2 h3 => by
              by_cases e2 : x = k
              · subst e2; exact hh2.out y h2 (by omega) h3
              · exact hh.out x y (by omega) h2 h3), rfl⟩
          case measure => simp [intOf]; omega
    · go_wp2
      go_ret
      exact ⟨ret_bool (rises_not (fun i k' h1 h2 => hh.out i k' (by omega) h1 h2)).symm, _, rfl⟩

def mixI (s x : Int) : Int :=
  bits BinOp.xor IntKind.u64 (IntKind.u64.wrap (bits BinOp.xor IntKind.u64 s x * 11400714819323198485))
    (IntKind.u64.wrap ((IntKind.u64.wrap (bits BinOp.xor IntKind.u64 s x * 11400714819323198485)).tdiv 4294967296))

theorem mix_any (s x : Int) (w : World) :
    Calls Try.prog 32 #[.int .u64 s, .int .u64 x] w fun e w' => e = .returned (.int .u64 (mixI s x)) ∧ w = w' := by
  go_enter Try.func32, Try.ntmps32
  go_wp2
  go_ret
  exact ⟨rfl, rfl⟩

def bytesV (l : List Int) : List Value := l.map (Value.int .u8)
@[simp] theorem bytesV_length (l : List Int) : (bytesV l).length = l.length := by simp [bytesV]
def u64s (l : List Int) : List Value := l.map (Value.int .u64)
@[simp] theorem u64s_length (l : List Int) : (u64s l).length = l.length := by simp [u64s]

/-- the word made of n bytes downwards from place hi. -/
def wordTo (b : List Int) (hi : Nat) : Nat → Int
  | 0 => 0
  | n + 1 => IntKind.u64.wrap (IntKind.u64.wrap (256 * wordTo b hi n) + b.getD (hi - 1 - n) 0)
def wordAt (b : List Int) (q : Nat) : Int := wordTo b (min (8 * q + 8) b.length) (min (8 * q + 8) b.length - 8 * q)
def wordsI (b : List Int) (n : Nat) : List Int := (List.range n).map (wordAt b)
theorem wordsI_step (b : List Int) (n : Nat) : wordsI b (n + 1) = wordsI b n ++ [wordAt b n] := by simp [wordsI, List.range_succ]

theorem Rd.bytes {w : World} {v : Value} {l : List Int} (h : Rd w v (bytesV l)) :
    ∃ a cap, v = .slice a l.length cap ∧ l.length ≤ cap ∧ cap ≤ maxLen ∧ (a = none → cap = 0) ∧
      ∀ i (_ : i < l.length), ∃ b off, a = some ⟨b, off, none⟩ ∧ w.cell? ⟨b, off + i, none⟩ = some (.int .u8 (l.getD i 0)) := by
  obtain ⟨a, cap, h1, h2, h3, h4, h5⟩ := h
  simp only [bytesV_length] at h1 h2 h5
  exact ⟨a, cap, h1, h2, h3, h4, fun i hi => by obtain ⟨b, off, e, hc⟩ := h5 i hi; exact ⟨b, off, e, by simpa [bytesV, List.getD, hi] using hc⟩⟩

theorem Try.infoU64 : (Try.prog.info? 49).map (fun i => (i.zero, i.size, i.bytes)) = some (some (.int .u64 0), 1, 8) := by kernel_rfl

set_option maxHeartbeats 800000 in
theorem words_any (v : Value) (l : List Int) (w : World) (h : Rd w v (bytesV l)) (hb : l.length ≤ 1000000) (h8 : ∀ i (_ : i < l.length), 0 ≤ l.getD i 0 ∧ l.getD i 0 ≤ 255) :
    Calls Try.prog 31 #[v] w fun e w' => ∃ v', e = .returned v' ∧ Own w' w.heap.size 49 v' (u64s (wordsI l ((l.length + 7) / 8))) ∧ Below w.heap.size w w' := by
  obtain ⟨a, cap, rfl, hlc, hcm, _, hc⟩ := h.bytes
  clear h
  unfold maxLen at hcm
  have HC := hid hc; clear hc
  have H8 := hid h8; clear h8
  obtain ⟨i0, hi, hz0, hz1, hz2⟩ := info_parts Try.infoU64
  go_enter Try.func31, Try.ntmps31
  go_wp2
  go_loopw [3, 4] (fun o i wr => ∃ k : Nat, k ≤ (l.length + 7) / 8 ∧ i = .int .i64 ((8 * k : Nat) : Int) ∧ Own wr w.heap.size 49 o (u64s (wordsI l k)) ∧ Below w.heap.size w wr) (fun _ i _ => l.length + 8 - (intOf i).toNat)
  case atStart => exact ⟨0, Nat.zero_le _, rfl, Own.nil _ _ _, Below.refl _ _⟩
  case round =>
    obtain ⟨k, hk, rfl, hown, hbel⟩ := hrel
    by_cases hlt : 8 * k < l.length
    · obtain ⟨hi8, hhi⟩ : ∃ hi8 : Nat, hi8 = min (8 * k + 8) l.length := ⟨_, rfl⟩
      have HHI := hid hhi
      have g1 : hi8 ≤ l.length := by omega
      have g2 : hi8 ≤ 8 * k + 8 := by omega
      have g3 : 8 * k < hi8 := by omega
      by_cases hc8 : 8 * k + 8 ≤ l.length
      · have e8 : (8 * (k : Int) + 8 - 1) = (hi8 : Int) - 1 - (0 : Nat) := by omega
        have E8 := hid e8
        clear hhi e8
        go_wp2
        go_loop [5, 6] (fun x y => ∃ n : Nat, n ≤ hi8 - 8 * k ∧ x = .int .u64 (wordTo l hi8 n) ∧ y = .int .i64 ((hi8 : Int) - 1 - n)) (fun _ y => (intOf y + 1 - 8 * k).toNat)
        case atStart => exact ⟨0, Nat.zero_le _, rfl, by have := E8.out; go_num⟩
        case round =>
          obtain ⟨n, hn, rfl, rfl⟩ := hrel
          by_cases hne : n < hi8 - 8 * k
          · obtain ⟨b, off, rfl, hcell0⟩ := HC.out (hi8 - 1 - n) (by omega)
            have hcell : wr.cell? ⟨b, off + (hi8 - 1 - n), none⟩ = some (.int .u8 (l.getD (hi8 - 1 - n) 0)) := (hbel.cell (p := ⟨b, _, none⟩) (lt_of_cell hcell0)).trans hcell0
            clear hcell0
            obtain ⟨z1, z2⟩ := H8.out (hi8 - 1 - n) (by omega)
            obtain ⟨z, hz⟩ : ∃ z, z = l.getD (hi8 - 1 - n) 0 := ⟨_, rfl⟩
            rw [← hz] at hcell z1 z2
            have HZ := hid hz; clear hz
            obtain ⟨j, hj⟩ : ∃ j, j = hi8 - 1 - n := ⟨_, rfl⟩
            rw [← hj] at hcell
            have hj2 : (hi8 : Int) - 1 - n = j := by omega
            rw [hj2]
            have HJ := hid hj; clear hj
            have HJ2 := hid hj2; clear hj2
            have hjl : j < l.length := by have := HJ.out; omega
            have hjk : 8 * k ≤ j := by have := HJ.out; omega
            go_wp2
            go_round
            case rel => exact ⟨n + 1, by omega, by rw [wordTo, ← HZ.out], by have := HJ2.out; go_num⟩
            case measure => have := HJ2.out; simp [intOf]; omega
          · have en : n = hi8 - 8 * k := by omega
            have EN := hid en; clear en
            have hwk := wordsI_step l k
            have hwv : wordAt l k = wordTo l hi8 n := by unfold wordAt; rw [EN.out, ← HHI.out]
            rw [hwv] at hwk
            have HWK := hid hwk; clear hwk hwv
            have hwl : (wordsI l k).length = k := by simp [wordsI]
            have HWL := hid hwl; clear hwl
            have hsz := hbel.size
            go_wp2_with (at_builtin; refine wpList_push rfl _ _ 53 rfl w.heap.size 49 i0 (.int .u64 0) 8 Try.underlying53 hi hz0 hz1 hz2 rfl _ (u64s (wordsI l k)) rfl hown (.int .u64 (wordTo l hi8 n)) rfl rfl (by rw [u64s_length, HWL.out]; omega) (by rw [u64s_length, HWL.out]; omega) hsz ?_; intro v' w1 hown' _ hbel')
            go_roundw
            case rel => exact ⟨k + 1, by omega, by go_num, by rw [HWK.out]; simpa [u64s] using hown', hbel.trans hbel'⟩
            case measure => simp [intOf]; omega
      · have e8 : ((l.length : Int) - 1) = (hi8 : Int) - 1 - (0 : Nat) := by omega
        have E8 := hid e8
        clear hhi e8
        go_wp2
        go_loop [5, 6] (fun x y => ∃ n : Nat, n ≤ hi8 - 8 * k ∧ x = .int .u64 (wordTo l hi8 n) ∧ y = .int .i64 ((hi8 : Int) - 1 - n)) (fun _ y => (intOf y + 1 - 8 * k).toNat)
        case atStart => exact ⟨0, Nat.zero_le _, rfl, by have := E8.out; go_num⟩
        case round =>
          obtain ⟨n, hn, rfl, rfl⟩ := hrel
          by_cases hne : n < hi8 - 8 * k
          · obtain ⟨b, off, rfl, hcell0⟩ := HC.out (hi8 - 1 - n) (by omega)
            have hcell : wr.cell? ⟨b, off + (hi8 - 1 - n), none⟩ = some (.int .u8 (l.getD (hi8 - 1 - n) 0)) := (hbel.cell (p := ⟨b, _, none⟩) (lt_of_cell hcell0)).trans hcell0
            clear hcell0
            obtain ⟨z1, z2⟩ := H8.out (hi8 - 1 - n) (by omega)
            obtain ⟨z, hz⟩ : ∃ z, z = l.getD (hi8 - 1 - n) 0 := ⟨_, rfl⟩
            rw [← hz] at hcell z1 z2
            have HZ := hid hz; clear hz
            obtain ⟨j, hj⟩ : ∃ j, j = hi8 - 1 - n := ⟨_, rfl⟩
            rw [← hj] at hcell
            have hj2 : (hi8 : Int) - 1 - n = j := by omega
            rw [hj2]
            have HJ := hid hj; clear hj
            have HJ2 := hid hj2; clear hj2
            have hjl : j < l.length := by have := HJ.out; omega
            have hjk : 8 * k ≤ j := by have := HJ.out; omega
            go_wp2
            go_round
            case rel => exact ⟨n + 1, by omega, by rw [wordTo, ← HZ.out], by have := HJ2.out; go_num⟩
            case measure => have := HJ2.out; simp [intOf]; omega
          · have en : n = hi8 - 8 * k := by omega
            have EN := hid en; clear en
            have hwk := wordsI_step l k
            have hwv : wordAt l k = wordTo l hi8 n := by unfold wordAt; rw [EN.out, ← HHI.out]
            rw [hwv] at hwk
            have HWK := hid hwk; clear hwk hwv
            have hwl : (wordsI l k).length = k := by simp [wordsI]
            have HWL := hid hwl; clear hwl
            have hsz := hbel.size
            go_wp2_with (at_builtin; refine wpList_push rfl _ _ 53 rfl w.heap.size 49 i0 (.int .u64 0) 8 Try.underlying53 hi hz0 hz1 hz2 rfl _ (u64s (wordsI l k)) rfl hown (.int .u64 (wordTo l hi8 n)) rfl rfl (by rw [u64s_length, HWL.out]; omega) (by rw [u64s_length, HWL.out]; omega) hsz ?_; intro v' w1 hown' _ hbel')
            go_roundw
            case rel => exact ⟨k + 1, by omega, by go_num, by rw [HWK.out]; simpa [u64s] using hown', hbel.trans hbel'⟩
            case measure => simp [intOf]; omega
    · have hkk : k = (l.length + 7) / 8 := by omega
      go_wp2
      go_ret
      exact ⟨_, rfl, by rw [← hkk]; exact hown, hbel⟩
end Go.Proofs.Yteeohboemhegoaa

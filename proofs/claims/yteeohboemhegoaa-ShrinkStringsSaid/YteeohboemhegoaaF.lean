/- Walks: the hash of a list. -/
import Derived.Test.YteeohboemhegoaaE
namespace Go.Proofs.Yteeohboemhegoaa
open Go Go.RowKit

def bytesOf (s : ByteArray) : List Int := s.data.toList.map fun b => (b.toNat : Int)
@[simp] theorem bytesOf_length (s : ByteArray) : (bytesOf s).length = s.size := by simp [bytesOf]

theorem conv_bytes (w : World) (s : ByteArray) (hs : s.size ≤ maxLen) :
    ∃ v' w1, (convert 9 55 (.string s)).run Try.prog w = .ok v' w1 ∧ Rd w1 v' (bytesV (bytesOf s)) ∧ Below w.heap.size w w1 := by
  refine ⟨_, _, run_bytes_of_string w 9 55 5 s Try.underlying9 Try.underlying55 Try.underlying5, ?_, ((Below.refl _ _).drew).alloc (Nat.le_refl _) _⟩
  refine ⟨some ⟨w.heap.size, 0, none⟩, grownCap w s.size 0 5, by simp, by simpa using grownCap_ge w s.size 0 _, grownCap_le_maxLen w s.size 0 _ hs, by simp, fun i hi => ⟨w.heap.size, 0, rfl, ?_⟩⟩
  have hi' : i < s.data.size := by simp at hi; exact hi
  rw [Nat.zero_add]
  have h1 := World.cell?_alloc_mark w.drew (bytesRow s (grownCap w s.size 0 5)) 5 ((bytesRow s (grownCap w s.size 0 5)).size, (bytesRow s (grownCap w s.size 0 5)).size + 1) i
  refine h1.trans ?_
  rw [bytesRow_at s _ i hi']
  simp [bytesV, bytesOf]

theorem Rd.u64 {w : World} {v : Value} {l : List Int} (h : Rd w v (u64s l)) :
    ∃ a cap, v = .slice a l.length cap ∧ l.length ≤ cap ∧ cap ≤ maxLen ∧ (a = none → cap = 0) ∧
      ∀ i (_ : i < l.length), ∃ b off, a = some ⟨b, off, none⟩ ∧ w.cell? ⟨b, off + i, none⟩ = some (.int .u64 (l.getD i 0)) := by
  obtain ⟨a, cap, h1, h2, h3, h4, h5⟩ := h
  simp only [u64s_length] at h1 h2 h5
  exact ⟨a, cap, h1, h2, h3, h4, fun i hi => by obtain ⟨b, off, e, hc⟩ := h5 i hi; exact ⟨b, off, e, by simpa [u64s, List.getD, hi] using hc⟩⟩

def hsum (s : ByteArray) (l : List Int) : Int :=
  mixI (l.foldl (fun x n => mixI x (IntKind.u64.wrap n)) (mixI (mixI ((wordsI (bytesOf s) (((bytesOf s).length + 7) / 8)).foldl mixI 0) s.size) l.length)) 0

theorem ret_u64 {a b : Int} (h : a = b) : Ending.returned (.int .u64 a) = .returned (.int .u64 b) := by rw [h]
theorem foldl_step {α : Type} (f : Int → α → Int) (a : Int) (l : List α) (k : Nat) (h : k < l.length) : (l.take (k + 1)).foldl f a = f ((l.take k).foldl f a) l[k] := by
  rw [List.take_succ_eq_append_getElem h, List.foldl_append]; rfl

set_option maxHeartbeats 800000 in
theorem sum_hash_any (s : ByteArray) (v : Value) (l : List Int) (w : World) (h : Rd w v (ints l)) (hf : Fit l) (hb : l.length ≤ 1000000) (hs : s.size ≤ 100000) :
    Calls Try.prog 26 #[.string s, v] w fun e w' => e = .returned (.int .u64 (hsum s l)) ∧ Below w.heap.size w w' := by
  obtain ⟨v1, w1, hcv, hrd, hbel1⟩ := conv_bytes w s (by unfold maxLen; omega)
  have h8 : ∀ i (_ : i < (bytesOf s).length), 0 ≤ (bytesOf s).getD i 0 ∧ (bytesOf s).getD i 0 ≤ 255 := by
    intro i hi
    have hi' : i < s.data.size := by simp at hi; exact hi
    have := UInt8.toNat_lt (s.data[i])
    have e : (bytesOf s).getD i 0 = (s.data[i].toNat : Int) := by
      rw [List.getD_eq_getElem?_getD, List.getElem?_eq_getElem hi]
      simp [bytesOf]
    rw [e]
    omega
  have hw := words_any v1 (bytesOf s) w1 hrd (by simp; omega) h8
  obtain ⟨ws, hws⟩ : ∃ ws, ws = wordsI (bytesOf s) (((bytesOf s).length + 7) / 8) := ⟨_, rfl⟩
  rw [← hws] at hw
  have hwl : ws.length ≤ 200000 := by rw [hws]; simp [wordsI]; omega
  have HWS := hid hws
  have HW := hid hw
  have HR := hid (fun W (hb : Below w.heap.size w W) => h.below hb)
  obtain ⟨a, cap, rfl, hlc, hcm, _, hc⟩ := h.int
  unfold maxLen at hcm
  have HC := hid hc
  have HF := hid hf
  clear h hrd h8 hw hws hc hf
  go_enter Try.func26, Try.ntmps26
  go_wp2_with (go_at_call 31; refine HW.out.mono ?_; rintro e w2 ⟨v2, rfl, hown, hbel2⟩)
  obtain ⟨a2, cap2, rfl, hlc2, hcm2, _, hc2⟩ := hown.rd.u64
  unfold maxLen at hcm2
  have HC2 := hid hc2
  clear hown hc2
  go_loop [5, 7] (fun x i => ∃ k : Nat, k ≤ ws.length ∧ i = .int .i64 k ∧ x = .int .u64 ((ws.take k).foldl mixI 0)) (fun _ i => ws.length - (intOf i).toNat)
  case atStart => exact ⟨0, Nat.zero_le _, rfl, rfl⟩
  case round =>
    obtain ⟨k, hk, rfl, rfl⟩ := hrel
    by_cases hlt : k < ws.length
    · obtain ⟨b1, off1, rfl, hcell⟩ := HC2.out k hlt
      have hst := foldl_step mixI 0 ws k hlt
      rw [show ws[k] = ws.getD k 0 by simp [List.getD, hlt]] at hst
      have HS := hid hst; clear hst
      go_wp2_with (go_at_call 32; refine (mix_any _ _ _).mono ?_; rintro e w' ⟨rfl, rfl⟩)
      go_round
      case rel => exact ⟨k + 1, by omega, by go_num, by rw [HS.out]; simp [hlt]⟩
      case measure => simp [intOf]; omega
    · have e1 : k = ws.length := by omega
      subst e1
      rw [List.take_length]
      go_wp2_with (go_at_call 32; refine (mix_any _ _ _).mono ?_; rintro e w' ⟨rfl, rfl⟩)
      generalize hx0 : mixI (mixI (ws.foldl mixI 0) s.size) l.length = x0
      have HX := hid hx0; clear hx0
      go_loop [5, 8] (fun x i => ∃ k : Nat, k ≤ l.length ∧ i = .int .i64 k ∧ x = .int .u64 ((l.take k).foldl (fun x n => mixI x (IntKind.u64.wrap n)) x0)) (fun _ i => l.length - (intOf i).toNat)
      case atStart => exact ⟨0, Nat.zero_le _, rfl, rfl⟩
      case round =>
        obtain ⟨k, hk, rfl, rfl⟩ := hrel
        by_cases hlt : k < l.length
        · obtain ⟨b1, off1, rfl, hcell0⟩ := HC.out k hlt
          have hcell : w2.cell? ⟨b1, off1 + k, none⟩ = some (.int .i64 l[k]) := by
            have hb := hbel1.trans (hbel2.mono hbel1.size)
            exact (hb.cell (p := ⟨b1, _, none⟩) (lt_of_cell hcell0)).trans hcell0
          clear hcell0
          have HS := hid (foldl_step (fun x n => mixI x (IntKind.u64.wrap n)) x0 l k hlt)
          go_wp2_with (go_at_call 32; refine (mix_any _ _ _).mono ?_; rintro e w' ⟨rfl, rfl⟩)
          go_round
          case rel => exact ⟨k + 1, by omega, by go_num, by rw [HS.out]⟩
          case measure => simp [intOf]; omega
        · have e2 : k = l.length := by omega
          subst e2
          rw [List.take_length]
          go_wp2_with (go_at_call 32; refine (mix_any _ _ _).mono ?_; rintro e w' ⟨rfl, rfl⟩)
          go_ret
          exact ⟨ret_u64 (by unfold hsum; rw [← HWS.out, HX.out]), hbel1.trans (hbel2.mono hbel1.size)⟩
end Go.Proofs.Yteeohboemhegoaa

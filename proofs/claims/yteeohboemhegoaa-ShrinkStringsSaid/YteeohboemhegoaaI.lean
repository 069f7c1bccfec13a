/- Walks: minimal lists, sublists by bits. -/
import Derived.Test.YteeohboemhegoaaH
import Derived.Deep.RegionWith
namespace Go.Proofs.Yteeohboemhegoaa
open Go Go.RowKit

def minimalB (c : Cond) (l : List Int) : Bool := holdsB c l && Shr.scanB (holdsB c) l l.length

theorem rmv_fit {l : List Int} (h : Fit l) (i j : Nat) : Fit (Shr.rmv l i j) := by
  have h' : ∀ x ∈ l, -9223372036854775808 ≤ x ∧ x ≤ 9223372036854775807 := fun x hx => by
    obtain ⟨k, hk, e⟩ := List.mem_iff_getElem.1 hx
    rw [← e]; exact h k hk
  intro k hk
  have hm : (Shr.rmv l i j)[k] ∈ Shr.rmv l i j := List.getElem_mem hk
  generalize (Shr.rmv l i j)[k] = y at *
  unfold Shr.rmv at hm
  rw [List.mem_append] at hm
  rcases hm with hm | hm
  · exact h' _ (List.mem_of_mem_take hm)
  · exact h' _ (List.mem_of_mem_drop hm)

theorem rmv_len (l : List Int) (i : Nat) (h : i < l.length) : (Shr.rmv l i (i + 1)).length = l.length - 1 := by
  have := Shr.rmv_length l i (i + 1) (by omega) (by omega)
  omega

theorem scanB_no {p : List Int → Bool} {l : List Int} {k : Nat} (hk : k < l.length) (h : p (Shr.rmv l k (k + 1)) = true) : Shr.scanB p l l.length = false := by
  rw [← Bool.not_eq_true, Shr.scanB_iff]
  intro hh
  have := hh k hk
  rw [h] at this; cases this

set_option maxHeartbeats 1600000 in
theorem minimal_any (c : Cond) (vs vf v : Value) (l : List Int) (w : World) (hc : CondIn w c vs vf) (h : Rd w v (ints l)) (hf : Fit l) (hb : l.length ≤ 100000) :
    Calls Try.prog 14 #[.agg #[.int .i64 c.kind, vs, .int .i64 c.n, vf], v] w fun e w' => e = .returned (.bool (minimalB c l)) ∧ Below w.heap.size w w' := by
  have hB : Below w.heap.size w (w.alloc (.cells #[.int .i64 c.kind, vs, .int .i64 c.n, vf] 27)) := (Below.refl _ _).alloc (Nat.le_refl _) _
  have hH := fun W (hW : Below w.heap.size w W) => holds_any c vs vf v l W (hc.below hW) (h.below hW) hf hb
  have hH2 := fun v2 i W (hW : Below w.heap.size w W) (hi : i < l.length) (h2 : Rd W v2 (ints (Shr.rmv l i (i + 1)))) =>
    holds_any c vs vf v2 (Shr.rmv l i (i + 1)) W (hc.below hW) h2 (rmv_fit hf _ _) (by rw [rmv_len l i hi]; omega)
  have hWo := fun i W (hW : Below w.heap.size w W) (hi : i < l.length) => refWithout_any v l i W (h.below hW) hi (by omega)
  have HH := hid hH; have HH2 := hid hH2; have HWo := hid hWo
  obtain ⟨a, cap, rfl, hlc, hcm, _, _⟩ := h.int
  unfold maxLen at hcm
  clear hH hH2 hWo h hc hf
  by_cases hl : holdsB c l = true
  · have HL := hid hl
    have h1 := HH.out _ hB
    rw [hl] at h1
    have H1 := hid h1
    clear h1 hl
    go_enter Try.func14, Try.ntmps14
    go_wp2_with (go_at_call 10; refine H1.out.mono ?_; rintro e w1 ⟨rfl, hb1⟩)
    have hbw1 : Below w.heap.size w w1 := hB.trans (hb1.mono (by simp))
    have hcell : ∀ j, w1.cell? ⟨w.heap.size, j, none⟩ = (#[.int .i64 c.kind, vs, .int .i64 c.n, vf] : Array Value)[j]? := fun j => by
      rw [hb1.cell (p := ⟨w.heap.size, j, none⟩) (by simp), World.cell?_alloc_new]
    have hcells : ∀ W, Below w1.heap.size w1 W → W.cell? ⟨w.heap.size, 0, none⟩ = some (.int .i64 c.kind) ∧ W.cell? ⟨w.heap.size, 1, none⟩ = some vs ∧ W.cell? ⟨w.heap.size, 2, none⟩ = some (.int .i64 c.n) ∧ W.cell? ⟨w.heap.size, 3, none⟩ = some vf := fun W hW => by
      have hlt : w.heap.size < w1.heap.size := Nat.lt_of_lt_of_le (by simp) hb1.size
      refine ⟨?_, ?_, ?_, ?_⟩ <;> (rw [hW.cell (by exact hlt), hcell]; rfl)
    have HCE := hid hcells
    have s1 := hbw1.size
    clear hcells hcell hb1 H1
    go_loopw [6] (fun i wr => ∃ k : Nat, k ≤ l.length ∧ i = .int .i64 k ∧ Hid (Shr.scanB (holdsB c) l k = true) ∧ Below w1.heap.size w1 wr) (fun i _ => l.length - (intOf i).toNat)
    case atStart => exact ⟨0, Nat.zero_le _, rfl, hid rfl, Below.refl _ _⟩
    case round =>
      obtain ⟨k, hk, rfl, hh, hb⟩ := hrel
      rename_i wr
      by_cases hlt : k < l.length
      · have hbr : Below w.heap.size w wr := hbw1.trans (hb.mono s1)
        have HWk := hid (HWo.out k wr.drew hbr.drew hlt)
        obtain ⟨c0, c1, c2, c3⟩ := HCE.out wr hb
        by_cases hp : holdsB c (Shr.rmv l k (k + 1)) = true
        · have hH := fun v2 W hW h2 => HH2.out v2 k W hW hlt h2
          rw [hp] at hH
          have HK := hid hH
          have HP := hid hp
          clear hH hp
          go_wp2
          go_region_with (first
            | (go_at_call 27; refine HWk.out.mono ?_; rintro e w2 ⟨v2, rfl, hown2, hb2⟩; have hb2' := hb.drew.trans (hb2.mono hb.size); obtain ⟨c0, c1, c2, c3⟩ := HCE.out w2 hb2')
            | (go_at_call 10; refine (HK.out _ _ (hbw1.trans (hb2'.mono s1)) hown2.rd).mono ?_; rintro e w3 ⟨rfl, hb3⟩; have hb3' := hb2'.trans (hb3.mono hb2'.size)))
          all_goals go_wp2
          all_goals (go_ret; exact ⟨ret_bool (by unfold minimalB; rw [scanB_no hlt HP.out, Bool.and_false]), hbw1.trans (hb3'.mono s1)⟩)
        · have hp : holdsB c (Shr.rmv l k (k + 1)) = false := by simpa using hp
          have hH := fun v2 W hW h2 => HH2.out v2 k W hW hlt h2
          rw [hp] at hH
          have HK := hid hH
          have HP := hid hp
          clear hH hp
          go_wp2
          go_region_with (first
            | (go_at_call 27; refine HWk.out.mono ?_; rintro e w2 ⟨v2, rfl, hown2, hb2⟩; have hb2' := hb.drew.trans (hb2.mono hb.size); obtain ⟨c0, c1, c2, c3⟩ := HCE.out w2 hb2')
            | (go_at_call 10; refine (HK.out _ _ (hbw1.trans (hb2'.mono s1)) hown2.rd).mono ?_; rintro e w3 ⟨rfl, hb3⟩; have hb3' := hb2'.trans (hb3.mono hb2'.size)))
          all_goals go_wp2
          all_goals go_roundw
          all_goals (first
            | (case rel => exact ⟨k + 1, by omega, by go_num, hid (by rw [Shr.scanB, hh.out, HP.out]; rfl), hb3'⟩)
            | (case measure => simp [intOf]; omega))
      · go_wp2
        go_ret
        exact ⟨ret_bool (by unfold minimalB; rw [HL.out, Bool.true_and, ← hh.out, show k = l.length by omega]), hbw1.trans (hb.mono s1)⟩
  · have hl : holdsB c l = false := by simpa using hl
    have HL := hid hl
    have h1 := HH.out _ hB
    rw [hl] at h1
    have H1 := hid h1
    clear h1 hl
    go_enter Try.func14, Try.ntmps14
    go_wp2_with (go_at_call 10; refine H1.out.mono ?_; rintro e w1 ⟨rfl, hb1⟩)
    go_ret
    exact ⟨ret_bool (by unfold minimalB; rw [HL.out, Bool.false_and]), hB.trans (hb1.mono (by simp))⟩
end Go.Proofs.Yteeohboemhegoaa

/- Walks: the section's examples. -/
import Derived.Test.YteeohboemhegoaaL
import Derived.KernelRfl
namespace Go.Proofs.Yteeohboemhegoaa
open Go Go.RowKit

def cA : Cond := { kind := 0, set := [3, 5], n := 0, full := [] }
def lA : List Int := [1, 3, 4, 5, 3]
def cB : Cond := { kind := 3, set := [], n := 0, full := [] }
def lB : List Int := [1, 2]

theorem runA : ((Shr.run (fun y => holdsB cA (toI y)) (ints lA)).1, (Shr.run (fun y => holdsB cA (toI y)) (ints lA)).2) = (ints [5, 3], 6) := by kernel_rfl
theorem runB : ((Shr.run (fun y => holdsB cB (toI y)) (ints lB)).1, (Shr.run (fun y => holdsB cB (toI y)) (ints lB)).2) = (ints [1, 2], 3) := by kernel_rfl

theorem heap_alloc (w : World) (o : Obj) (k : Nat) : (w.alloc o).heap[k]? = if k = w.heap.size then some o else w.heap[k]? := by
  show (w.heap.push o)[k]? = _
  rw [Array.getElem?_push]

theorem heap_at (w : World) (o : Obj) (k : Nat) (h : k = w.heap.size) : (w.alloc o).heap[k]? = some o := by rw [heap_alloc, if_pos h]
theorem heap_lt (w : World) (o : Obj) (k : Nat) (h : k < w.heap.size) : (w.alloc o).heap[k]? = w.heap[k]? := by rw [heap_alloc, if_neg (by omega)]

/-- a block of numbers reads as a list. -/
theorem Rd.block {w : World} {b : Nat} {l : List Int} {t : TypeId} {fz : Nat × Nat} (h : w.heap[b]? = some (.cells (ints l).toArray t fz)) (hl : l.length ≤ 1000) : Rd w (.slice (some ⟨b, 0, none⟩) l.length l.length) (ints l) := by
  refine ⟨_, l.length, by simp, by simp, by unfold maxLen; omega, by simp, fun i hi => ⟨b, 0, rfl, ?_⟩⟩
  simp [World.cell?, h, List.getElem?_eq_getElem hi]

theorem asked6 : askedI 6 = 6 := by kernel_rfl

def livesW (w : World) : World :=
  ((((w.alloc (.cells #[.int .i64 3, .int .i64 5] 3)).alloc (.cells #[.int .i64 1, .int .i64 3, .int .i64 4, .int .i64 5, .int .i64 3] 3)).alloc
    (.cells #[.int .i64 0, .slice (some ⟨w.heap.size, 0, none⟩) 2 2, .int .i64 0, .slice none 0 0, .slice (some ⟨w.heap.size + 1, 0, none⟩) 5 5, .int .i64 0, .bool false] 29)).alloc
    (.cells #[.int .i64 1, .int .i64 2] 3)).alloc
    (.cells #[.int .i64 3, .slice none 0 0, .int .i64 0, .slice none 0 0, .slice (some ⟨w.heap.size + 1 + 1 + 1, 0, none⟩) 2 2, .int .i64 0, .bool false] 29)

theorem livesW_facts (w : World) :
    (livesW w).heap[w.heap.size]? = some (.cells (ints [3, 5]).toArray 3 (0, 0)) ∧
    (livesW w).heap[w.heap.size + 1]? = some (.cells (ints [1, 3, 4, 5, 3]).toArray 3 (0, 0)) ∧
    (livesW w).heap[w.heap.size + 1 + 1]? = some (.cells #[.int .i64 0, .slice (some ⟨w.heap.size, 0, none⟩) 2 2, .int .i64 0, .slice none 0 0, .slice (some ⟨w.heap.size + 1, 0, none⟩) 5 5, .int .i64 0, .bool false] 29 (0, 0)) ∧
    (livesW w).heap[w.heap.size + 1 + 1 + 1]? = some (.cells (ints [1, 2]).toArray 3 (0, 0)) ∧
    (livesW w).heap[w.heap.size + 1 + 1 + 1 + 1]? = some (.cells #[.int .i64 3, .slice none 0 0, .int .i64 0, .slice none 0 0, .slice (some ⟨w.heap.size + 1 + 1 + 1, 0, none⟩) 2 2, .int .i64 0, .bool false] 29 (0, 0)) ∧
    (livesW w).heap.size = w.heap.size + 5 ∧ Below w.heap.size w (livesW w) := by
  unfold livesW
  refine ⟨?_, ?_, ?_, ?_, ?_, by simp, ?_⟩
  · exact (heap_lt _ _ _ (by simp only [World.size_alloc]; omega)).trans ((heap_lt _ _ _ (by simp only [World.size_alloc]; omega)).trans ((heap_lt _ _ _ (by simp only [World.size_alloc]; omega)).trans ((heap_lt _ _ _ (by simp only [World.size_alloc]; omega)).trans (heap_at _ _ _ rfl))))
  · exact (heap_lt _ _ _ (by simp only [World.size_alloc]; omega)).trans ((heap_lt _ _ _ (by simp only [World.size_alloc]; omega)).trans ((heap_lt _ _ _ (by simp only [World.size_alloc]; omega)).trans (heap_at _ _ _ (by simp only [World.size_alloc]))))
  · exact (heap_lt _ _ _ (by simp only [World.size_alloc]; omega)).trans ((heap_lt _ _ _ (by simp only [World.size_alloc]; omega)).trans (heap_at _ _ _ (by simp only [World.size_alloc])))
  · exact (heap_lt _ _ _ (by simp only [World.size_alloc]; omega)).trans (heap_at _ _ _ (by simp only [World.size_alloc]))
  · exact heap_at _ _ _ (by simp only [World.size_alloc])
  · exact (((((Below.refl _ _).alloc (Nat.le_refl _) _).alloc (by simp only [World.size_alloc]; omega) _).alloc (by simp only [World.size_alloc]; omega) _).alloc (by simp only [World.size_alloc]; omega) _).alloc (by simp only [World.size_alloc]; omega) _

set_option maxHeartbeats 1600000 in
theorem lives_any (w : World) :
    Calls Try.prog 12 #[] w fun e w' => e = .returned (.bool true) ∧ Below w.heap.size w w' := by
  have hAA := asks_oracle (w.heap.size + 1 + 1) cA lA lA (List.Sublist.refl _) (by unfold Fit lA; decide) (by decide)
  have hAB := asks_oracle (w.heap.size + 1 + 1 + 1 + 1) cB lB lB (List.Sublist.refl _) (by unfold Fit lB; decide) (by decide)
  have hLA := fun W v hr hi ho => list_any _ _ _ _ (ints lA) 0 v W hAA hr (oneCell_ints _) (by decide) hi ho
  have hLB := fun W v hr hi ho => list_any _ _ _ _ (ints lB) 0 v W hAB hr (oneCell_ints _) (by decide) hi ho
  have eA := Prod.mk.inj runA
  have eB := Prod.mk.inj runB
  rw [eA.1, eA.2] at hLA
  rw [eB.1, eB.2] at hLB
  obtain ⟨h0, h1, h2, h3, h4, h5, h6⟩ := livesW_facts w
  have hr : Rd (livesW w) (.slice (some ⟨w.heap.size + 1, 0, none⟩) 5 5) (ints lA) := Rd.block h1 (by decide)
  have hI : OInv (w.heap.size + 1 + 1) cA lA 0 (livesW w) :=
    ⟨_, _, _, ⟨Rd.block h0 (by decide), Rd.nil _, by decide, by decide, by decide, by decide⟩, hr, ⟨by simp [Value.ownBlock] <;> omega, by simp [Value.ownBlock] <;> omega, by simp [Value.ownBlock] <;> omega⟩, h2⟩
  have HLA := hid (hLA (livesW w) _ hr hI (by omega))
  have HLB := hid hLB
  have H3 := hid h3; have H4 := hid h4; have H6 := hid h6; have H5 := hid h5
  clear hAA hAB hLA hLB eA eB h0 h1 h2 h3 h4 h5 h6 hr hI
  go_enter Try.func12, Try.ntmps12
  go_wp2_with fail
  refine HLA.out.mono ?_
  rintro e w1 ⟨v1, rfl, hr1, hi1, hg1⟩
  have hb1 : Below w.heap.size w w1 := H6.out.trans ⟨hg1.os, hg1.tape, hg1.output, hg1.size, fun k hk => hg1.block k (by have := H5.out; omega) (by simp <;> omega)⟩
  have b3 := (hg1.block (w.heap.size + 1 + 1 + 1) (by have := H5.out; omega) (by simp <;> omega)).trans H3.out
  have b4 := (hg1.block (w.heap.size + 1 + 1 + 1 + 1) (by have := H5.out; omega) (by simp <;> omega)).trans H4.out
  have hr : Rd w1 (.slice (some ⟨w.heap.size + 1 + 1 + 1, 0, none⟩) 2 2) (ints lB) := Rd.block b3 (by decide)
  have hI : OInv (w.heap.size + 1 + 1 + 1 + 1) cB lB 0 w1 :=
    ⟨_, _, _, ⟨Rd.nil _, Rd.nil _, by decide, by decide, by decide, by decide⟩, hr, ⟨by simp [Value.ownBlock] <;> omega, by simp [Value.ownBlock] <;> omega, by simp [Value.ownBlock] <;> omega⟩, b4⟩
  have hs1 := hg1.size
  have HLB2 := hid (HLB.out w1 _ hr hI (by have := H5.out; omega))
  have c4 : w1.cell? ⟨w.heap.size + 1 + 1 + 1 + 1, 4, none⟩ = some (.slice (some ⟨w.heap.size + 1 + 1 + 1, 0, none⟩) 2 2) := by simp [World.cell?, b4]
  have HR1 := hid hr1; have HI1 := hid hi1; have HB1 := hid hb1
  have HS1 : Hid (w.heap.size + 5 ≤ w1.heap.size) := hid (by have := H5.out; omega)
  clear hr1 hi1 hg1 hb1 b3 b4 hr hI hs1
  go_wp2_with fail
  refine HLB2.out.mono ?_
  rintro e w2 ⟨v2, rfl, hr2, hi2, hg2⟩
  have hb2 := HB1.out.trans (show Below w.heap.size w1 w2 from ⟨hg2.os, hg2.tape, hg2.output, hg2.size, fun k hk => hg2.block k (by have := HS1.out; omega) (by simp <;> omega)⟩)
  obtain ⟨vs, vf, vl, _, _, _, hblk⟩ := HI1.out
  have hblk2 := (hg2.block (w.heap.size + 1 + 1) (by have := HS1.out; omega) (by simp <;> omega)).trans hblk
  have c5 : w2.cell? ⟨w.heap.size + 1 + 1, 5, none⟩ = some (.int .i64 6) := by simp [World.cell?, hblk2, asked6]
  have hr1 := HR1.out.rd.gb hg2 (HR1.out.ne (by have := H5.out; omega))
  have e1 := sameInts_any v1 (.slice (some ⟨w2.heap.size, 0, none⟩) 2 2) [5, 3] [3, 5] (w2.alloc (.cells #[.int .i64 3, .int .i64 5] 3)) (hr1.alloc _) (Rd.block (l := [3, 5]) (t := 3) (fz := (0, 0)) (heap_at _ _ _ rfl) (by decide))
  rw [show same [5, 3] [3, 5] = false by decide] at e1
  have e2 := fun n => sameInts_any v1 (.slice (some ⟨w2.heap.size + 1, 0, none⟩) 2 2) [5, 3] [5, 3] (((w2.alloc (.cells #[.int .i64 3, .int .i64 5] 3)).alloc (.cells #[.int .i64 5, .int .i64 3] 3)).drewN n) (((hr1.alloc _).alloc _).drewN n) (Rd.drewN (Rd.block (l := [5, 3]) (t := 3) (fz := (0, 0)) (heap_at _ _ _ (by simp only [World.size_alloc])) (by decide)) n)
  simp only [show same [5, 3] [5, 3] = true by decide] at e2
  have e3 := fun W h1 h2 => sameInts_any v2 (.slice (some ⟨w2.heap.size + 1 + 1, 0, none⟩) 2 2) [1, 2] [1, 2] W h1 h2
  simp only [show same [1, 2] [1, 2] = true by decide] at e3
  have E3 := hid e3
  have E1 := hid e1; have E2 := hid e2; have HB2 := hid hb2; have HR2 := hid hr2.rd
  clear hg2 hblk hblk2 c4 hr1 e1 e2 e3 hb2 hr2
  go_wp2_with fail
  refine E1.out.mono ?_
  rintro e w3 ⟨rfl, n3, rfl⟩
  go_wp2_with fail
  refine (E2.out _).mono ?_
  rintro e w3 ⟨rfl, n4, rfl⟩
  go_wp2_with fail
  refine (E3.out _ ?_ ?_).mono ?_
  · exact (Rd.drewN ((HR2.out.alloc _).alloc _) _).alloc _
  · exact Rd.block (l := [1, 2]) (t := 3) (fz := (0, 0)) (heap_at _ _ _ (by simp)) (by decide)
  rintro e w3 ⟨rfl, hq⟩
  have hl5 := lt_of_cell c5
  have c6 : w3.cell? ⟨w.heap.size + 1 + 1, 5, none⟩ = some (.int .i64 6) := by
    obtain ⟨m, rfl⟩ := hq
    rw [World.cell?_drewN, World.cell?_alloc_past _ _ _ (by simp; omega), World.cell?_drewN, World.cell?_alloc_past _ _ _ (by simp; omega), World.cell?_alloc_past _ _ _ hl5]
    exact c5
  have s2 := HB2.out.size
  have hb3 : Below w.heap.size w w3 := by
    refine Below.trans ?_ (Below.of_drewN hq _)
    exact (below_drewN ((HB2.out.alloc s2 _).alloc (by simp; omega) _) _).alloc (by simp; omega) _
  clear hq
  go_wp2
  go_ret
  exact ⟨rfl, hb3⟩
end Go.Proofs.Yteeohboemhegoaa

/- The walk of the law ShrinkAgain. -/
import Derived.Test.YteeohboemhegoaaN
namespace Go.Proofs.Yteeohboemhegoaa
open Go Go.RowKit

set_option maxHeartbeats 3200000 in
theorem shrinkAgain_any (v u : Value) (l set : List Int) (kind n : Int) (w : World) (h : Rd w v (ints l)) (hs : Rd w u (ints set)) (hf : Fit l) (hfs : Fit set)
    (k0 : -9223372036854775808 ≤ kind) (k1 : kind ≤ 9223372036854775807) (n0 : -9223372036854775808 ≤ n) (n1 : n ≤ 9223372036854775807) :
    Calls Try.prog 5 #[v, .int .i64 kind, u, .int .i64 n] w fun e w' => e = .returned (.bool true) ∧ Below w.heap.size w w' := by
  have hO := oracle_any v u l set kind n w h hs hf hfs k0 k1 n0 n1
  have hLf : Fit (aroundAll (l.take 14) 10) := aroundAll_fit _
  have hLl : (aroundAll (l.take 14) 10).length ≤ 14 := by rw [aroundAll_len]; simp; omega
  generalize condOf l kind set n = c at hO
  generalize aroundAll (l.take 14) 10 = L at hO hLf hLl
  obtain ⟨x, hx1, hx2, hx3, hx4⟩ := run_law c L
  have hxl := hx2.length_le
  have hx5 : (Shr.run (fun y => holdsB c (toI y)) (ints x)).1 = ints x := by rw [← hx1]; exact Shr.run_again _ _
  have HO := hid hO
  have HA := hid (fun ob => asks_oracle ob c L L (List.Sublist.refl _) hLf (by omega))
  have HA2 := hid (fun ob => asks_oracle ob c L x hx2 hLf (by omega))
  have HX1 := hid hx1; have HX5 := hid hx5
  clear hO hLf hx1 hx2 hx3 hx4 hx5 h hs hf hfs
  go_enter Try.func5, Try.ntmps5
  go_wp2_with fail
  refine HO.out.mono ?_
  rintro e w1 ⟨ob, rfl, hob, hI1, hb1⟩
  obtain ⟨vs, vf, vl, hc1, hr1, q0, q1, q2, q3, q4, q6⟩ := hI1.parts
  have hobl : ob < w1.heap.size := lt_of_cell q0
  have hl := list_any _ _ ob _ (ints L) 0 vl w1 (HA.out ob) hr1 (oneCell_ints _) (by simp; omega) hI1 hobl
  rw [HX1.out] at hl
  have HL := hid hl
  clear hl hc1 hr1 hI1
  go_wp2_with fail
  refine HL.out.mono ?_
  rintro e w2 ⟨v2, rfl, hown2, hI2, hg2⟩
  have hs2 := hg2.size
  have hb2 := below_gb hb1 hg2 hob
  have hl2 := list_any _ _ ob _ (ints x) _ v2 w2 (HA2.out ob) hown2.rd (oneCell_ints _) (by simp; omega) hI2 (by omega)
  rw [HX5.out] at hl2
  have HL2 := hid hl2
  clear hl2 hI2 hg2 q0 q1 q2 q3 q4 q6
  go_wp2_with fail
  refine HL2.out.mono ?_
  rintro e w3 ⟨v3, rfl, hown3, hI3, hg3⟩
  have hs3 := hg3.size
  have hb3 := below_gb hb2 hg3 hob
  have hr2 : Rd w3 v2 (ints x) := hown2.rd.gb hg3 (hown2.ne (by omega))
  have hne2 := hown2.ne (ob := ob) (by omega)
  obtain ⟨vs, vf, vl, hc1, hr1, q0, q1, q2, q3, q4, q6⟩ := hI3.parts
  have hl3 := list_any _ _ ob _ (ints L) _ vl w3 (HA.out ob) hr1 (oneCell_ints _) (by simp; omega) hI3 (by omega)
  rw [HX1.out] at hl3
  have HL3 := hid hl3
  clear hl3 hI3 hg3 hown2 hc1 hr1
  go_wp2_with fail
  refine HL3.out.mono ?_
  rintro e w4 ⟨v4, rfl, hown4, hI4, hg4⟩
  have hb4 := below_gb hb3 hg4 hob
  have hr2' : Rd w4 v2 (ints x) := hr2.gb hg4 hne2
  have hr3' : Rd w4 v3 (ints x) := hown3.rd.gb hg4 (hown3.ne (by omega))
  have hS1 := sameInts_any v2 v3 x x w4 hr2' hr3'
  rw [show same x x = true by simp [same]] at hS1
  have hS2 := fun m => sameInts_any v2 v4 x x (w4.drewN m) hr2' hown4.rd
  simp only [show same x x = true by simp [same]] at hS2
  have HS1 := hid hS1; have HS2 := hid hS2; have HB4 := hid hb4
  clear hS1 hS2 hg4 hI4 hr2 hr2' hr3' hown4 hown3 hb4 hb3 hb2
  go_wp2_with fail
  refine HS1.out.mono ?_
  rintro e w5 ⟨rfl, m5, rfl⟩
  go_wp2_with fail
  refine (HS2.out m5).mono ?_
  rintro e w6 ⟨rfl, hq6⟩
  have hb6 := HB4.out.trans ((below_drewN (Below.refl _ _) m5).trans (Below.of_drewN hq6 _))
  have s6 := hb6.size
  clear hq6
  go_wp2_with fail
  refine (lives_any _).mono ?_
  rintro e w7 ⟨rfl, hb7⟩
  have HB7 := hid (hb6.trans (hb7.mono s6))
  clear hb7
  go_wp2_with fail
  go_ret
  exact ⟨rfl, HB7.out⟩
end Go.Proofs.Yteeohboemhegoaa

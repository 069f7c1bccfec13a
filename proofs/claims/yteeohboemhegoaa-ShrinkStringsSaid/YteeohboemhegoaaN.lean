/- The walk of the law ShrinkList. -/
import Derived.Test.YteeohboemhegoaaM
namespace Go.Proofs.Yteeohboemhegoaa
open Go Go.RowKit

/-- a slice that came in, as the row's step opens it. -/
theorem rd_of_row {w : World} {a : Option Addr} {len cap : Nat} {zs : List Int}
    (h : (a = none ∧ len = 0 ∧ cap = 0 ∧ zs = []) ∨
      ∃ x, a = some x ∧ len ≤ cap ∧ cap ≤ maxLen ∧ zs.length = cap ∧ (∀ i, i < zs.length → w.cell? (x.add i) = some (.int .i64 (zs.getD i 0))) ∧ ∀ n ∈ zs, (Lit.int .i64 n).wf = true) :
    Rd w (.slice a len cap) (ints (zs.take len)) ∧ Fit (zs.take len) := by
  rcases h with ⟨rfl, rfl, rfl, rfl⟩ | ⟨⟨b, off, spot⟩, rfl, h1, h2, h3, h4, h5⟩
  · exact ⟨Rd.nil w, fun i hi => by simp at hi⟩
  · have hl : (ints (zs.take len)).length = len := by rw [ints_length, List.length_take]; omega
    refine ⟨⟨_, cap, by rw [hl], by rw [hl]; exact h1, h2, by simp, fun i hi => ?_⟩, fun i hi => ?_⟩
    · have hi' : i < len := by rw [hl] at hi; exact hi
      have h0 := h4 0 (by omega)
      have hspot : spot = none := by simpa [Addr.add] using World.cell?_spot h0
      subst hspot
      refine ⟨b, off, rfl, ?_⟩
      have := h4 i (by omega)
      rw [Addr.add_lit] at this
      rw [this]
      simp [ints, List.getD, List.getElem?_eq_getElem (show i < zs.length by omega)]
    · have hi' : i < zs.length := by simp at hi; omega
      rw [List.getElem_take]
      exact bounds_i64 (h5 _ (List.getElem_mem hi'))

theorem fit_of_wf {n : Int} (h : (Lit.int .i64 n).wf = true) : -9223372036854775808 ≤ n ∧ n ≤ 9223372036854775807 := bounds_i64 h

theorem ints_rmv (x : List Int) (i j : Nat) : Shr.rmv (ints x) i j = ints (Shr.rmv x i j) := by
  unfold Shr.rmv; rw [ints_take, ints_drop, ints_append]

theorem run_law (c : Cond) (L : List Int) : ∃ x, (Shr.run (fun y => holdsB c (toI y)) (ints L)).1 = ints x ∧ x.Sublist L ∧ (holdsB c L = false → x = L) ∧ (holdsB c L = true → minimalB c x = true) := by
  obtain ⟨x, hx, e⟩ := List.sublist_map_iff.1 (show (Shr.run (fun y => holdsB c (toI y)) (ints L)).1.Sublist (L.map (Value.int .i64)) from Shr.run_sub _ _)
  have e' : (Shr.run (fun y => holdsB c (toI y)) (ints L)).1 = ints x := e
  refine ⟨x, e', hx, fun h => ?_, fun h => ?_⟩
  · have := Shr.run_no (fun y => holdsB c (toI y)) (ints L) (by rw [toI_ints]; exact h)
    rw [this] at e'
    exact (ints_inj e').symm
  · have hm := Shr.run_min (fun y => holdsB c (toI y)) (ints L) (by rw [toI_ints]; exact h)
    rw [e'] at hm
    obtain ⟨h1, h2⟩ := hm
    simp only [toI_ints] at h1
    unfold minimalB
    rw [h1, Bool.true_and, Shr.scanB_iff]
    intro i hi
    have := h2 i (by simpa using hi)
    simp only [ints_rmv, toI_ints] at this
    exact this

theorem OInv.parts {ob : Nat} {c : Cond} {l : List Int} {n : Nat} {w : World} (h : OInv ob c l n w) :
    ∃ vs vf vl, CondIn w c vs vf ∧ Rd w vl (ints l) ∧ w.cell? ⟨ob, 0, none⟩ = some (.int .i64 c.kind) ∧ w.cell? ⟨ob, 1, none⟩ = some vs ∧ w.cell? ⟨ob, 2, none⟩ = some (.int .i64 c.n) ∧ w.cell? ⟨ob, 3, none⟩ = some vf ∧
      w.cell? ⟨ob, 4, none⟩ = some vl ∧ w.cell? ⟨ob, 6, none⟩ = some (.bool false) := by
  obtain ⟨vs, vf, vl, h1, h2, _, hb⟩ := h
  refine ⟨vs, vf, vl, h1, h2, ?_, ?_, ?_, ?_, ?_, ?_⟩ <;> simp [World.cell?, hb]

theorem below_gb {w w1 w2 : World} {ob : Nat} (h : Below w.heap.size w w1) (hg : w1.grownBy w2 (some ob)) (ho : w.heap.size ≤ ob) : Below w.heap.size w w2 :=
  h.trans ⟨hg.os, hg.tape, hg.output, hg.size, fun k hk => hg.block k (by have := h.size; omega) (by intro e; simp at e; omega)⟩

set_option maxHeartbeats 3200000 in
theorem shrinkList_any (v u : Value) (l set : List Int) (kind n : Int) (w : World) (h : Rd w v (ints l)) (hs : Rd w u (ints set)) (hf : Fit l) (hfs : Fit set)
    (k0 : -9223372036854775808 ≤ kind) (k1 : kind ≤ 9223372036854775807) (n0 : -9223372036854775808 ≤ n) (n1 : n ≤ 9223372036854775807) :
    Calls Try.prog 3 #[v, .int .i64 kind, u, .int .i64 n] w fun e w' => e = .returned (.bool true) ∧ Below w.heap.size w w' := by
  have hO := oracle_any v u l set kind n w h hs hf hfs k0 k1 n0 n1
  have hLf : Fit (aroundAll (l.take 14) 10) := aroundAll_fit _
  have hLl : (aroundAll (l.take 14) 10).length ≤ 14 := by rw [aroundAll_len]; simp; omega
  generalize condOf l kind set n = c at hO
  generalize aroundAll (l.take 14) 10 = L at hO hLf hLl
  obtain ⟨x, hx1, hx2, hx3, hx4⟩ := run_law c L
  have hxl := hx2.length_le
  have HO := hid hO
  have HA := hid (fun ob => asks_oracle ob c L L (List.Sublist.refl _) hLf (by omega))
  have HX1 := hid hx1; have HX2 := hid hx2; have HX3 := hid hx3; have HX4 := hid hx4
  have HLf := hid hLf
  clear hO hLf hx1 hx2 hx3 hx4 h hs hf hfs
  go_enter Try.func3, Try.ntmps3
  go_wp2_with fail
  refine HO.out.mono ?_
  rintro e w1 ⟨ob, rfl, hob, hI1, hb1⟩
  obtain ⟨vs, vf, vl, hc1, hr1, q0, q1, q2, q3, q4, q6⟩ := hI1.parts
  have hobl : ob < w1.heap.size := lt_of_cell q0
  have hl := list_any _ _ ob _ (ints L) 0 vl w1 (HA.out ob) hr1 (oneCell_ints _) (by simp; omega) hI1 hobl
  rw [HX1.out] at hl
  have HL := hid hl
  clear hl hc1 hr1 hI1
  go_wp2_with fail
  refine HL.out.mono ?_
  rintro e w2 ⟨v2, rfl, hown2, hI2, hg2⟩
  have hb2 := below_gb hb1 hg2 hob
  obtain ⟨vs, vf, vl, hc2, hr2, q0, q1, q2, q3, q4, q6⟩ := hI2.parts
  have hH := holds_any c vs vf vl L w2.drew ⟨hc2.set.drew, hc2.full.drew, hc2.k0, hc2.k1, hc2.n0, hc2.n1⟩ hr2.drew HLf.out (by omega)
  clear hg2 hI2
  have hobl2 : ob < w2.heap.size := lt_of_cell q0
  have HB2 := hid hb2
  have hq : ∀ W, Below w2.heap.size w2 W → W.cell? ⟨ob, 0, none⟩ = some (.int .i64 c.kind) ∧ W.cell? ⟨ob, 1, none⟩ = some vs ∧ W.cell? ⟨ob, 2, none⟩ = some (.int .i64 c.n) ∧ W.cell? ⟨ob, 3, none⟩ = some vf ∧ W.cell? ⟨ob, 4, none⟩ = some vl := fun W hW =>
    ⟨(hW.cell (p := ⟨ob, 0, none⟩) hobl2).trans q0, (hW.cell (p := ⟨ob, 1, none⟩) hobl2).trans q1, (hW.cell (p := ⟨ob, 2, none⟩) hobl2).trans q2, (hW.cell (p := ⟨ob, 3, none⟩) hobl2).trans q3, (hW.cell (p := ⟨ob, 4, none⟩) hobl2).trans q4⟩
  have HQ := hid hq
  by_cases hp : holdsB c L = true
  · have HP := hid hp
    rw [hp] at hH
    have HH := hid hH
    have hm := HX4.out hp
    have hS : ∀ W, Below w2.heap.size w2 W → Calls Try.prog 13 #[v2, vl] W fun e w' => e = .returned (.bool true) ∧ ∃ n, w' = W.drewN n := fun W hW => by
      have := part_any v2 vl x L W (hown2.rd.below hW) (hr2.below hW)
      rwa [(partB_iff x L).2 HX2.out] at this
    have hM : ∀ W, Below w2.heap.size w2 W → Calls Try.prog 14 #[.agg #[.int .i64 c.kind, vs, .int .i64 c.n, vf], v2] W fun e w' => e = .returned (.bool true) ∧ Below W.heap.size W w' := fun W hW => by
      have := minimal_any c vs vf v2 x W (hc2.below hW) (hown2.rd.below hW) (fit_sub HX2.out HLf.out) (by omega)
      rwa [hm] at this
    have HS := hid hS; have HM := hid hM
    clear hp hH hS hM hm hb2 hc2 hr2 hq
    go_wp2_with fail
    go_region_with (go_at_call 10; refine HH.out.mono ?_; rintro e w3 ⟨rfl, hb3⟩; replace hb3 : Below w2.heap.size w2 w3 := (Below.refl _ _).drew.trans hb3; obtain ⟨e0, e1, e2, e3, e4⟩ := HQ.out _ hb3)
    all_goals go_wp2_with fail
    all_goals (refine (HS.out _ hb3).mono ?_)
    all_goals (rintro e w4 ⟨rfl, hq4⟩; have hb4 := hb3.trans (Below.of_drewN hq4 _); clear hq4; obtain ⟨e0', e1', e2', e3', e4'⟩ := HQ.out _ hb4)
    all_goals go_wp2_with fail
    all_goals (refine (HM.out _ hb4).mono ?_)
    all_goals (rintro e w5 ⟨rfl, hb5⟩; have hb5' := hb4.trans (hb5.mono hb4.size); clear hb5)
    all_goals go_wp2_with fail
    all_goals (refine (lives_any _).mono ?_)
    all_goals (rintro e w6 ⟨rfl, hb6⟩; have hb6' := hb5'.trans (hb6.mono hb5'.size); clear hb6)
    all_goals go_wp2_with fail
    all_goals go_ret
    all_goals exact ⟨rfl, HB2.out.trans (hb6'.mono HB2.out.size)⟩
  · have hp : holdsB c L = false := by simpa using hp
    have HP := hid hp
    have hxe := HX3.out hp
    subst hxe
    rw [hp] at hH
    have HH := hid hH
    have hS : ∀ W, Below w2.heap.size w2 W → Calls Try.prog 11 #[v2, vl] W fun e w' => e = .returned (.bool true) ∧ ∃ n, w' = W.drewN n := fun W hW => by
      have := sameInts_any v2 vl x x W (hown2.rd.below hW) (hr2.below hW)
      rwa [show same x x = true by simp [same]] at this
    have HS := hid hS
    clear hp hH hS hb2 hc2 hr2 hq
    go_wp2_with fail
    go_region_with (go_at_call 10; refine HH.out.mono ?_; rintro e w3 ⟨rfl, hb3⟩; replace hb3 : Below w2.heap.size w2 w3 := (Below.refl _ _).drew.trans hb3; obtain ⟨e0, e1, e2, e3, e4⟩ := HQ.out _ hb3)
    all_goals go_wp2_with fail
    all_goals (refine (HS.out _ hb3).mono ?_)
    all_goals (rintro e w4 ⟨rfl, hq4⟩; have hb4 := hb3.trans (Below.of_drewN hq4 _); clear hq4)
    all_goals go_wp2_with fail
    all_goals (refine (lives_any _).mono ?_)
    all_goals (rintro e w6 ⟨rfl, hb6⟩; have hb6' := hb4.trans (hb6.mono hb4.size); clear hb6)
    all_goals go_wp2_with fail
    all_goals go_ret
    all_goals exact ⟨rfl, HB2.out.trans (hb6'.mono HB2.out.size)⟩
end Go.Proofs.Yteeohboemhegoaa

/- The walk of the law ShrinkMonotone. -/
import Derived.Test.YteeohboemhegoaaQ
import Derived.Deep.DeepCutAuto
namespace Go.Proofs.Yteeohboemhegoaa
open Go Go.RowKit

theorem around_around (k : Int) : around (around k 3) 6 = around k 3 ∧ around (around k 3) 6 < 3 := by
  have h := around_lt k 3 (by decide)
  have e : around (around k 3) 6 = around k 3 := by
    show (if around k 3 < 0 then _ else around k 3) % 6 = _
    rw [if_neg (by omega)]; omega
  exact ⟨e, by omega⟩

set_option maxHeartbeats 6400000 in
set_option maxRecDepth 1000000 in
theorem shrinkMonotone_any (v u : Value) (l set : List Int) (kind n : Int) (w : World) (h : Rd w v (ints l)) (hs : Rd w u (ints set)) (hf : Fit l) (hfs : Fit set)
    (k0 : -9223372036854775808 ≤ kind) (k1 : kind ≤ 9223372036854775807) (n0 : -9223372036854775808 ≤ n) (n1 : n ≤ 9223372036854775807) :
    Calls Try.prog 4 #[v, .int .i64 kind, u, .int .i64 n] w fun e w' => e = .returned (.bool true) ∧ Below w.heap.size w w' := by
  obtain ⟨hk6, hk3⟩ := around_around kind
  have hka := around_lt kind 3 (by decide)
  have HAr := hid (fun W => around_any kind 3 W k0 k1 (by decide) (by decide))
  generalize around kind 3 = K at *
  obtain ⟨a, cap, rfl, hlc, hcm, hx8, hx9⟩ := h.int
  clear hx8 hx9
  unfold maxLen at hcm
  obtain ⟨m, hm⟩ : ∃ m, m = min l.length 10 := ⟨_, rfl⟩
  have hml : m ≤ l.length := by omega
  have hm10 : m ≤ 10 := by omega
  have hrd := (Rd.take (n := l.length) h m (by simpa using hml)).rd
  rw [ints_take] at hrd
  have hO := fun W (hW : Below w.heap.size w W) => oracle_any (.slice a m cap) u (l.take m) set K n W (hrd.below hW) (hs.below hW) (fit_take hf m) hfs (by omega) (by omega) n0 n1
  have hLf : Fit (aroundAll ((l.take m).take 14) 10) := aroundAll_fit _
  have hLl : (aroundAll ((l.take m).take 14) 10).length ≤ 10 := by rw [aroundAll_len]; simp; omega
  have hck : around (condOf (l.take m) K set n).kind 6 < 3 := hk3
  generalize condOf (l.take m) K set n = c at hO hck
  generalize aroundAll ((l.take m).take 14) 10 = L at hO hLf hLl
  obtain ⟨x, hx1, hx2, hx3, hx4⟩ := run_law c L
  have hxl := hx2.length_le
  have HO := hid hO
  have HA := hid (fun ob => asks_oracle ob c L L (List.Sublist.refl _) hLf (by omega))
  have HX1 := hid hx1; have HX2 := hid hx2; have HX4 := hid hx4
  have HLf := hid hLf; have HCK := hid hck
  have HM := hid hm
  have hmc : (m : Int) ≤ cap := by omega
  clear hO hLf hx1 hx2 hx3 hx4 h hs hf hfs hck hrd hk6 hk3 hm
  go_enter Try.func4, Try.ntmps4
  go_upto_region 1 with fail
  go_cut [9] (fun s9 wx => ∃ ob, s9 = .pointer (some ⟨ob, 0, none⟩) ∧ w.heap.size ≤ ob ∧ OInv ob c L 0 wx ∧ Below w.heap.size w wx)
  case first =>
    by_cases hl10 : l.length ≤ 10
    · have hm2 : m = l.length := by have := HM.out; omega
      subst hm2
      have hll : (l.length : Int) ≤ 10 := by omega
      go_region_with (first
        | (go_at_call 15; refine (HAr.out _).mono ?_; rintro e w' ⟨rfl, rfl⟩)
        | (go_at_call 7; refine (HO.out _ (Below.drew (Below.refl _ _))).mono ?_; rintro e w1 ⟨ob, rfl, hob, hI1, hb1⟩))
      all_goals go_wp2_with fail
      all_goals go_meet
      all_goals exact ⟨ob, rfl, hob, hI1, (Below.refl _ _).drew.trans hb1⟩
    · have hm2 : m = 10 := by have := HM.out; omega
      subst hm2
      have hll : (10 : Int) < (l.length : Int) := by omega
      have hc10 : 10 ≤ cap := by omega
      have hc10' : (10 : Int) ≤ (cap : Int) := by omega
      clear hmc
      go_region_with (first
        | (go_at_call 15; refine (HAr.out _).mono ?_; rintro e w' ⟨rfl, rfl⟩)
        | (go_at_call 7; refine (HO.out _ (Below.drew (Below.refl _ _))).mono ?_; rintro e w1 ⟨ob, rfl, hob, hI1, hb1⟩))
      all_goals go_wp2_with fail
      all_goals go_meet
      all_goals exact ⟨ob, rfl, hob, hI1, (Below.refl _ _).drew.trans hb1⟩
  case rest =>
    obtain ⟨ob, rfl, hob, hI1, hb1⟩ := hcut
    obtain ⟨vs, vf, vl, hc1, hr1, q0, q1, q2, q3, q4, q6⟩ := hI1.parts
    have hobl : ob < wc.heap.size := lt_of_cell q0
    have hH := holds_any c vs vf vl L wc.drew ⟨hc1.set.drew, hc1.full.drew, hc1.k0, hc1.k1, hc1.n0, hc1.n1⟩ hr1.drew HLf.out (by omega)
    have HB1 := hid hb1; have HI1 := hid hI1
    clear hb1 hI1
    go_upto_region 2 with fail
    go_cut [33] (fun s wx => s = .bool (!holdsB c L) ∧ Below wc.heap.size wc wx)
    case first =>
      have HH := hid hH
      clear hH
      go_region_with (go_at_call 10; refine HH.out.mono ?_; rintro e w3 ⟨rfl, hb3⟩)
      all_goals go_wp2_with fail
      all_goals go_meet
      all_goals exact ⟨rfl, (Below.refl _ _).drew.trans hb3⟩
    case rest =>
      obtain ⟨rfl, hb2⟩ := hcut
      clear hH hc1 hr1 q0 q1 q2 q3 q4 q6
      have hI2 := HI1.out.stay hb2
      have hb2' := HB1.out.trans (hb2.mono HB1.out.size)
      have hs2 := hb2.size
      clear hb2
      have HB2 := hid hb2'
      clear hb2'
      by_cases hp : holdsB c L = true
      · rw [hp]
        have hm := HX4.out hp
        have HMin := hid hm
        obtain ⟨vs, vf, vl, hc1, hr1, q0, q1, q2, q3, q4, q6⟩ := hI2.parts
        have hl := list_any _ _ ob _ (ints L) 0 vl _ (HA.out ob) hr1 (oneCell_ints _) (by simp; omega) hI2 (by omega)
        rw [HX1.out] at hl
        have HL := hid hl
        clear hl hI2 hc1 hr1 hp hm
        go_wp2_with fail
        refine HL.out.mono ?_
        rintro e w3 ⟨v3, rfl, hown3, hI3, hg3⟩
        have HB3 := hid (below_gb HB2.out hg3 hob)
        have hs3 := hg3.size
        obtain ⟨vs, vf, vl, hc3, hr3, q0, q1, q2, q3, q4, q6⟩ := hI3.parts
        obtain ⟨a3, cap3, rfl, hlc3, hcm3, hx8, hx9⟩ := hown3.rd.int
        clear hx8 hx9 hg3
        unfold maxLen at hcm3
        have hx10 : x.length ≤ 10 := by omega
        have hminx : holdsB c x = true := by
          have := HMin.out; unfold minimalB at this; rw [Bool.and_eq_true] at this; exact this.1
        have hH := holds_any c vs vf _ x w3 hc3 hown3.rd (fit_sub HX2.out HLf.out) (by omega)
        rw [hminx] at hH
        have HH := hid hH
        have hcells : ∀ W, Below w3.heap.size w3 W → W.cell? ⟨ob, 0, none⟩ = some (.int .i64 c.kind) ∧ W.cell? ⟨ob, 1, none⟩ = some vs ∧ W.cell? ⟨ob, 2, none⟩ = some (.int .i64 c.n) ∧ W.cell? ⟨ob, 3, none⟩ = some vf := fun W hW =>
          have hb : ob < w3.heap.size := lt_of_cell q0
          ⟨(hW.cell (p := ⟨ob, 0, none⟩) hb).trans q0, (hW.cell (p := ⟨ob, 1, none⟩) hb).trans q1, (hW.cell (p := ⟨ob, 2, none⟩) hb).trans q2, (hW.cell (p := ⟨ob, 3, none⟩) hb).trans q3⟩
        have HCE := hid hcells
        have hSub := fun b W (hW : Below w3.heap.size w3 W) (hb : b ≤ 1000000) => sub_any _ x b W (hown3.rd.below hW) (by omega) hb
        have HSub := hid hSub
        have hHo := fun v b W (hW : Below w3.heap.size w3 W) (hb : b + 1 < 2 ^ x.length) (hv : Rd W v (ints (subI x b))) => by
          have := holds_any c vs vf v (subI x b) W (hc3.below hW) hv (fit_sub ((subI_sub x b).trans HX2.out) HLf.out) (by have := (subI_sub x b).length_le; omega)
          rw [sub_not HCK.out HMin.out b hb] at this
          exact this
        have HHo := hid hHo
        have hd10 : decide ((10 : Int) < (x.length : Int)) = false := by simp; omega
        clear hH hcells hSub hHo hc3 hr3 hI3 hminx
        go_wp2_with fail
        refine HH.out.mono ?_
        rintro e w4 ⟨rfl, hb4⟩
        obtain ⟨N, hN⟩ : ∃ N : Nat, N = 2 ^ x.length := ⟨_, rfl⟩
        have hN1 : N ≤ 1024 := by rw [hN]; calc 2 ^ x.length ≤ 2 ^ 10 := Nat.pow_le_pow_right (by omega) hx10
          _ = 1024 := rfl
        have HN := hid hN; clear hN
        have hNp : 1 ≤ N := by rw [HN.out]; exact Nat.one_le_two_pow
        have hs4 := hb4.size
        have hxl10 : (x.length : Int) ≤ 10 := by omega
        go_wp2_with fail
        go_loop [11, 12] (fun p i => ∃ k q : Nat, k ≤ x.length ∧ i = .int .i64 k ∧ p = .int .i64 q ∧ q ≤ 1024 ∧ Hid (q = 2 ^ k)) (fun _ i => x.length - (intOf i).toNat)
        case atStart => exact ⟨0, 1, Nat.zero_le _, rfl, rfl, by omega, hid rfl⟩
        case round =>
          obtain ⟨k, q, hk, rfl, rfl, hq, hqe⟩ := hrel
          by_cases hlt : k < x.length
          · have hq2 : q ≤ 512 := by
              rw [hqe.out]
              calc 2 ^ k ≤ 2 ^ 9 := Nat.pow_le_pow_right (by omega) (by omega)
                _ = 512 := rfl
            go_wp2_with fail
            go_round
            case rel => exact ⟨k + 1, q * 2, by omega, by go_num, by go_num, by omega, hid (by rw [hqe.out, Nat.pow_succ])⟩
            case measure => simp [intOf]; omega
          · have hqN : q = N := by rw [hqe.out, HN.out, show k = x.length by omega]
            subst hqN
            clear hqe
            go_wp2_with fail
            go_loopw [13] (fun i wr => ∃ b : Nat, b + 1 ≤ q ∧ i = .int .i64 b ∧ Below w4.heap.size w4 wr) (fun i _ => q - (intOf i).toNat)
            case atStart => exact ⟨0, hNp, rfl, Below.refl _ _⟩
            case round =>
              obtain ⟨b, hb, rfl, hbel⟩ := hrel
              have hbr := hb4.trans (hbel.mono hs4)
              have hsr := hbr.size
              obtain ⟨c0, c1, c2, c3⟩ := HCE.out _ hbr
              by_cases hlt2 : b + 1 < q
              · have HSb := hid (HSub.out b _ hbr.drew (by omega))
                have HHb := hid (fun v W hW hv => HHo.out v b W hW (by rw [← HN.out]; exact hlt2) hv)
                have hcond : (b : Int) < (q : Int) - 1 := by omega
                go_wp2_with fail
                go_region_with (first
                  | (go_at_call 16; refine HSb.out.mono ?_; rintro e w5 ⟨v5, rfl, hown5, hb5⟩; have hb5' := hbr.drew.trans (hb5.mono hsr); have hs5 := hb5'.size; obtain ⟨c0, c1, c2, c3⟩ := HCE.out w5 hb5')
                  | (go_at_call 10; refine (HHb.out _ _ hb5' hown5.rd).mono ?_; rintro e w6 ⟨rfl, hb6⟩; have hb6' := (hbel.drew.trans (hb5.mono hbel.size)).trans (hb6.mono (Nat.le_trans hbel.size hb5.size))))
                all_goals go_wp2_with fail
                all_goals go_roundw
                all_goals (first
                  | (case rel => exact ⟨b + 1, by omega, by go_num, hb6'⟩)
                  | (case measure => simp [intOf]; omega))
              · have hcond : ¬ (b : Int) < (q : Int) - 1 := by omega
                go_wp2_with fail
                refine (lives_any _).mono ?_
                rintro e w7 ⟨rfl, hb7⟩
                have HB7 := hid ((HB3.out.trans (hbr.mono HB3.out.size)).trans (hb7.mono (Nat.le_trans HB3.out.size hsr)))
                clear hb7
                go_wp2_with fail
                go_ret
                exact ⟨rfl, HB7.out⟩
      · have hp : holdsB c L = false := by simpa using hp
        rw [hp]
        clear hI2 hp
        go_wp2_with fail
        refine (lives_any _).mono ?_
        rintro e w7 ⟨rfl, hb7⟩
        have HB7 := hid (HB2.out.trans (hb7.mono HB2.out.size))
        clear hb7
        go_wp2_with fail
        go_ret
        exact ⟨rfl, HB7.out⟩
end Go.Proofs.Yteeohboemhegoaa

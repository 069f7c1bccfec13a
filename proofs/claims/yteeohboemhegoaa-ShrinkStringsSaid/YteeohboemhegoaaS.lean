/- The string twin of the walks of Clone, without and List (written by a program out of the int ones). -/
import Derived.Test.YteeohboemhegoaaJ
namespace Go.Proofs.Yteeohboemhegoaa.Str
open Go Go.RowKit Go.Proofs.Yteeohboemhegoaa

theorem infoStr : (Try.prog.info? 9).map (fun i => (i.zero, i.size, i.bytes)) = some (some (.string ByteArray.empty), 1, 16) := by kernel_rfl

set_option maxHeartbeats 400000 in
theorem clone_any (v : Value) (xs : List Value) (w : World) (h : Rd w v xs) (h1 : ∀ y ∈ xs, y.oneCell' = true) (hb : xs.length * 16 ≤ 140737488351232) :
    Calls Try.prog 28 #[v] w fun e w' => ∃ v', e = .returned v' ∧ Own w' w.heap.size 9 v' xs ∧ Below w.heap.size w w' := by
  obtain ⟨i0, hi, hz0, hz1, hz2⟩ := info_parts infoStr
  obtain ⟨a, cap, rfl, hlc, hcm, hnone, hc⟩ := id h
  clear hc
  unfold maxLen at hcm
  have HR := hid h.toN
  clear h
  have q22 : ∀ (w : World) (a : Option Addr) (n c n' c' : Nat), (binOp .eql 37 (.slice a n c) (.slice none n' c')).run Try.prog w = .ok (.bool a.isNone) w := fun w a n c n' c' => Lib.run_eql_slice_nil w _ _ a n c n' c' Try.underlying37
  cases a with
  | none =>
    have hcap : cap = 0 := hnone rfl
    have e : xs = [] := List.eq_nil_of_length_eq_zero (by omega)
    subst e
    clear hnone hlc hcap
    go_enter Try.func28, Try.ntmps28
    go_wp2_with fail
    go_ret
    exact ⟨_, rfl, Own.nil _ _ _, Below.refl _ _⟩
  | some ad =>
    clear hnone
    go_enter Try.func28, Try.ntmps28
    go_wp2_with (first | (at_builtin; refine wpList_app rfl _ _ 37 rfl w.heap.size 9 i0 (.string ByteArray.empty) 16 Try.underlying37 hi hz0 hz1 hz2 rfl _ [] rfl (Own.made0 _ _) _ xs.length xs rfl (HR.out.alloc _) h1 (by simp; omega) (by simp; omega) (by simp) ?_; intro v' w1 hown _ hbel))
    go_ret
    exact ⟨_, rfl, hown, ((Below.refl _ _).alloc (Nat.le_refl _) _).trans hbel⟩

set_option maxHeartbeats 800000 in
theorem without_any (v : Value) (xs : List Value) (i j : Nat) (w : World) (h : Rd w v xs) (hij : i ≤ j) (hj : j ≤ xs.length) (h1 : ∀ y ∈ xs, y.oneCell' = true) (hb : xs.length * 16 ≤ 140737488351232) :
    Calls Try.prog 29 #[v, .int .i64 i, .int .i64 j] w fun e w' => ∃ v', e = .returned v' ∧ Own w' w.heap.size 9 v' (Shr.rmv xs i j) ∧ Below w.heap.size w w' := by
  obtain ⟨i0, hi, hz0, hz1, hz2⟩ := info_parts infoStr
  obtain ⟨a, cap, rfl, hlc, hcm, hnone, hc⟩ := id h
  clear hc hnone
  unfold maxLen at hcm
  have hR1 : RdN w (.slice a i cap) 1 i (xs.take i) := h.take i (by omega)
  have hR2 := h.piece j xs.length (by omega) (by omega)
  rw [List.take_length] at hR2
  have hic : i ≤ cap := by omega
  have hm1 : ∀ y ∈ xs.take i, y.oneCell' = true := fun y hy => h1 y (List.mem_of_mem_take hy)
  have hm2 : ∀ y ∈ xs.drop j, y.oneCell' = true := fun y hy => h1 y (List.mem_of_mem_drop hy)
  have hl1 : (xs.take i).length = i := by simp; omega
  have HC := hid (clone_any (.slice a i cap) (xs.take i) w.drew hR1.rd.drew hm1 (by omega))
  have HA := hid (fun W (hb : Below w.heap.size w W) => hR2.below hb)
  have H2 := hid hm2
  have HL := hid hl1
  clear h hR1 hR2 h1 hm1 hm2 hl1
  go_enter Try.func29, Try.ntmps29
  go_wp2_with fail
  go_region_law (first
    | (refine step_app rfl _ _ 37 rfl w.heap.size 9 i0 (.string ByteArray.empty) 16 Try.underlying37 hi hz0 hz1 hz2 rfl _ (xs.take i) rfl (by assumption) _ (xs.length - j) (xs.drop j) rfl (HA.out _ (by assumption)) H2.out (by rw [HL.out]; omega) (by rw [HL.out]; omega) (by have := Below.size (by assumption : Below w.heap.size w _); exact this) ?_; intro v' w1 hown2 _ hbel2)
    | (go_simp; go_at_call 28; refine HC.out.mono ?_; rintro e w1 ⟨v', rfl, hown, hbel⟩; replace hown : Own w1 w.heap.size 9 v' (xs.take i) := hown; replace hbel : Below w.heap.size w w1 := (Below.refl _ _).drew.trans hbel))
  all_goals go_wp2
  all_goals (go_ret; exact ⟨_, rfl, (by assumption), Below.trans (by assumption) (by assumption)⟩)
/-- what is known of the condition that List is handed. -/
structure Asks (K : Nat) (fv : Value) (p : List Value → Bool) (ob : Nat) (Inv : Nat → World → Prop) (xs : List Value) : Prop where
  stay : ∀ n w w', Inv n w → Below w.heap.size w w' → Inv n w'
  ask : ∀ n w v y, Inv n w → y.Sublist xs → Rd w v y → v.ownBlock ≠ some ob → Calls Try.prog K #[fv, v] w fun e w' => e = .returned (.bool (p y)) ∧ Inv (n + 1) w' ∧ w.grownBy w' (some ob)

section
variable (fv : Value) (p : List Value → Bool) (ob : Nat) (Inv : Nat → World → Prop) (xs : List Value)

set_option maxHeartbeats 1600000 in
theorem list_any (n0 : Nat) (v : Value) (w : World) (hA : Asks 18 fv p ob Inv xs) (h : Rd w v xs) (h1 : ∀ y ∈ xs, y.oneCell' = true) (hb : xs.length ≤ 1000000) (hI : Inv n0 w) (hob : ob < w.heap.size) :
    Calls Try.prog 17 #[v, .func (.func 18) #[fv] #[]] w fun e w' => ∃ v', e = .returned v' ∧ Own w' w.heap.size 9 v' (Shr.run p xs).1 ∧ Inv (n0 + (Shr.run p xs).2) w' ∧ w.grownBy w' (some ob) := by
  have hCl := fun (W : World) (u : Value) (y : List Value) (hy : y.Sublist xs) (hr : Rd W u y) => clone_any u y W hr (fun z hz => h1 z (hy.mem hz)) (by have := hy.length_le; omega)
  have hWi := fun (W : World) (u : Value) (y : List Value) (i j : Nat) (hy : y.Sublist xs) (hr : Rd W u y) (hij : i ≤ j) (hj : j ≤ y.length) => without_any u y i j W hr hij hj (fun z hz => h1 z (hy.mem hz)) (by have := hy.length_le; omega)
  have HCl := hid hCl; have HWi := hid hWi; have HA := hid hA; have HI := hid hI
  have HR := hid h
  clear hCl hWi hA h1 hI
  have c1 := HCl.out w v xs (List.Sublist.refl _) HR.out
  have C1 := hid c1; clear c1
  by_cases hp : p xs = true
  · have HP := hid hp
    clear hp
    go_enter Try.func17, Try.ntmps17
    go_wp2_with fail
    refine C1.out.mono ?_
    rintro e w1 ⟨v1, rfl, hown1, hb1⟩
    have c2 := HCl.out w1 v1 xs (List.Sublist.refl _) hown1.rd
    have C2 := hid c2; clear c2
    obtain ⟨a1, cap1, rfl, hlc1, hcm1, _, _⟩ := id hown1.rd
    unfold maxLen at hcm1
    go_wp2_with fail
    refine C2.out.mono ?_
    rintro e w2 ⟨v2, rfl, hown2, hb2⟩
    have c3 := HA.out.ask n0 w2 v2 xs (HA.out.stay _ _ _ (HA.out.stay _ _ _ HI.out hb1) hb2) (List.Sublist.refl _) hown2.rd (hown2.ne (by have := hb1.size; omega))
    rw [HP.out] at c3
    have C3 := hid c3; clear c3
    go_wp2_with fail
    refine C3.out.mono ?_
    rintro e w3 ⟨rfl, hi3, hg3⟩
    have hg0 : w.grownBy w3 (some ob) := gb_trans (gb_below (World.grownBy.refl w _) (hb1.trans (hb2.mono hb1.size))) hg3
    have hown3 : Own w3 w.heap.size 9 (.slice a1 xs.length cap1) xs := (hown1.below hb2).grown hg3 hob
    clear hg3 hb1 hb2 hown1 hown2 C1 C2 C3
    go_wp2_with fail
    go_loopw [5, 21] (fun m i wr => ∃ (k : Nat) (sb : Bool), k ≤ xs.length ∧ i = .int .i64 k ∧ m = .bool sb ∧ Hid (Shr.scanB p xs k = sb) ∧ Hid (Inv (n0 + 1 + Shr.scanN p xs k) wr) ∧ Own wr w.heap.size 9 (.slice a1 xs.length cap1) xs ∧ w.grownBy wr (some ob)) (fun _ i _ => xs.length - (intOf i).toNat)
    case atStart => exact ⟨0, true, Nat.zero_le _, rfl, rfl, hid rfl, hid hi3, hown3, hg0⟩
    case round =>
      obtain ⟨k, sb, hk, rfl, rfl, hsb, hin, hown, hg⟩ := hrel
      rename_i wr
      by_cases hlt : k < xs.length
      · cases sb with
        | true =>
          have c1 := HWi.out wr (.slice a1 xs.length cap1) xs k (k + 1) (List.Sublist.refl _) hown.rd (by omega) (by omega)
          simp only [Int.natCast_add, Int.cast_ofNat_Int] at c1
          have C1 := hid c1; clear c1
          go_wp2_with fail
          refine C1.out.mono ?_
          rintro e w4 ⟨v4, rfl, hown4, hb4⟩
          have c2 := HA.out.ask _ w4 v4 _ (HA.out.stay _ _ _ hin.out hb4) (Shr.rmv_sub xs k (k + 1) (by omega)) hown4.rd (hown4.ne (by have := hg.size; omega))
          have C2 := hid c2; clear c2
          go_wp2_with fail
          refine C2.out.mono ?_
          rintro e w5 ⟨rfl, hi5, hg5⟩
          have hg' : w.grownBy w5 (some ob) := gb_trans (gb_below hg hb4) hg5
          have hown5 : Own w5 w.heap.size 9 (.slice a1 xs.length cap1) xs := (hown.below hb4).grown hg5 hob
          clear hg5 hb4 hown4 hown C1 C2 hg
          have HI5 := hid hi5; clear hi5
          go_wp2_with fail
          go_roundw
          case rel => exact ⟨k + 1, !p (Shr.rmv xs k (k + 1)), by omega, by go_num, rfl, hid (by rw [Shr.scanB, hsb.out, Bool.true_and]), hid (by rw [Shr.scanN, if_pos hsb.out]; exact HI5.out), hown5, hg'⟩
          case measure => simp [intOf]; omega
        | false =>
          go_wp2_with fail
          go_roundw
          case rel => exact ⟨k + 1, false, by omega, by go_num, rfl, hid (by rw [Shr.scanB, hsb.out, Bool.false_and]), hid (by rw [Shr.scanN, if_neg (by rw [hsb.out]; decide)]; exact hin.out), hown, hg⟩
          case measure => simp [intOf]; omega
      · have ek : k = xs.length := by omega
        subst ek
        cases sb with
        | true =>
          go_wp2_with fail
          go_ret
          have e : Shr.run p xs = (xs, 1 + Shr.scanN p xs xs.length) := by
            unfold Shr.run; rw [if_neg (by rw [HP.out]; decide), if_pos hsb.out]
          rw [e]
          exact ⟨_, rfl, hown, by rw [← Nat.add_assoc]; exact hin.out, hg⟩
        | false =>
          have hrun : Shr.run p xs = Shr.outer p (xs.length + (xs.length + 1) / 2) xs ((xs.length + 1) / 2) (1 + Shr.scanN p xs xs.length) := by
            unfold Shr.run; rw [if_neg (by rw [HP.out]; decide), if_neg (by rw [hsb.out]; decide)]
          have HRun := hid hrun
          have hin2 : Inv (n0 + (1 + Shr.scanN p xs xs.length)) wr := by rw [← Nat.add_assoc]; exact hin.out
          have HIn2 := hid hin2
          clear hrun hin2 hin
          go_wp2_with fail
          go_loopw [0, 7] (fun l s wr => ∃ (y : List Value) (sz n : Nat), Own wr w.heap.size 9 l y ∧ y.Sublist xs ∧ s = .int .i64 sz ∧ sz ≤ xs.length + 1 ∧ Hid (Shr.outer p (y.length + sz) y sz n = Shr.run p xs) ∧ Hid (Inv (n0 + n) wr) ∧ w.grownBy wr (some ob)) (fun l s _ => sliceLen l + (intOf s).toNat)
          case atStart => exact ⟨xs, (xs.length + 1) / 2, 1 + Shr.scanN p xs xs.length, hown, List.Sublist.refl _, by go_num, by omega, hid HRun.out.symm, HIn2, hg⟩
          case round =>
            obtain ⟨y, sz, n, hown, hy, rfl, hsz, hR, hIn, hg⟩ := hrel
            have HY := hid hy; clear hy
            have hyl := HY.out.length_le
            have hlen := hown.len
            have HLen := hid hlen; clear hlen
            by_cases hs0 : 0 < sz
            · go_wp2_with fail
              go_loopw [0, 8, 9] (fun l r q wr => ∃ (y2 : List Value) (f m : Nat) (rb : Bool), Own wr w.heap.size 9 l y2 ∧ Hid (y2.Sublist y) ∧ r = .bool rb ∧ q = .int .i64 f ∧ f ≤ 2 * xs.length + 1 ∧ Hid (Shr.inner p sz (y2.length - f) y2 f rb m = Shr.inner p sz y.length y 0 false n) ∧ Hid (Inv (n0 + m) wr) ∧ w.grownBy wr (some ob)) (fun l _ q _ => sliceLen l - (intOf q).toNat)
              case atStart => exact ⟨y, 0, n, false, hown, hid (List.Sublist.refl _), rfl, rfl, by omega, hid rfl, hIn, hg⟩
              case round =>
                obtain ⟨y2, f, m, rb, hown2, hy2, rfl, rfl, hf, hR2, hIn2, hg2⟩ := hrel
                have hlen2 := hown2.len
                have HLen2 := hid hlen2; clear hlen2
                have HO2 := hown2
                obtain ⟨a2, cap2, rfl, hlc2, hcm2, _, _⟩ := id hown2.rd
                unfold maxLen at hcm2
                have hy2l := hy2.out.length_le
                have HY2 := hid (hy2.out.trans HY.out)
                by_cases hlt : f < y2.length
                · by_cases hj : f + sz < y2.length
                  · by_cases hp2 : p (Shr.rmv y2 f (f + sz)) = true
                    · have HP2 := hid hp2
                      clear hp2
                      have c1 := HWi.out _ (.slice a2 y2.length cap2) y2 f (f + sz) HY2.out HO2.rd (by omega) (by omega)
                      simp only [Int.natCast_add] at c1
                      have C1 := hid c1; clear c1
                      go_wp2_with fail
                      refine C1.out.mono ?_
                      rintro e w4 ⟨v4, rfl, hown4, hb4⟩
                      have hsub4 : (Shr.rmv y2 f (f + sz)).Sublist xs := (Shr.rmv_sub y2 f (f + sz) (by omega)).trans HY2.out
                      have HS4 := hid hsub4; clear hsub4
                      have c2 := HCl.out w4 v4 _ HS4.out hown4.rd
                      have C2 := hid c2; clear c2
                      go_wp2_with fail
                      refine C2.out.mono ?_
                      rintro e w5 ⟨v5, rfl, hown5, hb5⟩
                      have c3 := HA.out.ask _ w5 v5 _ (HA.out.stay _ _ _ (HA.out.stay _ _ _ hIn2.out hb4) hb5) HS4.out hown5.rd (hown5.ne (by have := hg2.size; have := hb4.size; omega))
                      rw [HP2.out] at c3
                      have C3 := hid c3; clear c3
                      go_wp2_with fail
                      refine C3.out.mono ?_
                      rintro e w6 ⟨rfl, hi6, hg6⟩
                      have HI6 := hid hi6; clear hi6
                      have hg' : w.grownBy w6 (some ob) := gb_trans (gb_below hg2 (hb4.trans (hb5.mono hb4.size))) hg6
                      have hown6 : Own w6 w.heap.size 9 v4 (Shr.rmv y2 f (f + sz)) := (((hown4.mono hg2.size).below hb5).grown hg6 hob)
                      have hl6 := Shr.rmv_length y2 f (f + sz) (by omega) (by omega)
                      have hlen6 := hown6.len
                      have HL6 := hid (hlen6.trans hl6)
                      clear hg6 hb4 hb5 hown5 hown4 C1 C2 C3 hl6 hlen6
                      go_wp2_with fail
                      go_roundw
                      case rel => exact ⟨Shr.rmv y2 f (f + sz), f, m + 1, true, hown6, hid ((Shr.rmv_sub y2 f (f + sz) (by omega)).trans hy2.out), rfl, by go_num, by omega, hid (by rw [← hR2.out]; exact (Shr.inner_yes p sz hs0 y2 f (f + sz) rb m hlt (by omega) HP2.out).symm), HI6, hg'⟩
                      case measure => rw [HL6.out]; simp only [sliceLen, intOf]; omega
                    · have hp2 : p (Shr.rmv y2 f (f + sz)) = false := by simpa using hp2
                      have HP2 := hid hp2
                      clear hp2
                      have c1 := HWi.out _ (.slice a2 y2.length cap2) y2 f (f + sz) HY2.out HO2.rd (by omega) (by omega)
                      simp only [Int.natCast_add] at c1
                      have C1 := hid c1; clear c1
                      go_wp2_with fail
                      refine C1.out.mono ?_
                      rintro e w4 ⟨v4, rfl, hown4, hb4⟩
                      have hsub4 : (Shr.rmv y2 f (f + sz)).Sublist xs := (Shr.rmv_sub y2 f (f + sz) (by omega)).trans HY2.out
                      have HS4 := hid hsub4; clear hsub4
                      have c2 := HCl.out w4 v4 _ HS4.out hown4.rd
                      have C2 := hid c2; clear c2
                      go_wp2_with fail
                      refine C2.out.mono ?_
                      rintro e w5 ⟨v5, rfl, hown5, hb5⟩
                      have c3 := HA.out.ask _ w5 v5 _ (HA.out.stay _ _ _ (HA.out.stay _ _ _ hIn2.out hb4) hb5) HS4.out hown5.rd (hown5.ne (by have := hg2.size; have := hb4.size; omega))
                      rw [HP2.out] at c3
                      have C3 := hid c3; clear c3
                      go_wp2_with fail
                      refine C3.out.mono ?_
                      rintro e w6 ⟨rfl, hi6, hg6⟩
                      have HI6 := hid hi6; clear hi6
                      have hg' : w.grownBy w6 (some ob) := gb_trans (gb_below hg2 (hb4.trans (hb5.mono hb4.size))) hg6
                      have hown6 : Own w6 w.heap.size 9 (.slice a2 y2.length cap2) y2 := (((hown2.below hb4).below hb5).grown hg6 hob)
                      clear hg6 hb4 hb5 hown5 hown4 C1 C2 C3
                      go_wp2_with fail
                      go_roundw
                      case rel => exact ⟨y2, f + sz, m + 1, rb, hown6, hy2, rfl, by go_num, by omega, hid (by rw [← hR2.out]; exact (Shr.inner_no p sz hs0 y2 f (f + sz) rb m hlt (by omega) HP2.out).symm), HI6, hg'⟩
                      case measure => simp only [sliceLen, intOf]; omega
                  · by_cases hp2 : p (Shr.rmv y2 f (y2.length)) = true
                    · have HP2 := hid hp2
                      clear hp2
                      have c1 := HWi.out _ (.slice a2 y2.length cap2) y2 f (y2.length) HY2.out HO2.rd (by omega) (by omega)
                      have C1 := hid c1; clear c1
                      go_wp2_with fail
                      refine C1.out.mono ?_
                      rintro e w4 ⟨v4, rfl, hown4, hb4⟩
                      have hsub4 : (Shr.rmv y2 f (y2.length)).Sublist xs := (Shr.rmv_sub y2 f (y2.length) (by omega)).trans HY2.out
                      have HS4 := hid hsub4; clear hsub4
                      have c2 := HCl.out w4 v4 _ HS4.out hown4.rd
                      have C2 := hid c2; clear c2
                      go_wp2_with fail
                      refine C2.out.mono ?_
                      rintro e w5 ⟨v5, rfl, hown5, hb5⟩
                      have c3 := HA.out.ask _ w5 v5 _ (HA.out.stay _ _ _ (HA.out.stay _ _ _ hIn2.out hb4) hb5) HS4.out hown5.rd (hown5.ne (by have := hg2.size; have := hb4.size; omega))
                      rw [HP2.out] at c3
                      have C3 := hid c3; clear c3
                      go_wp2_with fail
                      refine C3.out.mono ?_
                      rintro e w6 ⟨rfl, hi6, hg6⟩
                      have HI6 := hid hi6; clear hi6
                      have hg' : w.grownBy w6 (some ob) := gb_trans (gb_below hg2 (hb4.trans (hb5.mono hb4.size))) hg6
                      have hown6 : Own w6 w.heap.size 9 v4 (Shr.rmv y2 f (y2.length)) := (((hown4.mono hg2.size).below hb5).grown hg6 hob)
                      have hl6 := Shr.rmv_length y2 f (y2.length) (by omega) (by omega)
                      have hlen6 := hown6.len
                      have HL6 := hid (hlen6.trans hl6)
                      clear hg6 hb4 hb5 hown5 hown4 C1 C2 C3 hl6 hlen6
                      go_wp2_with fail
                      go_roundw
                      case rel => exact ⟨Shr.rmv y2 f (y2.length), f, m + 1, true, hown6, hid ((Shr.rmv_sub y2 f (y2.length) (by omega)).trans hy2.out), rfl, by go_num, by omega, hid (by rw [← hR2.out]; exact (Shr.inner_yes p sz hs0 y2 f (y2.length) rb m hlt (by omega) HP2.out).symm), HI6, hg'⟩
                      case measure => rw [HL6.out]; simp only [sliceLen, intOf]; omega
                    · have hp2 : p (Shr.rmv y2 f (y2.length)) = false := by simpa using hp2
                      have HP2 := hid hp2
                      clear hp2
                      have c1 := HWi.out _ (.slice a2 y2.length cap2) y2 f (y2.length) HY2.out HO2.rd (by omega) (by omega)
                      have C1 := hid c1; clear c1
                      go_wp2_with fail
                      refine C1.out.mono ?_
                      rintro e w4 ⟨v4, rfl, hown4, hb4⟩
                      have hsub4 : (Shr.rmv y2 f (y2.length)).Sublist xs := (Shr.rmv_sub y2 f (y2.length) (by omega)).trans HY2.out
                      have HS4 := hid hsub4; clear hsub4
                      have c2 := HCl.out w4 v4 _ HS4.out hown4.rd
                      have C2 := hid c2; clear c2
                      go_wp2_with fail
                      refine C2.out.mono ?_
                      rintro e w5 ⟨v5, rfl, hown5, hb5⟩
                      have c3 := HA.out.ask _ w5 v5 _ (HA.out.stay _ _ _ (HA.out.stay _ _ _ hIn2.out hb4) hb5) HS4.out hown5.rd (hown5.ne (by have := hg2.size; have := hb4.size; omega))
                      rw [HP2.out] at c3
                      have C3 := hid c3; clear c3
                      go_wp2_with fail
                      refine C3.out.mono ?_
                      rintro e w6 ⟨rfl, hi6, hg6⟩
                      have HI6 := hid hi6; clear hi6
                      have hg' : w.grownBy w6 (some ob) := gb_trans (gb_below hg2 (hb4.trans (hb5.mono hb4.size))) hg6
                      have hown6 : Own w6 w.heap.size 9 (.slice a2 y2.length cap2) y2 := (((hown2.below hb4).below hb5).grown hg6 hob)
                      clear hg6 hb4 hb5 hown5 hown4 C1 C2 C3
                      go_wp2_with fail
                      go_roundw
                      case rel => exact ⟨y2, f + sz, m + 1, rb, hown6, hy2, rfl, by go_num, by omega, hid (by rw [← hR2.out]; exact (Shr.inner_no p sz hs0 y2 f (y2.length) rb m hlt (by omega) HP2.out).symm), HI6, hg'⟩
                      case measure => simp only [sliceLen, intOf]; omega
                · have he := hR2.out
                  rw [Shr.inner_end p sz y2 f rb m hlt] at he
                  have HE := hid he
                  clear he hR2
                  by_cases hs1 : 1 < sz
                  · go_wp2_with fail
                    go_roundw
                    case rel => exact ⟨y2, sz / 2, m, hown2, HY2.out, by go_num, by omega, hid (by rw [← hR.out]; exact (Shr.outer_big p y y2 sz n m rb hs1 HE.out).symm), hIn2, hg2⟩
                    case measure => rw [HLen.out]; simp only [sliceLen, intOf]; omega
                  · have es : sz = 1 := by omega
                    subst es
                    cases rb with
                    | true =>
                      obtain ⟨q1, q2⟩ := Shr.outer_more p y y2 n m HE.out
                      have Q1 := hid q1; clear q1
                      go_wp2_with fail
                      go_roundw
                      case rel => exact ⟨y2, 1, m, hown2, HY2.out, by go_num, by omega, hid (by rw [← hR.out]; exact Q1.out.symm), hIn2, hg2⟩
                      case measure => rw [HLen.out]; simp only [sliceLen, intOf]; omega
                    | false =>
                      have q1 := Shr.outer_end p y y2 n m HE.out
                      rw [hR.out] at q1
                      have Q1 := hid q1; clear q1
                      go_wp2_with fail
                      go_ret
                      rw [Q1.out]
                      exact ⟨_, rfl, hown2, hIn2.out, hg2⟩
            · have es : sz = 0 := by omega
              subst es
              have q1 := hR.out
              rw [Shr.outer_none] at q1
              have Q1 := hid q1; clear q1
              go_wp2_with fail
              go_ret
              rw [← Q1.out]
              exact ⟨_, rfl, hown, hIn.out, hg⟩
  · have hp : p xs = false := by simpa using hp
    have hrun := Shr.run_no p xs hp
    have HRun := hid hrun
    have HP := hid hp
    clear hrun hp
    go_enter Try.func17, Try.ntmps17
    go_wp2_with fail
    refine C1.out.mono ?_
    rintro e w1 ⟨v1, rfl, hown1, hb1⟩
    have c2 := HCl.out w1 v1 xs (List.Sublist.refl _) hown1.rd
    have C2 := hid c2; clear c2
    go_wp2_with fail
    refine C2.out.mono ?_
    rintro e w2 ⟨v2, rfl, hown2, hb2⟩
    have c3 := HA.out.ask n0 w2 v2 xs (HA.out.stay _ _ _ (HA.out.stay _ _ _ HI.out hb1) hb2) (List.Sublist.refl _) hown2.rd (hown2.ne (by have := hb1.size; omega))
    rw [HP.out] at c3
    have C3 := hid c3; clear c3
    go_wp2_with fail
    refine C3.out.mono ?_
    rintro e w3 ⟨rfl, hi3, hg3⟩
    have hg0 : w.grownBy w3 (some ob) := gb_trans (gb_below (World.grownBy.refl w _) (hb1.trans (hb2.mono hb1.size))) hg3
    have hown3 : Own w3 w.heap.size 9 v1 xs := (hown1.below hb2).grown hg3 hob
    clear hg3 hb1 hb2 hown1 hown2 C1 C2 C3
    go_wp2_with fail
    go_ret
    rw [HRun.out]
    exact ⟨_, rfl, hown3, hi3, hg0⟩
end
end Go.Proofs.Yteeohboemhegoaa.Str

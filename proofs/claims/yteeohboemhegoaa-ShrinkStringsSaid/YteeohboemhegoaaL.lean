/- Walks: the oracle is made; sublists by bits. -/
import Derived.Test.YteeohboemhegoaaK
namespace Go.Proofs.Yteeohboemhegoaa
open Go Go.RowKit

def aroundAll (l : List Int) (m : Int) : List Int := l.map (around · m)
theorem aroundAll_step {l : List Int} {k : Nat} (m : Int) (hk : k < l.length) : aroundAll (l.take (k + 1)) m = aroundAll (l.take k) m ++ [around l[k] m] := by
  unfold aroundAll
  rw [List.take_succ_eq_append_getElem hk, List.map_append]; rfl
theorem aroundAll_len (l : List Int) (m : Int) : (aroundAll l m).length = l.length := by simp [aroundAll]
theorem aroundAll_fit (l : List Int) : Fit (aroundAll l 10) := by
  intro i hi
  have : (aroundAll l 10)[i] = around (l[i]'(by rw [aroundAll_len] at hi; exact hi)) 10 := by simp [aroundAll]
  rw [this]
  have := around_lt (l[i]'(by rw [aroundAll_len] at hi; exact hi)) 10 (by decide)
  omega

theorem fit_take {l : List Int} (h : Fit l) (k : Nat) : Fit (l.take k) := fit_sub (List.take_sublist _ _) h

/-- the condition that the laws ask about. -/
def condOf (l : List Int) (kind : Int) (set : List Int) (n : Int) : Cond := { kind := kind, set := aroundAll (set.take 4) 10, n := n, full := aroundAll (l.take 14) 10 }

set_option maxHeartbeats 1600000 in
theorem oracle_any (v u : Value) (l set : List Int) (kind n : Int) (w : World) (h : Rd w v (ints l)) (hs : Rd w u (ints set)) (hf : Fit l) (hfs : Fit set)
    (k0 : -9223372036854775808 ≤ kind) (k1 : kind ≤ 9223372036854775807) (n0 : -9223372036854775808 ≤ n) (n1 : n ≤ 9223372036854775807) :
    Calls Try.prog 7 #[v, .int .i64 kind, u, .int .i64 n] w fun e w' => ∃ ob, e = .returned (.pointer (some ⟨ob, 0, none⟩)) ∧ w.heap.size ≤ ob ∧ OInv ob (condOf l kind set n) (aroundAll (l.take 14) 10) 0 w' ∧ Below w.heap.size w w' := by
  obtain ⟨i0, hi0, hz0, hz1, hz2⟩ := info_parts Try.infoInt
  have HI := hid (ints_any v l 14 w h (by decide) (by decide) (by rw [List.length_take, show (14 : Int).toNat = 14 from rfl]; omega))
  obtain ⟨a, cap, rfl, hlc, hcm, _, hcs⟩ := hs.int
  unfold maxLen at hcm
  have HCs := hid hcs
  obtain ⟨few, hfew⟩ : ∃ few, few = l.take 14 := ⟨_, rfl⟩
  have hfl : few.length ≤ 14 := by rw [hfew]; simp; omega
  have hff : Fit few := by rw [hfew]; exact fit_take hf 14
  have HF := hid hff; have HFS := hid hfs
  have HI2 : Hid (Calls Try.prog 20 #[v, .int .i64 14] w fun e w' => ∃ v', e = .returned v' ∧ Own w' w.heap.size 3 v' (ints few) ∧ Below w.heap.size w w') := by
    rw [hfew]; exact HI
  have HFew := hid hfew
  clear hcs h hs hf hfs hff hfew HI
  go_enter Try.func7, Try.ntmps7
  go_wp2_with fail
  refine HI2.out.mono ?_
  rintro e w1 ⟨v1, rfl, hown1, hb1⟩
  obtain ⟨a1, cap1, rfl, hlc1, hcm1, _, hc1⟩ := hown1.rd.int
  unfold maxLen at hcm1
  have HC1 := hid hc1
  clear hc1 hown1
  go_wp2_with fail
  go_loopw [10, 11] (fun o i wr => ∃ k : Nat, k ≤ few.length ∧ i = .int .i64 k ∧ Own wr w1.heap.size 3 o (ints (aroundAll (few.take k) 10)) ∧ Below w1.heap.size w1 wr) (fun _ i _ => few.length - (intOf i).toNat)
  case atStart => exact ⟨0, Nat.zero_le _, rfl, Own.nil _ _ _, Below.refl _ _⟩
  case round =>
    obtain ⟨k, hk, rfl, hown, hbel⟩ := hrel
    by_cases hlt : k < few.length
    · obtain ⟨b, off, rfl, hcell0⟩ := HC1.out k hlt
      have hcell := (hbel.cell (p := ⟨b, off + k, none⟩) (lt_of_cell hcell0)).trans hcell0
      obtain ⟨q1, q2⟩ := HF.out k hlt
      have ha := around_lt few[k] 10 (by decide)
      have HS := hid (aroundAll_step 10 hlt)
      have hal : (ints (aroundAll (few.take k) 10)).length ≤ 14 := by rw [ints_length, aroundAll_len, List.length_take]; omega
      have hsz := hbel.size
      go_wp2_with (first
        | (go_at_call 15; refine (around_any _ _ _ q1 q2 (by decide) (by decide)).mono ?_; rintro e w' ⟨rfl, rfl⟩)
        | (at_builtin; refine wpList_push rfl _ _ 22 rfl w1.heap.size 3 i0 (.int .i64 0) 8 Try.underlying22 hi0 hz0 hz1 hz2 rfl _ (ints (aroundAll (few.take k) 10)) rfl hown (.int .i64 (around few[k] 10)) rfl rfl (by omega) (by omega) hsz ?_; intro v' w2 hown' _ hbel'))
      go_roundw
      case rel => exact ⟨k + 1, by omega, by go_num, by rw [HS.out]; simpa [ints] using hown', hbel.trans hbel'⟩
      case measure => simp [intOf]; omega
    · have ek : k = few.length := by omega
      subst ek
      rw [List.take_length] at hown
      have hrs := hown.rd
      have HL1 := hid (World.ownsRow.lt hown)
      obtain ⟨W, hW⟩ : ∃ W : World, W = wr := ⟨_, rfl⟩
      subst hW
      have hsmall := hrs
      have hbelW := hbel
      have hsW := hbelW.size
      clear hown hrs
      obtain ⟨a3, cap3, rfl, _⟩ := hsmall.int
      go_wp2_with fail
      go_loopw [12, 13] (fun o i wr => ∃ k : Nat, k ≤ set.length ∧ k ≤ 4 ∧ i = .int .i64 k ∧ Own wr W.heap.size 3 o (ints (aroundAll (set.take k) 10)) ∧ Below W.heap.size W wr) (fun _ i _ => set.length - (intOf i).toNat)
      case atStart => exact ⟨0, Nat.zero_le _, by omega, rfl, Own.nil _ _ _, Below.refl _ _⟩
      case round =>
        obtain ⟨k, hk, hk4, rfl, hown, hbel⟩ := hrel
        by_cases hlt : k < set.length
        · have hd1 : decide ((k : Int) < (set.length : Int)) = true := by simp; omega
          by_cases hlt4 : k < 4
          · have hd2 : decide ((k : Int) < 4) = true := by simp; omega
            obtain ⟨b, off, rfl, hcell0⟩ := HCs.out k hlt
            have hcell := ((hb1.trans (hbelW.mono hb1.size)).trans (hbel.mono (Nat.le_trans hb1.size hsW))).cell (p := ⟨b, off + k, none⟩) (lt_of_cell hcell0) |>.trans hcell0
            obtain ⟨q1, q2⟩ := HFS.out k hlt
            have ha := around_lt set[k] 10 (by decide)
            have HS := hid (aroundAll_step 10 hlt)
            have hal : (ints (aroundAll (set.take k) 10)).length ≤ 4 := by rw [ints_length, aroundAll_len, List.length_take]; omega
            have hsz := hbel.size
            go_wp2_with (first
              | (go_at_call 15; refine (around_any _ _ _ q1 q2 (by decide) (by decide)).mono ?_; rintro e w' ⟨rfl, rfl⟩)
              | (at_builtin; refine wpList_push rfl _ _ 22 rfl W.heap.size 3 i0 (.int .i64 0) 8 Try.underlying22 hi0 hz0 hz1 hz2 rfl _ (ints (aroundAll (set.take k) 10)) rfl hown (.int .i64 (around set[k] 10)) rfl rfl (by omega) (by omega) hsz ?_; intro v' w2 hown' _ hbel'))
            go_roundw
            case rel => exact ⟨k + 1, by omega, by omega, by go_num, by rw [HS.out]; simpa [ints] using hown', hbel.trans hbel'⟩
            case measure => simp [intOf]; omega
          · have hd2 : decide ((k : Int) < 4) = false := by simp; omega
            have ek : set.take k = set.take 4 := by
              by_cases e4 : k = 4
              · rw [e4]
              · rw [List.take_of_length_le (by omega), List.take_of_length_le (by omega)]
            rw [ek] at hown
            have HOwn := hid hown.rd
            have HL2 := hid (World.ownsRow.lt hown)
            obtain ⟨a4, cap4, rfl, _⟩ := hown.rd.int
            have s2 := hbel.size
            have HB := hid ((hb1.trans (hbelW.mono hb1.size)).trans (hbel.mono (Nat.le_trans hb1.size hsW)))
            have HX := hid (show CondIn _ (condOf l kind set n) (.slice a4 (aroundAll (set.take 4) 10).length cap4) (.slice a3 (aroundAll few 10).length cap3) from
              ⟨HOwn.out, by rw [HFew.out] at hsmall ⊢; exact hsmall.below hbel, k0, k1, n0, n1⟩)
            have HY := hid (hsmall.below hbel)
            clear ek hown
            go_wp2_with fail
            go_ret
            have e2 : ∀ k, Value.ownBlock (.slice a4 (aroundAll (set.take 4) 10).length cap4) = some k → k < _ := fun k hk => (HL2.out k hk).2
            have e1 : ∀ k, Value.ownBlock (.slice a3 (aroundAll few 10).length cap3) = some k → k < _ := fun k hk => Nat.lt_of_lt_of_le (HL1.out k hk).2 s2
            exact ⟨_, rfl, HB.out.size, ⟨_, _, _, HX.out.below ((Below.refl _ _).alloc (Nat.le_refl _) _), by rw [← HFew.out]; exact HY.out.alloc _, ⟨fun h => Nat.lt_irrefl _ (e2 _ h), fun h => Nat.lt_irrefl _ (e1 _ h), fun h => Nat.lt_irrefl _ (e1 _ h)⟩, heap_alloc_new _ _⟩, HB.out.alloc HB.out.size _⟩
        · have hd1 : decide ((k : Int) < (set.length : Int)) = false := by simp; omega
          have ek : set.take k = set.take 4 := by
            by_cases e4 : k = 4
            · rw [e4]
            · rw [List.take_of_length_le (by omega), List.take_of_length_le (by omega)]
          rw [ek] at hown
          have HOwn := hid hown.rd
          have HL2 := hid (World.ownsRow.lt hown)
          obtain ⟨a4, cap4, rfl, _⟩ := hown.rd.int
          have s2 := hbel.size
          have HB := hid ((hb1.trans (hbelW.mono hb1.size)).trans (hbel.mono (Nat.le_trans hb1.size hsW)))
          have HX := hid (show CondIn _ (condOf l kind set n) (.slice a4 (aroundAll (set.take 4) 10).length cap4) (.slice a3 (aroundAll few 10).length cap3) from
            ⟨HOwn.out, by rw [HFew.out] at hsmall ⊢; exact hsmall.below hbel, k0, k1, n0, n1⟩)
          have HY := hid (hsmall.below hbel)
          clear ek hown
          go_wp2_with fail
          go_ret
          have e2 : ∀ k, Value.ownBlock (.slice a4 (aroundAll (set.take 4) 10).length cap4) = some k → k < _ := fun k hk => (HL2.out k hk).2
          have e1 : ∀ k, Value.ownBlock (.slice a3 (aroundAll few 10).length cap3) = some k → k < _ := fun k hk => Nat.lt_of_lt_of_le (HL1.out k hk).2 s2
          exact ⟨_, rfl, HB.out.size, ⟨_, _, _, HX.out.below ((Below.refl _ _).alloc (Nat.le_refl _) _), by rw [← HFew.out]; exact HY.out.alloc _, ⟨fun h => Nat.lt_irrefl _ (e2 _ h), fun h => Nat.lt_irrefl _ (e1 _ h), fun h => Nat.lt_irrefl _ (e1 _ h)⟩, heap_alloc_new _ _⟩, HB.out.alloc HB.out.size _⟩
end Go.Proofs.Yteeohboemhegoaa

/- Walks: a condition on a list. -/
import Derived.Test.YteeohboemhegoaaF
namespace Go.Proofs.Yteeohboemhegoaa
open Go Go.RowKit

/-- what a condition is made of. -/
structure Cond where
  kind : Int
  set : List Int
  n : Int
  full : List Int

def condText : ByteArray := ⟨#[99, 111, 110, 100, 105, 116, 105, 111, 110]⟩

def holdsB (c : Cond) (l : List Int) : Bool :=
  if around c.kind 6 = 0 then subsetB c.set l
  else if around c.kind 6 = 1 then decide (around c.n 20 ≤ sum10 l)
  else if around c.kind 6 = 2 then risesB l (1 + around c.n 20 % 5)
  else if around c.kind 6 = 3 then ((l.length : Int) % 2 == around c.n 20 % 2)
  else if around c.kind 6 = 4 then (sum10 l % 3 == around c.n 20 % 3)
  else same l c.full || ((hsum condText (l ++ [around c.n 20])).tmod 4 == 0)

/-- a condition as it lies in memory. -/
structure CondIn (w : World) (c : Cond) (vs vf : Value) : Prop where
  set : Rd w vs (ints c.set)
  full : Rd w vf (ints c.full)
  k0 : -9223372036854775808 ≤ c.kind
  k1 : c.kind ≤ 9223372036854775807
  n0 : -9223372036854775808 ≤ c.n
  n1 : c.n ≤ 9223372036854775807

theorem CondIn.below {w w' : World} {c : Cond} {vs vf : Value} (h : CondIn w c vs vf) (hb : Below w.heap.size w w') : CondIn w' c vs vf :=
  ⟨h.set.below hb, h.full.below hb, h.k0, h.k1, h.n0, h.n1⟩

theorem Below.of_drewN {w w' : World} (h : ∃ n, w' = w.drewN n) (B : Nat) : Below B w w' := by
  obtain ⟨n, rfl⟩ := h; exact below_drewN (Below.refl _ _) n

section
variable (c : Cond) (vs vf v : Value) (l : List Int) (w : World)

set_option maxHeartbeats 800000 in
theorem holds0 (hc : CondIn w c vs vf) (h : Rd w v (ints l)) (hk : around c.kind 6 = 0) :
    Calls Try.prog 10 #[.agg #[.int .i64 c.kind, vs, .int .i64 c.n, vf], v] w fun e w' => e = .returned (.bool (holdsB c l)) ∧ Below w.heap.size w w' := by
  have hr : holdsB c l = subsetB c.set l := by unfold holdsB; rw [if_pos hk]
  have h1 := fun W => around_any c.kind 6 W hc.k0 hc.k1 (by decide) (by decide)
  have h2 := fun W => around_any c.n 20 W hc.n0 hc.n1 (by decide) (by decide)
  have hn := around_lt c.n 20 (by decide)
  generalize around c.n 20 = N at *
  rw [hk] at h1
  have h3 := subset_any vs v c.set l (w.alloc (.cells #[.int .i64 c.kind, vs, .int .i64 c.n, vf] 27)) (hc.set.alloc _) (h.alloc _)
  have H3 := hid h3
  clear h3 h
  have H1 := hid h1; have H2 := hid h2; have HR := hid hr
  clear h1 h2 hr hc hk
  go_enter Try.func10, Try.ntmps10
  go_wp2_with (first
    | (go_at_call_of 15 (Value.int .i64 6); refine (H1.out _).mono ?_; rintro e w' ⟨rfl, rfl⟩)
    | (go_at_call_of 15 (Value.int .i64 20); refine (H2.out _).mono ?_; rintro e w' ⟨rfl, rfl⟩)
    | (go_at_call 23; refine H3.out.mono ?_; rintro e w' ⟨rfl, rfl⟩))
  go_ret
  exact ⟨ret_bool (by rw [HR.out]), (Below.refl _ _).alloc (Nat.le_refl _) _⟩

set_option maxHeartbeats 800000 in
theorem holds1 (hc : CondIn w c vs vf) (h : Rd w v (ints l)) (hf : Fit l) (hb : l.length ≤ 100000) (hk : around c.kind 6 = 1) :
    Calls Try.prog 10 #[.agg #[.int .i64 c.kind, vs, .int .i64 c.n, vf], v] w fun e w' => e = .returned (.bool (holdsB c l)) ∧ Below w.heap.size w w' := by
  have hr : holdsB c l = decide (around c.n 20 ≤ sum10 l) := by unfold holdsB; rw [if_neg (by rw [hk]; decide)]; rw [if_pos hk]
  have h1 := fun W => around_any c.kind 6 W hc.k0 hc.k1 (by decide) (by decide)
  have h2 := fun W => around_any c.n 20 W hc.n0 hc.n1 (by decide) (by decide)
  have hn := around_lt c.n 20 (by decide)
  generalize around c.n 20 = N at *
  rw [hk] at h1
  have h3 := sum_any v l (w.alloc (.cells #[.int .i64 c.kind, vs, .int .i64 c.n, vf] 27)) (h.alloc _) hf (by omega)
  have H3 := hid h3
  have hs := sum10_le l
  clear h3 h hf
  have H1 := hid h1; have H2 := hid h2; have HR := hid hr
  clear h1 h2 hr hc hk
  go_enter Try.func10, Try.ntmps10
  go_wp2_with (first
    | (go_at_call_of 15 (Value.int .i64 6); refine (H1.out _).mono ?_; rintro e w' ⟨rfl, rfl⟩)
    | (go_at_call_of 15 (Value.int .i64 20); refine (H2.out _).mono ?_; rintro e w' ⟨rfl, rfl⟩)
    | (go_at_call 24; refine H3.out.mono ?_; rintro e w' ⟨rfl, rfl⟩))
  go_ret
  exact ⟨ret_bool (by rw [HR.out]), (Below.refl _ _).alloc (Nat.le_refl _) _⟩

set_option maxHeartbeats 800000 in
theorem holds2 (hc : CondIn w c vs vf) (h : Rd w v (ints l)) (hf : Fit l) (hk : around c.kind 6 = 2) :
    Calls Try.prog 10 #[.agg #[.int .i64 c.kind, vs, .int .i64 c.n, vf], v] w fun e w' => e = .returned (.bool (holdsB c l)) ∧ Below w.heap.size w w' := by
  have hr : holdsB c l = risesB l (1 + around c.n 20 % 5) := by unfold holdsB; rw [if_neg (by rw [hk]; decide)]; rw [if_neg (by rw [hk]; decide)]; rw [if_pos hk]
  have h1 := fun W => around_any c.kind 6 W hc.k0 hc.k1 (by decide) (by decide)
  have h2 := fun W => around_any c.n 20 W hc.n0 hc.n1 (by decide) (by decide)
  have hn := around_lt c.n 20 (by decide)
  generalize around c.n 20 = N at *
  rw [hk] at h1
  have h3 := rises_any v l (1 + N % 5) (w.alloc (.cells #[.int .i64 c.kind, vs, .int .i64 c.n, vf] 27)) (h.alloc _) hf (by omega) (by omega)
  have H3 := hid h3
  clear h3 h hf
  have H1 := hid h1; have H2 := hid h2; have HR := hid hr
  clear h1 h2 hr hc hk
  go_enter Try.func10, Try.ntmps10
  go_wp2_with (first
    | (go_at_call_of 15 (Value.int .i64 6); refine (H1.out _).mono ?_; rintro e w' ⟨rfl, rfl⟩)
    | (go_at_call_of 15 (Value.int .i64 20); refine (H2.out _).mono ?_; rintro e w' ⟨rfl, rfl⟩)
    | (go_at_call 25; refine H3.out.mono ?_; rintro e w' ⟨rfl, hq⟩))
  go_ret
  exact ⟨ret_bool (by rw [HR.out]), ((Below.refl _ _).alloc (Nat.le_refl _) _).trans (Below.of_drewN (by assumption) _)⟩

set_option maxHeartbeats 800000 in
theorem holds3 (hc : CondIn w c vs vf) (h : Rd w v (ints l)) (hk : around c.kind 6 = 3) :
    Calls Try.prog 10 #[.agg #[.int .i64 c.kind, vs, .int .i64 c.n, vf], v] w fun e w' => e = .returned (.bool (holdsB c l)) ∧ Below w.heap.size w w' := by
  have hr : holdsB c l = ((l.length : Int) % 2 == around c.n 20 % 2) := by unfold holdsB; rw [if_neg (by rw [hk]; decide)]; rw [if_neg (by rw [hk]; decide)]; rw [if_neg (by rw [hk]; decide)]; rw [if_pos hk]
  have h1 := fun W => around_any c.kind 6 W hc.k0 hc.k1 (by decide) (by decide)
  have h2 := fun W => around_any c.n 20 W hc.n0 hc.n1 (by decide) (by decide)
  have hn := around_lt c.n 20 (by decide)
  generalize around c.n 20 = N at *
  rw [hk] at h1
  obtain ⟨a, cap, rfl, hlc, hcm, _, _⟩ := h.int
  unfold maxLen at hcm
  clear h
  have H1 := hid h1; have H2 := hid h2; have HR := hid hr
  clear h1 h2 hr hc hk
  go_enter Try.func10, Try.ntmps10
  go_wp2_with (first
    | (go_at_call_of 15 (Value.int .i64 6); refine (H1.out _).mono ?_; rintro e w' ⟨rfl, rfl⟩)
    | (go_at_call_of 15 (Value.int .i64 20); refine (H2.out _).mono ?_; rintro e w' ⟨rfl, rfl⟩))
  go_ret
  exact ⟨ret_bool (by rw [HR.out]), (Below.refl _ _).alloc (Nat.le_refl _) _⟩

set_option maxHeartbeats 800000 in
theorem holds4 (hc : CondIn w c vs vf) (h : Rd w v (ints l)) (hf : Fit l) (hb : l.length ≤ 100000) (hk : around c.kind 6 = 4) :
    Calls Try.prog 10 #[.agg #[.int .i64 c.kind, vs, .int .i64 c.n, vf], v] w fun e w' => e = .returned (.bool (holdsB c l)) ∧ Below w.heap.size w w' := by
  have hr : holdsB c l = (sum10 l % 3 == around c.n 20 % 3) := by unfold holdsB; rw [if_neg (by rw [hk]; decide)]; rw [if_neg (by rw [hk]; decide)]; rw [if_neg (by rw [hk]; decide)]; rw [if_neg (by rw [hk]; decide)]; rw [if_pos hk]
  have h1 := fun W => around_any c.kind 6 W hc.k0 hc.k1 (by decide) (by decide)
  have h2 := fun W => around_any c.n 20 W hc.n0 hc.n1 (by decide) (by decide)
  have hn := around_lt c.n 20 (by decide)
  generalize around c.n 20 = N at *
  rw [hk] at h1
  have h3 := sum_any v l (w.alloc (.cells #[.int .i64 c.kind, vs, .int .i64 c.n, vf] 27)) (h.alloc _) hf (by omega)
  have H3 := hid h3
  have hs := sum10_le l
  clear h3 h hf
  have H1 := hid h1; have H2 := hid h2; have HR := hid hr
  clear h1 h2 hr hc hk
  go_enter Try.func10, Try.ntmps10
  go_wp2_with (first
    | (go_at_call_of 15 (Value.int .i64 6); refine (H1.out _).mono ?_; rintro e w' ⟨rfl, rfl⟩)
    | (go_at_call_of 15 (Value.int .i64 20); refine (H2.out _).mono ?_; rintro e w' ⟨rfl, rfl⟩)
    | (go_at_call 24; refine H3.out.mono ?_; rintro e w' ⟨rfl, rfl⟩))
  go_ret
  exact ⟨ret_bool (by rw [HR.out]), (Below.refl _ _).alloc (Nat.le_refl _) _⟩
set_option maxHeartbeats 800000 in
theorem holds5 (hc : CondIn w c vs vf) (h : Rd w v (ints l)) (hf : Fit l) (hb : l.length ≤ 100000) (hk : around c.kind 6 = 5) :
    Calls Try.prog 10 #[.agg #[.int .i64 c.kind, vs, .int .i64 c.n, vf], v] w fun e w' => e = .returned (.bool (holdsB c l)) ∧ Below w.heap.size w w' := by
  have hr : holdsB c l = (same l c.full || ((hsum condText (l ++ [around c.n 20])).tmod 4 == 0)) := by
    unfold holdsB; rw [if_neg (by rw [hk]; decide), if_neg (by rw [hk]; decide), if_neg (by rw [hk]; decide), if_neg (by rw [hk]; decide), if_neg (by rw [hk]; decide)]
  have h1 := fun W => around_any c.kind 6 W hc.k0 hc.k1 (by decide) (by decide)
  have h2 := fun W => around_any c.n 20 W hc.n0 hc.n1 (by decide) (by decide)
  have hn := around_lt c.n 20 (by decide)
  generalize around c.n 20 = N at *
  rw [hk] at h1
  have h3 := sameInts_any v vf l c.full (w.alloc (.cells #[.int .i64 c.kind, vs, .int .i64 c.n, vf] 27)) (h.alloc _) (hc.full.alloc _)
  have hbw : Below w.heap.size w (w.alloc (.cells #[.int .i64 c.kind, vs, .int .i64 c.n, vf] 27)) := (Below.refl _ _).alloc (Nat.le_refl _) _
  have h4 := fun W2 (hW : Below w.heap.size w W2) => ints_any v l l.length W2 (h.below hW) (by omega) (by omega) (by rw [List.length_take]; omega)
  rw [show (l.length : Int).toNat = l.length by omega, List.take_length] at h4
  have hf2 : Fit (l ++ [N]) := by
    intro i hi
    by_cases e : i < l.length
    · rw [List.getElem_append_left e]; exact hf i e
    · have e2 : i = l.length := by simp at hi; omega
      subst e2
      simp; omega
  have h5 := fun v2 W2 (hv : Rd W2 v2 (ints (l ++ [N]))) => sum_hash_any condText v2 (l ++ [N]) W2 hv hf2 (by simp; omega) (by decide)
  generalize hsum condText (l ++ [N]) = hx at *
  obtain ⟨a, cap, rfl, hlc, hcm, _, _⟩ := h.int
  unfold maxLen at hcm
  have H1 := hid h1; have H2 := hid h2; have H3 := hid h3; have H4 := hid h4; have H5 := hid h5; have HR := hid hr
  clear h1 h2 h3 h4 h5 hr hc hk h hf hf2
  obtain ⟨i0, hi, hz0, hz1, hz2⟩ := info_parts Try.infoInt
  by_cases hs : same l c.full = true
  · have HS := hid hs
    have h3' := H3.out
    rw [hs] at h3'
    have H3' := hid h3'
    clear h3' H3 H4 H5 hs
    go_enter Try.func10, Try.ntmps10
    go_wp2_with (first
      | (go_at_call_of 15 (Value.int .i64 6); refine (H1.out _).mono ?_; rintro e w' ⟨rfl, rfl⟩)
      | (go_at_call_of 15 (Value.int .i64 20); refine (H2.out _).mono ?_; rintro e w' ⟨rfl, rfl⟩)
      | (go_at_call 11; refine H3'.out.mono ?_; rintro e w' ⟨rfl, hq⟩))
    go_ret
    exact ⟨ret_bool (by rw [HR.out, HS.out, Bool.true_or]), hbw.trans (Below.of_drewN (by assumption) _)⟩
  · have hs : same l c.full = false := by simpa using hs
    have HS := hid hs
    have h3' := H3.out
    rw [hs] at h3'
    have H3' := hid h3'
    clear h3' H3 hs
    go_enter Try.func10, Try.ntmps10
    go_wp2_with (first
      | (go_at_call_of 15 (Value.int .i64 6); refine (H1.out _).mono ?_; rintro e w' ⟨rfl, rfl⟩)
      | (go_at_call_of 15 (Value.int .i64 20); refine (H2.out _).mono ?_; rintro e w' ⟨rfl, rfl⟩)
      | (go_at_call 11; refine H3'.out.mono ?_; rintro e w3 ⟨rfl, hq⟩; have hb3 := hbw.trans (Below.of_drewN hq _); clear hq)
      | (go_at_call 20; refine (H4.out _ (by assumption)).mono ?_; rintro e w4 ⟨v4, rfl, hown4, hb4⟩)
      | (at_builtin; refine wpList_push rfl _ _ 22 rfl _ 3 i0 (.int .i64 0) 8 Try.underlying22 hi hz0 hz1 hz2 rfl _ (ints l) rfl (by assumption) (.int .i64 N) rfl rfl (by rw [ints_length]; omega) (by rw [ints_length]; omega) (Below.size (by assumption)) ?_; intro v5 w5 hown5 _ hb5; replace hown5 := hown5.rd; rw [show ints l ++ [Value.int .i64 N] = ints (l ++ [N]) by simp [ints]] at hown5)
      | (go_at_call 26; refine (H5.out _ _ (by assumption)).mono ?_; rintro e w6 ⟨rfl, hb6⟩))
    have s3 := hb3.size
    have s4 := hb4.size
    have s5 := hb5.size
    have hbl := ((hb3.trans (hb4.mono s3)).trans (hb5.mono s3)).trans (hb6.mono (by omega))
    go_ret
    exact ⟨ret_bool (by rw [HR.out, HS.out, Bool.false_or]), hbl⟩

/-- a condition on a list. -/
theorem holds_any (hc : CondIn w c vs vf) (h : Rd w v (ints l)) (hf : Fit l) (hb : l.length ≤ 100000) :
    Calls Try.prog 10 #[.agg #[.int .i64 c.kind, vs, .int .i64 c.n, vf], v] w fun e w' => e = .returned (.bool (holdsB c l)) ∧ Below w.heap.size w w' := by
  have hk := around_lt c.kind 6 (by decide)
  obtain h0 | h0 | h0 | h0 | h0 | h0 : around c.kind 6 = 0 ∨ around c.kind 6 = 1 ∨ around c.kind 6 = 2 ∨ around c.kind 6 = 3 ∨ around c.kind 6 = 4 ∨ around c.kind 6 = 5 := by omega
  · exact holds0 c vs vf v l w hc h h0
  · exact holds1 c vs vf v l w hc h hf hb h0
  · exact holds2 c vs vf v l w hc h hf h0
  · exact holds3 c vs vf v l w hc h h0
  · exact holds4 c vs vf v l w hc h hf hb h0
  · exact holds5 c vs vf v l w hc h hf hb h0
end
end Go.Proofs.Yteeohboemhegoaa

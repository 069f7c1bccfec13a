/- Sorting a finite order by counting what waits. No program in sight. -/
import Derived.Test.YtolfpchcmiljpaaDe
set_option linter.unusedSimpArgs false
set_option linter.unusedVariables false
namespace Go.Proofs.Ytolfpchcmiljpaa
open Go Go.RowKit

theorem nodup_le {α : Type} [DecidableEq α] : ∀ (l m : List α), l.Nodup → (∀ x ∈ l, x ∈ m) → l.length ≤ m.length := by
  intro l
  induction l with
  | nil => intro m _ _; simp
  | cons a l ih =>
    intro m hn hs
    have ha : a ∈ m := hs a (by simp)
    rw [List.nodup_cons] at hn
    have h := ih (m.erase a) hn.2 (fun x hx => (List.mem_erase_of_ne (fun e => hn.1 (by rw [← e]; exact hx))).2 (hs x (by simp [hx])))
    rw [List.length_erase_of_mem ha] at h
    have : 0 < m.length := List.length_pos_of_mem ha
    simp only [List.length_cons]
    omega

abbrev Pairs := List (Nat × Nat)
def nxt (ps : Pairs) (a : Nat) : List Nat := (ps.filter fun p => p.1 == a).map (·.2)
def inc (ps : Pairs) (b : Nat) : Nat := ps.countP fun p => p.2 == b
theorem mem_nxt {ps : Pairs} {a b : Nat} : b ∈ nxt ps a ↔ (a, b) ∈ ps := by
  simp only [nxt, List.mem_map, List.mem_filter, beq_iff_eq]
  constructor
  · rintro ⟨⟨x, y⟩, ⟨h, rfl⟩, rfl⟩; exact h
  · intro h; exact ⟨(a, b), ⟨h, rfl⟩, rfl⟩
theorem nxt_append (ps : Pairs) (p : Nat × Nat) (a : Nat) : nxt (ps ++ [p]) a = if p.1 = a then nxt ps a ++ [p.2] else nxt ps a := by
  unfold nxt
  rw [List.filter_append]
  split
  · rename_i h; subst h; simp
  · rename_i h; simp [h]
theorem inc_append (ps : Pairs) (p : Nat × Nat) (b : Nat) : inc (ps ++ [p]) b = if p.2 = b then inc ps b + 1 else inc ps b := by
  unfold inc
  rw [List.countP_append]
  split
  · rename_i h; subst h; simp
  · rename_i h; simp [h]
theorem count_nxt (ps : Pairs) (a b : Nat) : (nxt ps a).count b = ps.countP fun p => p.1 == a && p.2 == b := by
  unfold nxt
  induction ps with
  | nil => rfl
  | cons p ps ih =>
    rw [List.filter_cons, List.countP_cons]
    by_cases h : p.1 == a
    · rw [if_pos h, List.map_cons, List.count_cons, ih, h]
      simp
    · rw [if_neg h, ih]
      simp [h]
theorem countP_split {α : Type} (p q r : α → Bool) (h : ∀ x, p x = (q x || r x)) (hd : ∀ x, ¬ (q x = true ∧ r x = true)) (l : List α) : l.countP p = l.countP q + l.countP r := by
  induction l with
  | nil => rfl
  | cons a l ih =>
    rw [List.countP_cons, List.countP_cons, List.countP_cons, ih, h a]
    have := hd a
    revert this
    cases q a <;> cases r a <;> simp <;> omega

/-- what holds while the waiting are counted. -/
structure KI (ps : Pairs) (n k : Nat) (R : List Nat) (w : Nat → Int) (rem : List Nat) : Prop where
  nodup : R.Nodup
  lt : ∀ a ∈ R, a < n
  hk : k ≤ R.length
  cnt : ∀ b, b < n → w b = ((ps.countP fun p => p.2 == b && !(decide (p.1 ∈ R.take k))) + rem.count b : Nat)
  zero : ∀ b, b < n → (b ∈ R ↔ w b = 0)
  topo : ∀ j (h : j < R.length) a, (a, R[j]) ∈ ps → a ∈ R.take j

def row0 (ps : Pairs) (n : Nat) : List Nat := (List.range n).filter fun i => inc ps i == 0
theorem KI.start (ps : Pairs) (n : Nat) (w : Nat → Int) (hw : ∀ b, b < n → w b = inc ps b) : KI ps n 0 (row0 ps n) w [] := by
  refine ⟨List.Pairwise.filter _ List.nodup_range, fun a h => by simpa using (List.mem_filter.1 h).1, Nat.zero_le _, fun b hb => ?_, fun b hb => ?_, fun j h a hp => ?_⟩
  · rw [hw b hb]; simp [inc]
  · rw [hw b hb]; simp [row0, hb]
  · have h1 := (List.mem_filter.1 (List.getElem_mem h)).2
    simp only [beq_iff_eq, inc, List.countP_eq_zero] at h1
    exact absurd h1 (fun h1 => by have := h1 _ hp; simp at this)
theorem KI.round {ps : Pairs} {n k : Nat} {R : List Nat} {w : Nat → Int} (h : KI ps n k R w []) (hk : k < R.length) : KI ps n (k + 1) R w (nxt ps R[k]) := by
  refine ⟨h.nodup, h.lt, hk, fun b hb => ?_, h.zero, h.topo⟩
  rw [h.cnt b hb, count_nxt, List.count_nil, Nat.add_zero]
  congr 1
  refine countP_split _ _ _ (fun p => ?_) (fun p => ?_) ps
  · rw [List.take_add_one, List.getElem?_eq_getElem hk]
    have hno : R[k] ∉ R.take k := by
      intro hm
      obtain ⟨i, hi, he⟩ := List.mem_iff_getElem.1 hm
      rw [List.getElem_take] at he
      have hi' : i < k := by simp at hi; omega
      have := (List.getElem_inj h.nodup).1 he
      omega
    rw [Bool.eq_iff_iff]
    simp only [Option.toList_some, List.mem_append, List.mem_singleton, Bool.and_eq_true, beq_iff_eq, Bool.not_eq_true', decide_eq_false_iff_not, Bool.or_eq_true, not_or]
    constructor
    · rintro ⟨h1, h2⟩
      by_cases he : p.1 = R[k]
      · exact .inr ⟨he, h1⟩
      · exact .inl ⟨h1, h2, he⟩
    · rintro (⟨h1, h2, _⟩ | ⟨h1, h2⟩)
      · exact ⟨h1, h2⟩
      · exact ⟨h2, by rw [h1]; exact hno⟩
  · rw [List.take_add_one, List.getElem?_eq_getElem hk]
    simp only [Option.toList_some, List.mem_append, List.mem_singleton, Bool.and_eq_true, beq_iff_eq, Bool.not_eq_true', decide_eq_false_iff_not, not_or]
    rintro ⟨⟨_, _, h1⟩, h2, _⟩
    exact h1 h2
theorem KI.down {ps : Pairs} {n k : Nat} {R : List Nat} {w w' : Nat → Int} {b : Nat} {rem : List Nat} (h : KI ps n k R w (b :: rem)) (hb : b < n) (hw : ∀ c, c < n → w' c = if c = b then w b - 1 else w c) :
    (w' b = 0 → KI ps n k (R ++ [b]) w' rem) ∧ (w' b ≠ 0 → KI ps n k R w' rem) := by
  have hc : ∀ c, c < n → w' c = ((ps.countP fun p => p.2 == c && !(decide (p.1 ∈ R.take k))) + rem.count c : Nat) := by
    intro c hcn
    rw [hw c hcn]
    split
    · rename_i e; subst e; rw [h.cnt c hcn, List.count_cons_self]; omega
    · rename_i e; rw [h.cnt c hcn, List.count_cons_of_ne (by simpa using Ne.symm e)]
  have hnot : b ∉ R := by
    intro hm
    have h0 := (h.zero b hb).1 hm
    have h1 := h.cnt b hb
    rw [h0, List.count_cons_self] at h1
    omega
  constructor
  · intro hz
    have ht : (R ++ [b]).take k = R.take k := by rw [List.take_append_of_le_length h.hk]
    refine ⟨?_, ?_, ?_, ?_, ?_, ?_⟩
    · rw [List.nodup_append]
      exact ⟨h.nodup, by simp, by rintro x hx y hy rfl; simp at hy; exact hnot (by rw [← hy]; exact hx)⟩
    · intro a ha
      rcases List.mem_append.1 ha with ha | ha
      · exact h.lt a ha
      · simp at ha; omega
    · have := h.hk; simp; omega
    · rw [ht]; exact hc
    · intro c hcn
      by_cases e : c = b
      · subst e; simp [hz]
      · rw [hw c hcn, if_neg e, ← h.zero c hcn]; simp [e]
    · intro j hj a hp
      by_cases e : j < R.length
      · rw [List.take_append_of_le_length (by omega)]
        exact h.topo j e a (by rw [List.getElem_append_left e] at hp; exact hp)
      · obtain rfl : j = R.length := by simp at hj; omega
        rw [List.take_left' rfl]
        have h1 := hc b hb
        rw [hz] at h1
        have h2 : (ps.countP fun p => p.2 == b && !(decide (p.1 ∈ R.take k))) = 0 := by omega
        rw [List.countP_eq_zero] at h2
        have h3 := h2 _ hp
        simp at h3
        exact List.mem_of_mem_take h3
  · intro hz
    refine ⟨h.nodup, h.lt, h.hk, hc, fun c hcn => ?_, h.topo⟩
    by_cases e : c = b
    · subst e; simp [hz, hnot]
    · rw [hw c hcn, if_neg e, ← h.zero c hcn]

/-- pairs that go up. -/
def Up (ps : Pairs) (n : Nat) : Prop := ∀ p ∈ ps, p.1 < p.2 ∧ p.2 < n
theorem KI.all {ps : Pairs} {n : Nat} {R : List Nat} {w : Nat → Int} (hu : Up ps n) (h : KI ps n R.length R w []) : ∀ b, b < n → b ∈ R := by
  intro b
  induction b using Nat.strongRecOn with
  | _ b ih =>
    intro hb
    refine Classical.byContradiction fun hno => ?_
    have h0 := h.cnt b hb
    have h1 : w b ≠ 0 := fun e => hno ((h.zero b hb).2 e)
    rw [List.count_nil, Nat.add_zero] at h0
    have h2 : 0 < ps.countP fun p => p.2 == b && !(decide (p.1 ∈ R.take R.length)) := by omega
    rw [List.countP_pos_iff] at h2
    obtain ⟨p, hp, h3⟩ := h2
    simp at h3
    have h4 := hu p hp
    exact h3.2 (ih p.1 (by omega) (by omega))
theorem KI.full {ps : Pairs} {n : Nat} {R : List Nat} {w : Nat → Int} (hu : Up ps n) (h : KI ps n R.length R w []) : R.length = n := by
  have h1 := nodup_le (List.range n) R List.nodup_range (fun x hx => h.all hu x (by simpa using hx))
  have h2 := nodup_le R (List.range n) h.nodup (fun x hx => by simpa using h.lt x hx)
  simp at h1 h2
  omega

/-- all numbers, each after those before it. -/
structure Topo (ps : Pairs) (n : Nat) (R : List Nat) : Prop where
  len : R.length = n
  nodup : R.Nodup
  mem : ∀ b, b ∈ R ↔ b < n
  topo : ∀ j (h : j < R.length) a, (a, R[j]) ∈ ps → a ∈ R.take j
theorem KI.topo' {ps : Pairs} {n : Nat} {R : List Nat} {w : Nat → Int} (hu : Up ps n) (h : KI ps n R.length R w []) : Topo ps n R :=
  ⟨h.full hu, h.nodup, fun b => ⟨h.lt b, h.all hu b⟩, h.topo⟩
/-- what follows an element stands behind it. -/
theorem Topo.behind {ps : Pairs} {n : Nat} {R : List Nat} (h : Topo ps n R) (hu : Up ps n) {j : Nat} (hj : j < R.length) {b : Nat} (hp : (R[j], b) ∈ ps) : b ∈ R.drop (j + 1) := by
  have hb : b ∈ R := (h.mem b).2 (hu _ hp).2
  obtain ⟨i, hi, rfl⟩ := List.mem_iff_getElem.1 hb
  obtain ⟨k, hk, he⟩ := List.mem_iff_getElem.1 (h.topo i hi _ hp)
  rw [List.getElem_take] at he
  have hk' : k < i := by simp at hk; omega
  have := (List.getElem_inj h.nodup).1 he
  rw [List.mem_iff_getElem]
  exact ⟨i - (j + 1), by simp; omega, by simp; congr 1; omega⟩

/-- what is reached by one or more pairs. -/
inductive Rch (ps : Pairs) : Nat → Nat → Prop
  | one {a c : Nat} : (a, c) ∈ ps → Rch ps a c
  | more {a b c : Nat} : (a, b) ∈ ps → Rch ps b c → Rch ps a c
theorem Rch.lt {ps : Pairs} {n : Nat} (hu : Up ps n) {a c : Nat} (h : Rch ps a c) : a < c ∧ c < n := by
  induction h with
  | one h => exact hu _ h
  | more h _ ih => have := hu _ h; simp only at this; omega
theorem Rch.trans {ps : Pairs} {a b c : Nat} (h : Rch ps a b) (k : Rch ps b c) : Rch ps a c := by
  induction h with
  | one h => exact .more h k
  | more h _ ih => exact .more h (ih k)
theorem Rch.iff {ps : Pairs} {a c : Nat} : Rch ps a c ↔ ∃ b, b ∈ nxt ps a ∧ (c = b ∨ Rch ps b c) := by
  constructor
  · intro h
    cases h with
    | one h => exact ⟨c, mem_nxt.2 h, .inl rfl⟩
    | more h k => exact ⟨_, mem_nxt.2 h, .inr k⟩
  · rintro ⟨b, hb, rfl | h⟩
    · exact .one (mem_nxt.1 hb)
    · exact .more (mem_nxt.1 hb) h

/-- a word that says what an element reaches. -/
def Mask (ps : Pairs) (a m : Nat) : Prop := ∀ c, m.testBit c = true ↔ Rch ps a c
def PMask (ps : Pairs) (done : List Nat) (m : Nat) : Prop := ∀ c, m.testBit c = true ↔ ∃ b, b ∈ done ∧ (c = b ∨ Rch ps b c)
theorem PMask.nil (ps : Pairs) : PMask ps [] 0 := fun c => by simp
theorem PMask.mask {ps : Pairs} {a m : Nat} (h : PMask ps (nxt ps a) m) : Mask ps a m := fun c => (h c).trans Rch.iff.symm
theorem PMask.next {ps : Pairs} {done : List Nat} {m b u : Nat} (h : PMask ps done m) (hb : Mask ps b u) : PMask ps (done ++ [b]) ((m ||| 2 ^ b) ||| u) := fun c => by
  rw [Nat.testBit_or, Nat.testBit_or, Nat.testBit_two_pow, Bool.or_eq_true, Bool.or_eq_true, h c, hb c, decide_eq_true_eq]
  constructor
  · rintro ((⟨x, hx, h⟩ | h) | h)
    · exact ⟨x, by simp [hx], h⟩
    · exact ⟨b, by simp, .inl h.symm⟩
    · exact ⟨b, by simp, .inr h⟩
  · rintro ⟨x, hx, h⟩
    rcases List.mem_append.1 hx with hx | hx
    · exact .inl (.inl ⟨x, hx, h⟩)
    · simp at hx
      subst hx
      rcases h with rfl | h
      · exact .inl (.inr rfl)
      · exact .inr h
theorem PMask.lt {ps : Pairs} {n : Nat} (hu : Up ps n) (hn : n ≤ 64) {done : List Nat} {m : Nat} (hd : ∀ b ∈ done, b < n) (h : PMask ps done m) : m < 18446744073709551616 := by
  refine Nat.lt_of_not_le fun hge => ?_
  obtain ⟨c, hc, ht⟩ := Nat.exists_ge_and_testBit_of_ge_two_pow (n := 64) (x := m) (by simpa using hge)
  obtain ⟨b, hb, rfl | hr⟩ := (h c).1 ht
  · have := hd _ hb; omega
  · have := (hr.lt hu).2; omega
end Go.Proofs.Ytolfpchcmiljpaa

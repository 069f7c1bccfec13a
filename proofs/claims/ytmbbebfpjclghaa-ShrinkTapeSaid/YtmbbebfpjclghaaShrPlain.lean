/- The plain law of the minimizer. -/
namespace Go.Proofs.Ytmbbebfpjclghaa.Shr
variable {α : Type}

def rmv (l : List α) (i j : Nat) : List α := l.take i ++ l.drop j

def scanB (p : List α → Bool) (l : List α) : Nat → Bool
  | 0 => true
  | i + 1 => scanB p l i && !p (rmv l i (i + 1))

def scanN (p : List α → Bool) (l : List α) : Nat → Nat
  | 0 => 0
  | i + 1 => scanN p l i + if scanB p l i then 1 else 0

def inner (p : List α → Bool) (sz : Nat) : Nat → List α → Nat → Bool → Nat → List α × Bool × Nat
  | 0, l, _, r, n => (l, r, n)
  | k + 1, l, f, r, n =>
    if f < l.length then
      if p (rmv l f (min l.length (f + sz))) then inner p sz k (rmv l f (min l.length (f + sz))) f true (n + 1)
      else inner p sz k l (f + sz) r (n + 1)
    else (l, r, n)

def outer (p : List α → Bool) : Nat → List α → Nat → Nat → List α × Nat
  | 0, l, _, n => (l, n)
  | k + 1, l, sz, n =>
    if 0 < sz then
      if 1 < sz then outer p k (inner p sz l.length l 0 false n).1 (sz / 2) (inner p sz l.length l 0 false n).2.2
      else if (inner p sz l.length l 0 false n).2.1 then outer p k (inner p sz l.length l 0 false n).1 sz (inner p sz l.length l 0 false n).2.2
      else ((inner p sz l.length l 0 false n).1, (inner p sz l.length l 0 false n).2.2)
    else (l, n)

def run (p : List α → Bool) (l : List α) : List α × Nat :=
  if p l = false then (l, 1)
  else if scanB p l l.length then (l, 1 + scanN p l l.length)
  else outer p (l.length + (l.length + 1) / 2) l ((l.length + 1) / 2) (1 + scanN p l l.length)

theorem rmv_sub (l : List α) (i j : Nat) (h : i ≤ j) : (rmv l i j).Sublist l := by
  have h1 : (l.drop j).Sublist (l.drop i) := by
    have : l.drop j = (l.drop i).drop (j - i) := by rw [List.drop_drop]; congr 1; omega
    rw [this]; exact List.drop_sublist _ _
  have h2 := (List.Sublist.refl (l.take i)).append h1
  rwa [List.take_append_drop] at h2

theorem rmv_length (l : List α) (i j : Nat) (h : i ≤ j) (hj : j ≤ l.length) : (rmv l i j).length = l.length - (j - i) := by
  simp [rmv]; omega

theorem inner_fuel (p : List α → Bool) (sz : Nat) (hs : 0 < sz) : ∀ (k : Nat) (l : List α) (f : Nat) (r : Bool) (n : Nat), l.length - f ≤ k →
    inner p sz k l f r n = inner p sz (l.length - f) l f r n := by
  intro k
  induction k with
  | zero => intro l f r n h; have : l.length - f = 0 := by omega
            rw [this]
  | succ k ih =>
    intro l f r n h
    by_cases hf : f < l.length
    · obtain ⟨m, hm⟩ : ∃ m, l.length - f = m + 1 := ⟨l.length - f - 1, by omega⟩
      rw [hm, inner, inner, if_pos hf, if_pos hf]
      have hl := rmv_length l f (min l.length (f + sz)) (by omega) (by omega)
      rw [ih (rmv l f (min l.length (f + sz))) f true (n + 1) (by omega), ih l (f + sz) r (n + 1) (by omega)]
      have ihm : ∀ (l' : List α) (f' : Nat) (r' : Bool) (n' : Nat), l'.length - f' ≤ m → inner p sz m l' f' r' n' = inner p sz (l'.length - f') l' f' r' n' := by
        intro l' f' r' n' h'
        by_cases hmk : m ≤ k
        · have e1 := ih l' f' r' n' (by omega)
          clear ih
          -- monotone: m between
          have aux : ∀ (a b : Nat) (l : List α) (f : Nat) (r : Bool) (n : Nat), l.length - f ≤ a → a ≤ b → inner p sz a l f r n = inner p sz b l f r n := by
            intro a
            induction a with
            | zero =>
              intro b l f r n h1 _
              cases b with
              | zero => rfl
              | succ b => rw [inner, inner, if_neg (by omega)]
            | succ a iha =>
              intro b l f r n h1 h2
              cases b with
              | zero => omega
              | succ b =>
                rw [inner, inner]
                by_cases hf : f < l.length
                · rw [if_pos hf, if_pos hf]
                  have hl := rmv_length l f (min l.length (f + sz)) (by omega) (by omega)
                  rw [iha b _ f true (n+1) (by omega) (by omega), iha b l (f+sz) r (n+1) (by omega) (by omega)]
                · rw [if_neg hf, if_neg hf]
          exact (aux _ _ _ _ _ _ (Nat.le_refl _) h').symm
        · omega
      rw [ihm _ f true (n+1) (by omega), ihm l (f + sz) r (n + 1) (by omega)]
    · have : l.length - f = 0 := by omega
      rw [this, inner, inner, if_neg hf]

theorem inner_sub (p : List α → Bool) (sz : Nat) : ∀ (k : Nat) (l : List α) (f : Nat) (r : Bool) (n : Nat), (inner p sz k l f r n).1.Sublist l := by
  intro k
  induction k with
  | zero => intro l f r n; exact List.Sublist.refl _
  | succ k ih =>
    intro l f r n
    rw [inner]
    by_cases hf : f < l.length
    · rw [if_pos hf]
      by_cases hp : p (rmv l f (min l.length (f + sz))) = true
      · rw [if_pos hp]; exact (ih _ _ _ _).trans (rmv_sub _ _ _ (by omega))
      · rw [if_neg hp]; exact ih _ _ _ _
    · rw [if_neg hf]; exact List.Sublist.refl _

theorem inner_len (p : List α → Bool) (sz : Nat) (k : Nat) (l : List α) (f : Nat) (r : Bool) (n : Nat) : (inner p sz k l f r n).1.length ≤ l.length :=
  (inner_sub p sz k l f r n).length_le

theorem inner_keeps (p : List α → Bool) (sz : Nat) : ∀ (k : Nat) (l : List α) (f : Nat) (r : Bool) (n : Nat), p l = true → p (inner p sz k l f r n).1 = true := by
  intro k
  induction k with
  | zero => intro l f r n h; exact h
  | succ k ih =>
    intro l f r n h
    rw [inner]
    by_cases hf : f < l.length
    · rw [if_pos hf]
      by_cases hp : p (rmv l f (min l.length (f + sz))) = true
      · rw [if_pos hp]; exact ih _ _ _ _ hp
      · rw [if_neg hp]; exact ih _ _ _ _ h
    · rw [if_neg hf]; exact h

theorem inner_true (p : List α → Bool) (sz : Nat) : ∀ (k : Nat) (l : List α) (f : Nat) (n : Nat), (inner p sz k l f true n).2.1 = true := by
  intro k
  induction k with
  | zero => intro l f n; rfl
  | succ k ih =>
    intro l f n
    rw [inner]
    by_cases hf : f < l.length
    · rw [if_pos hf]
      by_cases hp : p (rmv l f (min l.length (f + sz))) = true
      · rw [if_pos hp]; exact ih _ _ _
      · rw [if_neg hp]; exact ih _ _ _
    · rw [if_neg hf]

theorem inner_shorter (p : List α → Bool) (sz : Nat) (hs : 0 < sz) : ∀ (k : Nat) (l : List α) (f : Nat) (n : Nat), (inner p sz k l f false n).2.1 = true → (inner p sz k l f false n).1.length < l.length := by
  intro k
  induction k with
  | zero => intro l f n h; simp [inner] at h
  | succ k ih =>
    intro l f n h
    rw [inner] at h ⊢
    by_cases hf : f < l.length
    · rw [if_pos hf] at h ⊢
      by_cases hp : p (rmv l f (min l.length (f + sz))) = true
      · rw [if_pos hp] at h ⊢
        have h1 := inner_len p sz k (rmv l f (min l.length (f + sz))) f true (n + 1)
        have h2 := rmv_length l f (min l.length (f + sz)) (by omega) (by omega)
        omega
      · rw [if_neg hp] at h ⊢; exact ih _ _ _ h
    · rw [if_neg hf] at h; simp at h

theorem inner_min (p : List α → Bool) : ∀ (k : Nat) (l : List α) (f : Nat) (n : Nat), l.length - f ≤ k → (inner p 1 k l f false n).2.1 = false →
    (inner p 1 k l f false n).1 = l ∧ ∀ i, f ≤ i → i < l.length → p (rmv l i (i + 1)) = false := by
  intro k
  induction k with
  | zero => intro l f n hk _; exact ⟨rfl, fun i h1 h2 => by omega⟩
  | succ k ih =>
    intro l f n hk h
    rw [inner] at h ⊢
    by_cases hf : f < l.length
    · rw [if_pos hf] at h ⊢
      by_cases hp : p (rmv l f (min l.length (f + 1))) = true
      · rw [if_pos hp, inner_true] at h; simp at h
      · rw [if_neg hp] at h ⊢
        obtain ⟨h1, h2⟩ := ih l (f + 1) (n + 1) (by omega) h
        refine ⟨h1, fun i hi hl => ?_⟩
        by_cases hif : i = f
        · subst hif
          have : min l.length (i + 1) = i + 1 := by omega
          rw [this] at hp; simpa using hp
        · exact h2 i (by omega) hl
    · rw [if_neg hf]; exact ⟨rfl, fun i h1 h2 => by omega⟩

theorem outer_fuel (p : List α → Bool) : ∀ (a b : Nat) (l : List α) (sz n : Nat), l.length + sz ≤ a → a ≤ b → outer p a l sz n = outer p b l sz n := by
  intro a
  induction a with
  | zero =>
    intro b l sz n h _
    cases b with
    | zero => rfl
    | succ b => rw [outer, outer, if_neg (by omega)]
  | succ a ih =>
    intro b l sz n h1 h2
    cases b with
    | zero => omega
    | succ b =>
      rw [outer, outer]
      by_cases hs : 0 < sz
      · rw [if_pos hs, if_pos hs]
        have hl := inner_len p sz l.length l 0 false n
        by_cases h1s : 1 < sz
        · rw [if_pos h1s, if_pos h1s]
          exact ih b _ _ _ (by omega) (by omega)
        · rw [if_neg h1s, if_neg h1s]
          by_cases hr : (inner p sz l.length l 0 false n).2.1 = true
          · rw [if_pos hr, if_pos hr]
            have := inner_shorter p sz hs _ _ _ _ hr
            exact ih b _ _ _ (by omega) (by omega)
          · rw [if_neg hr, if_neg hr]
      · rw [if_neg hs, if_neg hs]

theorem outer_sub (p : List α → Bool) : ∀ (k : Nat) (l : List α) (sz n : Nat), (outer p k l sz n).1.Sublist l := by
  intro k
  induction k with
  | zero => intro l sz n; exact List.Sublist.refl _
  | succ k ih =>
    intro l sz n
    rw [outer]
    have hl := inner_sub p sz l.length l 0 false n
    by_cases hs : 0 < sz
    · rw [if_pos hs]
      by_cases h1s : 1 < sz
      · rw [if_pos h1s]; exact (ih _ _ _).trans hl
      · rw [if_neg h1s]
        by_cases hr : (inner p sz l.length l 0 false n).2.1 = true
        · rw [if_pos hr]; exact (ih _ _ _).trans hl
        · rw [if_neg hr]; exact hl
    · rw [if_neg hs]; exact List.Sublist.refl _

/-- one-minimal: the condition holds, and for no list with one element left out. -/
def Min1 (p : List α → Bool) (l : List α) : Prop := p l = true ∧ ∀ i, i < l.length → p (rmv l i (i + 1)) = false

theorem outer_min (p : List α → Bool) : ∀ (k : Nat) (l : List α) (sz n : Nat), p l = true → 0 < sz → l.length + sz ≤ k → Min1 p (outer p k l sz n).1 := by
  intro k
  induction k with
  | zero => intro l sz n _ _ h; omega
  | succ k ih =>
    intro l sz n hp hs hk
    rw [outer, if_pos hs]
    have hkp := inner_keeps p sz l.length l 0 false n hp
    have hl := inner_len p sz l.length l 0 false n
    by_cases h1s : 1 < sz
    · rw [if_pos h1s]; exact ih _ _ _ hkp (by omega) (by omega)
    · rw [if_neg h1s]
      by_cases hr : (inner p sz l.length l 0 false n).2.1 = true
      · rw [if_pos hr]
        have := inner_shorter p sz hs _ _ _ _ hr
        exact ih _ _ _ hkp hs (by omega)
      · rw [if_neg hr]
        have e : sz = 1 := by omega
        subst e
        obtain ⟨h1, h2⟩ := inner_min p l.length l 0 n (by omega) (by simpa using hr)
        refine ⟨hkp, ?_⟩
        show ∀ i, i < (inner p 1 l.length l 0 false n).1.length → p (rmv (inner p 1 l.length l 0 false n).1 i (i + 1)) = false
        rw [h1]
        exact fun i hi => h2 i (by omega) hi

theorem scanB_iff (p : List α → Bool) (l : List α) : ∀ k, scanB p l k = true ↔ ∀ i, i < k → p (rmv l i (i + 1)) = false := by
  intro k
  induction k with
  | zero => simp [scanB]
  | succ k ih =>
    rw [scanB, Bool.and_eq_true, ih]
    constructor
    · rintro ⟨h1, h2⟩ i hi
      by_cases e : i = k
      · subst e; simpa using h2
      · exact h1 i (by omega)
    · intro h
      exact ⟨fun i hi => h i (by omega), by simpa using h k (by omega)⟩

theorem run_sub (p : List α → Bool) (l : List α) : (run p l).1.Sublist l := by
  unfold run
  by_cases h1 : p l = false
  · rw [if_pos h1]; exact List.Sublist.refl _
  · rw [if_neg h1]
    by_cases h2 : scanB p l l.length = true
    · rw [if_pos h2]; exact List.Sublist.refl _
    · rw [if_neg h2]; exact outer_sub _ _ _ _ _

theorem run_no (p : List α → Bool) (l : List α) (h : p l = false) : run p l = (l, 1) := by
  unfold run; rw [if_pos h]

theorem run_min (p : List α → Bool) (l : List α) (h : p l = true) : Min1 p (run p l).1 := by
  unfold run
  rw [if_neg (by simp [h])]
  by_cases h2 : scanB p l l.length = true
  · rw [if_pos h2]; exact ⟨h, (scanB_iff p l _).1 h2⟩
  · rw [if_neg h2]
    have hl : l ≠ [] := by rintro rfl; simp [scanB] at h2
    have : 0 < l.length := List.length_pos_iff.2 hl
    exact outer_min p _ l _ _ h (by omega) (by omega)

theorem run_of_min (p : List α → Bool) (l : List α) (h : Min1 p l) : (run p l).1 = l := by
  unfold run
  rw [if_neg (by simp [h.1]), if_pos ((scanB_iff p l _).2 h.2)]

theorem run_again (p : List α → Bool) (l : List α) : (run p (run p l).1).1 = (run p l).1 := by
  by_cases h : p l = true
  · exact run_of_min p _ (run_min p l h)
  · have : p l = false := by simpa using h
    rw [run_no p l this]; show (run p l).1 = l; rw [run_no p l this]


theorem inner_end (p : List α → Bool) (sz : Nat) (l : List α) (f : Nat) (r : Bool) (n : Nat) (h : ¬ f < l.length) : inner p sz (l.length - f) l f r n = (l, r, n) := by
  have : l.length - f = 0 := by omega
  rw [this]; rfl
theorem inner_yes (p : List α → Bool) (sz : Nat) (hs : 0 < sz) (l : List α) (f j : Nat) (r : Bool) (n : Nat) (h : f < l.length) (hj : j = min l.length (f + sz)) (hp : p (rmv l f j) = true) :
    inner p sz (l.length - f) l f r n = inner p sz ((rmv l f j).length - f) (rmv l f j) f true (n + 1) := by
  subst hj
  obtain ⟨q, hq⟩ : ∃ q, l.length - f = q + 1 := ⟨l.length - f - 1, by omega⟩
  have hl := rmv_length l f (min l.length (f + sz)) (by omega) (by omega)
  rw [hq, inner, if_pos h, if_pos hp]
  exact inner_fuel p sz hs _ _ _ _ _ (by omega)
theorem inner_no (p : List α → Bool) (sz : Nat) (hs : 0 < sz) (l : List α) (f j : Nat) (r : Bool) (n : Nat) (h : f < l.length) (hj : j = min l.length (f + sz)) (hp : p (rmv l f j) = false) :
    inner p sz (l.length - f) l f r n = inner p sz (l.length - (f + sz)) l (f + sz) r (n + 1) := by
  subst hj
  obtain ⟨q, hq⟩ : ∃ q, l.length - f = q + 1 := ⟨l.length - f - 1, by omega⟩
  rw [hq, inner, if_pos h, if_neg (by rw [hp]; decide)]
  exact inner_fuel p sz hs _ _ _ _ _ (by omega)
theorem outer_none (p : List α → Bool) (l : List α) (n : Nat) : outer p (l.length + 0) l 0 n = (l, n) := by
  cases h : l.length + 0 with
  | zero => rfl
  | succ k => rw [outer, if_neg (by omega)]
theorem outer_big (p : List α → Bool) (l l' : List α) (sz n n' : Nat) (r : Bool) (hs : 1 < sz) (hi : (l', r, n') = inner p sz l.length l 0 false n) :
    outer p (l.length + sz) l sz n = outer p (l'.length + sz / 2) l' (sz / 2) n' := by
  obtain ⟨q, hq⟩ : ∃ q, l.length + sz = q + 1 := ⟨l.length + sz - 1, by omega⟩
  have hl := inner_len p sz l.length l 0 false n
  rw [hq, outer, if_pos (by omega), if_pos hs]
  rw [← hi] at hl ⊢
  simp only at hl ⊢
  exact (outer_fuel p _ _ _ _ _ (Nat.le_refl _) (by omega)).symm
theorem outer_more (p : List α → Bool) (l l' : List α) (n n' : Nat) (hi : (l', true, n') = inner p 1 l.length l 0 false n) :
    outer p (l.length + 1) l 1 n = outer p (l'.length + 1) l' 1 n' ∧ l'.length < l.length := by
  have hsh := inner_shorter p 1 (by decide) l.length l 0 n (by rw [← hi])
  rw [← hi] at hsh
  refine ⟨?_, hsh⟩
  rw [outer, if_pos (by omega), if_neg (by omega), ← hi]
  simp only [if_true] at hsh ⊢
  exact (outer_fuel p _ _ _ _ _ (Nat.le_refl _) (by omega)).symm
theorem outer_end (p : List α → Bool) (l l' : List α) (n n' : Nat) (hi : (l', false, n') = inner p 1 l.length l 0 false n) :
    outer p (l.length + 1) l 1 n = (l', n') := by
  rw [outer, if_pos (by omega), if_neg (by omega), ← hi]
  simp
end Go.Proofs.Ytmbbebfpjclghaa.Shr

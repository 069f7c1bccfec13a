/- Sets of envelopes, plainly: sorted lists are equal when they hold the same. -/
import Derived.Test.YtedhbklmebebgaaNk
namespace Go.Proofs.Ytedhbklmebebgaa
open Go Go.RowKit

theorem sorted_ext : ∀ {l l' : List Evl}, SortedM l → SortedM l' → (∀ x, x ∈ l ↔ x ∈ l') → l = l' := by
  intro l
  induction l with
  | nil =>
    intro l' _ _ h
    cases l' with
    | nil => rfl
    | cons b l' => exact absurd ((h b).2 (by simp)) (by simp)
  | cons a l ih =>
    intro l' hs hs' h
    cases l' with
    | nil => exact absurd ((h a).1 (by simp)) (by simp)
    | cons b l' =>
      have h1 := List.pairwise_cons.1 hs
      have h2 := List.pairwise_cons.1 hs'
      have hab : a = b := by
        rcases List.mem_cons.1 ((h a).1 (by simp)) with e | ha
        · exact e
        · rcases List.mem_cons.1 ((h b).2 (by simp)) with e | hb
          · exact e.symm
          · exact absurd (ltM_trans (h1.1 b hb) (h2.1 a ha)) (ltM_irrefl _)
      subst hab
      congr 1
      refine ih h1.2 h2.2 fun x => ⟨fun hx => ?_, fun hx => ?_⟩
      · rcases List.mem_cons.1 ((h x).1 (by simp [hx])) with e | hx'
        · subst e; exact absurd (h1.1 x hx) (ltM_irrefl _)
        · exact hx'
      · rcases List.mem_cons.1 ((h x).2 (by simp [hx])) with e | hx'
        · subst e; exact absurd (h2.1 x hx) (ltM_irrefl _)
        · exact hx'

theorem mem_ins {e x : Evl} {l : List Evl} : x ∈ insM e l ↔ x = e ∨ x ∈ l := by
  have h := List.takeWhile_append_dropWhile (p := fun x => decide (ltM x.msg e.msg)) (l := l)
  constructor
  · intro hx
    unfold insM at hx
    rcases List.mem_append.1 hx with h1 | h1
    · right; rw [← h]; exact List.mem_append_left _ h1
    · rcases List.mem_cons.1 h1 with h2 | h2
      · exact .inl h2
      · right; rw [← h]; exact List.mem_append_right _ h2
  · intro hx
    unfold insM
    rcases hx with rfl | hx
    · simp
    · rw [← h] at hx
      rcases List.mem_append.1 hx with h1 | h1
      · exact List.mem_append_left _ h1
      · exact List.mem_append_right _ (List.mem_cons_of_mem _ h1)
theorem mem_rem {m : Msg} {x : Evl} {l : List Evl} : x ∈ removeM m l ↔ x ∈ l ∧ x.msg ≠ m := by simp [removeM]
theorem has_iff {m : Msg} {l : List Evl} : has m l = true ↔ ∃ x ∈ l, x.msg = m := by simp [has]
theorem has_iff_not {m : Msg} {l : List Evl} : has m l = false ↔ ∀ x ∈ l, x.msg ≠ m := by simp [has]

theorem ltM_total {a b : Msg} (h : ¬ ltM a b) (hne : a ≠ b) : ltM b a := by
  rcases cmpM_cases a b with ⟨h1, _⟩ | ⟨h1, _⟩ | ⟨h1, _⟩
  · exact absurd h1 h
  · exact absurd h1 hne
  · exact h1

theorem sorted_ins {e : Evl} {l : List Evl} (hs : SortedM l) (h : has e.msg l = false) : SortedM (insM e l) := by
  induction l with
  | nil => simp [SortedM, insM]
  | cons a l ih =>
    have h1 := List.pairwise_cons.1 hs
    rw [has_iff_not] at h
    by_cases ha : ltM a.msg e.msg
    · have e1 : insM e (a :: l) = a :: insM e l := by simp [insM, ha]
      rw [e1]
      refine List.pairwise_cons.2 ⟨fun x hx => ?_, ih h1.2 (has_iff_not.2 fun x hx => h x (by simp [hx]))⟩
      rcases mem_ins.1 hx with rfl | hx
      · exact ha
      · exact h1.1 x hx
    · have e1 : insM e (a :: l) = e :: a :: l := by simp [insM, ha]
      rw [e1]
      have hea := ltM_total ha (h a (by simp))
      refine List.pairwise_cons.2 ⟨fun x hx => ?_, hs⟩
      rcases List.mem_cons.1 hx with rfl | hx
      · exact hea
      · exact ltM_trans hea (h1.1 x hx)
theorem sorted_rem {m : Msg} {l : List Evl} (hs : SortedM l) : SortedM (removeM m l) := hs.filter _
theorem sorted_add {s : List Evl} {x : Int} (hs : SortedM s) : SortedM (addP s x) := by
  unfold addP
  split
  · exact hs
  · rename_i h
    exact sorted_ins hs (by simpa using h)
theorem sorted_fold (l : List Int) : ∀ s, SortedM s → SortedM (l.foldl addP s) := by
  induction l with
  | nil => intro s hs; exact hs
  | cons x l ih => intro s hs; exact ih _ (sorted_add hs)
theorem sorted_set (l : List Int) : SortedM (setM l) := sorted_fold _ _ (by simp [SortedM])

/-- a name stands for one envelope. -/
theorem sorted_one {l : List Evl} (hs : SortedM l) {x y : Evl} (hx : x ∈ l) (hy : y ∈ l) (h : x.msg = y.msg) : x = y := by
  obtain ⟨i, hi, rfl⟩ := List.getElem_of_mem hx
  obtain ⟨j, hj, rfl⟩ := List.getElem_of_mem hy
  rcases Nat.lt_trichotomy i j with hij | hij | hij
  · have := List.pairwise_iff_getElem.1 hs i j hi hj hij
    rw [h] at this
    exact absurd this (ltM_irrefl _)
  · subst hij; rfl
  · have := List.pairwise_iff_getElem.1 hs j i hj hi hij
    rw [h] at this
    exact absurd this (ltM_irrefl _)
theorem find_iff {l : List Evl} (hs : SortedM l) {m : Msg} {e : Evl} : findM m l = some e ↔ e ∈ l ∧ e.msg = m := by
  constructor
  · intro h
    unfold findM at h
    exact ⟨List.mem_of_find?_eq_some h, by simpa using List.find?_some h⟩
  · rintro ⟨h1, h2⟩
    cases hf : findM m l with
    | none =>
      unfold findM at hf
      rw [List.find?_eq_none] at hf
      exact absurd h2 (by simpa using hf e h1)
    | some e' =>
      have h3 : e' ∈ l ∧ e'.msg = m := by
        unfold findM at hf
        exact ⟨List.mem_of_find?_eq_some hf, by simpa using List.find?_some hf⟩
      rw [sorted_one hs h1 h3.1 (h2.trans h3.2.symm)]
theorem find_none_iff {l : List Evl} {m : Msg} : findM m l = none ↔ has m l = false := by
  rw [has_iff_not]
  simp [findM, List.find?_eq_none]
theorem find_has {l : List Evl} {m : Msg} : (findM m l).isSome = has m l := by
  cases h : findM m l with
  | none => rw [find_none_iff.1 h]; rfl
  | some e =>
    unfold findM at h
    symm
    exact has_iff.2 ⟨e, List.mem_of_find?_eq_some h, by simpa using List.find?_some h⟩

theorem rem_ins {e : Evl} {l : List Evl} (hs : SortedM l) (h : has e.msg l = false) : removeM e.msg (insM e l) = l := by
  refine sorted_ext (sorted_rem (sorted_ins hs h)) hs fun x => ?_
  rw [mem_rem, mem_ins]
  rw [has_iff_not] at h
  constructor
  · rintro ⟨rfl | h1, h2⟩
    · exact absurd rfl h2
    · exact h1
  · intro h1; exact ⟨.inr h1, h x h1⟩
theorem has_rem (m : Msg) (l : List Evl) : has m (removeM m l) = false := by
  rw [has_iff_not]
  intro x hx
  exact (mem_rem.1 hx).2
theorem ins_rem {e : Evl} {l : List Evl} (hs : SortedM l) (h : e ∈ l) : insM e (removeM e.msg l) = l := by
  refine sorted_ext (sorted_ins (sorted_rem hs) (has_rem _ _)) hs fun x => ?_
  rw [mem_ins, mem_rem]
  constructor
  · rintro (rfl | h1)
    · exact h
    · exact h1.1
  · intro h1
    by_cases hx : x.msg = e.msg
    · exact .inl (sorted_one hs h1 h hx)
    · exact .inr ⟨h1, hx⟩
theorem rem_len {e : Evl} {l : List Evl} (hs : SortedM l) (h : e ∈ l) : (removeM e.msg l).length + 1 = l.length := by
  have := insM_len e (removeM e.msg l)
  rw [ins_rem hs h] at this
  omega
theorem find_ins {e : Evl} {l : List Evl} (hs : SortedM l) (h : has e.msg l = false) : findM e.msg (insM e l) = some e :=
  (find_iff (sorted_ins hs h)).2 ⟨mem_ins.2 (.inl rfl), rfl⟩
theorem has_ins {e : Evl} {l : List Evl} (m : Msg) : has m (insM e l) = (decide (e.msg = m) || has m l) := by
  rw [Bool.eq_iff_iff, Bool.or_eq_true, decide_eq_true_eq, has_iff, has_iff]
  constructor
  · rintro ⟨x, hx, hm⟩
    rcases mem_ins.1 hx with rfl | hx
    · exact .inl hm
    · exact .inr ⟨x, hx, hm⟩
  · rintro (hm | ⟨x, hx, hm⟩)
    · exact ⟨e, mem_ins.2 (.inl rfl), hm⟩
    · exact ⟨x, mem_ins.2 (.inr hx), hm⟩
theorem has_rem_ne {m m' : Msg} (l : List Evl) (h : m ≠ m') : has m (removeM m' l) = has m l := by
  rw [Bool.eq_iff_iff, has_iff, has_iff]
  constructor
  · rintro ⟨x, hx, hm⟩; exact ⟨x, (mem_rem.1 hx).1, hm⟩
  · rintro ⟨x, hx, hm⟩; exact ⟨x, mem_rem.2 ⟨hx, by rw [hm]; exact h⟩, hm⟩
theorem ins_comm {a b : Evl} {l : List Evl} (hs : SortedM l) (ha : has a.msg l = false) (hb : has b.msg l = false) (h : a.msg ≠ b.msg) : insM b (insM a l) = insM a (insM b l) := by
  have h1 : has b.msg (insM a l) = false := by rw [has_ins, hb]; simp [h]
  have h2 : has a.msg (insM b l) = false := by rw [has_ins, ha]; simp [Ne.symm h]
  refine sorted_ext (sorted_ins (sorted_ins hs ha) h1) (sorted_ins (sorted_ins hs hb) h2) fun x => ?_
  simp only [mem_ins]
  exact ⟨fun h => by rcases h with h | h | h <;> simp [h], fun h => by rcases h with h | h | h <;> simp [h]⟩
theorem rem_comm (m m' : Msg) {l : List Evl} (hs : SortedM l) : removeM m (removeM m' l) = removeM m' (removeM m l) := by
  refine sorted_ext (sorted_rem (sorted_rem hs)) (sorted_rem (sorted_rem hs)) fun x => ?_
  simp only [mem_rem]
  exact ⟨fun h => ⟨⟨h.1.1, h.2⟩, h.1.2⟩, fun h => ⟨⟨h.1.1, h.2⟩, h.1.2⟩⟩
theorem ins_rem_comm {a : Evl} {m : Msg} {l : List Evl} (hs : SortedM l) (ha : has a.msg l = false) (h : a.msg ≠ m) : insM a (removeM m l) = removeM m (insM a l) := by
  have h1 : has a.msg (removeM m l) = false := by rw [has_rem_ne l h, ha]
  refine sorted_ext (sorted_ins (sorted_rem hs) h1) (sorted_rem (sorted_ins hs ha)) fun x => ?_
  simp only [mem_rem, mem_ins]
  constructor
  · rintro (rfl | h2)
    · exact ⟨.inl rfl, h⟩
    · exact ⟨.inr h2.1, h2.2⟩
  · rintro ⟨h1 | h1, h2⟩
    · exact .inl h1
    · exact .inr ⟨h1, h2⟩
theorem rem_none {m : Msg} {l : List Evl} (h : has m l = false) : removeM m l = l := removeM_none (has_iff_not.1 h)
end Go.Proofs.Ytedhbklmebebgaa

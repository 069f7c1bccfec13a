/- The order of names, plainly. -/
import Derived.Test.YtedhbklmebebgaaNa
namespace Go.Proofs.Ytedhbklmebebgaa
open Go Go.RowKit

def cmpI (a b : Int) : Int := if a < b then -1 else if b < a then 1 else 0

/-- the first pair of different numbers decides. -/
def numI : List Int → Int
  | a :: b :: r => if cmpI a b = 0 then numI r else cmpI a b
  | _ => 0

theorem numI_step {l : List Int} {k : Nat} (h : k + 1 < l.length) : numI (l.drop k) = if cmpI l[k] l[k + 1] = 0 then numI (l.drop (k + 2)) else cmpI l[k] l[k + 1] := by
  rw [List.drop_eq_getElem_cons (by omega : k < l.length), List.drop_eq_getElem_cons h, numI]
theorem numI_end {l : List Int} {k : Nat} (h : ¬ k + 1 < l.length) : numI (l.drop k) = 0 := by
  match hd : l.drop k with
  | [] => rfl
  | [_] => rfl
  | a :: b :: r =>
    have := congrArg List.length hd
    simp at this
    omega

/-- the first number that is not zero. -/
def orI : List Int → Int
  | [] => 0
  | a :: r => if a = 0 then orI r else a

def cmpM (m m' : Msg) : Int := orI [numI [m.node, m'.node, m.handler, m'.handler, m.count, m'.count], numI [m.index, m'.index, m.copy, m'.copy]]

/-- the order of names, said plainly. -/
def ltM (a b : Msg) : Prop :=
  a.node < b.node ∨ (a.node = b.node ∧ (a.handler < b.handler ∨ (a.handler = b.handler ∧ (a.count < b.count ∨ (a.count = b.count ∧ (a.index < b.index ∨ (a.index = b.index ∧ a.copy < b.copy)))))))

instance (a b : Msg) : Decidable (ltM a b) := by unfold ltM; infer_instance

theorem cmpI_cases (a b : Int) : (a < b ∧ cmpI a b = -1) ∨ (a = b ∧ cmpI a b = 0) ∨ (b < a ∧ cmpI a b = 1) := by
  unfold cmpI
  by_cases h : a < b
  · exact .inl ⟨h, if_pos h⟩
  · by_cases h' : b < a
    · exact .inr (.inr ⟨h', by rw [if_neg h, if_pos h']⟩)
    · exact .inr (.inl ⟨by omega, by rw [if_neg h, if_neg h']⟩)
theorem cmpM_cases (a b : Msg) : (ltM a b ∧ cmpM a b = -1) ∨ (a = b ∧ cmpM a b = 0) ∨ (ltM b a ∧ cmpM a b = 1) := by
  have e : cmpM a b = if cmpI a.node b.node = 0 then if cmpI a.handler b.handler = 0 then if cmpI a.count b.count = 0 then if cmpI a.index b.index = 0 then cmpI a.copy b.copy else cmpI a.index b.index else cmpI a.count b.count else cmpI a.handler b.handler else cmpI a.node b.node := by
    unfold cmpM orI orI orI numI numI numI numI
    generalize cmpI a.node b.node = x1
    generalize cmpI a.handler b.handler = x2
    generalize cmpI a.count b.count = x3
    generalize cmpI a.index b.index = x4
    generalize cmpI a.copy b.copy = x5
    by_cases h1 : x1 = 0 <;> by_cases h2 : x2 = 0 <;> by_cases h3 : x3 = 0 <;> by_cases h4 : x4 = 0 <;> by_cases h5 : x5 = 0 <;> simp [h1, h2, h3, h4, h5]
  rw [e]
  unfold ltM
  rcases cmpI_cases a.node b.node with ⟨h, e⟩ | ⟨h, e⟩ | ⟨h, e⟩
  · left; simp [e, h]
  · rw [if_pos e]
    rcases cmpI_cases a.handler b.handler with ⟨h2, e2⟩ | ⟨h2, e2⟩ | ⟨h2, e2⟩
    · left; simp [e2, h, h2]
    · rw [if_pos e2]
      rcases cmpI_cases a.count b.count with ⟨h3, e3⟩ | ⟨h3, e3⟩ | ⟨h3, e3⟩
      · left; simp [e3, h, h2, h3]
      · rw [if_pos e3]
        rcases cmpI_cases a.index b.index with ⟨h4, e4⟩ | ⟨h4, e4⟩ | ⟨h4, e4⟩
        · left; simp [e4, h, h2, h3, h4]
        · rw [if_pos e4]
          rcases cmpI_cases a.copy b.copy with ⟨h5, e5⟩ | ⟨h5, e5⟩ | ⟨h5, e5⟩
          · left; simp [e5, h, h2, h3, h4, h5]
          · right; left; exact ⟨(Msg.eq_iff a b).2 ⟨h, h2, h3, h4, h5⟩, e5⟩
          · right; right; simp [e5, h, h2, h3, h4, h5]
        · right; right; simp [e4, h, h2, h3, h4]
      · right; right; simp [e3, h, h2, h3]
    · right; right; simp [e2, h, h2]
  · right; right; simp [e, h]
theorem ltM_trans {a b c : Msg} (h : ltM a b) (k : ltM b c) : ltM a c := by unfold ltM at *; omega
theorem ltM_irrefl (a : Msg) : ¬ ltM a a := by unfold ltM; omega
theorem cmpM_neg (a b : Msg) : cmpM a b < 0 ↔ ltM a b := by
  rcases cmpM_cases a b with ⟨h, e⟩ | ⟨h, e⟩ | ⟨h, e⟩
  · simp [e, h]
  · subst h; rw [e]; exact ⟨fun h => by omega, fun h => absurd h (ltM_irrefl _)⟩
  · rw [e]; exact ⟨fun h => by omega, fun k => absurd (ltM_trans h k) (ltM_irrefl _)⟩
theorem cmpM_zero (a b : Msg) : cmpM a b = 0 ↔ a = b := by
  rcases cmpM_cases a b with ⟨h, e⟩ | ⟨h, e⟩ | ⟨h, e⟩
  · rw [e]; exact ⟨fun h => by omega, fun k => by subst k; exact absurd h (ltM_irrefl _)⟩
  · exact ⟨fun _ => h, fun _ => e⟩
  · rw [e]; exact ⟨fun h => by omega, fun k => by subst k; exact absurd h (ltM_irrefl _)⟩

/-- two lists of one length, the first difference decides. -/
def lexI : List Int → List Int → Int
  | a :: x, b :: y => if a < b then -1 else if b < a then 1 else lexI x y
  | _, _ => 0

theorem lexI_step (x y : List Int) (k : Nat) (h : k < x.length) (h' : k < y.length) : lexI (x.drop k) (y.drop k) = if x[k] < y[k] then -1 else if y[k] < x[k] then 1 else lexI (x.drop (k + 1)) (y.drop (k + 1)) := by
  rw [List.drop_eq_getElem_cons h, List.drop_eq_getElem_cons h', lexI]
theorem lexI_end (x y : List Int) (k : Nat) (h : ¬ k < x.length) : lexI (x.drop k) (y.drop k) = 0 := by
  rw [List.drop_of_length_le (by omega : x.length ≤ k)]; rfl

theorem lexI_key (m m' : Msg) : lexI [m.node, m.handler, m.count, m.index, m.copy] [m'.node, m'.handler, m'.count, m'.index, m'.copy] = cmpM m m' := by
  have hh : ∀ a b (x y : List Int), lexI (a :: x) (b :: y) = if cmpI a b = 0 then lexI x y else cmpI a b := by
    intro a b x y
    rw [lexI]
    unfold cmpI
    by_cases h : a < b
    · simp [h]
    · by_cases h' : b < a
      · simp [h, h']
      · simp [h, h']
  rw [hh, hh, hh, hh, hh]
  unfold cmpM orI orI orI numI numI numI numI lexI
  generalize cmpI m.node m'.node = x1
  generalize cmpI m.handler m'.handler = x2
  generalize cmpI m.count m'.count = x3
  generalize cmpI m.index m'.index = x4
  generalize cmpI m.copy m'.copy = x5
  by_cases h1 : x1 = 0 <;> by_cases h2 : x2 = 0 <;> by_cases h3 : x3 = 0 <;> by_cases h4 : x4 = 0 <;> by_cases h5 : x5 = 0 <;> simp [h1, h2, h3, h4, h5]

def around (n m : Int) : Int := (if n < 0 then -(n + 1) else n) % m
theorem around_lt (n m : Int) (h : 0 < m) : 0 ≤ around n m ∧ around n m < m := ⟨Int.emod_nonneg _ (by omega), Int.emod_lt_of_pos _ h⟩
def msgOf (n : Int) : Msg := ⟨around n 100000 % 3, around n 100000 / 3 % 2, around n 100000 / 6 % 2, around n 100000 / 12 % 2, around n 100000 / 24 % 3⟩
def evlOf (n : Int) : Evl := ⟨msgOf n, around n 100000 / 72 % 4, around n 100000 / 288 % 3, around n 100000 % 17, around n 100000 % 19⟩

def zeroE : Evl := ⟨⟨0, 0, 0, 0, 0⟩, 0, 0, 0, 0⟩
def removeM (m : Msg) (l : List Evl) : List Evl := l.filter fun e => decide (e.msg ≠ m)
def toM (node : Int) (l : List Evl) : List Msg := (l.filter fun e => decide (e.to_ = node)).map (·.msg)
def findM (m : Msg) (l : List Evl) : Option Evl := l.find? fun e => decide (e.msg = m)
def has (m : Msg) (l : List Evl) : Bool := l.any fun e => decide (e.msg = m)
def insM (e : Evl) (l : List Evl) : List Evl := l.takeWhile (fun x => decide (ltM x.msg e.msg)) ++ e :: l.dropWhile (fun x => decide (ltM x.msg e.msg))

def atM (m : Msg) : List Evl → Int → Int
  | [], _ => -1
  | e :: r, k => if e.msg = m then k else atM m r (k + 1)
theorem atM_end (m : Msg) (l : List Evl) (k : Nat) (h : ¬ k < l.length) : atM m (l.drop k) k = -1 := by
  rw [List.drop_of_length_le (by omega)]; rfl
theorem atM_step (m : Msg) (l : List Evl) (k : Nat) (h : k < l.length) : atM m (l.drop k) k = if l[k].msg = m then (k : Int) else atM m (l.drop (k + 1)) ((k + 1 : Nat) : Int) := by
  rw [List.drop_eq_getElem_cons h, atM]; simp
theorem atM_cases (m : Msg) (l : List Evl) : ∀ k : Int, (atM m l k = -1 ∧ ∀ e ∈ l, e.msg ≠ m) ∨ ∃ i : Nat, ∃ h : i < l.length, atM m l k = k + i ∧ l[i].msg = m ∧ ∀ t (ht : t < i), l[t].msg ≠ m := by
  induction l with
  | nil => intro k; exact .inl ⟨rfl, by simp⟩
  | cons e l ih =>
    intro k
    rw [atM]
    by_cases he : e.msg = m
    · rw [if_pos he]
      exact .inr ⟨0, by simp, by simp, he, fun t ht => absurd ht (by omega)⟩
    · rw [if_neg he]
      rcases ih (k + 1) with ⟨h1, h2⟩ | ⟨i, hi, h1, h2, h3⟩
      · exact .inl ⟨h1, by simpa using ⟨he, h2⟩⟩
      · refine .inr ⟨i + 1, by simpa using hi, by rw [h1]; omega, by simpa using h2, fun t ht => ?_⟩
        cases t with
        | zero => exact he
        | succ t => simpa using h3 t (by omega)
theorem has_false {m : Msg} {l : List Evl} (h : ∀ e ∈ l, e.msg ≠ m) : has m l = false := by simpa [has] using h
theorem has_true {m : Msg} {l : List Evl} (i : Nat) (hi : i < l.length) (h : l[i].msg = m) : has m l = true := by
  simp only [has, List.any_eq_true, decide_eq_true_eq]
  exact ⟨l[i], List.getElem_mem hi, h⟩
theorem findM_none {m : Msg} {l : List Evl} (h : ∀ e ∈ l, e.msg ≠ m) : findM m l = none := by simpa [findM, List.find?_eq_none] using h
theorem findM_some {m : Msg} {l : List Evl} (i : Nat) (hi : i < l.length) (h : l[i].msg = m) (hf : ∀ t (ht : t < i), l[t].msg ≠ m) : findM m l = some l[i] := by
  unfold findM
  rw [List.find?_eq_some_iff_getElem]
  exact ⟨by simpa using h, i, hi, rfl, fun j hj => by simpa using hf j hj⟩
theorem removeM_none {m : Msg} {l : List Evl} (h : ∀ e ∈ l, e.msg ≠ m) : removeM m l = l := by
  unfold removeM
  rw [List.filter_eq_self]
  simpa using h
theorem while_cut {p : Evl → Bool} {l : List Evl} (i : Nat) (hi : i ≤ l.length) (h1 : ∀ t (ht : t < l.length), t < i → p l[t] = true) (h2 : ∀ h : i < l.length, p l[i] = false) : l.takeWhile p = l.take i ∧ l.dropWhile p = l.drop i := by
  induction l generalizing i with
  | nil => simp
  | cons a l ih =>
    cases i with
    | zero =>
      have := h2 (by simp)
      simp only [List.getElem_cons_zero] at this
      simp [this]
    | succ i =>
      have h0 := h1 0 (by simp) (by omega)
      simp only [List.getElem_cons_zero] at h0
      obtain ⟨q1, q2⟩ := ih i (by simpa using hi) (fun t ht hti => by
        have := h1 (t + 1) (by simpa using ht) (by omega)
        rwa [List.getElem_cons_succ] at this) (fun h => by
        have := h2 (by simpa using h)
        rwa [List.getElem_cons_succ] at this)
      simp [h0, q1, q2]
end Go.Proofs.Ytedhbklmebebgaa

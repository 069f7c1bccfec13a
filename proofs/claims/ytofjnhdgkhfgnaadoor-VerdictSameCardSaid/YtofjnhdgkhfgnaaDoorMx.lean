/- Rules to evaluate a piece of code of the abstract machine: operands first, what follows only then. -/
import Derived.Test.YtofjnhdgkhfgnaaDoorMw
namespace Go.Proofs.YtofjnhdgkhfgnaaDoor
open Go Go.RowKit

/-- what simp does not look into. -/
class Hold (α : Type) where
  it : α

/-- a value is found first. -/
def Now {α : Type} (v : α) [K : Hold (α → Prop)] : Prop := K.it v
theorem Now_any {α : Type} (v : α) (K : α → Prop) : @Now α v ⟨K⟩ = K v := Eq.trans rfl rfl

def Got {α : Type} (r : Option α) [K : Hold (α → Prop)] : Prop := ∃ v, r = some v ∧ K.it v
theorem Got_some {α : Type} (v : α) (K : α → Prop) : @Got α (some v) ⟨K⟩ = K v := by simp [Got]
theorem Got.intro {α : Type} {r : Option α} {K : α → Prop} (v : α) (h : r = some v) (k : K v) : @Got α r ⟨K⟩ := ⟨v, h, k⟩

def Test (v : Value) [H : Hold (Prop × Prop)] : Prop := ∃ b, v = .bool b ∧ (b = true → H.it.1) ∧ (b = false → H.it.2)
theorem Test_true (T F : Prop) : @Test (.bool true) ⟨(T, F)⟩ = T := by simp [Test]
theorem Test_false (T F : Prop) : @Test (.bool false) ⟨(T, F)⟩ = F := by simp [Test]
theorem Test_bool {b : Bool} {T F : Prop} (h1 : b = true → T) (h2 : b = false → F) : @Test (.bool b) ⟨(T, F)⟩ := ⟨b, rfl, h1, h2⟩
theorem Test_dec {p : Prop} [Decidable p] {T F : Prop} (h1 : p → T) (h2 : ¬ p → F) : @Test (.bool (decide p)) ⟨(T, F)⟩ := ⟨_, rfl, fun h => h1 (by simpa using h), fun h => h2 (by simpa using h)⟩

def Pick (v : Value) (want : Bool) [H : Hold (Prop × Prop)] : Prop := if (match v with | .bool b => b == want | _ => false) = true then H.it.1 else H.it.2
theorem Pick_tt (T F : Prop) : @Pick (.bool true) true ⟨(T, F)⟩ = T := by simp [Pick]
theorem Pick_ft (T F : Prop) : @Pick (.bool false) true ⟨(T, F)⟩ = F := by simp [Pick]
theorem Pick_tf (T F : Prop) : @Pick (.bool true) false ⟨(T, F)⟩ = F := by simp [Pick]
theorem Pick_ff (T F : Prop) : @Pick (.bool false) false ⟨(T, F)⟩ = T := by simp [Pick]
theorem Pick_t {b : Bool} {T F : Prop} (h1 : b = true → T) (h2 : b = false → F) : @Pick (.bool b) true ⟨(T, F)⟩ := by
  cases b
  · rw [Pick_ft]; exact h2 rfl
  · rw [Pick_tt]; exact h1 rfl
theorem Pick_f {b : Bool} {T F : Prop} (h1 : b = false → T) (h2 : b = true → F) : @Pick (.bool b) false ⟨(T, F)⟩ := by
  cases b
  · rw [Pick_ff]; exact h1 rfl
  · rw [Pick_tf]; exact h2 rfl

/-- a call and a loop, at which one's own lemmas are needed. -/
def XCall (P : Program) [Prim P] (f : FuncId) (args : Array Value) [H : Hold (St × (Value → St → Prop))] : Prop := XC P f args H.it.1 H.it.2
def XLoop (P : Program) [Prim P] [H : Hold (XCode × FEnv × St × (Ex → FEnv → St → Prop))] : Prop := XW P (.loop H.it.1) H.it.2.1 H.it.2.2.1 H.it.2.2.2
theorem XCall_at {P : Program} [Prim P] {f : FuncId} {args : Array Value} {S : St} {K : Value → St → Prop} (h : ∀ S', S' = S → @XCall P _ f args ⟨(S', K)⟩) : @XCall P _ f args ⟨(S, K)⟩ := h S rfl
def XCallv (P : Program) [Prim P] (v : Value) (args : Array Value) [H : Hold (St × (Value → St → Prop))] : Prop := ∃ g a b, v = .func g a b ∧ XG P g (a ++ args ++ b) H.it.1 H.it.2
theorem XCallv_func (P : Program) [Prim P] (f : FuncId) (a b args : Array Value) (S : St) (K : Value → St → Prop) : @XCallv P _ (.func (.func f) a b) args ⟨(S, K)⟩ = @XCall P _ f (a ++ args ++ b) ⟨(S, K)⟩ := by
  simp only [XCallv, XCall, XC, Value.func.injEq]
  apply propext
  constructor
  · rintro ⟨f', a', b', ⟨rfl, rfl, rfl⟩, h⟩; exact h
  · intro h; exact ⟨_, a, b, ⟨rfl, rfl, rfl⟩, h⟩
/-- a call of yield. -/
def XYield (P : Program) [Prim P] (id : Nat) (args : Array Value) [H : Hold (St × (Value → St → Prop))] : Prop := XG P (.yield id) args H.it.1 H.it.2
theorem XCallv_yield (P : Program) [Prim P] (id : Nat) (args : Array Value) (S : St) (K : Value → St → Prop) : @XCallv P _ (.func (.yield id) #[] #[]) args ⟨(S, K)⟩ = @XYield P _ id args ⟨(S, K)⟩ := by
  simp only [XCallv, XYield, Value.func.injEq]
  apply propext
  constructor
  · rintro ⟨f', a', b', ⟨rfl, rfl, rfl⟩, h⟩; simpa using h
  · intro h; exact ⟨_, #[], #[], ⟨rfl, rfl, rfl⟩, by simpa using h⟩
theorem XYield.of {P : Program} [Prim P] {id : Nat} {args : Array Value} {S : St} {Q Q' : Value → St → Prop} (h : XG P (.yield id) args S Q) (hq : ∀ v S', Q v S' → Q' v S') : @XYield P _ id args ⟨(S, Q')⟩ := XG.mono h hq
/-- a loop over a function. -/
def XRange (P : Program) [Prim P] (x : Value) (L : LoopC) [H : Hold (FEnv × St × (Ex → FEnv → St → Prop))] : Prop :=
  ∃ g a b, x = .func (.func g) a b ∧ ∀ env : Array Value, toF env = H.it.1 → L.n ≤ env.size → XC P g (a ++ #[Value.func (.yield H.it.2.1.next) #[] #[]] ++ b) (H.it.2.1.alloc (.loop env L none)) (fun _ S2 => ∃ env2 L2 pe, S2.get H.it.2.1.next = .loop env2 L2 pe ∧ H.it.2.2 (pe.getD .normal) H.it.1 (S2.put H.it.2.1.next .gone))
theorem XRange.intro {P : Program} [Prim P] {g : FuncId} {a b : Array Value} {L : LoopC} {fe : FEnv} {S : St} {Q : Ex → FEnv → St → Prop} (h : ∀ env : Array Value, toF env = fe → L.n ≤ env.size → XC P g (a ++ #[Value.func (.yield S.next) #[] #[]] ++ b) (S.alloc (.loop env L none)) (fun _ S2 => ∃ env2 L2 pe, S2.get S.next = .loop env2 L2 pe ∧ Q (pe.getD .normal) fe (S2.put S.next .gone))) : @XRange P _ (.func (.func g) a b) L ⟨(fe, S, Q)⟩ := ⟨g, a, b, rfl, h⟩
theorem XCall.of {P : Program} [Prim P] {f : FuncId} {args : Array Value} {S : St} {Q Q' : Value → St → Prop} (h : XC P f args S Q) (hq : ∀ v S', Q v S' → Q' v S') : @XCall P _ f args ⟨(S, Q')⟩ := XC.mono h hq

def bindN (K : FEnv → St → Prop) (Q : Ex → FEnv → St → Prop) : Ex → FEnv → St → Prop := fun e fe S => match e with
  | .normal => K fe S
  | e => Q e fe S
theorem bindN_normal (K : FEnv → St → Prop) (Q : Ex → FEnv → St → Prop) (fe : FEnv) (S : St) : bindN K Q .normal fe S = K fe S := Eq.trans rfl rfl
theorem bindN_exit (K : FEnv → St → Prop) (Q : Ex → FEnv → St → Prop) (id : Nat) (fe : FEnv) (S : St) : bindN K Q (.exit id) fe S = Q (.exit id) fe S := Eq.trans rfl rfl
theorem bindN_ret (K : FEnv → St → Prop) (Q : Ex → FEnv → St → Prop) (fe : FEnv) (S : St) : bindN K Q .ret fe S = Q .ret fe S := Eq.trans rfl rfl
def bindB (id : Nat) (Q : Ex → FEnv → St → Prop) : Ex → FEnv → St → Prop := fun e fe S => match e with
  | .exit id' => if id' = id then Q .normal fe S else Q (.exit id') fe S
  | e => Q e fe S
theorem bindB_normal (id : Nat) (Q : Ex → FEnv → St → Prop) (fe : FEnv) (S : St) : bindB id Q .normal fe S = Q .normal fe S := Eq.trans rfl rfl
theorem bindB_ret (id : Nat) (Q : Ex → FEnv → St → Prop) (fe : FEnv) (S : St) : bindB id Q .ret fe S = Q .ret fe S := Eq.trans rfl rfl
theorem bindB_self (id : Nat) (Q : Ex → FEnv → St → Prop) (fe : FEnv) (S : St) : bindB id Q (.exit id) fe S = Q .normal fe S := by simp [bindB]
theorem bindB_ne (id id' : Nat) (Q : Ex → FEnv → St → Prop) (fe : FEnv) (S : St) (h : id' ≠ id) : bindB id Q (.exit id') fe S = Q (.exit id') fe S := by simp [bindB, h]
def bindL (I : Nat → FEnv → St → Prop) (k : Nat) (Q : Ex → FEnv → St → Prop) : Ex → FEnv → St → Prop := fun e fe S => match e with
  | .normal => ∃ k', k' < k ∧ I k' fe S
  | e => Q e fe S
theorem bindL_normal (I : Nat → FEnv → St → Prop) (k : Nat) (Q : Ex → FEnv → St → Prop) (fe : FEnv) (S : St) : bindL I k Q .normal fe S = ∃ k', k' < k ∧ I k' fe S := Eq.trans rfl rfl
theorem bindL_exit (I : Nat → FEnv → St → Prop) (k : Nat) (Q : Ex → FEnv → St → Prop) (id : Nat) (fe : FEnv) (S : St) : bindL I k Q (.exit id) fe S = Q (.exit id) fe S := Eq.trans rfl rfl
theorem bindL_ret (I : Nat → FEnv → St → Prop) (k : Nat) (Q : Ex → FEnv → St → Prop) (fe : FEnv) (S : St) : bindL I k Q .ret fe S = Q .ret fe S := Eq.trans rfl rfl
/-- the way out of a loop. -/
def atExit (id : Nat) (R : FEnv → St → Prop) (Q : Ex → FEnv → St → Prop) : Ex → FEnv → St → Prop := fun e fe S => match e with
  | .exit i => if i = id then R fe S else Q (.exit i) fe S
  | e => Q e fe S
theorem atExit_self (id : Nat) (R : FEnv → St → Prop) (Q : Ex → FEnv → St → Prop) (fe : FEnv) (S : St) : atExit id R Q (.exit id) fe S = R fe S := by simp [atExit]
theorem atExit_ne (id i : Nat) (R : FEnv → St → Prop) (Q : Ex → FEnv → St → Prop) (fe : FEnv) (S : St) (h : i ≠ id) : atExit id R Q (.exit i) fe S = Q (.exit i) fe S := by simp [atExit, h]
theorem atExit_ret (id : Nat) (R : FEnv → St → Prop) (Q : Ex → FEnv → St → Prop) (fe : FEnv) (S : St) : atExit id R Q .ret fe S = Q .ret fe S := Eq.trans rfl rfl
/-- the end of a function. -/
def atEnd (l : List XRes) (Q : Value → St → Prop) : Ex → FEnv → St → Prop := fun e fe S => (∀ id, e ≠ .exit id) ∧ ∃ v, xrs l fe S = some v ∧ Q v S
theorem atEnd_normal (l : List XRes) (Q : Value → St → Prop) (fe : FEnv) (S : St) : atEnd l Q .normal fe S = @Got _ (xrs l fe S) ⟨fun v => Q v S⟩ := by simp [atEnd, Got]
theorem atEnd_ret (l : List XRes) (Q : Value → St → Prop) (fe : FEnv) (S : St) : atEnd l Q .ret fe S = @Got _ (xrs l fe S) ⟨fun v => Q v S⟩ := by simp [atEnd, Got]

section
variable {P : Program} [Prim P] {fe : FEnv} {S S0 : St}

theorem XC_body {f : FuncId} {xf : XFunc} (hf : XF P f = some xf) {args : List Value} {S : St} {Q : Value → St → Prop} (h : XW P xf.body (fe0 args) S (atEnd xf.results Q)) : XC P f args.toArray S Q := XC_intro hf h

/-- what is known at a call: the memory is in order, the arguments are addresses of it. -/
theorem XC.given {f : FuncId} {args : Array Value} {S : St} {Q : Value → St → Prop} (h : WS S → ScL S.next args.toList → XC P f args S Q) : XC P f args S Q := fun h1 h2 => h h1 h2 h1 h2

section
variable {Q : Ex → FEnv → St → Prop}
theorem XW_at {c : XCode} (h : ∀ S', S' = S → XW P c fe S' Q) : XW P c fe S Q := h S rfl
theorem XW_skip : XW P .skip fe S Q = Q .normal fe S := Eq.trans rfl rfl
theorem XW_exit (id : Nat) : XW P (.exit id) fe S Q = Q (.exit id) fe S := Eq.trans rfl rfl
theorem XW_ret : XW P .ret fe S Q = Q .ret fe S := Eq.trans rfl rfl
theorem XW_region (ops : List XOper) : XW P (.region ops) fe S Q = XO P ops fe S (Q .normal) := Eq.trans rfl rfl
theorem XW_draw (ops : List XOper) (st : List (List Nat)) (fl : List ((Bool × Bool) × Bool)) : XW P (.draw ⟨ops, st, fl⟩) fe S Q = XM P S (ops.zip fl) fe S (Q .normal) := Eq.trans rfl rfl
theorem XW_seq (a b : XCode) : XW P (.seq a b) fe S Q = XW P a fe S (bindN (fun fe S => XW P b fe S Q) Q) := by
  show XW P a fe S (fun e fe' S' => match e with
    | .normal => XW P b fe' S' Q
    | e => Q e fe' S') = _
  congr 1
theorem XW_block (id : Nat) (c : XCode) : XW P (.block id c) fe S Q = XW P c fe S (bindB id Q) := by
  show XW P c fe S (fun e fe' S' => match e with
    | .exit id' => if id' = id then Q .normal fe' S' else Q (.exit id') fe' S'
    | e => Q e fe' S') = _
  congr 1
theorem XW_cond (c : Operand) (a b : XCode) : XW P (.cond c a b) fe S Q = @Test (fev fe c) ⟨(XW P a fe S Q, XW P b fe S Q)⟩ := Eq.trans rfl rfl
theorem XW_range (x : Operand) (L : LoopC) : XW P (.range x L) fe S Q = @XRange P _ (fev fe x) L ⟨(fe, S, Q)⟩ := Eq.trans rfl rfl
theorem XW_stuck (c : XCode) : XW P (.loop c) fe S Q = @XLoop P _ ⟨(c, fe, S, Q)⟩ := Eq.trans rfl rfl

theorem XS_mono {o : XOp} {ρ : Operand → Value} {S : St} {K K' : Value → St → Prop} (h : ∀ v S, K v S → K' v S) (hx : XS P o ρ S K) : XS P o ρ S K' := by
  cases o
  case call f args => exact XC.mono hx h
  case callv x args =>
    obtain ⟨f, a, b, e, hx⟩ := hx
    exact ⟨f, a, b, e, XG.mono hx h⟩
  all_goals
    obtain ⟨v, S', e, hx⟩ := hx
    exact ⟨v, S', e, h _ _ hx⟩

def XCond (P : Program) [Prim P] [H : Hold (Operand × XCode × XCode × FEnv × St × (Ex → FEnv → St → Prop))] : Prop := XW P (.cond H.it.1 H.it.2.1 H.it.2.2.1) H.it.2.2.2.1 H.it.2.2.2.2.1 H.it.2.2.2.2.2
theorem XW_condStuck (c : Operand) (a b : XCode) : XW P (.cond c a b) fe S Q = @XCond P _ ⟨(c, a, b, fe, S, Q)⟩ := Eq.trans rfl rfl
theorem XCond_go (c : Operand) (a b : XCode) : @XCond P _ ⟨(c, a, b, fe, S, Q)⟩ = @Test (fev fe c) ⟨(XW P a fe S Q, XW P b fe S Q)⟩ := Eq.trans rfl rfl

theorem XW.mono {c : XCode} : ∀ {fe : FEnv} {S : St} {Q Q' : Ex → FEnv → St → Prop}, (∀ e fe S, Q e fe S → Q' e fe S) → XW P c fe S Q → XW P c fe S Q' := by
  have hO : ∀ (l : List XOper) {fe : FEnv} {S : St} {Q Q' : FEnv → St → Prop}, (∀ fe S, Q fe S → Q' fe S) → XO P l fe S Q → XO P l fe S Q' := by
    intro l
    induction l with
    | nil => intro fe S Q Q' h hx; exact h _ _ hx
    | cons o l ih =>
      intro fe S Q Q' h hx
      simp only [XO] at hx ⊢
      split at hx
      · rename_i hw
        rw [if_pos hw]
        exact XS_mono (fun v S' => ih h) hx
      · rename_i hw
        rw [if_neg hw]
        exact ih h hx
  have hM : ∀ (S0 : St) (l : List (XOper × (Bool × Bool) × Bool)) {fe : FEnv} {S : St} {Q Q' : FEnv → St → Prop}, (∀ fe S, Q fe S → Q' fe S) → XM P S0 l fe S Q → XM P S0 l fe S Q' := by
    intro S0 l
    induction l with
    | nil => intro fe S Q Q' h hx; exact h _ _ hx
    | cons o l ih =>
      obtain ⟨o, k, e⟩ := o
      intro fe S Q Q' h hx
      simp only [XM] at hx ⊢
      split at hx
      · rename_i hw
        rw [if_pos hw]
        exact ⟨hx.1, XS_mono (fun v S' hh => ⟨hh.1, ih h hh.2⟩) hx.2⟩
      · rename_i hw
        rw [if_neg hw]
        exact ih h hx
  induction c with
  | skip => intro fe S Q Q' h hx; exact h _ _ _ hx
  | exit id => intro fe S Q Q' h hx; exact h _ _ _ hx
  | ret => intro fe S Q Q' h hx; exact h _ _ _ hx
  | region ops => intro fe S Q Q' h hx; exact hO ops (h .normal) hx
  | draw d => intro fe S Q Q' h hx; exact hM S _ (h .normal) hx
  | seq a b iha ihb =>
    intro fe S Q Q' h hx
    rw [XW_seq] at hx ⊢
    refine iha (fun e fe S hh => ?_) hx
    cases e with
    | normal => exact ihb h hh
    | exit id => exact h _ _ _ hh
    | ret => exact h _ _ _ hh
  | cond c a b iha ihb =>
    intro fe S Q Q' h hx
    obtain ⟨b, e, h1, h2⟩ := hx
    exact ⟨b, e, fun hb => iha h (h1 hb), fun hb => ihb h (h2 hb)⟩
  | block id c ih =>
    intro fe S Q Q' h hx
    rw [XW_block] at hx ⊢
    refine ih (fun e fe S hh => ?_) hx
    cases e with
    | normal => exact h _ _ _ hh
    | ret => exact h _ _ _ hh
    | exit i =>
      simp only [bindB] at hh ⊢
      split at hh
      · rename_i hi; rw [if_pos hi]; exact h _ _ _ hh
      · rename_i hi; rw [if_neg hi]; exact h _ _ _ hh
  | loop c ih =>
    intro fe S Q Q' h hx
    obtain ⟨I, μ, h1, h2⟩ := hx
    refine ⟨I, μ, h1, fun fe S hI => ih (fun e fe' S' hh => ?_) (h2 fe S hI)⟩
    cases e with
    | normal => exact hh
    | exit id => exact h _ _ _ hh
    | ret => exact h _ _ _ hh
  | range x L =>
    intro fe S Q Q' h hx
    obtain ⟨g, a, b, e, hx⟩ := hx
    exact ⟨g, a, b, e, fun env h1 h2 => XC.mono (hx env h1 h2) fun _ S2 ⟨env2, L2, pe, k1, k2⟩ => ⟨env2, L2, pe, k1, h _ _ _ k2⟩⟩

theorem least {p : Nat → Prop} : ∀ n, p n → ∃ k, p k ∧ ∀ j, p j → k ≤ j := by
  intro n
  induction n using Nat.strongRecOn with
  | _ n ih =>
    intro h
    by_cases hh : ∃ m, m < n ∧ p m
    · obtain ⟨m, h1, h2⟩ := hh
      exact ih m h1 h2
    · exact ⟨n, h, fun j hj => Nat.le_of_not_lt fun hlt => hh ⟨j, hlt, hj⟩⟩

/-- what holds behind a choice, said once. -/
theorem XCond.cut {c : Operand} {a b : XCode} {K : FEnv → St → Prop} {Q : Ex → FEnv → St → Prop} (R : FEnv → St → Prop) (h1 : XW P (.cond c a b) fe S (bindN R Q)) (h2 : ∀ fe S, R fe S → K fe S) : @XCond P _ ⟨(c, a, b, fe, S, bindN K Q)⟩ := by
  refine XW.mono (fun e fe S hh => ?_) h1
  cases e with
  | normal => exact h2 _ _ hh
  | ret => exact hh
  | exit i => exact hh

/-- a loop: an invariant that a number counts down. -/
theorem XW_loop {c : XCode} {fe : FEnv} {S : St} {Q : Ex → FEnv → St → Prop} (I : Nat → FEnv → St → Prop) (n : Nat) (h0 : I n fe S) (h : ∀ k fe S, I k fe S → XW P c fe S (bindL I k Q)) : @XLoop P _ ⟨(c, fe, S, Q)⟩ := by
  show XW P (.loop c) fe S Q
  classical
  let μ : FEnv → St → Nat := fun fe S => if h : ∃ k, I k fe S ∧ ∀ j, I j fe S → k ≤ j then h.choose else 0
  have hμ : ∀ fe S k, I k fe S → I (μ fe S) fe S ∧ μ fe S ≤ k := fun fe S k hk => by
    have hex := least (p := fun k => I k fe S) k hk
    simp only [μ]
    rw [dif_pos hex]
    exact ⟨hex.choose_spec.1, hex.choose_spec.2 k hk⟩
  refine ⟨fun fe S => ∃ k, I k fe S, μ, ⟨n, h0⟩, fun fe S hI => ?_⟩
  obtain ⟨k0, hk0⟩ := hI
  refine XW.mono (fun e fe' S' hh => ?_) (h _ _ _ (hμ fe S k0 hk0).1)
  cases e with
  | normal =>
    obtain ⟨k', hk, hI'⟩ := hh
    exact ⟨⟨k', hI'⟩, Nat.lt_of_le_of_lt (hμ _ _ _ hI').2 hk⟩
  | exit id => exact hh
  | ret => exact hh
end

/-- the same, where what holds behind the loop is said once. -/
theorem XW_loopR {c : XCode} {fe : FEnv} {S : St} {Q : Ex → FEnv → St → Prop} (id : Nat) (I : Nat → FEnv → St → Prop) (R : FEnv → St → Prop) (n : Nat) (h0 : I n fe S) (h : ∀ k fe S, I k fe S → XW P c fe S (bindL I k (atExit id R Q))) (hq : ∀ fe S, R fe S → Q (.exit id) fe S) : @XLoop P _ ⟨(c, fe, S, Q)⟩ := by
  refine XW_loop I n h0 fun k fe S hI => XW.mono (fun e fe S hh => ?_) (h k fe S hI)
  cases e with
  | normal => exact hh
  | ret => exact hh
  | exit i =>
    simp only [bindL, atExit] at hh ⊢
    split at hh
    · rename_i e; subst e; exact hq _ _ hh
    · exact hh

theorem fev_tmp (fe : FEnv) (t : Tmp) : fev fe (.tmp t) = fe t := Eq.trans rfl rfl
theorem fev_const (fe : FEnv) (v : Value) : fev fe (.const v) = v := Eq.trans rfl rfl
theorem fev_func (fe : FEnv) (f : FuncId) : fev fe (.func f) = .func (.func f) #[] #[] := Eq.trans rfl rfl
theorem upd_same (fe : FEnv) (d : Tmp) (v : Value) : upd fe d v d = v := by simp [upd]
theorem upd_ne (fe : FEnv) (d t : Tmp) (v : Value) (h : t ≠ d) : upd fe d v t = fe t := by simp [upd, h]
theorem fe0_zero (a : Value) (l : List Value) : fe0 (a :: l) 0 = a := Eq.trans rfl rfl
theorem fe0_succ (a : Value) (l : List Value) (n : Nat) : fe0 (a :: l) (n + 1) = fe0 l n := Eq.trans rfl rfl

section
variable {Q : FEnv → St → Prop}
theorem XO_nil : XO P [] fe S Q = Q fe S := Eq.trans rfl rfl
theorem XO_cons (d : Tmp) (o : XOp) (r : List XOper) : XO P (⟨some d, o, none⟩ :: r) fe S Q = XS P o (fev fe) S (fun v S' => XO P r (upd fe d v) S' Q) := by simp [XO, fwant, updO]
theorem XO_cons_drop (o : XOp) (r : List XOper) : XO P (⟨none, o, none⟩ :: r) fe S Q = XS P o (fev fe) S (fun _ S' => XO P r fe S' Q) := by simp [XO, fwant, updO]
theorem XO_guard (d : Tmp) (o : XOp) (t : Tmp) (w : Bool) (r : List XOper) : XO P (⟨some d, o, some (t, w)⟩ :: r) fe S Q = @Pick (fe t) w ⟨(XS P o (fev fe) S (fun v S' => XO P r (upd fe d v) S' Q), XO P r (upd fe d undef) S Q)⟩ := Eq.trans rfl rfl
theorem XO_guard_drop (o : XOp) (t : Tmp) (w : Bool) (r : List XOper) : XO P (⟨none, o, some (t, w)⟩ :: r) fe S Q = @Pick (fe t) w ⟨(XS P o (fev fe) S (fun _ S' => XO P r fe S' Q), XO P r fe S Q)⟩ := Eq.trans rfl rfl

theorem XM_nil : XM P S0 [] fe S Q = Q fe S := Eq.trans rfl rfl
def keepP (keep : Bool × Bool) [H : Hold (St × St × Prop)] : Prop := ((keep.1 = true → ExtL H.it.1 H.it.2.1) ∧ (keep.2 = true → Ext H.it.1 H.it.2.1)) ∧ H.it.2.2
theorem keepP_false (S S' : St) (K : Prop) : @keepP (false, false) ⟨(S, S', K)⟩ = K := by simp [keepP]
theorem keepP.intro {k : Bool × Bool} {S S' : St} {K : Prop} (h : Ext S S') (hk : K) : @keepP k ⟨(S, S', K)⟩ := ⟨⟨fun _ => h.toL, fun _ => h⟩, hk⟩
theorem keepP.introL {S S' : St} {K : Prop} (h : ExtL S S') (hk : K) : @keepP (true, false) ⟨(S, S', K)⟩ := ⟨⟨fun _ => h, fun h => by cases h⟩, hk⟩
def earlyP (early : Bool) [H : Hold (XOp × (Operand → Value) × St × Prop)] : Prop := (early = true → ∀ id, readsAt H.it.1 H.it.2.1 = some id → id < H.it.2.2.1.next) ∧ H.it.2.2.2
theorem earlyP_false (o : XOp) (ρ : Operand → Value) (S0 : St) (K : Prop) : @earlyP false ⟨(o, ρ, S0, K)⟩ = K := by simp [earlyP]
theorem earlyP.intro {e : Bool} {o : XOp} {ρ : Operand → Value} {S0 : St} {K : Prop} (h : ∀ id, readsAt o ρ = some id → id < S0.next) (hk : K) : @earlyP e ⟨(o, ρ, S0, K)⟩ := ⟨fun _ => h, hk⟩

/-- a condition that is needed. -/
def Need (p : Prop) [K : Hold Prop] : Prop := p ∧ K.it
theorem Need_true (K : Prop) : @Need True ⟨K⟩ = K := by simp [Need]
theorem Need.intro {p K : Prop} (h : p) (k : K) : @Need p ⟨K⟩ := ⟨h, k⟩
def ptrBlk (v : Value) : Option Nat := match v with
  | .pointer (some a) => some a.block
  | _ => none
def slBlk (v : Value) : Option Nat := match v with
  | .slice (some a) _ _ => some a.block
  | _ => none
def Low (v : Value) (n : Nat) [K : Hold Prop] : Prop := (∀ id, ptrBlk v = some id → id < n) ∧ K.it
theorem Low_ptr (id o n : Nat) (K : Prop) : @Low (.pointer (some ⟨id, o, none⟩)) n ⟨K⟩ = @Need (id < n) ⟨K⟩ := by simp [Low, Need, ptrBlk]
def LowS (v : Value) (n : Nat) [K : Hold Prop] : Prop := (∀ id, slBlk v = some id → id < n) ∧ K.it
theorem LowS_slice (id o n l c : Nat) (K : Prop) : @LowS (.slice (some ⟨id, o, none⟩) l c) n ⟨K⟩ = @Need (id < n) ⟨K⟩ := by simp [LowS, Need, slBlk]
theorem LowS_nil (n l c : Nat) (K : Prop) : @LowS (.slice none l c) n ⟨K⟩ = K := by simp [LowS, slBlk]
theorem early_load (agg : Bool) (sz : Nat) (x : Operand) (ρ : Operand → Value) (S0 : St) (K : Prop) : @earlyP true ⟨(.load agg sz x, ρ, S0, K)⟩ = @Now _ (ρ x) ⟨fun v => @Low v S0.next ⟨K⟩⟩ := by
  have e : readsAt (.load agg sz x) ρ = ptrBlk (ρ x) := by unfold readsAt ptrBlk; rfl
  simp only [earlyP, Now, Low, e, true_implies]
theorem early_sl (esz : Nat) (x : Operand) (lo hi : Option Operand) (ρ : Operand → Value) (S0 : St) (K : Prop) : @earlyP true ⟨(.sl esz x lo hi, ρ, S0, K)⟩ = @Now _ (ρ x) ⟨fun v => @LowS v S0.next ⟨K⟩⟩ := by
  have e : readsAt (.sl esz x lo hi) ρ = slBlk (ρ x) := by unfold readsAt slBlk; rfl
  simp only [earlyP, Now, LowS, e, true_implies]

theorem XM_cons (d : Tmp) (o : XOp) (k : Bool × Bool) (e : Bool) (r : List (XOper × (Bool × Bool) × Bool)) : XM P S0 ((⟨some d, o, none⟩, k, e) :: r) fe S Q = @earlyP e ⟨(o, fev fe, S0, XS P o (fev fe) S (fun v S' => @keepP k ⟨(S, S', XM P S0 r (upd fe d v) S' Q)⟩))⟩ := by simp [XM, fwant, updO, keepP, earlyP]
theorem XM_cons_drop (o : XOp) (k : Bool × Bool) (e : Bool) (r : List (XOper × (Bool × Bool) × Bool)) : XM P S0 ((⟨none, o, none⟩, k, e) :: r) fe S Q = @earlyP e ⟨(o, fev fe, S0, XS P o (fev fe) S (fun _ S' => @keepP k ⟨(S, S', XM P S0 r fe S' Q)⟩))⟩ := by simp [XM, fwant, updO, keepP, earlyP]
theorem XM_guard (d : Tmp) (o : XOp) (t : Tmp) (w : Bool) (k : Bool × Bool) (e : Bool) (r : List (XOper × (Bool × Bool) × Bool)) : XM P S0 ((⟨some d, o, some (t, w)⟩, k, e) :: r) fe S Q = @Pick (fe t) w ⟨(@earlyP e ⟨(o, fev fe, S0, XS P o (fev fe) S (fun v S' => @keepP k ⟨(S, S', XM P S0 r (upd fe d v) S' Q)⟩))⟩, XM P S0 r (upd fe d undef) S Q)⟩ := Eq.trans rfl rfl
theorem XM_guard_drop (o : XOp) (t : Tmp) (w : Bool) (k : Bool × Bool) (e : Bool) (r : List (XOper × (Bool × Bool) × Bool)) : XM P S0 ((⟨none, o, some (t, w)⟩, k, e) :: r) fe S Q = @Pick (fe t) w ⟨(@earlyP e ⟨(o, fev fe, S0, XS P o (fev fe) S (fun _ S' => @keepP k ⟨(S, S', XM P S0 r fe S' Q)⟩))⟩, XM P S0 r fe S Q)⟩ := Eq.trans rfl rfl
end

/-- what lies in a block. -/
def Blk.rd (b : Blk) (o n : Nat) : Option (List Value) :=
  match b with
  | .cells c _ _ _ _ => if o + n ≤ c.length then some ((c.drop o).take n) else none
  | _ => none
def Blk.width (b : Blk) : Option Nat :=
  match b with
  | .cells _ _ z _ _ => some z
  | _ => none
theorem rd_eq (S : St) (id o n : Nat) : S.rd id o n = (S.get id).rd o n := by unfold St.rd Blk.rd; rfl
theorem width_eq (S : St) (id : Nat) : S.width id = (S.get id).width := by unfold St.width Blk.width; rfl
theorem Blk.rd_cells (c : List Value) (t : TypeId) (z : Nat) (m : Bool) (an : List Nat) (o n : Nat) : (Blk.cells c t z m an).rd o n = if o + n ≤ c.length then some ((c.drop o).take n) else none := Eq.trans rfl rfl
theorem Blk.width_cells (c : List Value) (t : TypeId) (z : Nat) (m : Bool) (an : List Nat) : (Blk.cells c t z m an).width = some z := Eq.trans rfl rfl

theorem next_alloc (S : St) (b : Blk) : (S.alloc b).next = S.next + 1 := Eq.trans rfl rfl
theorem get_alloc_self (S : St) (b : Blk) : (S.alloc b).get S.next = b := by rw [St.get_alloc, if_pos rfl]
theorem get_alloc_ne (S : St) (b : Blk) (j : Nat) (h : j ≠ S.next) : (S.alloc b).get j = S.get j := by rw [St.get_alloc, if_neg h]
theorem get_write_self (S : St) (id : Nat) (c : List Value) (t : TypeId) (sz : Nat) (an : List Nat) : (S.write id c t sz an).get id = .cells c t sz true [] := by rw [St.get_write, if_pos rfl]
theorem get_write_ne (S : St) (id : Nat) (c : List Value) (t : TypeId) (sz : Nat) (j : Nat) (h : j ≠ id) : (S.write id c t sz []).get j = S.get j := by rw [St.get_write, if_neg h]; simp

/-- what a value holds as cells, when it may lie in memory. -/
def boxc (v : Value) : Option (List Value) := if allOne v.cells.toList then some v.cells.toList else none

def ldv (S : St) (agg : Bool) (sz : Nat) (v : Value) : Option Value := match v with
  | .pointer (some ⟨id, o, none⟩) => ((S.get id).rd o sz).bind (part1 agg)
  | _ => none
theorem ldv_ptr (S : St) (agg : Bool) (sz id o : Nat) : ldv S agg sz (.pointer (some ⟨id, o, none⟩)) = ((S.get id).rd o sz).bind (part1 agg) := Eq.trans rfl rfl

/-- the block that a pointer points into. -/
def blkOf (S : St) (v : Value) : Option (Nat × Nat × Blk) := match v with
  | .pointer (some ⟨id, o, none⟩) => some (id, o, S.get id)
  | _ => none
def stv (sz : Nat) (c : List Value) (o : Nat) (b : Blk) : Option (List Value × TypeId × Nat × List Nat) := match b with
  | .cells l t z true an => if c.length = sz ∧ o + sz ≤ l.length then some (splice l o c, t, z, an) else none
  | _ => none
theorem stv_cells (sz : Nat) (c : List Value) (o : Nat) (l : List Value) (t : TypeId) (z : Nat) (an : List Nat) : stv sz c o (.cells l t z true an) = if c.length = sz ∧ o + sz ≤ l.length then some (splice l o c, t, z, an) else none := Eq.trans rfl rfl

theorem boxc_agg (l : List Value) : boxc (.agg l.toArray) = if allOne l = true then some l else none := Eq.trans rfl rfl
theorem blkOf_ptr (S : St) (id o : Nat) : blkOf S (.pointer (some ⟨id, o, none⟩)) = some (id, o, S.get id) := Eq.trans rfl rfl
def ptrAdd (v : Value) (off : Nat) : Option Value := match v with
  | .pointer (some ⟨id, o, none⟩) => some (.pointer (some ⟨id, o + off, none⟩))
  | _ => none
theorem ptrAdd_ptr (id o off : Nat) : ptrAdd (.pointer (some ⟨id, o, none⟩)) off = some (.pointer (some ⟨id, o + off, none⟩)) := Eq.trans rfl rfl

def iav (esz : Nat) (x i : Value) : Option Value := match x, i with
  | .slice (some ⟨id, o, none⟩) n _, .int _ i => if 0 ≤ i ∧ i < n then some (.pointer (some ⟨id, o + i.toNat * esz, none⟩)) else none
  | _, _ => none
def iaArrv (n esz : Nat) (x i : Value) : Option Value := match x, i with
  | .pointer (some ⟨id, o, none⟩), .int _ i => if 0 ≤ i ∧ i < n then some (.pointer (some ⟨id, o + i.toNat * esz, none⟩)) else none
  | _, _ => none
def fldv (agg : Bool) (sz off : Nat) (x : Value) : Option Value := match x with
  | .agg a => if off + sz ≤ a.size then part1 agg ((a.toList.drop off).take sz) else none
  | _ => none
def lenv (x : Value) : Option Value := match x with
  | .slice _ n _ => some (.int .i64 n)
  | _ => none
def extv (x : Value) (i : Nat) : Option Value := match x with
  | .tuple a => a[i]?
  | _ => none
def eqfv (ks : List Nat) (neg : Bool) (x y : Value) : Option Value := match x, y with
  | .agg a, .agg b => (eqL ks a.toList b.toList).map fun r => .bool (notIf neg r)
  | _, _ => none
def eqbv (neg : Bool) (x y : Value) : Option Value := match x, y with
  | .bool a, .bool b => some (.bool (notIf neg (a == b)))
  | _, _ => none
def eqpv (neg : Bool) (x y : Value) : Option Value := match x, y with
  | .pointer p, .pointer none => some (.bool (notIf neg p.isNone))
  | _, _ => none
def eqsv (neg : Bool) (x y : Value) : Option Value := match x, y with
  | .slice p _ _, .slice none _ _ => some (.bool (notIf neg p.isNone))
  | _, _ => none
def unv (op : UnOp) (x : Value) : Option Value := match op, x with
  | .neg, .int k n => some (.int k (k.wrap (0 - n)))
  | .not, .bool b => some (.bool !b)
  | _, _ => none
def cviv (k : IntKind) (x : Value) : Option Value := match x with
  | .int _ n => some (.int k (k.wrap n))
  | _ => none
def nilckv (x : Value) : Option Value := match x with
  | .pointer (some ⟨id, o, none⟩) => some (.pointer (some ⟨id, o, none⟩))
  | .func (.func f) a b => some (.func (.func f) a b)
  | .iface t v => some (.iface t v)
  | _ => none
def pickv (c a b : Value) : Option Value := match c with
  | .bool q => some (if q then a else b)
  | _ => none

theorem pick_t (a b : Value) : pickv (.bool true) a b = some a := Eq.trans rfl rfl
theorem pick_f (a b : Value) : pickv (.bool false) a b = some b := Eq.trans rfl rfl
theorem eqsv_nil (n c n' c' : Nat) : eqsv false (.slice none n c) (.slice none n' c') = some (.bool true) := Eq.trans rfl rfl
theorem eqsv_some (a : Addr) (n c n' c' : Nat) : eqsv false (.slice (some a) n c) (.slice none n' c') = some (.bool false) := Eq.trans rfl rfl
theorem unv_not (b : Bool) : unv .not (.bool b) = some (.bool !b) := Eq.trans rfl rfl
theorem ext_zero (a : Value) (l : List Value) : extv (.tuple (a :: l).toArray) 0 = some a := Eq.trans rfl rfl
theorem ext_one (a b : Value) (l : List Value) : extv (.tuple (a :: b :: l).toArray) 1 = some b := Eq.trans rfl rfl
theorem ext_two (a b c : Value) (l : List Value) : extv (.tuple (a :: b :: c :: l).toArray) 2 = some c := Eq.trans rfl rfl
theorem nilck_ptr (id o : Nat) : nilckv (.pointer (some ⟨id, o, none⟩)) = some (.pointer (some ⟨id, o, none⟩)) := Eq.trans rfl rfl

section
variable {ρ : Operand → Value} {K : Value → St → Prop}

theorem XS_one {o : XOp} (r : Option Value) (hn : ∀ f a, o ≠ .call f a) (hn2 : ∀ x a, o ≠ .callv x a) (h : xop o ρ S = r.map fun v => (v, S)) : XS P o ρ S K = @Got _ r ⟨fun v => K v S⟩ := by
  have e : XS P o ρ S K = ∃ v S', xop o ρ S = some (v, S') ∧ K v S' := by
    unfold XS
    split
    · exact absurd rfl (hn _ _)
    · exact absurd rfl (hn2 _ _)
    · rfl
  rw [e, h]
  apply propext
  constructor
  · rintro ⟨v, S', h1, h2⟩
    simp only [Option.map_eq_some_iff, Prod.mk.injEq] at h1
    obtain ⟨u, h3, rfl, rfl⟩ := h1
    exact ⟨u, h3, h2⟩
  · rintro ⟨u, h3, h2⟩
    exact ⟨u, S, by simp [h3], h2⟩

theorem XS_mv (x : Operand) : XS P (.mv x) ρ S K = @Now _ (ρ x) ⟨fun v => K v S⟩ := by
  rw [XS_one (some (ρ x)) (by simp) (by simp) rfl, Got_some]
  rfl
theorem XS_call (f : FuncId) (args : Array Operand) : XS P (.call f args) ρ S K = @XCall P _ f (args.map ρ) ⟨(S, K)⟩ := Eq.trans rfl rfl
theorem XS_callv (x : Operand) (args : Array Operand) : XS P (.callv x args) ρ S K = @Now _ (ρ x) ⟨fun v => @XCallv P _ v (args.map ρ) ⟨(S, K)⟩⟩ := Eq.trans rfl rfl
theorem XS_load (agg : Bool) (sz : Nat) (x : Operand) : XS P (.load agg sz x) ρ S K = @Now _ (ρ x) ⟨fun v => @Got _ (ldv S agg sz v) ⟨fun u => K u S⟩⟩ := by
  rw [XS_one (ldv S agg sz (ρ x)) (by simp) (by simp)]; rfl
  simp only [xop, ldv, rd_eq]
  split <;> split <;> first | rfl | (simp_all; done) | (simp_all; rfl) | grind
theorem XS_fa (off : Nat) (x : Operand) : XS P (.fa off x) ρ S K = @Now _ (ρ x) ⟨fun v => @Got _ (ptrAdd v off) ⟨fun u => K u S⟩⟩ := by
  rw [XS_one (ptrAdd (ρ x) off) (by simp) (by simp)]; rfl
  simp only [xop, ptrAdd]
  split <;> split <;> first | rfl | (simp_all; done) | (simp_all; rfl) | grind
theorem XS_fld (agg : Bool) (sz off : Nat) (x : Operand) : XS P (.fld agg sz off x) ρ S K = @Now _ (ρ x) ⟨fun v => @Got _ (fldv agg sz off v) ⟨fun u => K u S⟩⟩ := by
  rw [XS_one (fldv agg sz off (ρ x)) (by simp) (by simp)]; rfl
  simp only [xop, fldv]
  split <;> split <;> first | rfl | (simp_all; done) | (simp_all; rfl) | grind
theorem XS_ia (esz : Nat) (x i : Operand) : XS P (.ia esz x i) ρ S K = @Now _ (ρ x) ⟨fun v => @Now _ (ρ i) ⟨fun j => @Got _ (iav esz v j) ⟨fun u => K u S⟩⟩⟩ := by
  rw [XS_one (iav esz (ρ x) (ρ i)) (by simp) (by simp)]; rfl
  simp only [xop, iav]
  split <;> split <;> first | rfl | (simp_all; done) | (simp_all; rfl) | grind
theorem XS_iaArr (n esz : Nat) (x i : Operand) : XS P (.iaArr n esz x i) ρ S K = @Now _ (ρ x) ⟨fun v => @Now _ (ρ i) ⟨fun j => @Got _ (iaArrv n esz v j) ⟨fun u => K u S⟩⟩⟩ := by
  rw [XS_one (iaArrv n esz (ρ x) (ρ i)) (by simp) (by simp)]; rfl
  simp only [xop, iaArrv]
  split <;> split <;> first | rfl | (simp_all; done) | (simp_all; rfl) | grind
theorem XS_bin (op : BinOp) (x y : Operand) : XS P (.bin op x y) ρ S K = @Now _ (ρ x) ⟨fun v => @Now _ (ρ y) ⟨fun u => @Got _ (xbin op v u) ⟨fun r => K r S⟩⟩⟩ := by
  rw [XS_one (xbin op (ρ x) (ρ y)) (by simp) (by simp)]; rfl
  rfl
theorem XS_len (x : Operand) : XS P (.len x) ρ S K = @Now _ (ρ x) ⟨fun v => @Got _ (lenv v) ⟨fun r => K r S⟩⟩ := by
  rw [XS_one (lenv (ρ x)) (by simp) (by simp)]; rfl
  simp only [xop, lenv]
  split <;> split <;> first | rfl | (simp_all; done) | (simp_all; rfl) | grind
theorem XS_ext (x : Operand) (i : Nat) : XS P (.ext x i) ρ S K = @Now _ (ρ x) ⟨fun v => @Got _ (extv v i) ⟨fun r => K r S⟩⟩ := by
  rw [XS_one (extv (ρ x) i) (by simp) (by simp)]; rfl
  simp only [xop, extv]
  split <;> split <;> first | rfl | (simp_all; done) | (simp_all; rfl) | grind
theorem XS_eqf (ks : List Nat) (neg : Bool) (x y : Operand) : XS P (.eqf ks neg x y) ρ S K = @Now _ (ρ x) ⟨fun v => @Now _ (ρ y) ⟨fun u => @Got _ (eqfv ks neg v u) ⟨fun r => K r S⟩⟩⟩ := by
  rw [XS_one (eqfv ks neg (ρ x) (ρ y)) (by simp) (by simp)]; rfl
  simp only [xop, eqfv]
  split <;> split <;> first | rfl | (simp_all; done) | (simp_all; rfl) | grind
theorem XS_eqb (neg : Bool) (x y : Operand) : XS P (.eqb neg x y) ρ S K = @Now _ (ρ x) ⟨fun v => @Now _ (ρ y) ⟨fun u => @Got _ (eqbv neg v u) ⟨fun r => K r S⟩⟩⟩ := by
  rw [XS_one (eqbv neg (ρ x) (ρ y)) (by simp) (by simp)]; rfl
  simp only [xop, eqbv]
  split <;> split <;> first | rfl | (simp_all; done) | (simp_all; rfl) | grind
theorem XS_eqp (neg : Bool) (x y : Operand) : XS P (.eqp neg x y) ρ S K = @Now _ (ρ x) ⟨fun v => @Now _ (ρ y) ⟨fun u => @Got _ (eqpv neg v u) ⟨fun r => K r S⟩⟩⟩ := by
  rw [XS_one (eqpv neg (ρ x) (ρ y)) (by simp) (by simp)]; rfl
  simp only [xop, eqpv]
  split <;> split <;> first | rfl | (simp_all; done) | (simp_all; rfl) | grind
theorem XS_eqs (neg : Bool) (x y : Operand) : XS P (.eqs neg x y) ρ S K = @Now _ (ρ x) ⟨fun v => @Now _ (ρ y) ⟨fun u => @Got _ (eqsv neg v u) ⟨fun r => K r S⟩⟩⟩ := by
  rw [XS_one (eqsv neg (ρ x) (ρ y)) (by simp) (by simp)]; rfl
  simp only [xop, eqsv]
  split <;> split <;> first | rfl | (simp_all; done) | (simp_all; rfl) | grind
theorem XS_un (op : UnOp) (x : Operand) : XS P (.un op x) ρ S K = @Now _ (ρ x) ⟨fun v => @Got _ (unv op v) ⟨fun r => K r S⟩⟩ := by
  rw [XS_one (unv op (ρ x)) (by simp) (by simp)]; rfl
  simp only [xop, unv]
  split <;> split <;> first | rfl | (simp_all; done) | (simp_all; rfl) | grind
theorem XS_cvi (k : IntKind) (x : Operand) : XS P (.cvi k x) ρ S K = @Now _ (ρ x) ⟨fun v => @Got _ (cviv k v) ⟨fun r => K r S⟩⟩ := by
  rw [XS_one (cviv k (ρ x)) (by simp) (by simp)]; rfl
  simp only [xop, cviv]
  split <;> split <;> first | rfl | (simp_all; done) | (simp_all; rfl) | grind
theorem XS_nilck (x : Operand) : XS P (.nilck x) ρ S K = @Now _ (ρ x) ⟨fun v => @Got _ (nilckv v) ⟨fun r => K r S⟩⟩ := by
  rw [XS_one (nilckv (ρ x)) (by simp) (by simp)]; rfl
  simp only [xop, nilckv]
  split <;> split <;> first | rfl | (simp_all; done) | (simp_all; rfl) | grind
theorem XS_pick (c a b : Operand) : XS P (.pick c a b) ρ S K = @Now _ (ρ c) ⟨fun v => @Now _ (ρ a) ⟨fun x => @Now _ (ρ b) ⟨fun y => @Got _ (pickv v x y) ⟨fun r => K r S⟩⟩⟩⟩ := by
  rw [XS_one (pickv (ρ c) (ρ a) (ρ b)) (by simp) (by simp)]; rfl
  simp only [xop, pickv]
  split <;> split <;> first | rfl | (simp_all; done) | (simp_all; rfl) | grind
theorem XS_mkFunc (f : FuncId) (a b : Array Operand) : XS P (.mkFunc f a b) ρ S K = @Now _ (a.map ρ) ⟨fun a => @Now _ (b.map ρ) ⟨fun b => K (.func (.func f) a b) S⟩⟩ := by
  simp only [XS, xop, Now, Option.some.injEq, Prod.mk.injEq]
  exact propext ⟨fun ⟨_, _, ⟨rfl, rfl⟩, h⟩ => h, fun h => ⟨_, _, ⟨rfl, rfl⟩, h⟩⟩
theorem XS_mkIface (t : TypeId) (x : Operand) : XS P (.mkIface t x) ρ S K = @Now _ (ρ x) ⟨fun v => K (.iface t v) S⟩ := by
  simp only [XS, xop, Now, Option.some.injEq, Prod.mk.injEq]
  exact propext ⟨fun ⟨_, _, ⟨rfl, rfl⟩, h⟩ => h, fun h => ⟨_, _, ⟨rfl, rfl⟩, h⟩⟩
theorem XS_build (z : List Value) (parts : List (Nat × Nat × Operand)) : XS P (.build z parts) ρ S K = @Got _ (fillL z (parts.map fun p => (p.1, p.2.1, ρ p.2.2))) ⟨fun l => K (.agg l.toArray) S⟩ := by
  rw [XS_one ((fillL z (parts.map fun p => (p.1, p.2.1, ρ p.2.2))).map fun l => .agg l.toArray) (by simp) (by simp)]
  · unfold Got
    apply propext
    constructor
    · rintro ⟨v, h1, h2⟩
      simp only [Option.map_eq_some_iff] at h1
      obtain ⟨l, h3, rfl⟩ := h1
      exact ⟨l, h3, h2⟩
    · rintro ⟨l, h3, h2⟩
      exact ⟨_, by rw [h3]; rfl, h2⟩
  · simp only [xop]
    cases fillL z (parts.map fun p => (p.1, p.2.1, ρ p.2.2)) <;> rfl
theorem XS_box (t : TypeId) (x : Operand) : XS P (.box t x) ρ S K = @Now _ (ρ x) ⟨fun v => @Got _ (boxc v) ⟨fun c => K (.pointer (some ⟨S.next, 0, none⟩)) (S.alloc (.cells c t c.length true []))⟩⟩ := by
  simp only [XS, xop, Now, Got, boxc]
  split
  · simp only [Option.some.injEq, Prod.mk.injEq, exists_eq_left']
    exact propext ⟨fun ⟨_, _, ⟨rfl, rfl⟩, h⟩ => h, fun h => ⟨_, _, ⟨rfl, rfl⟩, h⟩⟩
  · simp
theorem XS_zero (t : TypeId) (z : Value) : XS P (.zero t z) ρ S K = @Now _ z.cells.toList ⟨fun c => K (.pointer (some ⟨S.next, 0, none⟩)) (S.alloc (.cells c t c.length true []))⟩ := by
  simp only [XS, xop, Now, Option.some.injEq, Prod.mk.injEq]
  exact propext ⟨fun ⟨_, _, ⟨rfl, rfl⟩, h⟩ => h, fun h => ⟨_, _, ⟨rfl, rfl⟩, h⟩⟩
theorem XS_store (sz : Nat) (a x : Operand) : XS P (.store sz a x) ρ S K = @Now _ (ρ a) ⟨fun p => @Now _ (ρ x) ⟨fun v => @Got _ (boxc v) ⟨fun c => @Got _ (blkOf S p) ⟨fun b => @Got _ (stv sz c b.2.1 b.2.2) ⟨fun r => K undef (S.write b.1 r.1 r.2.1 r.2.2.1 r.2.2.2)⟩⟩⟩⟩⟩ := by
  simp only [XS, xop, Now, Got]
  apply propext
  constructor
  · rintro ⟨v, S', h1, h2⟩
    split at h1
    case h_2 => cases h1
    rename_i id o e
    rw [e]
    split at h1
    case h_2 => cases h1
    rename_i c t z an e2
    split at h1
    case isFalse => cases h1
    rename_i hc
    simp only [Option.some.injEq, Prod.mk.injEq] at h1
    obtain ⟨rfl, rfl⟩ := h1
    refine ⟨(ρ x).cells.toList, by simp [boxc, hc.2.2], (id, o, S.get id), rfl, (splice c o (ρ x).cells.toList, t, z, an), ?_, h2⟩
    simp only [e2, stv]
    rw [if_pos ⟨by simpa using hc.1, hc.2.1⟩]
  · rintro ⟨c, h1, b, h2, r, h3, h4⟩
    unfold boxc at h1
    split at h1
    case isFalse => cases h1
    rename_i hall
    obtain rfl := Option.some.inj h1
    unfold blkOf at h2
    split at h2
    case h_2 => cases h2
    rename_i id o e
    obtain rfl := Option.some.inj h2
    simp only [stv] at h3
    split at h3
    case h_2 => cases h3
    rename_i l t z an e2
    split at h3
    case isFalse => cases h3
    rename_i hc
    obtain rfl := Option.some.inj h3
    refine ⟨_, _, ?_, h4⟩
    rw [e]
    simp only [e2]
    rw [if_pos ⟨by simpa using hc.1, hc.2, hall⟩]
theorem allOne_int (k : IntKind) (n : Int) (l : List Value) : allOne (.int k n :: l) = allOne l := Eq.trans rfl rfl
theorem allOne_nil : allOne [] = true := Eq.trans rfl rfl
theorem XS_buildSlice (e : TypeId) (esz n : Nat) (z : List Value) (parts : List (Nat × Nat × Operand)) : XS P (.buildSlice e esz n z parts) ρ S K = @Need (z.length = esz) ⟨@Got _ (fillL (rep n z) (parts.map fun p => (p.1, p.2.1, ρ p.2.2))) ⟨fun l => @Need (allOne l = true) ⟨K (.slice (some ⟨S.next, 0, none⟩) n n) (S.alloc (.cells l e esz true []))⟩⟩⟩ := by
  simp only [XS, xop, Got, Need]
  apply propext
  constructor
  · rintro ⟨v, S', h1, h2⟩
    split at h1
    case isFalse => cases h1
    rename_i hz
    simp only [Option.bind_eq_some_iff] at h1
    obtain ⟨l, h3, h4⟩ := h1
    split at h4
    case isFalse => cases h4
    rename_i hl
    simp only [Option.some.injEq, Prod.mk.injEq] at h4
    obtain ⟨rfl, rfl⟩ := h4
    exact ⟨hz, l, h3, hl, h2⟩
  · rintro ⟨hz, l, h3, hl, h2⟩
    refine ⟨_, _, ?_, h2⟩
    rw [if_pos hz, h3]
    simp [hl]
theorem XS_gen {o : XOp} (hn : ∀ f a, o ≠ .call f a) (hn2 : ∀ x a, o ≠ .callv x a) : XS P o ρ S K = @Got _ (xop o ρ S) ⟨fun r => K r.1 r.2⟩ := by
  have e : XS P o ρ S K = ∃ v S', xop o ρ S = some (v, S') ∧ K v S' := by
    unfold XS
    split
    · exact absurd rfl (hn _ _)
    · exact absurd rfl (hn2 _ _)
    · rfl
  rw [e]
  apply propext
  constructor
  · rintro ⟨v, S', h1, h2⟩; exact ⟨(v, S'), h1, h2⟩
  · rintro ⟨⟨v, S'⟩, h1, h2⟩; exact ⟨v, S', h1, h2⟩
theorem XS_append (e : TypeId) (esz bytes : Nat) (s x : Operand) : XS P (.append e esz bytes s x) ρ S K = @Now _ (ρ s) ⟨fun v => @Now _ (ρ x) ⟨fun u => @Got _ (xappend e esz bytes v u S) ⟨fun r => K r.1 r.2⟩⟩⟩ := XS_gen (by simp) (by simp)
theorem XS_copy (esz : Nat) (d s : Operand) : XS P (.copy esz d s) ρ S K = @Now _ (ρ d) ⟨fun v => @Now _ (ρ s) ⟨fun u => @Got _ (xcopy esz v u S) ⟨fun r => K r.1 r.2⟩⟩⟩ := XS_gen (by simp) (by simp)
theorem XS_clr (esz : Nat) (z : List Value) (x : Operand) : XS P (.clr esz z x) ρ S K = @Now _ (ρ x) ⟨fun v => @Got _ (xclr esz z v S) ⟨fun r => K r.1 r.2⟩⟩ := XS_gen (by simp) (by simp)
def slv (S : St) (esz : Nat) (x : Value) (lo hi : Option Value) : Option Value := match x with
  | .slice a n c => match bound lo 0, bound hi n with
    | some l, some h => if l ≤ h ∧ h ≤ c then (match a with
      | none => if c = 0 then some (.slice none 0 0) else none
      | some ⟨id, o, none⟩ => if slFit (S.get id).width esz l = true then some (.slice (some ⟨id, o + l * esz, none⟩) (h - l) (c - l)) else none
      | _ => none) else none
    | _, _ => none
  | _ => none
theorem XS_sl (esz : Nat) (x : Operand) (lo hi : Option Operand) : XS P (.sl esz x lo hi) ρ S K = @Now _ (ρ x) ⟨fun v => @Now _ (lo.map ρ) ⟨fun l => @Now _ (hi.map ρ) ⟨fun h => @Got _ (slv S esz v l h) ⟨fun r => K r S⟩⟩⟩⟩ := by
  rw [XS_one (slv S esz (ρ x) (lo.map ρ) (hi.map ρ)) (by simp) (by simp)]; rfl
  simp only [xop]
  generalize ρ x = xv
  cases xv
  case slice a n c =>
    simp only [slv]
    generalize bound (lo.map ρ) 0 = bl
    generalize bound (hi.map ρ) n = bh
    cases bl with
    | none => rfl
    | some l =>
      cases bh with
      | none => rfl
      | some h =>
        by_cases hc : l ≤ h ∧ h ≤ c
        · simp only [if_pos hc]
          cases a with
          | none => simp only [slRes]; split <;> rfl
          | some ad =>
            obtain ⟨id, o, sp⟩ := ad
            cases sp with
            | none => simp only [slRes, width_eq]; split <;> rfl
            | some _ => rfl
        · simp only [if_neg hc]; rfl
  all_goals rfl
end

theorem xrs_one (x : XRes) (fe : FEnv) (S : St) : xrs [x] fe S = xr1 fe S x := by
  simp only [xrs, List.mapM_cons, List.mapM_nil]
  cases xr1 fe S x <;> rfl
theorem xrs_two (x y : XRes) (fe : FEnv) (S : St) : xrs [x, y] fe S = (xr1 fe S x).bind fun a => (xr1 fe S y).bind fun b => some (.tuple #[a, b]) := by
  simp only [xrs, List.mapM_cons, List.mapM_nil]
  cases xr1 fe S x
  · rfl
  · cases xr1 fe S y <;> rfl
theorem xrs_three (x y z : XRes) (fe : FEnv) (S : St) : xrs [x, y, z] fe S = (xr1 fe S x).bind fun a => (xr1 fe S y).bind fun b => (xr1 fe S z).bind fun c => some (.tuple #[a, b, c]) := by
  simp only [xrs, List.mapM_cons, List.mapM_nil]
  cases xr1 fe S x
  · rfl
  · cases xr1 fe S y
    · rfl
    · cases xr1 fe S z <;> rfl
theorem xrs_nil (fe : FEnv) (S : St) : xrs [] fe S = some (.tuple #[]) := Eq.trans rfl rfl
theorem xr1_tmp (t : Tmp) (fe : FEnv) (S : St) : xr1 fe S (.tmp t) = some (fe t) := Eq.trans rfl rfl
theorem xr1_cell (a : Tmp) (agg : Bool) (sz : Nat) (fe : FEnv) (S : St) : xr1 fe S (.cell a agg sz) = ldv S agg sz (fe a) := by
  simp only [xr1, ldv, rd_eq]
  split <;> split <;> first | rfl | (simp_all; done) | grind
end
end Go.Proofs.YtofjnhdgkhfgnaaDoor

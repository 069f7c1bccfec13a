/- An evaluator of the abstract machine for closed computations: strict, so that the kernel can run it. No program in sight. -/
import Derived.Test.YtofjnhdgkhfgnaaDoorMnc
set_option linter.unusedVariables false
set_option linter.unusedSimpArgs false
set_option linter.unusedSectionVars false
namespace Go.Proofs.YtofjnhdgkhfgnaaDoor
open Go Go.RowKit

/-- forcing: what is handed on is a literal. -/
noncomputable def fN (n : Nat) (k : Nat → Bool) : Bool := @Nat.rec (fun _ => Bool) (k 0) (fun m _ => k (Nat.succ m)) n
theorem fN_eq (n : Nat) (k : Nat → Bool) : fN n k = k n := by cases n <;> rfl
noncomputable def fI (i : Int) (k : Int → Bool) : Bool := @Int.rec (fun _ => Bool) (fun n => fN n fun n => k (.ofNat n)) (fun n => fN n fun n => k (.negSucc n)) i
theorem fI_eq (i : Int) (k : Int → Bool) : fI i k = k i := by cases i <;> simp [fI, fN_eq]
noncomputable def fB (b : Bool) (k : Bool → Bool) : Bool := @Bool.rec (fun _ => Bool) (k false) (k true) b
theorem fB_eq (b : Bool) (k : Bool → Bool) : fB b k = k b := by cases b <;> rfl
noncomputable def fA (a : Option Addr) (k : Option Addr → Bool) : Bool := match a with
  | none => k none
  | some ⟨b, o, p⟩ => fN b fun b => fN o fun o => match p with
    | none => k (some ⟨b, o, none⟩)
    | some q => k (some ⟨b, o, some q⟩)
theorem fA_eq (a : Option Addr) (k : Option Addr → Bool) : fA a k = k a := by
  rcases a with _ | ⟨b, o, _ | q⟩ <;> simp [fA, fN_eq]
noncomputable def fON (a : Option Nat) (k : Option Nat → Bool) : Bool := match a with
  | none => k none
  | some b => fN b fun b => k (some b)
theorem fON_eq (a : Option Nat) (k : Option Nat → Bool) : fON a k = k a := by cases a <;> simp [fON, fN_eq]
/-- a list's spine. -/
noncomputable def fS {α : Type} (l : List α) (k : List α → Bool) : Bool := @List.rec α (fun _ => (List α → Bool) → Bool) (fun k => k []) (fun x _ ih k => ih fun t => k (x :: t)) l k
theorem fS_eq {α : Type} (l : List α) : ∀ k : List α → Bool, fS l k = k l := by
  induction l with
  | nil => intro k; rfl
  | cons x l ih => intro k; exact ih _
/-- a value that is no struct. -/
noncomputable def fV1 (v : Value) (k : Value → Bool) : Bool := match v with
  | .bool b => fB b fun b => k (.bool b)
  | .int j n => fI n fun n => k (.int j n)
  | .string s => fS s.data.toList fun l => k (.string ⟨⟨l⟩⟩)
  | .pointer a => fA a fun a => k (.pointer a)
  | .slice a n c => fA a fun a => fN n fun n => fN c fun c => k (.slice a n c)
  | .map r => fON r fun r => k (.map r)
  | v => k v
theorem fV1_eq (v : Value) (k : Value → Bool) : fV1 v k = k v := by
  cases v <;> simp [fV1, fB_eq, fI_eq, fA_eq, fN_eq, fON_eq, fS_eq]
noncomputable def fL (l : List Value) (k : List Value → Bool) : Bool := @List.rec Value (fun _ => (List Value → Bool) → Bool) (fun k => k []) (fun x _ ih k => fV1 x fun x => ih fun t => k (x :: t)) l k
theorem fL_eq (l : List Value) : ∀ k : List Value → Bool, fL l k = k l := by
  induction l with
  | nil => intro k; rfl
  | cons x l ih => intro k; exact (fV1_eq x (fun x => fL l fun t => k (x :: t))).trans (ih fun t => k (x :: t))
noncomputable def fV (v : Value) (k : Value → Bool) : Bool := match v with
  | .agg a => fL a.toList fun l => k (.agg ⟨l⟩)
  | .tuple a => fS a.toList fun l => k (.tuple ⟨l⟩)
  | .func f a b => fS a.toList fun a => fS b.toList fun b => k (.func f ⟨a⟩ ⟨b⟩)
  | v => fV1 v k
theorem fV_eq (v : Value) (k : Value → Bool) : fV v k = k v := by
  cases v <;> simp [fV, fV1_eq, fL_eq, fS_eq]
/-- a value that is forced already: only its head. -/
noncomputable def fT (v : Value) (k : Value → Bool) : Bool := @Value.casesOn (fun _ => Bool) v (fun b => k (.bool b)) (fun i n => k (.int i n)) (fun a b => k (.float a b)) (fun a b c => k (.complex a b c)) (fun s => k (.string s)) (fun a => k (.pointer a)) (fun a b c => k (.slice a b c)) (fun r => k (.map r)) (fun r => k (.chan r))
  (fun f a b => k (.func f a b)) (k .nilFunc) (fun t v => k (.iface t v)) (k .nilIface) (fun a => k (.agg a)) (fun a => k (.tuple a))
theorem fT_eq (v : Value) (k : Value → Bool) : fT v k = k v := by cases v <;> rfl
noncomputable def fTs (l : List Value) (k : List Value → Bool) : Bool := @List.rec Value (fun _ => (List Value → Bool) → Bool) (fun k => k []) (fun x _ ih k => fT x fun x => ih fun t => k (x :: t)) l k
theorem fTs_eq (l : List Value) : ∀ k : List Value → Bool, fTs l k = k l := by
  induction l with
  | nil => intro k; rfl
  | cons x l ih => intro k; exact (fT_eq x (fun x => fTs l fun t => k (x :: t))).trans (ih fun t => k (x :: t))
/-- several of them. -/
noncomputable def fVs (l : List Value) (k : List Value → Bool) : Bool := @List.rec Value (fun _ => (List Value → Bool) → Bool) (fun k => k []) (fun x _ ih k => fV x fun x => ih fun t => k (x :: t)) l k
theorem fVs_eq (l : List Value) : ∀ k : List Value → Bool, fVs l k = k l := by
  induction l with
  | nil => intro k; rfl
  | cons x l ih => intro k; exact (fV_eq x (fun x => fVs l fun t => k (x :: t))).trans (ih fun t => k (x :: t))
noncomputable def fNs (l : List Nat) (k : List Nat → Bool) : Bool := @List.rec Nat (fun _ => (List Nat → Bool) → Bool) (fun k => k []) (fun x _ ih k => fN x fun x => ih fun t => k (x :: t)) l k
theorem fNs_eq (l : List Nat) : ∀ k : List Nat → Bool, fNs l k = k l := by
  induction l with
  | nil => intro k; rfl
  | cons x l ih => intro k; exact (fN_eq x (fun x => fNs l fun t => k (x :: t))).trans (ih fun t => k (x :: t))
noncomputable def fEs (l : List (Value × Value × Nat)) (k : List (Value × Value × Nat) → Bool) : Bool :=
  @List.rec (Value × Value × Nat) (fun _ => (List (Value × Value × Nat) → Bool) → Bool) (fun k => k []) (fun x _ ih k => fV x.1 fun a => fV x.2.1 fun b => fN x.2.2 fun c => ih fun t => k ((a, b, c) :: t)) l k
theorem fEs_eq (l : List (Value × Value × Nat)) : ∀ k : List (Value × Value × Nat) → Bool, fEs l k = k l := by
  induction l with
  | nil => intro k; rfl
  | cons x l ih => intro k; exact (fV_eq x.1 (fun a => fV x.2.1 fun b => fN x.2.2 fun c => fEs l fun t => k ((a, b, c) :: t))).trans ((fV_eq x.2.1 (fun b => fN x.2.2 fun c => fEs l fun t => k ((x.1, b, c) :: t))).trans ((fN_eq x.2.2 (fun c => fEs l fun t => k ((x.1, x.2.1, c) :: t))).trans (ih fun t => k ((x.1, x.2.1, x.2.2) :: t))))
noncomputable def fBk (b : Blk) (k : Blk → Bool) : Bool := match b with
  | .cells c t z m an => fL c fun c => fNs an fun an => k (.cells c t z m an)
  | .obj (.map es cl) => fEs es fun es => fN cl fun cl => k (.obj (.map es cl))
  | .obj (.iter s p) => fN p fun p => k (.obj (.iter s p))
  | b => k b
theorem fBk_eq (b : Blk) (k : Blk → Bool) : fBk b k = k b := by
  rcases b with _ | _ | o
  · rfl
  · simp [fBk, fL_eq, fNs_eq]
  · cases o <;> simp [fBk, fEs_eq, fN_eq]

theorem beq_f {a b : Nat} (h : a ≠ b) : Nat.beq a b = false := by rw [← Bool.not_eq_true]; exact fun e => h (Nat.eq_of_beq_eq_true e)
theorem beq_t {a b : Nat} (h : a = b) : Nat.beq a b = true := by subst h; exact Nat.beq_refl a
/-- where a number stands in a map of numbers. -/
inductive P2 where
  | z
  | l (p : P2)
  | r (p : P2)
noncomputable def p2 (f : Nat) : Nat → P2 := @Nat.rec (fun _ => Nat → P2) (fun _ => .z) (fun _ ih n => @Bool.rec (fun _ => P2) (@Bool.rec (fun _ => P2) (.r (ih (Nat.sub (Nat.div n 2) 1))) (.l (ih (Nat.div n 2))) (Nat.beq (Nat.mod n 2) 1)) .z (Nat.beq n 0)) f
noncomputable def kgetP {α : Type} (p : P2) : Tr α → Option α := @P2.rec (fun _ => Tr α → Option α) (fun t => @Tr.rec α (fun _ => Option α) none (fun v _ _ _ _ => v) t) (fun _ ih t => @Tr.rec α (fun _ => Option α) none (fun _ l _ _ _ => ih l) t) (fun _ ih t => @Tr.rec α (fun _ => Option α) none (fun _ _ r _ _ => ih r) t) p
noncomputable def ksetP {α : Type} (a : α) (p : P2) : Tr α → (Tr α → Bool) → Bool := @P2.rec (fun _ => Tr α → (Tr α → Bool) → Bool) (fun t k => @Tr.rec α (fun _ => Bool) (k (.node (some a) .leaf .leaf)) (fun _ l r _ _ => k (.node (some a) l r)) t)
  (fun _ ih t k => @Tr.rec α (fun _ => Bool) (ih .leaf fun l => k (.node none l .leaf)) (fun v l r _ _ => ih l fun l => k (.node v l r)) t)
  (fun _ ih t k => @Tr.rec α (fun _ => Bool) (ih .leaf fun r => k (.node none .leaf r)) (fun v l r _ _ => ih r fun r => k (.node v l r)) t) p
noncomputable def kget {α : Type} (t : Tr α) (n : Nat) : Option α := kgetP (p2 n n) t
theorem p2_zero (f : Nat) : p2 f 0 = .z := by cases f <;> rfl
theorem p2_odd (f n : Nat) (h : n % 2 = 1) : p2 (f + 1) n = .l (p2 f (n / 2)) := by
  show @Bool.rec (fun _ => P2) (@Bool.rec (fun _ => P2) _ _ (Nat.beq (n % 2) 1)) .z (Nat.beq n 0) = _
  rw [beq_f (show n ≠ 0 by omega), beq_t h]; rfl
theorem p2_even (f n : Nat) (h0 : n ≠ 0) (h : n % 2 ≠ 1) : p2 (f + 1) n = .r (p2 f (n / 2 - 1)) := by
  show @Bool.rec (fun _ => P2) (@Bool.rec (fun _ => P2) _ _ (Nat.beq (n % 2) 1)) .z (Nat.beq n 0) = _
  rw [beq_f h0, beq_f h]; rfl
theorem kgetP_eq {α : Type} : ∀ (f n : Nat) (t : Tr α), n ≤ f → kgetP (p2 f n) t = t.get n := by
  intro f
  induction f with
  | zero =>
    intro n t h
    obtain rfl : n = 0 := by omega
    cases t <;> rfl
  | succ f ih =>
    intro n t h
    by_cases h0 : n = 0
    · subst h0; rw [p2_zero]; cases t <;> rfl
    · by_cases h1 : n % 2 = 1
      · rw [p2_odd f n h1]
        cases t with
        | leaf => rfl
        | node v l r =>
          show kgetP (p2 f (n / 2)) l = _
          rw [ih _ _ (by omega), Tr.get, if_neg h0, if_pos h1]
      · rw [p2_even f n h0 h1]
        cases t with
        | leaf => rfl
        | node v l r =>
          show kgetP (p2 f (n / 2 - 1)) r = _
          rw [ih _ _ (by omega), Tr.get, if_neg h0, if_neg h1]
theorem kget_eq {α : Type} (t : Tr α) (n : Nat) : kget t n = t.get n := kgetP_eq n n t (Nat.le_refl n)
/-- writing it. -/
noncomputable def kset {α : Type} (a : α) (f : Nat) (t : Tr α) (n : Nat) (k : Tr α → Bool) : Bool := ksetP a (p2 n n) t k
theorem Tr.set_fuel {α : Type} (a : α) : ∀ (f g n : Nat) (t : Tr α), n ≤ f → n ≤ g → Tr.set f t n a = Tr.set g t n a := by
  intro f
  induction f with
  | zero =>
    intro g n t h1 h2
    obtain rfl : n = 0 := by omega
    cases g <;> simp [Tr.set]
  | succ f ih =>
    intro g n t h1 h2
    cases g with
    | zero =>
      obtain rfl : n = 0 := by omega
      simp [Tr.set]
    | succ g =>
      rw [Tr.set, Tr.set]
      by_cases h : n = 0
      · simp [h]
      · simp only [h, if_false]
        split
        · rw [ih g (n / 2) _ (by omega) (by omega)]
        · rw [ih g (n / 2 - 1) _ (by omega) (by omega)]
theorem ksetP_eq {α : Type} (a : α) : ∀ (f n : Nat) (t : Tr α) (k : Tr α → Bool), n ≤ f → ksetP a (p2 f n) t k = k (Tr.set f t n a) := by
  intro f
  induction f with
  | zero =>
    intro n t k h
    obtain rfl : n = 0 := by omega
    cases t <;> rfl
  | succ f ih =>
    intro n t k h
    by_cases h0 : n = 0
    · subst h0
      rw [p2_zero, Tr.set, if_pos rfl]; cases t <;> rfl
    · by_cases h1 : n % 2 = 1
      · rw [p2_odd f n h1, Tr.set, if_neg h0, if_pos h1]
        cases t with
        | leaf => exact ih (n / 2) .leaf (fun l => k (.node none l .leaf)) (by omega)
        | node v l r => exact ih (n / 2) l (fun l => k (.node v l r)) (by omega)
      · rw [p2_even f n h0 h1, Tr.set, if_neg h0, if_neg h1]
        cases t with
        | leaf => exact ih (n / 2 - 1) .leaf (fun r => k (.node none .leaf r)) (by omega)
        | node v l r => exact ih (n / 2 - 1) r (fun r => k (.node v l r)) (by omega)
theorem kset_eq {α : Type} (a : α) (f : Nat) (t : Tr α) (n : Nat) (k : Tr α → Bool) (h : kset a f t n k = true) : k (Tr.set n t n a) = true := by
  unfold kset at h
  rwa [ksetP_eq a n n t k (Nat.le_refl n)] at h

/-- the temporaries: a map of numbers with four ways. -/
inductive T4 where
  | leaf
  | node (v : Option Value) (a b c d : T4)
inductive P4 where
  | z
  | a (p : P4)
  | b (p : P4)
  | c (p : P4)
  | d (p : P4)
  deriving DecidableEq
def P4.num : P4 → Nat
  | .z => 0
  | .a p => 4 * p.num + 1
  | .b p => 4 * p.num + 2
  | .c p => 4 * p.num + 3
  | .d p => 4 * p.num + 4
noncomputable def p4d (q : P4) (m : Nat) : P4 := @Nat.rec (fun _ => P4) (.a q) (fun m _ => @Nat.rec (fun _ => P4) (.b q) (fun m _ => @Nat.rec (fun _ => P4) (.c q) (fun _ _ => .d q) m) m) m
noncomputable def p4 (f : Nat) : Nat → P4 := @Nat.rec (fun _ => Nat → P4) (fun _ => .z) (fun _ ih n => @Bool.rec (fun _ => P4) (p4d (ih (Nat.div (Nat.sub n 1) 4)) (Nat.mod (Nat.sub n 1) 4)) .z (Nat.beq n 0)) f
theorem p4d_num (q : P4) (m : Nat) (h : m < 4) : (p4d q m).num = 4 * q.num + m + 1 := by
  rcases m with _ | _ | _ | _ | m <;> first | rfl | omega
theorem p4_num : ∀ f n, n ≤ f → (p4 f n).num = n := by
  intro f
  induction f with
  | zero => intro n h; obtain rfl : n = 0 := by omega
            rfl
  | succ f ih =>
    intro n h
    show (@Bool.rec (fun _ => P4) (p4d (p4 f ((n - 1) / 4)) ((n - 1) % 4)) .z (Nat.beq n 0)).num = _
    by_cases h0 : n = 0
    · subst h0; rfl
    · rw [beq_f h0]
      show (p4d (p4 f ((n - 1) / 4)) ((n - 1) % 4)).num = _
      rw [p4d_num _ _ (Nat.mod_lt _ (by omega)), ih _ (by omega)]
      omega
noncomputable def get4 (p : P4) : T4 → Option Value := @P4.rec (fun _ => T4 → Option Value) (fun t => @T4.rec (fun _ => Option Value) none (fun v _ _ _ _ _ _ _ _ => v) t) (fun _ ih t => @T4.rec (fun _ => Option Value) none (fun _ a _ _ _ _ _ _ _ => ih a) t)
  (fun _ ih t => @T4.rec (fun _ => Option Value) none (fun _ _ b _ _ _ _ _ _ => ih b) t) (fun _ ih t => @T4.rec (fun _ => Option Value) none (fun _ _ _ c _ _ _ _ _ => ih c) t) (fun _ ih t => @T4.rec (fun _ => Option Value) none (fun _ _ _ _ d _ _ _ _ => ih d) t) p
noncomputable def set4 (x : Value) (p : P4) : T4 → (T4 → Bool) → Bool := @P4.rec (fun _ => T4 → (T4 → Bool) → Bool) (fun t k => @T4.rec (fun _ => Bool) (k (.node (some x) .leaf .leaf .leaf .leaf)) (fun _ a b c d _ _ _ _ => k (.node (some x) a b c d)) t)
  (fun _ ih t k => @T4.rec (fun _ => Bool) (ih .leaf fun a => k (.node none a .leaf .leaf .leaf)) (fun v a b c d _ _ _ _ => ih a fun a => k (.node v a b c d)) t)
  (fun _ ih t k => @T4.rec (fun _ => Bool) (ih .leaf fun b => k (.node none .leaf b .leaf .leaf)) (fun v a b c d _ _ _ _ => ih b fun b => k (.node v a b c d)) t)
  (fun _ ih t k => @T4.rec (fun _ => Bool) (ih .leaf fun c => k (.node none .leaf .leaf c .leaf)) (fun v a b c d _ _ _ _ => ih c fun c => k (.node v a b c d)) t)
  (fun _ ih t k => @T4.rec (fun _ => Bool) (ih .leaf fun d => k (.node none .leaf .leaf .leaf d)) (fun v a b c d _ _ _ _ => ih d fun d => k (.node v a b c d)) t) p
theorem get4_leaf (q : P4) : get4 q .leaf = none := by cases q <;> rfl
theorem if_ctor {p q : P4} {f : P4 → P4} (hf : ∀ a b, f a = f b → a = b) (x y : Option Value) : (if f q = f p then x else y) = if q = p then x else y := by
  by_cases e : q = p
  · rw [if_pos e, if_pos (by rw [e])]
  · rw [if_neg e, if_neg (fun h => e (hf _ _ h))]
/-- what writing leaves. -/
theorem set4_ok (x : Value) : ∀ (p : P4) (t : T4) (k : T4 → Bool), set4 x p t k = true → ∃ t', (∀ q, get4 q t' = if q = p then some x else get4 q t) ∧ k t' = true := by
  intro p
  induction p with
  | z =>
    intro t k h
    cases t with
    | leaf => exact ⟨_, fun q => by cases q <;> simp only [reduceCtorEq, if_true, if_false, get4_leaf] <;> first | rfl | exact get4_leaf _, h⟩
    | node v a b c d => exact ⟨_, fun q => by cases q <;> simp only [reduceCtorEq, if_true, if_false] <;> rfl, h⟩
  | a p ih =>
    intro t k h
    cases t with
    | leaf =>
      obtain ⟨t', h1, h2⟩ := ih _ _ h
      refine ⟨_, fun q => ?_, h2⟩
      cases q with
      | a q =>
        rw [if_ctor (f := P4.a) (fun _ _ h => P4.a.inj h)]
        exact (h1 q).trans (by first | rfl | rw [get4_leaf, get4_leaf])
      | _ => simp only [reduceCtorEq, if_false, get4_leaf] <;> first | rfl | exact get4_leaf _
    | node v a b c d =>
      obtain ⟨t', h1, h2⟩ := ih _ _ h
      refine ⟨_, fun q => ?_, h2⟩
      cases q with
      | a q =>
        rw [if_ctor (f := P4.a) (fun _ _ h => P4.a.inj h)]
        exact (h1 q).trans (by first | rfl | rw [get4_leaf, get4_leaf])
      | _ => simp only [reduceCtorEq, if_false, get4_leaf] <;> first | rfl | exact get4_leaf _
  | b p ih =>
    intro t k h
    cases t with
    | leaf =>
      obtain ⟨t', h1, h2⟩ := ih _ _ h
      refine ⟨_, fun q => ?_, h2⟩
      cases q with
      | b q =>
        rw [if_ctor (f := P4.b) (fun _ _ h => P4.b.inj h)]
        exact (h1 q).trans (by first | rfl | rw [get4_leaf, get4_leaf])
      | _ => simp only [reduceCtorEq, if_false, get4_leaf] <;> first | rfl | exact get4_leaf _
    | node v a b c d =>
      obtain ⟨t', h1, h2⟩ := ih _ _ h
      refine ⟨_, fun q => ?_, h2⟩
      cases q with
      | b q =>
        rw [if_ctor (f := P4.b) (fun _ _ h => P4.b.inj h)]
        exact (h1 q).trans (by first | rfl | rw [get4_leaf, get4_leaf])
      | _ => simp only [reduceCtorEq, if_false, get4_leaf] <;> first | rfl | exact get4_leaf _
  | c p ih =>
    intro t k h
    cases t with
    | leaf =>
      obtain ⟨t', h1, h2⟩ := ih _ _ h
      refine ⟨_, fun q => ?_, h2⟩
      cases q with
      | c q =>
        rw [if_ctor (f := P4.c) (fun _ _ h => P4.c.inj h)]
        exact (h1 q).trans (by first | rfl | rw [get4_leaf, get4_leaf])
      | _ => simp only [reduceCtorEq, if_false, get4_leaf] <;> first | rfl | exact get4_leaf _
    | node v a b c d =>
      obtain ⟨t', h1, h2⟩ := ih _ _ h
      refine ⟨_, fun q => ?_, h2⟩
      cases q with
      | c q =>
        rw [if_ctor (f := P4.c) (fun _ _ h => P4.c.inj h)]
        exact (h1 q).trans (by first | rfl | rw [get4_leaf, get4_leaf])
      | _ => simp only [reduceCtorEq, if_false, get4_leaf] <;> first | rfl | exact get4_leaf _
  | d p ih =>
    intro t k h
    cases t with
    | leaf =>
      obtain ⟨t', h1, h2⟩ := ih _ _ h
      refine ⟨_, fun q => ?_, h2⟩
      cases q with
      | d q =>
        rw [if_ctor (f := P4.d) (fun _ _ h => P4.d.inj h)]
        exact (h1 q).trans (by first | rfl | rw [get4_leaf, get4_leaf])
      | _ => simp only [reduceCtorEq, if_false, get4_leaf] <;> first | rfl | exact get4_leaf _
    | node v a b c d =>
      obtain ⟨t', h1, h2⟩ := ih _ _ h
      refine ⟨_, fun q => ?_, h2⟩
      cases q with
      | d q =>
        rw [if_ctor (f := P4.d) (fun _ _ h => P4.d.inj h)]
        exact (h1 q).trans (by first | rfl | rw [get4_leaf, get4_leaf])
      | _ => simp only [reduceCtorEq, if_false, get4_leaf] <;> first | rfl | exact get4_leaf _
/-- the temporary with a number. -/
noncomputable def pt (t : Nat) : P4 := p4 t t
theorem pt_inj {a b : Nat} (h : pt a = pt b) : a = b := by
  have := congrArg P4.num h
  unfold pt at this
  rwa [p4_num _ _ (Nat.le_refl a), p4_num _ _ (Nat.le_refl b)] at this

/-- what an operation does. -/
inductive KAct where
  | old (v : Value)
  | val (v : Value)
  | new (v : Value) (b : Blk)
  | put (v : Value) (id : Nat) (an : List Nat) (b : Blk)
  | grow (v : Value) (id : Nat) (b1 : Blk) (b2 : Blk)
  | call (g : Go.Fn) (l : List Value)
noncomputable def KAct.run (S : St) : KAct → Value × St
  | .old v => (v, S)
  | .val v => (v, S)
  | .new v b => (v, S.alloc b)
  | .put v id an b => (v, (S.kill an).put id b)
  | .grow v id b1 b2 => (v, (S.put id b1).alloc b2)
  | .call _ _ => (undef, S)

noncomputable def kblk (h : Tr Blk) (id : Nat) : Blk := match kget h id with
  | some b => b
  | none => .gone
theorem kblk_eq (h : Tr Blk) (nx id : Nat) : kblk h id = (St.mk h nx).get id := by
  unfold kblk St.get
  rw [kget_eq]
  cases h.get id <;> rfl
/-- the same value: a test. -/
def eqA : Option Addr → Option Addr → Bool
  | none, none => true
  | some ⟨a, o, none⟩, some ⟨b, p, none⟩ => Nat.beq a b && Nat.beq o p
  | _, _ => false
theorem eqA_ok {a b : Option Addr} (h : eqA a b = true) : a = b := by
  rcases a with _ | ⟨a, o, _ | _⟩ <;> rcases b with _ | ⟨b, p, _ | _⟩ <;> simp [eqA] at h ⊢
  exact h
def eqBytes : List UInt8 → List UInt8 → Bool
  | [], [] => true
  | a :: l, b :: m => Nat.beq a.toNat b.toNat && eqBytes l m
  | _, _ => false
theorem eqBytes_ok : ∀ {l m : List UInt8}, eqBytes l m = true → l = m := by
  intro l
  induction l with
  | nil => intro m h; cases m <;> simp [eqBytes] at h ⊢
  | cons a l ih =>
    intro m h
    cases m with
    | nil => simp [eqBytes] at h
    | cons b m =>
      simp only [eqBytes, Bool.and_eq_true] at h
      rw [ih h.2, UInt8.toNat_inj.1 (Nat.eq_of_beq_eq_true h.1)]
theorem eqBytes_self (l : List UInt8) : eqBytes l l = true := by
  induction l with
  | nil => rfl
  | cons a l ih => simp only [eqBytes, Nat.beq_refl, ih, Bool.and_self]
end Go.Proofs.YtofjnhdgkhfgnaaDoor

/- The memory of the abstract machine, and what it stands for in the model's memory. No program in sight. -/
import Derived.WalkKit
import Derived.WalkSpells
import Derived.Laws.AppendOwnNone
import Derived.WalkLawsBesides
import Derived.Orders
import Derived.Below
import Derived.Test.YtofjnhdgkhfgnaaDoorM0
namespace Go.Proofs.YtofjnhdgkhfgnaaDoor
open Go Go.RowKit

/-- a finite map from numbers. -/
inductive Tr (α : Type) where
  | leaf
  | node (v : Option α) (l r : Tr α)

def Tr.get {α : Type} : Tr α → Nat → Option α
  | .leaf, _ => none
  | .node v l r, n => if n = 0 then v else if n % 2 = 1 then l.get (n / 2) else r.get (n / 2 - 1)

def Tr.top {α : Type} : Tr α → Option α
  | .leaf => none
  | .node v _ _ => v
def Tr.left {α : Type} : Tr α → Tr α
  | .leaf => .leaf
  | .node _ l _ => l
def Tr.right {α : Type} : Tr α → Tr α
  | .leaf => .leaf
  | .node _ _ r => r

theorem Tr.get_eq {α : Type} (t : Tr α) (n : Nat) : t.get n = if n = 0 then t.top else if n % 2 = 1 then t.left.get (n / 2) else t.right.get (n / 2 - 1) := by
  cases t with
  | leaf => simp [Tr.get, Tr.top, Tr.left, Tr.right]
  | node v l r => rfl

def Tr.set {α : Type} : Nat → Tr α → Nat → α → Tr α
  | 0, t, _, a => .node (some a) t.left t.right
  | f + 1, t, n, a => if n = 0 then .node (some a) t.left t.right else if n % 2 = 1 then .node t.top (Tr.set f t.left (n / 2) a) t.right else .node t.top t.left (Tr.set f t.right (n / 2 - 1) a)

theorem Tr.get_set {α : Type} (a : α) : ∀ (f n m : Nat) (t : Tr α), n ≤ f → (Tr.set f t n a).get m = if m = n then some a else t.get m := by
  intro f
  induction f with
  | zero =>
    intro n m t h
    obtain rfl : n = 0 := by omega
    rw [Tr.set, Tr.get_eq, Tr.get_eq t]
    by_cases hm : m = 0
    · simp [hm, Tr.top]
    · simp [hm, Tr.left, Tr.right]
  | succ f ih =>
    intro n m t h
    rw [Tr.set, Tr.get_eq t]
    by_cases hn : n = 0
    · subst hn
      rw [if_pos rfl, Tr.get_eq]
      by_cases hm : m = 0
      · simp [hm, Tr.top]
      · simp [hm, Tr.left, Tr.right]
    · rw [if_neg hn]
      by_cases h2 : n % 2 = 1
      · rw [if_pos h2, Tr.get_eq]
        by_cases hm : m = 0
        · have : m ≠ n := by omega
          subst hm
          simp [Tr.top, Ne.symm hn]
        · simp only [hm, if_false, Tr.left, Tr.right]
          by_cases h3 : m % 2 = 1
          · simp only [h3, if_true]
            rw [ih _ _ _ (by omega)]
            by_cases e : m = n
            · simp [e]
            · have : m / 2 ≠ n / 2 := by omega
              simp [e, this]
          · have : m ≠ n := by omega
            simp [h3, this]
      · rw [if_neg h2, Tr.get_eq]
        by_cases hm : m = 0
        · have : m ≠ n := by omega
          subst hm
          simp [Tr.top, Ne.symm hn]
        · simp only [hm, if_false, Tr.left, Tr.right]
          by_cases h3 : m % 2 = 1
          · have : m ≠ n := by omega
            simp [h3, this]
          · simp only [h3, if_false]
            rw [ih _ _ _ (by omega)]
            by_cases e : m = n
            · simp [e]
            · have : m / 2 - 1 ≠ n / 2 - 1 := by omega
              simp [e, this]

/-- operations on maps, and walks through strings: they keep their place in a region. -/
inductive EOp where
  | mkMap
  | lookup (ks : List Nat) (agg : Bool) (z : Value) (ok : Bool)
  | mapSet (ks : List Nat) (agg : Bool)
  | mapEnt (ks : List Nat) (agg : Bool) (z : Value)
  | entSet
  | mapDel (ks : List Nat) (agg : Bool)
  | mapLen
  | iterStr
  | nextStr
  | iterMap
  | nextMap
  | entMap
  | capNil
  | gload
  | lookG (z : Value) (ok : Bool)
  | nilF (neg : Bool)

inductive XOp where
  | mv (x : Operand)
  | pick (c a b : Operand)
  | box (t : TypeId) (x : Operand)
  | zero (t : TypeId) (z : Value)
  | load (agg : Bool) (sz : Nat) (x : Operand)
  | store (sz : Nat) (a x : Operand)
  | nilck (x : Operand)
  | bin (op : BinOp) (x y : Operand)
  | eqb (neg : Bool) (x y : Operand)
  | eqf (ks : List Nat) (neg : Bool) (x y : Operand)
  | eqp (neg : Bool) (x y : Operand)
  | eqs (neg : Bool) (x y : Operand)
  | un (op : UnOp) (x : Operand)
  | cvi (k : IntKind) (x : Operand)
  | cvs (x : Operand)
  | mkIface (t : TypeId) (x : Operand)
  | mkFunc (f : FuncId) (first captured : Array Operand)
  | mkSlice (e : TypeId) (esz bytes : Nat) (z : List Value) (len cap : Operand)
  | sl (esz : Nat) (x : Operand) (lo hi : Option Operand)
  | slStr (x : Operand) (lo hi : Option Operand)
  | fa (off : Nat) (x : Operand)
  | fld (agg : Bool) (sz off : Nat) (x : Operand)
  | ia (esz : Nat) (x i : Operand)
  | iaArr (n esz : Nat) (x i : Operand)
  | idx (n : Nat) (agg : Bool) (esz : Nat) (x i : Operand)
  | idxStr (x i : Operand)
  | ext (x : Operand) (i : Nat)
  | build (z : List Value) (parts : List (Nat × Nat × Operand))
  | buildSlice (e : TypeId) (esz n : Nat) (z : List Value) (parts : List (Nat × Nat × Operand))
  | len (x : Operand)
  | lenStr (x : Operand)
  | append (e : TypeId) (esz bytes : Nat) (s x : Operand)
  | copy (esz : Nat) (d s : Operand)
  | clr (esz : Nat) (z : List Value) (x : Operand)
  | minmax (mx : Bool) (x : Operand) (l : List Operand)
  | call (f : FuncId) (args : Array Operand)
  | callv (x : Operand) (args : Array Operand)
  | extra (e : EOp) (l : List Operand)

structure XOper where
  dst : Option Tmp
  op : XOp
  guard : Option (Tmp × Bool)

/-- a region that draws its order: its operations, at which stages of the others each may come up, and two marks for each. -/
structure XDraw where
  ops : List XOper
  stages : List (List Nat)
  flags : List ((Bool × Bool) × Bool)

/-- a loop over a function: the variables, their assignment, the body, as the model has them; how many temporaries the function has. -/
structure LoopC where
  ps : Array Tmp
  assign : Code
  body : Code
  n : Nat

inductive XCode where
  | skip
  | region (ops : List XOper)
  | draw (d : XDraw)
  | seq (a b : XCode)
  | cond (c : Operand) (thn els : XCode)
  | block (id : Nat) (body : XCode)
  | loop (body : XCode)
  | exit (id : Nat)
  | ret
  | range (x : Operand) (L : LoopC)

inductive Ex where
  | normal
  | exit (id : Nat)
  | ret

/-- what is no row of cells: a loop over a function that is under way; a map; a walk through a string. -/
inductive AObj where
  | loop (env : Array Value) (L : LoopC) (pe : Option Ex)
  | map (es : List (Value × Value × Nat)) (clock : Nat)
  | iter (s : ByteArray) (pos : Nat)
  | mapIter (m : Option Nat) (since : Nat) (seen : List Nat) (last : Nat)

/-- a block of the abstract machine. 'mine': it may be written, and so may the places behind its end, as far as the model's block has any. 'anc': the blocks that may lie in the same places. -/
inductive Blk where
  | gone
  | cells (c : List Value) (t : TypeId) (sz : Nat) (mine : Bool) (anc : List Nat)
  | obj (o : AObj)
abbrev Blk.loop (env : Array Value) (L : LoopC) (pe : Option Ex) : Blk := .obj (.loop env L pe)
abbrev Blk.map (es : List (Value × Value × Nat)) (clock : Nat) : Blk := .obj (.map es clock)
abbrev Blk.iter (s : ByteArray) (pos : Nat) : Blk := .obj (.iter s pos)
abbrev Blk.mapIter (m : Option Nat) (since : Nat) (seen : List Nat) (last : Nat) : Blk := .obj (.mapIter m since seen last)

/-- may the block be turned? -/
def Blk.wr : Blk → Bool
  | .gone => false
  | .cells _ _ _ m _ => m
  | .obj _ => true

structure St where
  heap : Tr Blk
  next : Nat

def St.get (S : St) (id : Nat) : Blk := (S.heap.get id).getD .gone
def St.put (S : St) (id : Nat) (b : Blk) : St := { S with heap := S.heap.set id id b }
def St.alloc (S : St) (b : Blk) : St := { heap := S.heap.set S.next S.next b, next := S.next + 1 }
def St.kill (S : St) (l : List Nat) : St := l.foldl (fun S j => S.put j .gone) S

theorem St.get_put (S : St) (id : Nat) (b : Blk) (j : Nat) : (S.put id b).get j = if j = id then b else S.get j := by
  unfold St.get St.put
  simp only [Tr.get_set _ _ _ _ _ (Nat.le_refl id)]
  split <;> rfl
theorem St.get_alloc (S : St) (b : Blk) (j : Nat) : (S.alloc b).get j = if j = S.next then b else S.get j := by
  unfold St.get St.alloc
  simp only [Tr.get_set _ _ _ _ _ (Nat.le_refl S.next)]
  split <;> rfl
@[simp] theorem St.next_put (S : St) (id : Nat) (b : Blk) : (S.put id b).next = S.next := rfl
@[simp] theorem St.next_alloc (S : St) (b : Blk) : (S.alloc b).next = S.next + 1 := rfl
theorem St.next_kill (l : List Nat) : ∀ S : St, (S.kill l).next = S.next := by
  induction l with
  | nil => intro S; rfl
  | cons j l ih => intro S; exact ih (S.put j .gone)
theorem St.get_kill (l : List Nat) : ∀ (S : St) (j : Nat), (S.kill l).get j = if j ∈ l then .gone else S.get j := by
  induction l with
  | nil => intro S j; simp [St.kill]
  | cons i l ih =>
    intro S j
    have := ih (S.put i .gone) j
    unfold St.kill at this ⊢
    rw [List.foldl_cons, this, St.get_put]
    by_cases h : j ∈ l
    · simp [h]
    · by_cases e : j = i
      · simp [e]
      · simp [h, e]

/-- where a block of the abstract machine lies: in which block, from which place on, how many places stand there, and how wide an element is. -/
structure Spot where
  b : Nat
  base : Nat
  ext : Nat
  sz : Nat

/-- which blocks of the model the abstract ones stand for; where the constant table lies. -/
structure Emb where
  f : Nat → Option Spot
  tab : Option Nat
instance : CoeFun Emb (fun _ => Nat → Option Spot) := ⟨Emb.f⟩
theorem Emb.ext' {φ ψ : Emb} (h : ∀ id, φ id = ψ id) (ht : φ.tab = ψ.tab) : φ = ψ := by
  cases φ; cases ψ
  obtain rfl := show _ = _ from ht
  obtain rfl := show _ = _ from funext h
  rfl

/-- a value of the abstract machine, and the model's value that it stands for. -/
inductive Rel (φ : Emb) : Value → Value → Prop where
  | bool (b : Bool) : Rel φ (.bool b) (.bool b)
  | int (k : IntKind) (n : Int) : Rel φ (.int k n) (.int k n)
  | string (s : ByteArray) : Rel φ (.string s) (.string s)
  | ptrNil : Rel φ (.pointer none) (.pointer none)
  | ptr (id o : Nat) (s : Spot) (h : φ id = some s) : Rel φ (.pointer (some ⟨id, o, none⟩)) (.pointer (some ⟨s.b, s.base + o, none⟩))
  | sliceNil : Rel φ (.slice none 0 0) (.slice none 0 0)
  | slice (id o n c c' : Nat) (s : Spot) (h : φ id = some s) (hn : n ≤ c) (hc : c ≤ c') (he : o + c' * s.sz ≤ s.ext) : Rel φ (.slice (some ⟨id, o, none⟩) n c) (.slice (some ⟨s.b, s.base + o, none⟩) n c')
  | sliceEnd (id o x : Nat) (s : Spot) (h : φ id = some s) : Rel φ (.slice (some ⟨id, o, none⟩) 0 0) (.slice (some ⟨s.b, x, none⟩) 0 0)
  | nilFunc : Rel φ .nilFunc .nilFunc
  | nilIface : Rel φ .nilIface .nilIface
  | func (f : FuncId) (a b a' b' : Array Value) (ha : a.size = a'.size) (hb : b.size = b'.size) (h1 : ∀ i (h : i < a.size) (h' : i < a'.size), Rel φ a[i] a'[i]) (h2 : ∀ i (h : i < b.size) (h' : i < b'.size), Rel φ b[i] b'[i]) :
      Rel φ (.func (.func f) a b) (.func (.func f) a' b')
  | yield (id : Nat) (s : Spot) (h : φ id = some s) : Rel φ (.func (.yield id) #[] #[]) (.func (.yield s.b) #[] #[])
  | mapNil : Rel φ (.map none) (.map none)
  | map (id : Nat) (s : Spot) (h : φ id = some s) : Rel φ (.map (some id)) (.map (some s.b))
  | tab (b : Nat) (h : φ.tab = some b) : Rel φ (.chan (some 0)) (.map (some b))
  | iface (t : TypeId) (v v' : Value) (h : Rel φ v v') : Rel φ (.iface t v) (.iface t v')
  | agg (a a' : Array Value) (ha : a.size = a'.size) (h1 : ∀ i (h : i < a.size) (h' : i < a'.size), Rel φ a[i] a'[i]) : Rel φ (.agg a) (.agg a')
  | tuple (a a' : Array Value) (ha : a.size = a'.size) (h1 : ∀ i (h : i < a.size) (h' : i < a'.size), Rel φ a[i] a'[i]) : Rel φ (.tuple a) (.tuple a')

/-- pointwise. -/
def RelA (φ : Emb) (a b : Array Value) : Prop := a.size = b.size ∧ ∀ i (h : i < a.size) (h' : i < b.size), Rel φ a[i] b[i]
def RelL (φ : Emb) (a b : List Value) : Prop := a.length = b.length ∧ ∀ i (h : i < a.length) (h' : i < b.length), Rel φ a[i] b[i]

structure Emb.le (φ ψ : Emb) : Prop where
  at' : ∀ id s, φ id = some s → ψ id = some s
  tab : ψ.tab = φ.tab
instance (φ ψ : Emb) : CoeFun (Emb.le φ ψ) (fun _ => ∀ id s, φ id = some s → ψ id = some s) := ⟨Emb.le.at'⟩
theorem Emb.le.refl (φ : Emb) : Emb.le φ φ := ⟨fun _ _ h => h, rfl⟩
theorem Emb.le.trans {φ ψ χ : Emb} (h : Emb.le φ ψ) (k : Emb.le ψ χ) : Emb.le φ χ := ⟨fun id s e => k id s (h id s e), k.tab.trans h.tab⟩

theorem Rel.mono {φ ψ : Emb} (hle : Emb.le φ ψ) {v v' : Value} (h : Rel φ v v') : Rel ψ v v' := by
  induction h with
  | bool b => exact .bool b
  | int k n => exact .int k n
  | string s => exact .string s
  | ptrNil => exact .ptrNil
  | ptr id o s h => exact .ptr id o s (hle _ _ h)
  | sliceNil => exact .sliceNil
  | slice id o n c c' s h hn hc he => exact .slice id o n c c' s (hle _ _ h) hn hc he
  | sliceEnd id o x s h => exact .sliceEnd id o x s (hle _ _ h)
  | nilFunc => exact .nilFunc
  | nilIface => exact .nilIface
  | func f a b a' b' ha hb h1 h2 i1 i2 => exact .func f a b a' b' ha hb i1 i2
  | yield id s h => exact .yield id s (hle _ _ h)
  | mapNil => exact .mapNil
  | map id s h => exact .map id s (hle _ _ h)
  | tab b h => exact .tab b (hle.tab.trans h)
  | iface t v v' h ih => exact .iface t v v' ih
  | agg a a' ha h1 i1 => exact .agg a a' ha i1
  | tuple a a' ha h1 i1 => exact .tuple a a' ha i1

theorem RelA.mono {φ ψ : Emb} (hle : Emb.le φ ψ) {a b : Array Value} (h : RelA φ a b) : RelA ψ a b := ⟨h.1, fun i h1 h2 => (h.2 i h1 h2).mono hle⟩
theorem RelL.mono {φ ψ : Emb} (hle : Emb.le φ ψ) {a b : List Value} (h : RelL φ a b) : RelL ψ a b := ⟨h.1, fun i h1 h2 => (h.2 i h1 h2).mono hle⟩

theorem RelA.toL {φ : Emb} {a b : Array Value} (h : RelA φ a b) : RelL φ a.toList b.toList := ⟨by simpa using h.1, fun i h1 h2 => by simpa using h.2 i (by simpa using h1) (by simpa using h2)⟩
theorem RelL.toA {φ : Emb} {a b : List Value} (h : RelL φ a b) : RelA φ a.toArray b.toArray := ⟨by simpa using h.1, fun i h1 h2 => by simpa using h.2 i (by simpa using h1) (by simpa using h2)⟩
theorem RelL.nil (φ : Emb) : RelL φ [] [] := ⟨rfl, fun i h => by simp at h⟩
theorem RelL.append {φ : Emb} {a b a' b' : List Value} (h : RelL φ a a') (k : RelL φ b b') : RelL φ (a ++ b) (a' ++ b') := by
  refine ⟨by simp [h.1, k.1], fun i h1 h2 => ?_⟩
  by_cases hi : i < a.length
  · rw [List.getElem_append_left hi, List.getElem_append_left (by rw [← h.1]; exact hi)]
    exact h.2 i _ _
  · have hl := h.1
    rw [List.getElem_append_right (by omega), List.getElem_append_right (by omega)]
    have e : i - a.length = i - a'.length := by rw [h.1]
    have := k.2 (i - a.length) (by simp at h1; omega) (by simp at h2; omega)
    simpa only [e] using this
theorem RelL.cons {φ : Emb} {x y : Value} {a b : List Value} (h : Rel φ x y) (k : RelL φ a b) : RelL φ (x :: a) (y :: b) := by
  refine ⟨by simp [k.1], fun i h1 h2 => ?_⟩
  cases i with
  | zero => exact h
  | succ i => exact k.2 i (by simpa using h1) (by simpa using h2)
theorem RelL.take {φ : Emb} {a b : List Value} (h : RelL φ a b) (n : Nat) : RelL φ (a.take n) (b.take n) :=
  ⟨by simp [h.1], fun i h1 h2 => by simpa using h.2 i (by simp at h1; omega) (by simp at h2; omega)⟩
theorem RelL.drop {φ : Emb} {a b : List Value} (h : RelL φ a b) (n : Nat) : RelL φ (a.drop n) (b.drop n) :=
  ⟨by simp [h.1], fun i h1 h2 => by simpa using h.2 (n + i) (by simp at h1; omega) (by simp at h2; omega)⟩

theorem Rel.agg' {φ : Emb} {a a' : Array Value} (h : RelA φ a a') : Rel φ (.agg a) (.agg a') := .agg a a' h.1 h.2
theorem Rel.tuple' {φ : Emb} {a a' : Array Value} (h : RelA φ a a') : Rel φ (.tuple a) (.tuple a') := .tuple a a' h.1 h.2
theorem Rel.func' {φ : Emb} {f : FuncId} {a a' b b' : Array Value} (h : RelA φ a a') (k : RelA φ b b') : Rel φ (.func (.func f) a b) (.func (.func f) a' b') := .func f a b a' b' h.1 k.1 h.2 k.2
theorem Rel.undef (φ : Emb) : Rel φ undef undef := .tuple' ⟨rfl, fun i h => by simp at h⟩

theorem Rel.oneCell {φ : Emb} {v v' : Value} (h : Rel φ v v') : v'.oneCell' = v.oneCell' := by cases h <;> rfl
theorem Rel.cells {φ : Emb} {v v' : Value} (h : Rel φ v v') : RelA φ v.cells v'.cells := by
  have h0 := h
  cases h with
  | agg a a' ha h1 => exact ⟨ha, h1⟩
  | _ => exact ⟨rfl, fun i h1 h2 => by
      have : i = 0 := by simp [Value.cells] at h1; omega
      subst this
      simp only [Value.cells, List.getElem_toArray, List.getElem_cons_zero]
      exact h0⟩

/-- a row of the model's memory; what may be written is not frozen. -/
def Row (w : World) (b : Nat) (m : Bool) (cs : Array Value) (t : TypeId) : Prop := ∃ fz, w.heap[b]? = some (.cells cs t fz) ∧ (m = true → fz = (0, 0))
theorem Row.mine {w : World} {b : Nat} {cs : Array Value} {t : TypeId} (h : Row w b true cs t) : w.heap[b]? = some (.cells cs t (0, 0)) := by
  obtain ⟨fz, h1, h2⟩ := h
  rw [h1, h2 rfl]
theorem Row.of {w : World} {b : Nat} {m : Bool} {cs : Array Value} {t : TypeId} (h : w.heap[b]? = some (.cells cs t (0, 0))) : Row w b m cs t := ⟨_, h, fun _ => rfl⟩
theorem Row.same {w w' : World} {b : Nat} {m : Bool} {cs : Array Value} {t : TypeId} (h : Row w b m cs t) (e : w'.heap[b]? = w.heap[b]?) : Row w' b m cs t := by
  obtain ⟨fz, h1, h2⟩ := h
  exact ⟨fz, e.trans h1, h2⟩
theorem Row.still {w : World} {b : Nat} {m : Bool} {cs : Array Value} {t : TypeId} (h : Row w b m cs t) : Row w b false cs t := by
  obtain ⟨fz, h1, h2⟩ := h
  exact ⟨fz, h1, fun x => by cases x⟩

/-- the jump that a round left, as the model has it. -/
def Ex.code : Ex → Code
  | .normal => .skip
  | .exit id => .exit id
  | .ret => .ret

/-- a loop over a function that is under way: what the model's record holds. -/
def LoopR (φ : Emb) (env : Array Value) (L : LoopC) (pe : Option Ex) (r : Loop) : Prop :=
  RelA φ env r.tmps ∧ r.params = L.ps ∧ r.assign = L.assign ∧ r.body = L.body ∧ r.pending = pe.map Ex.code ∧ r.state = match pe with
    | none => LoopState.ready
    | some _ => LoopState.done
theorem LoopR.mono {φ ψ : Emb} (hle : Emb.le φ ψ) {env : Array Value} {L : LoopC} {pe : Option Ex} {r : Loop} (h : LoopR φ env L pe r) : LoopR ψ env L pe r := ⟨h.1.mono hle, h.2⟩
theorem LoopR.notBusy {φ : Emb} {env : Array Value} {L : LoopC} {pe : Option Ex} {r : Loop} (h : LoopR φ env L pe r) : r.state ≠ .busy := by
  rw [h.2.2.2.2.2]; cases pe <;> simp

/-- an entry of a map. -/
def EntR (φ : Emb) (x : Value × Value × Nat) (e : MapEntry) : Prop := Rel φ x.1 e.key ∧ Rel φ x.2.1 e.val ∧ x.2.2 = e.born
def EntsR (φ : Emb) (es : List (Value × Value × Nat)) (es' : List MapEntry) : Prop := es.length = es'.length ∧ ∀ i (h : i < es.length) (h' : i < es'.length), EntR φ es[i] es'[i]
theorem EntsR.mono {φ ψ : Emb} (hle : Emb.le φ ψ) {es : List (Value × Value × Nat)} {es' : List MapEntry} (h : EntsR φ es es') : EntsR ψ es es' :=
  ⟨h.1, fun i h1 h2 => ⟨(h.2 i h1 h2).1.mono hle, (h.2 i h1 h2).2.1.mono hle, (h.2 i h1 h2).2.2⟩⟩
def ObjR (φ : Emb) : AObj → Obj → Prop
  | .loop env L pe, r => ∃ q, r = .loop q ∧ LoopR φ env L pe q
  | .map es c, r => ∃ es', r = .map es' c ∧ EntsR φ es es'.toList
  | .iter s p, r => r = .stringIter s p
  | .mapIter m since seen last, r => ∃ m', r = .mapIter m' since seen.toArray last ∧ Rel φ (.map m) (.map m')
theorem ObjR.mono {φ ψ : Emb} (hle : Emb.le φ ψ) {o : AObj} {r : Obj} (h : ObjR φ o r) : ObjR ψ o r := by
  cases o with
  | loop env L pe => obtain ⟨q, rfl, h⟩ := h; exact ⟨q, rfl, h.mono hle⟩
  | map es c => obtain ⟨q, rfl, h⟩ := h; exact ⟨q, rfl, h.mono hle⟩
  | iter s p => exact h
  | mapIter m s l c => obtain ⟨q, rfl, h⟩ := h; exact ⟨q, rfl, h.mono hle⟩
def isRow : Obj → Bool
  | .cells _ _ _ => true
  | _ => false
def isObj : Obj → Bool
  | .loop _ => true
  | .map _ _ => true
  | .stringIter _ _ => true
  | .mapIter _ _ _ _ => true
  | _ => false
theorem ObjR.isObj {φ : Emb} {o : AObj} {r : Obj} (h : ObjR φ o r) : Go.Proofs.YtofjnhdgkhfgnaaDoor.isObj r = true := by
  cases o with
  | loop env L pe => obtain ⟨q, rfl, h⟩ := h; rfl
  | map es c => obtain ⟨q, rfl, h⟩ := h; rfl
  | iter s p => rw [h]; rfl
  | mapIter m s l c => obtain ⟨q, rfl, h⟩ := h; rfl
theorem ObjR.noRow {φ : Emb} {o : AObj} {r : Obj} (h : ObjR φ o r) : isRow r = false := by
  cases o with
  | loop env L pe => obtain ⟨q, rfl, h⟩ := h; rfl
  | map es c => obtain ⟨q, rfl, h⟩ := h; rfl
  | iter s p => rw [h]; rfl
  | mapIter m s l c => obtain ⟨q, rfl, h⟩ := h; rfl

/-- what a map holds that is the constant table. -/
def TabR (es : List MapEntry) : Prop := (∀ x ∈ es, ∃ n f, x.key = .int .i64 n ∧ x.val = .func (.func f) #[] #[] ∧ gTab.lookup n = some f) ∧ ∀ n f, gTab.lookup n = some f → ∃ x ∈ es, x.key = .int .i64 n
/-- the constant table lies where it lies, below B. -/
def GlobOK (B : Nat) (φ : Emb) (w : World) : Prop := gOn = true → ∃ b, φ.tab = some b ∧ gVar < B ∧ b < B ∧ (∃ t fz, w.heap[gVar]? = some (.cells #[.map (some b)] t fz)) ∧ ∃ es' c, w.heap[b]? = some (.map es' c) ∧ TabR es'.toList
theorem GlobOK.of {B B' : Nat} {φ φ' : Emb} {w w' : World} (h : GlobOK B φ w) (hB : B ≤ B') (ht : φ'.tab = φ.tab) (hw : ∀ (b : Nat) o, b < B → (isRow o = true ∨ isObj o = true) → w.heap[b]? = some o → w'.heap[b]? = some o) : GlobOK B' φ' w' := by
  intro hg
  obtain ⟨b, h1, h2, h3, ⟨t, fz, h4⟩, es', c, h5, h6⟩ := h hg
  exact ⟨b, ht.trans h1, Nat.lt_of_lt_of_le h2 hB, Nat.lt_of_lt_of_le h3 hB, ⟨t, fz, hw _ _ h2 (.inl rfl) h4⟩, es', c, hw _ _ h3 (.inr rfl) h5, h6⟩
def Loops (B : Nat) (φ : Emb) (S : St) (w : World) : Prop :=
  GlobOK B φ w ∧ ∀ id s o, φ id = some s → S.get id = .obj o → (B ≤ s.b ∧ s.base = 0) ∧ (∃ r, w.heap[s.b]? = some r ∧ ObjR φ o r) ∧
    ∀ j sj o', j ≠ id → φ j = some sj → S.get j = .obj o' → sj.b ≠ s.b

/-- no loop is new, and each one's record lies as it lay. -/
theorem Loops.of {B : Nat} {φ φ' : Emb} {S S' : St} {w w' : World} (h : Loops B φ S w) (hle : Emb.le φ φ') (hS : ∀ id o, S'.get id = .obj o → S.get id = .obj o)
    (hφ : ∀ id s o, φ' id = some s → S'.get id = .obj o → φ id = some s) (hw : ∀ (b : Nat) r, isRow r = false → w.heap[b]? = some r → w'.heap[b]? = some r) (hlow : ∀ (b : Nat) o, b < B → w.heap[b]? = some o → w'.heap[b]? = some o) : Loops B φ' S' w' := by
  refine ⟨h.1.of (Nat.le_refl _) hle.tab (fun b o h1 _ h2 => hlow b o h1 h2), ?_⟩
  intro id s o e e2
  obtain ⟨h1, ⟨r, h2, h3⟩, h4⟩ := h.2 id s o (hφ id s o e e2) (hS id o e2)
  exact ⟨h1, ⟨r, hw _ r h3.noRow h2, h3.mono hle⟩, fun j sj o' hj ej ej2 => h4 j sj o' hj (hφ j sj o' ej ej2) (hS j o' ej2)⟩

/-- What the abstract memory says holds of the model's, as far as the blocks that φ knows. Blocks below B are never written. -/
structure Sim (B : Nat) (φ : Emb) (S : St) (w : World) : Prop where
  dom : ∀ id s, φ id = some s → id < S.next ∧ s.b < w.heap.size
  gone : ∀ id, S.next ≤ id → S.get id = .gone
  blk : ∀ id s c t sz m an, φ id = some s → S.get id = .cells c t sz m an → s.sz = sz ∧ c.length ≤ s.ext ∧ (m = true → B ≤ s.b) ∧
    ∃ cs t', Row w s.b m cs t' ∧ s.base + s.ext ≤ cs.size ∧ ∀ i v, c[i]? = some v → v.oneCell' = true ∧ ∃ v', cs[s.base + i]? = some v' ∧ Rel φ v v'
  apart : ∀ id s c t sz an, φ id = some s → S.get id = .cells c t sz true an → ∀ j sj cj tj zj mj aj, j ≠ id → φ j = some sj → S.get j = .cells cj tj zj mj aj → sj.b = s.b →
    (j ∈ an ∧ mj = false) ∧ sj.base + cj.length ≤ s.base + c.length
  loops : Loops B φ S w

/-- What a step of the two machines keeps. -/
structure Keep (B : Nat) (φ : Emb) (S : St) (w : World) (φ' : Emb) (S' : St) (w' : World) : Prop where
  le : Emb.le φ φ'
  place : ∀ id s, φ' id = some s → φ id = none → w.heap.size ≤ s.b ∨ ∃ id0 s0, φ id0 = some s0 ∧ s0.b = s.b ∧ (S.get id0).wr = true
  new : ∀ id s, φ' id = some s → φ id = none → S.next ≤ id
  size : w.heap.size ≤ w'.heap.size
  next : S.next ≤ S'.next
  os : w'.os = w.os
  tape : w'.tape = w.tape
  output : w'.output = w.output
  keep : ∀ b, b < w.heap.size → (∀ id s, φ id = some s → s.b = b → (S.get id).wr = false) → w'.heap[b]? = w.heap[b]?
  mine : ∀ id s, φ' id = some s → (S'.get id).wr = true → s.b < w.heap.size → ∃ id0 s0, φ id0 = some s0 ∧ s0.b = s.b ∧ (S.get id0).wr = true

theorem wr_cells {S : St} {id : Nat} {c : List Value} {t : TypeId} {sz : Nat} {an : List Nat} (h : S.get id = .cells c t sz true an) : (S.get id).wr = true := by rw [h]; rfl
theorem wr_loop {S : St} {id : Nat} {env : Array Value} {L : LoopC} {pe : Option Ex} (h : S.get id = .loop env L pe) : (S.get id).wr = true := by rw [h]; rfl
theorem wr_obj {S : St} {id : Nat} {o : AObj} (h : S.get id = .obj o) : (S.get id).wr = true := by rw [h]; rfl
theorem wr_inv {b : Blk} (h : b.wr = true) : (∃ c t sz an, b = .cells c t sz true an) ∨ ∃ o, b = .obj o := by
  cases b with
  | gone => cases h
  | cells c t sz m an => cases m with
    | true => exact .inl ⟨_, _, _, _, rfl⟩
    | false => cases h
  | obj o => exact .inr ⟨_, rfl⟩

theorem Keep.refl (B : Nat) (φ : Emb) (S : St) (w : World) : Keep B φ S w φ S w :=
  ⟨Emb.le.refl _, fun _ _ h h' => (Option.some_ne_none _ (h.symm.trans h')).elim, fun _ _ h h' => (Option.some_ne_none _ (h.symm.trans h')).elim, Nat.le_refl _, Nat.le_refl _, rfl, rfl, rfl, fun _ _ _ => rfl, fun id s h1 h2 _ => ⟨id, s, h1, rfl, h2⟩⟩

theorem Keep.trans {B : Nat} {φ φ' φ'' : Emb} {S S' S'' : St} {w w' w'' : World} (h : Keep B φ S w φ' S' w') (k : Keep B φ' S' w' φ'' S'' w'') : Keep B φ S w φ'' S'' w'' := by
  refine ⟨h.le.trans k.le, fun id s h1 h2 => ?_, fun id s h1 h2 => ?_, Nat.le_trans h.size k.size, Nat.le_trans h.next k.next, k.os.trans h.os, k.tape.trans h.tape, k.output.trans h.output, fun b hb hno => ?_, fun id s h1 h2 h3 => ?_⟩
  · cases h3 : φ' id with
    | none =>
      rcases k.place id s h1 h3 with h4 | ⟨id0, s0, h4, h5, h6⟩
      · exact .inl (Nat.le_trans h.size h4)
      · by_cases hlt : s0.b < w.heap.size
        · obtain ⟨id1, s1, h7, h8, h9⟩ := h.mine id0 s0 h4 h6 hlt
          exact .inr ⟨id1, s1, h7, h8.trans h5, h9⟩
        · exact .inl (by omega)
    | some s' =>
      have := k.le id s' h3
      rw [h1] at this
      obtain rfl := Option.some.inj this
      exact h.place id s h3 h2
  · cases h3 : φ' id with
    | none => exact Nat.le_trans h.next (k.new id s h1 h3)
    | some s' => exact h.new id s' h3 h2
  · rw [k.keep b (Nat.lt_of_lt_of_le hb h.size) ?_, h.keep b hb hno]
    intro id s h1 h2
    cases h3 : (S'.get id).wr with
    | false => rfl
    | true =>
      obtain ⟨id0, s0, h4, h5, h6⟩ := h.mine id s h1 h3 (by rw [h2]; exact hb)
      rw [hno id0 s0 h4 (h5.trans h2)] at h6
      cases h6
  · obtain ⟨id0, s0, h4, h5, h6⟩ := k.mine id s h1 h2 (Nat.lt_of_lt_of_le h3 h.size)
    obtain ⟨id1, s1, h7, h8, h9⟩ := h.mine id0 s0 h4 h6 (by rw [h5]; exact h3)
    exact ⟨id1, s1, h7, h8.trans h5, h9⟩

theorem Sim.above {B : Nat} {φ : Emb} {S : St} {w : World} (hs : Sim B φ S w) {id : Nat} {s : Spot} (h1 : φ id = some s) (h2 : (S.get id).wr = true) : B ≤ s.b := by
  rcases wr_inv h2 with ⟨c, t, sz, an, e⟩ | ⟨o, e⟩
  · exact (hs.blk id s c t sz true an h1 e).2.2.1 rfl
  · exact (hs.loops.2 id s o h1 e).1.1
theorem Sim.loopAt {B : Nat} {φ : Emb} {S : St} {w : World} (hs : Sim B φ S w) {id : Nat} {s : Spot} {env : Array Value} {L : LoopC} {pe : Option Ex} (h1 : φ id = some s) (h2 : S.get id = .loop env L pe) : (B ≤ s.b ∧ s.base = 0) ∧ ∃ r, w.heap[s.b]? = some (.loop r) ∧ LoopR φ env L pe r := by
  obtain ⟨a1, ⟨r, a2, q, rfl, a3⟩, _⟩ := hs.loops.2 id s _ h1 h2
  exact ⟨a1, q, a2, a3⟩

/-- Nothing below B is written. -/
theorem Keep.below {B : Nat} {φ φ' : Emb} {S S' : St} {w w' : World} (h : Keep B φ S w φ' S' w') (hs : Sim B φ S w) (hB : B ≤ w.heap.size) : Below B w w' :=
  ⟨h.os, h.tape, h.output, h.size, fun k hk => h.keep k (by omega) fun id s h1 h2 => by
    cases h3 : (S.get id).wr with
    | false => rfl
    | true => have := hs.above h1 h3; omega⟩

theorem Sim.drew {B : Nat} {φ : Emb} {S : St} {w : World} (h : Sim B φ S w) : Sim B φ S w.drew := ⟨h.dom, h.gone, h.blk, h.apart, h.loops⟩
theorem Keep.drew (B : Nat) (φ : Emb) (S : St) (w : World) : Keep B φ S w φ S w.drew :=
  ⟨Emb.le.refl _, fun _ _ h h' => (Option.some_ne_none _ (h.symm.trans h')).elim, fun _ _ h h' => (Option.some_ne_none _ (h.symm.trans h')).elim, Nat.le_refl _, Nat.le_refl _, rfl, rfl, rfl, fun _ _ _ => rfl, fun id s h1 h2 _ => ⟨id, s, h1, rfl, h2⟩⟩

/-- one number more. -/
def Emb.add (φ : Emb) (id : Nat) (s : Spot) : Emb := ⟨fun j => if j = id then some s else φ j, φ.tab⟩
theorem Emb.add_at (φ : Emb) (id : Nat) (s : Spot) (j : Nat) : (φ.add id s) j = if j = id then some s else φ j := rfl
theorem Emb.add_same (φ : Emb) (id : Nat) (s : Spot) : φ.add id s id = some s := if_pos rfl
theorem Emb.add_other (φ : Emb) {id j : Nat} (s : Spot) (h : j ≠ id) : φ.add id s j = φ j := if_neg h
theorem Emb.le_add (φ : Emb) (id : Nat) (s : Spot) (h : φ id = none) : Emb.le φ (φ.add id s) := ⟨fun j s' e => by
  rw [Emb.add_other _ _ (fun e' => by rw [e', h] at e; cases e)]; exact e, rfl⟩

theorem Sim.fresh {B : Nat} {φ : Emb} {S : St} {w : World} (h : Sim B φ S w) : φ S.next = none := by
  cases e : φ S.next with
  | none => rfl
  | some s => have := (h.dom _ s e).1; omega

theorem heap_alloc' (w : World) (o : Obj) (k : Nat) : (w.alloc o).heap[k]? = if k = w.heap.size then some o else w.heap[k]? := by
  show (w.heap.push o)[k]? = _
  rw [Array.getElem?_push]

/-- a new block on both sides. -/
theorem Sim.alloc {B : Nat} {φ : Emb} {S : St} {w : World} (h : Sim B φ S w) (hB : B ≤ w.heap.size) (c : List Value) (cs : Array Value) (t t' : TypeId) (sz : Nat)
    (h1 : ∀ v ∈ c, v.oneCell' = true) (hlen : c.length ≤ cs.size) (hr : ∀ (i : Nat) v, c[i]? = some v → ∃ v', cs[i]? = some v' ∧ Rel φ v v') (an : List Nat) :
    Sim B (φ.add S.next ⟨w.heap.size, 0, cs.size, sz⟩) (S.alloc (.cells c t sz true an)) (w.alloc (.cells cs t')) ∧
    Keep B φ S w (φ.add S.next ⟨w.heap.size, 0, cs.size, sz⟩) (S.alloc (.cells c t sz true an)) (w.alloc (.cells cs t')) := by
  have hf := h.fresh
  have hle := Emb.le_add φ S.next ⟨w.heap.size, 0, cs.size, sz⟩ hf
  constructor
  · refine ⟨fun id s e => ?_, (fun id hi => by rw [St.get_alloc, if_neg (by simp at hi; omega)]; exact h.gone id (by simp at hi; omega)), fun id s c' t1 sz1 m an' e e2 => ?_, fun id s c' t1 sz1 an' e e2 j sj cj tj zj mj aj hj e3 e4 e5 => ?_, h.loops.of hle (fun id o e => ?_) (fun id s o e e2 => ?_) (fun b r _ e => ?_) fun b o hb e => by have : b < w.heap.size := (Array.getElem?_eq_some_iff.1 e).1; rw [heap_alloc', if_neg (by omega)]; exact e⟩
    · by_cases hi : id = S.next
      · subst hi
        rw [Emb.add_same] at e
        obtain rfl := Option.some.inj e
        simp
      · rw [Emb.add_other _ _ hi] at e
        have := h.dom id s e
        simp; omega
    · by_cases hi : id = S.next
      · subst hi
        rw [Emb.add_same] at e
        obtain rfl := Option.some.inj e
        rw [St.get_alloc, if_pos rfl] at e2
        obtain ⟨rfl, rfl, rfl, rfl, rfl⟩ := Blk.cells.inj e2
        refine ⟨rfl, hlen, fun _ => hB, cs, t', Row.of (by rw [heap_alloc', if_pos rfl]), by simp, fun i v hv => ⟨h1 v (List.mem_of_getElem? hv), ?_⟩⟩
        obtain ⟨v', hv', hrel⟩ := hr i v hv
        exact ⟨v', by simpa using hv', hrel.mono hle⟩
      · rw [Emb.add_other _ _ hi] at e
        rw [St.get_alloc, if_neg hi] at e2
        obtain ⟨a1, a2, a3, cs', t2, a4, a5, a6⟩ := h.blk id s c' t1 sz1 m an' e e2
        have := (h.dom id s e).2
        refine ⟨a1, a2, a3, cs', t2, a4.same (by rw [heap_alloc', if_neg (by omega)]), a5, fun i v hv => ?_⟩
        obtain ⟨b1, v', b2, b3⟩ := a6 i v hv
        exact ⟨b1, v', b2, b3.mono hle⟩
    · by_cases hi : id = S.next
      · subst hi
        rw [Emb.add_same] at e
        obtain rfl := Option.some.inj e
        rw [Emb.add_other _ _ hj] at e3
        have := (h.dom j sj e3).2
        simp at e5; omega
      · rw [Emb.add_other _ _ hi] at e
        rw [St.get_alloc, if_neg hi] at e2
        by_cases hj2 : j = S.next
        · subst hj2
          rw [Emb.add_same] at e3
          obtain rfl := Option.some.inj e3
          have := (h.dom id s e).2
          simp at e5; omega
        · rw [Emb.add_other _ _ hj2] at e3
          rw [St.get_alloc, if_neg hj2] at e4
          exact h.apart id s c' t1 sz1 an' e e2 j sj cj tj zj mj aj hj e3 e4 e5
    · rw [St.get_alloc] at e
      split at e
      · cases e
      · exact e
    · rw [St.get_alloc] at e2
      split at e2
      · cases e2
      · rename_i hi
        rwa [Emb.add_other _ _ hi] at e
    · have : b < w.heap.size := (Array.getElem?_eq_some_iff.1 e).1
      rw [heap_alloc', if_neg (by omega)]; exact e
  · refine ⟨hle, fun id s e e2 => ?_, fun id s e e2 => ?_, by simp, by simp, rfl, rfl, rfl, fun b hb _ => by rw [heap_alloc', if_neg (by omega)], fun id s e e2 hlt => ?_⟩
    · by_cases hi : id = S.next
      · subst hi
        rw [Emb.add_same] at e
        obtain rfl := Option.some.inj e
        exact .inl (Nat.le_refl _)
      · rw [Emb.add_other _ _ hi, e2] at e; cases e
    · by_cases hi : id = S.next
      · omega
      · rw [Emb.add_other _ _ hi, e2] at e; cases e
    · by_cases hi : id = S.next
      · subst hi
        rw [Emb.add_same] at e
        obtain rfl := Option.some.inj e
        simp at hlt
      · rw [Emb.add_other _ _ hi] at e
        rw [St.get_alloc, if_neg hi] at e2
        exact ⟨id, s, e, rfl, e2⟩
end Go.Proofs.YtofjnhdgkhfgnaaDoor

/- A second view of the abstract memory: lists that nobody writes are values. Values, states, what they stand for. No program in sight. The second view: memories, and operations. No program in sight. The second view: what operations do. No program in sight. The second view: operations are sound. No program in sight. The second view: all operations are sound. No program in sight. The second view: maps, and walks through strings. No program in sight. -/
import Derived.Test.YtmbbebfpjclghaaMmk
set_option linter.unusedVariables false
set_option linter.unusedSectionVars false
namespace Go.Proofs.Ytmbbebfpjclghaa
open Go Go.RowKit

/-- a value. 'lst': a list that nobody writes; 'own': one that may be appended to; 'slice': a part of a row of the memory; 'ep': a pointer into a list. -/
inductive VV where
  | v (x : Value)
  | ptr (id o : Nat)
  | lst (n : Nat) (xs : List VV)
  | own (z n : Nat) (xs : List VV) (t : Nat)
  | slice (id o n c : Nat)
  | ep (xs : List VV) (o : Nat)
  | agg (xs : List VV)
  | tup (xs : List VV)
  | fn (f : FuncId) (a b : List VV)
  | yield (id : Nat)
  | map (id : Nat)
  | iface (t : TypeId) (x : VV)

abbrev FV := Tmp → VV
inductive VB where
  | gone
  | dead
  | cells (c : List VV) (t : TypeId) (z : Nat) (b : Nat)
  | obj (o : AObj)
  | loop (fe : FV) (L : LoopC) (pe : Option Ex)

structure VSt where
  heap : Nat → VB
  live : Nat → Bool
  next : Nat
  low : Nat

def VSt.alloc (σ : VSt) (b : VB) : VSt := { σ with heap := fun j => if j = σ.next then b else σ.heap j, next := σ.next + 1 }
/-- cells are written; b is a bound of what the model may touch. -/
def VSt.write (σ : VSt) (id : Nat) (c : List VV) (t : TypeId) (z b : Nat) : VSt := { σ with heap := fun j => if j = id then .cells c t z b else σ.heap j, low := min σ.low b }
def VSt.kill (σ : VSt) (id b : Nat) : VSt := { σ with heap := fun j => if j = id then .dead else σ.heap j, low := min σ.low b }
def VSt.box (σ : VSt) (c : List VV) (t : TypeId) (z : Nat) : VSt := σ.alloc (.cells c t z σ.next)
def VSt.put (σ : VSt) (id : Nat) (b : VB) : VSt := { σ with heap := fun j => if j = id then b else σ.heap j, low := min σ.low id }
def VSt.newTok (σ : VSt) : VSt := { σ with live := fun j => if j = σ.next then true else σ.live j, next := σ.next + 1 }
def VSt.useTok (σ : VSt) (t : Nat) : VSt := { σ with live := fun j => if j = σ.next then true else if j = t then false else σ.live j, next := σ.next + 1, low := min σ.low t }
/-- where a call begins. -/
def VSt.fresh (σ : VSt) : VSt := { σ with low := σ.next }
def VSt.join (σ σ' : VSt) : VSt := { σ' with low := min σ.low σ'.low }
/-- a block that nobody writes. -/
def VSt.G (σ : VSt) (id : Nat) : Prop := id < σ.next ∧ σ.heap id = .gone

inductive VRel (G : Nat → Prop) (S : St) : VV → Value → Prop where
  | v (x : Value) (h : flat1 x = true) : VRel G S (.v x) x
  | ptr (id o : Nat) : VRel G S (.ptr id o) (.pointer (some ⟨id, o, none⟩))
  | lstNil : VRel G S (.lst 0 []) (.slice none 0 0)
  | lst (z id o n c : Nat) (cc : List Value) (t : TypeId) (xs : List VV) (hG : G id) (hl : (S.get id).look = some (cc, t, z)) (hn : n ≤ c) (hx : xs.length = n * z) (hb : o + xs.length ≤ cc.length)
      (h : ∀ i (h1 : i < xs.length) (h2 : o + i < cc.length), VRel G S xs[i] cc[o + i]) : VRel G S (.lst n xs) (.slice (some ⟨id, o, none⟩) n c)
  | own (z id n : Nat) (cc : List Value) (t : TypeId) (xs : List VV) (hG : G id) (hl : (S.get id).look = some (cc, t, z)) (hx : xs.length = n * z) (hb : xs.length = cc.length)
      (h : ∀ i (h1 : i < xs.length) (h2 : i < cc.length), VRel G S xs[i] cc[i]) : VRel G S (.own z n xs id) (.slice (some ⟨id, 0, none⟩) n n)
  | slice (id o n c : Nat) : VRel G S (.slice id o n c) (.slice (some ⟨id, o, none⟩) n c)
  | ep (z id o b : Nat) (cc : List Value) (t : TypeId) (xs : List VV) (hG : G id) (hl : (S.get id).look = some (cc, t, z)) (hb : b + xs.length ≤ cc.length)
      (h : ∀ i (h1 : i < xs.length) (h2 : b + i < cc.length), VRel G S xs[i] cc[b + i]) : VRel G S (.ep xs o) (.pointer (some ⟨id, b + o, none⟩))
  | agg (xs : List VV) (a : Array Value) (hs : xs.length = a.size) (h : ∀ i (h1 : i < xs.length) (h2 : i < a.size), VRel G S xs[i] a[i]) : VRel G S (.agg xs) (.agg a)
  | tup (xs : List VV) (a : Array Value) (hs : xs.length = a.size) (h : ∀ i (h1 : i < xs.length) (h2 : i < a.size), VRel G S xs[i] a[i]) : VRel G S (.tup xs) (.tuple a)
  | fn (f : FuncId) (a b : List VV) (a' b' : Array Value) (ha : a.length = a'.size) (hb : b.length = b'.size) (h1 : ∀ i (h1 : i < a.length) (h2 : i < a'.size), VRel G S a[i] a'[i]) (h2 : ∀ i (h1 : i < b.length) (h2 : i < b'.size), VRel G S b[i] b'[i]) :
      VRel G S (.fn f a b) (.func (.func f) a' b')
  | yield (id : Nat) : VRel G S (.yield id) (.func (.yield id) #[] #[])
  | map (id : Nat) : VRel G S (.map id) (.map (some id))
  | iface (t : TypeId) (x : VV) (x' : Value) (h : VRel G S x x') : VRel G S (.iface t x) (.iface t x')

def VRelL (G : Nat → Prop) (S : St) (xs : List VV) (l : List Value) : Prop := xs.length = l.length ∧ ∀ i (h1 : i < xs.length) (h2 : i < l.length), VRel G S xs[i] l[i]

section
variable {G G' : Nat → Prop} {S S' : St}

theorem VRel.mono (h : ∀ id, G id → G' id ∧ (S'.get id).look = (S.get id).look) {x : VV} {x' : Value} (hr : VRel G S x x') : VRel G' S' x x' := by
  induction hr with
  | v x h => exact .v x h
  | ptr id o => exact .ptr id o
  | lstNil => exact .lstNil
  | lst z id o n c cc t xs hG hl hn hx hb _ ih => exact .lst z id o n c cc t xs (h id hG).1 (by rw [(h id hG).2]; exact hl) hn hx hb ih
  | own z id n cc t xs hG hl hx hb _ ih => exact .own z id n cc t xs (h id hG).1 (by rw [(h id hG).2]; exact hl) hx hb ih
  | slice id o n c => exact .slice id o n c
  | ep z id o b cc t xs hG hl hb _ ih => exact .ep z id o b cc t xs (h id hG).1 (by rw [(h id hG).2]; exact hl) hb ih
  | agg xs a hs _ ih => exact .agg xs a hs ih
  | tup xs a hs _ ih => exact .tup xs a hs ih
  | fn f a b a' b' ha hb _ _ i1 i2 => exact .fn f a b a' b' ha hb i1 i2
  | yield id => exact .yield id
  | map id => exact .map id
  | iface t x x' _ ih => exact .iface t x x' ih
theorem VRelL.mono (h : ∀ id, G id → G' id ∧ (S'.get id).look = (S.get id).look) {x : List VV} {x' : List Value} (hr : VRelL G S x x') : VRelL G' S' x x' := ⟨hr.1, fun i h1 h2 => (hr.2 i h1 h2).mono h⟩
theorem VRelL.nil : VRelL G S [] [] := ⟨rfl, fun i h => by simp at h⟩
theorem VRelL.cons {x : VV} {x' : Value} {l : List VV} {l' : List Value} (h : VRel G S x x') (hl : VRelL G S l l') : VRelL G S (x :: l) (x' :: l') :=
  ⟨by simp [hl.1], fun i h1 h2 => by
    cases i with
    | zero => exact h
    | succ i => exact hl.2 i (by simpa using h1) (by simpa using h2)⟩
theorem VRelL.append {a b : List VV} {a' b' : List Value} (h : VRelL G S a a') (k : VRelL G S b b') : VRelL G S (a ++ b) (a' ++ b') := by
  refine ⟨by simp [h.1, k.1], fun i h1 h2 => ?_⟩
  by_cases hi : i < a.length
  · rw [List.getElem_append_left hi, List.getElem_append_left (by rw [← h.1]; exact hi)]
    exact h.2 i hi _
  · have e := h.1
    simp only [List.length_append] at h1 h2
    rw [List.getElem_append_right (by omega), List.getElem_append_right (by omega)]
    simp only [← e]
    exact k.2 _ (by omega) (by omega)
theorem VRelL.take {a : List VV} {a' : List Value} (h : VRelL G S a a') (n : Nat) : VRelL G S (a.take n) (a'.take n) := by
  refine ⟨by simp [h.1], fun i h1 h2 => ?_⟩
  simp only [List.length_take] at h1 h2
  rw [List.getElem_take, List.getElem_take]
  exact h.2 i (by omega) (by omega)
theorem VRelL.drop {a : List VV} {a' : List Value} (h : VRelL G S a a') (n : Nat) : VRelL G S (a.drop n) (a'.drop n) := by
  refine ⟨by simp [h.1], fun i h1 h2 => ?_⟩
  simp only [List.length_drop] at h1 h2
  rw [List.getElem_drop, List.getElem_drop]
  exact h.2 _ (by omega) (by omega)
theorem VRelL.at {a : List VV} {a' : List Value} (h : VRelL G S a a') {i : Nat} {x : VV} (hx : a[i]? = some x) : ∃ x', a'[i]? = some x' ∧ VRel G S x x' := by
  obtain ⟨hi, rfl⟩ := List.getElem?_eq_some_iff.1 hx
  have hi' : i < a'.length := by rw [← h.1]; exact hi
  exact ⟨a'[i], List.getElem?_eq_getElem hi', h.2 i hi hi'⟩
theorem VRelL.part {xs : List VV} {cc : List Value} {o : Nat} (hb : o + xs.length ≤ cc.length) (h : ∀ i (h1 : i < xs.length) (h2 : o + i < cc.length), VRel G S xs[i] cc[o + i]) : VRelL G S xs ((cc.drop o).take xs.length) := by
  refine ⟨by simp; omega, fun i h1 h2 => ?_⟩
  rw [List.getElem_take, List.getElem_drop]
  exact h i h1 _
theorem VRelL.of_part {xs : List VV} {cc : List Value} {o : Nat} (h : VRelL G S xs ((cc.drop o).take xs.length)) (hb : o + xs.length ≤ cc.length) : ∀ i (h1 : i < xs.length) (h2 : o + i < cc.length), VRel G S xs[i] cc[o + i] := by
  intro i h1 h2
  have := h.2 i h1 (by simp; omega)
  rw [List.getElem_take, List.getElem_drop] at this
  exact this
theorem VRelL.replicate {x : VV} {x' : Value} (h : VRel G S x x') (n : Nat) : VRelL G S (List.replicate n x) (List.replicate n x') := by
  refine ⟨by simp, fun i h1 h2 => ?_⟩
  rw [List.getElem_replicate, List.getElem_replicate]
  exact h
theorem VRelL.flat {l : List Value} (h : flatL l = true) : VRelL G S (l.map .v) l := by
  refine ⟨by simp, fun i h1 h2 => ?_⟩
  rw [List.getElem_map]
  simp only [flatL, List.all_eq_true] at h
  exact .v _ (h _ (List.getElem_mem _))

def nilS : VV := .v (.slice none 0 0)
def fgv : Value → VV
  | .slice none 0 0 => .lst 0 []
  | x => .v x
/-- what is forgotten of a value: who may append to its lists, and whether they are nil. -/
def VV.fg : VV → VV
  | .lst n xs => .lst n (xs.map VV.fg)
  | .own _ n xs _ => .lst n (xs.map VV.fg)
  | .agg xs => .agg (xs.map VV.fg)
  | .tup xs => .tup (xs.map VV.fg)
  | .v x => fgv x
  | .ptr id o => .ptr id o
  | .slice id o n c => .slice id o n c
  | .ep xs o => .ep xs o
  | .fn f a b => .fn f a b
  | .yield id => .yield id
  | .map id => .map id
  | .iface t x => .iface t x
theorem VRel.fgv {x : Value} (h : flat1 x = true) : VRel G S (fgv x) x := by
  unfold Go.Proofs.Ytmbbebfpjclghaa.fgv
  split
  · exact .lstNil
  · exact .v _ h
theorem VRel.fg {x : VV} {x' : Value} (h : VRel G S x x') : VRel G S x.fg x' := by
  induction h with
  | lst z id o n c cc t xs hG hl hn hx hb _ ih =>
    rw [VV.fg]
    exact .lst z id o n c cc t _ hG hl hn (by simpa using hx) (by simpa using hb) (fun i h1 h2 => by simpa using ih i (by simpa using h1) h2)
  | own z id n cc t xs hG hl hx hb _ ih =>
    rw [VV.fg]
    refine .lst z id 0 n n cc t _ hG hl (Nat.le_refl _) (by simpa using hx) (by simp [hb]) (fun i h1 h2 => ?_)
    simp only [Nat.zero_add] at h2 ⊢
    simpa using ih i (by simpa using h1) h2
  | agg xs a hs _ ih => rw [VV.fg]; exact .agg _ a (by simpa using hs) (fun i h1 h2 => by simpa using ih i (by simpa using h1) h2)
  | tup xs a hs _ ih => rw [VV.fg]; exact .tup _ a (by simpa using hs) (fun i h1 h2 => by simpa using ih i (by simpa using h1) h2)
  | lstNil => rw [VV.fg]; exact .lstNil
  | v x h => rw [VV.fg]; exact .fgv h
  | ptr id o => rw [VV.fg]; exact .ptr id o
  | slice id o n c => rw [VV.fg]; exact .slice id o n c
  | ep z id o b cc t xs hG hl hb h _ => rw [VV.fg]; exact .ep z id o b cc t xs hG hl hb h
  | fn f a b a' b' ha hb h1 h2 _ _ => rw [VV.fg]; exact .fn f a b a' b' ha hb h1 h2
  | yield id => rw [VV.fg]; exact .yield id
  | map id => rw [VV.fg]; exact .map id
  | iface t x x' h _ => rw [VV.fg]; exact .iface t x x' h
theorem VRelL.fg {x : List VV} {x' : List Value} (h : VRelL G S x x') : VRelL G S (x.map VV.fg) x' := ⟨by simpa using h.1, fun i h1 h2 => by simpa using (h.2 i (by simpa using h1) h2).fg⟩
end
end Go.Proofs.Ytmbbebfpjclghaa

set_option linter.unusedVariables false
set_option linter.unusedSectionVars false
namespace Go.Proofs.Ytmbbebfpjclghaa
open Go Go.RowKit

def BRel (G : Nat → Prop) (S : St) (dead : Nat → Prop) (id : Nat) : VB → Bool → Blk → Prop
  | .gone, live, k => live = true → ∃ c t z an, k = .cells c t z true an
  | .dead, live, _ => live = false
  | .cells c t z b, live, k => live = false ∧ b ≤ id ∧ ∃ c' an, k = .cells c' t z true an ∧ VRelL G S c c' ∧ ∀ j ∈ an, dead j ∧ b ≤ j
  | .obj o, live, k => live = false ∧ k = .obj o
  | .loop fe L pe, live, k => live = false ∧ ∃ env, k = .obj (.loop env L pe) ∧ ∀ t, VRel G S (fe t) (toF env t)
def VSt.dead (σ : VSt) (id : Nat) : Prop := σ.heap id = .dead
theorem BRel.mono {G G' : Nat → Prop} {S S' : St} {dead dead' : Nat → Prop} (h : ∀ id, G id → G' id ∧ (S'.get id).look = (S.get id).look) (hd : ∀ id, dead id → dead' id) {id : Nat} {b : VB} {l : Bool} {k : Blk} (hb : BRel G S dead id b l k) : BRel G' S' dead' id b l k := by
  cases b with
  | gone => exact hb
  | dead => exact hb
  | cells c t z b => obtain ⟨h0, h00, c', an, h1, h2, h3⟩ := hb; exact ⟨h0, h00, c', an, h1, h2.mono h, fun j hj => ⟨hd j (h3 j hj).1, (h3 j hj).2⟩⟩
  | obj o => exact hb
  | loop fe L pe => obtain ⟨h0, env, h1, h2⟩ := hb; exact ⟨h0, env, h1, fun t => (h2 t).mono h⟩

structure VSim (σ : VSt) (S : St) : Prop where
  next : σ.next = S.next
  hi : ∀ id, σ.next ≤ id → σ.heap id = .gone ∧ σ.live id = false
  low : σ.low ≤ σ.next
  blk : ∀ id, BRel σ.G S σ.dead id (σ.heap id) (σ.live id) (S.get id)

/-- what a step keeps. -/
structure VStep (σ : VSt) (S : St) (σ' : VSt) (S' : St) : Prop where
  next : σ.next ≤ σ'.next
  still : ∀ id, σ.G id → σ'.heap id = .gone ∧ (S'.get id).look = (S.get id).look
  low : σ'.low ≤ σ.low
  keep : ∀ id, id < σ.next → id < σ'.low → σ'.heap id = σ.heap id ∧ σ'.live id = σ.live id ∧ S'.get id = S.get id
theorem VStep.refl (σ : VSt) (S : St) : VStep σ S σ S := ⟨Nat.le_refl _, fun id h => ⟨h.2, rfl⟩, Nat.le_refl _, fun _ _ _ => ⟨rfl, rfl, rfl⟩⟩
theorem VStep.trans {σ σ' σ'' : VSt} {S S' S'' : St} (h : VStep σ S σ' S') (k : VStep σ' S' σ'' S'') : VStep σ S σ'' S'' :=
  ⟨Nat.le_trans h.next k.next, fun id hG => by
    have h1 := h.still id hG
    have h2 := k.still id ⟨Nat.lt_of_lt_of_le hG.1 h.next, h1.1⟩
    exact ⟨h2.1, h2.2.trans h1.2⟩, Nat.le_trans k.low h.low, fun id h1 h2 => by
    have a := h.keep id h1 (Nat.lt_of_lt_of_le h2 k.low)
    have b := k.keep id (Nat.lt_of_lt_of_le h1 h.next) h2
    exact ⟨b.1.trans a.1, b.2.1.trans a.2.1, b.2.2.trans a.2.2⟩⟩
theorem VStep.rel {σ σ' : VSt} {S S' : St} (h : VStep σ S σ' S') : ∀ id, σ.G id → σ'.G id ∧ (S'.get id).look = (S.get id).look := fun id hG => ⟨⟨Nat.lt_of_lt_of_le hG.1 h.next, (h.still id hG).1⟩, (h.still id hG).2⟩
theorem VRel.step {σ σ' : VSt} {S S' : St} {x : VV} {x' : Value} (hr : VRel σ.G S x x') (h : VStep σ S σ' S') : VRel σ'.G S' x x' := hr.mono h.rel

/-- a memory after a step: what is said of the blocks that have turned. -/
theorem VSim.step {σ σ' : VSt} {S S' : St} (h : VSim σ S) (k : VStep σ S σ' S') (hn : σ'.next = S'.next) (hlow : σ'.low ≤ σ'.next) (hhi : ∀ id, σ'.next ≤ id → σ'.heap id = .gone ∧ σ'.live id = false) (hd : ∀ id, σ.heap id = .dead → σ'.heap id = .dead)
    (hb : ∀ id, (σ'.heap id = σ.heap id ∧ σ'.live id = σ.live id ∧ S'.get id = S.get id) ∨ BRel σ'.G S' σ'.dead id (σ'.heap id) (σ'.live id) (S'.get id)) : VSim σ' S' := by
  refine ⟨hn, hhi, hlow, fun id => ?_⟩
  rcases hb id with ⟨e1, e2, e3⟩ | hb
  · rw [e1, e2, e3]
    exact (h.blk id).mono k.rel hd
  · exact hb

section
variable {σ : VSt} {S : St} (h : VSim σ S)
include h

theorem VSim.look_lt {id : Nat} (hG : σ.G id) : id < S.next := by rw [← h.next]; exact hG.1
theorem VSim.next_gone : σ.heap σ.next = .gone ∧ σ.live σ.next = false := h.hi _ (Nat.le_refl _)

/-- a new block. -/
theorem VSim.allocB (b : VB) (k : Blk) (hbG : b ≠ .gone) (hb : ∀ G', (∀ id, σ.G id → G' id ∧ ((S.alloc k).get id).look = (S.get id).look) → BRel G' (S.alloc k) (σ.alloc b).dead σ.next b false k) :
    VSim (σ.alloc b) (S.alloc k) ∧ VStep σ S (σ.alloc b) (S.alloc k) := by
  have hn := h.next
  have st : VStep σ S (σ.alloc b) (S.alloc k) := by
    refine ⟨by simp [VSt.alloc], fun id hG => ?_, Nat.le_refl _, fun id h1 h2 => ?_⟩
    · have h1 := hG.1
      exact ⟨by simp only [VSt.alloc]; rw [if_neg (by omega)]; exact hG.2, by rw [St.get_alloc, if_neg (by omega)]⟩
    · exact ⟨by simp only [VSt.alloc]; rw [if_neg (by omega)], rfl, by rw [St.get_alloc, if_neg (by omega)]⟩
  refine ⟨h.step st (by simp [VSt.alloc, hn]) (by simp only [VSt.alloc]; have := h.low; omega) (fun id hid => ?_) (fun id hd => ?_) (fun id => ?_), st⟩
  · simp only [VSt.alloc] at hid ⊢
    rw [if_neg (by omega)]
    exact h.hi id (by omega)
  · simp only [VSt.alloc]
    split
    · rename_i e; subst e; rw [h.next_gone.1] at hd; cases hd
    · exact hd
  · by_cases e : id = σ.next
    · right
      subst e
      have e1 : (σ.alloc b).heap σ.next = b := by simp [VSt.alloc]
      have e2 : (σ.alloc b).live σ.next = false := h.next_gone.2
      have e3 : (S.alloc k).get σ.next = k := by rw [St.get_alloc, if_pos hn]
      rw [e1, e2, e3]
      exact hb _ st.rel
    · left
      exact ⟨by simp only [VSt.alloc]; rw [if_neg e], rfl, by rw [St.get_alloc, if_neg (by omega)]⟩
theorem VSim.allocC {c : List VV} {c' : List Value} (hc : VRelL σ.G S c c') (t : TypeId) (z : Nat) : VSim (σ.box c t z) (S.alloc (.cells c' t z true [])) ∧ VStep σ S (σ.box c t z) (S.alloc (.cells c' t z true [])) :=
  h.allocB _ _ (by simp) fun G' hG => ⟨rfl, Nat.le_refl _, c', [], rfl, hc.mono hG, by simp⟩
theorem VSim.allocO (o : AObj) : VSim (σ.alloc (.obj o)) (S.alloc (.obj o)) ∧ VStep σ S (σ.alloc (.obj o)) (S.alloc (.obj o)) :=
  h.allocB _ _ (by simp) fun G' hG => ⟨rfl, rfl⟩
/-- a new list. -/
theorem VSim.newTok (c' : List Value) (t : TypeId) (z : Nat) : VSim σ.newTok (S.alloc (.cells c' t z true [])) ∧ VStep σ S σ.newTok (S.alloc (.cells c' t z true [])) ∧ σ.newTok.G σ.next := by
  have hn := h.next
  have st : VStep σ S σ.newTok (S.alloc (.cells c' t z true [])) := by
    refine ⟨by simp [VSt.newTok], fun id hG => ?_, Nat.le_refl _, fun id h1 h2 => ?_⟩
    · have h1 := hG.1
      exact ⟨hG.2, by rw [St.get_alloc, if_neg (by omega)]⟩
    · exact ⟨rfl, by simp only [VSt.newTok]; rw [if_neg (by omega)], by rw [St.get_alloc, if_neg (by omega)]⟩
  refine ⟨h.step st (by simp [VSt.newTok, hn]) (by simp only [VSt.newTok]; have := h.low; omega) (fun id hid => ?_) (fun id hd => hd) (fun id => ?_), st, by simp [VSt.newTok], h.next_gone.1⟩
  · simp only [VSt.newTok] at hid ⊢
    rw [if_neg (by omega)]
    exact h.hi id (by omega)
  · by_cases e : id = σ.next
    · right
      subst e
      have e1 : σ.newTok.heap σ.next = .gone := h.next_gone.1
      have e3 : (S.alloc (.cells c' t z true [])).get σ.next = .cells c' t z true [] := by rw [St.get_alloc, if_pos hn]
      rw [e1, e3]
      exact fun _ => ⟨_, _, _, _, rfl⟩
    · left
      exact ⟨rfl, by simp only [VSt.newTok]; rw [if_neg e], by rw [St.get_alloc, if_neg (by omega)]⟩
theorem VSim.live_lt {t : Nat} (hl : σ.live t = true) : t < σ.next ∧ σ.heap t = .gone := by
  refine ⟨Nat.lt_of_not_le fun hle => absurd ((h.hi t hle).2.symm.trans hl) (by simp), ?_⟩
  have := h.blk t
  cases e : σ.heap t with
  | gone => rfl
  | dead => rw [e, hl] at this; exact absurd this (by simp [BRel])
  | cells c t z b => rw [e, hl] at this; exact absurd this.1 (by simp)
  | obj o => rw [e, hl] at this; exact absurd this.1 (by simp)
  | loop fe L pe => rw [e, hl] at this; exact absurd this.1 (by simp)
/-- a list that is appended to. -/
theorem VSim.useTok {t : Nat} (hl : σ.live t = true) {c : List Value} {tt : TypeId} {z : Nat} {m : Bool} {an : List Nat} (hk : S.get t = .cells c tt z m an) (c2 : List Value) (t2 : TypeId) :
    VSim (σ.useTok t) (S.grow t c tt z an c2 t2) ∧ VStep σ S (σ.useTok t) (S.grow t c tt z an c2 t2) ∧ (σ.useTok t).G σ.next := by
  have hn := h.next
  obtain ⟨ht, hg⟩ := h.live_lt hl
  have get : ∀ id, (S.grow t c tt z an c2 t2).get id = if id = S.next then .cells c2 t2 z true (t :: an) else if id = t then .cells c tt z false an else S.get id := fun id => by
    unfold St.grow
    rw [St.get_alloc, St.get_put, St.next_put]
  have st : VStep σ S (σ.useTok t) (S.grow t c tt z an c2 t2) := by
    refine ⟨by simp [VSt.useTok], fun id hG => ?_, by simp only [VSt.useTok]; omega, fun id h1 h2 => ?_⟩
    · have h1 := hG.1
      refine ⟨hG.2, ?_⟩
      rw [get, if_neg (by omega)]
      split
      · rename_i e; subst e; rw [hk]; rfl
      · rfl
    · simp only [VSt.useTok] at h2
      exact ⟨rfl, by simp only [VSt.useTok]; rw [if_neg (by omega), if_neg (by omega)], by rw [get, if_neg (by omega), if_neg (by omega)]⟩
  refine ⟨h.step st (by simp [VSt.useTok, St.grow, hn]) (by simp only [VSt.useTok]; have := h.low; omega) (fun id hid => ?_) (fun id hd => hd) (fun id => ?_), st, by simp [VSt.useTok], h.next_gone.1⟩
  · simp only [VSt.useTok] at hid ⊢
    rw [if_neg (by omega), if_neg (by omega)]
    exact h.hi id (by omega)
  · by_cases e : id = σ.next
    · right
      subst e
      have e1 : (σ.useTok t).heap σ.next = .gone := h.next_gone.1
      rw [e1, get, if_pos hn]
      exact fun _ => ⟨_, _, _, _, rfl⟩
    · by_cases e' : id = t
      · right
        subst e'
        have e1 : (σ.useTok id).heap id = .gone := hg
        have e2 : (σ.useTok id).live id = false := by simp [VSt.useTok, e]
        rw [e1, e2]
        exact fun h => by cases h
      · left
        exact ⟨rfl, by simp only [VSt.useTok]; rw [if_neg e, if_neg e'], by rw [get, if_neg (by omega), if_neg e']⟩
/-- a block that turns. -/
theorem VSim.turn {σ' : VSt} {S' : St} {id : Nat} {lo : Nat} (hid : σ.heap id ≠ .gone) (hdd : σ.heap id ≠ .dead) (hlo : lo ≤ id) (hheap : ∀ j, j ≠ id → σ'.heap j = σ.heap j) (hlv : σ'.live = σ.live) (hnx' : σ'.next = σ.next) (hlow : σ'.low = min σ.low lo) (hng : σ'.heap id ≠ .gone)
    (hnx : S'.next = S.next) (hne : ∀ j, j ≠ id → S'.get j = S.get j ∨ (σ.heap j = .dead ∧ lo ≤ j))
    (hk : ∀ G', (∀ j, σ.G j → G' j ∧ (S'.get j).look = (S.get j).look) → BRel G' S' σ'.dead id (σ'.heap id) false (S'.get id)) : VSim σ' S' ∧ VStep σ S σ' S' := by
  have hn := h.next
  have hlt : id < σ.next := Nat.lt_of_not_le fun hle => hid (h.hi id hle).1
  have hlive : σ.live id = false := by
    cases e : σ.live id with
    | false => rfl
    | true => exact absurd (h.live_lt e).2 hid
  have st : VStep σ S σ' S' := by
    refine ⟨by rw [hnx']; exact Nat.le_refl _, fun j hG => ?_, by rw [hlow]; omega, fun j h1 h2 => ?_⟩
    · have hj : j ≠ id := fun e => hid (by rw [← e]; exact hG.2)
      refine ⟨by rw [hheap j hj]; exact hG.2, ?_⟩
      rcases hne j hj with e | e
      · rw [e]
      · rw [hG.2] at e; exact absurd e.1 (by simp)
    · rw [hlow] at h2
      have hj : j ≠ id := by omega
      refine ⟨hheap j hj, by rw [hlv], ?_⟩
      rcases hne j hj with e | e
      · exact e
      · omega
  refine ⟨h.step st (by rw [hnx', hn, hnx]) (by rw [hlow, hnx']; have := h.low; omega) (fun j hj => ?_) (fun j hd => ?_) (fun j => ?_), st⟩
  · rw [hnx'] at hj
    rw [hlv, hheap j (by omega)]
    exact h.hi j hj
  · have hj : j ≠ id := fun e => hdd (by rw [← e]; exact hd)
    rw [hheap j hj]; exact hd
  · by_cases e : j = id
    · right
      subst e
      rw [hlv, hlive]
      exact hk _ st.rel
    · rcases hne j e with e1 | e1
      · exact .inl ⟨hheap j e, by rw [hlv], e1⟩
      · right
        rw [hheap j e, e1.1]
        show σ'.live j = false
        rw [hlv]
        cases e2 : σ.live j with
        | false => rfl
        | true => have := (h.live_lt e2).2; rw [e1.1] at this; cases this
theorem VSim.writeC {id : Nat} {c0 : List VV} {t : TypeId} {z b : Nat} (hg : σ.heap id = .cells c0 t z b) : ∃ c0' an, S.get id = .cells c0' t z true an ∧ VRelL σ.G S c0 c0' ∧ ∀ (c : List VV) (c' : List Value), VRelL σ.G S c c' → VSim (σ.write id c t z b) (S.write id c' t z an) ∧ VStep σ S (σ.write id c t z b) (S.write id c' t z an) := by
  have hb := h.blk id
  rw [hg] at hb
  obtain ⟨h0, h1, c0', an, h2, h3, h4⟩ := hb
  refine ⟨c0', an, h2, h3, fun c c' hc => ?_⟩
  have e1 : (σ.write id c t z b).heap id = .cells c t z b := by simp [VSt.write]
  refine h.turn (id := id) (lo := b) (by rw [hg]; simp) (by rw [hg]; simp) h1 (fun j hj => by simp only [VSt.write]; rw [if_neg hj]) rfl rfl rfl (by rw [e1]; simp) (by simp) (fun j hj => ?_) (fun G' hG => ?_)
  · rw [St.get_write, if_neg hj]
    split
    · rename_i hm
      exact .inr (h4 j hm)
    · exact .inl rfl
  · rw [e1, St.get_write, if_pos rfl]
    exact ⟨rfl, h1, c', [], rfl, hc.mono hG, by simp⟩
theorem VSim.putO {id : Nat} {o0 : AObj} (hg : σ.heap id = .obj o0) (o : AObj) : S.get id = .obj o0 ∧ VSim (σ.put id (.obj o)) (S.put id (.obj o)) ∧ VStep σ S (σ.put id (.obj o)) (S.put id (.obj o)) := by
  have hb := h.blk id
  rw [hg] at hb
  have e1 : (σ.put id (.obj o)).heap id = .obj o := by simp [VSt.put]
  refine ⟨hb.2, h.turn (id := id) (lo := id) (by rw [hg]; simp) (by rw [hg]; simp) (Nat.le_refl _) (fun j hj => by simp only [VSt.put]; rw [if_neg hj]) rfl rfl rfl (by rw [e1]; simp) (by simp) (fun j hj => ?_) (fun G' hG => ?_)⟩
  · rw [St.get_put, if_neg hj]; exact .inl rfl
  · rw [e1, St.get_put, if_pos rfl]; exact ⟨rfl, rfl⟩
/-- a row that is appended to, and grows. -/
theorem VSim.growS {id : Nat} {c0 : List VV} {t : TypeId} {z b : Nat} (hg : σ.heap id = .cells c0 t z b) : ∃ c0' an, S.get id = .cells c0' t z true an ∧ VRelL σ.G S c0 c0' ∧ ∀ (c : List VV) (c' : List Value) (t2 : TypeId), VRelL σ.G S c c' →
    VSim ((σ.kill id b).alloc (.cells c t2 z b)) (S.grow id c0' t z an c' t2) ∧ VStep σ S ((σ.kill id b).alloc (.cells c t2 z b)) (S.grow id c0' t z an c' t2) := by
  have hb := h.blk id
  have hn := h.next
  rw [hg] at hb
  obtain ⟨h0, h1, c0', an, h2, h3, h4⟩ := hb
  have hlt : id < σ.next := Nat.lt_of_not_le fun hle => by rw [(h.hi id hle).1] at hg; cases hg
  refine ⟨c0', an, h2, h3, fun c c' t2 hc => ?_⟩
  have get : ∀ j, (S.grow id c0' t z an c' t2).get j = if j = S.next then .cells c' t2 z true (id :: an) else if j = id then .cells c0' t z false an else S.get j := fun j => by
    unfold St.grow
    rw [St.get_alloc, St.get_put, St.next_put]
  have hget : ∀ j, ((σ.kill id b).alloc (.cells c t2 z b)).heap j = if j = σ.next then .cells c t2 z b else if j = id then .dead else σ.heap j := fun j => rfl
  have st : VStep σ S ((σ.kill id b).alloc (.cells c t2 z b)) (S.grow id c0' t z an c' t2) := by
    refine ⟨by simp [VSt.alloc, VSt.kill], fun j hG => ?_, by simp only [VSt.alloc, VSt.kill]; omega, fun j a1 a2 => ?_⟩
    · have hj := hG.1
      have hj2 : j ≠ id := fun e => by have := hG.2; rw [e, hg] at this; cases this
      rw [hget, if_neg (by omega), if_neg hj2, get, if_neg (by omega), if_neg hj2]
      exact ⟨hG.2, rfl⟩
    · simp only [VSt.alloc, VSt.kill] at a2
      rw [hget, if_neg (by omega), if_neg (by omega), get, if_neg (by omega), if_neg (by omega)]
      exact ⟨rfl, rfl, rfl⟩
  refine ⟨h.step st (by simp [VSt.alloc, VSt.kill, St.grow, hn]) (by simp only [VSt.alloc, VSt.kill]; have := h.low; omega) (fun j hj => ?_) (fun j hd => ?_) (fun j => ?_), st⟩
  · simp only [VSt.alloc, VSt.kill] at hj
    rw [hget, if_neg (by omega), if_neg (by omega)]
    exact h.hi j (by omega)
  · rw [hget]
    split
    · rename_i e; rw [e, h.next_gone.1] at hd; cases hd
    · split
      · rfl
      · exact hd
  · by_cases e : j = σ.next
    · right
      subst e
      rw [hget, if_pos rfl, get, if_pos hn]
      have : ((σ.kill id b).alloc (.cells c t2 z b)).live σ.next = false := h.next_gone.2
      rw [this]
      refine ⟨rfl, by omega, c', id :: an, rfl, hc.mono st.rel, fun i hi => ?_⟩
      rcases List.mem_cons.1 hi with rfl | hi
      · refine ⟨?_, h1⟩
        show ((σ.kill i b).alloc (.cells c t2 z b)).heap i = .dead
        rw [hget, if_neg (by omega), if_pos rfl]
      · refine ⟨?_, (h4 i hi).2⟩
        show ((σ.kill id b).alloc (.cells c t2 z b)).heap i = .dead
        have hd : σ.heap i = .dead := (h4 i hi).1
        have : i ≠ σ.next := fun e => by rw [e, h.next_gone.1] at hd; cases hd
        rw [hget, if_neg this]
        split
        · rfl
        · exact hd
    · by_cases e' : j = id
      · right
        subst e'
        rw [hget, if_neg e, if_pos rfl]
        exact h0
      · left
        rw [hget, if_neg e, if_neg e', get, if_neg (by omega), if_neg e']
        exact ⟨rfl, rfl, rfl⟩
end
end Go.Proofs.Ytmbbebfpjclghaa

set_option linter.unusedVariables false
set_option linter.unusedSectionVars false
set_option linter.unusedSimpArgs false
namespace Go.Proofs.Ytmbbebfpjclghaa
open Go Go.RowKit

/-- a constant. -/
def toV : Value → VV
  | .agg a => .agg (a.toList.map .v)
  | .tuple a => .tup (a.toList.map .v)
  | x => .v x
def VV.cs : VV → List VV
  | .agg xs => xs
  | x => [x]
def VV.one1 : VV → Bool
  | .agg _ => false
  | .tup _ => false
  | _ => true
def vAll (l : List VV) : Bool := l.all VV.one1
def vpart (agg : Bool) (l : List VV) : Option VV := if agg then some (.agg l) else match l with
  | [x] => some x
  | _ => none
def vsplice (l : List VV) (o : Nat) (r : List VV) : List VV := l.take o ++ r ++ l.drop (o + r.length)
def vfill : List VV → List (Nat × Nat × VV) → Option (List VV)
  | l, [] => some l
  | l, (off, sz, v) :: r => if v.cs.length = sz ∧ off + sz ≤ l.length then vfill (vsplice l off v.cs) r else none
def vbound (v : Option VV) (d : Nat) : Option Nat := match v with
  | none => some d
  | some (.v (.int _ i)) => if 0 ≤ i then some i.toNat else none
  | _ => none
def vvals : List VV → Option (List Value)
  | [] => some []
  | .v x :: r => (vvals r).map (x :: ·)
  | _ => none

def vld (σ : VSt) (agg : Bool) (sz : Nat) (x : VV) : Option VV := match x with
  | .ptr id o => match σ.heap id with
    | .cells c _ _ _ => if o + sz ≤ c.length then vpart agg ((c.drop o).take sz) else none
    | _ => none
  | .ep xs o => if o + sz ≤ xs.length then vpart agg ((xs.drop o).take sz) else none
  | _ => none
def vst (σ : VSt) (sz : Nat) (p x : VV) : Option VSt := match p with
  | .ptr id o => match σ.heap id with
    | .cells c t z b => if x.cs.length = sz ∧ o + sz ≤ c.length ∧ vAll x.cs = true then some (σ.write id (vsplice c o x.cs) t z b) else none
    | _ => none
  | _ => none
def vsl (σ : VSt) (esz : Nat) (x : VV) (lo hi : Option VV) : Option VV := match x with
  | .v (.slice none 0 0) => match vbound lo 0, vbound hi 0 with
    | some l, some h => if l ≤ h ∧ h ≤ 0 then some nilS else none
    | _, _ => none
  | .lst n xs => match vbound lo 0, vbound hi n with
    | some l, some h => if l ≤ h ∧ h ≤ n ∧ xs.length = n * esz then some (.lst (h - l) ((xs.drop (l * esz)).take ((h - l) * esz))) else none
    | _, _ => none
  | .own _ n xs _ => match vbound lo 0, vbound hi n with
    | some l, some h => if l ≤ h ∧ h ≤ n ∧ xs.length = n * esz then some (.lst (h - l) ((xs.drop (l * esz)).take ((h - l) * esz))) else none
    | _, _ => none
  | .slice id o n c => match vbound lo 0, vbound hi n, σ.heap id with
    | some l, some h, .cells _ _ z _ => if l ≤ h ∧ h ≤ c ∧ slFit (some z) esz l = true then some (.slice id (o + l * esz) (h - l) (c - l)) else none
    | _, _, _ => none
  | _ => none
def vadd (x : VV) (off : Nat) : Option VV := match x with
  | .ptr id o => some (.ptr id (o + off))
  | .ep xs o => some (.ep xs (o + off))
  | _ => none
def via (esz : Nat) (x i : VV) : Option VV := match x, i with
  | .slice id o n _, .v (.int _ i) => if 0 ≤ i ∧ i < n then some (.ptr id (o + i.toNat * esz)) else none
  | .lst n xs, .v (.int _ i) => if 0 ≤ i ∧ i < n ∧ xs.length = n * esz then some (.ep xs (i.toNat * esz)) else none
  | .own _ n xs _, .v (.int _ i) => if 0 ≤ i ∧ i < n ∧ xs.length = n * esz then some (.ep xs (i.toNat * esz)) else none
  | _, _ => none
def viaArr (n esz : Nat) (x i : VV) : Option VV := match i with
  | .v (.int _ i) => if 0 ≤ i ∧ i < n then vadd x (i.toNat * esz) else none
  | _ => none
def vfld (agg : Bool) (sz off : Nat) (x : VV) : Option VV := match x with
  | .agg a => if off + sz ≤ a.length then vpart agg ((a.drop off).take sz) else none
  | _ => none
def vidx (n : Nat) (agg : Bool) (esz : Nat) (x i : VV) : Option VV := match x, i with
  | .agg a, .v (.int _ i) => if 0 ≤ i ∧ i < n ∧ i.toNat * esz + esz ≤ a.length then vpart agg ((a.drop (i.toNat * esz)).take esz) else none
  | _, _ => none
def vext (x : VV) (i : Nat) : Option VV := match x with
  | .tup a => a[i]?
  | _ => none
def vlenv (x : VV) : Option VV := match x with
  | .lst n _ => some (.v (.int .i64 n))
  | .own _ n _ _ => some (.v (.int .i64 n))
  | .slice _ _ n _ => some (.v (.int .i64 n))
  | .v (.slice none 0 0) => some (.v (.int .i64 0))
  | _ => none
def vbin (op : BinOp) (x y : VV) : Option VV := match x, y with
  | .v a, .v b => (xbin op a b).map .v
  | _, _ => none
def veqb (neg : Bool) (x y : VV) : Option VV := match x, y with
  | .v (.bool a), .v (.bool b) => some (.v (.bool (notIf neg (a == b))))
  | _, _ => none
def veqf (ks : List Nat) (neg : Bool) (x y : VV) : Option VV := match x, y with
  | .agg a, .agg b => (vvals a).bind fun a => (vvals b).bind fun b => (eqL ks a b).map fun r => .v (.bool (notIf neg r))
  | _, _ => none
def veqp (neg : Bool) (x y : VV) : Option VV := match x, y with
  | .ptr _ _, .v (.pointer none) => some (.v (.bool (notIf neg false)))
  | .ep _ _, .v (.pointer none) => some (.v (.bool (notIf neg false)))
  | .v (.pointer none), .v (.pointer none) => some (.v (.bool (notIf neg true)))
  | _, _ => none
def veqs (neg : Bool) (x y : VV) : Option VV := match x, y with
  | .own _ _ _ _, .v (.slice none 0 0) => some (.v (.bool (notIf neg false)))
  | .slice _ _ _ _, .v (.slice none 0 0) => some (.v (.bool (notIf neg false)))
  | .lst n _, .v (.slice none 0 0) => if n = 0 then none else some (.v (.bool (notIf neg false)))
  | .v (.slice none 0 0), .v (.slice none 0 0) => some (.v (.bool (notIf neg true)))
  | _, _ => none
def vun (op : UnOp) (x : VV) : Option VV := match op, x with
  | .neg, .v (.int k n) => some (.v (.int k (k.wrap (0 - n))))
  | .not, .v (.bool b) => some (.v (.bool !b))
  | _, _ => none
def vcvi (k : IntKind) (x : VV) : Option VV := match x with
  | .v (.int _ n) => some (.v (.int k (k.wrap n)))
  | _ => none
def vcvs (x : VV) : Option VV := match x with
  | .v (.string s) => some (.v (.string s))
  | _ => none
def vnilck (x : VV) : Option VV := match x with
  | .ptr id o => some (.ptr id o)
  | .ep xs o => some (.ep xs o)
  | .fn f a b => some (.fn f a b)
  | .iface t x => some (.iface t x)
  | _ => none
def vpick (c a b : VV) : Option VV := match c with
  | .v (.bool q) => some (if q then a else b)
  | _ => none
def vstr (x : VV) : Option ByteArray := match x with
  | .v (.string s) => some s
  | _ => none
def vslStr (x : VV) (lo hi : Option VV) : Option VV := match x with
  | .v (.string s) => match vbound lo 0, vbound hi s.size with
    | some l, some h => if l ≤ h ∧ h ≤ s.size then some (.v (.string (s.extract l h))) else none
    | _, _ => none
  | _ => none
def vidxStr (x i : VV) : Option VV := match x, i with
  | .v (.string s), .v (.int _ i) => if 0 ≤ i then (s[i.toNat]?).map fun b => .v (.int .u8 b.toNat) else none
  | _, _ => none
def vlenStr (x : VV) : Option VV := match x with
  | .v (.string s) => some (.v (.int .i64 s.size))
  | _ => none
def vmm (mx : Bool) (x : VV) (l : List VV) : Option VV := match x with
  | .v (.int k a) => (vvals l).bind fun l => (xminmax mx a k l).map .v
  | _ => none

/-- what a slice holds. -/
def vcont (σ : VSt) (esz : Nat) : VV → Option (Nat × List VV)
  | .v (.slice none 0 0) => some (0, [])
  | .lst n xs => if xs.length = n * esz then some (n, xs) else none
  | .own _ n xs _ => if xs.length = n * esz then some (n, xs) else none
  | .slice id o n _ => match σ.heap id with
    | .cells c _ _ _ => if o + n * esz ≤ c.length then some (n, (c.drop o).take (n * esz)) else none
    | _ => none
  | _ => none
/-- .. appended to, as a list. -/
def vapp (esz bytes : Nat) (s x : VV) (σ : VSt) : Option (VV × VSt) := (vcont σ esz x).bind fun p =>
  if p.1 = 0 then (match s with
    | .v (.slice none 0 0) => some (s, σ)
    | .own z n xs t => some (.own z n xs t, σ)
    | _ => none)
  else if vAll p.2 && decide (0 < esz) && decide (0 < bytes) then match s with
    | .v (.slice none 0 0) => if p.1 * bytes ≤ reach then some (.own esz p.1 (p.2.map VV.fg) σ.next, σ.newTok) else none
    | .own z n xs t => if σ.live t = true ∧ z = esz ∧ (n + p.1) * bytes ≤ reach then some (.own esz (n + p.1) (xs ++ p.2.map VV.fg) σ.next, σ.useTok t) else none
    | _ => none
  else none
/-- .. appended to, as a row. -/
def vappS (e : TypeId) (esz bytes : Nat) (s x : VV) (σ : VSt) : Option (VV × VSt) := (vcont σ esz x).bind fun p =>
  if p.1 = 0 then (match s with
    | .v (.slice none 0 0) => some (s, σ)
    | .slice id o n c => some (.slice id o n c, σ)
    | _ => none)
  else if vAll p.2 && decide (0 < esz) && decide (0 < bytes) then match s with
    | .v (.slice none 0 0) => if p.1 * bytes ≤ reach then some (.slice σ.next 0 p.1 p.1, σ.box p.2 e esz) else none
    | .slice id o n c => match σ.heap id with
      | .cells cc t z b => if z = esz ∧ n = c ∧ o + n * esz = cc.length then
          (if (n + p.1) * bytes ≤ reach then some (.slice σ.next 0 (n + p.1) (n + p.1), (σ.kill id b).alloc (.cells (cc.drop o ++ p.2) e esz b)) else none)
        else if z = esz ∧ n + p.1 ≤ c ∧ o + (n + p.1) * esz ≤ cc.length then some (.slice id o (n + p.1) c, σ.write id (vsplice cc (o + n * esz) p.2) t z b) else none
      | _ => none
    | _ => none
  else none
def vcopy (esz : Nat) (d s : VV) (σ : VSt) : Option (VV × VSt) := match d with
  | .slice id o n _ => (vcont σ esz s).bind fun p => if min p.1 n = 0 then some (.v (.int .i64 0), σ) else match σ.heap id with
    | .cells cc t z b => if o + min p.1 n * esz ≤ cc.length ∧ vAll p.2 = true then some (.v (.int .i64 (min p.1 n : Nat)), σ.write id (vsplice cc o (p.2.take (min p.1 n * esz))) t z b) else none
    | _ => none
  | _ => none
def vclr (esz : Nat) (z : List Value) (x : VV) (σ : VSt) : Option (VV × VSt) := match x with
  | .v (.slice none 0 0) => some (.tup [], σ)
  | .slice id o n _ => if n = 0 then some (.tup [], σ) else match σ.heap id with
    | .cells cc t zz b => if z.length = esz ∧ o + n * esz ≤ cc.length ∧ flatL z = true then some (.tup [], σ.write id (vsplice cc o ((rep n z).map .v)) t zz b) else none
    | _ => none
  | _ => none
def vmk (e : TypeId) (esz bytes : Nat) (z : List Value) (l c : VV) (σ : VSt) : Option (VV × VSt) := match l, c with
  | .v (.int _ l), .v (.int _ c) => if 0 ≤ l ∧ l ≤ c ∧ bytes * c.toNat ≤ reach ∧ 0 < bytes ∧ z.length = esz ∧ flatL z = true then some (.slice σ.next 0 l.toNat c.toNat, σ.box ((rep c.toNat z).map .v) e esz) else none
  | _, _ => none

/-- an operation that is neither a call nor makes a list. -/
def vop (o : XOp) (ρ : Operand → VV) (σ : VSt) : Option (VV × VSt) :=
  match o with
  | .mv x => some (ρ x, σ)
  | .pick c a b => (vpick (ρ c) (ρ a) (ρ b)).map fun v => (v, σ)
  | .box t x => if vAll (ρ x).cs then some (.ptr σ.next 0, σ.box (ρ x).cs t (ρ x).cs.length) else none
  | .zero t z => if flatL z.cells.toList then some (.ptr σ.next 0, σ.box (z.cells.toList.map .v) t z.cells.toList.length) else none
  | .load agg sz x => (vld σ agg sz (ρ x)).map fun v => (v, σ)
  | .store sz a x => (vst σ sz (ρ a) (ρ x)).map fun σ' => (.tup [], σ')
  | .nilck x => (vnilck (ρ x)).map fun v => (v, σ)
  | .bin op x y => (vbin op (ρ x) (ρ y)).map fun v => (v, σ)
  | .eqb neg x y => (veqb neg (ρ x) (ρ y)).map fun v => (v, σ)
  | .eqf ks neg x y => (veqf ks neg (ρ x) (ρ y)).map fun v => (v, σ)
  | .eqp neg x y => (veqp neg (ρ x) (ρ y)).map fun v => (v, σ)
  | .eqs neg x y => (veqs neg (ρ x) (ρ y)).map fun v => (v, σ)
  | .un op x => (vun op (ρ x)).map fun v => (v, σ)
  | .cvi k x => (vcvi k (ρ x)).map fun v => (v, σ)
  | .cvs x => (vcvs (ρ x)).map fun v => (v, σ)
  | .mkIface t x => some (.iface t (ρ x), σ)
  | .mkFunc f a b => some (.fn f (a.toList.map ρ) (b.toList.map ρ), σ)
  | .mkSlice e esz bytes z l c => vmk e esz bytes z (ρ l) (ρ c) σ
  | .sl esz x lo hi => (vsl σ esz (ρ x) (lo.map ρ) (hi.map ρ)).map fun v => (v, σ)
  | .slStr x lo hi => (vslStr (ρ x) (lo.map ρ) (hi.map ρ)).map fun v => (v, σ)
  | .fa off x => (vadd (ρ x) off).map fun v => (v, σ)
  | .fld agg sz off x => (vfld agg sz off (ρ x)).map fun v => (v, σ)
  | .ia esz x i => (via esz (ρ x) (ρ i)).map fun v => (v, σ)
  | .iaArr n esz x i => (viaArr n esz (ρ x) (ρ i)).map fun v => (v, σ)
  | .idx n agg esz x i => (vidx n agg esz (ρ x) (ρ i)).map fun v => (v, σ)
  | .idxStr x i => (vidxStr (ρ x) (ρ i)).map fun v => (v, σ)
  | .ext x i => (vext (ρ x) i).map fun v => (v, σ)
  | .build z parts => (vfill (z.map .v) (parts.map fun p => (p.1, p.2.1, ρ p.2.2))).map fun l => (.agg l, σ)
  | .len x => (vlenv (ρ x)).map fun v => (v, σ)
  | .lenStr x => (vlenStr (ρ x)).map fun v => (v, σ)
  | .copy esz d s => vcopy esz (ρ d) (ρ s) σ
  | .clr esz z x => vclr esz z (ρ x) σ
  | .minmax mx x l => (vmm mx (ρ x) (l.map ρ)).map fun v => (v, σ)
  | _ => none
/-- a list that is written down. -/
def vbs (e : TypeId) (esz n : Nat) (z : List Value) (parts : List (Nat × Nat × VV)) (σ : VSt) : Option (VV × VSt) := if z.length = esz then (vfill ((rep n z).map .v) parts).bind fun l => if vAll l then some (.own esz n (l.map VV.fg) σ.next, σ.newTok) else none else none
def vbsS (e : TypeId) (esz n : Nat) (z : List Value) (parts : List (Nat × Nat × VV)) (σ : VSt) : Option (VV × VSt) := if z.length = esz then (vfill ((rep n z).map .v) parts).bind fun l => if vAll l then some (.slice σ.next 0 n n, σ.box l e esz) else none else none

section
variable {G : Nat → Prop} {S : St}

theorem VRel.toV {v : Value} (h : flatV v = true) : VRel G S (toV v) v := by
  unfold flatV at h
  split at h
  · rename_i a
    have := VRelL.flat (G := G) (S := S) h
    exact .agg _ _ (by simp) (fun i h1 h2 => by
      have := this.2 i h1 (by simpa using h2)
      rw [Array.getElem_toList] at this
      exact this)
  · rename_i a
    have := VRelL.flat (G := G) (S := S) h
    exact .tup _ _ (by simp) (fun i h1 h2 => by
      have := this.2 i h1 (by simpa using h2)
      rw [Array.getElem_toList] at this
      exact this)
  · rename_i n1 n2
    unfold Go.Proofs.Ytmbbebfpjclghaa.toV
    split
    · exact (n1 _ rfl).elim
    · exact (n2 _ rfl).elim
    · exact .v _ h
theorem VRel.cells {x : VV} {x' : Value} (h : VRel G S x x') : VRelL G S x.cs x'.cells.toList := by
  have one : ∀ {x : VV} {x' : Value}, VRel G S x x' → VRelL G S [x] [x'] := fun h => .cons h .nil
  cases h with
  | v x h => cases x' <;> first | (simp [flat1] at h; done) | exact one (.v _ h)
  | agg xs a hs h => exact ⟨by simp [VV.cs, Value.cells, hs], fun i h1 h2 => h i h1 h2⟩
  | ptr id o => exact one (.ptr _ _)
  | lstNil => exact one .lstNil
  | lst z id o n c cc t xs hG hl hn hx hb h => exact one (.lst z id o n c cc t xs hG hl hn hx hb h)
  | own z id n cc t xs hG hl hx hb h => exact one (.own z id n cc t xs hG hl hx hb h)
  | slice id o n c => exact one (.slice _ _ _ _)
  | ep z id o b cc t xs hG hl hb h => exact one (.ep z id o b cc t xs hG hl hb h)
  | tup xs a hs h => exact one (.tup xs a hs h)
  | fn f a b a' b' ha hb h1 h2 => exact one (.fn f a b a' b' ha hb h1 h2)
  | yield id => exact one (.yield _)
  | map id => exact one (.map _)
  | iface t x x' h => exact one (.iface t x x' h)
theorem VRel.one1 {x : VV} {x' : Value} (h : VRel G S x x') : x.one1 = x'.oneCell' := by
  cases h with
  | v x h => rw [flat1_one h]; rfl
  | _ => rfl
theorem VRelL.all {x : List VV} {x' : List Value} (h : VRelL G S x x') : vAll x = allOne x' := by
  obtain ⟨h1, h2⟩ := h
  rw [Bool.eq_iff_iff]
  simp only [vAll, allOne, List.all_eq_true]
  constructor
  · intro k v hv
    obtain ⟨i, hi, rfl⟩ := List.getElem_of_mem hv
    rw [← (h2 i (by omega) hi).one1]
    exact k _ (List.getElem_mem _)
  · intro k v hv
    obtain ⟨i, hi, rfl⟩ := List.getElem_of_mem hv
    rw [(h2 i hi (by omega)).one1]
    exact k _ (List.getElem_mem _)
theorem VRelL.vpart {agg : Bool} {l : List VV} {l' : List Value} (h : VRelL G S l l') {x : VV} (hx : vpart agg l = some x) : ∃ x', part1 agg l' = some x' ∧ VRel G S x x' := by
  unfold Go.Proofs.Ytmbbebfpjclghaa.vpart at hx
  unfold part1
  split at hx
  · obtain rfl := Option.some.inj hx
    rename_i e
    rw [if_pos e]
    exact ⟨_, rfl, .agg _ _ (by simp [h.1]) (fun i h1 h2 => by simpa using h.2 i h1 (by simpa using h2))⟩
  · rename_i e
    rw [if_neg e]
    split at hx
    · obtain rfl := Option.some.inj hx
      obtain ⟨h1, h2⟩ := h
      match l', h1, h2 with
      | [y], _, h2 => exact ⟨y, rfl, h2 0 (by simp) (by simp)⟩
    · cases hx
theorem VRelL.vsplice {l r : List VV} {l' r' : List Value} (h : VRelL G S l l') (k : VRelL G S r r') (o : Nat) : VRelL G S (vsplice l o r) (splice l' o r') := by
  unfold Go.Proofs.Ytmbbebfpjclghaa.vsplice splice
  rw [k.1]
  exact ((h.take o).append k).append (h.drop _)
theorem VRelL.vfill : ∀ {ps : List (Nat × Nat × VV)} {ps' : List (Nat × Nat × Value)} {l : List VV} {l' : List Value}, VRelL G S l l' → ps.length = ps'.length → (∀ i (h1 : i < ps.length) (h2 : i < ps'.length), ps[i].1 = ps'[i].1 ∧ ps[i].2.1 = ps'[i].2.1 ∧ VRel G S ps[i].2.2 ps'[i].2.2) →
    ∀ {r : List VV}, vfill l ps = some r → ∃ r', fillL l' ps' = some r' ∧ VRelL G S r r' := by
  intro ps
  induction ps with
  | nil =>
    intro ps' l l' h hlen hp r hr
    obtain rfl : ps' = [] := List.eq_nil_of_length_eq_zero (by simpa using hlen.symm)
    obtain rfl := Option.some.inj hr
    exact ⟨l', rfl, h⟩
  | cons p ps ih =>
    intro ps' l l' h hlen hp r hr
    match ps' with
    | [] => simp at hlen
    | q :: ps' =>
      obtain ⟨o, s, v⟩ := p
      obtain ⟨o', s', v'⟩ := q
      obtain ⟨e1, e2, e3⟩ := hp 0 (by simp) (by simp)
      simp only [List.getElem_cons_zero] at e1 e2 e3
      subst e1 e2
      simp only [Go.Proofs.Ytmbbebfpjclghaa.vfill] at hr
      split at hr
      case isFalse => cases hr
      rename_i hc
      have hcs := e3.cells
      simp only [fillL]
      rw [if_pos ⟨by have := hcs.1; simp at this; omega, by rw [← h.1]; exact hc.2⟩]
      exact ih (h.vsplice hcs o) (by simpa using hlen) (fun i h1 h2 => hp (i + 1) (by simpa using h1) (by simpa using h2)) hr
theorem vbound_rel {x : Option VV} {x' : Option Value} (h : ∀ u, x = some u → ∃ u', x' = some u' ∧ VRel G S u u') (hn : x = none → x' = none) {d k : Nat} (hb : vbound x d = some k) : bound x' d = some k := by
  cases x with
  | none => rw [hn rfl]; exact hb
  | some u =>
    obtain ⟨u', e, hr⟩ := h u rfl
    subst e
    unfold vbound at hb
    split at hb
    · rename_i e; cases e
    · rename_i e
      obtain rfl := Option.some.inj e
      cases hr
      exact hb
    · cases hb
theorem vvals_rel : ∀ {l : List VV} {l' : List Value} {r : List Value}, VRelL G S l l' → vvals l = some r → l' = r := by
  intro l
  induction l with
  | nil =>
    intro l' r h hr
    obtain rfl := Option.some.inj hr
    exact List.eq_nil_of_length_eq_zero h.1.symm
  | cons x l ih =>
    intro l' r h hr
    match l', h with
    | y :: l', h =>
      have hy := h.2 0 (by simp) (by simp)
      have ht : VRelL G S l l' := ⟨by simpa using h.1, fun i h1 h2 => h.2 (i + 1) (by simpa using h1) (by simpa using h2)⟩
      unfold vvals at hr
      split at hr
      · rename_i e; cases e
      · rename_i e
        obtain ⟨rfl, rfl⟩ := List.cons.inj e
        simp only [Option.map_eq_some_iff] at hr
        obtain ⟨r0, h1, rfl⟩ := hr
        simp only [List.getElem_cons_zero] at hy
        cases hy
        rw [ih ht h1]
      · cases hr
end
end Go.Proofs.Ytmbbebfpjclghaa

set_option linter.unusedVariables false
set_option linter.unusedSectionVars false
set_option linter.unusedSimpArgs false
namespace Go.Proofs.Ytmbbebfpjclghaa
open Go Go.RowKit

theorem look_cells {b : Blk} {cc : List Value} {t : TypeId} {z : Nat} (h : b.look = some (cc, t, z)) : ∃ m an, b = .cells cc t z m an := by
  cases b with
  | gone => cases h
  | obj o => cases h
  | cells c t' z' m an =>
    simp only [Blk.look, Option.some.injEq, Prod.mk.injEq] at h
    obtain ⟨rfl, rfl, rfl⟩ := h
    exact ⟨m, an, rfl⟩
theorem list_part {α : Type} (cc : List α) (b o L sz : Nat) (h : o + sz ≤ L) : (((cc.drop b).take L).drop o).take sz = (cc.drop (b + o)).take sz := by
  rw [List.drop_take, List.take_take, List.drop_drop, Nat.min_eq_left (by omega)]

section
variable {σ : VSt} {S : St} (hs : VSim σ S)
include hs

theorem VSim.cells {id : Nat} {c : List VV} {t : TypeId} {z b : Nat} (hg : σ.heap id = .cells c t z b) : ∃ c' an, S.get id = .cells c' t z true an ∧ VRelL σ.G S c c' := by
  have := hs.blk id
  rw [hg] at this
  obtain ⟨_, _, c', an, h1, h2, _⟩ := this
  exact ⟨c', an, h1, h2⟩

theorem vld_sound {agg : Bool} {sz : Nat} {x : VV} {x' : Value} (hx : VRel σ.G S x x') {v : VV} (h : vld σ agg sz x = some v) : ∃ id o c v', x' = .pointer (some ⟨id, o, none⟩) ∧ S.rd id o sz = some c ∧ part1 agg c = some v' ∧ VRel σ.G S v v' := by
  unfold vld at h
  split at h
  · rename_i id o
    split at h
    case h_2 => cases h
    rename_i c t z b hg
    split at h
    case isFalse => cases h
    rename_i hle
    obtain ⟨c', an, h1, h2⟩ := hs.cells hg
    cases hx
    obtain ⟨v', k1, k2⟩ := ((h2.drop o).take sz).vpart h
    refine ⟨id, o, _, v', rfl, ?_, k1, k2⟩
    simp only [St.rd, h1]
    rw [if_pos (by rw [← h2.1]; exact hle)]
  · rename_i xs o
    split at h
    case isFalse => cases h
    rename_i hle
    cases hx with
    | ep z id _ b cc t _ hG hl hb hx =>
      obtain ⟨m, an, hg⟩ := look_cells hl
      obtain ⟨v', k1, k2⟩ := (((VRelL.part hb hx).drop o).take sz).vpart h
      rw [list_part _ _ _ _ _ hle] at k1
      refine ⟨id, b + o, _, v', rfl, ?_, k1, k2⟩
      simp only [St.rd, hg]
      rw [if_pos (by omega)]
  · cases h

theorem vst_sound {sz : Nat} {p x : VV} {p' x' : Value} (hp : VRel σ.G S p p') (hx : VRel σ.G S x x') {σ' : VSt} (h : vst σ sz p x = some σ') :
    ∃ id o c t z an, p' = .pointer (some ⟨id, o, none⟩) ∧ S.get id = .cells c t z true an ∧ x'.cells.size = sz ∧ o + sz ≤ c.length ∧ allOne x'.cells.toList = true ∧ VSim σ' (S.write id (splice c o x'.cells.toList) t z an) ∧ VStep σ S σ' (S.write id (splice c o x'.cells.toList) t z an) := by
  unfold vst at h
  split at h
  case h_2 => cases h
  rename_i id o
  split at h
  case h_2 => cases h
  rename_i c t z b hg
  split at h
  case isFalse => cases h
  rename_i hc
  obtain rfl := Option.some.inj h
  cases hp
  obtain ⟨c', an, h1, h2, h3⟩ := hs.writeC hg
  have hcs := hx.cells
  have := h3 _ _ (h2.vsplice hcs o)
  refine ⟨id, o, c', t, z, an, rfl, h1, by have := hcs.1; simp at this; omega, by rw [← h2.1]; exact hc.2.1, by rw [← hcs.all]; exact hc.2.2, this.1, this.2⟩

theorem vcont_sound {esz : Nat} {x : VV} {x' : Value} (hx : VRel σ.G S x x') {n : Nat} {ys : List VV} (h : vcont σ esz x = some (n, ys)) : vlen x' = some n ∧ ∃ ys', S.elems esz x' = some ys' ∧ VRelL σ.G S ys ys' ∧ ys.length = n * esz := by
  unfold vcont at h
  split at h
  · obtain ⟨rfl, rfl⟩ := Prod.mk.inj (Option.some.inj h)
    cases hx
    exact ⟨rfl, [], rfl, .nil, by simp⟩
  · split at h
    case isFalse => cases h
    rename_i n' xs hl
    obtain ⟨rfl, rfl⟩ := Prod.mk.inj (Option.some.inj h)
    cases hx with
    | lstNil => exact ⟨rfl, [], rfl, .nil, by simp⟩
    | lst z id o _ c cc t _ hG hlk hn hx hb hh =>
      obtain ⟨m, an, hg⟩ := look_cells hlk
      refine ⟨rfl, (cc.drop o).take xs.length, ?_, VRelL.part hb hh, hl⟩
      simp only [St.elems, St.rd, hg]
      rw [hl, if_pos (by omega)]
  · split at h
    case isFalse => cases h
    rename_i n' xs t' hl
    obtain ⟨rfl, rfl⟩ := Prod.mk.inj (Option.some.inj h)
    cases hx with
    | own z id _ cc t _ hG hlk hx hb hh =>
      obtain ⟨m, an, hg⟩ := look_cells hlk
      refine ⟨rfl, cc, ?_, ⟨hb, hh⟩, hl⟩
      simp only [St.elems, St.rd, hg]
      rw [if_pos (by omega), List.drop_zero, List.take_of_length_le (by omega)]
  · rename_i id o n' c'
    split at h
    case h_2 => cases h
    rename_i c t z b hg
    split at h
    case isFalse => cases h
    rename_i hle
    obtain ⟨rfl, rfl⟩ := Prod.mk.inj (Option.some.inj h)
    cases hx
    obtain ⟨c', an, h1, h2⟩ := hs.cells hg
    refine ⟨rfl, (c'.drop o).take (n' * esz), ?_, (h2.drop o).take _, by simp; omega⟩
    simp only [St.elems, St.rd, h1]
    rw [if_pos (by rw [← h2.1]; exact hle)]
  · cases h

theorem vsl_sound {esz : Nat} {x : VV} {x' : Value} (hx : VRel σ.G S x x') {lo hi : Option VV} {lo' hi' : Option Value} (hlo : ∀ d k, vbound lo d = some k → bound lo' d = some k) (hhi : ∀ d k, vbound hi d = some k → bound hi' d = some k) {v : VV} (h : vsl σ esz x lo hi = some v) :
    ∃ a n c l hh v', x' = .slice a n c ∧ bound lo' 0 = some l ∧ bound hi' n = some hh ∧ l ≤ hh ∧ hh ≤ c ∧ slRes S esz l hh c a = some (v', S) ∧ VRel σ.G S v v' := by
  have lst : ∀ {n l hh : Nat} {xs : List VV}, VRel σ.G S (.lst n xs) x' → l ≤ hh → hh ≤ n → xs.length = n * esz → bound lo' 0 = some l → bound hi' n = some hh →
      ∃ a n' c l' hh' v', x' = .slice a n' c ∧ bound lo' 0 = some l' ∧ bound hi' n' = some hh' ∧ l' ≤ hh' ∧ hh' ≤ c ∧ slRes S esz l' hh' c a = some (v', S) ∧ VRel σ.G S (.lst (hh - l) ((xs.drop (l * esz)).take ((hh - l) * esz))) v' := by
    intro n l hh xs hx h1 h2 h3 hl hh'
    cases hx with
    | lstNil =>
      obtain rfl : hh = 0 := by omega
      obtain rfl : l = 0 := by omega
      exact ⟨none, 0, 0, 0, 0, .slice none 0 0, rfl, hl, hh', by omega, by omega, by simp [slRes], by simpa using VRel.lstNil⟩
    | lst z id o _ c cc t _ hG hlk hn hxl hb hxx =>
      obtain ⟨m, an, hg⟩ := look_cells hlk
      have hw : S.width id = some z := by unfold St.width; rw [hg]
      have hfit : slFit (S.width id) esz l = true := by
        rw [hw]
        by_cases hl0 : l = 0
        · subst hl0; exact slFit_zero _ _
        · have : z = esz := by
            have : n * z = n * esz := by omega
            exact Nat.eq_of_mul_eq_mul_left (by omega) this
          rw [this]; exact slFit_self _ _
      refine ⟨_, n, c, l, hh, .slice (some ⟨id, o + l * esz, none⟩) (hh - l) (c - l), rfl, hl, hh', h1, by omega, by simp only [slRes, hfit, if_true], ?_⟩
      have hmul : hh * esz ≤ n * esz := Nat.mul_le_mul_right _ h2
      have hmul2 : (hh - l) * esz + l * esz = hh * esz := by rw [← Nat.add_mul]; congr 1; omega
      have hpart : (xs.drop (l * esz)).take ((hh - l) * esz) = ((xs.drop (l * esz)).take ((hh - l) * esz)) := rfl
      have hlen : ((xs.drop (l * esz)).take ((hh - l) * esz)).length = (hh - l) * esz := by simp; omega
      refine .lst z id (o + l * esz) (hh - l) (c - l) cc t _ hG hlk (by omega) ?_ (by rw [hlen]; omega) ?_
      · rw [hlen]
        have e1 : n * z = n * esz := by omega
        by_cases hn0 : n = 0
        · have : hh = 0 := by omega
          have : l = 0 := by omega
          subst l; subst hh; simp
        · have : z = esz := Nat.eq_of_mul_eq_mul_left (by omega) e1
          rw [this]
      · refine VRelL.of_part ?_ (by rw [hlen]; omega)
        have := ((VRelL.part hb hxx).drop (l * esz)).take ((hh - l) * esz)
        rw [list_part _ _ _ _ _ (by omega)] at this
        rw [hlen]
        exact this
  unfold vsl at h
  split at h
  · split at h
    case h_2 => cases h
    rename_i l hh e1 e2
    split at h
    case isFalse => cases h
    rename_i hc
    obtain rfl := Option.some.inj h
    cases hx
    have e1 := hlo _ _ e1
    have e2 := hhi _ _ e2
    exact ⟨none, 0, 0, l, hh, .slice none 0 0, rfl, e1, e2, hc.1, hc.2, by simp [slRes], .v _ rfl⟩
  · split at h
    case h_2 => cases h
    rename_i l hh e1 e2
    split at h
    case isFalse => cases h
    rename_i hc
    obtain rfl := Option.some.inj h
    exact lst hx hc.1 hc.2.1 hc.2.2 (hlo _ _ e1) (hhi _ _ e2)
  · split at h
    case h_2 => cases h
    rename_i z n xs t l hh e1 e2
    split at h
    case isFalse => cases h
    rename_i hc
    obtain rfl := Option.some.inj h
    refine lst ?_ hc.1 hc.2.1 hc.2.2 (hlo _ _ e1) (hhi _ _ e2)
    cases hx with
    | own _ _ _ cc t _ hG hlk hxl hb hx => exact .lst _ _ 0 _ _ cc _ _ hG hlk (Nat.le_refl _) hxl (by rw [Nat.zero_add]; exact Nat.le_of_eq hb) (fun i h1 h2 => by simpa using hx i h1 (by omega))
  · rename_i id o n c
    split at h
    case h_2 => cases h
    rename_i l hh c0 t z b e1 e2 hg
    split at h
    case isFalse => cases h
    rename_i hc
    obtain rfl := Option.some.inj h
    cases hx
    obtain ⟨c', an, h1, h2⟩ := hs.cells hg
    have hw : S.width id = some z := by unfold St.width; rw [h1]
    exact ⟨_, n, c, l, hh, _, rfl, hlo _ _ e1, hhi _ _ e2, hc.1, hc.2.1, by simp only [slRes, hw, hc.2.2, if_true], .slice _ _ _ _⟩
  · cases h

theorem vadd_sound {x : VV} {x' : Value} (hx : VRel σ.G S x x') {off : Nat} {v : VV} (h : vadd x off = some v) : ∃ id o, x' = .pointer (some ⟨id, o, none⟩) ∧ VRel σ.G S v (.pointer (some ⟨id, o + off, none⟩)) := by
  unfold vadd at h
  split at h
  · obtain rfl := Option.some.inj h
    cases hx
    exact ⟨_, _, rfl, .ptr _ _⟩
  · obtain rfl := Option.some.inj h
    cases hx with
    | ep z id _ b cc t _ hG hl hb hx =>
      refine ⟨_, _, rfl, ?_⟩
      rw [Nat.add_assoc]
      exact .ep z id _ b cc t _ hG hl hb hx
  · cases h
theorem via_sound {esz : Nat} {x i : VV} {x' i' : Value} (hx : VRel σ.G S x x') (hi : VRel σ.G S i i') {v : VV} (h : via esz x i = some v) : ∃ id o n c k j, x' = .slice (some ⟨id, o, none⟩) n c ∧ i' = .int k j ∧ 0 ≤ j ∧ j < n ∧ VRel σ.G S v (.pointer (some ⟨id, o + j.toNat * esz, none⟩)) := by
  unfold via at h
  split at h
  · split at h
    case isFalse => cases h
    rename_i hc
    obtain rfl := Option.some.inj h
    cases hx
    cases hi
    exact ⟨_, _, _, _, _, _, rfl, rfl, hc.1, hc.2, .ptr _ _⟩
  · split at h
    case isFalse => cases h
    rename_i hc
    obtain rfl := Option.some.inj h
    cases hi
    cases hx with
    | lstNil => omega
    | lst z id o _ c cc t _ hG hlk hn hxl hb hx => exact ⟨_, _, _, _, _, _, rfl, rfl, hc.1, hc.2.1, .ep z id _ o cc t _ hG hlk hb hx⟩
  · split at h
    case isFalse => cases h
    rename_i hc
    obtain rfl := Option.some.inj h
    cases hi
    cases hx with
    | own z id _ cc t _ hG hlk hxl hb hx =>
      exact ⟨_, _, _, _, _, _, rfl, rfl, hc.1, hc.2.1, .ep _ _ _ 0 cc t _ hG hlk (by rw [Nat.zero_add]; exact Nat.le_of_eq hb) (fun i h1 h2 => by simpa using hx i h1 (by omega))⟩
  · cases h

/-- .. appended to, as a list. -/
theorem vapp_sound {e : TypeId} {esz bytes : Nat} {s x : VV} {s' x' : Value} (hsv : VRel σ.G S s s') (hx : VRel σ.G S x x') {v : VV} {σ' : VSt} (h : vapp esz bytes s x σ = some (v, σ')) :
    ∃ v' S', xappend e esz bytes s' x' S = some (v', S') ∧ VSim σ' S' ∧ VStep σ S σ' S' ∧ VRel σ'.G S' v v' ∧ ExtL S S' := by
  unfold vapp at h
  simp only [Option.bind_eq_some_iff] at h
  obtain ⟨⟨m, ys⟩, hc, h⟩ := h
  obtain ⟨c1, ys', c2, c3, c4⟩ := vcont_sound hs hx hc
  unfold xappend
  rw [c1, c2]
  simp only at h ⊢
  split at h
  · rename_i hm
    rw [if_pos hm]
    split at h
    · obtain ⟨rfl, rfl⟩ := Prod.mk.inj (Option.some.inj h)
      cases hsv with
      | v _ hf => exact ⟨_, _, rfl, hs, .refl _ _, .v _ hf, ExtL.refl _⟩
    · obtain ⟨rfl, rfl⟩ := Prod.mk.inj (Option.some.inj h)
      cases hsv with
      | own _ _ _ cc t _ hG hlk hxl hb hx => exact ⟨_, _, rfl, hs, .refl _ _, .own _ _ _ cc t _ hG hlk hxl hb hx, ExtL.refl _⟩
    · cases h
  · rename_i hm
    rw [if_neg hm]
    split at h
    case isFalse => cases h
    rename_i hall
    have hall' : (allOne ys' && decide (0 < esz) && decide (0 < bytes)) = true := by rw [← c3.all]; exact hall
    rw [if_pos hall']
    split at h
    · split at h
      case isFalse => cases h
      rename_i hr
      obtain ⟨rfl, rfl⟩ := Prod.mk.inj (Option.some.inj h)
      cases hsv
      simp only
      rw [if_pos hr]
      obtain ⟨k1, k2, k3⟩ := hs.newTok ys' e esz
      refine ⟨_, _, rfl, k1, k2, ?_, (Ext.alloc _ _).toL⟩
      rw [← hs.next]
      refine .own esz σ.next m ys' e _ k3 (by rw [St.get_alloc, if_pos hs.next]; rfl) (by simpa using c4) (by simpa using c3.1) (fun i h1 h2 => ?_)
      have := ((c3.mono k2.rel).fg).2 i h1 h2
      exact this
    · rename_i z n xs t
      split at h
      case isFalse => cases h
      rename_i hcc
      obtain ⟨rfl, rfl⟩ := Prod.mk.inj (Option.some.inj h)
      obtain ⟨hlive, rfl, hreach⟩ := hcc
      cases hsv with
      | own _ _ _ cc tt _ hG hlk hxl hb hx =>
        have hbk := hs.blk t
        rw [hG.2, hlive] at hbk
        obtain ⟨cc0, t0, z0, an, hk⟩ := hbk rfl
        rw [hk] at hlk
        simp only [Blk.look, Option.some.injEq, Prod.mk.injEq] at hlk
        obtain ⟨rfl, rfl, rfl⟩ := hlk
        simp only [hk]
        rw [if_pos ⟨trivial, trivial, by omega⟩, if_pos hreach]
        obtain ⟨k1, k2, k3⟩ := hs.useTok hlive hk (cc0.drop 0 ++ ys') e
        refine ⟨_, _, rfl, k1, k2, ?_, ExtL.grow hk _ _⟩
        rw [← hs.next]
        refine .own z0 σ.next (n + m) (cc0.drop 0 ++ ys') e _ k3 ?_ ?_ ?_ ?_
        · unfold St.grow
          rw [St.get_alloc, St.next_put, if_pos hs.next]; rfl
        · rw [List.length_append, List.length_map, hxl, c4, Nat.add_mul]
        · simp [hb, c3.1]
        · intro i h1 h2
          have h0 : VRelL σ.G S (xs ++ ys) (cc0.drop 0 ++ ys') := by
            rw [List.drop_zero]
            exact VRelL.append ⟨hb, hx⟩ c3
          have h0' := h0.mono k2.rel
          have ha : VRelL (σ.useTok t).G (S.grow t cc0 t0 z0 an (cc0.drop 0 ++ ys') e) (xs ++ ys.map VV.fg) (cc0.drop 0 ++ ys') := by
            rw [List.drop_zero] at h0' ⊢
            exact VRelL.append (VRelL.mono k2.rel ⟨hb, hx⟩) (c3.mono k2.rel).fg
          exact ha.2 i h1 h2
    · cases h
/-- .. as a row. -/
theorem vappS_sound {e : TypeId} {esz bytes : Nat} {s x : VV} {s' x' : Value} (hsv : VRel σ.G S s s') (hx : VRel σ.G S x x') {v : VV} {σ' : VSt} (h : vappS e esz bytes s x σ = some (v, σ')) :
    ∃ v' S', xappend e esz bytes s' x' S = some (v', S') ∧ VSim σ' S' ∧ VStep σ S σ' S' ∧ VRel σ'.G S' v v' := by
  unfold vappS at h
  simp only [Option.bind_eq_some_iff] at h
  obtain ⟨⟨m, ys⟩, hc, h⟩ := h
  obtain ⟨c1, ys', c2, c3, c4⟩ := vcont_sound hs hx hc
  unfold xappend
  rw [c1, c2]
  simp only at h ⊢
  split at h
  · rename_i hm
    rw [if_pos hm]
    split at h
    · obtain ⟨rfl, rfl⟩ := Prod.mk.inj (Option.some.inj h)
      cases hsv with
      | v _ hf => exact ⟨_, _, rfl, hs, .refl _ _, .v _ hf⟩
    · obtain ⟨rfl, rfl⟩ := Prod.mk.inj (Option.some.inj h)
      cases hsv
      exact ⟨_, _, rfl, hs, .refl _ _, .slice _ _ _ _⟩
    · cases h
  · rename_i hm
    rw [if_neg hm]
    split at h
    case isFalse => cases h
    rename_i hall
    have hall' : (allOne ys' && decide (0 < esz) && decide (0 < bytes)) = true := by rw [← c3.all]; exact hall
    rw [if_pos hall']
    split at h
    · split at h
      case isFalse => cases h
      rename_i hr
      obtain ⟨rfl, rfl⟩ := Prod.mk.inj (Option.some.inj h)
      cases hsv
      simp only
      rw [if_pos hr]
      obtain ⟨k1, k2⟩ := hs.allocC c3 e esz
      refine ⟨_, _, rfl, k1, k2, ?_⟩
      rw [← hs.next]
      exact .slice _ _ _ _
    · rename_i id o n c
      split at h
      case h_2 => cases h
      rename_i cc t z b hg
      cases hsv
      split at h
      · rename_i hcc
        split at h
        case isFalse => cases h
        rename_i hr
        obtain ⟨rfl, rfl⟩ := Prod.mk.inj (Option.some.inj h)
        obtain ⟨c0', an, k1, k2, k3⟩ := hs.growS hg
        obtain ⟨k4, k5⟩ := k3 (cc.drop o ++ ys) (c0'.drop o ++ ys') e ((k2.drop o).append c3)
        simp only [k1]
        rw [if_pos ⟨hcc.1, hcc.2.1, by rw [← k2.1]; exact hcc.2.2⟩, if_pos hr]
        obtain rfl := hcc.1
        refine ⟨_, _, rfl, k4, k5, ?_⟩
        rw [← hs.next]
        exact .slice _ _ _ _
      · rename_i hcc
        split at h
        case isFalse => cases h
        rename_i hc2
        obtain ⟨rfl, rfl⟩ := Prod.mk.inj (Option.some.inj h)
        obtain ⟨c0', an, k1, k2, k3⟩ := hs.writeC hg
        obtain ⟨k4, k5⟩ := k3 _ _ (k2.vsplice c3 (o + n * esz))
        simp only [k1]
        rw [if_neg (by rw [← k2.1]; exact hcc), if_pos ⟨hc2.1, hc2.2.1, by rw [← k2.1]; exact hc2.2.2⟩]
        exact ⟨_, _, rfl, k4, k5, .slice _ _ _ _⟩
    · cases h
end
end Go.Proofs.Ytmbbebfpjclghaa

set_option linter.unusedVariables false
set_option linter.unusedSectionVars false
set_option linter.unusedSimpArgs false
namespace Go.Proofs.Ytmbbebfpjclghaa
open Go Go.RowKit

theorem xminmax_flat {mx : Bool} {k : IntKind} {r : Value} : ∀ {l : List Value} {a : Int}, xminmax mx a k l = some r → flat1 r = true := by
  intro l
  induction l with
  | nil => intro a h; obtain rfl := Option.some.inj h; rfl
  | cons b l ih =>
    intro a h
    cases b with
    | int j b =>
      simp only [xminmax] at h
      split at h
      · exact ih h
      · cases h
    | _ => simp [xminmax] at h

section
variable {σ : VSt} {S : St} (hs : VSim σ S)
include hs

theorem vcopy_sound {esz : Nat} {d x : VV} {d' x' : Value} (hd : VRel σ.G S d d') (hx : VRel σ.G S x x') {v : VV} {σ' : VSt} (h : vcopy esz d x σ = some (v, σ')) :
    ∃ v' S', xcopy esz d' x' S = some (v', S') ∧ VSim σ' S' ∧ VStep σ S σ' S' ∧ VRel σ'.G S' v v' := by
  unfold vcopy at h
  split at h
  case h_2 => cases h
  rename_i id o n c
  simp only [Option.bind_eq_some_iff] at h
  obtain ⟨⟨m, ys⟩, hc, h⟩ := h
  obtain ⟨c1, ys', c2, c3, c4⟩ := vcont_sound hs hx hc
  cases hd
  unfold xcopy
  rw [c1, c2]
  simp only at h ⊢
  split at h
  · rename_i h0
    obtain ⟨rfl, rfl⟩ := Prod.mk.inj (Option.some.inj h)
    rw [if_pos h0]
    exact ⟨_, _, rfl, hs, .refl _ _, .v _ rfl⟩
  · rename_i h0
    rw [if_neg h0]
    split at h
    case h_2 => cases h
    rename_i cc t z b hg
    split at h
    case isFalse => cases h
    rename_i hcc
    obtain ⟨rfl, rfl⟩ := Prod.mk.inj (Option.some.inj h)
    obtain ⟨c0', an, k1, k2, k3⟩ := hs.writeC hg
    obtain ⟨k4, k5⟩ := k3 _ _ (k2.vsplice (c3.take (min m n * esz)) o)
    simp only [k1]
    rw [if_pos ⟨by rw [← k2.1]; exact hcc.1, by rw [← c3.all]; exact hcc.2⟩]
    exact ⟨_, _, rfl, k4, k5, .v _ rfl⟩
theorem vclr_sound {esz : Nat} {z : List Value} {x : VV} {x' : Value} (hx : VRel σ.G S x x') {v : VV} {σ' : VSt} (h : vclr esz z x σ = some (v, σ')) :
    ∃ v' S', xclr esz z x' S = some (v', S') ∧ VSim σ' S' ∧ VStep σ S σ' S' ∧ VRel σ'.G S' v v' := by
  have hu : ∀ {G : Nat → Prop} {S : St}, VRel G S (.tup []) (.tuple #[]) := .tup _ _ rfl (fun i h => by simp at h)
  unfold vclr at h
  split at h
  case h_3 => cases h
  · obtain ⟨rfl, rfl⟩ := Prod.mk.inj (Option.some.inj h)
    cases hx
    exact ⟨_, _, rfl, hs, .refl _ _, hu⟩
  · rename_i id o n c
    cases hx
    simp only [xclr]
    split at h
    · rename_i h0
      obtain ⟨rfl, rfl⟩ := Prod.mk.inj (Option.some.inj h)
      rw [if_pos h0]
      exact ⟨_, _, rfl, hs, .refl _ _, hu⟩
    · rename_i h0
      rw [if_neg h0]
      split at h
      case h_2 => cases h
      rename_i cc t zz b hg
      split at h
      case isFalse => cases h
      rename_i hcc
      obtain ⟨rfl, rfl⟩ := Prod.mk.inj (Option.some.inj h)
      obtain ⟨c0', an, k1, k2, k3⟩ := hs.writeC hg
      obtain ⟨k4, k5⟩ := k3 _ _ (k2.vsplice (VRelL.flat (flatL_rep hcc.2.2 n)) o)
      simp only [k1]
      rw [if_pos ⟨hcc.1, by rw [← k2.1]; exact hcc.2.1, flatL_one hcc.2.2⟩]
      exact ⟨_, _, rfl, k4, k5, hu⟩
theorem vparts_rel {ρ : Operand → VV} {ρ' : Operand → Value} (hρ : ∀ x, okOpd x = true → VRel σ.G S (ρ x) (ρ' x)) {ps : List (Nat × Nat × Operand)} (hp : partsOk ps = true) {l : List VV} {l' : List Value} (hl : VRelL σ.G S l l') {r : List VV} (h : vfill l (ps.map fun p => (p.1, p.2.1, ρ p.2.2)) = some r) :
    ∃ r', fillL l' (ps.map fun p => (p.1, p.2.1, ρ' p.2.2)) = some r' ∧ VRelL σ.G S r r' := by
  refine hl.vfill (by simp) (fun i h1 h2 => ?_) h
  simp only [List.getElem_map, true_and]
  refine hρ _ ?_
  simp only [partsOk, List.all_eq_true] at hp
  exact hp _ (List.getElem_mem _)
theorem vbs_sound {e : TypeId} {esz n : Nat} {z : List Value} (hz : flatL z = true) {ρ : Operand → VV} {ρ' : Operand → Value} (hρ : ∀ x, okOpd x = true → VRel σ.G S (ρ x) (ρ' x)) {ps : List (Nat × Nat × Operand)} (hp : partsOk ps = true) {v : VV} {σ' : VSt}
    (h : vbs e esz n z (ps.map fun p => (p.1, p.2.1, ρ p.2.2)) σ = some (v, σ')) :
    ∃ v' S', xop (.buildSlice e esz n z ps) ρ' S = some (v', S') ∧ VSim σ' S' ∧ VStep σ S σ' S' ∧ VRel σ'.G S' v v' := by
  unfold vbs at h
  split at h
  case isFalse => cases h
  rename_i hze
  simp only [Option.bind_eq_some_iff] at h
  obtain ⟨l, hl, h⟩ := h
  split at h
  case isFalse => cases h
  rename_i hall
  obtain ⟨rfl, rfl⟩ := Prod.mk.inj (Option.some.inj h)
  obtain ⟨r', k1, k2⟩ := vparts_rel hs hρ hp (VRelL.flat (flatL_rep hz n)) hl
  obtain ⟨q1, q2, q3⟩ := hs.newTok r' e esz
  refine ⟨_, _, by simp only [xop]; rw [if_pos hze, k1]; simp only [Option.bind_some]; rw [if_pos (by rw [← k2.all]; exact hall)], q1, q2, ?_⟩
  have hlen : l.length = n * esz := by
    have hl0 : ∀ {ps : List (Nat × Nat × VV)} {l r : List VV}, vfill l ps = some r → r.length = l.length := by
      intro ps
      induction ps with
      | nil => intro l r h; obtain rfl := Option.some.inj h; rfl
      | cons p ps ih =>
        intro l r h
        obtain ⟨o, s, v⟩ := p
        simp only [vfill] at h
        split at h
        case isFalse => cases h
        rename_i hc
        rw [ih h]
        simp only [vsplice, List.length_append, List.length_take, List.length_drop]
        omega
    rw [hl0 hl, List.length_map, rep, List.length_flatten]
    simp [hze]
  rw [← hs.next]
  refine .own esz σ.next n r' e _ q3 (by rw [St.get_alloc, if_pos hs.next]; rfl) (by simpa using hlen) (by simpa using k2.1) (fun i h1 h2 => ?_)
  exact ((k2.mono q2.rel).fg).2 i h1 h2
theorem vbsS_sound {e : TypeId} {esz n : Nat} {z : List Value} (hz : flatL z = true) {ρ : Operand → VV} {ρ' : Operand → Value} (hρ : ∀ x, okOpd x = true → VRel σ.G S (ρ x) (ρ' x)) {ps : List (Nat × Nat × Operand)} (hp : partsOk ps = true) {v : VV} {σ' : VSt}
    (h : vbsS e esz n z (ps.map fun p => (p.1, p.2.1, ρ p.2.2)) σ = some (v, σ')) :
    ∃ v' S', xop (.buildSlice e esz n z ps) ρ' S = some (v', S') ∧ VSim σ' S' ∧ VStep σ S σ' S' ∧ VRel σ'.G S' v v' := by
  unfold vbsS at h
  split at h
  case isFalse => cases h
  rename_i hze
  simp only [Option.bind_eq_some_iff] at h
  obtain ⟨l, hl, h⟩ := h
  split at h
  case isFalse => cases h
  rename_i hall
  obtain ⟨rfl, rfl⟩ := Prod.mk.inj (Option.some.inj h)
  obtain ⟨r', k1, k2⟩ := vparts_rel hs hρ hp (VRelL.flat (flatL_rep hz n)) hl
  obtain ⟨q1, q2⟩ := hs.allocC k2 e esz
  refine ⟨_, _, by simp only [xop]; rw [if_pos hze, k1]; simp only [Option.bind_some]; rw [if_pos (by rw [← k2.all]; exact hall)], q1, q2, ?_⟩
  rw [← hs.next]
  exact .slice _ _ _ _

/-- an operation of the second view is sound. -/
theorem vop_sound {o : XOp} {ρ : Operand → VV} {ρ' : Operand → Value} (hρ : ∀ x, okOpd x = true → VRel σ.G S (ρ x) (ρ' x)) (hok : opdsOk o = true) {v : VV} {σ' : VSt} (h : vop o ρ σ = some (v, σ')) :
    ∃ v' S', xop o ρ' S = some (v', S') ∧ VSim σ' S' ∧ VStep σ S σ' S' ∧ VRel σ'.G S' v v' := by
  have same : ∀ {r : Option VV} {K : Value → Prop}, (r.map fun v => (v, σ)) = some (v, σ') → (∀ u, r = some u → ∃ v', xop o ρ' S = some (v', S) ∧ VRel σ.G S u v') → ∃ v' S', xop o ρ' S = some (v', S') ∧ VSim σ' S' ∧ VStep σ S σ' S' ∧ VRel σ'.G S' v v' := by
    intro r _ h1 h2
    simp only [Option.map_eq_some_iff, Prod.mk.injEq] at h1
    obtain ⟨u, h3, rfl, rfl⟩ := h1
    obtain ⟨v', h4, h5⟩ := h2 _ h3
    exact ⟨v', S, h4, hs, .refl _ _, h5⟩
  have hopt : ∀ {x : Option Operand}, optOk x = true → ∀ d k, vbound (x.map ρ) d = some k → bound (x.map ρ') d = some k := by
    intro x hx d k hb
    refine vbound_rel (G := σ.G) (S := S) (fun u hu => ?_) (fun e => ?_) hb
    · cases x with
      | none => simp at hu
      | some x =>
        simp only [Option.map_some, Option.some.injEq] at hu
        subst hu
        exact ⟨_, rfl, hρ x hx⟩
    · cases x with
      | none => rfl
      | some x => simp at e
  have hlist : ∀ {l : List Operand}, l.all okOpd = true → VRelL σ.G S (l.map ρ) (l.map ρ') := by
    intro l hl
    refine ⟨by simp, fun i h1 h2 => ?_⟩
    simp only [List.getElem_map]
    simp only [List.all_eq_true] at hl
    exact hρ _ (hl _ (List.getElem_mem _))
  cases o <;> simp only [opdsOk, Bool.and_eq_true] at hok <;> simp only [vop] at h
  case mv x => exact same (K := fun _ => True) (r := some (ρ x)) h fun u hu => by cases hu; exact ⟨_, rfl, hρ x hok⟩
  case pick c a b =>
    refine same (K := fun _ => True) h fun u hu => ?_
    unfold vpick at hu
    split at hu
    · rename_i q e
      have hc := hρ c hok.1.1
      rw [e] at hc
      have e2 : ρ' c = .bool q := by
        generalize ρ' c = y at hc
        cases hc; rfl
      obtain rfl := Option.some.inj hu
      refine ⟨if q = true then ρ' a else ρ' b, by simp only [xop, e2], ?_⟩
      cases q
      · exact hρ b hok.2
      · exact hρ a hok.1.2
    · cases hu
  case box t x =>
    split at h
    case isFalse => cases h
    rename_i hall
    obtain ⟨rfl, rfl⟩ := Prod.mk.inj (Option.some.inj h)
    have hc := (hρ x hok).cells
    obtain ⟨q1, q2⟩ := hs.allocC hc t (ρ x).cs.length
    refine ⟨_, _, by simp only [xop]; rw [if_pos (by rw [← hc.all]; exact hall)], ?_, ?_, ?_⟩
    · rw [show (ρ' x).cells.size = (ρ x).cs.length by rw [hc.1]; simp]; exact q1
    · rw [show (ρ' x).cells.size = (ρ x).cs.length by rw [hc.1]; simp]; exact q2
    · rw [← hs.next]; exact .ptr _ _
  case zero t z =>
    rw [if_pos hok] at h
    obtain ⟨rfl, rfl⟩ := Prod.mk.inj (Option.some.inj h)
    obtain ⟨q1, q2⟩ := hs.allocC (VRelL.flat hok) t z.cells.toList.length
    refine ⟨_, _, rfl, ?_, ?_, ?_⟩
    · rw [show z.cells.size = z.cells.toList.length by simp]; exact q1
    · rw [show z.cells.size = z.cells.toList.length by simp]; exact q2
    · rw [← hs.next]; exact .ptr _ _
  case load agg sz x =>
    refine same (K := fun _ => True) h fun u hu => ?_
    obtain ⟨id, o, c, v', e, h1, h2, h3⟩ := vld_sound hs (hρ x hok) hu
    exact ⟨v', by simp only [xop, e, h1, h2, Option.bind_some, Option.map_some], h3⟩
  case store sz a x =>
    simp only [Option.map_eq_some_iff, Prod.mk.injEq] at h
    obtain ⟨σ1, h1, rfl, rfl⟩ := h
    obtain ⟨id, o, c, t, z, an, e, q1, q2, q3, q4, q5, q6⟩ := vst_sound hs (hρ a hok.1) (hρ x hok.2) h1
    refine ⟨undef, _, by simp only [xop, e, q1]; rw [if_pos ⟨q2, q3, q4⟩], q5, q6, .tup _ _ rfl (fun i h => by simp at h)⟩
  case nilck x =>
    refine same (K := fun _ => True) h fun u hu => ?_
    have hx := hρ x hok
    unfold vnilck at hu
    generalize hy : ρ' x = y at hx
    split at hu
    all_goals first | (cases hu; done) | (rename_i e; rw [e] at hx; obtain rfl := Option.some.inj hu)
    · cases hx; exact ⟨_, by simp only [xop, hy], .ptr _ _⟩
    · cases hx with
      | ep z id o b cc t xs hG hl hb hh => exact ⟨_, by simp only [xop, hy], .ep z id _ b cc t _ hG hl hb hh⟩
    · cases hx with
      | fn _ _ _ a' b' h1 h2 h3 h4 => exact ⟨.func (.func _) a' b', by simp only [xop, hy], .fn _ _ _ a' b' h1 h2 h3 h4⟩
    · cases hx with
      | iface _ _ x' hh => exact ⟨.iface _ x', by simp only [xop, hy], .iface _ _ x' hh⟩
  case bin op x y =>
    refine same (K := fun _ => True) h fun u hu => ?_
    have hx := hρ x hok.1
    have hy := hρ y hok.2
    unfold vbin at hu
    generalize hx' : ρ' x = x' at hx
    generalize hy' : ρ' y = y' at hy
    split at hu
    case h_2 => cases hu
    rename_i a b e1 e2
    rw [e1] at hx
    rw [e2] at hy
    simp only [Option.map_eq_some_iff] at hu
    obtain ⟨r, hr, rfl⟩ := hu
    cases hx
    cases hy
    refine ⟨r, by simp only [xop, hx', hy', hr, Option.map_some], .v _ ?_⟩
    unfold xbin at hr
    split at hr
    · unfold xbinI at hr
      split at hr <;> split at hr <;> first | (cases hr; done) | (obtain rfl := Option.some.inj hr; rfl)
    · unfold xbinS at hr
      split at hr <;> first | (cases hr; done) | (obtain rfl := Option.some.inj hr; rfl) | (split at hr <;> first | (cases hr; done) | (obtain rfl := Option.some.inj hr; rfl))
    · cases hr
  case eqb neg x y =>
    refine same (K := fun _ => True) h fun u hu => ?_
    have hx := hρ x hok.1
    have hy := hρ y hok.2
    unfold veqb at hu
    generalize hx' : ρ' x = x' at hx
    generalize hy' : ρ' y = y' at hy
    split at hu
    case h_2 => cases hu
    rename_i a b e1 e2
    rw [e1] at hx
    rw [e2] at hy
    obtain rfl := Option.some.inj hu
    cases hx
    cases hy
    exact ⟨_, by simp only [xop, hx', hy'], .v _ rfl⟩
  case eqf ks neg x y =>
    refine same (K := fun _ => True) h fun u hu => ?_
    have hx := hρ x hok.1
    have hy := hρ y hok.2
    unfold veqf at hu
    generalize hx' : ρ' x = x' at hx
    generalize hy' : ρ' y = y' at hy
    split at hu
    case h_2 => cases hu
    rename_i a b e1 e2
    rw [e1] at hx
    rw [e2] at hy
    simp only [Option.bind_eq_some_iff, Option.map_eq_some_iff] at hu
    obtain ⟨a1, h1, b1, h2, r, h3, rfl⟩ := hu
    cases hx with
    | agg _ a' hsa ha =>
    cases hy with
    | agg _ b' hsb hb =>
    have ea : a'.toList = a1 := vvals_rel (G := σ.G) (S := S) ⟨by simpa using hsa, fun i k1 k2 => by simpa using ha i k1 (by simpa using k2)⟩ h1
    have eb : b'.toList = b1 := vvals_rel (G := σ.G) (S := S) ⟨by simpa using hsb, fun i k1 k2 => by simpa using hb i k1 (by simpa using k2)⟩ h2
    exact ⟨_, by simp only [xop, hx', hy', ea, eb, h3, Option.map_some], .v _ rfl⟩
  case eqp neg x y =>
    refine same (K := fun _ => True) h fun u hu => ?_
    have hx := hρ x hok.1
    have hy := hρ y hok.2
    unfold veqp at hu
    generalize hx' : ρ' x = x' at hx
    generalize hy' : ρ' y = y' at hy
    split at hu
    all_goals first | (cases hu; done) | (rename_i e1 e2; rw [e1] at hx; rw [e2] at hy; obtain rfl := Option.some.inj hu; cases hx; cases hy; exact ⟨_, by simp only [xop, hx', hy', Option.isNone_some, Option.isNone_none], .v _ rfl⟩)
  case eqs neg x y =>
    refine same (K := fun _ => True) h fun u hu => ?_
    have hx := hρ x hok.1
    have hy := hρ y hok.2
    unfold veqs at hu
    generalize hx' : ρ' x = x' at hx
    generalize hy' : ρ' y = y' at hy
    split at hu
    all_goals first | (cases hu; done) | skip
    all_goals rename_i e1 e2; rw [e1] at hx; rw [e2] at hy
    · obtain rfl := Option.some.inj hu; cases hx; cases hy; exact ⟨_, by simp only [xop, hx', hy', Option.isNone_some, Option.isNone_none], .v _ rfl⟩
    · obtain rfl := Option.some.inj hu; cases hx; cases hy; exact ⟨_, by simp only [xop, hx', hy', Option.isNone_some, Option.isNone_none], .v _ rfl⟩
    · split at hu
      · cases hu
      · rename_i hn
        obtain rfl := Option.some.inj hu
        cases hy
        cases hx with
        | lstNil => exact absurd rfl hn
        | lst => exact ⟨_, by simp only [xop, hx', hy', Option.isNone_some, Option.isNone_none], .v _ rfl⟩
    · obtain rfl := Option.some.inj hu; cases hx; cases hy; exact ⟨_, by simp only [xop, hx', hy', Option.isNone_some, Option.isNone_none], .v _ rfl⟩
  case un op x =>
    refine same (K := fun _ => True) h fun u hu => ?_
    have hx := hρ x hok
    unfold vun at hu
    generalize hx' : ρ' x = x' at hx
    split at hu
    all_goals first | (cases hu; done) | (rename_i e; rw [e] at hx; obtain rfl := Option.some.inj hu; cases hx; exact ⟨_, by simp only [xop, hx'], .v _ rfl⟩)
  case cvi k x =>
    refine same (K := fun _ => True) h fun u hu => ?_
    have hx := hρ x hok
    unfold vcvi at hu
    generalize hx' : ρ' x = x' at hx
    split at hu
    all_goals first | (cases hu; done) | (rename_i e; rw [e] at hx; obtain rfl := Option.some.inj hu; cases hx; exact ⟨_, by simp only [xop, hx'], .v _ rfl⟩)
  case cvs x =>
    refine same (K := fun _ => True) h fun u hu => ?_
    have hx := hρ x hok
    unfold vcvs at hu
    generalize hx' : ρ' x = x' at hx
    split at hu
    all_goals first | (cases hu; done) | (rename_i e; rw [e] at hx; obtain rfl := Option.some.inj hu; cases hx; exact ⟨_, by simp only [xop, hx'], .v _ rfl⟩)
  case mkIface t x =>
    obtain ⟨rfl, rfl⟩ := Prod.mk.inj (Option.some.inj h)
    exact ⟨_, S, rfl, hs, .refl _ _, .iface _ _ _ (hρ x hok)⟩
  case mkFunc f a b =>
    obtain ⟨rfl, rfl⟩ := Prod.mk.inj (Option.some.inj h)
    refine ⟨_, S, rfl, hs, .refl _ _, .fn f _ _ _ _ (by simp) (by simp) (fun i h1 h2 => ?_) (fun i h1 h2 => ?_)⟩
    · simp only [List.getElem_map, Array.getElem_map, Array.getElem_toList]
      exact hρ _ (Array.all_eq_true.1 hok.1 i (by simpa using h1))
    · simp only [List.getElem_map, Array.getElem_map, Array.getElem_toList]
      exact hρ _ (Array.all_eq_true.1 hok.2 i (by simpa using h1))
  case mkSlice e esz bytes z l c =>
    have hx := hρ l hok.1.1
    have hy := hρ c hok.1.2
    unfold vmk at h
    generalize hx' : ρ' l = x' at hx
    generalize hy' : ρ' c = y' at hy
    split at h
    case h_2 => cases h
    rename_i e1 e2
    rw [e1] at hx
    rw [e2] at hy
    split at h
    case isFalse => cases h
    rename_i hc
    obtain ⟨rfl, rfl⟩ := Prod.mk.inj (Option.some.inj h)
    cases hx
    cases hy
    obtain ⟨q1, q2⟩ := hs.allocC (VRelL.flat (flatL_rep hc.2.2.2.2.2 _)) e esz
    refine ⟨_, _, by simp only [xop, hx', hy']; rw [if_pos ⟨hc.1, hc.2.1, hc.2.2.1, hc.2.2.2.1, hc.2.2.2.2.1, flatL_one hc.2.2.2.2.2⟩], q1, q2, ?_⟩
    rw [← hs.next]
    exact .slice _ _ _ _
  case sl esz x lo hi =>
    refine same (K := fun _ => True) h fun u hu => ?_
    obtain ⟨a, n, c, l, hh, v', e, h1, h2, h3, h4, h5, h6⟩ := vsl_sound hs (hρ x hok.1.1) (hopt hok.1.2) (hopt hok.2) hu
    exact ⟨v', by simp only [xop, e, h1, h2]; rw [if_pos ⟨h3, h4⟩]; exact h5, h6⟩
  case slStr x lo hi =>
    refine same (K := fun _ => True) h fun u hu => ?_
    have hx := hρ x hok.1.1
    unfold vslStr at hu
    generalize hx' : ρ' x = x' at hx
    split at hu
    case h_2 => cases hu
    rename_i s e
    rw [e] at hx
    split at hu
    case h_2 => cases hu
    rename_i l hh e1 e2
    split at hu
    case isFalse => cases hu
    rename_i hc
    obtain rfl := Option.some.inj hu
    cases hx
    have e1 := hopt hok.1.2 _ _ e1
    have e2 := hopt hok.2 _ _ e2
    exact ⟨_, by simp only [xop, hx', e1, e2]; rw [if_pos hc], .v _ rfl⟩
  case fa off x =>
    refine same (K := fun _ => True) h fun u hu => ?_
    obtain ⟨id, o, e, h1⟩ := vadd_sound hs (hρ x hok) hu
    exact ⟨_, by simp only [xop, e], h1⟩
  case fld agg sz off x =>
    refine same (K := fun _ => True) h fun u hu => ?_
    have hx := hρ x hok
    unfold vfld at hu
    generalize hx' : ρ' x = x' at hx
    split at hu
    case h_2 => cases hu
    rename_i a e
    rw [e] at hx
    split at hu
    case isFalse => cases hu
    rename_i hc
    cases hx with
    | agg _ a' hsz ha =>
    have hl : VRelL σ.G S a a'.toList := ⟨by simpa using hsz, fun i k1 k2 => by simpa using ha i k1 (by simpa using k2)⟩
    obtain ⟨v', q1, q2⟩ := ((hl.drop off).take sz).vpart hu
    exact ⟨v', by simp only [xop, hx']; rw [if_pos (by omega), q1]; rfl, q2⟩
  case ia esz x i =>
    refine same (K := fun _ => True) h fun u hu => ?_
    obtain ⟨id, o, n, c, k, j, e1, e2, h1, h2, h3⟩ := via_sound hs (hρ x hok.1) (hρ i hok.2) hu
    exact ⟨_, by simp only [xop, e1, e2]; rw [if_pos ⟨h1, h2⟩], h3⟩
  case iaArr n esz x i =>
    refine same (K := fun _ => True) h fun u hu => ?_
    have hi := hρ i hok.2
    unfold viaArr at hu
    generalize hi' : ρ' i = i' at hi
    split at hu
    case h_2 => cases hu
    rename_i k j e
    rw [e] at hi
    split at hu
    case isFalse => cases hu
    rename_i hc
    cases hi
    obtain ⟨id, o, e1, h1⟩ := vadd_sound hs (hρ x hok.1) hu
    exact ⟨_, by simp only [xop, e1, hi']; rw [if_pos hc], h1⟩
  case idx n agg esz x i =>
    refine same (K := fun _ => True) h fun u hu => ?_
    have hx := hρ x hok.1
    have hi := hρ i hok.2
    unfold vidx at hu
    generalize hx' : ρ' x = x' at hx
    generalize hi' : ρ' i = i' at hi
    split at hu
    case h_2 => cases hu
    rename_i a k j e1 e2
    rw [e1] at hx
    rw [e2] at hi
    split at hu
    case isFalse => cases hu
    rename_i hc
    cases hi
    cases hx with
    | agg _ a' hsz ha =>
    have hl : VRelL σ.G S a a'.toList := ⟨by simpa using hsz, fun i k1 k2 => by simpa using ha i k1 (by simpa using k2)⟩
    obtain ⟨v', q1, q2⟩ := ((hl.drop (j.toNat * esz)).take esz).vpart hu
    exact ⟨v', by simp only [xop, hx', hi']; rw [if_pos ⟨hc.1, hc.2.1, by omega⟩, q1]; rfl, q2⟩
  case idxStr x i =>
    refine same (K := fun _ => True) h fun u hu => ?_
    have hx := hρ x hok.1
    have hi := hρ i hok.2
    unfold vidxStr at hu
    generalize hx' : ρ' x = x' at hx
    generalize hi' : ρ' i = i' at hi
    split at hu
    case h_2 => cases hu
    rename_i s k j e1 e2
    rw [e1] at hx
    rw [e2] at hi
    split at hu
    case isFalse => cases hu
    rename_i hc
    simp only [Option.map_eq_some_iff] at hu
    obtain ⟨b, hb, rfl⟩ := hu
    cases hx
    cases hi
    exact ⟨_, by simp only [xop, hx', hi', hb]; rw [if_pos hc]; rfl, .v _ rfl⟩
  case ext x i =>
    refine same (K := fun _ => True) h fun u hu => ?_
    have hx := hρ x hok
    unfold vext at hu
    generalize hx' : ρ' x = x' at hx
    split at hu
    case h_2 => cases hu
    rename_i a e
    rw [e] at hx
    cases hx with
    | tup _ a' hsz ha =>
    obtain ⟨hi, rfl⟩ := List.getElem?_eq_some_iff.1 hu
    have hi' : i < a'.size := by omega
    exact ⟨a'[i], by simp only [xop, hx', Array.getElem?_eq_getElem hi']; rfl, ha i hi hi'⟩
  case build z parts =>
    simp only [Option.map_eq_some_iff, Prod.mk.injEq] at h
    obtain ⟨l, h1, rfl, rfl⟩ := h
    obtain ⟨r', k1, k2⟩ := vparts_rel hs hρ hok.2 (VRelL.flat hok.1) h1
    exact ⟨.agg r'.toArray, S, by simp only [xop, k1, Option.map_some], hs, .refl _ _, .agg _ _ k2.1 (fun i h1 h2 => k2.2 i h1 h2)⟩
  case len x =>
    refine same (K := fun _ => True) h fun u hu => ?_
    have hx := hρ x hok
    unfold vlenv at hu
    generalize hx' : ρ' x = x' at hx
    split at hu
    all_goals first | (cases hu; done) | (rename_i e; rw [e] at hx; obtain rfl := Option.some.inj hu; cases hx <;> exact ⟨_, by simp only [xop, hx'] <;> rfl, .v _ rfl⟩)
  case lenStr x =>
    refine same (K := fun _ => True) h fun u hu => ?_
    have hx := hρ x hok
    unfold vlenStr at hu
    generalize hx' : ρ' x = x' at hx
    split at hu
    all_goals first | (cases hu; done) | (rename_i e; rw [e] at hx; obtain rfl := Option.some.inj hu; cases hx; exact ⟨_, by simp only [xop, hx'], .v _ rfl⟩)
  case copy esz d s => exact vcopy_sound hs (hρ d hok.1) (hρ s hok.2) h
  case clr esz z x => exact vclr_sound hs (hρ x hok.1) h
  case minmax mx x l =>
    refine same (K := fun _ => True) h fun u hu => ?_
    have hx := hρ x hok.1
    unfold vmm at hu
    generalize hx' : ρ' x = x' at hx
    split at hu
    case h_2 => cases hu
    rename_i k a e
    rw [e] at hx
    simp only [Option.bind_eq_some_iff, Option.map_eq_some_iff] at hu
    obtain ⟨l1, h1, r, h2, rfl⟩ := hu
    cases hx
    have el := vvals_rel (hlist hok.2) h1
    refine ⟨r, by simp only [xop, hx', el, h2, Option.map_some], .v _ ?_⟩
    exact xminmax_flat h2
  all_goals cases h
end
end Go.Proofs.Ytmbbebfpjclghaa

set_option linter.unusedVariables false
set_option linter.unusedSectionVars false
set_option linter.unusedSimpArgs false
namespace Go.Proofs.Ytmbbebfpjclghaa
open Go Go.RowKit

/-- a value without lists, as a value of the machine. -/
def kval : VV → Option Value
  | .v x => some x
  | .agg xs => (vvals xs).map fun l => .agg l.toArray
  | _ => none
def vres (v : Value) (σ : VSt) : Option (VV × VSt) := if flatV v then some (toV v, σ) else none
def vmap (σ : VSt) : VV → Option (List (Value × Value × Nat) × Nat)
  | .map id => match σ.heap id with
    | .obj (.map es cl) => some (es, cl)
    | _ => none
  | _ => none
def vextra (e : EOp) (l : List VV) (σ : VSt) : Option (VV × VSt) :=
  match e, l with
  | .mkMap, [] => some (.map σ.next, σ.alloc (.obj (.map [] 0)))
  | .lookup ks agg z ok, [x, k] => (kval k).bind fun k => (keyOf ks agg k).bind fun c => match x with
    | .v (.map none) => vres (lookRes z ok none) σ
    | .map id => match σ.heap id with
      | .obj (.map es _) => (xfind ks agg c es 0).bind fun r => vres (lookRes z ok r) σ
      | _ => none
    | _ => none
  | .mapSet ks agg, [x, k, v] => (kval k).bind fun k => (kval v).bind fun v => (keyOf ks agg k).bind fun c => match x with
    | .map id => match σ.heap id with
      | .obj (.map es cl) => (xfind ks agg c es 0).map fun r => match r with
        | some (i, _) => (.tup [], σ.put id (.obj (.map (es.modify i fun e => (k, v, e.2.2)) cl)))
        | none => (.tup [], σ.put id (.obj (.map (es ++ [(k, v, cl)]) (cl + 1))))
      | _ => none
    | _ => none
  | .mapEnt ks agg z, [x, k] => (kval k).bind fun k => (keyOf ks agg k).bind fun c => match x with
    | .map id => match σ.heap id with
      | .obj (.map es cl) => (xfind ks agg c es 0).bind fun r => match r with
        | some (i, v) => vres (.tuple #[v, .int .i64 (((es[i]?).map (·.2.2)).getD 0 : Nat)]) (σ.put id (.obj (.map (es.modify i fun e => (k, e.2.1, e.2.2)) cl)))
        | none => vres (.tuple #[z, .int .i64 (cl : Nat)]) (σ.put id (.obj (.map (es ++ [(k, z, cl)]) (cl + 1))))
      | _ => none
    | _ => none
  | .entSet, [x, b, v] => match x, b with
    | .map id, .v (.int .i64 b) => (kval v).bind fun v => match σ.heap id with
      | .obj (.map es cl) => match es.findIdx? fun e => ((e.2.2 : Nat) : Int) == b with
        | some i => some (.tup [], σ.put id (.obj (.map (es.modify i fun e => (e.1, v, e.2.2)) cl)))
        | none => none
      | _ => none
    | _, _ => none
  | .mapDel ks agg, [x, k] => (kval k).bind fun k => (keyOf ks agg k).bind fun c => match x with
    | .map id => match σ.heap id with
      | .obj (.map es cl) => (xfind ks agg c es 0).map fun r => match r with
        | some (i, _) => (.tup [], σ.put id (.obj (.map (es.eraseIdx i) cl)))
        | none => (.tup [], σ.put id (.obj (.map es cl)))
      | _ => none
    | _ => none
  | .mapLen, [x] => match x with
    | .v (.map none) => some (.v (.int .i64 0), σ)
    | .map id => match σ.heap id with
      | .obj (.map es _) => some (.v (.int .i64 es.length), σ)
      | _ => none
    | _ => none
  | .iterStr, [x] => match x with
    | .v (.string s) => some (.ptr σ.next 0, σ.alloc (.obj (.iter s 0)))
    | _ => none
  | .nextStr, [x] => match x with
    | .ptr id 0 => match σ.heap id with
      | .obj (.iter s p) => if p < s.size then some (.tup [.v (.bool true), .v (.int .i64 p), .v (.int .i32 (Utf8.decode s p).1)], σ.put id (.obj (.iter s (p + (Utf8.decode s p).2))))
        else some (.tup [.v (.bool false)], σ)
      | _ => none
    | _ => none
  | _, _ => none
/-- what only reads. -/
def readsE : EOp → Bool
  | .lookup _ _ _ _ => true
  | .mapLen => true
  | _ => false

section
variable {σ : VSt} {S : St} (hs : VSim σ S)
include hs

theorem kval_rel {x : VV} {x' v : Value} (hx : VRel σ.G S x x') (h : kval x = some v) : x' = v := by
  unfold kval at h
  split at h
  · obtain rfl := Option.some.inj h
    cases hx; rfl
  · simp only [Option.map_eq_some_iff] at h
    obtain ⟨l, h1, rfl⟩ := h
    cases hx with
    | agg _ a hsz ha =>
      have := vvals_rel (G := σ.G) (S := S) (l' := a.toList) ⟨by simpa using hsz, fun i k1 k2 => by simpa using ha i k1 (by simpa using k2)⟩ h1
      rw [← this]
  · cases h
theorem vobj {id : Nat} {o : AObj} (h : σ.heap id = .obj o) : S.get id = .obj o := by
  have := hs.blk id
  rw [h] at this
  exact this.2
theorem tup_nil {G : Nat → Prop} {S : St} : VRel G S (.tup []) (.tuple #[]) := .tup _ _ rfl (fun i h => by simp at h)

theorem vextra_sound {e : EOp} {l : List VV} {l' : List Value} (hl : VRelL σ.G S l l') {v : VV} {σ' : VSt} (h : vextra e l σ = some (v, σ')) :
    ∃ v' S', xextra e l' S = some (v', S') ∧ VSim σ' S' ∧ VStep σ S σ' S' ∧ VRel σ'.G S' v v' ∧ (readsE e = true → S' = S) := by
  have ok1 : ∀ {x : VV}, VRelL σ.G S [x] l' → ∃ x', l' = [x'] ∧ VRel σ.G S x x' := by
    intro x h
    match l', h with
    | [x'], h => exact ⟨x', rfl, h.2 0 (by simp) (by simp)⟩
  have ok2 : ∀ {x y : VV}, VRelL σ.G S [x, y] l' → ∃ x' y', l' = [x', y'] ∧ VRel σ.G S x x' ∧ VRel σ.G S y y' := by
    intro x y h
    match l', h with
    | [x', y'], h => exact ⟨x', y', rfl, h.2 0 (by simp) (by simp), h.2 1 (by simp) (by simp)⟩
  have ok3 : ∀ {x y z : VV}, VRelL σ.G S [x, y, z] l' → ∃ x' y' z', l' = [x', y', z'] ∧ VRel σ.G S x x' ∧ VRel σ.G S y y' ∧ VRel σ.G S z z' := by
    intro x y z h
    match l', h with
    | [x', y', z'], h => exact ⟨x', y', z', rfl, h.2 0 (by simp) (by simp), h.2 1 (by simp) (by simp), h.2 2 (by simp) (by simp)⟩
  have un : VRel σ'.G S (.tup []) undef := tup_nil hs
  have res : ∀ {u : Value}, vres u σ = some (v, σ') → (xextra e l' S = some (u, S)) → ∃ v' S', xextra e l' S = some (v', S') ∧ VSim σ' S' ∧ VStep σ S σ' S' ∧ VRel σ'.G S' v v' ∧ (readsE e = true → S' = S) := by
    intro u hu hx
    unfold vres at hu
    split at hu
    · rename_i hf
      obtain ⟨rfl, rfl⟩ := Prod.mk.inj (Option.some.inj hu)
      exact ⟨u, S, hx, hs, .refl _ _, .toV hf, fun _ => rfl⟩
    · cases hu
  have put : ∀ {id : Nat} {o0 o : AObj} {u : Value}, σ.heap id = .obj o0 → readsE e = false → σ' = σ.put id (.obj o) → VRel σ'.G (S.put id (.obj o)) v u → xextra e l' S = some (u, S.put id (.obj o)) → ∃ v' S', xextra e l' S = some (v', S') ∧ VSim σ' S' ∧ VStep σ S σ' S' ∧ VRel σ'.G S' v v' ∧ (readsE e = true → S' = S) := by
    intro id o0 o u h1 h2 h3 h4 h5
    obtain ⟨k1, k2, k3⟩ := hs.putO h1 o
    subst h3
    exact ⟨u, _, h5, k2, k3, h4, fun h => by rw [h2] at h; cases h⟩
  unfold vextra at h
  split at h
  · obtain ⟨rfl, rfl⟩ := Prod.mk.inj (Option.some.inj h)
    obtain ⟨k1, k2⟩ := hs.allocO (.map [] 0)
    refine ⟨.map (some S.next), _, rfl, k1, k2, by rw [← hs.next]; exact .map _, fun h => by cases h⟩
  · rename_i ks agg z ok x k
    obtain ⟨x', k', rfl, hx, hk⟩ := ok2 hl
    simp only [Option.bind_eq_some_iff] at h
    obtain ⟨kv, h1, c, h2, h⟩ := h
    obtain rfl := kval_rel hs hk h1
    split at h
    · cases hx
      exact res h (by simp only [xextra, h2, Option.bind_some])
    · cases hx
      split at h
      case h_2 => cases h
      rename_i es cl hg
      simp only [Option.bind_eq_some_iff] at h
      obtain ⟨r, h3, h⟩ := h
      exact res h (by simp only [xextra, h2, Option.bind_some, vobj hs hg, h3, Option.map_some])
    · cases h
  · rename_i ks agg x k w
    obtain ⟨x', k', w', rfl, hx, hk, hw⟩ := ok3 hl
    simp only [Option.bind_eq_some_iff] at h
    obtain ⟨kv, h1, wv, h0, c, h2, h⟩ := h
    obtain rfl := kval_rel hs hk h1
    obtain rfl := kval_rel hs hw h0
    split at h
    case h_2 => cases h
    cases hx
    split at h
    case h_2 => cases h
    rename_i es cl hg
    simp only [Option.map_eq_some_iff] at h
    obtain ⟨r, h3, h⟩ := h
    have hg' := vobj hs hg
    split at h
    · obtain ⟨rfl, rfl⟩ := Prod.mk.inj h
      exact put hg rfl rfl (tup_nil hs) (by simp only [xextra, h2, Option.bind_some, hg', h3, Option.map_some] <;> rfl)
    · obtain ⟨rfl, rfl⟩ := Prod.mk.inj h
      exact put hg rfl rfl (tup_nil hs) (by simp only [xextra, h2, Option.bind_some, hg', h3, Option.map_some] <;> rfl)
  · rename_i ks agg z x k
    obtain ⟨x', k', rfl, hx, hk⟩ := ok2 hl
    simp only [Option.bind_eq_some_iff] at h
    obtain ⟨kv, h1, c, h2, h⟩ := h
    obtain rfl := kval_rel hs hk h1
    split at h
    case h_2 => cases h
    cases hx
    split at h
    case h_2 => cases h
    rename_i es cl hg
    simp only [Option.bind_eq_some_iff] at h
    obtain ⟨r, h3, h⟩ := h
    have hg' := vobj hs hg
    split at h
    · unfold vres at h
      split at h
      case isFalse => cases h
      rename_i hf
      obtain ⟨rfl, rfl⟩ := Prod.mk.inj (Option.some.inj h)
      exact put hg rfl rfl (.toV hf) (by simp only [xextra, h2, Option.bind_some, hg', h3, Option.map_some])
    · unfold vres at h
      split at h
      case isFalse => cases h
      rename_i hf
      obtain ⟨rfl, rfl⟩ := Prod.mk.inj (Option.some.inj h)
      exact put hg rfl rfl (.toV hf) (by simp only [xextra, h2, Option.bind_some, hg', h3, Option.map_some])
  · rename_i x b w
    obtain ⟨x', b', w', rfl, hx, hb, hw⟩ := ok3 hl
    split at h
    case h_2 => cases h
    cases hx
    cases hb
    simp only [Option.bind_eq_some_iff] at h
    obtain ⟨wv, h0, h⟩ := h
    obtain rfl := kval_rel hs hw h0
    split at h
    case h_2 => cases h
    rename_i es cl hg
    have hg' := vobj hs hg
    split at h
    case h_2 => cases h
    rename_i i hi
    obtain ⟨rfl, rfl⟩ := Prod.mk.inj (Option.some.inj h)
    exact put hg rfl rfl (tup_nil hs) (by simp only [xextra, hg', hi] <;> rfl)
  · rename_i ks agg x k
    obtain ⟨x', k', rfl, hx, hk⟩ := ok2 hl
    simp only [Option.bind_eq_some_iff] at h
    obtain ⟨kv, h1, c, h2, h⟩ := h
    obtain rfl := kval_rel hs hk h1
    split at h
    case h_2 => cases h
    cases hx
    split at h
    case h_2 => cases h
    rename_i es cl hg
    simp only [Option.map_eq_some_iff] at h
    obtain ⟨r, h3, h⟩ := h
    have hg' := vobj hs hg
    split at h
    · obtain ⟨rfl, rfl⟩ := Prod.mk.inj h
      exact put hg rfl rfl (tup_nil hs) (by simp only [xextra, h2, Option.bind_some, hg', h3, Option.map_some] <;> rfl)
    · obtain ⟨rfl, rfl⟩ := Prod.mk.inj h
      exact put hg rfl rfl (tup_nil hs) (by simp only [xextra, h2, Option.bind_some, hg', h3, Option.map_some] <;> rfl)
  · rename_i x
    obtain ⟨x', rfl, hx⟩ := ok1 hl
    split at h
    · obtain ⟨rfl, rfl⟩ := Prod.mk.inj (Option.some.inj h)
      cases hx
      exact ⟨_, S, rfl, hs, .refl _ _, .v _ rfl, fun _ => rfl⟩
    · cases hx
      split at h
      case h_2 => cases h
      rename_i es cl hg
      obtain ⟨rfl, rfl⟩ := Prod.mk.inj (Option.some.inj h)
      have hg' := vobj hs hg
      exact ⟨_, S, by simp only [xextra, hg'], hs, .refl _ _, .v _ rfl, fun _ => rfl⟩
    · cases h
  · rename_i x
    obtain ⟨x', rfl, hx⟩ := ok1 hl
    split at h
    case h_2 => cases h
    rename_i s
    obtain ⟨rfl, rfl⟩ := Prod.mk.inj (Option.some.inj h)
    cases hx
    obtain ⟨k1, k2⟩ := hs.allocO (.iter s 0)
    exact ⟨_, _, rfl, k1, k2, by rw [← hs.next]; exact .ptr _ _, fun h => by cases h⟩
  · rename_i x
    obtain ⟨x', rfl, hx⟩ := ok1 hl
    split at h
    case h_2 => cases h
    cases hx
    split at h
    case h_2 => cases h
    rename_i s p hg
    have hg' := vobj hs hg
    split at h
    · rename_i hp
      obtain ⟨rfl, rfl⟩ := Prod.mk.inj (Option.some.inj h)
      refine put hg rfl rfl (u := .tuple #[.bool true, .int .i64 p, .int .i32 (Utf8.decode s p).1]) (.tup _ _ rfl (fun i h1 h2 => ?_)) (by simp only [xextra, hg']; rw [if_pos hp])
      rcases i with _ | _ | _ | i
      · exact .v _ rfl
      · exact .v _ rfl
      · exact .v _ rfl
      · simp at h1; omega
    · rename_i hp
      obtain ⟨rfl, rfl⟩ := Prod.mk.inj (Option.some.inj h)
      refine ⟨.tuple #[.bool false], S, by simp only [xextra, hg']; rw [if_neg hp], hs, .refl _ _, .tup _ _ rfl (fun i h1 h2 => ?_), fun h => by cases h⟩
      rcases i with _ | i
      · exact .v _ rfl
      · simp at h1
  · cases h
end
end Go.Proofs.Ytmbbebfpjclghaa

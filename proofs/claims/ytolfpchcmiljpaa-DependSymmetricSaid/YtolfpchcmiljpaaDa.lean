/- Steps of runs: how they lie in memory. -/
import Derived.Test.YtolfpchcmiljpaaMsy
import Derived.Test.YtolfpchcmiljpaaP
set_option linter.unusedSimpArgs false
set_option linter.unusedSectionVars false
set_option maxRecDepth 10000
namespace Go.Proofs.Ytolfpchcmiljpaa
open Go Go.RowKit

theorem Pick_undef (w : Bool) (T F : Prop) : @Pick undef w ⟨(T, F)⟩ = F := by simp [Pick, undef]

structure Msg where
  node : Int
  handler : Int
  count : Int
  index : Int
  copy : Int
  deriving DecidableEq
structure Ask where
  node : Int
  handler : Int
  count : Int
  kind : Int
  index : Int
  arity : Int
  n : Int
  deriving DecidableEq
structure Ev where
  kind : Int
  node : Int
  arg : Int
  msg : Msg
  deriving DecidableEq
structure Step where
  ev : Ev
  asks : List Ask
  obs : Bool
  sent : List Msg
  deriving DecidableEq

theorem Msg.eq_iff (m m' : Msg) : m = m' ↔ m.node = m'.node ∧ m.handler = m'.handler ∧ m.count = m'.count ∧ m.index = m'.index ∧ m.copy = m'.copy := by
  obtain ⟨a, b, c, d, e⟩ := m
  obtain ⟨a', b', c', d', e'⟩ := m'
  simp only [Msg.mk.injEq]
theorem Ask.eq_iff (m m' : Ask) : m = m' ↔ m.node = m'.node ∧ m.handler = m'.handler ∧ m.count = m'.count ∧ m.kind = m'.kind ∧ m.index = m'.index ∧ m.arity = m'.arity ∧ m.n = m'.n := by
  obtain ⟨a, b, c, d, e, f, g⟩ := m
  obtain ⟨a', b', c', d', e', f', g'⟩ := m'
  simp only [Ask.mk.injEq]
theorem Ev.eq_iff (x y : Ev) : x = y ↔ x.kind = y.kind ∧ x.node = y.node ∧ x.arg = y.arg ∧ x.msg = y.msg := by
  obtain ⟨a, b, c, d⟩ := x
  obtain ⟨a', b', c', d'⟩ := y
  simp only [Ev.mk.injEq]

def Msg.cs (m : Msg) : List Value := [.int .i64 m.node, .int .i64 m.handler, .int .i64 m.count, .int .i64 m.index, .int .i64 m.copy]
def Ask.cs (m : Ask) : List Value := [.int .i64 m.node, .int .i64 m.handler, .int .i64 m.count, .int .i64 m.kind, .int .i64 m.index, .int .i64 m.arity, .int .i64 m.n]
def Ev.cs (e : Ev) : List Value := [.int .i64 e.kind, .int .i64 e.node, .int .i64 e.arg, .int .i64 e.msg.node, .int .i64 e.msg.handler, .int .i64 e.msg.count, .int .i64 e.msg.index, .int .i64 e.msg.copy]
instance : Enc Msg := ⟨5, Msg.cs, fun _ => rfl, fun _ => rfl, by decide⟩
instance : Enc Ask := ⟨7, Ask.cs, fun _ => rfl, fun _ => rfl, by decide⟩

/-- a slice's three words. -/
structure SV where
  a : Option Addr
  n : Nat
  c : Nat
def SV.v (s : SV) : Value := .slice s.a s.n s.c
instance : Enc SV := ⟨1, fun s => [s.v], fun _ => rfl, fun _ => rfl, by decide⟩
theorem RdS.sv {α : Type} [Enc α] {S : St} {v : Value} {l : List α} (h : RdS S v l) : ∃ s : SV, v = s.v := by
  rcases h with ⟨rfl, _⟩ | ⟨id, o, c, _, _, _, _, rfl, _⟩
  · exact ⟨⟨none, 0, 0⟩, rfl⟩
  · exact ⟨⟨_, _, _⟩, rfl⟩

/-- a step as it lies in memory. -/
structure RStep where
  ev : Ev
  asks : SV
  obs : Bool
  sent : SV
def RStep.cs (r : RStep) : List Value := r.ev.cs ++ [r.asks.v, .bool r.obs, r.sent.v]
instance : Enc RStep := ⟨11, RStep.cs, fun _ => rfl, fun _ => rfl, by decide⟩
abbrev Msg.v (m : Msg) : Value := .agg m.cs.toArray
abbrev Ask.v (m : Ask) : Value := .agg m.cs.toArray
abbrev Ev.v (m : Ev) : Value := .agg m.cs.toArray
abbrev RStep.v (r : RStep) : Value := .agg r.cs.toArray

def Rep (S : St) (r : RStep) (s : Step) : Prop := r.ev = s.ev ∧ r.obs = s.obs ∧ RdS S r.asks.v s.asks ∧ RdS S r.sent.v s.sent
theorem Rep.mono {S S' : St} {r : RStep} {s : Step} (h : Rep S r s) (hx : Ext S S') : Rep S' r s := ⟨h.1, h.2.1, h.2.2.1.mono hx, h.2.2.2.mono hx⟩
theorem Rep.monoL {S S' : St} {r : RStep} {s : Step} (h : Rep S r s) (hx : ExtL S S') : Rep S' r s := ⟨h.1, h.2.1, h.2.2.1.monoL hx, h.2.2.2.monoL hx⟩

/-- two lists, element by element. -/
def All2 {α β : Type} (R : α → β → Prop) (x : List α) (y : List β) : Prop := x.length = y.length ∧ ∀ i (h : i < x.length) (h' : i < y.length), R x[i] y[i]
theorem All2.imp {α β : Type} {R R' : α → β → Prop} (h : ∀ a b, R a b → R' a b) {x : List α} {y : List β} (k : All2 R x y) : All2 R' x y := ⟨k.1, fun i h1 h2 => h _ _ (k.2 i h1 h2)⟩
theorem All2.nil {α β : Type} (R : α → β → Prop) : All2 R [] [] := ⟨rfl, fun i h => by simp at h⟩
theorem All2.append {α β : Type} {R : α → β → Prop} {x x' : List α} {y y' : List β} (h : All2 R x y) (k : All2 R x' y') : All2 R (x ++ x') (y ++ y') := by
  refine ⟨by simp [h.1, k.1], fun i h1 h2 => ?_⟩
  have hl := h.1
  by_cases hi : i < x.length
  · rw [List.getElem_append_left hi, List.getElem_append_left (by omega)]
    exact h.2 i _ _
  · rw [List.getElem_append_right (by omega), List.getElem_append_right (by omega)]
    have e : i - x.length = i - y.length := by rw [hl]
    have := k.2 (i - x.length) (by simp at h1; omega) (by simp at h2; omega)
    simpa only [e] using this
theorem All2.one {α β : Type} {R : α → β → Prop} {a : α} {b : β} (h : R a b) : All2 R [a] [b] := ⟨rfl, fun i h1 h2 => by
  have : i = 0 := by simp at h1; omega
  subst this; exact h⟩
theorem All2.set {α β : Type} {R : α → β → Prop} {x : List α} {y : List β} (h : All2 R x y) (i : Nat) {a : α} {b : β} (k : R a b) : All2 R (x.set i a) (y.set i b) := by
  refine ⟨by simp [h.1], fun j h1 h2 => ?_⟩
  rw [List.getElem_set, List.getElem_set]
  split
  · exact k
  · exact h.2 j _ _

/-- a run in memory. -/
def Run (S : St) (v : Value) (l : List Step) : Prop := ∃ rs : List RStep, RdS S v rs ∧ All2 (Rep S) rs l
theorem Run.mono {S S' : St} {v : Value} {l : List Step} (h : Run S v l) (hx : Ext S S') : Run S' v l := by
  obtain ⟨rs, h1, h2⟩ := h
  exact ⟨rs, h1.mono hx, h2.imp fun a b k => k.mono hx⟩
theorem Run.monoL {S S' : St} {v : Value} {l : List Step} (h : Run S v l) (hx : ExtL S S') : Run S' v l := by
  obtain ⟨rs, h1, h2⟩ := h
  exact ⟨rs, h1.monoL hx, h2.imp fun a b k => k.monoL hx⟩
theorem Run.len {S : St} {v : Value} {l : List Step} (h : Run S v l) : lenv v = some (.int .i64 l.length) := by
  obtain ⟨rs, h1, h2⟩ := h
  rw [h1.len, h2.1]

theorem eqfv_msg (neg : Bool) (m m' : Msg) : eqfv [1, 1, 1, 1, 1] neg m.v m'.v = some (.bool (notIf neg (decide (m = m')))) := by
  have e : decide (m = m') = (m.node == m'.node && (m.handler == m'.handler && (m.count == m'.count && (m.index == m'.index && m.copy == m'.copy)))) := by
    rw [Bool.eq_iff_iff]
    simp [Msg.eq_iff]
  rw [e]
  simp [eqfv, Msg.cs, eqL, eq1]
theorem eqfv_ask (neg : Bool) (m m' : Ask) : eqfv [1, 1, 1, 1, 1, 1, 1] neg m.v m'.v = some (.bool (notIf neg (decide (m = m')))) := by
  have e : decide (m = m') = (m.node == m'.node && (m.handler == m'.handler && (m.count == m'.count && (m.kind == m'.kind && (m.index == m'.index && (m.arity == m'.arity && m.n == m'.n)))))) := by
    rw [Bool.eq_iff_iff]
    simp [Ask.eq_iff]
  rw [e]
  simp [eqfv, Ask.cs, eqL, eq1]
theorem eqfv_ev (neg : Bool) (x y : Ev) : eqfv [1, 1, 1, 1, 1, 1, 1, 1] neg x.v y.v = some (.bool (notIf neg (decide (x = y)))) := by
  have e : decide (x = y) = (x.kind == y.kind && (x.node == y.node && (x.arg == y.arg && (x.msg.node == y.msg.node && (x.msg.handler == y.msg.handler && (x.msg.count == y.msg.count && (x.msg.index == y.msg.index && x.msg.copy == y.msg.copy))))))) := by
    rw [Bool.eq_iff_iff]
    simp [Ev.eq_iff, Msg.eq_iff, and_assoc]
  rw [e]
  simp [eqfv, Ev.cs, eqL, eq1]

theorem boxc_int (k : IntKind) (n : Int) : boxc (.int k n) = some [.int k n] := by simp [boxc, Value.cells, allOne_int, allOne_nil]
theorem boxc_bool (b : Bool) : boxc (.bool b) = some [.bool b] := by simp [boxc, Value.cells, allOne, Value.oneCell']
theorem boxc_slice (a : Option Addr) (n c : Nat) : boxc (.slice a n c) = some [.slice a n c] := by simp [boxc, Value.cells, allOne, Value.oneCell']
theorem XLoop_at {P : Program} [Prim P] {c : XCode} {fe : FEnv} {S : St} {Q : Ex → FEnv → St → Prop} (h : ∀ S', S' = S → @XLoop P _ ⟨(c, fe, S', Q)⟩) : @XLoop P _ ⟨(c, fe, S, Q)⟩ := h S rfl
theorem boxc_msg (m : Msg) : boxc m.v = some m.cs := by simp [boxc, Msg.cs, Value.cells, allOne_int, allOne_nil]
theorem boxc_step (r : RStep) : boxc r.v = some r.cs := by
  have h : allOne r.cs = true := Enc.flat r
  simp [boxc, Value.cells, h]
theorem msg_len (m : Msg) : m.cs.length = 5 := Eq.trans rfl rfl
theorem step_len (r : RStep) : r.cs.length = 11 := Eq.trans rfl rfl
theorem allOne_msg (m : Msg) : allOne m.cs = true := Eq.trans rfl rfl
theorem allOne_step (r : RStep) : allOne r.cs = true := Enc.flat r
theorem part1_agg (l : List Value) : part1 true l = some (.agg l.toArray) := Eq.trans rfl rfl
theorem part1_one (v : Value) : part1 false [v] = some v := Eq.trans rfl rfl
theorem rdM (m : Msg) (t : TypeId) (mi : Bool) (an : List Nat) : (Blk.cells m.cs t 5 mi an).rd 0 5 = some m.cs := Eq.trans rfl rfl
theorem rdStep (r : RStep) (t : TypeId) (mi : Bool) (an : List Nat) : (Blk.cells r.cs t 11 mi an).rd 0 11 = some r.cs := Eq.trans rfl rfl
theorem rdKind (r : RStep) (t : TypeId) (mi : Bool) (an : List Nat) : (Blk.cells r.cs t 11 mi an).rd 0 1 = some [.int .i64 r.ev.kind] := Eq.trans rfl rfl
theorem rdNode (r : RStep) (t : TypeId) (mi : Bool) (an : List Nat) : (Blk.cells r.cs t 11 mi an).rd 1 1 = some [.int .i64 r.ev.node] := Eq.trans rfl rfl
theorem rdCause (r : RStep) (t : TypeId) (mi : Bool) (an : List Nat) : (Blk.cells r.cs t 11 mi an).rd 3 3 = some [.int .i64 r.ev.msg.node, .int .i64 r.ev.msg.handler, .int .i64 r.ev.msg.count] := Eq.trans rfl rfl
theorem rdIndex (r : RStep) (t : TypeId) (mi : Bool) (an : List Nat) : (Blk.cells r.cs t 11 mi an).rd 6 1 = some [.int .i64 r.ev.msg.index] := Eq.trans rfl rfl
theorem rdAsks (r : RStep) (t : TypeId) (mi : Bool) (an : List Nat) : (Blk.cells r.cs t 11 mi an).rd 8 1 = some [r.asks.v] := Eq.trans rfl rfl
theorem rdObs (r : RStep) (t : TypeId) (mi : Bool) (an : List Nat) : (Blk.cells r.cs t 11 mi an).rd 9 1 = some [.bool r.obs] := Eq.trans rfl rfl
theorem rdSent (r : RStep) (t : TypeId) (mi : Bool) (an : List Nat) : (Blk.cells r.cs t 11 mi an).rd 10 1 = some [r.sent.v] := Eq.trans rfl rfl
theorem rdEv (r : RStep) (t : TypeId) (mi : Bool) (an : List Nat) : (Blk.cells r.cs t 11 mi an).rd 0 8 = some r.ev.cs := Eq.trans rfl rfl

theorem tkStep (r : RStep) : List.take 11 r.cs = r.cs := Eq.trans rfl rfl
theorem tkEv (r : RStep) : List.take 8 r.cs = r.ev.cs := Eq.trans rfl rfl
theorem tkKind (r : RStep) : List.take 1 r.cs = [.int .i64 r.ev.kind] := Eq.trans rfl rfl
theorem tkNode (r : RStep) : List.take 1 (List.drop 1 r.cs) = [.int .i64 r.ev.node] := Eq.trans rfl rfl
theorem tkMsg (r : RStep) : List.take 5 (List.drop 3 r.cs) = r.ev.msg.cs := Eq.trans rfl rfl
theorem tkCause (r : RStep) : List.take 3 (List.drop 3 r.cs) = [.int .i64 r.ev.msg.node, .int .i64 r.ev.msg.handler, .int .i64 r.ev.msg.count] := Eq.trans rfl rfl
theorem tkIndex (r : RStep) : List.take 1 (List.drop 6 r.cs) = [.int .i64 r.ev.msg.index] := Eq.trans rfl rfl
theorem tkAsks (r : RStep) : List.take 1 (List.drop 8 r.cs) = [r.asks.v] := Eq.trans rfl rfl
theorem tkObs (r : RStep) : List.take 1 (List.drop 9 r.cs) = [.bool r.obs] := Eq.trans rfl rfl
theorem tkSent (r : RStep) : List.take 1 (List.drop 10 r.cs) = [r.sent.v] := Eq.trans rfl rfl

section
variable [Prim Try.prog]

/-- the original of the message that a step consumes. -/
def orig (e : Ev) : Msg := ⟨e.msg.node, e.msg.handler, e.msg.count, e.msg.index, 0⟩
def consumes (e : Ev) : Bool := e.kind == 3 || e.kind == 5 || e.kind == 6

theorem consumed_any (r : RStep) (S : St) :
    XC Try.prog 42 #[r.v] S fun u S' => Ext S S' ∧ if consumes r.ev then ∃ id, u = .pointer (some ⟨id, 0, none⟩) ∧ id < S'.next ∧ S'.get id = .cells (orig r.ev).cs 35 5 true [] else u = .pointer none := by
  refine XC_body XF42 ?_
  simp (decide := true) only [↓symD, symU, ↓XW_cond, Nat.reduceEqDiff, List.zip_cons_cons, List.zip_nil_left, Option.bind_some, Option.map_some, Option.map_none, List.map_toArray, List.map_cons, List.map_nil, ne_eq, List.append_toArray, List.nil_append, List.cons_append, List.append_nil, xf42, boxc_step, get_alloc_self, step_len, rdKind, part1_one, Nat.zero_add, xbin_eql]
  have fin : ∀ S', Ext S S' → consumes r.ev = true → ∀ id, S'.get id = .cells (orig r.ev).cs 35 5 true [] → id < S'.next → Ext S S' ∧ if consumes r.ev then ∃ id', (.pointer (some ⟨id, 0, none⟩) : Value) = .pointer (some ⟨id', 0, none⟩) ∧ id' < S'.next ∧ S'.get id' = .cells (orig r.ev).cs 35 5 true [] else (.pointer (some ⟨id, 0, none⟩) : Value) = .pointer none := by
    intro S' hx hc id h1 h2
    rw [if_pos hc]
    exact ⟨hx, id, rfl, h2, h1⟩
  have hx2 : Ext S ((S.alloc (.cells r.cs 41 11 true [])).alloc (.cells (orig r.ev).cs 35 5 true [])) := (Ext.alloc _ _).trans (Ext.alloc _ _)
  refine Test_dec (fun h3 => ?_) (fun h3 => ?_)
  · have d3 : decide (r.ev.kind = 3) = true := decide_eq_true h3
    simp (decide := true) only [↓symD, symU, ↓XW_cond, Nat.reduceEqDiff, List.zip_cons_cons, List.zip_nil_left, Option.bind_some, Option.map_some, Option.map_none, List.map_toArray, List.map_cons, List.map_nil, ne_eq, List.append_toArray, List.nil_append, List.cons_append, List.append_nil, d3, get_alloc_self, step_len, rdCause, rdIndex, part1_agg, part1_one, Nat.zero_add, fillL, splice, rep, List.replicate_succ, List.replicate_zero, List.flatten_cons, List.flatten_nil, List.append_nil, List.nil_append, List.cons_append, Value.cells, List.append_assoc, and_self, true_and, and_true, List.size_toArray, List.length_cons, List.length_nil, Nat.zero_add, ↓reduceIte, List.take_zero, List.drop_zero, List.drop_succ_cons, List.take_succ_cons, Nat.reduceAdd, Nat.reduceLeDiff, Nat.reduceEqDiff, allOne_int, allOne_nil, List.toList_toArray, boxc_agg, blkOf_ptr, stv_cells, Nat.add_zero]
    exact fin _ hx2 (by simp [consumes, h3]) _ (get_alloc_self (S.alloc (.cells r.cs 41 11 true [])) (.cells (orig r.ev).cs 35 5 true [])) (by simp)
  · simp (decide := true) only [↓symD, symU, ↓XW_cond, Nat.reduceEqDiff, List.zip_cons_cons, List.zip_nil_left, Option.bind_some, Option.map_some, Option.map_none, List.map_toArray, List.map_cons, List.map_nil, ne_eq, List.append_toArray, List.nil_append, List.cons_append, List.append_nil, xbin_eql]
    refine Test_dec (fun h5 => ?_) (fun h5 => ?_)
    · have d5 : decide (r.ev.kind = 5) = true := decide_eq_true h5
      simp (decide := true) only [↓symD, symU, ↓XW_cond, Nat.reduceEqDiff, List.zip_cons_cons, List.zip_nil_left, Option.bind_some, Option.map_some, Option.map_none, List.map_toArray, List.map_cons, List.map_nil, ne_eq, List.append_toArray, List.nil_append, List.cons_append, List.append_nil, d5, get_alloc_self, step_len, rdCause, rdIndex, part1_agg, part1_one, Nat.zero_add, fillL, splice, rep, List.replicate_succ, List.replicate_zero, List.flatten_cons, List.flatten_nil, List.append_nil, List.nil_append, List.cons_append, Value.cells, List.append_assoc, and_self, true_and, and_true, List.size_toArray, List.length_cons, List.length_nil, Nat.zero_add, ↓reduceIte, List.take_zero, List.drop_zero, List.drop_succ_cons, List.take_succ_cons, Nat.reduceAdd, Nat.reduceLeDiff, Nat.reduceEqDiff, allOne_int, allOne_nil, List.toList_toArray, boxc_agg, blkOf_ptr, stv_cells, Nat.add_zero]
      exact fin _ hx2 (by simp [consumes, h5]) _ (get_alloc_self (S.alloc (.cells r.cs 41 11 true [])) (.cells (orig r.ev).cs 35 5 true [])) (by simp)
    · simp (decide := true) only [↓symD, symU, ↓XW_cond, Nat.reduceEqDiff, List.zip_cons_cons, List.zip_nil_left, Option.bind_some, Option.map_some, Option.map_none, List.map_toArray, List.map_cons, List.map_nil, ne_eq, List.append_toArray, List.nil_append, List.cons_append, List.append_nil, xbin_eql]
      refine Test_dec (fun h6 => ?_) (fun h6 => ?_)
      · simp (decide := true) only [↓symD, symU, ↓XW_cond, Nat.reduceEqDiff, List.zip_cons_cons, List.zip_nil_left, Option.bind_some, Option.map_some, Option.map_none, List.map_toArray, List.map_cons, List.map_nil, ne_eq, List.append_toArray, List.nil_append, List.cons_append, List.append_nil, get_alloc_self, step_len, rdCause, rdIndex, part1_agg, part1_one, Nat.zero_add, fillL, splice, rep, List.replicate_succ, List.replicate_zero, List.flatten_cons, List.flatten_nil, List.append_nil, List.nil_append, List.cons_append, Value.cells, List.append_assoc, and_self, true_and, and_true, List.size_toArray, List.length_cons, List.length_nil, Nat.zero_add, ↓reduceIte, List.take_zero, List.drop_zero, List.drop_succ_cons, List.take_succ_cons, Nat.reduceAdd, Nat.reduceLeDiff, Nat.reduceEqDiff, allOne_int, allOne_nil, List.toList_toArray, boxc_agg, blkOf_ptr, stv_cells, Nat.add_zero]
        exact fin _ hx2 (by simp [consumes, h6]) _ (get_alloc_self (S.alloc (.cells r.cs 41 11 true [])) (.cells (orig r.ev).cs 35 5 true [])) (by simp)
      · simp (decide := true) only [↓symD, symU, ↓XW_cond, Nat.reduceEqDiff, List.zip_cons_cons, List.zip_nil_left, Option.bind_some, Option.map_some, Option.map_none, List.map_toArray, List.map_cons, List.map_nil, ne_eq, List.append_toArray, List.nil_append, List.cons_append, List.append_nil]
        rw [if_neg (by simp [consumes, h3, h5, h6])]
        exact ⟨Ext.alloc _ _, trivial⟩

theorem feeds1_any (x m : Msg) (id id2 : Nat) (S : St) (t t2 : TypeId) (an an2 : List Nat) (mi mi2 : Bool) (hid : id < S.next) (hm : S.get id = .cells m.cs t 5 mi an) (hid2 : id2 < S.next) (hp : S.get id2 = .cells [.pointer (some ⟨id, 0, none⟩)] t2 1 mi2 an2) :
    XC Try.prog 44 #[x.v, .pointer (some ⟨id2, 0, none⟩)] S fun r S' => Ext S S' ∧ r = .bool (decide (x = m)) := by
  refine XC_body XF44 ?_
  have e1 : (Blk.cells [.pointer (some ⟨id, 0, none⟩)] t2 1 mi2 an2).rd 0 1 = some [.pointer (some ⟨id, 0, none⟩)] := rfl
  have g1 : (S.alloc (.cells x.cs 35 5 true [])).get id = .cells m.cs t 5 mi an := by rw [get_alloc_ne _ _ _ (by omega)]; exact hm
  have g2 : (S.alloc (.cells x.cs 35 5 true [])).get id2 = .cells [.pointer (some ⟨id, 0, none⟩)] t2 1 mi2 an2 := by rw [get_alloc_ne _ _ _ (by omega)]; exact hp
  have n1 : id < S.next + 1 := by omega
  have n2 : id2 < S.next + 1 := by omega
  simp (decide := true) only [↓symD, symU, ↓XW_cond, Nat.reduceEqDiff, List.zip_cons_cons, List.zip_nil_left, Option.bind_some, Option.map_some, Option.map_none, List.map_toArray, List.map_cons, List.map_nil, ne_eq, List.append_toArray, List.nil_append, List.cons_append, List.append_nil, xf44, boxc_msg, msg_len, get_alloc_self, rdM, g1, g2, e1, part1_agg, part1_one, eqfv_msg, notIf, if_false, n1, n2]
  exact ⟨Ext.alloc _ _, trivial⟩
end
end Go.Proofs.Ytolfpchcmiljpaa

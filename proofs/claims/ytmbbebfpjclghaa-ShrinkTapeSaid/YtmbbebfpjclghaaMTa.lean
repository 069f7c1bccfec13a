/- Questions, answers, events: how they lie in memory; the order of questions. A question is held in a Msg: node, handler, count, kind ('index'), index ('copy'). Questions are compared. Questions are sorted: up to twelve. The keys of a map of questions, sorted: whatever order its walk takes. Maps from questions to numbers. maps.Equal: whatever order its walk takes. SortedFunc over the keys of a map, and maps.Equal: functions that are shown by hand. -/
import Derived.Test.YtmbbebfpjclghaaP
import Derived.Test.YtmbbebfpjclghaaMst
import Derived.Test.YtmbbebfpjclghaaMmk
import Derived.Test.YtmbbebfpjclghaaMsy
import Derived.Test.YtmbbebfpjclghaaMnc
set_option linter.unusedSimpArgs false
set_option linter.unusedSectionVars false
namespace Go.Proofs.Ytmbbebfpjclghaa
open Go Go.RowKit

structure Msg where
  node : Int
  handler : Int
  count : Int
  index : Int
  copy : Int
  deriving DecidableEq
structure Ans where
  q : Msg
  n : Int
  deriving DecidableEq
structure Evt where
  kind : Int
  node : Int
  arg : Int
  msg : Msg
  deriving DecidableEq

theorem Msg.eq_iff (m m' : Msg) : m = m' ↔ m.node = m'.node ∧ m.handler = m'.handler ∧ m.count = m'.count ∧ m.index = m'.index ∧ m.copy = m'.copy := by
  obtain ⟨a, b, c, d, e⟩ := m
  obtain ⟨a', b', c', d', e'⟩ := m'
  simp only [Msg.mk.injEq]
theorem Ans.eq_iff (x y : Ans) : x = y ↔ x.q = y.q ∧ x.n = y.n := by
  obtain ⟨a, b⟩ := x
  obtain ⟨a', b'⟩ := y
  simp only [Ans.mk.injEq]
theorem Evt.eq_iff (x y : Evt) : x = y ↔ x.kind = y.kind ∧ x.node = y.node ∧ x.arg = y.arg ∧ x.msg = y.msg := by
  obtain ⟨a, b, c, d⟩ := x
  obtain ⟨a', b', c', d'⟩ := y
  simp only [Evt.mk.injEq]

def Msg.cs (m : Msg) : List Value := [.int .i64 m.node, .int .i64 m.handler, .int .i64 m.count, .int .i64 m.index, .int .i64 m.copy]
def Ans.cs (a : Ans) : List Value := [.int .i64 a.q.node, .int .i64 a.q.handler, .int .i64 a.q.count, .int .i64 a.q.index, .int .i64 a.q.copy, .int .i64 a.n]
def Evt.cs (e : Evt) : List Value := [.int .i64 e.kind, .int .i64 e.node, .int .i64 e.arg, .int .i64 e.msg.node, .int .i64 e.msg.handler, .int .i64 e.msg.count, .int .i64 e.msg.index, .int .i64 e.msg.copy]
instance : Enc Msg := ⟨5, Msg.cs, fun _ => rfl, fun _ => rfl, by decide⟩
instance : Enc Ans := ⟨6, Ans.cs, fun _ => rfl, fun _ => rfl, by decide⟩
instance : Enc Evt := ⟨8, Evt.cs, fun _ => rfl, fun _ => rfl, by decide⟩
abbrev Msg.v (m : Msg) : Value := .agg m.cs.toArray
abbrev Ans.v (a : Ans) : Value := .agg a.cs.toArray
abbrev Evt.v (e : Evt) : Value := .agg e.cs.toArray

theorem eqfv_msg (neg : Bool) (m m' : Msg) : eqfv [1, 1, 1, 1, 1] neg m.v m'.v = some (.bool (notIf neg (decide (m = m')))) := by
  have e : decide (m = m') = (m.node == m'.node && (m.handler == m'.handler && (m.count == m'.count && (m.index == m'.index && m.copy == m'.copy)))) := by
    rw [Bool.eq_iff_iff]
    simp [Msg.eq_iff]
  rw [e]
  simp [eqfv, Msg.cs, eqL, eq1]
theorem eqfv_ans (neg : Bool) (x y : Ans) : eqfv [1, 1, 1, 1, 1, 1] neg x.v y.v = some (.bool (notIf neg (decide (x = y)))) := by
  have e : decide (x = y) = (x.q.node == y.q.node && (x.q.handler == y.q.handler && (x.q.count == y.q.count && (x.q.index == y.q.index && (x.q.copy == y.q.copy && x.n == y.n))))) := by
    rw [Bool.eq_iff_iff]
    simp [Ans.eq_iff, Msg.eq_iff, and_assoc]
  rw [e]
  simp [eqfv, Ans.cs, eqL, eq1]
theorem eqfv_evt (neg : Bool) (x y : Evt) : eqfv [1, 1, 1, 1, 1, 1, 1, 1] neg x.v y.v = some (.bool (notIf neg (decide (x = y)))) := by
  have e : decide (x = y) = (x.kind == y.kind && (x.node == y.node && (x.arg == y.arg && (x.msg.node == y.msg.node && (x.msg.handler == y.msg.handler && (x.msg.count == y.msg.count && (x.msg.index == y.msg.index && x.msg.copy == y.msg.copy))))))) := by
    rw [Bool.eq_iff_iff]
    simp [Evt.eq_iff, Msg.eq_iff, and_assoc]
  rw [e]
  simp [eqfv, Evt.cs, eqL, eq1]

theorem RdS.ans {S : St} {v : Value} {l : List Ans} (h : RdS S v l) (i : Nat) (hi : i < l.length) : ∃ id o, iav 6 v (.int .i64 i) = some (.pointer (some ⟨id, o, none⟩)) ∧ id < S.next ∧ (S.get id).rd o 6 = some l[i].cs := h.get .i64 i hi
theorem RdS.evt {S : St} {v : Value} {l : List Evt} (h : RdS S v l) (i : Nat) (hi : i < l.length) : ∃ id o, iav 8 v (.int .i64 i) = some (.pointer (some ⟨id, o, none⟩)) ∧ id < S.next ∧ (S.get id).rd o 8 = some l[i].cs := h.get .i64 i hi
theorem RdS.msg {S : St} {v : Value} {l : List Msg} (h : RdS S v l) (i : Nat) (hi : i < l.length) : ∃ id o, iav 5 v (.int .i64 i) = some (.pointer (some ⟨id, o, none⟩)) ∧ id < S.next ∧ (S.get id).rd o 5 = some l[i].cs := h.get .i64 i hi
theorem part1_agg (l : List Value) : part1 true l = some (.agg l.toArray) := Eq.trans rfl rfl
theorem part1_one (v : Value) : part1 false [v] = some v := Eq.trans rfl rfl

theorem boxc_slice (a : Option Addr) (n c : Nat) : boxc (.slice a n c) = some [.slice a n c] := by simp [boxc, Value.cells, allOne, Value.oneCell']
theorem XLoop_at {P : Program} [Prim P] {c : XCode} {fe : FEnv} {S : St} {Q : Ex → FEnv → St → Prop} (h : ∀ S', S' = S → @XLoop P _ ⟨(c, fe, S', Q)⟩) : @XLoop P _ ⟨(c, fe, S, Q)⟩ := h S rfl
theorem Own.putB {α : Type} [Enc α] {S : St} {b : Nat} {v : Value} {l : List α} (h : Own S b v l) {id : Nat} (hid : id < b) (k : Blk) : Own (S.put id k) b v l := by
  rcases h with h | ⟨j, t, an, rfl, h1, h2, h3, h4⟩
  · exact .inl h
  · exact .inr ⟨j, t, an, rfl, by rw [St.get_put, if_neg (by omega)]; exact h1, h2, by simpa using h3, h4⟩
theorem Ext.putB {S S' : St} (h : Ext S S') {id : Nat} (hid : S.next ≤ id) (k : Blk) : Ext S (S'.put id k) :=
  ⟨by simpa using h.next, fun j hj => by rw [St.get_put, if_neg (by omega)]; exact h.get j hj⟩
theorem Own.boxc {α : Type} [Enc α] {S : St} {b : Nat} {v : Value} {l : List α} (h : Own S b v l) : boxc v = some [v] := by
  rcases h with ⟨rfl, _⟩ | ⟨j, t, an, rfl, _⟩ <;> exact boxc_slice _ _ _
/-- a round that goes on. -/
theorem XY_roundN {P : Program} [Prim P] {id : Nat} {env : Array Value} {L : LoopC} {xa xb : XCode} {args : Array Value} {S : St} {Q : Value → St → Prop} (hget : S.get id = .loop env L none) (hL : XL P L = some (xa, xb)) (hn : L.n ≤ env.size) (hsz : args.size = L.ps.size)
    (h : XW P xa (updL (toF env) (L.ps.toList.zip args.toList)) (S.put id .gone) (fun e fe1 S1 => e = .normal ∧ XW P xb fe1 S1 (fun ex _ S2 => ex = .normal ∧ Q (.bool true) (S2.put id (.loop env L none))))) : XG P (.yield id) args S Q := by
  refine XY_round hget hL hn hsz (XW.mono (fun e fe S hh => ?_) h)
  refine ⟨hh.1, XW.mono (fun e fe S hh => ?_) hh.2⟩
  obtain ⟨rfl, hh⟩ := hh
  exact hh

theorem stAll {α : Type} [Enc α] (a : α) (c : List Value) (hc : c.length = Enc.w α) (t : TypeId) : stv (Enc.w α) (Enc.e a) 0 (.cells c t (Enc.w α) true []) = some (Enc.e a, t, Enc.w α, []) := by
  rw [stv_cells, if_pos ⟨Enc.len a, by omega⟩]
  unfold splice
  rw [Enc.len, Nat.zero_add, List.take_zero, List.nil_append, List.drop_of_length_le (by omega), List.append_nil]
theorem lenMsg (m : Msg) : m.cs.length = 5 := Eq.trans rfl rfl
theorem allOneMsg (m : Msg) : allOne m.cs = true := Eq.trans rfl rfl
theorem rdMsg (m : Msg) (t : TypeId) (mi : Bool) (an : List Nat) : (Blk.cells m.cs t 5 mi an).rd 0 5 = some m.cs := Eq.trans rfl rfl
theorem stMsg (m : Msg) (t : TypeId) : stv 5 m.cs 0 (.cells [.int .i64 0, .int .i64 0, .int .i64 0, .int .i64 0, .int .i64 0] t 5 true []) = some (m.cs, t, 5, []) := stAll m _ rfl t
theorem tkMsg (m : Msg) : List.take 5 m.cs = m.cs := Eq.trans rfl rfl
theorem fillMsg (m : Msg) : fillL [.int .i64 0, .int .i64 0, .int .i64 0, .int .i64 0, .int .i64 0] [(0, 5, m.v)] = some m.cs := Eq.trans rfl rfl
theorem lenAns (m : Ans) : m.cs.length = 6 := Eq.trans rfl rfl
theorem allOneAns (m : Ans) : allOne m.cs = true := Eq.trans rfl rfl
theorem rdAns (m : Ans) (t : TypeId) (mi : Bool) (an : List Nat) : (Blk.cells m.cs t 6 mi an).rd 0 6 = some m.cs := Eq.trans rfl rfl
theorem stAns (m : Ans) (t : TypeId) : stv 6 m.cs 0 (.cells [.int .i64 0, .int .i64 0, .int .i64 0, .int .i64 0, .int .i64 0, .int .i64 0] t 6 true []) = some (m.cs, t, 6, []) := stAll m _ rfl t
theorem tkAns (m : Ans) : List.take 6 m.cs = m.cs := Eq.trans rfl rfl
theorem fillAns (m : Ans) : fillL [.int .i64 0, .int .i64 0, .int .i64 0, .int .i64 0, .int .i64 0, .int .i64 0] [(0, 6, m.v)] = some m.cs := Eq.trans rfl rfl
theorem lenEvt (m : Evt) : m.cs.length = 8 := Eq.trans rfl rfl
theorem allOneEvt (m : Evt) : allOne m.cs = true := Eq.trans rfl rfl
theorem rdEvt (m : Evt) (t : TypeId) (mi : Bool) (an : List Nat) : (Blk.cells m.cs t 8 mi an).rd 0 8 = some m.cs := Eq.trans rfl rfl
theorem stEvt (m : Evt) (t : TypeId) : stv 8 m.cs 0 (.cells [.int .i64 0, .int .i64 0, .int .i64 0, .int .i64 0, .int .i64 0, .int .i64 0, .int .i64 0, .int .i64 0] t 8 true []) = some (m.cs, t, 8, []) := stAll m _ rfl t
theorem tkEvt (m : Evt) : List.take 8 m.cs = m.cs := Eq.trans rfl rfl
theorem fillEvt (m : Evt) : fillL [.int .i64 0, .int .i64 0, .int .i64 0, .int .i64 0, .int .i64 0, .int .i64 0, .int .i64 0, .int .i64 0] [(0, 8, m.v)] = some m.cs := Eq.trans rfl rfl

def cmpI (a b : Int) : Int := if a < b then -1 else if b < a then 1 else 0

/-- the first pair of different numbers decides. -/
def numI : List Int → Int
  | a :: b :: r => if cmpI a b = 0 then numI r else cmpI a b
  | _ => 0

theorem numI_step {l : List Int} {k : Nat} (h : k + 1 < l.length) : numI (l.drop k) = if cmpI l[k] l[k + 1] = 0 then numI (l.drop (k + 2)) else cmpI l[k] l[k + 1] := by
  rw [List.drop_eq_getElem_cons (by omega : k < l.length), List.drop_eq_getElem_cons h, numI]
theorem numI_end {l : List Int} {k : Nat} (h : ¬ k + 1 < l.length) : numI (l.drop k) = 0 := by
  match hd : l.drop k with
  | [] => rfl
  | [_] => rfl
  | a :: b :: r =>
    have := congrArg List.length hd
    simp at this
    omega

/-- the first number that is not zero. -/
def orI : List Int → Int
  | [] => 0
  | a :: r => if a = 0 then orI r else a

def cmpM (m m' : Msg) : Int := orI [numI [m.node, m'.node, m.handler, m'.handler, m.count, m'.count], numI [m.index, m'.index, m.copy, m'.copy]]

/-- the order of names, said plainly. -/
def ltM (a b : Msg) : Prop :=
  a.node < b.node ∨ (a.node = b.node ∧ (a.handler < b.handler ∨ (a.handler = b.handler ∧ (a.count < b.count ∨ (a.count = b.count ∧ (a.index < b.index ∨ (a.index = b.index ∧ a.copy < b.copy)))))))

instance (a b : Msg) : Decidable (ltM a b) := by unfold ltM; infer_instance

theorem cmpI_cases (a b : Int) : (a < b ∧ cmpI a b = -1) ∨ (a = b ∧ cmpI a b = 0) ∨ (b < a ∧ cmpI a b = 1) := by
  unfold cmpI
  by_cases h : a < b
  · exact .inl ⟨h, if_pos h⟩
  · by_cases h' : b < a
    · exact .inr (.inr ⟨h', by rw [if_neg h, if_pos h']⟩)
    · exact .inr (.inl ⟨by omega, by rw [if_neg h, if_neg h']⟩)
theorem cmpM_cases (a b : Msg) : (ltM a b ∧ cmpM a b = -1) ∨ (a = b ∧ cmpM a b = 0) ∨ (ltM b a ∧ cmpM a b = 1) := by
  have e : cmpM a b = if cmpI a.node b.node = 0 then if cmpI a.handler b.handler = 0 then if cmpI a.count b.count = 0 then if cmpI a.index b.index = 0 then cmpI a.copy b.copy else cmpI a.index b.index else cmpI a.count b.count else cmpI a.handler b.handler else cmpI a.node b.node := by
    unfold cmpM orI orI orI numI numI numI numI
    generalize cmpI a.node b.node = x1
    generalize cmpI a.handler b.handler = x2
    generalize cmpI a.count b.count = x3
    generalize cmpI a.index b.index = x4
    generalize cmpI a.copy b.copy = x5
    by_cases h1 : x1 = 0 <;> by_cases h2 : x2 = 0 <;> by_cases h3 : x3 = 0 <;> by_cases h4 : x4 = 0 <;> by_cases h5 : x5 = 0 <;> simp [h1, h2, h3, h4, h5]
  rw [e]
  unfold ltM
  rcases cmpI_cases a.node b.node with ⟨h, e⟩ | ⟨h, e⟩ | ⟨h, e⟩
  · left; simp [e, h]
  · rw [if_pos e]
    rcases cmpI_cases a.handler b.handler with ⟨h2, e2⟩ | ⟨h2, e2⟩ | ⟨h2, e2⟩
    · left; simp [e2, h, h2]
    · rw [if_pos e2]
      rcases cmpI_cases a.count b.count with ⟨h3, e3⟩ | ⟨h3, e3⟩ | ⟨h3, e3⟩
      · left; simp [e3, h, h2, h3]
      · rw [if_pos e3]
        rcases cmpI_cases a.index b.index with ⟨h4, e4⟩ | ⟨h4, e4⟩ | ⟨h4, e4⟩
        · left; simp [e4, h, h2, h3, h4]
        · rw [if_pos e4]
          rcases cmpI_cases a.copy b.copy with ⟨h5, e5⟩ | ⟨h5, e5⟩ | ⟨h5, e5⟩
          · left; simp [e5, h, h2, h3, h4, h5]
          · right; left; exact ⟨(Msg.eq_iff a b).2 ⟨h, h2, h3, h4, h5⟩, e5⟩
          · right; right; simp [e5, h, h2, h3, h4, h5]
        · right; right; simp [e4, h, h2, h3, h4]
      · right; right; simp [e3, h, h2, h3]
    · right; right; simp [e2, h, h2]
  · right; right; simp [e, h]
theorem ltM_trans {a b c : Msg} (h : ltM a b) (k : ltM b c) : ltM a c := by unfold ltM at *; omega
theorem ltM_irrefl (a : Msg) : ¬ ltM a a := by unfold ltM; omega
theorem cmpM_neg (a b : Msg) : cmpM a b < 0 ↔ ltM a b := by
  rcases cmpM_cases a b with ⟨h, e⟩ | ⟨h, e⟩ | ⟨h, e⟩
  · simp [e, h]
  · subst h; rw [e]; exact ⟨fun h => by omega, fun h => absurd h (ltM_irrefl _)⟩
  · rw [e]; exact ⟨fun h => by omega, fun k => absurd (ltM_trans h k) (ltM_irrefl _)⟩
theorem cmpM_zero (a b : Msg) : cmpM a b = 0 ↔ a = b := by
  rcases cmpM_cases a b with ⟨h, e⟩ | ⟨h, e⟩ | ⟨h, e⟩
  · rw [e]; exact ⟨fun h => by omega, fun k => by subst k; exact absurd h (ltM_irrefl _)⟩
  · exact ⟨fun _ => h, fun _ => e⟩
  · rw [e]; exact ⟨fun h => by omega, fun k => by subst k; exact absurd h (ltM_irrefl _)⟩

end Go.Proofs.Ytmbbebfpjclghaa

set_option linter.unusedSimpArgs false
set_option linter.unusedSectionVars false
set_option maxRecDepth 10000
namespace Go.Proofs.Ytmbbebfpjclghaa
open Go Go.RowKit

theorem boxc_msg (m : Msg) : boxc (.agg m.cs.toArray) = some m.cs := Eq.trans rfl rfl
theorem boxc_evt (m : Evt) : boxc (.agg m.cs.toArray) = some m.cs := Eq.trans rfl rfl
theorem boxc_ans (m : Ans) : boxc (.agg m.cs.toArray) = some m.cs := Eq.trans rfl rfl
theorem boxc_int (k : IntKind) (n : Int) : boxc (.int k n) = some [.int k n] := Eq.trans rfl rfl
theorem boxc_three (a b c : Int) : boxc (.agg [.int .i64 a, .int .i64 b, .int .i64 c].toArray) = some [.int .i64 a, .int .i64 b, .int .i64 c] := Eq.trans rfl rfl
theorem RdS.int {S : St} {v : Value} {l : List Int} (h : RdS S v l) (i : Nat) (hi : i < l.length) : ∃ id o, iav 1 v (.int .i64 i) = some (.pointer (some ⟨id, o, none⟩)) ∧ id < S.next ∧ (S.get id).rd o 1 = some [.int .i64 l[i]] := h.get .i64 i hi
/-- a slice that was just made. -/
theorem RdS.made (S : St) (l : List Int) (t : TypeId) (n : Nat) (hn : n = l.length) : RdS (S.alloc (.cells (l.map fun n => Value.int .i64 n) t 1 true [])) (.slice (some ⟨S.next, 0, none⟩) n n) l := by
  subst hn
  have e : encs l = l.map fun n => Value.int .i64 n := by
    induction l with
    | nil => rfl
    | cons a l ih => rw [encs_cons, ih]; rfl
  refine .inr ⟨S.next, 0, l.length, _, t, true, [], rfl, Nat.le_refl _, by simp, by rw [get_alloc_self]; rfl, ?_, ?_⟩
  · show 0 + l.length * 1 ≤ _
    simp
  · rw [e, List.drop_zero, List.take_of_length_le]
    show _ ≤ l.length * 1
    simp

section
variable [Prim Try.prog]

theorem isNaN_any (a : Int) (S : St) : XC Try.prog 50 #[.int .i64 a] S fun r S' => S' = S ∧ r = .bool false := by
  refine XC_body XF50 ?_
  simp (decide := true) only [↓XW_ret, ↓XW_region, ↓XW_seq, ↓bindN_normal, ↓atEnd_ret, ↓XO_nil, ↓XO_cons, ↓XS_mv, ↓XS_bin, ↓fev_tmp, ↓fev_const, ↓upd_same, ↓upd_ne, ↓fe0_zero, Now_any, Got_some, xrs_one, xr1_tmp, ne_eq, xf50, xbin_neq]
  simp

theorem compare_any (a b : Int) (S : St) : XC Try.prog 49 #[.int .i64 a, .int .i64 b] S fun r S' => S' = S ∧ r = .int .i64 (cmpI a b) := by
  refine XC_body XF49 ?_
  simp (decide := true) only [↓XW_region, ↓XW_seq, ↓bindN_normal, ↓XO_nil, ↓XO_cons, ↓XS_mv, ↓XS_call, ↓fev_tmp, ↓fev_const, ↓upd_same, ↓upd_ne, ↓fe0_zero, Now_any, List.map_toArray, List.map_cons, List.map_nil, ne_eq, xf49]
  refine XCall.of (isNaN_any a S) ?_
  rintro _ _ ⟨rfl, rfl⟩
  simp (decide := true) only [↓XW_region, ↓XW_seq, ↓bindN_normal, ↓XO_nil, ↓XO_cons, ↓XS_mv, ↓XS_call, ↓fev_tmp, ↓upd_same, ↓upd_ne, ↓fe0_zero, ↓fe0_succ, Now_any, List.map_toArray, List.map_cons, List.map_nil, ne_eq]
  refine XCall.of (isNaN_any b _) ?_
  rintro _ _ ⟨rfl, rfl⟩
  simp (decide := true) only [↓XW_skip, ↓XW_region, ↓XW_seq, ↓XW_cond, ↓bindN_normal, ↓XO_nil, ↓XO_cons, ↓XS_mv, ↓XS_bin, ↓fev_tmp, ↓upd_same, ↓upd_ne, ↓fe0_zero, ↓fe0_succ, Now_any, Got_some, Test_false, ne_eq, xbin_lss]
  unfold cmpI
  refine Test_dec (fun h => ?_) (fun h => ?_)
  · simp (decide := true) only [↓XW_ret, ↓XW_region, ↓XW_seq, ↓bindN_normal, ↓bindN_ret, ↓atEnd_ret, ↓XO_nil, ↓XO_cons, ↓XS_mv, ↓fev_const, ↓upd_same, Now_any, Got_some, xrs_one, xr1_tmp, h, if_true, and_self]
  simp (decide := true) only [↓XW_skip, ↓XW_region, ↓XW_seq, ↓XW_cond, ↓bindN_normal, ↓XO_nil, ↓XO_cons, ↓XS_mv, ↓XS_bin, ↓fev_tmp, ↓upd_same, ↓upd_ne, ↓fe0_zero, ↓fe0_succ, Now_any, Got_some, ne_eq, xbin_gtr]
  refine Test_dec (fun h' => ?_) (fun h' => ?_)
  · simp (decide := true) only [↓XW_ret, ↓XW_region, ↓XW_seq, ↓bindN_normal, ↓bindN_ret, ↓atEnd_ret, ↓XO_nil, ↓XO_cons, ↓XS_mv, ↓fev_const, ↓upd_same, Now_any, Got_some, xrs_one, xr1_tmp, true_and]
    rw [if_neg h, if_pos h']
  · simp (decide := true) only [↓XW_skip, ↓XW_ret, ↓XW_region, ↓XW_seq, ↓bindN_normal, ↓atEnd_ret, ↓XO_nil, ↓XO_cons, ↓XS_mv, ↓fev_const, ↓upd_same, Now_any, Got_some, xrs_one, xr1_tmp, true_and]
    rw [if_neg h, if_neg h']

theorem numbers_any {v : Value} {l : List Int} {S : St} (hv : RdS S v l) (hl : l.length ≤ 1000) : XC Try.prog 36 #[v] S fun r S' => S' = S ∧ r = .int .i64 (numI l) := by
  refine XC_body XF36 ?_
  simp (decide := true) only [↓XW_region, ↓XW_seq, ↓XW_block, ↓XW_stuck, ↓bindN_normal, ↓XO_nil, ↓XO_cons, ↓XS_mv, ↓fev_const, Now_any, xf36]
  refine XW_loop (fun k fe S' => S' = S ∧ fe 0 = v ∧ ∃ i : Nat, fe 3 = .int .i64 i ∧ k + i = l.length + 2 ∧ i ≤ l.length + 2 ∧ numI (l.drop i) = numI l) (l.length + 2) ?_ ?_
  · simp (decide := true) only [↓upd_same, ↓upd_ne, ↓fe0_zero, ne_eq, true_and]
    exact ⟨0, rfl, by omega, by omega, rfl⟩
  rintro k fe _ ⟨rfl, h0, i, h3, hk, hi, heq⟩
  have w1 : w64 ((i : Int) + 1) = ((i + 1 : Nat) : Int) := by rw [w64_ok (by omega) (by omega)]; omega
  simp (decide := true) only [↓XW_region, ↓XW_seq, ↓XW_cond, ↓bindN_normal, ↓XO_nil, ↓XO_cons, ↓XS_mv, ↓XS_bin, ↓XS_len, ↓fev_tmp, ↓fev_const, ↓upd_same, ↓upd_ne, Now_any, Got_some, ne_eq, h0, h3, hv.len, xbin_lss, xbin_add, w1]
  refine Test_dec (fun hlt => ?_) (fun hge => ?_)
  · obtain ⟨id, o, e1, e2, e3⟩ := hv.int i (by omega)
    obtain ⟨id', o', e1', e2', e3'⟩ := hv.int (i + 1) (by omega)
    simp (decide := true) only [↓XW_skip, ↓XW_ret, ↓XW_region, ↓XW_draw, ↓XW_seq, ↓XW_block, ↓bindN_normal, ↓atEnd_ret, ↓XO_nil, ↓XO_cons, List.zip_cons_cons, List.zip_nil_left, ↓XM_cons, ↓keepP_false, ↓earlyP_false, ↓XS_mv, ↓XS_call, ↓XS_load, ↓XS_ia, ↓XS_bin, ↓fev_tmp, ↓fev_const, ↓upd_same, ↓upd_ne, Now_any, Got_some, xrs_one, xr1_tmp, Option.bind_some, List.map_toArray, List.map_cons, List.map_nil, ↓ldv_ptr, ne_eq, h0, h3, e1, e3, xbin_add, w1, e1', e3', part1_one]
    refine XCall.of (compare_any _ _ _) ?_
    rintro _ _ ⟨rfl, rfl⟩
    simp (decide := true) only [↓XW_cond, ↓bindN_normal, ↓XO_nil, ↓XM_nil, ↓XM_cons, ↓keepP_false, ↓earlyP_false, ↓XS_mv, ↓fev_tmp, ↓upd_same, Now_any, Got_some, ne_eq, xbin_neq]
    rw [numI_step (by omega : i + 1 < l.length)] at heq
    refine Test_dec (fun hne => ?_) (fun hne => ?_)
    · simp (decide := true) only [↓XW_ret, ↓XW_region, ↓XW_seq, ↓bindN_normal, ↓bindN_ret, ↓bindB_ret, ↓bindL_ret, ↓atEnd_ret, ↓XO_nil, ↓XO_cons, ↓XS_mv, ↓fev_tmp, ↓upd_same, ↓upd_ne, Now_any, Got_some, xrs_one, xr1_tmp, ne_eq]
      rw [if_neg hne] at heq
      simp [heq]
    · have w2 : w64 ((i : Int) + 2) = ((i + 2 : Nat) : Int) := by rw [w64_ok (by omega) (by omega)]; omega
      simp (decide := true) only [↓XW_skip, ↓XW_region, ↓bindN_normal, ↓bindB_normal, ↓bindL_normal, ↓XO_nil, ↓XO_cons, ↓XS_mv, ↓XS_bin, ↓fev_tmp, ↓fev_const, ↓upd_same, ↓upd_ne, Now_any, Got_some, ne_eq, h3, h0, xbin_add, w2, true_and]
      rw [if_pos (by simpa using hne)] at heq
      exact ⟨k - 2, by omega, i + 2, rfl, by omega, by omega, heq⟩
  · simp (decide := true) only [↓XW_exit, ↓XW_ret, ↓XW_region, ↓XW_seq, ↓bindN_normal, ↓bindN_exit, ↓bindB_self, ↓bindL_exit, ↓atEnd_ret, ↓XO_nil, ↓XO_cons, ↓XS_mv, ↓fev_const, ↓upd_same, Now_any, Got_some, xrs_one, xr1_tmp, true_and]
    rw [← heq, numI_end (by omega)]

theorem or_any {v : Value} {l : List Int} {S : St} (hv : RdS S v l) (hl : l.length ≤ 1000) : XC Try.prog 34 #[v] S fun r S' => S' = S ∧ r = .int .i64 (orI l) := by
  refine XC_body XF34 ?_
  simp (decide := true) only [↓XW_region, ↓XW_seq, ↓XW_block, ↓XW_stuck, ↓bindN_normal, ↓XO_nil, ↓XO_cons, ↓XS_mv, ↓XS_len, ↓fev_tmp, ↓fev_const, ↓upd_same, ↓upd_ne, ↓fe0_zero, Now_any, Got_some, ne_eq, xf34, hv.len]
  refine XW_loop (fun k fe S' => S' = S ∧ fe 3 = .int .i64 0 ∧ fe 6 = v ∧ fe 7 = .int .i64 l.length ∧ ∃ i : Nat, fe 8 = .int .i64 i ∧ k + i = l.length ∧ orI (l.drop i) = orI l) l.length ?_ ?_
  · simp (decide := true) only [↓upd_same, ↓upd_ne, ne_eq, true_and]
    exact ⟨0, rfl, by omega, rfl⟩
  rintro k fe _ ⟨rfl, h3, h6, h7, i, h8, hk, heq⟩
  simp (decide := true) only [↓XW_region, ↓XW_seq, ↓XW_cond, ↓bindN_normal, ↓XO_nil, ↓XO_cons, ↓XS_bin, ↓fev_tmp, ↓upd_same, Now_any, Got_some, h7, h8, xbin_lss]
  refine Test_dec (fun hlt => ?_) (fun hge => ?_)
  · obtain ⟨id, o, e1, e2, e3⟩ := hv.int i (by omega)
    simp (decide := true) only [↓XW_skip, ↓XW_region, ↓XW_seq, ↓XW_block, ↓XW_cond, ↓bindN_normal, ↓XO_nil, ↓XO_cons, ↓XS_mv, ↓XS_load, ↓XS_ia, ↓XS_bin, ↓fev_tmp, ↓upd_same, ↓upd_ne, Now_any, Got_some, Option.bind_some, ↓ldv_ptr, ne_eq, h3, h6, h8, e1, e3, xbin_neq, part1_one]
    rw [List.drop_eq_getElem_cons (by omega : i < l.length), orI] at heq
    refine Test_dec (fun hne => ?_) (fun hne => ?_)
    · simp (decide := true) only [↓XW_ret, ↓XW_region, ↓XW_seq, ↓bindN_normal, ↓bindN_ret, ↓bindB_ret, ↓bindL_ret, ↓atEnd_ret, ↓XO_nil, ↓XO_cons, ↓XS_mv, ↓fev_tmp, ↓upd_same, ↓upd_ne, Now_any, Got_some, xrs_one, xr1_tmp, ne_eq]
      rw [if_neg hne] at heq
      simp [heq]
    · have w1 : w64 ((i : Int) + 1) = ((i + 1 : Nat) : Int) := by rw [w64_ok (by omega) (by omega)]; omega
      simp (decide := true) only [↓XW_skip, ↓XW_region, ↓bindN_normal, ↓bindB_normal, ↓bindL_normal, ↓XO_nil, ↓XO_cons, ↓XS_mv, ↓XS_bin, ↓fev_tmp, ↓fev_const, ↓upd_same, ↓upd_ne, Now_any, Got_some, ne_eq, h8, h3, h6, h7, xbin_add, w1, true_and]
      rw [if_pos (by simpa using hne)] at heq
      exact ⟨k - 1, by omega, i + 1, rfl, by omega, heq⟩
  · simp (decide := true) only [↓XW_exit, ↓XW_ret, ↓XW_region, ↓XW_seq, ↓bindN_normal, ↓bindN_exit, ↓bindB_self, ↓bindL_exit, ↓atEnd_ret, ↓XO_nil, ↓XO_cons, ↓XS_mv, ↓fev_tmp, ↓upd_same, ↓upd_ne, Now_any, Got_some, xrs_one, xr1_tmp, ne_eq, h3, true_and]
    rw [← heq, List.drop_of_length_le (by omega)]
    rfl

theorem compareCause_any (a b c a' b' c' : Int) (S : St) :
    XC Try.prog 35 #[.agg [.int .i64 a, .int .i64 b, .int .i64 c].toArray, .agg [.int .i64 a', .int .i64 b', .int .i64 c'].toArray] S fun r S' => Ext S S' ∧ r = .int .i64 (numI [a, a', b, b', c, c']) := by
  refine XC_body XF35 ?_
  simp (decide := true) only [↓XW_region, ↓XW_seq, ↓bindN_normal, ↓XO_nil, ↓XO_cons, ↓XS_mv, ↓XS_call, ↓XS_load, ↓XS_fa, ↓XS_box, ↓XS_buildSlice, ↓fev_tmp, ↓fev_const, ↓upd_same, ↓upd_ne, ↓fe0_zero, ↓fe0_succ, Now_any, Got_some, Option.bind_some, List.map_toArray, List.map_cons, List.map_nil, ↓ldv_ptr, ↓ptrAdd_ptr, Need_true, ne_eq, List.nil_append, List.cons_append, List.append_nil, Nat.add_zero, next_alloc, St.get_alloc, next_alloc, ↓reduceIte, Nat.left_eq_add, Blk.rd_cells, List.length_cons, List.length_nil, List.drop_zero, List.drop_succ_cons, List.take_succ_cons, List.take_zero, part1_one, Nat.zero_add, Nat.add_assoc, Nat.reduceAdd, Nat.reduceLeDiff, fillL, splice, rep, List.replicate_succ, List.replicate_zero, List.flatten_cons, List.flatten_nil, List.append_nil, List.nil_append, List.cons_append, Value.cells, and_self, List.size_toArray, List.length_cons, List.length_nil, Nat.zero_add, ↓reduceIte, List.take_zero, List.drop_zero, List.drop_succ_cons, List.take_succ_cons, Nat.reduceAdd, Nat.reduceLeDiff, allOne_int, allOne_nil, List.toList_toArray, boxc_agg, Nat.add_zero, xf35]
  refine XCall.of (numbers_any (RdS.made _ [a, a', b, b', c, c'] _ 6 rfl) (by simp)) ?_
  rintro _ _ ⟨rfl, rfl⟩
  simp (decide := true) only [↓XW_ret, ↓bindN_normal, ↓atEnd_ret, ↓XO_nil, ↓XO_cons, ↓XS_mv, ↓fev_tmp, ↓upd_same, Now_any, Got_some, xrs_one, xr1_tmp, next_alloc]
  exact ⟨((Ext.alloc _ _).trans (Ext.alloc _ _)).trans (Ext.alloc _ _), trivial⟩

theorem compareQ_any (m m' : Msg) (S : St) :
    XC Try.prog 19 #[m.v, m'.v] S fun r S' => Ext S S' ∧ r = .int .i64 (cmpM m m') := by
  refine XC_body XF19 ?_
  simp (decide := true) only [↓XW_ret, ↓XW_region, ↓XW_draw, ↓XW_seq, ↓bindN_normal, ↓atEnd_ret, ↓XO_nil, ↓XO_cons, List.zip_cons_cons, List.zip_nil_left, ↓XM_cons, ↓keepP_false, ↓earlyP_false, ↓XS_mv, ↓XS_call, ↓XS_load, ↓XS_fa, ↓XS_box, ↓fev_tmp, ↓fev_const, ↓upd_same, ↓upd_ne, ↓fe0_zero, ↓fe0_succ, Now_any, Got_some, xrs_one, xr1_tmp, Option.bind_some, List.map_toArray, List.map_cons, List.map_nil, ↓ldv_ptr, ↓ptrAdd_ptr, ne_eq, Nat.add_zero, next_alloc, St.get_alloc, next_alloc, ↓reduceIte, Nat.left_eq_add, Blk.rd_cells, List.length_cons, List.length_nil, List.drop_zero, List.take_succ_cons, List.take_zero, part1_agg, Nat.zero_add, Nat.reduceAdd, Nat.reduceLeDiff, xf19, boxc_msg, Msg.cs]
  refine XCall.of (compareCause_any _ _ _ _ _ _ _) ?_
  rintro _ S1 ⟨hx, rfl⟩
  refine keepP.intro hx ?_
  have g0 := hx.get S.next (by simp only [next_alloc]; omega)
  have g1 := hx.get (S.next + 1) (by simp only [next_alloc]; omega)
  have hn := hx.next
  simp only [St.get_alloc, next_alloc, ↓reduceIte, Nat.left_eq_add, Nat.add_assoc, Nat.reduceAdd, reduceCtorEq] at g0 g1 hn
  simp (decide := true) only [↓XM_cons, ↓keepP_false, ↓earlyP_false, ↓XS_call, ↓XS_load, ↓XS_fa, ↓XS_buildSlice, ↓fev_tmp, ↓upd_same, ↓upd_ne, Now_any, Got_some, Option.bind_some, List.map_toArray, List.map_cons, List.map_nil, ↓ldv_ptr, ↓ptrAdd_ptr, ↓early_load, ↓Low_ptr, Need_true, ne_eq, List.nil_append, List.cons_append, List.append_nil, next_alloc, next_alloc, ↓reduceIte, Blk.rd_cells, List.length_cons, List.length_nil, List.drop_zero, List.drop_succ_cons, List.take_succ_cons, List.take_zero, part1_one, Nat.zero_add, Nat.add_assoc, Nat.reduceAdd, Nat.reduceLeDiff, Nat.lt_add_right_iff_pos, Nat.lt_add_one, fillL, splice, rep, List.replicate_succ, List.replicate_zero, List.flatten_cons, List.flatten_nil, List.append_nil, List.nil_append, List.cons_append, Value.cells, and_self, List.size_toArray, List.length_cons, List.length_nil, Nat.zero_add, ↓reduceIte, List.take_zero, List.drop_zero, List.drop_succ_cons, List.take_succ_cons, Nat.reduceAdd, Nat.reduceLeDiff, allOne_int, allOne_nil, List.toList_toArray, g0, g1]
  refine XCall.of (numbers_any (RdS.made _ [m.index, m'.index, m.copy, m'.copy] _ 4 rfl) (by simp)) ?_
  rintro _ _ ⟨rfl, rfl⟩
  simp (decide := true) only [↓XM_cons, ↓keepP_false, ↓earlyP_false, ↓XS_call, ↓XS_buildSlice, ↓fev_tmp, ↓upd_same, ↓upd_ne, Got_some, List.map_toArray, List.map_cons, List.map_nil, Need_true, ne_eq, List.nil_append, List.cons_append, List.append_nil, next_alloc, next_alloc, ↓reduceIte, List.length_cons, List.length_nil, List.drop_zero, List.drop_succ_cons, List.take_succ_cons, List.take_zero, Nat.zero_add, Nat.reduceAdd, Nat.reduceLeDiff, fillL, splice, rep, List.replicate_succ, List.replicate_zero, List.flatten_cons, List.flatten_nil, List.append_nil, List.nil_append, List.cons_append, Value.cells, and_self, List.size_toArray, List.length_cons, List.length_nil, Nat.zero_add, ↓reduceIte, List.take_zero, List.drop_zero, List.drop_succ_cons, List.take_succ_cons, Nat.reduceAdd, Nat.reduceLeDiff, allOne_int, allOne_nil, List.toList_toArray]
  refine XCall.of (or_any (RdS.made _ [_, _] _ 2 rfl) (by simp)) ?_
  rintro _ _ ⟨rfl, rfl⟩
  simp (decide := true) only [↓bindN_normal, ↓XM_nil, ↓XM_cons, ↓keepP_false, ↓earlyP_false, ↓XS_mv, ↓fev_tmp, ↓upd_same, Now_any]
  exact ⟨(((Ext.alloc _ _).trans (Ext.alloc _ _)).trans hx).trans ((Ext.alloc _ _).trans (Ext.alloc _ _)), rfl⟩
end
end Go.Proofs.Ytmbbebfpjclghaa

set_option linter.unusedSimpArgs false
set_option linter.unusedSectionVars false
set_option linter.unusedVariables false
set_option maxRecDepth 10000
namespace Go.Proofs.Ytmbbebfpjclghaa
open Go Go.RowKit

/-- sorted up to place i, but for what stands at j. -/
def AlmostTo (l : List Msg) (i j : Nat) : Prop := ∀ p q (hp : p < q) (hq : q < l.length), q ≤ i → q ≠ j → ltM (l[p]'(by omega)) l[q]
def SortedTo (l : List Msg) (i : Nat) : Prop := ∀ p q (hp : p < q) (hq : q < l.length), q < i → ltM (l[p]'(by omega)) l[q]

theorem SortedTo.almost {l : List Msg} {i : Nat} (h : SortedTo l i) : AlmostTo l i i := fun p q hp hq h1 h2 => h p q hp hq (by omega)
theorem ltM_total {a b : Msg} (h : ¬ ltM a b) (hne : a ≠ b) : ltM b a := by
  rcases cmpM_cases a b with h' | h' | h'
  · exact absurd h'.1 h
  · exact absurd h'.1 hne
  · exact h'.1
theorem AlmostTo.stop {l : List Msg} {i j : Nat} (h : AlmostTo l i j) (hn : l.Nodup) (hi : i < l.length) (hj : j ≤ i) (hs : ∀ h0 : 0 < j, ¬ ltM (l[j]'(by omega)) (l[j - 1]'(by omega))) : SortedTo l (i + 1) := by
  intro p q hp hq hqi
  by_cases e : q = j
  · subst e
    have h1 : ltM (l[q - 1]'(by omega)) l[q] := ltM_total (hs (by omega)) (fun e => by
      have := (List.getElem_inj hn).1 e
      omega)
    by_cases e2 : p = q - 1
    · subst e2; exact h1
    · exact ltM_trans (h p (q - 1) (by omega) (by omega) (by omega) (by omega)) h1
  · exact h p q hp hq (by omega) e
theorem AlmostTo.swap {l : List Msg} {i j : Nat} (h : AlmostTo l i j) (hi : i < l.length) (hj : j ≤ i) (h0 : 0 < j) (hs : ltM (l[j]'(by omega)) (l[j - 1]'(by omega))) :
    AlmostTo ((l.set j (l[j - 1]'(by omega))).set (j - 1) (l[j]'(by omega))) i (j - 1) := by
  intro p q hp hq hqi hqj
  simp only [List.length_set] at hq
  simp only [List.getElem_set]
  by_cases e1 : q = j
  · subst e1
    rw [if_neg (by omega : ¬ q - 1 = q), if_pos rfl]
    by_cases e2 : q - 1 = p
    · rw [if_pos e2]; exact hs
    · rw [if_neg e2, if_neg (by omega)]
      exact h p (q - 1) (by omega) (by omega) (by omega) (by omega)
  · rw [if_neg (by omega : ¬ j - 1 = q), if_neg (by omega : ¬ j = q)]
    by_cases e2 : j - 1 = p
    · rw [if_pos e2]
      exact h j q (by omega) hq hqi e1
    · rw [if_neg e2]
      by_cases e3 : j = p
      · rw [if_pos e3]
        exact h (j - 1) q (by omega) hq hqi e1
      · rw [if_neg e3]
        exact h p q hp hq hqi e1

section
variable [Prim Try.prog]

/-- a function value that compares questions. -/
def CmpV (f : Value) : Prop := f = .func (.func 19) #[] #[]

theorem insSort_any {v f : Value} {l : List Msg} {S : St} {b : Nat} (hv : Own S b v l) (hb : b ≤ S.next) (hl : l.length ≤ 1000) (hn : l.Nodup) (hf : CmpV f) :
    XC Try.prog 56 #[v, .int .i64 0, .int .i64 l.length, f] S fun _ S' => Fr b S S' ∧ ∃ l', Own S' b v l' ∧ l'.Perm l ∧ SortedTo l' l.length := by
  subst hf
  refine XC_body XF56 ?_
  simp (decide := true) only [↓symD, symU, xf56, xbin_add, w64_ok (n := 0 + 1) (by omega) (by omega)]
  refine XW_loop (fun k fe S' => fe 0 = v ∧ fe 1 = .int .i64 0 ∧ fe 2 = .int .i64 l.length ∧ fe 3 = .func (.func 19) #[] #[] ∧ ∃ i l', fe 8 = .int .i64 (i : Nat) ∧ k + i = l.length + 1 ∧ 1 ≤ i ∧ Fr b S S' ∧ Own S' b v l' ∧ l'.Perm l ∧ SortedTo l' i) l.length ?_ ?_
  · simp (decide := true) only [↓symD, ne_eq, true_and]
    exact ⟨1, l, rfl, by omega, by omega, Fr.refl _ _, hv, List.Perm.refl _, fun p q hp hq h => by omega⟩
  rintro k fe S1 ⟨h0, h1, h2, h3, i, l1, h8, hk, hi1, hf1, ho1, hp1, hs1⟩
  have hl1 := hp1.length_eq
  have w1 : w64 ((i : Int) + 1) = ((i + 1 : Nat) : Int) := by rw [w64_ok (by omega) (by omega)]; omega
  simp (decide := true) only [↓symD, symU, ↓XW_cond, ne_eq, h2, h8, xbin_lss]
  refine Test_dec (fun hlt => ?_) (fun hge => ?_)
  · have hil : i < l.length := by omega
    simp (decide := true) only [↓symD, symU, ne_eq, h8]
    refine XW_loop (fun m fe' S' => fe' 0 = v ∧ fe' 1 = .int .i64 0 ∧ fe' 2 = .int .i64 l.length ∧ fe' 3 = .func (.func 19) #[] #[] ∧ fe' 8 = .int .i64 (i : Nat) ∧ ∃ l2, fe' 9 = .int .i64 (m : Nat) ∧ m ≤ i ∧ Fr b S S' ∧ Own S' b v l2 ∧ l2.Perm l ∧ AlmostTo l2 i m) i ?_ ?_
    · simp (decide := true) only [↓symD, ne_eq, h0, h1, h2, h3, h8, true_and]
      exact ⟨l1, Nat.le_refl _, hf1, ho1, hp1, hs1.almost⟩
    rintro m fe2 S2 ⟨h0, h1, h2, h3, h8, l2, h9, hmi, hf2, ho2, hp2, hs2⟩
    have hl2 := hp2.length_eq
    by_cases hm : m = 0
    · subst hm
      simp (decide := true) only [↓symD, symU, ↓XW_cond, List.zip_cons_cons, List.zip_nil_left, ne_eq, h0, h1, h2, h3, h8, h9, xbin_gtr, decide_false, xbin_add, w1, true_and]
      refine ⟨k - 1, by omega, i + 1, l2, rfl, by omega, by omega, hf2, ho2, hp2, ?_⟩
      exact hs2.stop (hp2.nodup_iff.2 hn) (by omega) (by omega) fun h => absurd h (by omega)
    · have hg : decide ((m : Int) > 0) = true := by simp; omega
      have wm : w64 ((m : Int) - 1) = ((m - 1 : Nat) : Int) := by rw [w64_ok (by omega) (by omega)]; omega
      obtain ⟨i1, o1, p1, p2, p3⟩ := ho2.rd.msg m (by omega)
      obtain ⟨i2, o2, q1, q2, q3⟩ := ho2.rd.msg (m - 1) (by omega)
      simp (decide := true) only [↓symD, symU, ↓XW_cond, List.zip_cons_cons, List.zip_nil_left, Option.bind_some, List.map_toArray, List.map_cons, List.map_nil, ne_eq, List.append_toArray, List.nil_append, List.append_nil, h0, h1, h3, h9, xbin_gtr, hg, p1, p3, q1, q3, xbin_sub, wm, part1_agg]
      refine XCall.of (compareQ_any _ _ _) ?_
      rintro _ S3 ⟨hx3, rfl⟩
      simp (decide := true) only [↓symD, symU, ne_eq, xbin_lss]
      have hf3 : Fr b S S3 := hf2.trans (hx3.fr (Nat.le_trans hb hf2.next))
      have ho3 := ho2.mono hx3
      refine Test_dec (fun hneg => ?_) (fun hneg => ?_)
      · obtain ⟨i1, o1, p1, p2, p3⟩ := ho3.rd.msg m (by omega)
        obtain ⟨i2, o2, q1, q2, q3⟩ := ho3.rd.msg (m - 1) (by omega)
        obtain ⟨x1, y1, cs1, t1, z1, an1, s1, s2, s3, s4⟩ := ho3.store m (by omega) (l2[m - 1]'(by omega))
        have s1' : iav 5 v (.int .i64 m) = some (.pointer (some ⟨x1, y1, none⟩)) := s1
        obtain ⟨x2, y2, cs2, t2, z2, an2, r1, r2, r3, r4⟩ := s3.store (m - 1) (by simp; omega) (l2[m]'(by omega))
        have r1' : iav 5 v (.int .i64 (m - 1 : Nat)) = some (.pointer (some ⟨x2, y2, none⟩)) := r1
        have s2' : stv 5 (Msg.cs (l2[m - 1]'(by omega))) y1 (S3.get x1) = some (cs1, t1, z1, an1) := s2
        have r2' : stv 5 (Msg.cs (l2[m]'(by omega))) y2 ((S3.write x1 cs1 t1 z1 an1).get x2) = some (cs2, t2, z2, an2) := r2
        rw [p1] at s1'
        rw [q1] at r1'
        simp only [Option.some.injEq, Value.pointer.injEq, Addr.mk.injEq, and_true] at s1' r1'
        obtain ⟨rfl, rfl⟩ := s1'
        obtain ⟨rfl, rfl⟩ := r1'
        have hsw := hs2.swap (by omega) hmi (by omega) ((cmpM_neg _ _).1 hneg)
        have hpm := (List.set_set_perm (i := m) (j := m - 1) (show m < l2.length by omega) (show m - 1 < l2.length by omega)).trans hp2
        have hf4 := (hf3.trans s4).trans r4
        generalize l2[m]'(by omega) = a1 at *
        generalize l2[m - 1]'(by omega) = a2 at *
        simp (decide := true) only [↓symD, symU, List.zip_cons_cons, List.zip_nil_left, Option.bind_some, ne_eq, h0, h1, h2, h3, h8, h9, p1, p3, q1, q3, xbin_sub, wm, part1_agg, boxc_msg, blkOf_ptr, s2', r2', true_and]
        exact ⟨m - 1, by omega, _, rfl, by omega, hf4, r3, hpm, hsw⟩
      · simp (decide := true) only [↓symD, symU, ne_eq, h0, h1, h2, h3, h8, xbin_add, w1, true_and]
        refine ⟨k - 1, by omega, i + 1, l2, rfl, by omega, by omega, hf3, ho3, hp2, ?_⟩
        exact hs2.stop (hp2.nodup_iff.2 hn) (by omega) hmi fun h => fun hlt => hneg ((cmpM_neg _ _).2 hlt)
  · simp (decide := true) only [↓symD, symU]
    refine ⟨hf1, l1, ho1, hp1, fun p q hp hq h => hs1 p q hp hq (by omega)⟩

theorem xbin_geqU (a b : Int) : xbin .geq (.int .u64 a) (.int .u64 b) = some (.bool (decide (a ≥ b))) := Eq.trans rfl rfl
theorem cviv_u8 (n : Nat) (h : n ≤ 12) : cviv .u8 (.int .u64 n) = some (.int .u8 n) := by
  simp only [cviv]
  congr 2
  have : ∀ n : Nat, n ≤ 12 → IntKind.u8.wrap (n : Int) = n := by decide
  exact this n h
theorem XS_idxStr_any {x i : Operand} {ρ : Operand → Value} {S : St} {K : Value → St → Prop} {s : ByteArray} {n : Nat} (hx : ρ x = .string s) (hi : ρ i = .int .u8 n) (hn : n < s.size) (hK : ∀ b : Nat, K (.int .u8 b) S) : XS Try.prog (.idxStr x i) ρ S K := by
  refine ⟨_, S, ?_, hK (s[n]).toNat⟩
  simp only [xop, hx, hi, Int.toNat_natCast]
  rw [if_pos (by omega), getElem?_pos s n hn]
  rfl
theorem cviv_any (k : IntKind) (n : Int) : cviv .i64 (.int k n) = some (.int .i64 (IntKind.i64.wrap n)) := Eq.trans rfl rfl
theorem len64_any {n : Nat} (hn : n ≤ 12) (S : St) : XC Try.prog 65 #[.int .u64 n] S fun r S' => S' = S ∧ ∃ k, r = .int .i64 k := by
  refine XC_body XF65 ?_
  have h1 : decide ((n : Int) ≥ 4294967296) = false := by simp; omega
  have h2 : decide ((n : Int) ≥ 65536) = false := by simp; omega
  have h3 : decide ((n : Int) ≥ 256) = false := by simp; omega
  simp (decide := true) only [↓symD, symU, ↓XW_cond, ne_eq, xf65, xbin_geqU, h1, h2, h3, cviv_u8 n hn]
  refine XS_idxStr_any rfl rfl (Nat.lt_of_le_of_lt hn (by decide)) fun b => ?_
  simp (decide := true) only [↓symD, symU, ne_eq, cviv_any, xbin_add, true_and]
  exact ⟨_, rfl⟩

theorem len_any {n : Nat} (hn : n ≤ 12) (S : St) : XC Try.prog 48 #[.int .u64 n] S fun r S' => S' = S ∧ ∃ k, r = .int .i64 k := by
  refine XC_body XF48 ?_
  simp (decide := true) only [↓symD, symU, ↓XW_cond, List.map_toArray, List.map_cons, List.map_nil, ne_eq, xf48]
  refine XCall.of (len64_any hn S) ?_
  rintro _ _ ⟨rfl, k, rfl⟩
  simp (decide := true) only [↓symD, symU, true_and]
  exact ⟨k, rfl⟩

theorem pdq_any {v f : Value} {l : List Msg} {S : St} {b : Nat} (hv : Own S b v l) (hb : b ≤ S.next) (hl : l.length ≤ 12) (hn : l.Nodup) (hf : CmpV f) (x : Int) :
    XC Try.prog 47 #[v, .int .i64 0, .int .i64 l.length, .int .i64 x, f] S fun _ S' => Fr b S S' ∧ ∃ l', Own S' b v l' ∧ l'.Perm l ∧ SortedTo l' l.length := by
  refine XC_body XF47 ?_
  simp (decide := true) only [↓symD, symU, xf47]
  refine XW_loop (fun k fe S' => S' = S ∧ fe 0 = v ∧ fe 1 = .int .i64 0 ∧ fe 2 = .int .i64 l.length ∧ fe 4 = f) 1 ?_ ?_
  · simp (decide := true) only [↓symD, ne_eq, true_and]
  rintro k fe _ ⟨rfl, h0, h1, h2, h4⟩
  have w : w64 ((l.length : Int) - 0) = l.length := by rw [w64_ok (by omega) (by omega)]; omega
  have hd : decide ((l.length : Int) ≤ 12) = true := by simp; omega
  simp (decide := true) only [↓symD, symU, ↓XW_cond, List.map_toArray, List.map_cons, List.map_nil, ne_eq, h0, h1, h2, h4, xbin_sub, w, xbin_leq, hd]
  refine XCall.of (insSort_any hv hb (by omega) hn hf) ?_
  rintro _ S' h
  simp (decide := true) only [↓symD, symU]
  exact h

theorem sortFunc_any {v f : Value} {l : List Msg} {S : St} {b : Nat} (hv : Own S b v l) (hb : b ≤ S.next) (hl : l.length ≤ 12) (hn : l.Nodup) (hf : CmpV f) :
    XC Try.prog 32 #[v, f] S fun _ S' => Fr b S S' ∧ ∃ l', Own S' b v l' ∧ l'.Perm l ∧ SortedTo l' l.length := by
  refine XC_body XF32 ?_
  simp (decide := true) only [↓symD, symU, List.map_toArray, List.map_cons, List.map_nil, ne_eq, xf32, hv.rd.len, cviv_u64 (l.length : Int) (by omega) (by omega)]
  refine XCall.of (len_any hl S) ?_
  rintro _ _ ⟨rfl, k, rfl⟩
  simp (decide := true) only [↓symD, symU, List.map_toArray, List.map_cons, List.map_nil, ne_eq]
  refine XCall.of (pdq_any hv hb hl hn hf k) ?_
  rintro _ S' h
  simp (decide := true) only [↓symD, symU]
  exact h
end
end Go.Proofs.Ytmbbebfpjclghaa

set_option linter.unusedSimpArgs false
set_option linter.unusedSectionVars false
set_option linter.unusedVariables false
set_option maxRecDepth 10000
namespace Go.Proofs.Ytmbbebfpjclghaa
open Go Go.RowKit

/-- the entries of a map from questions to numbers. -/
def encE (es : List (Msg × Int × Nat)) : List (Value × Value × Nat) := es.map fun e => (e.1.v, .int .i64 e.2.1, e.2.2)

structure MapQ (S : St) (m : Nat) (es : List (Msg × Int × Nat)) (cl : Nat) : Prop where
  get : S.get m = .map (encE es) cl
  lt : ∀ e ∈ es, e.2.2 < cl
  nd : (es.map (·.2.2)).Nodup

theorem nd_inj {α β : Type} {es : List α} {f : α → β} (h : (es.map f).Nodup) {a b : α} (ha : a ∈ es) (hb : b ∈ es) (e : f a = f b) : a = b := by
  obtain ⟨i, hi, rfl⟩ := List.getElem_of_mem ha
  obtain ⟨j, hj, rfl⟩ := List.getElem_of_mem hb
  have := (List.getElem_inj (h₀ := by simpa using hi) (h₁ := by simpa using hj) h (i := i) (j := j)).1 (by simpa using e)
  subst this
  rfl
theorem nd_of_map {α β : Type} {l : List α} {f : α → β} (h : (l.map f).Nodup) : l.Nodup := (List.pairwise_map.1 h).imp fun h e => h (by rw [e])
theorem find_encE {es : List (Msg × Int × Nat)} (hnd : (es.map (·.2.2)).Nodup) {e : Msg × Int × Nat} (he : e ∈ es) : (encE es).find? (fun x => x.2.2 == e.2.2) = some (e.1.v, .int .i64 e.2.1, e.2.2) := by
  induction es with
  | nil => simp at he
  | cons x es ih =>
    simp only [encE, List.map_cons, List.find?_cons]
    simp only [List.map_cons, List.nodup_cons] at hnd
    rcases List.mem_cons.1 he with rfl | he
    · simp
    · have : (x.2.2 == e.2.2) = false := by
        simp only [beq_eq_false_iff_ne]
        intro h
        exact hnd.1 (h ▸ List.mem_map.2 ⟨e, he, rfl⟩)
      simp only [this]
      exact ih hnd.2 he

section
variable [Prim Try.prog] {B : Nat}

theorem keys1_any (hm : Try.prog.follows .mixedOrders = true) {y bx m cl : Nat} {es : List (Msg × Int × Nat)} {S : St} (J : List Msg → St → Prop) (hbx : (S.get bx).rd 0 1 = some [.map (some m)]) (hmap : MapQ S m es cl) (hmS : m < S.next) (h0 : J [] S)
    (hJ : ∀ ks S1 S2, J ks S1 → S1.next ≤ S2.next → S.next < S2.next → (∀ id, id ≠ S.next → id < S1.next → S2.get id = S1.get id) → J ks S2)
    (hY : ∀ ks k S1, J ks S1 → S.next < S1.next → k ∈ es.map (·.1) → ks.length < es.length → XG Try.prog (.yield y) #[k.v] S1 fun v S2 => v = .bool true ∧ J (ks ++ [k]) S2 ∧ S1.next ≤ S2.next ∧ S2.get S.next = S1.get S.next ∧ S2.get m = S1.get m) :
    NG Try.prog B (.func 33) #[.func (.yield y) #[] #[], .pointer (some ⟨bx, 0, none⟩)] S fun _ S2 => S.next < S2.next ∧ ∃ ks, ks.Perm (es.map (·.1)) ∧ J ks S2 := by
  have hmg := hmap.get
  refine NG_intro hm (XF_XF0 XF33) ?_
  simp only [xf33, NW_seq]
  refine NW_of hm _ _ _ _ ?_
  have hx1 : xextra .iterMap [.map (some m)] S = some (.pointer (some ⟨S.next, 0, none⟩), S.alloc (.mapIter (some m) cl [] cl)) := by simp only [xextra, hmg]
  simp (decide := true) only [↓symD, symU, Option.bind_some, List.map_cons, List.map_nil, ne_eq, hbx, part1_one, XS_extra, hx1]
  rw [NW_block]
  refine NW_loop (fun k fe S1 => fe 0 = .func (.yield y) #[] #[] ∧ fe 5 = .pointer (some ⟨S.next, 0, none⟩) ∧ S.next < S1.next ∧ S1.get m = .map (encE es) cl ∧
    ∃ ds : List (Msg × Int × Nat), (∀ d ∈ ds, d ∈ es) ∧ (ds.map (·.2.2)).Nodup ∧ k + ds.length = es.length ∧ S1.get S.next = .mapIter (some m) cl (ds.map (·.2.2)) cl ∧ J (ds.map (·.1)) S1) es.length ?_ ?_
  · refine ⟨rfl, rfl, by simp, by rw [St.get_alloc, if_neg (by omega)]; exact hmg, [], by simp, by simp, by simp, by rw [St.get_alloc, if_pos rfl]; rfl, ?_⟩
    exact hJ [] S _ h0 (by simp) (by simp) fun id h1 h2 => by rw [St.get_alloc, if_neg h1]
  rintro k fe S1 ⟨f0, f5, hn1, hm1, ds, hds, hnd, hk, hit, hJ1⟩
  rw [NW_seq]
  show NO _ _ _ _ _ _
  rw [NO_next]
  refine ⟨S.next, f5, .inr ⟨m, cl, ds.map (·.2.2), encE es, hit, hm1, ?_, fun hall => ?_, fun e he hnot => ?_⟩⟩
  · intro e he
    simp only [encE, List.mem_map] at he
    obtain ⟨e, he, rfl⟩ := he
    exact hmap.lt e he
  · refine NO_of hm _ _ _ _ ?_
    simp (decide := true) only [↓symD, symU]
    refine NW_of hm _ _ _ _ ?_
    simp (decide := true) only [↓symD, symU, ↓XW_cond]
    refine ⟨fun _ h => (by cases h), _, rfl, hn1, ds.map (·.1), ?_, hJ1⟩
    refine List.Perm.map _ ((List.perm_ext_iff_of_nodup (nd_of_map hnd) (nd_of_map hmap.nd)).2 fun e => ⟨hds e, fun he => ?_⟩)
    have h1 := hall (e.1.v, .int .i64 e.2.1, e.2.2) (List.mem_map.2 ⟨e, he, rfl⟩)
    obtain ⟨d, hd, hde⟩ := List.mem_map.1 h1
    rw [← nd_inj hmap.nd (hds d hd) he hde]
    exact hd
  · simp only [encE, List.mem_map] at he
    obtain ⟨e, he, rfl⟩ := he
    refine NO_of hm _ _ _ _ ?_
    simp (decide := true) only [↓symD, symU]
    refine NW_of hm _ _ _ _ ?_
    simp (decide := true) only [↓symD, symU, ↓XW_cond]
    have hxe : xextra .entMap [.pointer (some ⟨S.next, 0, none⟩)] (S1.put S.next (.mapIter (some m) cl (ds.map (·.2.2) ++ [e.2.2]) cl)) = some (.tuple #[e.1.v, .int .i64 e.2.1], S1.put S.next (.mapIter (some m) cl (ds.map (·.2.2) ++ [e.2.2]) cl)) := by
      have h1 : (S1.put S.next (.mapIter (some m) cl (ds.map (·.2.2) ++ [e.2.2]) cl)).get S.next = .mapIter (some m) cl (ds.map (·.2.2) ++ [e.2.2]) cl := by rw [St.get_put, if_pos rfl]
      have h2 : (S1.put S.next (.mapIter (some m) cl (ds.map (·.2.2) ++ [e.2.2]) cl)).get m = .map (encE es) cl := by rw [St.get_put, if_neg (by omega)]; exact hm1
      simp only [xextra, h1, h2, if_true, List.getLast?_concat, Option.bind_some, find_encE hmap.nd he, Option.map_some]
    have hS1n : (S1.put S.next (.mapIter (some m) cl (ds.map (·.2.2) ++ [e.2.2]) cl)).next = S1.next := rfl
    have hnd2 : ((ds ++ [e]).map (·.2.2)).Nodup := by
      rw [List.map_append, List.nodup_append]
      refine ⟨hnd, by simp, fun a ha b hb => ?_⟩
      simp only [List.map_cons, List.map_nil, List.mem_singleton] at hb
      subst hb
      intro e; subst e
      exact hnot ha
    have hkl : ds.length < es.length := by
      have := List.Nodup.length_le_of_subset (nd_of_map hnd2) (l₂ := es) (fun x hx => by
        rcases List.mem_append.1 hx with hx | hx
        · exact hds x hx
        · rw [List.mem_singleton.1 hx]; exact he)
      simp at this
      omega
    generalize hS2 : S1.put S.next (.mapIter (some m) cl (ds.map (·.2.2) ++ [e.2.2]) cl) = S2 at hxe hS1n ⊢
    simp (decide := true) only [↓symD, symU, Option.bind_some, List.map_toArray, List.map_cons, List.map_nil, ne_eq, Value.cells, List.length_cons, List.length_nil, Nat.zero_add, Nat.reduceAdd, List.toList_toArray, blkOf_ptr, XS_extra, List.map_cons, List.map_nil, f5, f0, hxe, boxc_msg, blkOf_ptr, get_alloc_self, stMsg, get_write_self, rdMsg, part1_agg, Option.bind_some]
    have hget : ∀ id, id ≠ S.next → id < S1.next → ((S2.alloc (.cells [.int .i64 0, .int .i64 0, .int .i64 0, .int .i64 0, .int .i64 0] 54 5 true [])).write S2.next e.1.cs 54 5 []).get id = S1.get id := fun id h1 h2 => by
      rw [get_write_ne _ _ _ _ _ _ (by omega), get_alloc_ne _ _ _ (by omega), ← hS2, St.get_put, if_neg h1]
    have hgit : ((S2.alloc (.cells [.int .i64 0, .int .i64 0, .int .i64 0, .int .i64 0, .int .i64 0] 54 5 true [])).write S2.next e.1.cs 54 5 []).get S.next = .mapIter (some m) cl (ds.map (·.2.2) ++ [e.2.2]) cl := by
      rw [get_write_ne _ _ _ _ _ _ (by omega), get_alloc_ne _ _ _ (by omega), ← hS2, St.get_put, if_pos rfl]
    have hn2 : ((S2.alloc (.cells [.int .i64 0, .int .i64 0, .int .i64 0, .int .i64 0, .int .i64 0] 54 5 true [])).write S2.next e.1.cs 54 5 []).next = S1.next + 1 := by simp [hS1n]
    generalize (S2.alloc (.cells [.int .i64 0, .int .i64 0, .int .i64 0, .int .i64 0, .int .i64 0] 54 5 true [])).write S2.next e.1.cs 54 5 [] = S3 at hget hgit hn2 ⊢
    refine XYield.of (hY (ds.map (·.1)) e.1 S3 (hJ _ _ _ hJ1 (by omega) (by omega) hget) (by omega) (List.mem_map.2 ⟨e, he, rfl⟩) (by simpa using hkl)) ?_
    rintro _ S4 ⟨rfl, hJ4, hn4, hi4, hm4⟩
    simp (decide := true) only [↓symD, symU, ↓XW_cond, ne_eq, f0, f5, true_and, Bool.not_true]
    refine ⟨k - 1, by omega, by omega, by rw [hm4, hget m (by omega) (by omega)]; exact hm1, ds ++ [e], fun d hd => ?_, hnd2, by simp; omega, by rw [hi4, hgit]; simp, by simpa using hJ4⟩
    rcases List.mem_append.1 hd with hd | hd
    · exact hds d hd
    · rw [List.mem_singleton.1 hd]; exact he

theorem Own.but {α : Type} [Enc α] {S1 S2 : St} {b it : Nat} {v : Value} {l : List α} (h : Own S1 b v l) (hb : it < b) (hn : S1.next ≤ S2.next) (hg : ∀ id, id ≠ it → id < S1.next → S2.get id = S1.get id) : Own S2 b v l := by
  rcases h with h | ⟨id, t, an, rfl, h1, h2, h3, h4⟩
  · exact .inl h
  · exact .inr ⟨id, t, an, rfl, by rw [hg id (by omega) h3]; exact h1, h2, by omega, h4⟩

/-- what stands while the keys are collected. -/
structure Coll (S : St) (es : List (Msg × Int × Nat)) (env : Array Value) (L : LoopC) (ks : List Msg) (S1 : St) : Prop where
  next : S.next + 2 ≤ S1.next
  loop : S1.get (S.next + 1) = .loop env L none
  own : ∃ v, S1.get S.next = .cells [v] 51 1 true [] ∧ Own S1 (S.next + 3) v ks ∧ (ks = [] → v = .slice none 0 0)
  old : ∀ id, id < S.next → S1.get id = S.get id

theorem appendSeq_any (hm : Try.prog.follows .mixedOrders = true) {bx m cl : Nat} {es : List (Msg × Int × Nat)} {S : St} (hbx : (S.get bx).rd 0 1 = some [.map (some m)]) (hbS : bx < S.next) (hmap : MapQ S m es cl) (hmS : m < S.next) (hl : es.length ≤ 1000) :
    NG Try.prog B (.func 46) #[.slice none 0 0, .func (.func 33) #[] #[.pointer (some ⟨bx, 0, none⟩)]] S fun v S2 => Ext S S2 ∧ ∃ ks, ks.Perm (es.map (·.1)) ∧ Own S2 S.next v ks ∧ (ks = [] → v = .slice none 0 0) := by
  refine NG_intro hm (XF_XF0 XF46) ?_
  simp only [xf46, NW_seq]
  refine NW_of hm _ _ _ _ ?_
  simp (decide := true) only [↓symD, symU, ne_eq, List.length_cons, List.length_nil, Nat.zero_add, boxc_slice]
  refine NW_of hm _ _ _ _ ?_
  simp (decide := true) only [↓symD, symU, ne_eq]
  rw [NW_block]
  refine ⟨33, #[], #[.pointer (some ⟨bx, 0, none⟩)], rfl, fun env he hn => ?_⟩
  have hxS : Ext S (S.alloc (.cells [.slice none 0 0] 51 1 true [])) := Ext.alloc _ _
  have gS : (S.alloc (.cells [.slice none 0 0] 51 1 true [])).get S.next = .cells [.slice none 0 0] 51 1 true [] := get_alloc_self _ _
  generalize hS1 : S.alloc (.cells [.slice none 0 0] 51 1 true []) = S1 at hxS gS ⊢
  have n1 : S1.next = S.next + 1 := by rw [← hS1]; rfl
  clear hS1
  have n2 : (S1.alloc (.loop env (loopIn Try.prog 46 1) none)).next = S.next + 2 := by simp [n1]
  have hx2 : Ext S (S1.alloc (.loop env (loopIn Try.prog 46 1) none)) := hxS.trans (Ext.alloc _ _)
  have hj0 := keys1_any (B := B) hm (y := S.next + 1) (bx := bx) (m := m) (cl := cl) (es := es) (S := S1.alloc (.loop env (loopIn Try.prog 46 1) none)) (Coll S es env (loopIn Try.prog 46 1)) (by rw [hx2.get _ hbS]; exact hbx) ⟨by rw [hx2.get _ hmS]; exact hmap.get, hmap.lt, hmap.nd⟩ (by omega) ?_ ?_ ?_
  · rw [n1]
    refine NG.mono hj0 ?_
    rintro _ S2 ⟨hn2, ks, hks, hc⟩
    obtain ⟨u, hu, hown, hnil⟩ := hc.own
    have hcn := hc.next
    refine ⟨env, _, none, hc.loop, ?_⟩
    have e1 : (Blk.cells [u] 51 1 true []).rd 0 1 = some [u] := rfl
    have g1 : (S2.put (S.next + 1) .gone).get S.next = .cells [u] 51 1 true [] := by rw [St.get_put, if_neg (by omega)]; exact hu
    have h3 : Ext S (S2.put (S.next + 1) .gone) := ⟨by simp; omega, fun id hid => by rw [St.get_put, if_neg (by omega)]; exact hc.old id hid⟩
    have h4 : Own (S2.put (S.next + 1) .gone) (S.next + 3) u ks := hown.putB (by omega) _
    generalize S2.put (S.next + 1) .gone = S3 at g1 h3 h4 ⊢
    simp only [Option.getD_none, bindB_normal, bindN_normal]
    refine NW_of hm _ _ _ _ ?_
    simp (decide := true) only [↓symD, symU, Option.bind_some, ne_eq, g1, e1, part1_one]
    refine NW_of hm _ _ _ _ ?_
    simp (decide := true) only [↓symD]
    exact ⟨fun _ h => (by cases h), _, rfl, h3, ks, hks, h4.weak (by omega), hnil⟩
  · refine ⟨by omega, ?_, ⟨.slice none 0 0, ?_, Own.nil _ _, fun _ => rfl⟩, fun id hid => hx2.get id hid⟩
    · rw [← n1]; exact get_alloc_self _ _
    · rw [get_alloc_ne _ _ _ (by omega)]; exact gS
  · rw [n2]
    rintro ks S2 S3 ⟨c1, c2, ⟨u, c3, c4, cn⟩, c5⟩ hle hlt hg
    exact ⟨by omega, by rw [hg _ (by omega) (by omega)]; exact c2, ⟨u, by rw [hg _ (by omega) (by omega)]; exact c3, c4.but (by omega) hle hg, cn⟩, fun id hid => by rw [hg _ (by omega) (by omega)]; exact c5 id hid⟩
  · rw [n2]
    rintro ks k S2 ⟨c1, c2, ⟨u, c3, c4, cn⟩, c5⟩ hn2 hk hlen
    refine XY_roundN c2 XL46_1 hn (by rw [XP46_1]; rfl) ?_
    rw [XP46_1]
    simp only [updL, List.zip_cons_cons, List.zip_nil_left, List.foldl_cons, List.foldl_nil]
    rw [he]
    have g1 : (S2.put (S.next + 1) .gone).get S.next = .cells [u] 51 1 true [] := by rw [St.get_put, if_neg (by omega)]; exact c3
    have hg3 : ∀ id, id ≠ S.next + 1 → (S2.put (S.next + 1) .gone).get id = S2.get id := fun id h => by rw [St.get_put, if_neg h]
    have hown3 : Own (S2.put (S.next + 1) .gone) (S.next + 3) u ks := c4.putB (by omega) _
    have hn3 : (S2.put (S.next + 1) .gone).next = S2.next := rfl
    generalize S2.put (S.next + 1) .gone = S3 at g1 hg3 hown3 hn3 ⊢
    have e1 : (Blk.cells [u] 51 1 true []).rd 0 1 = some [u] := rfl
    simp (decide := true) only [↓symD, symU, ne_eq, Value.cells, true_and, List.length_cons, List.length_nil, Nat.zero_add, Nat.reduceAdd, List.toList_toArray, blkOf_ptr, xa46_1, boxc_msg, blkOf_ptr, get_alloc_self, stMsg, true_and]
    have hx4 : Ext S3 ((S3.alloc (.cells [.int .i64 0, .int .i64 0, .int .i64 0, .int .i64 0, .int .i64 0] 54 5 true [])).write S3.next k.cs 54 5 []) := ext_box_write _ _ _ _ _
    have gp : ((S3.alloc (.cells [.int .i64 0, .int .i64 0, .int .i64 0, .int .i64 0, .int .i64 0] 54 5 true [])).write S3.next k.cs 54 5 []).get S3.next = .cells k.cs 54 5 true [] := get_write_self _ _ _ _ _ _
    have n4 : ((S3.alloc (.cells [.int .i64 0, .int .i64 0, .int .i64 0, .int .i64 0, .int .i64 0] 54 5 true [])).write S3.next k.cs 54 5 []).next = S3.next + 1 := by simp
    generalize (S3.alloc (.cells [.int .i64 0, .int .i64 0, .int .i64 0, .int .i64 0, .int .i64 0] 54 5 true [])).write S3.next k.cs 54 5 [] = S4 at hx4 gp n4 ⊢
    have g4 : S4.get S.next = .cells [u] 51 1 true [] := by rw [hx4.get _ (by omega)]; exact g1
    have hown4 := hown3.mono hx4
    have hone : RdS (S4.alloc (.cells k.cs 54 5 true [])) (.slice (some ⟨S4.next, 0, none⟩) 1 1) [k] := RdS.one S4 k _
    obtain ⟨r, S5, a1, a2, a3⟩ := (hown4.mono (Ext.alloc S4 (.cells k.cs 54 5 true []))).append hone (by simp; omega) 54 40 (by unfold reach; simp; omega) (by decide)
    have a1' : xappend 54 5 40 u (.slice (some ⟨S4.next, 0, none⟩) 1 1) (S4.alloc (.cells k.cs 54 5 true [])) = some (r, S5) := a1
    have hn5 := a3.next
    simp only [next_alloc] at hn5
    have hold : ∀ id, id < S.next + 3 → S5.get id = S3.get id := fun id hid => by rw [a3.get _ (by omega), get_alloc_ne _ _ _ (by omega), hx4.get _ (by omega)]
    have g5 : S5.get S.next = .cells [u] 51 1 true [] := by rw [hold _ (by omega)]; exact g1
    have s2 : stv 1 [r] 0 (.cells [u] 51 1 true []) = some ([r], 51, 1, []) := rfl
    simp (decide := true) only [↓symD, symU, Option.bind_some, List.map_cons, List.map_nil, ne_eq, List.append_nil, rep, List.replicate_succ, List.replicate_zero, List.flatten_cons, List.flatten_nil, List.append_nil, true_and, blkOf_ptr, xb46_1, g4, gp, e1, rdMsg, part1_one, part1_agg, allOneMsg, fillMsg, a1', a2.boxc, blkOf_ptr, g5, s2, true_and]
    have hfin : ∀ id, id < S.next + 3 → id ≠ S.next → id ≠ S.next + 1 → ((S5.write S.next [r] 51 1 []).put (S.next + 1) (.loop env (loopIn Try.prog 46 1) none)).get id = S2.get id := fun id h1 h2 h3 => by
      rw [St.get_put, if_neg h3, get_write_ne _ _ _ _ _ _ h2, hold id h1, hg3 id h3]
    refine ⟨⟨?_, ?_, ⟨r, ?_, ?_, fun h => absurd h (by simp)⟩, fun id hid => ?_⟩, ?_, hfin _ (by omega) (by omega) (by omega), hfin _ (by omega) (by omega) (by omega)⟩
    · simp; omega
    · rw [St.get_put, if_pos rfl]
    · rw [St.get_put, if_neg (by omega), get_write_self]
    · exact (a2.off (by omega) _ _ _).putB (by omega) _
    · rw [hfin id (by omega) (by omega) (by omega)]; exact c5 id hid
    · simp; omega

theorem collectQ_any (hm : Try.prog.follows .mixedOrders = true) {bx m cl : Nat} {es : List (Msg × Int × Nat)} {S : St} (hbx : (S.get bx).rd 0 1 = some [.map (some m)]) (hbS : bx < S.next) (hmap : MapQ S m es cl) (hmS : m < S.next) (hl : es.length ≤ 1000) :
    NG Try.prog B (.func 31) #[.func (.func 33) #[] #[.pointer (some ⟨bx, 0, none⟩)]] S fun v S2 => Ext S S2 ∧ ∃ ks, ks.Perm (es.map (·.1)) ∧ Own S2 S.next v ks ∧ (ks = [] → v = .slice none 0 0) := by
  refine NG_intro hm (XF_XF0 XF31) ?_
  simp only [xf31, NW_seq]
  refine NW_of hm _ _ _ _ ?_
  simp (decide := true) only [↓symD, symU, ne_eq]
  rw [NW_region]
  refine NO_X hm ?_
  simp (decide := true) only [↓symD, symU, ne_eq]
  refine NO_call (appendSeq_any hm hbx hbS hmap hmS hl) (by simp (decide := true) only [↓symD, List.map_toArray, List.map_cons, List.map_nil]) ?_
  rintro v S2 ⟨hx, ks, hks, ho, hnil⟩
  refine NO_of hm _ _ _ _ ?_
  simp (decide := true) only [↓symD, symU]
  refine NW_of hm _ _ _ _ ?_
  simp (decide := true) only [↓symD]
  exact ⟨fun _ h => (by cases h), _, rfl, hx, ks, hks, ho, hnil⟩

theorem sortedFunc_any (hm : Try.prog.follows .mixedOrders = true) {f : Value} {bx m cl : Nat} {es : List (Msg × Int × Nat)} {S : St} (hbx : (S.get bx).rd 0 1 = some [.map (some m)]) (hbS : bx < S.next) (hmap : MapQ S m es cl) (hmS : m < S.next) (hl : es.length ≤ 12) (hnd : (es.map (·.1)).Nodup) (hf : CmpV f) :
    NG Try.prog B (.func 17) #[.func (.func 33) #[] #[.pointer (some ⟨bx, 0, none⟩)], f] S fun v S2 => Ext S S2 ∧ ∃ ks, ks.Perm (es.map (·.1)) ∧ ks.Pairwise ltM ∧ Own S2 S.next v ks ∧ (ks = [] → v = .slice none 0 0) := by
  refine NG_intro hm XF17 ?_
  simp only [xf17, NW_seq]
  refine NW_of hm _ _ _ _ ?_
  simp (decide := true) only [↓symD, symU, ne_eq]
  rw [NW_region]
  refine NO_X hm ?_
  simp (decide := true) only [↓symD, symU, ne_eq]
  refine NO_call (collectQ_any hm hbx hbS hmap hmS (by omega)) (by simp (decide := true) only [↓symD, List.map_toArray, List.map_cons, List.map_nil]) ?_
  rintro v S2 ⟨hx, ks, hks, ho, hnil⟩
  refine NO_of hm _ _ _ _ ?_
  simp (decide := true) only [↓symD, symU]
  refine NW_of hm _ _ _ _ ?_
  simp (decide := true) only [↓symD, symU, List.map_toArray, List.map_cons, List.map_nil, ne_eq]
  have hkl : ks.length ≤ 12 := by rw [hks.length_eq]; simpa using hl
  refine XCall.of (sortFunc_any ho hx.next hkl (hks.nodup_iff.2 hnd) hf) ?_
  rintro _ S3 ⟨hf3, ks', ho3, hp3, hs3⟩
  simp (decide := true) only [↓symD]
  refine NW_of hm _ _ _ _ ?_
  simp (decide := true) only [↓symD, symU, ne_eq]
  refine NW_of hm _ _ _ _ ?_
  simp (decide := true) only [↓symD]
  refine ⟨fun _ h => (by cases h), _, rfl, Fr.ext ((hx.fr (Nat.le_refl _)).trans hf3), ks', hp3.trans hks, ?_, ho3, fun h => hnil (by subst h; simpa using hp3)⟩
  rw [List.pairwise_iff_getElem]
  intro i j hi hj hij
  exact hs3 i j hij hj (by rw [← hp3.length_eq]; exact hj)
end
end Go.Proofs.Ytmbbebfpjclghaa

set_option linter.unusedSimpArgs false
set_option linter.unusedSectionVars false
set_option linter.unusedVariables false
set_option maxRecDepth 10000
namespace Go.Proofs.Ytmbbebfpjclghaa
open Go Go.RowKit

abbrev EL := List (Msg × Int × Nat)
def lookE (es : EL) (q : Msg) : Option Int := (es.find? fun e => decide (e.1 = q)).map (·.2.1)
def delE (es : EL) (q : Msg) : EL := es.filter fun e => decide (e.1 ≠ q)

theorem eqL_msg (q k : Msg) : eqL [1, 1, 1, 1, 1] q.cs k.cs = some (decide (q = k)) := by
  have e : decide (q = k) = (q.node == k.node && (q.handler == k.handler && (q.count == k.count && (q.index == k.index && q.copy == k.copy)))) := by
    rw [Bool.eq_iff_iff]
    simp [Msg.eq_iff]
  rw [e]
  simp [Msg.cs, eqL, eq1]
theorem keyOf_msg (q : Msg) : keyOf [1, 1, 1, 1, 1] true q.v = some q.cs := by simp [keyOf, keyC, Msg.cs]
theorem xfind_encE (q : Msg) : ∀ (es : EL) (i : Nat), ∃ r, xfind [1, 1, 1, 1, 1] true q.cs (encE es) i = some r ∧ r.map (·.2) = (lookE es q).map (Value.int .i64 ·) := by
  intro es
  induction es with
  | nil => intro i; exact ⟨none, rfl, rfl⟩
  | cons e es ih =>
    intro i
    simp only [encE, List.map_cons, xfind, keyC, List.toList_toArray, Option.bind_some, eqL_msg]
    by_cases h : q = e.1
    · refine ⟨some (i, .int .i64 e.2.1), by simp [h], ?_⟩
      simp [lookE, h]
    · obtain ⟨r, h1, h2⟩ := ih (i + 1)
      refine ⟨r, by simp [h]; exact h1, ?_⟩
      rw [h2]
      simp [lookE, List.find?_cons, show ¬ e.1 = q from fun h' => h h'.symm]
theorem xfind_del (q : Msg) : ∀ (es : EL) (i : Nat), (es.map (·.1)).Nodup → (∃ j v, xfind [1, 1, 1, 1, 1] true q.cs (encE es) i = some (some (i + j, v)) ∧ (encE es).eraseIdx j = encE (delE es q)) ∨ (xfind [1, 1, 1, 1, 1] true q.cs (encE es) i = some none ∧ delE es q = es) := by
  intro es
  induction es with
  | nil => intro i _; exact .inr ⟨rfl, rfl⟩
  | cons e es ih =>
    intro i hnd
    simp only [List.map_cons, List.nodup_cons] at hnd
    simp only [encE, List.map_cons, xfind, keyC, List.toList_toArray, Option.bind_some, eqL_msg]
    by_cases h : q = e.1
    · refine .inl ⟨0, .int .i64 e.2.1, by simp [h], ?_⟩
      have : delE (e :: es) q = es := by
        unfold delE
        rw [List.filter_cons, if_neg (by simp [h])]
        refine List.filter_eq_self.2 fun x hx => ?_
        simp only [ne_eq, decide_not, Bool.not_eq_true', decide_eq_false_iff_not]
        intro hq
        exact hnd.1 (List.mem_map.2 ⟨x, hx, by rw [hq, h]⟩)
      rw [this]
      rfl
    · have hd : delE (e :: es) q = e :: delE es q := by
        unfold delE
        rw [List.filter_cons, if_pos (by simp; exact fun h' => h h'.symm)]
      rcases ih (i + 1) hnd.2 with ⟨j, v, h1, h2⟩ | ⟨h1, h2⟩
      · refine .inl ⟨j + 1, v, ?_, ?_⟩
        · simp only [decide_eq_false h, Bool.false_eq_true, if_false]
          rw [show i + (j + 1) = i + 1 + j by omega]
          exact h1
        · rw [hd]
          simp only [encE, List.map_cons, List.eraseIdx_cons_succ]
          rw [show (List.map (fun e => (e.1.v, Value.int IntKind.i64 e.2.1, e.2.2)) es).eraseIdx j = encE (delE es q) from h2]
          rfl
      · refine .inr ⟨?_, by rw [hd, h2]⟩
        simp only [decide_eq_false h, Bool.false_eq_true, if_false]
        exact h1

/-- a map from questions to numbers. -/
structure MapK (S : St) (m : Nat) (es : EL) (cl : Nat) : Prop where
  q : MapQ S m es cl
  nd : (es.map (·.1)).Nodup

theorem look_map {S : St} {m : Nat} {es : EL} {cl : Nat} (h : S.get m = .map (encE es) cl) (q : Msg) :
    xextra (.lookup [1, 1, 1, 1, 1] true (.int .i64 0) false) [.map (some m), q.v] S = some (.int .i64 ((lookE es q).getD 0), S) := by
  obtain ⟨r, h1, h2⟩ := xfind_encE q es 0
  simp only [xextra, keyOf_msg, Option.bind_some, h, h1, Option.map_some, lookRes, Bool.false_eq_true, if_false, h2]
  cases lookE es q <;> rfl
theorem look_map2 {S : St} {m : Nat} {es : EL} {cl : Nat} (h : S.get m = .map (encE es) cl) (q : Msg) :
    xextra (.lookup [1, 1, 1, 1, 1] true (.int .i64 0) true) [.map (some m), q.v] S = some (.tuple #[.int .i64 ((lookE es q).getD 0), .bool (lookE es q).isSome], S) := by
  obtain ⟨r, h1, h2⟩ := xfind_encE q es 0
  have h3 : r.isSome = (lookE es q).isSome := by
    have := congrArg Option.isSome h2
    simpa using this
  simp only [xextra, keyOf_msg, Option.bind_some, h, h1, Option.map_some, lookRes, if_true, h2, h3]
  cases lookE es q <;> rfl
theorem del_map {S : St} {m : Nat} {es : EL} {cl : Nat} (h : S.get m = .map (encE es) cl) (hn : (es.map (·.1)).Nodup) (q : Msg) :
    xextra (.mapDel [1, 1, 1, 1, 1] true) [.map (some m), q.v] S = some (.tuple #[], S.put m (.map (encE (delE es q)) cl)) := by
  rcases xfind_del q es 0 hn with ⟨j, v, h1, h2⟩ | ⟨h1, h2⟩
  · simp only [xextra, keyOf_msg, Option.bind_some, h, h1, Option.map_some, Nat.zero_add, h2]
  · simp only [xextra, keyOf_msg, Option.bind_some, h, h1, Option.map_some, h2]
theorem set_map {S : St} {m : Nat} {es : EL} {cl : Nat} (h : S.get m = .map (encE es) cl) (q : Msg) (hq : lookE es q = none) (n : Int) :
    xextra (.mapSet [1, 1, 1, 1, 1] true) [.map (some m), q.v, .int .i64 n] S = some (undef, S.put m (.map (encE (es ++ [(q, n, cl)])) (cl + 1))) := by
  obtain ⟨r, h1, h2⟩ := xfind_encE q es 0
  rw [hq] at h2
  obtain rfl : r = none := by cases r <;> simp_all
  have he : encE (es ++ [(q, n, cl)]) = encE es ++ [(q.v, .int .i64 n, cl)] := by simp [encE]
  simp only [xextra, keyOf_msg, Option.bind_some, h, h1, Option.map_some, he]
theorem lookE_del (es : EL) (q : Msg) : lookE (delE es q) q = none := by
  unfold lookE delE
  rw [Option.map_eq_none_iff, List.find?_eq_none]
  intro x hx
  simp at hx ⊢
  exact hx.2
theorem MapK.del {S S' : St} {m : Nat} {es : EL} {cl : Nat} (h : MapK S m es cl) (q : Msg) (hg : S'.get m = .map (encE (delE es q)) cl) : MapK S' m (delE es q) cl :=
  ⟨⟨hg, fun e he => h.q.lt e (List.mem_filter.1 he).1, (List.filter_sublist.map _).nodup h.q.nd⟩, (List.filter_sublist.map _).nodup h.nd⟩
theorem MapK.set {S S' : St} {m : Nat} {es : EL} {cl : Nat} (h : MapK S m es cl) (q : Msg) (hq : lookE es q = none) (n : Int) (hg : S'.get m = .map (encE (es ++ [(q, n, cl)])) (cl + 1)) : MapK S' m (es ++ [(q, n, cl)]) (cl + 1) := by
  have hq' : ∀ e ∈ es, e.1 ≠ q := fun e he => by
    unfold lookE at hq
    rw [Option.map_eq_none_iff, List.find?_eq_none] at hq
    simpa using hq e he
  refine ⟨⟨hg, fun e he => ?_, ?_⟩, ?_⟩
  · rcases List.mem_append.1 he with he | he
    · have := h.q.lt e he; omega
    · rw [List.mem_singleton.1 he]; show cl < cl + 1; omega
  · rw [List.map_append, List.nodup_append]
    refine ⟨h.q.nd, by simp, fun a ha b hb => ?_⟩
    simp only [List.map_cons, List.map_nil, List.mem_singleton] at hb
    subst hb
    obtain ⟨e, he, rfl⟩ := List.mem_map.1 ha
    have := h.q.lt e he
    intro e'
    omega
  · rw [List.map_append, List.nodup_append]
    refine ⟨h.nd, by simp, fun a ha b hb => ?_⟩
    simp only [List.map_cons, List.map_nil, List.mem_singleton] at hb
    subst hb
    obtain ⟨e, he, rfl⟩ := List.mem_map.1 ha
    exact hq' e he
end Go.Proofs.Ytmbbebfpjclghaa

set_option linter.unusedSimpArgs false
set_option linter.unusedSectionVars false
set_option linter.unusedVariables false
set_option maxRecDepth 10000
namespace Go.Proofs.Ytmbbebfpjclghaa
open Go Go.RowKit

def eqE (x y : EL) : Bool := decide (x.length = y.length) && x.all fun e => decide (lookE y e.1 = some e.2.1)
theorem len_map {S : St} {m : Nat} {es : EL} {cl : Nat} (h : S.get m = .map (encE es) cl) : xextra .mapLen [.map (some m)] S = some (.int .i64 es.length, S) := by simp [xextra, h, encE]

section
variable [Prim Try.prog] {B : Nat}

theorem mapsEqual_any (hm : Try.prog.follows .mixedOrders = true) {m1 m2 c1 c2 : Nat} {x y : EL} {S : St} (h1 : MapK S m1 x c1) (h2 : MapK S m2 y c2) (hm1 : m1 < S.next) (hm2 : m2 < S.next) :
    NG Try.prog B (.func 27) #[.map (some m1), .map (some m2)] S fun v S2 => Ext S S2 ∧ v = .bool (eqE x y) := by
  have g1 := h1.q.get
  have g2 := h2.q.get
  refine NG_intro hm XF27 ?_
  simp only [xf27, NW_seq]
  refine NW_of hm _ _ _ _ ?_
  simp (decide := true) only [↓symD, symU, ne_eq]
  refine NW_of hm _ _ _ _ ?_
  simp (decide := true) only [↓symD, symU, List.map_cons, List.map_nil, ne_eq, XS_extra, List.map_cons, List.map_nil, len_map g1, len_map g2, xbin_neq]
  refine NW_of hm _ _ _ _ ?_
  simp (decide := true) only [↓symD, ↓XW_cond]
  refine Test_dec (fun hne => ?_) (fun hne => ?_)
  · simp (decide := true) only [↓symD, symU]
    refine ⟨fun _ h => (by cases h), _, rfl, Ext.refl _, ?_⟩
    rw [eqE, decide_eq_false (by intro h; exact hne (by rw [h])), Bool.false_and]
  have hlen : x.length = y.length := by omega
  have hx1 : xextra .iterMap [.map (some m1)] S = some (.pointer (some ⟨S.next, 0, none⟩), S.alloc (.mapIter (some m1) c1 [] c1)) := by simp only [xextra, g1]
  simp (decide := true) only [↓symD]
  refine NW_of hm _ _ _ _ ?_
  simp (decide := true) only [↓symD, symU, List.map_cons, List.map_nil, ne_eq, XS_extra, List.map_cons, List.map_nil, hx1]
  rw [NW_block]
  refine NW_loop (fun k fe S1 => fe 1 = .map (some m2) ∧ fe 15 = .pointer (some ⟨S.next, 0, none⟩) ∧ Ext S S1 ∧ S.next < S1.next ∧
    ∃ ds : EL, (∀ d ∈ ds, d ∈ x) ∧ (ds.map (·.2.2)).Nodup ∧ k + ds.length = x.length ∧ S1.get S.next = .mapIter (some m1) c1 (ds.map (·.2.2)) c1 ∧ ∀ d ∈ ds, lookE y d.1 = some d.2.1) x.length ?_ ?_
  · refine ⟨rfl, rfl, Ext.alloc _ _, by simp, [], by simp, by simp, by simp, by rw [St.get_alloc, if_pos rfl]; rfl, by simp⟩
  rintro k fe S1 ⟨f1, f15, hx, hn1, ds, hds, hnd, hk, hit, hall⟩
  have gm1 : S1.get m1 = .map (encE x) c1 := by rw [hx.get _ hm1]; exact g1
  have gm2 : S1.get m2 = .map (encE y) c2 := by rw [hx.get _ hm2]; exact g2
  rw [NW_seq, NW_region, NO_next]
  refine ⟨S.next, f15, .inr ⟨m1, c1, ds.map (·.2.2), encE x, hit, gm1, ?_, fun hin => ?_, fun e he hnot => ?_⟩⟩
  · intro e he
    simp only [encE, List.mem_map] at he
    obtain ⟨e, he, rfl⟩ := he
    exact h1.q.lt e he
  · refine NO_of hm _ _ _ _ ?_
    simp (decide := true) only [↓symD, symU]
    refine NW_of hm _ _ _ _ ?_
    simp (decide := true) only [↓symD, symU, ↓XW_cond]
    refine NW_of hm _ _ _ _ ?_
    simp (decide := true) only [↓symD, symU]
    refine NW_of hm _ _ _ _ ?_
    simp (decide := true) only [↓symD]
    refine ⟨fun _ h => (by cases h), _, rfl, hx, ?_⟩
    rw [eqE, decide_eq_true hlen, Bool.true_and]
    congr 1
    symm
    rw [List.all_eq_true]
    intro e he
    have h1' := hin (e.1.v, .int .i64 e.2.1, e.2.2) (List.mem_map.2 ⟨e, he, rfl⟩)
    obtain ⟨d, hd, hde⟩ := List.mem_map.1 h1'
    rw [← nd_inj h1.q.nd (hds d hd) he hde]
    simpa using hall d hd
  · simp only [encE, List.mem_map] at he
    obtain ⟨e, he, rfl⟩ := he
    refine NO_of hm _ _ _ _ ?_
    simp (decide := true) only [↓symD, symU]
    refine NW_of hm _ _ _ _ ?_
    simp (decide := true) only [↓symD, symU, ↓XW_cond]
    have hxe : xextra .entMap [.pointer (some ⟨S.next, 0, none⟩)] (S1.put S.next (.mapIter (some m1) c1 (ds.map (·.2.2) ++ [e.2.2]) c1)) = some (.tuple #[e.1.v, .int .i64 e.2.1], S1.put S.next (.mapIter (some m1) c1 (ds.map (·.2.2) ++ [e.2.2]) c1)) := by
      have q1 : (S1.put S.next (.mapIter (some m1) c1 (ds.map (·.2.2) ++ [e.2.2]) c1)).get S.next = .mapIter (some m1) c1 (ds.map (·.2.2) ++ [e.2.2]) c1 := by rw [St.get_put, if_pos rfl]
      have q2 : (S1.put S.next (.mapIter (some m1) c1 (ds.map (·.2.2) ++ [e.2.2]) c1)).get m1 = .map (encE x) c1 := by rw [St.get_put, if_neg (by omega)]; exact gm1
      simp only [xextra, q1, q2, if_true, List.getLast?_concat, Option.bind_some, find_encE h1.q.nd he, Option.map_some]
    have hS1n : (S1.put S.next (.mapIter (some m1) c1 (ds.map (·.2.2) ++ [e.2.2]) c1)).next = S1.next := rfl
    have hnd2 : ((ds ++ [e]).map (·.2.2)).Nodup := by
      rw [List.map_append, List.nodup_append]
      refine ⟨hnd, by simp, fun a ha b hb => ?_⟩
      simp only [List.map_cons, List.map_nil, List.mem_singleton] at hb
      subst hb
      intro e; subst e
      exact hnot ha
    have hkl : ds.length < x.length := by
      have := List.Nodup.length_le_of_subset (nd_of_map hnd2) (l₂ := x) (fun z hz => by
        rcases List.mem_append.1 hz with hz | hz
        · exact hds z hz
        · rw [List.mem_singleton.1 hz]; exact he)
      simp at this
      omega
    generalize hS2 : S1.put S.next (.mapIter (some m1) c1 (ds.map (·.2.2) ++ [e.2.2]) c1) = S2 at hxe hS1n ⊢
    have hget : ∀ id, id ≠ S.next → id < S1.next → ((S2.alloc (.cells [.int .i64 0, .int .i64 0, .int .i64 0, .int .i64 0, .int .i64 0] 54 5 true [])).write S2.next e.1.cs 54 5 []).get id = S1.get id := fun id h1 h2 => by
      rw [get_write_ne _ _ _ _ _ _ (by omega), get_alloc_ne _ _ _ (by omega), ← hS2, St.get_put, if_neg h1]
    have hgit : ((S2.alloc (.cells [.int .i64 0, .int .i64 0, .int .i64 0, .int .i64 0, .int .i64 0] 54 5 true [])).write S2.next e.1.cs 54 5 []).get S.next = .mapIter (some m1) c1 (ds.map (·.2.2) ++ [e.2.2]) c1 := by
      rw [get_write_ne _ _ _ _ _ _ (by omega), get_alloc_ne _ _ _ (by omega), ← hS2, St.get_put, if_pos rfl]
    have hn2 : ((S2.alloc (.cells [.int .i64 0, .int .i64 0, .int .i64 0, .int .i64 0, .int .i64 0] 54 5 true [])).write S2.next e.1.cs 54 5 []).next = S1.next + 1 := by simp [hS1n]
    have hl2 := look_map2 (by rw [hget m2 (by omega) (by have := hx.next; omega)]; exact gm2) e.1
    have hx3 : Ext S ((S2.alloc (.cells [.int .i64 0, .int .i64 0, .int .i64 0, .int .i64 0, .int .i64 0] 54 5 true [])).write S2.next e.1.cs 54 5 []) := ⟨by rw [hn2]; have := hx.next; omega, fun id hid => by rw [hget id (by omega) (by have := hx.next; omega)]; exact hx.get id hid⟩
    simp (decide := true) only [↓symD, symU, Option.bind_some, List.map_cons, List.map_nil, ne_eq, Value.cells, List.length_cons, List.length_nil, Nat.zero_add, Nat.reduceAdd, List.toList_toArray, blkOf_ptr, XS_extra, List.map_cons, List.map_nil, f15, f1, hxe, boxc_msg, blkOf_ptr, get_alloc_self, stMsg, get_write_self, rdMsg, part1_agg, Option.bind_some, hl2]
    generalize (S2.alloc (.cells [.int .i64 0, .int .i64 0, .int .i64 0, .int .i64 0, .int .i64 0] 54 5 true [])).write S2.next e.1.cs 54 5 [] = S3 at hgit hn2 hx3 ⊢
    have hfalse : lookE y e.1 ≠ some e.2.1 → false = eqE x y := fun h => by
      symm
      rw [eqE, Bool.and_eq_false_iff]
      right
      rw [List.all_eq_false]
      exact ⟨e, he, by simpa using h⟩
    cases hlk : lookE y e.1 with
    | none =>
      simp (decide := true) only [↓symD, symU, ↓XW_cond, ne_eq, Option.isSome_none, Bool.not_false]
      refine ⟨fun _ h => (by cases h), _, rfl, hx3, ?_⟩
      rw [hfalse (by rw [hlk]; simp)]
    | some n =>
      simp (decide := true) only [↓symD, symU, ↓XW_cond, ne_eq, Option.isSome_some, Option.getD_some, Bool.not_true, xbin_neq]
      refine Test_dec (fun hne => ?_) (fun heq => ?_)
      · simp (decide := true) only [↓symD, symU]
        refine ⟨fun _ h => (by cases h), _, rfl, hx3, ?_⟩
        rw [hfalse (by rw [hlk]; intro h; exact hne (Option.some.inj h).symm)]
      · simp (decide := true) only [↓symD, ne_eq, f1, f15, true_and]
        refine ⟨k - 1, by omega, hx3, by omega, ds ++ [e], fun d hd => ?_, hnd2, by simp; omega, by rw [hgit]; simp, fun d hd => ?_⟩
        · rcases List.mem_append.1 hd with hd | hd
          · exact hds d hd
          · rw [List.mem_singleton.1 hd]; exact he
        · rcases List.mem_append.1 hd with hd | hd
          · exact hall d hd
          · rw [List.mem_singleton.1 hd, hlk]
            have : e.2.1 = n := Classical.byContradiction fun h => heq h
            rw [this]
end
end Go.Proofs.Ytmbbebfpjclghaa

set_option linter.unusedSimpArgs false
set_option linter.unusedSectionVars false
set_option linter.unusedVariables false
namespace Go.Proofs.Ytmbbebfpjclghaa
open Go Go.RowKit

/-- questions in order. -/
def sortQ (l : List Msg) : List Msg := l.mergeSort fun a b => decide (a = b ∨ ltM a b)
theorem sortQ_perm (l : List Msg) : (sortQ l).Perm l := List.mergeSort_perm _ _
theorem sortQ_eq {l ks : List Msg} (h : ks.Perm l) (hs : ks.Pairwise ltM) : ks = sortQ l := by
  have hs2 : (sortQ l).Pairwise fun a b => a = b ∨ ltM a b := by
    have := List.pairwise_mergeSort (le := fun a b : Msg => decide (a = b ∨ ltM a b)) (fun a b c h1 h2 => by
      simp only [decide_eq_true_eq] at *
      rcases h1 with rfl | h1
      · exact h2
      · rcases h2 with rfl | h2
        · exact .inr h1
        · exact .inr (ltM_trans h1 h2)) (fun a b => by
      simp only [Bool.or_eq_true, decide_eq_true_eq]
      rcases cmpM_cases a b with h | h | h
      · exact .inl (.inr h.1)
      · exact .inl (.inl h.1)
      · exact .inr (.inr h.1)) l
    exact this.imp fun h => by simpa using h
  refine List.Perm.eq_of_pairwise (le := fun a b => a = b ∨ ltM a b) (fun a b _ _ h1 h2 => ?_) (hs.imp .inr) hs2 (h.trans (sortQ_perm l).symm)
  rcases h1 with h | h1
  · exact h
  · rcases h2 with h | h2
    · exact h.symm
    · exact absurd (ltM_trans h1 h2) (ltM_irrefl _)

theorem Msg.cs_inj {a b : Msg} (h : a.cs = b.cs) : a = b := by
  obtain ⟨a1, a2, a3, a4, a5⟩ := a
  obtain ⟨b1, b2, b3, b4, b5⟩ := b
  simpa [Msg.cs] using h
theorem encE_inj : ∀ {x y : EL}, encE x = encE y → x = y := by
  intro x
  induction x with
  | nil => intro y h; cases y with
    | nil => rfl
    | cons _ _ => simp [encE] at h
  | cons e x ih =>
    intro y h
    cases y with
    | nil => simp [encE] at h
    | cons f y =>
      simp only [encE, List.map_cons, List.cons.injEq, Prod.mk.injEq, Value.agg.injEq, Value.int.injEq, true_and] at h
      obtain ⟨⟨h1, h2, h3⟩, h4⟩ := h
      have h5 : e.1 = f.1 := Msg.cs_inj (by simpa using congrArg Array.toList h1)
      rw [ih h4]
      obtain ⟨e1, e2, e3⟩ := e
      obtain ⟨f1, f2, f3⟩ := f
      simp_all

/-- what stands when the keys of a map are asked for in order. -/
structure AtSF (args : Array Value) (S : St) (bx m cl : Nat) (es : EL) : Prop where
  arg : args = #[.func (.func 33) #[] #[.pointer (some ⟨bx, 0, none⟩)], .func (.func 19) #[] #[]]
  rd : (S.get bx).rd 0 1 = some [.map (some m)]
  bxS : bx < S.next
  mS : m < S.next
  map : MapK S m es cl
  len : es.length ≤ 12
  ws : WS S
  sc : ScL S.next args.toList
theorem AtSF.uniq {args : Array Value} {S : St} {bx m cl bx' m' cl' : Nat} {es es' : EL} (h : AtSF args S bx m cl es) (h' : AtSF args S bx' m' cl' es') : es = es' := by
  have h1 := h.arg.symm.trans h'.arg
  simp at h1
  subst h1
  have h2 := h.rd.symm.trans h'.rd
  simp at h2
  subst h2
  have h3 := h.map.q.get.symm.trans h'.map.q.get
  simp at h3
  exact encE_inj h3.1
def resSF (es : EL) (S : St) : Value × St := if es = [] then (.slice none 0 0, S) else (.slice (some ⟨S.next, 0, none⟩) es.length es.length, S.alloc (.cells (encs (sortQ (es.map (·.1)))) 54 5 true []))
open Classical in
noncomputable def runSF (args : Array Value) (S : St) : Option (Value × St) := if h : ∃ es bx m cl, AtSF args S bx m cl es then some (resSF h.choose S) else none
theorem runSF_eq {args : Array Value} {S : St} {bx m cl : Nat} {es : EL} (h : AtSF args S bx m cl es) : runSF args S = some (resSF es S) := by
  have hex : ∃ es bx m cl, AtSF args S bx m cl es := ⟨es, bx, m, cl, h⟩
  unfold runSF
  rw [dif_pos hex]
  obtain ⟨bx', m', cl', h'⟩ := hex.choose_spec
  rw [h'.uniq h]
theorem runSF_inv {args : Array Value} {S : St} {r : Value × St} (h : runSF args S = some r) : ∃ es bx m cl, AtSF args S bx m cl es ∧ r = resSF es S := by
  unfold runSF at h
  split at h
  · rename_i hex
    obtain ⟨bx', m', cl', h'⟩ := hex.choose_spec
    exact ⟨_, bx', m', cl', h', (Option.some.inj h).symm⟩
  · cases h

/-- what stands when two maps are compared. -/
structure AtEq (args : Array Value) (S : St) (m1 m2 c1 c2 : Nat) (x y : EL) : Prop where
  arg : args = #[.map (some m1), .map (some m2)]
  m1S : m1 < S.next
  m2S : m2 < S.next
  map1 : MapK S m1 x c1
  map2 : MapK S m2 y c2
  ws : WS S
  sc : ScL S.next args.toList
theorem AtEq.uniq {args : Array Value} {S : St} {m1 m2 c1 c2 m1' m2' c1' c2' : Nat} {x y x' y' : EL} (h : AtEq args S m1 m2 c1 c2 x y) (h' : AtEq args S m1' m2' c1' c2' x' y') : x = x' ∧ y = y' := by
  have h1 := h.arg.symm.trans h'.arg
  simp at h1
  obtain ⟨rfl, rfl⟩ := h1
  have h2 := h.map1.q.get.symm.trans h'.map1.q.get
  have h3 := h.map2.q.get.symm.trans h'.map2.q.get
  simp at h2 h3
  exact ⟨encE_inj h2.1, encE_inj h3.1⟩
open Classical in
noncomputable def runEq (args : Array Value) (S : St) : Option (Value × St) := if h : ∃ p : EL × EL, ∃ m1 m2 c1 c2, AtEq args S m1 m2 c1 c2 p.1 p.2 then some (.bool (eqE h.choose.1 h.choose.2), S) else none
theorem runEq_eq {args : Array Value} {S : St} {m1 m2 c1 c2 : Nat} {x y : EL} (h : AtEq args S m1 m2 c1 c2 x y) : runEq args S = some (.bool (eqE x y), S) := by
  have hex : ∃ p : EL × EL, ∃ m1 m2 c1 c2, AtEq args S m1 m2 c1 c2 p.1 p.2 := ⟨(x, y), m1, m2, c1, c2, h⟩
  unfold runEq
  rw [dif_pos hex]
  obtain ⟨_, _, _, _, h'⟩ := hex.choose_spec
  rw [(h'.uniq h).1, (h'.uniq h).2]
theorem runEq_inv {args : Array Value} {S : St} {r : Value × St} (h : runEq args S = some r) : ∃ x y m1 m2 c1 c2, AtEq args S m1 m2 c1 c2 x y ∧ r = (.bool (eqE x y), S) := by
  unfold runEq at h
  split at h
  · rename_i hex
    obtain ⟨_, _, _, _, h'⟩ := hex.choose_spec
    exact ⟨_, _, _, _, _, _, h', (Option.some.inj h).symm⟩
  · cases h

theorem encs_scM (m : Nat) (l : List Msg) : ScL m (encs l) := by
  induction l with
  | nil => intro v hv; simp at hv
  | cons a l ih =>
    rw [encs_cons]
    refine ScL.append (fun v hv => ?_) ih
    have hv : v ∈ a.cs := hv
    simp only [Msg.cs, List.mem_cons, List.not_mem_nil, or_false] at hv
    rcases hv with rfl | rfl | rfl | rfl | rfl <;> exact .int _ _
noncomputable def runAll : Base := fun f args S => if f = 17 then runSF args S else if f = 27 then runEq args S else none
theorem resSF_ws {es : EL} {S : St} (hw : WS S) : WS (resSF es S).2 ∧ S.next ≤ (resSF es S).2.next ∧ Sc (resSF es S).2.next (resSF es S).1 := by
  unfold resSF
  split
  · exact ⟨hw, Nat.le_refl _, .sliceNil _ _⟩
  · exact ⟨hw.allocB (b := .cells _ _ 5 true []) (encs_scM _ _), by simp, .slice _ _ _ _ (by simp)⟩
theorem runAll_ws : ∀ f args S v S', runAll f args S = some (v, S') → WS S → ScL S.next args.toList → WS S' ∧ S.next ≤ S'.next ∧ Sc S'.next v := by
  intro f args S v S' h hw hs
  unfold runAll at h
  split at h
  · obtain ⟨es, _, _, _, _, hr⟩ := runSF_inv h
    have := resSF_ws (es := es) hw
    rw [← hr] at this
    exact this
  · split at h
    · obtain ⟨x, y, _, _, _, _, _, hr⟩ := runEq_inv h
      obtain ⟨rfl, rfl⟩ := Prod.mk.inj hr
      exact ⟨hw, Nat.le_refl _, .bool _⟩
    · cases h

theorem runAll_ok (hm : Try.prog.follows .mixedOrders = true) (B : Nat) : CallOK Try.prog B (baseC runAll) := by
  intro g args S v S' h
  cases g with
  | yield id => simp [baseC] at h
  | method _ => simp [baseC] at h
  | methodOf _ _ => simp [baseC] at h
  | via _ _ _ _ => simp [baseC] at h
  | func f =>
  simp only [baseC] at h
  letI : Prim Try.prog := ⟨fun _ _ _ => none, fun _ _ _ _ _ h => by simp at h, fun _ g _ _ _ _ h => by cases g <;> simp [baseC] at h⟩
  unfold runAll at h
  split at h
  · rename_i hf
    subst hf
    obtain ⟨es, bx, m, cl, ha, hr⟩ := runSF_inv h
    have hn := sortedFunc_any (B := B) hm ha.rd ha.bxS ha.map.q ha.mS ha.len ha.map.nd rfl
    rw [← ha.arg] at hn
    obtain ⟨h1, h2⟩ := hn ha.ws ha.sc
    refine ⟨h1, fun φ w args' q1 q2 q3 => (h2 φ w args' q1 q2 q3).mono ?_⟩
    rintro e w' ⟨v2, S2, ⟨φ2, v', rfl, p1, p2, p3⟩, _, _, _, hx, ks, hks, hso, ho, hnil⟩
    have hkl := hks.length_eq
    simp only [List.length_map] at hkl
    unfold resSF at hr
    split at hr
    · rename_i he
      obtain ⟨rfl, rfl⟩ := Prod.mk.inj hr
      subst he
      obtain rfl : ks = [] := by simpa using hkl
      obtain rfl := hnil rfl
      obtain ⟨c1, c2⟩ := collect0 ha.ws q2 p2 p3 hx
      exact ⟨φ, v', rfl, by cases p1; exact .sliceNil, c1, c2⟩
    · rename_i he
      obtain ⟨rfl, rfl⟩ := Prod.mk.inj hr
      have hpos : 0 < es.length := List.length_pos_iff.2 he
      rcases ho with ⟨_, rfl⟩ | ⟨j, t, an, rfl, g1, g2, g3, g4⟩
      · simp at hkl; omega
      · obtain rfl := sortQ_eq hks hso
        rw [hkl] at p1
        generalize hE0 : es.length = n0 at p1 hpos hkl ⊢
        cases p1 with
        | slice _ _ _ _ c' s hs hn hc hE =>
          obtain ⟨c1, c2⟩ := collect1 ha.ws q2 p2 p3 hx g2 hs g1 g4 (encs_scM _ _) 54
          refine ⟨_, _, rfl, ?_, c1, c2⟩
          exact .slice _ _ _ _ _ s (Emb.add_same _ _ _) hn hc hE
        | sliceEnd => omega
  · split at h
    · rename_i hf
      subst hf
      obtain ⟨x, y, m1, m2, c1, c2, ha, hr⟩ := runEq_inv h
      have hn := mapsEqual_any (B := B) hm ha.map1 ha.map2 ha.m1S ha.m2S
      rw [← ha.arg] at hn
      obtain ⟨h1, h2⟩ := hn ha.ws ha.sc
      refine ⟨h1, fun φ w args' q1 q2 q3 => (h2 φ w args' q1 q2 q3).mono ?_⟩
      rintro e w' ⟨v2, S2, ⟨φ2, v', rfl, p1, p2, p3⟩, _, _, _, hx, rfl⟩
      obtain ⟨rfl, rfl⟩ := Prod.mk.inj hr
      obtain ⟨c1, c2⟩ := collect0 ha.ws q2 p2 p3 hx
      exact ⟨φ, v', rfl, by cases p1; exact .bool _, c1, c2⟩
    · cases h
end Go.Proofs.Ytmbbebfpjclghaa

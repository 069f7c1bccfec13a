/- Copies of steps, and depend.Swap. -/
import Derived.Test.YtolfpchcmiljpaaDq
set_option linter.unusedSimpArgs false
set_option linter.unusedSectionVars false
set_option maxRecDepth 10000
namespace Go.Proofs.Ytolfpchcmiljpaa
open Go Go.RowKit

/-- a list in new blocks. -/
def New {α : Type} [Enc α] (b : Nat) (S : St) (v : Value) (l : List α) : Prop := RdS S v l ∧ ∀ id o n k, v = .slice (some ⟨id, o, none⟩) n k → b ≤ id ∧ id < S.next
theorem New.mono {α : Type} [Enc α] {b : Nat} {S S' : St} {v : Value} {l : List α} (h : New b S v l) (hx : Ext S S') : New b S' v l :=
  ⟨h.1.mono hx, fun id o n k e => ⟨(h.2 id o n k e).1, Nat.lt_of_lt_of_le (h.2 id o n k e).2 hx.next⟩⟩
theorem New.weak {α : Type} [Enc α] {b b' : Nat} {S : St} {v : Value} {l : List α} (h : New b S v l) (hb : b' ≤ b) : New b' S v l :=
  ⟨h.1, fun id o n k e => ⟨Nat.le_trans hb (h.2 id o n k e).1, (h.2 id o n k e).2⟩⟩
theorem Own.toNew {α : Type} [Enc α] {b : Nat} {S : St} {v : Value} {l : List α} (h : Own S b v l) : New b S v l := by
  refine ⟨h.rd, fun id o n k e => ?_⟩
  rcases h with ⟨rfl, _⟩ | ⟨id', t, an, rfl, h1, h2, h3, h4⟩
  · cases e
  · simp only [Value.slice.injEq, Option.some.injEq, Addr.mk.injEq] at e
    obtain ⟨⟨rfl, _⟩, _⟩ := e
    exact ⟨h2, h3⟩
/-- a list in blocks of a colour. -/
def RdK {α : Type} [Enc α] (S : St) (col : Col) (c : Nat) (v : Value) (l : List α) : Prop := RdS S v l ∧ ∀ id o n k, v = .slice (some ⟨id, o, none⟩) n k → col id = c ∧ id < S.next
theorem New.toK {α : Type} [Enc α] {S0 S : St} {v : Value} {l : List α} (h : New S0.next S v l) (col : Col) (c : Nat) : RdK S (paint col S0 c) c v l :=
  ⟨h.1, fun id o n k e => ⟨paint_new _ _ _ (h.2 id o n k e).1, (h.2 id o n k e).2⟩⟩
theorem RdK.keep {α : Type} [Enc α] {S S' : St} {col col' : Col} {c c' : Nat} {v : Value} {l : List α} (h : RdK S col c v l) (k : Chg col c' S col' S') (hc : c ≠ c') : RdK S' col' c v l := by
  obtain ⟨h1, h2⟩ := h
  refine ⟨?_, fun id o n q e => ⟨(k.hcol id (h2 id o n q e).2).trans (h2 id o n q e).1, Nat.lt_of_lt_of_le (h2 id o n q e).2 k.next⟩⟩
  rcases h1 with h1 | ⟨id, o, q, cc, t, mi, an, rfl, a1, a2, a3, a4⟩
  · exact .inl h1
  · have := h2 id o _ _ rfl
    exact .inr ⟨id, o, q, cc, t, mi, an, rfl, a1, Nat.lt_of_lt_of_le a2 k.next, by rw [k.get id this.2 (by rw [this.1]; exact hc)]; exact a3, a4⟩
theorem RdK.mono {α : Type} [Enc α] {S S' : St} {col : Col} {c : Nat} {v : Value} {l : List α} (h : RdK S col c v l) (k : Ext S S') : RdK S' col c v l :=
  ⟨h.1.mono k, fun id o n q e => ⟨(h.2 id o n q e).1, Nat.lt_of_lt_of_le (h.2 id o n q e).2 k.next⟩⟩
def RepK (S : St) (col : Col) (r : RStep) (s : Step) : Prop := r.ev = s.ev ∧ r.obs = s.obs ∧ RdK S col 2 r.asks.v s.asks ∧ RdK S col 2 r.sent.v s.sent
theorem RepK.rep {S : St} {col : Col} {r : RStep} {s : Step} (h : RepK S col r s) : Rep S r s := ⟨h.1, h.2.1, h.2.2.1.1, h.2.2.2.1⟩
theorem RepK.keep {S S' : St} {col col' : Col} {c : Nat} {r : RStep} {s : Step} (h : RepK S col r s) (k : Chg col c S col' S') (hc : c ≠ 2) : RepK S' col' r s := ⟨h.1, h.2.1, h.2.2.1.keep k (Ne.symm hc), h.2.2.2.keep k (Ne.symm hc)⟩
theorem RepK.mono {S S' : St} {col : Col} {r : RStep} {s : Step} (h : RepK S col r s) (k : Ext S S') : RepK S' col r s := ⟨h.1, h.2.1, h.2.2.1.mono k, h.2.2.2.mono k⟩

theorem RStep.cs_inj {r r' : RStep} (h : r.cs = r'.cs) : r = r' := by
  obtain ⟨⟨k, n, a, ⟨m1, m2, m3, m4, m5⟩⟩, ⟨x1, x2, x3⟩, o, ⟨y1, y2, y3⟩⟩ := r
  obtain ⟨⟨k', n', a', ⟨m1', m2', m3', m4', m5'⟩⟩, ⟨x1', x2', x3'⟩, o', ⟨y1', y2', y3'⟩⟩ := r'
  simp [RStep.cs, Ev.cs, SV.v] at h
  obtain ⟨rfl, rfl, rfl, rfl, rfl, rfl, rfl, rfl, ⟨rfl, rfl, rfl⟩, rfl, rfl, rfl, rfl⟩ := h
  rfl

/-- a step's slices are not long. -/
def Short (s : Step) : Prop := s.sent.length ≤ 1000 ∧ s.asks.length ≤ 1000
theorem rdZs (t : TypeId) : (Blk.cells [.int .i64 0, .int .i64 0, .int .i64 0, .int .i64 0, .int .i64 0, .int .i64 0, .int .i64 0, .int .i64 0, .slice none 0 0, .bool false, .slice none 0 0] t 11 true []).rd 0 11 = some [.int .i64 0, .int .i64 0, .int .i64 0, .int .i64 0, .int .i64 0, .int .i64 0, .int .i64 0, .int .i64 0, .slice none 0 0, .bool false, .slice none 0 0] := Eq.trans rfl rfl
theorem stAll (r : RStep) (l : List Value) (hl : l.length = 11) (t : TypeId) : stv 11 r.cs 0 (.cells l t 11 true []) = some (r.cs, t, 11, []) := by
  rw [stv_cells, if_pos ⟨step_len r, by omega⟩]
  have : splice l 0 r.cs = r.cs := by
    unfold splice
    rw [step_len, List.take_zero, List.nil_append, List.drop_of_length_le (by omega), List.append_nil]
  rw [this]
theorem stStep (r r' : RStep) (t : TypeId) : stv 11 r.cs 0 (.cells r'.cs t 11 true []) = some (r.cs, t, 11, []) := stAll r r'.cs (step_len r') t
theorem stZs (r : RStep) (t : TypeId) : stv 11 r.cs 0 (.cells [.int .i64 0, .int .i64 0, .int .i64 0, .int .i64 0, .int .i64 0, .int .i64 0, .int .i64 0, .int .i64 0, .slice none 0 0, .bool false, .slice none 0 0] t 11 true []) = some (r.cs, t, 11, []) := stAll r _ rfl t
theorem zs_len : ([.int .i64 0, .int .i64 0, .int .i64 0, .int .i64 0, .int .i64 0, .int .i64 0, .int .i64 0, .int .i64 0, .slice none 0 0, .bool false, .slice none 0 0] : List Value).length = 11 := Eq.trans rfl rfl
theorem boxc_sv (s : SV) : boxc s.v = some [s.v] := boxc_slice _ _ _

section
variable [Prim Try.prog]

theorem cloneAsks_any {v : Value} {l : List Ask} {S : St} (hv : RdS S v l) (hl : l.length ≤ 1000) :
    XC Try.prog 48 #[v] S fun r S' => Ext S S' ∧ New S.next S' r l := by
  refine XC_body XF48 ?_
  rcases hv.cases with ⟨rfl, rfl⟩ | ⟨a, n, c, rfl⟩
  · simp (decide := true) only [↓symD, symU, ↓XW_cond, Nat.reduceEqDiff, List.zip_cons_cons, List.zip_nil_left, Option.bind_some, Option.map_some, Option.map_none, List.map_toArray, List.map_cons, List.map_nil, ne_eq, List.append_toArray, List.nil_append, List.cons_append, List.append_nil, xf48]
    exact ⟨Ext.refl _, (Own.nil _ _).toNew⟩
  · obtain ⟨r, S', h1, h2, h3⟩ := (Own.made S ([] : List Ask) 59 S.next (Nat.le_refl _) 0 rfl [] rfl).append (hv.mono (Ext.alloc _ _)) (by simp) 59 56 (reach_le (by simp; omega)) (by decide)
    have h1' : xappend 59 7 56 (.slice (some ⟨S.next, 0, none⟩) 0 0) (.slice (some a) n c) (S.alloc (.cells [] 59 7 true [])) = some (r, S') := h1
    simp (decide := true) only [↓symD, symU, ↓XW_cond, Nat.reduceEqDiff, List.zip_cons_cons, List.zip_nil_left, Option.bind_some, Option.map_some, Option.map_none, List.map_toArray, List.map_cons, List.map_nil, ne_eq, List.append_toArray, List.nil_append, List.cons_append, List.append_nil, fillL, splice, rep, List.replicate_succ, List.replicate_zero, List.flatten_cons, List.flatten_nil, List.append_nil, List.nil_append, List.cons_append, Value.cells, List.append_assoc, and_self, true_and, and_true, List.size_toArray, List.length_cons, List.length_nil, Nat.zero_add, ↓reduceIte, List.take_zero, List.drop_zero, List.drop_succ_cons, List.take_succ_cons, Nat.reduceAdd, Nat.reduceLeDiff, Nat.reduceEqDiff, allOne_int, allOne_nil, List.toList_toArray, blkOf_ptr, Nat.add_zero, xf48, h1']
    exact ⟨Fr.ext ((Fr.alloc S _ (Nat.le_refl _)).trans h3), (show Own S' S.next r l by simpa using h2).toNew⟩
theorem cloneMsgs_any {v : Value} {l : List Msg} {S : St} (hv : RdS S v l) (hl : l.length ≤ 1000) :
    XC Try.prog 49 #[v] S fun r S' => Ext S S' ∧ New S.next S' r l := by
  refine XC_body XF49 ?_
  rcases hv.cases with ⟨rfl, rfl⟩ | ⟨a, n, c, rfl⟩
  · simp (decide := true) only [↓symD, symU, ↓XW_cond, Nat.reduceEqDiff, List.zip_cons_cons, List.zip_nil_left, Option.bind_some, Option.map_some, Option.map_none, List.map_toArray, List.map_cons, List.map_nil, ne_eq, List.append_toArray, List.nil_append, List.cons_append, List.append_nil, xf49]
    exact ⟨Ext.refl _, (Own.nil _ _).toNew⟩
  · obtain ⟨r, S', h1, h2, h3⟩ := (Own.made S ([] : List Msg) 35 S.next (Nat.le_refl _) 0 rfl [] rfl).append (hv.mono (Ext.alloc _ _)) (by simp) 35 40 (reach_le (by simp; omega)) (by decide)
    have h1' : xappend 35 5 40 (.slice (some ⟨S.next, 0, none⟩) 0 0) (.slice (some a) n c) (S.alloc (.cells [] 35 5 true [])) = some (r, S') := h1
    simp (decide := true) only [↓symD, symU, ↓XW_cond, Nat.reduceEqDiff, List.zip_cons_cons, List.zip_nil_left, Option.bind_some, Option.map_some, Option.map_none, List.map_toArray, List.map_cons, List.map_nil, ne_eq, List.append_toArray, List.nil_append, List.cons_append, List.append_nil, fillL, splice, rep, List.replicate_succ, List.replicate_zero, List.flatten_cons, List.flatten_nil, List.append_nil, List.nil_append, List.cons_append, Value.cells, List.append_assoc, and_self, true_and, and_true, List.size_toArray, List.length_cons, List.length_nil, Nat.zero_add, ↓reduceIte, List.take_zero, List.drop_zero, List.drop_succ_cons, List.take_succ_cons, Nat.reduceAdd, Nat.reduceLeDiff, Nat.reduceEqDiff, allOne_int, allOne_nil, List.toList_toArray, blkOf_ptr, Nat.add_zero, xf49, h1']
    exact ⟨Fr.ext ((Fr.alloc S _ (Nat.le_refl _)).trans h3), (show Own S' S.next r l by simpa using h2).toNew⟩

theorem own_any {r : RStep} {s : Step} {S : St} (h : Rep S r s) (hl : Short s) :
    XC Try.prog 35 #[r.v] S fun u S' => Ext S S' ∧ ∃ r' : RStep, u = r'.v ∧ r'.ev = s.ev ∧ r'.obs = s.obs ∧ New S.next S' r'.asks.v s.asks ∧ New S.next S' r'.sent.v s.sent := by
  refine XC_body XF35 ?_
  have hxB : Ext S ((S.alloc (.cells r.cs 41 11 true [])).alloc (.cells [.int .i64 0, .int .i64 0, .int .i64 0, .int .i64 0, .int .i64 0, .int .i64 0, .int .i64 0, .int .i64 0, .slice none 0 0, .bool false, .slice none 0 0] 41 11 true [])) := (Ext.alloc _ _).trans (Ext.alloc _ _)
  have g1 : ((S.alloc (.cells r.cs 41 11 true [])).alloc (.cells [.int .i64 0, .int .i64 0, .int .i64 0, .int .i64 0, .int .i64 0, .int .i64 0, .int .i64 0, .int .i64 0, .slice none 0 0, .bool false, .slice none 0 0] 41 11 true [])).get S.next = .cells r.cs 41 11 true [] := by rw [get_alloc_ne _ _ _ (by simp), get_alloc_self]
  have g2 : ((S.alloc (.cells r.cs 41 11 true [])).alloc (.cells [.int .i64 0, .int .i64 0, .int .i64 0, .int .i64 0, .int .i64 0, .int .i64 0, .int .i64 0, .int .i64 0, .slice none 0 0, .bool false, .slice none 0 0] 41 11 true [])).get (S.next + 1) = _ := get_alloc_self (S.alloc (.cells r.cs 41 11 true [])) _
  have nB : ((S.alloc (.cells r.cs 41 11 true [])).alloc (.cells [.int .i64 0, .int .i64 0, .int .i64 0, .int .i64 0, .int .i64 0, .int .i64 0, .int .i64 0, .int .i64 0, .slice none 0 0, .bool false, .slice none 0 0] 41 11 true [])).next = S.next + 2 := rfl
  generalize hB : (S.alloc (.cells r.cs 41 11 true [])).alloc (.cells [.int .i64 0, .int .i64 0, .int .i64 0, .int .i64 0, .int .i64 0, .int .i64 0, .int .i64 0, .int .i64 0, .slice none 0 0, .bool false, .slice none 0 0] 41 11 true []) = SB at hxB g1 g2 nB
  simp (decide := true) only [↓symD, symU, ↓XW_cond, Nat.reduceEqDiff, List.zip_cons_cons, List.zip_nil_left, Option.bind_some, Option.map_some, Option.map_none, List.map_toArray, List.map_cons, List.map_nil, ne_eq, List.append_toArray, List.nil_append, List.cons_append, List.append_nil, xf35, boxc_step, step_len, cells_zs, zs_len, hB, g1, Nat.zero_add, rdAsks, part1_one]
  refine XCall.of (cloneAsks_any (h.2.2.1.mono hxB) hl.2) ?_
  rintro w1 S1 ⟨hx1, n1⟩
  refine keepP.intro hx1 ?_
  have k1 : S1.get S.next = .cells r.cs 41 11 true [] := by rw [hx1.get _ (by omega)]; exact g1
  have l1 : S.next < SB.next := by omega
  simp (decide := true) only [↓symD, symU, ↓XW_cond, Nat.reduceEqDiff, List.zip_cons_cons, List.zip_nil_left, Option.bind_some, Option.map_some, Option.map_none, List.map_toArray, List.map_cons, List.map_nil, ne_eq, List.append_toArray, List.nil_append, List.cons_append, List.append_nil, k1, Nat.zero_add, rdSent, part1_one]
  refine Need.intro l1 ?_
  simp (decide := true) only [↓symD, symU, ↓XW_cond, Nat.reduceEqDiff, List.zip_cons_cons, List.zip_nil_left, Option.bind_some, Option.map_some, Option.map_none, List.map_toArray, List.map_cons, List.map_nil, ne_eq, List.append_toArray, List.nil_append, List.cons_append, List.append_nil, k1, Nat.zero_add, rdSent, part1_one]
  refine XCall.of (cloneMsgs_any ((h.2.2.2.mono hxB).mono hx1) hl.1) ?_
  rintro w2 S2 ⟨hx2, n2⟩
  have hn1 := hx1.next
  have hn2 := hx2.next
  have k2 : S2.get S.next = .cells r.cs 41 11 true [] := by rw [hx2.get _ (by omega)]; exact k1
  have k3 : S2.get (S.next + 1) = .cells [.int .i64 0, .int .i64 0, .int .i64 0, .int .i64 0, .int .i64 0, .int .i64 0, .int .i64 0, .int .i64 0, .slice none 0 0, .bool false, .slice none 0 0] 41 11 true [] := by rw [hx2.get _ (by omega), hx1.get _ (by omega)]; exact g2
  have n1 := n1.mono hx2
  obtain ⟨s1, rfl⟩ := n1.1.sv
  obtain ⟨s2, rfl⟩ := n2.1.sv
  have ne1 : S.next + 1 ≠ S.next := by omega
  simp (decide := true) only [↓symD, symU, ↓XW_cond, Nat.reduceEqDiff, List.zip_cons_cons, List.zip_nil_left, Option.bind_some, Option.map_some, Option.map_none, List.map_toArray, List.map_cons, List.map_nil, ne_eq, List.append_toArray, List.nil_append, List.cons_append, List.append_nil, boxc_sv, blkOf_ptr, k2, Nat.zero_add, stAsks, get_write_self, stSent, rdStep, part1_agg, boxc_step, get_write_ne _ _ _ _ _ _ ne1, k3, stZs]
  have hall : Ext S S2 := (hxB.trans hx1).trans hx2
  have hget : ∀ id, id ≠ S.next → id ≠ S.next + 1 → (((S2.write S.next (RStep.cs { r with asks := s1 }) 41 11 []).write S.next (RStep.cs { r with asks := s1, sent := s2 }) 41 11 []).write (S.next + 1) (RStep.cs { r with asks := s1, sent := s2 }) 41 11 []).get id = S2.get id := fun id q1 q2 => by
    rw [get_write_ne _ _ _ _ _ _ q2, get_write_ne _ _ _ _ _ _ q1, get_write_ne _ _ _ _ _ _ q1]
  have hnext : (((S2.write S.next (RStep.cs { r with asks := s1 }) 41 11 []).write S.next (RStep.cs { r with asks := s1, sent := s2 }) 41 11 []).write (S.next + 1) (RStep.cs { r with asks := s1, sent := s2 }) 41 11 []).next = S2.next := by simp
  generalize (((S2.write S.next (RStep.cs { r with asks := s1 }) 41 11 []).write S.next (RStep.cs { r with asks := s1, sent := s2 }) 41 11 []).write (S.next + 1) (RStep.cs { r with asks := s1, sent := s2 }) 41 11 []) = S3 at hget hnext ⊢
  have nw : ∀ {α : Type} [Enc α] {b : Nat} {v : Value} {l : List α}, New b S2 v l → S.next + 2 ≤ b → New S.next S3 v l := by
    intro α _ b v l hn hb
    refine ⟨?_, fun id o n k e => ⟨by have := hn.2 id o n k e; omega, by have := hn.2 id o n k e; omega⟩⟩
    rcases hn.1 with q | ⟨id, o, q, cc, t, mi, an, rfl, a1, a2, a3, a4⟩
    · exact .inl q
    · have := hn.2 id o _ _ rfl
      exact .inr ⟨id, o, q, cc, t, mi, an, rfl, a1, by omega, by rw [hget id (by omega) (by omega)]; exact a3, a4⟩
  refine ⟨⟨by have := hall.next; omega, fun id hid => (hget id (by omega) (by omega)).trans (hall.get id hid)⟩, _, rfl, h.1, h.2.1, nw n1 (by omega), nw n2 (by omega)⟩

/-- the run with two steps exchanged. -/
def swapL (l : List Step) (i : Nat) : List Step := match l[i]?, l[i + 1]? with
  | some a, some b => (l.set i b).set (i + 1) a
  | _, _ => l
theorem swapL_of {l : List Step} {i : Nat} (h : i + 1 < l.length) : swapL l i = (l.set i l[i + 1]).set (i + 1) l[i] := by
  simp [swapL, List.getElem?_eq_getElem h, List.getElem?_eq_getElem (show i < l.length by omega)]
def swapE (l : List Step) (i : Int) : Int := if i < 0 ∨ (l.length : Int) - 2 < i then 1 else if dp l i.toNat (i.toNat + 1) then 5 else 0
def swapR (l : List Step) (i : Int) : List Step := if swapE l i = 0 then swapL l i.toNat else []
theorem swapE_out {l : List Step} {i : Int} (h : i < 0 ∨ (l.length : Int) - 2 < i) : swapE l i = 1 := by unfold swapE; rw [if_pos h]
theorem swapE_in {l : List Step} {i : Nat} (h : i + 1 < l.length) : swapE l i = if dp l i (i + 1) then 5 else 0 := by
  unfold swapE
  rw [if_neg (by omega)]
  rfl
theorem All2.take_add {α β : Type} {R : α → β → Prop} {x : List α} {y : List β} {j : Nat} {a : α} (h : All2 R x (y.take j)) (hj : j < y.length) (k : R a y[j]) : All2 R (x ++ [a]) (y.take (j + 1)) := by
  rw [List.take_add_one, List.getElem?_eq_getElem hj]
  exact h.append (All2.one k)

theorem swap_any {v : Value} {l : List Step} {S : St} (hr : Run S v l) (hl : l.length ≤ 64) (hs : ∀ j (h : j < l.length), Short l[j]) (i : Int) (hi0 : -9223372036854775808 ≤ i) (hi1 : i ≤ 9223372036854775807) :
    XC Try.prog 19 #[v, .int .i64 i] S fun r S' => Ext S S' ∧ ∃ w, r = .tuple #[w, .int .i64 (swapE l i)] ∧ Run S' w (swapR l i) := by
  refine XC_body XF19 ?_
  have w2 : w64 ((l.length : Int) - 2) = (l.length : Int) - 2 := w64_ok (by omega) (by omega)
  by_cases h0 : i < 0
  · have c0 : decide (i < 0) = true := decide_eq_true h0
    simp (decide := true) only [↓symD, symU, ↓XW_cond, Nat.reduceEqDiff, List.zip_cons_cons, List.zip_nil_left, Option.bind_some, Option.map_some, Option.map_none, List.map_toArray, List.map_cons, List.map_nil, ne_eq, List.append_toArray, List.nil_append, List.cons_append, List.append_nil, xf19, xbin_lss, c0, Pick_undef]
    have e : swapE l i = 1 := swapE_out (.inl h0)
    refine ⟨Ext.refl _, _, by rw [e], ?_⟩
    unfold swapR
    rw [e, if_neg (by decide)]
    exact ⟨[], RdS.nil _, All2.nil _⟩
  · have c0 : decide (i < 0) = false := decide_eq_false h0
    by_cases h1 : i > (l.length : Int) - 2
    · have c1 : decide (i > (l.length : Int) - 2) = true := decide_eq_true h1
      simp (decide := true) only [↓symD, symU, ↓XW_cond, Nat.reduceEqDiff, List.zip_cons_cons, List.zip_nil_left, Option.bind_some, Option.map_some, Option.map_none, List.map_toArray, List.map_cons, List.map_nil, ne_eq, List.append_toArray, List.nil_append, List.cons_append, List.append_nil, xf19, xbin_lss, c0, hr.len, xbin_sub, w2, xbin_gtr, c1]
      have e : swapE l i = 1 := swapE_out (.inr h1)
      refine ⟨Ext.refl _, _, by rw [e], ?_⟩
      unfold swapR
      rw [e, if_neg (by decide)]
      exact ⟨[], RdS.nil _, All2.nil _⟩
    · have c1 : decide (i > (l.length : Int) - 2) = false := decide_eq_false h1
      obtain ⟨i, rfl⟩ : ∃ n : Nat, i = (n : Int) := ⟨i.toNat, by omega⟩
      have hi : i + 1 < l.length := by omega
      have wi : w64 ((i : Int) + 1) = ((i + 1 : Nat) : Int) := w64_add1 i (by omega)
      obtain ⟨ia, oa, ra, a1, a2, a3, a4⟩ := hr.step i (by omega)
      obtain ⟨ib, ob, rb, b1, b2, b3, b4⟩ := hr.step (i + 1) hi
      simp (decide := true) only [↓symD, symU, ↓XW_cond, Nat.reduceEqDiff, List.zip_cons_cons, List.zip_nil_left, Option.bind_some, Option.map_some, Option.map_none, List.map_toArray, List.map_cons, List.map_nil, ne_eq, List.append_toArray, List.nil_append, List.cons_append, List.append_nil, xf19, xbin_lss, c0, hr.len, xbin_sub, w2, xbin_gtr, c1, a1, a3, xbin_add, wi, b1, b3, part1_agg]
      refine XCall.of (dependent_any a4 b4 (hs i (by omega)).1 (hs (i + 1) hi).1) ?_
      rintro _ S1 ⟨hx1, rfl⟩
      have hdp : dp l i (i + 1) = depP l[i] l[i + 1] := dp_of (by omega) hi
      cases hd : depP l[i] l[i + 1] with
      | true =>
        have e : swapE l i = 5 := by rw [swapE_in hi, hdp, hd, if_pos rfl]
        simp (decide := true) only [↓symD, symU, ↓XW_cond, Nat.reduceEqDiff, List.zip_cons_cons, List.zip_nil_left, Option.bind_some, Option.map_some, Option.map_none, List.map_toArray, List.map_cons, List.map_nil, ne_eq, List.append_toArray, List.nil_append, List.cons_append, List.append_nil]
        refine ⟨hx1, _, by rw [e], ?_⟩
        unfold swapR
        rw [e, if_neg (by decide)]
        exact ⟨[], RdS.nil _, All2.nil _⟩
      | false =>
        have e : swapE l i = 0 := by rw [swapE_in hi, hdp, hd, if_neg (by decide)]
        have hr1 := hr.mono hx1
        clear a1 a2 a3 a4 b1 b2 b3 b4
        simp (decide := true) only [↓symD, symU, ↓XW_cond, Nat.reduceEqDiff, List.zip_cons_cons, List.zip_nil_left, Option.bind_some, Option.map_some, Option.map_none, List.map_toArray, List.map_cons, List.map_nil, ne_eq, List.append_toArray, List.nil_append, List.cons_append, List.append_nil, hr1.len]
        refine XW_loopR 1 (fun m fe S' => fe 1 = .int .i64 i ∧ fe 30 = v ∧ fe 31 = .int .i64 l.length ∧ ∃ (j : Nat) (col : Col) (w : Value) (rs : List RStep), fe 32 = .int .i64 j ∧ m + j = l.length ∧ fe 6 = w ∧ Floor col S1 S' ∧ OwnK S' col 1 w rs ∧ All2 (RepK S' col) rs (l.take j))
          (fun fe S' => fe 1 = .int .i64 i ∧ ∃ (col : Col) (w : Value) (rs : List RStep), fe 6 = w ∧ Floor col S1 S' ∧ OwnK S' col 1 w rs ∧ All2 (RepK S' col) rs l) l.length ?_ ?_ ?_
        · simp (decide := true) only [↓symD, symU, ↓XW_cond, Nat.reduceEqDiff, List.zip_cons_cons, List.zip_nil_left, Option.bind_some, Option.map_some, Option.map_none, List.map_toArray, List.map_cons, List.map_nil, ne_eq, List.append_toArray, List.nil_append, List.cons_append, List.append_nil, true_and]
          exact ⟨0, fun _ => 0, _, [], rfl, by omega, rfl, Floor.start _ _ (Ext.refl _), OwnK.nil _ _ _, All2.nil _⟩
        · rintro m fe S2 ⟨h1', h30, h31, j, col, w, rs, h32, hm, h6, hf, ho, ha⟩
          simp (decide := true) only [↓symD, symU, ↓XW_cond, Nat.reduceEqDiff, List.zip_cons_cons, List.zip_nil_left, Option.bind_some, Option.map_some, Option.map_none, List.map_toArray, List.map_cons, List.map_nil, ne_eq, List.append_toArray, List.nil_append, List.cons_append, List.append_nil, h31, h32, xbin_lss]
          refine Test_dec (fun hlt => ?_) (fun hge => ?_)
          · have hj : j < l.length := by omega
            have wj : w64 ((j : Int) + 1) = ((j + 1 : Nat) : Int) := w64_add1 j (by omega)
            obtain ⟨ia, oa, ra, a1, a2, a3, a4⟩ := (hr1.mono hf.ext).step j hj
            have b3 := BoxK.alloc S2 col 3 3 [.int .i64 0, .int .i64 0, .int .i64 0, .int .i64 0, .int .i64 0, .int .i64 0, .int .i64 0, .int .i64 0, .slice none 0 0, .bool false, .slice none 0 0] 41 11
            have f3 := hf.chg b3.2 (by decide)
            have o3 := ho.keep b3.2 (by decide)
            have q3 := ha.imp fun a b k => k.keep b3.2 (by decide)
            have x3 : Ext S2 (S2.alloc (.cells [.int .i64 0, .int .i64 0, .int .i64 0, .int .i64 0, .int .i64 0, .int .i64 0, .int .i64 0, .int .i64 0, .slice none 0 0, .bool false, .slice none 0 0] 41 11 true [])) := Ext.alloc _ _
            generalize hA : S2.alloc (.cells [.int .i64 0, .int .i64 0, .int .i64 0, .int .i64 0, .int .i64 0, .int .i64 0, .int .i64 0, .int .i64 0, .slice none 0 0, .bool false, .slice none 0 0] 41 11 true []) = S3 at b3 f3 o3 q3 x3
            generalize paint col S2 3 = col3 at b3 f3 o3 q3
            have b4 := b3.1.write ra.cs
            have f4 := f3.chg b4.2 (by decide)
            have o4 := o3.keep b4.2 (by decide)
            have q4 := q3.imp fun a b k => k.keep b4.2 (by decide)
            have b3g := b3.1.1
            have a4 := ((hr1.mono f4.ext).step j hj)
            have hrep : Rep (S3.write S2.next ra.cs 41 11 []) ra l[j] := by
              obtain ⟨rs', e1, e2⟩ := hr1
              obtain ⟨ia', oa', p1, p2, p3⟩ := (e1.mono hf.ext).get .i64 j (by rw [e2.1]; exact hj)
              have p1' : iav 11 v (.int .i64 j) = some (.pointer (some ⟨ia', oa', none⟩)) := p1
              rw [a1] at p1'
              simp only [Option.some.injEq, Value.pointer.injEq, Addr.mk.injEq, and_true] at p1'
              obtain ⟨rfl, rfl⟩ := p1'
              have p3' : (S2.get ia).rd oa 11 = some (RStep.cs (rs'[j]'(by rw [e2.1]; exact hj))) := p3
              have hcs : ra.cs = RStep.cs (rs'[j]'(by rw [e2.1]; exact hj)) := Option.some.inj (a3.symm.trans p3')
              have hr0 := (e2.2 j (by rw [e2.1]; exact hj) hj).mono f4.ext
              generalize rs'[j]'(by rw [e2.1]; exact hj) = rj at hcs hr0
              rw [← RStep.cs_inj hcs] at hr0
              exact hr0
            generalize hW : S3.write S2.next ra.cs 41 11 [] = S4 at b4 f4 o4 q4 hrep
            have g4 := b4.1.1
            simp (decide := true) only [↓symD, symU, ↓XW_cond, Nat.reduceEqDiff, List.zip_cons_cons, List.zip_nil_left, Option.bind_some, Option.map_some, Option.map_none, List.map_toArray, List.map_cons, List.map_nil, ne_eq, List.append_toArray, List.nil_append, List.cons_append, List.append_nil, h30, h32, a1, a3, part1_agg, cells_zs, zs_len, hA, boxc_step, blkOf_ptr, b3g, Nat.zero_add, stZs, hW, g4, rdStep]
            refine XCall_at fun S4' hS4 => ?_
            obtain rfl : S4 = S4' := by rw [hS4, ← hW, ← hA]; rfl
            refine XCall.of (own_any hrep (hs j hj)) ?_
            rintro _ S5 ⟨hx5, r', rfl, n1, n2, n3, n4⟩
            have k5 : Chg col3 9 S4 (paint col3 S4 2) S5 := (Chg.of_ext hx5).paint
            have f5 := f4.chg k5 (by decide)
            have o5 := o4.keep k5 (by decide)
            have q5 := q4.imp fun a b k => k.keep k5 (by decide)
            have hrk : RepK S5 (paint col3 S4 2) r' l[j] := ⟨n1, n2, n3.toK col3 2, n4.toK col3 2⟩
            generalize paint col3 S4 2 = col5 at f5 o5 q5 hrk
            have x6 : Ext S5 (S5.alloc (.cells r'.cs 41 11 true [])) := Ext.alloc _ _
            have rd6 := RdS.one S5 r' 41
            change RdS (S5.alloc (.cells r'.cs 41 11 true [])) _ _ at rd6
            generalize hX6 : S5.alloc (.cells r'.cs 41 11 true []) = S6 at x6 rd6
            have hrl : rs.length ≤ 64 := by
              have := ha.1
              simp at this
              omega
            obtain ⟨w7, S7, c7, e7, o7, k7, _⟩ := (o5.mono x6).append rd6 41 120 (reach_le (by simp; omega)) (by decide)
            have e7' : xappend 41 11 120 w (.slice (some ⟨S5.next, 0, none⟩) 1 1) S6 = some (w7, S7) := e7
            simp (decide := true) only [↓symD, symU, ↓XW_cond, Nat.reduceEqDiff, List.zip_cons_cons, List.zip_nil_left, Option.bind_some, Option.map_some, Option.map_none, List.map_toArray, List.map_cons, List.map_nil, ne_eq, List.append_toArray, List.nil_append, List.cons_append, List.append_nil, fillL, splice, rep, List.replicate_succ, List.replicate_zero, List.flatten_cons, List.flatten_nil, List.append_nil, List.nil_append, List.cons_append, Value.cells, List.append_assoc, and_self, true_and, and_true, List.size_toArray, List.length_cons, List.length_nil, Nat.zero_add, ↓reduceIte, List.take_zero, List.drop_zero, List.drop_succ_cons, List.take_succ_cons, Nat.reduceAdd, Nat.reduceLeDiff, Nat.reduceEqDiff, allOne_int, allOne_nil, List.toList_toArray, blkOf_ptr, Nat.add_zero, h6, step_len, tkStep, allOne_step, hX6, e7', h32, xbin_add, wj, h1', h30, h31, true_and]
            refine ⟨m - 1, by omega, j + 1, c7, w7, rs ++ [r'], rfl, by omega, rfl, (f5.mono x6).chg k7 (by decide), o7, ?_⟩
            exact (All2.take_add q5 hj hrk).imp fun a b k => (k.mono x6).keep k7 (by decide)
          · simp (decide := true) only [↓symD, symU, ↓XW_cond, Nat.reduceEqDiff, List.zip_cons_cons, List.zip_nil_left, Option.bind_some, Option.map_some, Option.map_none, List.map_toArray, List.map_cons, List.map_nil, ne_eq, List.append_toArray, List.nil_append, List.cons_append, List.append_nil, h1', true_and]
            rw [List.take_of_length_le (by omega)] at ha
            exact ⟨col, w, rs, h6, hf, ho, ha⟩
        · rintro fe S2 ⟨h1', col, w, rs, h6, hf, ho, ha⟩
          have hrl := ha.1
          obtain ⟨i1, o1, p1, p2, p3⟩ := ho.rd.get .i64 i (by omega)
          obtain ⟨i2, o2, q1, q2, q3⟩ := ho.rd.get .i64 (i + 1) (by omega)
          have p1' : iav 11 w (.int .i64 i) = some (.pointer (some ⟨i1, o1, none⟩)) := p1
          have q1' : iav 11 w (.int .i64 (i + 1 : Nat)) = some (.pointer (some ⟨i2, o2, none⟩)) := q1
          have h2r := ha.2 i (by omega) (by omega)
          have h2q := ha.2 (i + 1) (by omega) hi
          obtain ⟨x1, y1, cs1, t1, z1, an1, s1, s2, s3, s4, s5⟩ := ho.store i (by omega) (rs[i + 1]'(by omega))
          have s1' : iav 11 w (.int .i64 i) = some (.pointer (some ⟨x1, y1, none⟩)) := s1
          obtain ⟨x2, y2, cs2, t2, z2, an2, r1, r2, r3, r4, r5⟩ := s3.store (i + 1) (by simp; omega) (rs[i]'(by omega))
          have r1' : iav 11 w (.int .i64 (i + 1 : Nat)) = some (.pointer (some ⟨x2, y2, none⟩)) := r1
          have hset : All2 (RepK ((S2.write x1 cs1 t1 z1 an1).write x2 cs2 t2 z2 an2) col) ((rs.set i (rs[i + 1]'(by omega))).set (i + 1) (rs[i]'(by omega))) ((l.set i l[i + 1]).set (i + 1) (l[i]'(by omega))) :=
            ((ha.imp fun a b k => (k.keep s4 (by decide)).keep r4 (by decide)).set i ((h2q.keep s4 (by decide)).keep r4 (by decide))).set (i + 1) ((h2r.keep s4 (by decide)).keep r4 (by decide))
          have p3' : (S2.get i1).rd o1 11 = some (RStep.cs (rs[i]'(by omega))) := p3
          have q3' : (S2.get i2).rd o2 11 = some (RStep.cs (rs[i + 1]'(by omega))) := q3
          have s2' : stv 11 (RStep.cs (rs[i + 1]'(by omega))) y1 (S2.get x1) = some (cs1, t1, z1, an1) := s2
          have r2' : stv 11 (RStep.cs (rs[i]'(by omega))) y2 ((S2.write x1 cs1 t1 z1 an1).get x2) = some (cs2, t2, z2, an2) := r2
          rw [p1'] at s1'
          rw [q1'] at r1'
          simp only [Option.some.injEq, Value.pointer.injEq, Addr.mk.injEq, and_true] at s1' r1'
          obtain ⟨rfl, rfl⟩ := s1'
          obtain ⟨rfl, rfl⟩ := r1'
          generalize rs[i]'(by omega) = ri at p3' r2' hset r3
          generalize rs[i + 1]'(by omega) = rk at q3' s2' hset r3 s3
          have f3 := (hf.chg s4 (by decide)).chg r4 (by decide)
          simp (decide := true) only [↓symD, symU, ↓XW_cond, Nat.reduceEqDiff, List.zip_cons_cons, List.zip_nil_left, Option.bind_some, Option.map_some, Option.map_none, List.map_toArray, List.map_cons, List.map_nil, ne_eq, List.append_toArray, List.nil_append, List.cons_append, List.append_nil, h6, h1', xbin_add, wi, p1', q1', p3', q3', part1_agg, boxc_step, blkOf_ptr, s2', r2']
          refine ⟨hx1.trans f3.ext, w, by rw [e], ?_⟩
          unfold swapR
          rw [e, if_pos rfl, Int.toNat_natCast, swapL_of hi]
          exact ⟨_, r3.rd, hset.imp fun a b k => k.rep⟩
end
end Go.Proofs.Ytolfpchcmiljpaa

/- slices.Insert at []Envelope, one envelope inserted: the walk in the model. -/
import Derived.Test.YtedhbklmebebgaaNh
import Derived.Test.YtedhbklmebebgaaMins
import Derived.Test.YtedhbklmebebgaaProg
import Derived.Lib.Overlaps
import Derived.Lib.AppendZerosOnto
import Derived.Lib.JoinLaws
import Derived.Laws.Externs
import Derived.Deep.RegionLaw
namespace Go.Proofs.Ytedhbklmebebgaa
open Go Go.RowKit

section
variable {P : Program}

theorem wp_copy_row (w : World) {o : Oper} {a : Act} {K : Act → World → Prop} {Q : Exit → Act → World → Prop} (d s : Operand) (t t' : TypeId)
    (ho : o.op = .call { callee := .builtin .copy, args := #[d, s], argTypes := #[t, t'] }) (v u : Value) (hd : a.eval d = v) (hs : a.eval s = u) {v' : Value} {w' : World}
    (hr : (Builtin.copy_ #[t, t'] o.type #[v, u]).run P w = .ok v' w') (h : K (a.put o.dst v') w') : o.wp P a w K Q := by
  unfold Oper.wp execOp
  simp only [ho, resolve, invoke, builtin, Sem.run_bind, Sem.run_pure, Result.andThen_ok, List.map_toArray, List.map_cons, List.map_nil, hd, hs, hr]
  exact h

theorem wpList_copy_row (w : World) {ops : Array Oper} {rest : List Oper} {o : Oper} {a : Act} {Q : Exit → Act → World → Prop} (hgd : o.guard = none) (d s : Operand) (t t' : TypeId)
    (ho : o.op = .call { callee := .builtin .copy, args := #[d, s], argTypes := #[t, t'] }) (v u : Value) (hd : a.eval d = v) (hs : a.eval s = u) {v' : Value} {w' : World}
    (hr : (Builtin.copy_ #[t, t'] o.type #[v, u]).run P w = .ok v' w') (h : wpList P ops Q rest (a.put o.dst v') w') : wpList P ops Q (o :: rest) a w :=
  wpList_plain hgd fun _ hK => wp_copy_row w d s t t' ho v u hd hs hr (hK _ _ h)

theorem step_copy_row {ops : Array Oper} {o : Oper} {a : Act} {w : World} {K : Act → World → Prop} {Q : Exit → Act → World → Prop} {E : Prop}
    (hg : o.guard = none) (d x : Operand) (dT sT : TypeId) (hop : o.op = Op.call { callee := Callee.builtin Builtin.copy, args := #[d, x], argTypes := #[dT, sT] })
    (v u : Value) (hd : a.eval d = v) (hx : a.eval x = u) {v' : Value} {w' : World} (hr : (Builtin.copy_ #[dT, sT] o.type #[v, u]).run P w = .ok v' w') (hK : K (a.put o.dst v') w') :
    if Region.wanted o (yielded ops a.tmps) = true then Oper.wp P o a w K Q else E := by
  have hw : Region.wanted o (yielded ops a.tmps) = true := by simp [Region.wanted, hg]
  rw [if_pos hw]
  unfold Oper.wp
  simp [execOp, hop, resolve, invoke, builtin, hd, hx, hr, Result.andThen]
  exact hK

/-- a part of a row of plain cells. -/
theorem cell_at {w : World} {b : Nat} {cs : Array Value} {t : TypeId} (hb : w.heap[b]? = some (.cells cs t (0, 0))) (k : Nat) : w.cell? ⟨b, k, none⟩ = cs[k]? := by
  unfold World.cell?
  simp [hb]

/-- copy between rows of plain cells. -/
theorem run_copy_rows (w : World) (dT sT ty e : TypeId) (ti : TypeInfo) (ht : P.underlying dT = some (.slice e)) (hi : P.info? e = some ti) (b o n c b2 o2 m c2 : Nat) (cs cs2 : Array Value) (t t2 : TypeId)
    (hb : w.heap[b]? = some (.cells cs t (0, 0))) (hb2 : w.heap[b2]? = some (.cells cs2 t2 (0, 0))) (k : Nat) (hk : min m n = k)
    (hf : o + k * ti.size ≤ cs.size) (hf2 : o2 + k * ti.size ≤ cs2.size) (h1 : ∀ v ∈ (cs2.toList.drop o2).take (k * ti.size), v.oneCell' = true) :
    (Builtin.copy_ #[dT, sT] ty #[.slice (some ⟨b, o, none⟩) n c, .slice (some ⟨b2, o2, none⟩) m c2]).run P w = .ok (.int .i64 k) (w.setRow b (splice cs.toList o ((cs2.toList.drop o2).take (k * ti.size))).toArray) := by
  have hl : ((cs2.toList.drop o2).take (k * ti.size)).length = k * ti.size := by simp; omega
  have hfirst := run_firstCells_some (P := P) w ti.size k ⟨b2, o2, none⟩ m c2 ((cs2.toList.drop o2).take (k * ti.size)) hl (fun j v hj => by
    rw [Addr.add_lit, cell_at hb2]
    rw [List.getElem?_take] at hj
    split at hj
    · rw [List.getElem?_drop] at hj; simpa using hj
    · cases hj)
  have hst := run_storeCells_at P b o t ((cs2.toList.drop o2).take (k * ti.size)) 0 cs w hb (by rw [hl]; simpa using hf) h1
  subst hk
  refine run_copy_any dT sT ty e ti ht hi (some ⟨b, o, none⟩) n c m _ c2 _ hfirst _ ?_
  simp only
  rw [hst]
  unfold splice
  simp
end

theorem infoEi : (Try.prog.info? 34).map (fun i => (i.zero, i.size, i.bytes)) = some (some (.agg #[.int .i64 0, .int .i64 0, .int .i64 0, .int .i64 0, .int .i64 0, .int .i64 0, .int .i64 0, .int .i64 0, .int .i64 0]), 9, 72) := by kernel_rfl

set_option maxHeartbeats 1600000 in
set_option maxRecDepth 100000 in
/-- at the end: it is an append. -/
theorem ins_end (s : Value) (n vb voff vc : Nat) (w : World) (hs : (∃ c, s = .slice none n c) ∨ ∃ a c, s = .slice (some a) n c) (v' : Value) (w' : World)
    (hrun : ∀ ty, (Builtin.append_ #[23, 23] ty #[s, .slice (some ⟨vb, voff, none⟩) 1 vc]).run Try.prog w = .ok v' w') :
    Calls Try.prog 28 #[s, .int .i64 n, .slice (some ⟨vb, voff, none⟩) 1 vc] w fun e w1 => e = .returned v' ∧ w1 = w' := by
  rcases hs with ⟨c, rfl⟩ | ⟨a, c, rfl⟩
  · go_enter Try.func28, Try.ntmps28
    go_wp2_with (at_builtin; refine Lib.wpList_append_run _ rfl _ _ _ _ rfl _ _ rfl rfl _ _ (hrun _) ?_)
    go_ret
    exact ⟨rfl, rfl⟩
  · go_enter Try.func28, Try.ntmps28
    go_wp2_with (at_builtin; refine Lib.wpList_append_run _ rfl _ _ _ _ rfl _ _ rfl rfl _ _ (hrun _) ?_)
    all_goals (go_ret; exact ⟨rfl, rfl⟩)

set_option maxHeartbeats 1600000 in
set_option maxRecDepth 100000 in
/-- there is room. -/
theorem ins_shift (b off n c i vb voff vc : Nat) (cs vs : Array Value) (tb tv : TypeId) (w : World) (hi : i < n) (hroom : n + 1 ≤ c) (hn63 : n + 1 ≤ 9223372036854775807) (hne : vb ≠ b)
    (hb : w.heap[b]? = some (.cells cs tb (0, 0))) (hv : w.heap[vb]? = some (.cells vs tv (0, 0))) (hfit : off + (n + 1) * 9 ≤ cs.size) (hvf : voff + 9 ≤ vs.size)
    (A V : List Value) (hA : A = (cs.toList.drop (off + i * 9)).take ((n - i) * 9)) (hV : V = (vs.toList.drop voff).take 9) (h1 : ∀ v ∈ A, v.oneCell' = true) (h2 : ∀ v ∈ V, v.oneCell' = true) :
    Calls Try.prog 28 #[.slice (some ⟨b, off, none⟩) n c, .int .i64 i, .slice (some ⟨vb, voff, none⟩) 1 vc] w fun e w1 =>
      e = .returned (.slice (some ⟨b, off, none⟩) (n + 1) c) ∧ w1 = (w.drew.setRow b (splice cs.toList (off + (i + 1) * 9) A).toArray).setRow b (splice (splice cs.toList (off + (i + 1) * 9) A) (off + i * 9) V).toArray := by
  obtain ⟨i0, hi0, hz0, hz1, hz2⟩ := info_parts infoEi
  have hz2 : ¬ ((i : Int) = (n : Int)) := by omega
  have hov : ∀ lb cb, (callFunc 39 #[.slice (some ⟨vb, voff, none⟩) 1 vc, .slice (some ⟨b, off + (i + 1) * 9, none⟩) lb cb]).run Try.prog w = .ok (.value (.bool false)) w := fun lb cb => by
    rw [run_callFunc_extern Try.func39 (by kernel_rfl) (by kernel_rfl) (by kernel_rfl) (e := Extern.SlicesOverlaps.overlaps #[23, 23] #[4]) (by kernel_rfl),
      Lib.run_overlaps_apart w 23 4 34 Try.underlying23 9 (fun w => by rw [run_sizeOf' _ i0 hi0, hz1]) ⟨vb, voff, none⟩ ⟨b, off + (i + 1) * 9, none⟩ 1 vc lb cb hne tv tb vs.size cs.size (by simp [World.shape?, hv]) (by simp [World.shape?, hb]) (by omega) (by simp [World.frozen?, hv]) (by simp [World.frozen?, hv])]
    rfl
  have hcp1 : ∀ ty dc sc, (Builtin.copy_ #[23, 23] ty #[.slice (some ⟨b, off + (i + 1) * 9, none⟩) (n - i) dc, .slice (some ⟨b, off + i * 9, none⟩) (n + 1 - i) sc]).run Try.prog w.drew = .ok (.int .i64 (n - i : Nat)) (w.drew.setRow b (splice cs.toList (off + (i + 1) * 9) A).toArray) := fun ty dc sc => by
    have := run_copy_rows (P := Try.prog) w.drew 23 23 ty 34 i0 Try.underlying23 hi0 b (off + (i + 1) * 9) (n - i) dc b (off + i * 9) (n + 1 - i) sc cs cs tb tb hb hb (n - i) (by simp only [Nat.min_def]; split <;> omega) (by rw [hz1]; omega) (by rw [hz1]; omega) (by rw [hz1, ← hA]; exact h1)
    rw [hz1, ← hA] at this
    exact this
  have hAl : A.length = (n - i) * 9 := by rw [hA]; simp; omega
  have hVl : V.length = 9 := by rw [hV]; simp; omega
  obtain ⟨W1, hW1⟩ : ∃ W1, W1 = w.drew.setRow b (splice cs.toList (off + (i + 1) * 9) A).toArray := ⟨_, rfl⟩
  have hb1 : W1.heap[b]? = some (.cells (splice cs.toList (off + (i + 1) * 9) A).toArray tb (0, 0)) := by rw [hW1]; exact setRow_heap w.drew b cs _ tb (0, 0) hb
  have hv1 : W1.heap[vb]? = some (.cells vs tv (0, 0)) := by rw [hW1, setRow_other _ _ _ _ hne]; exact hv
  have hs1 : (splice cs.toList (off + (i + 1) * 9) A).length = cs.size := by rw [splice_length _ _ _ (by rw [hAl]; simp; omega)]; simp
  have hcp2 : ∀ ty dc, (Builtin.copy_ #[23, 23] ty #[.slice (some ⟨b, off + i * 9, none⟩) (n + 1 - i) dc, .slice (some ⟨vb, voff, none⟩) 1 vc]).run Try.prog W1 = .ok (.int .i64 (1 : Nat)) (W1.setRow b (splice (splice cs.toList (off + (i + 1) * 9) A) (off + i * 9) V).toArray) := fun ty dc => by
    have := run_copy_rows (P := Try.prog) W1 23 23 ty 34 i0 Try.underlying23 hi0 b (off + i * 9) (n + 1 - i) dc vb voff 1 vc _ vs tb tv hb1 hv1 1 (by simp only [Nat.min_def]; split <;> omega) (by rw [hz1]; simp [hs1]; omega) (by rw [hz1]; omega) (by rw [hz1, Nat.one_mul, ← hV]; exact h2)
    rw [hz1, Nat.one_mul, ← hV] at this
    simpa using this
  rw [← hW1] at hcp1 ⊢
  clear hW1 hb1 hv1 hs1 hAl hVl hA hV h1 h2 hb hv
  have hw1 : IntKind.i64.wrap ((i : Int) + 1) = (i : Int) + 1 := by rw [IntKind.wrap_i64]; omega
  have hw2 : IntKind.i64.wrap ((n : Int) + 1) = (n : Int) + 1 := by rw [IntKind.wrap_i64]; omega
  have hin : i ≤ n := by omega
  have htn : ((i : Int) + 1).toNat = i + 1 := by omega
  have htn2 : ((n : Int) + 1).toNat = n + 1 := by omega
  have hb2 : ¬ (c = i + 1) := by omega
  have hb3 : (i : Int) ≤ (n : Int) + 1 := by omega
  have hb4 : ¬ (c = i) := by omega
  have hb5 : (0 : Int) ≤ (i : Int) + 1 := by omega
  go_enter Try.func28, Try.ntmps28
  go_wp2_with (simp only [hov])
  go_region_law (refine step_copy_row rfl _ _ 23 23 rfl _ _ (by simp [Act.eval, Act.put]) (by simp [Act.eval, Act.put]) (hcp1 _ _ _) ?_)
  go_wp2_with (at_builtin; refine wpList_copy_row _ rfl _ _ 23 23 rfl _ _ rfl rfl (hcp2 _ _) ?_)
  go_ret
  exact ⟨rfl, rfl⟩

set_option maxHeartbeats 3200000 in
set_option maxRecDepth 100000 in
/-- there is no room. -/
theorem ins_grow (b off n c i vb voff vc : Nat) (cs vs : Array Value) (tb tv : TypeId) (w : World) (hi : i < n) (hnc : n ≤ c) (hroom : c < n + 1) (hbig : (n + 1) * 72 ≤ 140737488355328)
    (hb : w.heap[b]? = some (.cells cs tb (0, 0))) (hv : w.heap[vb]? = some (.cells vs tv (0, 0))) (hfit : off + n * 9 ≤ cs.size) (hvf : voff + 9 ≤ vs.size)
    (O A V : List Value) (hO : O = (cs.toList.drop off).take (i * 9)) (hA : A = (cs.toList.drop (off + i * 9)).take ((n - i) * 9)) (hV : V = (vs.toList.drop voff).take 9) (h1 : ∀ v ∈ A, v.oneCell' = true) (h2 : ∀ v ∈ V, v.oneCell' = true) :
    Calls Try.prog 28 #[.slice (some ⟨b, off, none⟩) n c, .int .i64 i, .slice (some ⟨vb, voff, none⟩) 1 vc] w fun e w1 =>
      ∃ G R, e = .returned (.slice (some ⟨w.heap.size, 0, none⟩) (n + 1) G) ∧ n + 1 ≤ G ∧ R.size = G * 9 ∧ R.toList.take ((n + 1) * 9) = O ++ V ++ A ∧ w1 = (w.drew.alloc (.cells R 34)).drew := by
  obtain ⟨i0, hi0, hz0, hz1, hz2⟩ := info_parts infoEi
  have hz3 : ¬ ((i : Int) = (n : Int)) := by omega
  have hz4 : (c : Int) < (n : Int) + 1 := by omega
  have hbw : b < w.heap.size := (Array.getElem?_eq_some_iff.1 hb).1
  have hvw : vb < w.heap.size := (Array.getElem?_eq_some_iff.1 hv).1
  have hkk : (n : Int) + 1 - (i : Int) = ((n + 1 - i : Nat) : Int) := by omega
  have hik : i + (n + 1 - i) = n + 1 := by omega
  have hOl : O.length = i * 9 := by rw [hO]; simp; omega
  have hAl : A.length = (n - i) * 9 := by rw [hA]; simp; omega
  have hVl : V.length = 9 := by rw [hV]; simp; omega
  have hold : (Builtin.firstCells i0.size i (.slice (some ⟨b, off, none⟩) i c)).run Try.prog w.drew = .ok O.toArray w.drew := by
    rw [hz1]
    exact run_firstCells_some w.drew 9 i ⟨b, off, none⟩ i c O hOl (fun j v hj => by
      rw [Addr.add_lit, cell_at (w := w.drew) hb]
      rw [hO, List.getElem?_take] at hj
      split at hj
      · rw [List.getElem?_drop] at hj; simpa using hj
      · cases hj)
  obtain ⟨G, hG⟩ : ∃ G, G = grownCap w (n + 1) c 34 := ⟨_, rfl⟩
  obtain ⟨z, hz⟩ : ∃ z : Value, i0.zero = some z ∧ z.cells.size = 9 := ⟨_, hz0, by rfl⟩
  obtain ⟨ROW, hROW⟩ : ∃ ROW : Array Value, ROW = O.toArray ++ Builtin.zeroCells z.cells (n + 1 - i) ++ Builtin.zeroCells z.cells (G - (n + 1)) := ⟨_, rfl⟩
  have hGn : n + 1 ≤ G := by rw [hG]; exact grownCap_ge w _ _ _
  have hG63 : G ≤ 9223372036854775807 := by
    have := grownCap_le_maxLen w (n + 1) c 34 (by unfold maxLen; omega)
    rw [← hG] at this
    unfold maxLen at this
    omega
  have hRs : ROW.size = G * 9 := by
    rw [hROW]
    simp only [Array.size_append, List.size_toArray, hOl, size_zeroCells, hz.2]
    omega
  have hrz : ∀ ty, (Builtin.append_ #[23, 3] ty #[.slice (some ⟨b, off, none⟩) i c, .int .i64 ((n : Int) + 1 - (i : Int))]).run Try.prog w =
      .ok (.slice (some ⟨w.heap.size, 0, none⟩) (n + 1) G) (w.drew.alloc (.cells ROW 34)) := fun ty => by
    have h := Lib.run_append_grow_zeros w 23 3 ty 34 i0 z .i64 .i64 Try.underlying23 Try.underlying3 hi0 hz.1 (some ⟨b, off, none⟩) i c O hold (n + 1 - i) (by omega) (by omega) (by omega) (by omega) (by rw [hz2]; omega) (by rw [hz2, hik]; exact growslice_fits hroom hbig)
    rw [hik, ← hG, ← hROW] at h
    rw [hkk]
    exact h
  obtain ⟨W1, hW1⟩ : ∃ W1, W1 = w.drew.alloc (.cells ROW 34) := ⟨_, rfl⟩
  have hg1 : W1.heap[w.heap.size]? = some (.cells ROW 34 (0, 0)) := by rw [hW1, heap_alloc']; exact if_pos rfl
  have hb1 : W1.heap[b]? = some (.cells cs tb (0, 0)) := by rw [hW1, heap_alloc', if_neg (by show ¬ b = w.heap.size; omega)]; exact hb
  have hv1 : W1.heap[vb]? = some (.cells vs tv (0, 0)) := by rw [hW1, heap_alloc', if_neg (by show ¬ vb = w.heap.size; omega)]; exact hv
  have hs1 : (splice ROW.toList (i * 9) V).length = G * 9 := by rw [splice_length _ _ _ (by rw [hVl]; simp [hRs]; omega)]; simp [hRs]
  have hs2 : (splice (splice ROW.toList (i * 9) V) ((i + 1) * 9) A).length = G * 9 := by rw [splice_length _ _ _ (by rw [hAl, hs1]; omega)]; exact hs1
  have hcp1 : ∀ ty dc, (Builtin.copy_ #[23, 23] ty #[.slice (some ⟨w.heap.size, i * 9, none⟩) (n + 1 - i) dc, .slice (some ⟨vb, voff, none⟩) 1 vc]).run Try.prog W1 = .ok (.int .i64 1) (W1.setRow w.heap.size (splice ROW.toList (i * 9) V).toArray) := fun ty dc => by
    have := run_copy_rows (P := Try.prog) W1 23 23 ty 34 i0 Try.underlying23 hi0 w.heap.size (i * 9) (n + 1 - i) dc vb voff 1 vc _ vs _ tv hg1 hv1 1 (by simp only [Nat.min_def]; split <;> omega) (by rw [hz1, hRs]; omega) (by rw [hz1]; omega) (by rw [hz1, Nat.one_mul, ← hV]; exact h2)
    rw [hz1, Nat.one_mul, ← hV] at this
    simpa using this
  obtain ⟨W2, hW2⟩ : ∃ W2, W2 = W1.setRow w.heap.size (splice ROW.toList (i * 9) V).toArray := ⟨_, rfl⟩
  have hg2 : W2.heap[w.heap.size]? = some (.cells (splice ROW.toList (i * 9) V).toArray 34 (0, 0)) := by rw [hW2]; exact setRow_heap W1 _ ROW _ _ (0, 0) hg1
  have hb2 : W2.heap[b]? = some (.cells cs tb (0, 0)) := by rw [hW2, setRow_other _ _ _ _ (by omega)]; exact hb1
  have hcp2 : ∀ ty dc sc, (Builtin.copy_ #[23, 23] ty #[.slice (some ⟨w.heap.size, (i + 1) * 9, none⟩) (n - i) dc, .slice (some ⟨b, off + i * 9, none⟩) (n - i) sc]).run Try.prog W2.drew = .ok (.int .i64 (n - i : Nat)) (W2.drew.setRow w.heap.size (splice (splice ROW.toList (i * 9) V) ((i + 1) * 9) A).toArray) := fun ty dc sc => by
    have := run_copy_rows (P := Try.prog) W2.drew 23 23 ty 34 i0 Try.underlying23 hi0 w.heap.size ((i + 1) * 9) (n - i) dc b (off + i * 9) (n - i) sc _ cs _ tb hg2 hb2 (n - i) (by simp) (by rw [hz1]; simp [hs1]; omega) (by rw [hz1]; omega) (by rw [hz1, ← hA]; exact h1)
    rw [hz1, ← hA] at this
    simpa using this
  have hfin : W2.drew.setRow w.heap.size (splice (splice ROW.toList (i * 9) V) ((i + 1) * 9) A).toArray = (w.drew.alloc (.cells (splice (splice ROW.toList (i * 9) V) ((i + 1) * 9) A).toArray 34)).drew := by
    rw [hW2, hW1]
    show (((w.drew.alloc (.cells ROW 34)).setRow w.heap.size _).setRow w.heap.size _).drew = _
    rw [setRow_setRow]
    exact congrArg World.drew (alloc_setRow w.drew ROW _ _)
  have htk : (splice (splice ROW.toList (i * 9) V) ((i + 1) * 9) A).take ((n + 1) * 9) = O ++ V ++ A := by
    have e1 : ROW.toList.take (i * 9) = O := by rw [hROW, ← hOl]; simp
    have e2 : (splice ROW.toList (i * 9) V).take ((i + 1) * 9) = O ++ V := by
      unfold splice
      rw [e1, List.take_append_of_le_length (by simp [hOl, hVl]; omega), List.take_of_length_le (by simp [hOl, hVl]; omega)]
    have hel : (O ++ V ++ A).length = (n + 1) * 9 := by simp [hOl, hVl, hAl]; omega
    show (((splice ROW.toList (i * 9) V).take ((i + 1) * 9)) ++ A ++ _).take _ = _
    rw [e2, List.take_append_of_le_length (by rw [hel]; exact Nat.le_refl _), List.take_of_length_le (by rw [hel]; exact Nat.le_refl _)]
  obtain ⟨R, hR⟩ : ∃ R, R = splice (splice ROW.toList (i * 9) V) ((i + 1) * 9) A := ⟨_, rfl⟩
  rw [← hR] at hs2 hcp2 hfin htk
  rw [← hW1] at hrz
  rw [← hW2] at hcp1
  rw [hfin] at hcp2
  have hGi : ¬ (G = i) := by omega
  have hGim : ¬ (G = i + 1) := by omega
  have hci : ¬ (c = i) := by omega
  have hw1 : IntKind.i64.wrap ((i : Int) + 1) = (i : Int) + 1 := by rw [IntKind.wrap_i64]; omega
  have hw2 : IntKind.i64.wrap ((n : Int) + 1) = (n : Int) + 1 := by rw [IntKind.wrap_i64]; omega
  have hw3 : IntKind.i64.wrap ((n : Int) + 1 - (i : Int)) = (n : Int) + 1 - (i : Int) := by rw [IntKind.wrap_i64]; omega
  have hin : i ≤ n := by omega
  have htn : ((i : Int) + 1).toNat = i + 1 := by omega
  have hb3 : (i : Int) ≤ (n : Int) := by omega
  have hb5 : (0 : Int) ≤ (i : Int) + 1 := by omega
  clear hkk hik hold hROW hG hz hRs hg1 hb1 hv1 hs1 hW1 hW2 hg2 hb2 hfin hR hb hv hfit hvf hO hA hV h1 h2 hOl hAl hVl
  go_enter Try.func28, Try.ntmps28
  go_wp2_with (first
    | (at_builtin; refine Lib.wpList_append_run _ rfl _ _ _ _ rfl _ _ rfl rfl _ _ (hrz _) ?_)
    | (at_builtin; refine wpList_copy_row _ rfl _ _ 23 23 rfl _ _ rfl rfl (hcp1 _ _) ?_))
  go_region_law (refine step_copy_row rfl _ _ 23 23 rfl _ _ (by simp [Act.eval, Act.put]) (by simp [Act.eval, Act.put]) (hcp2 _ _ _) ?_)
  go_wp2
  go_ret
  exact ⟨G, R.toArray, rfl, hGn, by simpa using hs2, by simpa using htk, rfl⟩
end Go.Proofs.Ytedhbklmebebgaa

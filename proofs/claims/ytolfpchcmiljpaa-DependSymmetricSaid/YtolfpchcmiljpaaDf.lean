/- The pairs of dependent steps, collected. -/
import Derived.Test.YtolfpchcmiljpaaDe
set_option linter.unusedSimpArgs false
set_option linter.unusedSectionVars false
set_option maxRecDepth 10000
namespace Go.Proofs.Ytolfpchcmiljpaa
open Go Go.RowKit

theorem Own.putB {α : Type} [Enc α] {S : St} {b : Nat} {v : Value} {l : List α} (h : Own S b v l) {id : Nat} (hid : id < b) (k : Blk) : Own (S.put id k) b v l := by
  rcases h with h | ⟨j, t, an, rfl, h1, h2, h3, h4⟩
  · exact .inl h
  · exact .inr ⟨j, t, an, rfl, by rw [St.get_put, if_neg (by omega)]; exact h1, h2, by simpa using h3, h4⟩
theorem Ext.putB {S S' : St} (h : Ext S S') {id : Nat} (hid : S.next ≤ id) (k : Blk) : Ext S (S'.put id k) :=
  ⟨by simpa using h.next, fun j hj => by rw [St.get_put, if_neg (by omega)]; exact h.get j hj⟩
theorem Own.boxc {α : Type} [Enc α] {S : St} {b : Nat} {v : Value} {l : List α} (h : Own S b v l) : boxc v = some [v] := by
  rcases h with ⟨rfl, _⟩ | ⟨j, t, an, rfl, _⟩ <;> exact boxc_slice _ _ _
theorem pairCs_len (p : Nat × Nat) : (pairCs p).length = 2 := Eq.trans rfl rfl
theorem allOne_pair (p : Nat × Nat) : allOne (pairCs p) = true := Eq.trans rfl rfl
theorem boxc_pair (p : Nat × Nat) : boxc (pairV p) = some (pairCs p) := by simp [boxc, pairCs, Value.cells, allOne_int, allOne_nil]
theorem reach_pairs {n : Nat} (h : n < 1000000) : (n + 1) * 16 ≤ reach := by unfold reach; omega

/-- a round that goes on. -/
theorem XY_roundN {P : Program} [Prim P] {id : Nat} {env : Array Value} {L : LoopC} {xa xb : XCode} {args : Array Value} {S : St} {Q : Value → St → Prop} (hget : S.get id = .loop env L none) (hL : XL P L = some (xa, xb)) (hn : L.n ≤ env.size) (hsz : args.size = L.ps.size)
    (h : XW P xa (updL (toF env) (L.ps.toList.zip args.toList)) (S.put id .gone) (fun e fe1 S1 => e = .normal ∧ XW P xb fe1 S1 (fun ex _ S2 => ex = .normal ∧ Q (.bool true) (S2.put id (.loop env L none))))) : XG P (.yield id) args S Q := by
  refine XY_round hget hL hn hsz (XW.mono (fun e fe S hh => ?_) h)
  refine ⟨hh.1, XW.mono (fun e fe S hh => ?_) hh.2⟩
  obtain ⟨rfl, hh⟩ := hh
  exact hh

section
variable [Prim Try.prog]

theorem collect_any {v : Value} {l : List Step} (idp : Nat) (t : TypeId) (mi : Bool) (an : List Nat) {S : St}
    (hrun : Run S v l) (hid : idp < S.next) (hg : S.get idp = .cells [v] t 1 mi an) (hl : l.length ≤ 1000) (hs : Sents l) :
    XC Try.prog 47 #[.slice none 0 0, .func (.func 41) #[] #[.pointer (some ⟨idp, 0, none⟩)]] S fun r S' => Ext S S' ∧ RdS S' r (depPairs l) := by
  refine XC_body XF47 ?_
  simp (decide := true) only [↓symD, symU, ↓XW_cond, Nat.reduceEqDiff, List.zip_cons_cons, List.zip_nil_left, Option.bind_some, Option.map_some, Option.map_none, List.map_toArray, List.map_cons, List.map_nil, ne_eq, List.append_toArray, List.nil_append, List.cons_append, List.append_nil, St.get_alloc, next_alloc, ↓reduceIte, Nat.left_eq_add, Nat.add_eq_left, Nat.add_right_cancel_iff, Nat.add_left_cancel_iff, Blk.rd_cells, List.length_cons, List.length_nil, List.drop_zero, List.drop_succ_cons, List.take_succ_cons, List.take_zero, part1_agg, part1_one, Nat.zero_add, Nat.add_assoc, Nat.reduceAdd, Nat.reduceLeDiff, Nat.reduceLT, Nat.lt_add_right_iff_pos, Nat.add_lt_add_iff_left, reduceCtorEq, Nat.lt_add_one, St.get_write, St.next_write, List.not_mem_nil, if_false, xf47, boxc_slice, List.length_cons, List.length_nil, Nat.zero_add]
  refine XRange.intro fun env henv hn => ?_
  have hxS : Ext S (S.alloc (.cells [.slice none 0 0] 25 1 true [])) := Ext.alloc _ _
  have gS : (S.alloc (.cells [.slice none 0 0] 25 1 true [])).get S.next = .cells [.slice none 0 0] 25 1 true [] := get_alloc_self _ _
  generalize hS1 : S.alloc (.cells [.slice none 0 0] 25 1 true []) = S1 at hxS gS ⊢
  have n1 : S1.next = S.next + 1 := by rw [← hS1]; rfl
  clear hS1
  have hj0 := dep1_any (fun d S' => Ext S S' ∧ S.next + 2 ≤ S'.next ∧ S'.get (S.next + 1) = .loop env (loopIn Try.prog 47 1) none ∧ ∃ u, S'.get S.next = .cells [u] 25 1 true [] ∧ Own S' (S.next + 2) u d)
    (v := v) (l := l) (S.next + 1) idp t mi an ?_ ?_ ?_ hl hs (S := S1.alloc (.loop env (loopIn Try.prog 47 1) none)) ?_
  · rw [n1]
    refine XC.mono hj0 ?_
    rintro _ S2 ⟨hx, hn2, hlp, u, hu, hown⟩
    refine ⟨env, _, none, hlp, ?_⟩
    have e1 : (Blk.cells [u] 25 1 true []).rd 0 1 = some [u] := rfl
    have g1 : (S2.put (S.next + 1) .gone).get S.next = .cells [u] 25 1 true [] := by rw [St.get_put, if_neg (by omega)]; exact hu
    have hn3 : S.next < S2.next := by omega
    generalize hS3 : S2.put (S.next + 1) .gone = S3 at g1 ⊢
    have h3 : Ext S S3 ∧ Own S3 (S.next + 2) u (depPairs l) := by rw [← hS3]; exact ⟨hx.putB (by omega) _, hown.putB (by omega) _⟩
    have hn4 : S.next < S3.next := by rw [← hS3]; simpa using hn3
    clear hS3
    simp (decide := true) only [↓symD, symU, ↓XW_cond, Nat.reduceEqDiff, List.zip_cons_cons, List.zip_nil_left, Option.bind_some, Option.map_some, Option.map_none, List.map_toArray, List.map_cons, List.map_nil, ne_eq, List.append_toArray, List.nil_append, List.cons_append, List.append_nil, Option.getD_none, g1, e1, part1_one]
    exact ⟨h3.1, h3.2.rd⟩
  · rintro d S2 ⟨hx, hn2, hlp, _⟩
    exact ⟨hrun.mono hx, by omega, by rw [hx.get _ hid]; exact hg⟩
  · rintro d S2 S3 ⟨hx, hn2, hlp, u, hu, hown⟩ hx2
    exact ⟨hx.trans hx2, by have := hx2.next; omega, by rw [hx2.get _ (by omega)]; exact hlp, u, by rw [hx2.get _ (by omega)]; exact hu, hown.mono hx2⟩
  · rintro d i k S2 ⟨hx, hn2, hlp, u, hu, hown⟩ hik hk hdp hlen
    refine XY_roundN hlp XL47_1 hn (by rw [XP47_1]; rfl) ?_
    rw [XP47_1]
    simp only [updL, List.zip_cons_cons, List.zip_nil_left, List.foldl_cons, List.foldl_nil]
    rw [henv]
    have g1 : (S2.put (S.next + 1) .gone).get S.next = .cells [u] 25 1 true [] := by rw [St.get_put, if_neg (by omega)]; exact hu
    have hx3 : Ext S (S2.put (S.next + 1) .gone) := hx.putB (by omega) _
    have hown3 : Own (S2.put (S.next + 1) .gone) (S.next + 2) u d := hown.putB (by omega) _
    have hn3 : S.next + 2 ≤ (S2.put (S.next + 1) .gone).next := by simpa using hn2
    generalize S2.put (S.next + 1) .gone = S3 at g1 hx3 hown3 hn3 ⊢
    have e1 : (Blk.cells [u] 25 1 true []).rd 0 1 = some [u] := rfl
    have s1 : ∀ c : List Value, c.length = 2 → stv 2 (pairCs (i, k)) 0 (.cells c 27 2 true []) = some (pairCs (i, k), 27, 2, []) := by
      intro c hc
      rw [stv_cells, if_pos ⟨rfl, by omega⟩]
      simp [splice, pairCs, hc]
    have c1 : (Value.agg #[.int .i64 0, .int .i64 0]).cells.toList = [.int .i64 0, .int .i64 0] := by simp [Value.cells]
    have s1 : stv 2 (pairCs (i, k)) 0 (.cells [.int .i64 0, .int .i64 0] 27 2 true []) = some (pairCs (i, k), 27, 2, []) := rfl
    simp (decide := true) only [↓symD, symU, ↓XW_cond, Nat.reduceEqDiff, List.zip_cons_cons, List.zip_nil_left, Option.bind_some, Option.map_some, Option.map_none, List.map_toArray, List.map_cons, List.map_nil, ne_eq, List.append_toArray, List.nil_append, List.cons_append, List.append_nil, xa47_1, c1, boxc_pair, blkOf_ptr, get_alloc_self, List.length_cons, List.length_nil, Nat.zero_add, Nat.reduceAdd, s1, true_and]
    have hx4 : Ext S3 ((S3.alloc (.cells [.int .i64 0, .int .i64 0] 27 2 true [])).write S3.next (pairCs (i, k)) 27 2 []) := ext_box_write _ _ _ _ _
    have gp : ((S3.alloc (.cells [.int .i64 0, .int .i64 0] 27 2 true [])).write S3.next (pairCs (i, k)) 27 2 []).get S3.next = .cells (pairCs (i, k)) 27 2 true [] := get_write_self _ _ _ _ _ _
    have n4 : ((S3.alloc (.cells [.int .i64 0, .int .i64 0] 27 2 true [])).write S3.next (pairCs (i, k)) 27 2 []).next = S3.next + 1 := by simp
    generalize (S3.alloc (.cells [.int .i64 0, .int .i64 0] 27 2 true [])).write S3.next (pairCs (i, k)) 27 2 [] = S4 at hx4 gp n4 ⊢
    have g4 : S4.get S.next = .cells [u] 25 1 true [] := by rw [hx4.get _ (by omega)]; exact g1
    have hown4 := hown3.mono hx4
    have e2 : (Blk.cells (pairCs (i, k)) 27 2 true []).rd 0 2 = some (pairCs (i, k)) := rfl
    have hone : RdS (S4.alloc (.cells (pairCs (i, k)) 27 2 true [])) (.slice (some ⟨S4.next, 0, none⟩) 1 1) [(i, k)] := RdS.one S4 (i, k) _
    obtain ⟨r, S5, a1, a2, a3⟩ := (hown4.mono (Ext.alloc S4 (.cells (pairCs (i, k)) 27 2 true []))).append hone (by simp; omega) 27 16 (by simpa using reach_pairs hlen) (by decide)
    have a1' : xappend 27 2 16 u (.slice (some ⟨S4.next, 0, none⟩) 1 1) (S4.alloc (.cells (pairCs (i, k)) 27 2 true [])) = some (r, S5) := a1
    have hn5 := a3.next
    have g5 : S5.get S.next = .cells [u] 25 1 true [] := by rw [a3.get _ (by omega), get_alloc_ne _ _ _ (by omega)]; exact g4
    have s2 : stv 1 [r] 0 (.cells [u] 25 1 true []) = some ([r], 25, 1, []) := rfl
    simp (decide := true) only [↓symD, symU, ↓XW_cond, Nat.reduceEqDiff, List.zip_cons_cons, List.zip_nil_left, Option.bind_some, Option.map_some, Option.map_none, List.map_toArray, List.map_cons, List.map_nil, ne_eq, List.append_toArray, List.nil_append, List.cons_append, List.append_nil, fillL, splice, rep, List.replicate_succ, List.replicate_zero, List.flatten_cons, List.flatten_nil, List.append_nil, List.nil_append, List.cons_append, Value.cells, List.append_assoc, and_self, true_and, and_true, List.size_toArray, List.length_cons, List.length_nil, Nat.zero_add, ↓reduceIte, List.take_zero, List.drop_zero, List.drop_succ_cons, List.take_succ_cons, Nat.reduceAdd, Nat.reduceLeDiff, Nat.reduceEqDiff, allOne_int, allOne_nil, List.toList_toArray, boxc_agg, blkOf_ptr, stv_cells, Nat.add_zero, xb47_1, g4, gp, e1, e2, part1_one, part1_agg, pairCs_len, allOne_pair, List.drop_succ_cons, List.drop_nil, a1', a2.boxc, blkOf_ptr, g5, s2, true_and]
    have hw : Fr S.next S5 (S5.write S.next [r] 25 1 []) := Fr.write _ _ _ _ (Nat.le_refl _) (by simp)
    have hx5 : Ext S S5 := Fr.ext ((((hx3.trans hx4).trans (Ext.alloc _ _)).fr (Nat.le_refl _)).trans ⟨a3.next, fun j hj => a3.get j (by omega)⟩)
    refine ⟨(Fr.ext ((hx5.fr (Nat.le_refl _)).trans hw)).putB (by omega) _, ?_, ?_, r, ?_, ?_⟩
    · simp at hn5 ⊢; omega
    · rw [St.get_put, if_pos rfl]
    · rw [St.get_put, if_neg (by omega), get_write_self]
    · exact (a2.off (by omega) _ _ _).putB (by omega) _
  · refine ⟨hxS.trans (Ext.alloc _ _), by simp; omega, ?_, .slice none 0 0, ?_, Own.nil _ _⟩
    · rw [← n1]; exact get_alloc_self _ _
    · rw [get_alloc_ne _ _ _ (by omega)]; exact gS

theorem collect32_any {v : Value} {l : List Step} (idp : Nat) (t : TypeId) (mi : Bool) (an : List Nat) {S : St}
    (hrun : Run S v l) (hid : idp < S.next) (hg : S.get idp = .cells [v] t 1 mi an) (hl : l.length ≤ 1000) (hs : Sents l) :
    XC Try.prog 32 #[.func (.func 41) #[] #[.pointer (some ⟨idp, 0, none⟩)]] S fun r S' => Ext S S' ∧ RdS S' r (depPairs l) := by
  refine XC_body XF32 ?_
  simp (decide := true) only [↓symD, symU, ↓XW_cond, Nat.reduceEqDiff, List.zip_cons_cons, List.zip_nil_left, Option.bind_some, Option.map_some, Option.map_none, List.map_toArray, List.map_cons, List.map_nil, ne_eq, List.append_toArray, List.nil_append, List.cons_append, List.append_nil, xf32]
  refine XCall.of (collect_any idp t mi an hrun hid hg hl hs) ?_
  rintro r S1 h
  simp (decide := true) only [↓symD, symU, ↓XW_cond, Nat.reduceEqDiff, List.zip_cons_cons, List.zip_nil_left, Option.bind_some, Option.map_some, Option.map_none, List.map_toArray, List.map_cons, List.map_nil, ne_eq, List.append_toArray, List.nil_append, List.cons_append, List.append_nil]
  exact h
theorem deps_any {v : Value} {l : List Step} {S : St} (hrun : Run S v l) :
    XC Try.prog 27 #[v] S fun r S' => Ext S S' ∧ S'.next = S.next + 1 ∧ r = .func (.func 41) #[] #[.pointer (some ⟨S.next, 0, none⟩)] ∧ S'.get S.next = .cells [v] 23 1 true [] := by
  refine XC_body XF27 ?_
  have hb : boxc v = some [v] := by
    obtain ⟨rs, h1, _⟩ := hrun
    obtain ⟨s, rfl⟩ := h1.sv
    exact boxc_slice _ _ _
  simp (decide := true) only [↓symD, symU, ↓XW_cond, Nat.reduceEqDiff, List.zip_cons_cons, List.zip_nil_left, Option.bind_some, Option.map_some, Option.map_none, List.map_toArray, List.map_cons, List.map_nil, ne_eq, List.append_toArray, List.nil_append, List.cons_append, List.append_nil, xf27, hb, List.length_cons, List.length_nil, Nat.zero_add]
  exact ⟨Ext.alloc _ _, trivial, trivial, get_alloc_self _ _⟩
end
end Go.Proofs.Ytolfpchcmiljpaa

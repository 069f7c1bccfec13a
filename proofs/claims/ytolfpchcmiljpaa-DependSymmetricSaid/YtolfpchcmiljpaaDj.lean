/- poset.New. -/
import Derived.Test.YtolfpchcmiljpaaDk
set_option linter.unusedSimpArgs false
set_option linter.unusedSectionVars false
set_option maxRecDepth 10000
namespace Go.Proofs.Ytolfpchcmiljpaa
open Go Go.RowKit

theorem allOne_nilslice : allOne [Value.slice none 0 0] = true := by simp [allOne, Value.oneCell']
theorem cells_slice (a : Option Addr) (n c : Nat) : (Value.slice a n c).cells.toList = [.slice a n c] := by simp [Value.cells]

theorem allOne_sl (a : Option Addr) (k c : Nat) : allOne [.slice a k c] = true := by simp [allOne, Value.oneCell']
theorem allOne_order (n : Int) (a : Option Addr) (k c : Nat) : allOne [.int .i64 n, .slice a k c] = true := by simp [allOne, Value.oneCell']

section
variable [Prim Try.prog]

theorem new_any {S0 : St} {pv : Value} {ps : Pairs} {n : Nat} (hp : RdS S0 pv ps) (hu : Up ps n) (hn : n ≤ 64) (hl : ps.length ≤ 1000000) :
    XC Try.prog 31 #[.int .i64 n, pv] S0 fun r S' => Ext S0 S' ∧ ∃ p, r = .tuple #[p, .int .i64 0] ∧ Ord S' S0.next p n ps := by
  refine XC_body XF31 ?_
  have d1 : ¬ ((n : Int) < 0) := by omega
  have d2 : ¬ ((n : Int) > 5000) := by omega
  have k1 := mksv_ok 22 1 24 [.slice none 0 0] n
  have k1' := fun S => mksv_ok 68 1 24 [.slice none 0 0] n S (by unfold reach; omega) (by decide) rfl allOne_nilslice
  have k2 := mksv_ok 3 1 8 [.int .i64 0] n
  have r1 : 24 * n ≤ reach := by unfold reach; omega
  have r2 : 8 * n ≤ reach := by unfold reach; omega
  simp (decide := true) only [↓symD, symU, ↓XW_cond, Nat.reduceEqDiff, List.zip_cons_cons, List.zip_nil_left, Option.bind_some, Option.map_some, Option.map_none, List.map_toArray, List.map_cons, List.map_nil, ne_eq, List.append_toArray, List.nil_append, List.cons_append, List.append_nil, ↓XS_mkSlice, ↓XS_minmax, St.get_alloc, next_alloc, ↓reduceIte, Nat.left_eq_add, Nat.add_eq_left, Nat.add_right_cancel_iff, Nat.add_left_cancel_iff, Blk.rd_cells, List.length_cons, List.length_nil, List.drop_zero, List.drop_succ_cons, List.take_succ_cons, List.take_zero, part1_agg, part1_one, Nat.zero_add, Nat.add_assoc, Nat.reduceAdd, Nat.reduceLeDiff, Nat.reduceLT, Nat.lt_add_right_iff_pos, Nat.add_lt_add_iff_left, reduceCtorEq, Nat.lt_add_one, St.get_write, St.next_write, List.not_mem_nil, if_false, xf31, boxc_int, boxc_slice, cells_slice, xbin_lss, xbin_gtr, d1, d2, decide_false, k1, k2, r1, r2, allOne_nilslice, allOne_int, allOne_nil, blkOf_ptr, stBox, hp.len]
  refine XLoop_at fun S1 hS1 => ?_
  obtain ⟨col1, pn1, ow1, nx1⟩ := PN.start S0 n S1 hS1
  have hp1 : RdS S1 pv ps := hp.mono pn1.fl.ext
  clear hS1
  refine XW_loopR 1 (fun m fe S' => Ext S1 S' ∧ fe 1 = pv ∧ fe 2 = .pointer (some ⟨S0.next, 0, none⟩) ∧ fe 6 = .pointer (some ⟨S0.next + 2, 0, none⟩) ∧ fe 7 = .slice (some ⟨S0.next + 3, 0, none⟩) n n ∧ fe 32 = pv ∧ fe 33 = .int .i64 ps.length ∧ ∃ i : Nat, fe 34 = .int .i64 i ∧ m + i = ps.length)
    (fun fe S' => Ext S1 S' ∧ fe 1 = pv ∧ fe 2 = .pointer (some ⟨S0.next, 0, none⟩) ∧ fe 6 = .pointer (some ⟨S0.next + 2, 0, none⟩) ∧ fe 7 = .slice (some ⟨S0.next + 3, 0, none⟩) n n) ps.length ?_ ?_ ?_
  · simp (decide := true) only [↓symD, symU, ↓XW_cond, Nat.reduceEqDiff, List.zip_cons_cons, List.zip_nil_left, Option.bind_some, Option.map_some, Option.map_none, List.map_toArray, List.map_cons, List.map_nil, ne_eq, List.append_toArray, List.nil_append, List.cons_append, List.append_nil, true_and]
    exact ⟨Ext.refl _, 0, rfl, by omega⟩
  · rintro m fe S2 ⟨hx, h1, h2, h6, h7, h32, h33, i, h34, hm⟩
    simp (decide := true) only [↓symD, symU, ↓XW_cond, Nat.reduceEqDiff, List.zip_cons_cons, List.zip_nil_left, Option.bind_some, Option.map_some, Option.map_none, List.map_toArray, List.map_cons, List.map_nil, ne_eq, List.append_toArray, List.nil_append, List.cons_append, List.append_nil, h33, h34, xbin_lss]
    refine Test_dec (fun hlt => ?_) (fun hge => ?_)
    · have hi : i < ps.length := by omega
      obtain ⟨ix, ox, x1, x2, x3⟩ := (hp1.mono hx).pairs i hi
      have hup := hu _ (List.getElem_mem hi)
      have bn2 := (pn1.bn.mono hx).1
      have hnx := hx.next
      have hne : ¬ (S0.next = S2.next) := by omega
      have m1 : ¬ ((ps[i].2 : Int) < ps[i].1) := by omega
      have m2 : (ps[i].2 : Int) > ps[i].1 := by omega
      have m3 : ¬ ((ps[i].1 : Int) < 0) := by omega
      have m4 : ¬ ((ps[i].2 : Int) ≥ n) := by omega
      have w1 := w64_add1 i (by omega)
      simp (decide := true) only [↓symD, symU, ↓XW_cond, Nat.reduceEqDiff, List.zip_cons_cons, List.zip_nil_left, Option.bind_some, Option.map_some, Option.map_none, List.map_toArray, List.map_cons, List.map_nil, ne_eq, List.append_toArray, List.nil_append, List.cons_append, List.append_nil, ↓XS_minmax, St.get_alloc, St.get_write, ↓reduceIte, List.not_mem_nil, if_false, h1, h2, h6, h7, h32, h33, h34, x1, x3, bn2, hne, part1_one, part1_agg, cells_zp, boxc_pair, blkOf_ptr, stPair, List.length_cons, List.length_nil, Nat.zero_add, Nat.reduceAdd, ia0, ia1, rdP0, rdP1, rdBox, mm_min, mm_max, m1, m2, m3, m4, xbin_lss, xbin_geq, xbin_add, w1, decide_false, true_and]
      exact ⟨m - 1, by omega, hx.trans (ext_box_write _ _ _ _ _), i + 1, rfl, by omega⟩
    · simp (decide := true) only [↓symD, symU, ↓XW_cond, Nat.reduceEqDiff, List.zip_cons_cons, List.zip_nil_left, Option.bind_some, Option.map_some, Option.map_none, List.map_toArray, List.map_cons, List.map_nil, ne_eq, List.append_toArray, List.nil_append, List.cons_append, List.append_nil, h1, h2, h6, h7, true_and]
      exact ⟨hx, trivial⟩
  rintro fe S2 ⟨hx2, h1, h2, h6, h7⟩
  have pn2 := pn1.mono hx2
  have ow2 := ow1.mono hx2
  have hp2 := hp1.mono hx2
  clear pn1 ow1 hp1 nx1 hx2
  simp (decide := true) only [↓symD, symU, ↓XW_cond, Nat.reduceEqDiff, List.zip_cons_cons, List.zip_nil_left, Option.bind_some, Option.map_some, Option.map_none, List.map_toArray, List.map_cons, List.map_nil, ne_eq, List.append_toArray, List.nil_append, List.cons_append, List.append_nil, h1, hp2.len]
  refine XW_loopR 3 (fun m fe S' => fe 2 = .pointer (some ⟨S0.next, 0, none⟩) ∧ fe 6 = .pointer (some ⟨S0.next + 2, 0, none⟩) ∧ fe 7 = .slice (some ⟨S0.next + 3, 0, none⟩) n n ∧ fe 54 = pv ∧ fe 55 = .int .i64 ps.length ∧ ∃ i : Nat, fe 56 = .int .i64 i ∧ m + i = ps.length ∧
      ∃ col vN xs ws, PN S0 S' col n S0.next (S0.next + 2) (nxt (ps.take i)) vN xs ∧ OwnK S' col 4 (.slice (some ⟨S0.next + 3, 0, none⟩) n n) ws ∧ ws.length = n ∧ ∀ b (h : b < ws.length), ws[b] = inc (ps.take i) b)
    (fun fe S' => fe 2 = .pointer (some ⟨S0.next, 0, none⟩) ∧ fe 6 = .pointer (some ⟨S0.next + 2, 0, none⟩) ∧ fe 7 = .slice (some ⟨S0.next + 3, 0, none⟩) n n ∧
      ∃ col vN xs ws, PN S0 S' col n S0.next (S0.next + 2) (nxt ps) vN xs ∧ OwnK S' col 4 (.slice (some ⟨S0.next + 3, 0, none⟩) n n) ws ∧ ws.length = n ∧ ∀ b (h : b < ws.length), ws[b] = inc ps b) ps.length ?_ ?_ ?_
  · simp (decide := true) only [↓symD, symU, ↓XW_cond, Nat.reduceEqDiff, List.zip_cons_cons, List.zip_nil_left, Option.bind_some, Option.map_some, Option.map_none, List.map_toArray, List.map_cons, List.map_nil, ne_eq, List.append_toArray, List.nil_append, List.cons_append, List.append_nil, h2, h6, h7, true_and]
    refine ⟨0, rfl, by omega, _, _, _, _, pn2, ow2, by simp, fun b h => ?_⟩
    rw [List.getElem_replicate]; rfl
  · rintro m fe S3 ⟨h2, h6, h7, h54, h55, i, h56, hm, col, vN, xs, ws, pn, ow, hws, hw⟩
    simp (decide := true) only [↓symD, symU, ↓XW_cond, Nat.reduceEqDiff, List.zip_cons_cons, List.zip_nil_left, Option.bind_some, Option.map_some, Option.map_none, List.map_toArray, List.map_cons, List.map_nil, ne_eq, List.append_toArray, List.nil_append, List.cons_append, List.append_nil, h55, h56, xbin_lss]
    refine Test_dec (fun hlt => ?_) (fun hge => ?_)
    · have hi : i < ps.length := by omega
      obtain ⟨ix, ox, x1, x2, x3⟩ := (hp.mono pn.fl.ext).pairs i hi
      have hup := hu _ (List.getElem_mem hi)
      have c3 := BoxK.alloc S3 col 7 8 [.int .i64 0, .int .i64 0] 27 2
      have pnA := pn.chg c3.2 (by decide) (by decide)
      have owA := ow.keep c3.2 (by decide)
      generalize hcA : paint col S3 7 = colA at c3 pnA owA
      generalize hA : S3.alloc (.cells [.int .i64 0, .int .i64 0] 27 2 true []) = SA at c3 pnA owA
      have gA := c3.1.1
      have c4 := c3.1.write (pairCs ps[i])
      have pnB := pnA.chg c4.2 (by decide) (by decide)
      have owB := owA.keep c4.2 (by decide)
      generalize hB : SA.write S3.next (pairCs ps[i]) 27 2 [] = SB at c4 pnB owB
      have gB7 := c4.1.1
      have gB2 := pnB.bx.1
      obtain ⟨id, o, e1, e2, e3⟩ := pnB.own.rd.svs ps[i].1 (by rw [pnB.len]; omega)
      have hxC : Ext SB (SB.alloc (.cells [.int .i64 (ps[i].2 : Int)] 3 1 true [])) := Ext.alloc _ _
      have rdC : RdS (SB.alloc (.cells [.int .i64 (ps[i].2 : Int)] 3 1 true [])) (.slice (some ⟨SB.next, 0, none⟩) 1 1) [ps[i].2] := RdS.one SB ps[i].2 _
      generalize hC : SB.alloc (.cells [.int .i64 (ps[i].2 : Int)] 3 1 true []) = SC at hxC rdC
      have hadj : (nxt (ps.take i) ps[i].1).length < 1000000 := by
        unfold nxt
        rw [List.length_map]
        refine Nat.lt_of_le_of_lt (List.length_filter_le _ _) ?_
        rw [List.length_take]; omega
      obtain ⟨r, SD, cs, t, z, an, colD, xs', a1, a2, a3, a4, a5, a6, pnE⟩ := (pnB.mono hxC).push ps[i].1 ps[i].2 (by rw [pnB.len]; omega) _ rdC hadj e1
      have owE := ((owB.mono hxC).keepP a6 (by omega))
      have gE7 := ((c4.1.mono hxC).keepP a6 (by omega)).1
      generalize hE : SD.write id cs t z an = SE at a6 pnE owE gE7
      obtain ⟨iw, ow', y1, y2, y3⟩ := owE.rd.nat ps[i].2 (by omega)
      obtain ⟨iw2, ow2', cs2, t2, z2, an2, b1, b2, b3, b4, b5⟩ := owE.store ps[i].2 (by omega) (ws[ps[i].2] + 1)
      obtain ⟨rfl, rfl⟩ : iw2 = iw ∧ ow2' = ow' := by
        have := y1.symm.trans b1
        simp only [Option.some.injEq, Value.pointer.injEq, Addr.mk.injEq, and_true] at this
        exact ⟨this.1.symm, this.2.symm⟩
      have b2' : stv 1 [.int .i64 ((ws[ps[i].2] + 1 : Nat) : Int)] ow2' (SE.get iw2) = some (cs2, t2, z2, an2) := b2
      have hinc : ws[ps[i].2] < 9223372036854775807 := by
        rw [hw]
        unfold inc
        refine Nat.lt_of_le_of_lt List.countP_le_length ?_
        rw [List.length_take]; omega
      have w1 := w64_add1 i (by omega)
      have w2 := w64_add1 _ hinc
      simp (decide := true) only [↓symD, symU, ↓XW_cond, Nat.reduceEqDiff, List.zip_cons_cons, List.zip_nil_left, Option.bind_some, Option.map_some, Option.map_none, List.map_toArray, List.map_cons, List.map_nil, ne_eq, List.append_toArray, List.nil_append, List.cons_append, List.append_nil, h2, h6, h7, h54, h55, h56, x1, x3, part1_one, part1_agg, cells_zp, boxc_pair, boxc_int, blkOf_ptr, stPair, List.length_cons, List.length_nil, Nat.zero_add, Nat.reduceAdd, hA, gA, hB, gB7, gB2, ia0, ia1, rdP0, rdP1, rdBox, e1, e3, fillL, splice, rep, List.replicate_succ, List.replicate_zero, List.flatten_cons, List.flatten_nil, List.append_nil, List.nil_append, List.cons_append, Value.cells, List.append_assoc, and_self, true_and, and_true, List.size_toArray, List.length_cons, List.length_nil, Nat.zero_add, ↓reduceIte, List.take_zero, List.drop_zero, List.drop_succ_cons, List.take_succ_cons, Nat.reduceAdd, Nat.reduceLeDiff, Nat.reduceEqDiff, allOne_int, allOne_nil, List.toList_toArray, boxc_agg, blkOf_ptr, stv_cells, Nat.add_zero, allOne_pair, pairCs_len, List.drop_nil, hC, a1]
      refine keepP.introL (by rw [hC]; exact a2) ?_
      simp (decide := true) only [↓symD, symU, ↓XW_cond, Nat.reduceEqDiff, List.zip_cons_cons, List.zip_nil_left, Option.bind_some, Option.map_some, Option.map_none, List.map_toArray, List.map_cons, List.map_nil, ne_eq, List.append_toArray, List.nil_append, List.cons_append, List.append_nil, h2, h6, h7, h54, h55, h56, e1, a3, a4, blkOf_ptr, hE, ia0, ia1, rdP0, rdP1, gE7, part1_one, y1, y3, xbin_add, w1, w2, boxc_int, b2', true_and]
      refine ⟨m - 1, by omega, i + 1, rfl, by omega, colD, vN, xs', ws.set ps[i].2 (ws[ps[i].2] + 1), ?_, b3, by simpa using hws, ?_⟩
      · rw [take_snoc ps i hi]
        refine (pnE.chg b4 (by decide) (by decide)).adj_eq fun j => ?_
        rw [nxt_append]
        by_cases e : j = ps[i].1
        · rw [if_pos e, if_pos e.symm, e]
        · rw [if_neg e, if_neg (Ne.symm e)]
      · rw [take_snoc ps i hi]
        exact counts_inc (by omega) hw
    · simp (decide := true) only [↓symD, symU, ↓XW_cond, Nat.reduceEqDiff, List.zip_cons_cons, List.zip_nil_left, Option.bind_some, Option.map_some, Option.map_none, List.map_toArray, List.map_cons, List.map_nil, ne_eq, List.append_toArray, List.nil_append, List.cons_append, List.append_nil, h2, h6, h7, true_and]
      obtain rfl : i = ps.length := by omega
      rw [List.take_length] at pn
      exact ⟨col, vN, xs, ws, pn, ow, hws, by rw [List.take_length] at hw; exact hw⟩
  rintro fe S3 ⟨h2, h6, h7, col3, vN, xs, ws, pn3, ow3, hws, hw⟩
  have ow3rd := ow3.rd
  clear pn2 ow2 hp2 h1
  simp (decide := true) only [↓symD, symU, ↓XW_cond, Nat.reduceEqDiff, List.zip_cons_cons, List.zip_nil_left, Option.bind_some, Option.map_some, Option.map_none, List.map_toArray, List.map_cons, List.map_nil, ne_eq, List.append_toArray, List.nil_append, List.cons_append, List.append_nil, h2, pn3.bn.1, rdBox, part1_one]
  refine XW_loopR 5 (fun m fe S' => fe 2 = .pointer (some ⟨S0.next, 0, none⟩) ∧ fe 6 = .pointer (some ⟨S0.next + 2, 0, none⟩) ∧ fe 7 = .slice (some ⟨S0.next + 3, 0, none⟩) n n ∧ fe 81 = .int .i64 n ∧ ∃ i : Nat, fe 82 = .int .i64 i ∧ m + i = n ∧
      ∃ col vR, fe 12 = vR ∧ PN S0 S' col n S0.next (S0.next + 2) (nxt ps) vN xs ∧ OwnK S' col 4 (.slice (some ⟨S0.next + 3, 0, none⟩) n n) ws ∧ OwnK S' col 5 vR ((List.range i).filter fun i => inc ps i == 0))
    (fun fe S' => fe 2 = .pointer (some ⟨S0.next, 0, none⟩) ∧ fe 6 = .pointer (some ⟨S0.next + 2, 0, none⟩) ∧ fe 7 = .slice (some ⟨S0.next + 3, 0, none⟩) n n ∧
      ∃ col vR, fe 12 = vR ∧ PN S0 S' col n S0.next (S0.next + 2) (nxt ps) vN xs ∧ OwnK S' col 4 (.slice (some ⟨S0.next + 3, 0, none⟩) n n) ws ∧ OwnK S' col 5 vR (row0 ps n)) n ?_ ?_ ?_
  · simp (decide := true) only [↓symD, symU, ↓XW_cond, Nat.reduceEqDiff, List.zip_cons_cons, List.zip_nil_left, Option.bind_some, Option.map_some, Option.map_none, List.map_toArray, List.map_cons, List.map_nil, ne_eq, List.append_toArray, List.nil_append, List.cons_append, List.append_nil, h2, h6, h7, true_and]
    exact ⟨0, rfl, by omega, col3, _, rfl, pn3, ow3, OwnK.nil _ _ _⟩
  · rintro m fe S4 ⟨h2, h6, h7, h81, i, h82, hm, col, vR, h12, pn, ow, own⟩
    simp (decide := true) only [↓symD, symU, ↓XW_cond, Nat.reduceEqDiff, List.zip_cons_cons, List.zip_nil_left, Option.bind_some, Option.map_some, Option.map_none, List.map_toArray, List.map_cons, List.map_nil, ne_eq, List.append_toArray, List.nil_append, List.cons_append, List.append_nil, h81, h82, xbin_lss]
    refine Test_dec (fun hlt => ?_) (fun hge => ?_)
    · have hi : i < n := by omega
      obtain ⟨iw, ow', y1, y2, y3⟩ := ow.rd.nat i (by omega)
      have w1 := w64_add1 i (by omega)
      have hr : ((List.range (i + 1)).filter fun i => inc ps i == 0) = ((List.range i).filter fun i => inc ps i == 0) ++ (if inc ps i == 0 then [i] else []) := by
        rw [List.range_succ, List.filter_append]
        congr 1
        rw [List.filter_cons, List.filter_nil]
      simp (decide := true) only [↓symD, symU, ↓XW_cond, Nat.reduceEqDiff, List.zip_cons_cons, List.zip_nil_left, Option.bind_some, Option.map_some, Option.map_none, List.map_toArray, List.map_cons, List.map_nil, ne_eq, List.append_toArray, List.nil_append, List.cons_append, List.append_nil, h7, h82, y1, y3, part1_one, xbin_eql]
      refine Test_dec (fun h0 => ?_) (fun h0 => ?_)
      · have h0' : inc ps i = 0 := by rw [hw i (by omega)] at h0; omega
        have hxC : Ext S4 (S4.alloc (.cells [.int .i64 (i : Int)] 3 1 true [])) := Ext.alloc _ _
        have rdC : RdS (S4.alloc (.cells [.int .i64 (i : Int)] 3 1 true [])) (.slice (some ⟨S4.next, 0, none⟩) 1 1) [i] := RdS.one S4 i _
        generalize hC : S4.alloc (.cells [.int .i64 (i : Int)] 3 1 true []) = SC at hxC rdC
        have hlen : ((List.range i).filter fun i => inc ps i == 0).length ≤ n := by
          refine Nat.le_trans (List.length_filter_le _ _) ?_
          simp; omega
        obtain ⟨r, SD, colD, a1, a2, a3, a4⟩ := (own.mono hxC).append rdC 3 8 (by simp [reach] at *; omega) (by decide)
        have a1' : xappend 3 1 8 vR (.slice (some ⟨S4.next, 0, none⟩) 1 1) SC = some (r, SD) := a1
        simp (decide := true) only [↓symD, symU, ↓XW_cond, Nat.reduceEqDiff, List.zip_cons_cons, List.zip_nil_left, Option.bind_some, Option.map_some, Option.map_none, List.map_toArray, List.map_cons, List.map_nil, ne_eq, List.append_toArray, List.nil_append, List.cons_append, List.append_nil, fillL, splice, rep, List.replicate_succ, List.replicate_zero, List.flatten_cons, List.flatten_nil, List.append_nil, List.nil_append, List.cons_append, Value.cells, List.append_assoc, and_self, true_and, and_true, List.size_toArray, List.length_cons, List.length_nil, Nat.zero_add, ↓reduceIte, List.take_zero, List.drop_zero, List.drop_succ_cons, List.take_succ_cons, Nat.reduceAdd, Nat.reduceLeDiff, Nat.reduceEqDiff, allOne_int, allOne_nil, List.toList_toArray, boxc_agg, blkOf_ptr, stv_cells, Nat.add_zero, h2, h6, h7, h12, h81, h82, hC, a1', xbin_add, w1, true_and]
        refine ⟨m - 1, by omega, i + 1, rfl, by omega, colD, _, rfl, (pn.mono hxC).chg a3 (by decide) (by decide), (ow.mono hxC).keep a3 (by decide), ?_⟩
        rw [hr, h0']
        exact a2
      · have h0' : ¬ inc ps i = 0 := by rw [hw i (by omega)] at h0; omega
        simp (decide := true) only [↓symD, symU, ↓XW_cond, Nat.reduceEqDiff, List.zip_cons_cons, List.zip_nil_left, Option.bind_some, Option.map_some, Option.map_none, List.map_toArray, List.map_cons, List.map_nil, ne_eq, List.append_toArray, List.nil_append, List.cons_append, List.append_nil, h2, h6, h7, h12, h81, h82, xbin_add, w1, true_and]
        refine ⟨m - 1, by omega, i + 1, rfl, by omega, col, _, rfl, pn, ow, ?_⟩
        rw [hr]
        simpa [h0'] using own
    · simp (decide := true) only [↓symD, symU, ↓XW_cond, Nat.reduceEqDiff, List.zip_cons_cons, List.zip_nil_left, Option.bind_some, Option.map_some, Option.map_none, List.map_toArray, List.map_cons, List.map_nil, ne_eq, List.append_toArray, List.nil_append, List.cons_append, List.append_nil, h2, h6, h7, true_and]
      obtain rfl : i = n := by omega
      exact ⟨col, vR, h12, pn, ow, own⟩
  rintro fe S4 ⟨h2, h6, h7, col4, vR4, h12, pn4, ow4, own4⟩
  have ki4 : KI ps n 0 (row0 ps n) (fnOf ws) [] := KI.start ps n _ fun b hb => by rw [fnOf_get (by omega), hw b (by omega)]
  clear pn3 ow3 ow3rd
  simp (decide := true) only [↓symD, symU, ↓XW_cond, Nat.reduceEqDiff, List.zip_cons_cons, List.zip_nil_left, Option.bind_some, Option.map_some, Option.map_none, List.map_toArray, List.map_cons, List.map_nil, ne_eq, List.append_toArray, List.nil_append, List.cons_append, List.append_nil]
  refine XW_loopR 7 (fun m fe S' => fe 2 = .pointer (some ⟨S0.next, 0, none⟩) ∧ fe 6 = .pointer (some ⟨S0.next + 2, 0, none⟩) ∧ fe 7 = .slice (some ⟨S0.next + 3, 0, none⟩) n n ∧ ∃ k : Nat, fe 14 = .int .i64 k ∧ m + k = n ∧
      ∃ col vR R ws, fe 12 = vR ∧ PN S0 S' col n S0.next (S0.next + 2) (nxt ps) vN xs ∧ OwnK S' col 4 (.slice (some ⟨S0.next + 3, 0, none⟩) n n) ws ∧ ws.length = n ∧ OwnK S' col 5 vR R ∧ KI ps n k R (fnOf ws) [])
    (fun fe S' => fe 2 = .pointer (some ⟨S0.next, 0, none⟩) ∧ fe 6 = .pointer (some ⟨S0.next + 2, 0, none⟩) ∧
      ∃ col vR R ws, fe 12 = vR ∧ PN S0 S' col n S0.next (S0.next + 2) (nxt ps) vN xs ∧ OwnK S' col 5 vR R ∧ KI ps n R.length R (fnOf ws) []) n ?_ ?_ ?_
  · simp (decide := true) only [↓symD, symU, ↓XW_cond, Nat.reduceEqDiff, List.zip_cons_cons, List.zip_nil_left, Option.bind_some, Option.map_some, Option.map_none, List.map_toArray, List.map_cons, List.map_nil, ne_eq, List.append_toArray, List.nil_append, List.cons_append, List.append_nil, h2, h6, h7, true_and]
    exact ⟨0, rfl, by omega, col4, vR4, _, ws, h12, pn4, ow4, hws, own4, ki4⟩
  · rintro m fe S5 ⟨h2, h6, h7, k, h14, hm, col, vR, R, ws, h12, pn, ow, hws, own, ki⟩
    simp (decide := true) only [↓symD, symU, ↓XW_cond, Nat.reduceEqDiff, List.zip_cons_cons, List.zip_nil_left, Option.bind_some, Option.map_some, Option.map_none, List.map_toArray, List.map_cons, List.map_nil, ne_eq, List.append_toArray, List.nil_append, List.cons_append, List.append_nil, h12, h14, own.rd.len, xbin_lss]
    have hRn := ki.le
    refine Test_dec (fun hlt => ?_) (fun hge => ?_)
    · have hk : k < R.length := by omega
      have han : R[k] < n := ki.lt _ (List.getElem_mem hk)
      obtain ⟨ir, or, r1, r2, r3⟩ := own.rd.nat k hk
      obtain ⟨ix, ox, x1, x2, x3⟩ := pn.own.rd.svs R[k] (by rw [pn.len]; exact han)
      have inn := pn.inn R[k] (by rw [pn.len]; exact han)
      have w1 := w64_add1 k (by omega)
      have kir := ki.round hk
      generalize ha : R[k] = a at *
      have hxa : a < xs.length := by rw [pn.len]; exact han
      simp (decide := true) only [↓symD, symU, ↓XW_cond, Nat.reduceEqDiff, List.zip_cons_cons, List.zip_nil_left, Option.bind_some, Option.map_some, Option.map_none, List.map_toArray, List.map_cons, List.map_nil, ne_eq, List.append_toArray, List.nil_append, List.cons_append, List.append_nil, h6, h12, h14, pn.bx.1, rdBox, part1_one, r1, r3, x1, x3, inn.rd.len]
      refine XW_loopR 9 (fun m2 fe S' => fe 2 = .pointer (some ⟨S0.next, 0, none⟩) ∧ fe 6 = .pointer (some ⟨S0.next + 2, 0, none⟩) ∧ fe 7 = .slice (some ⟨S0.next + 3, 0, none⟩) n n ∧ fe 14 = .int .i64 k ∧ fe 107 = xs[a].v ∧ fe 108 = .int .i64 (nxt ps a).length ∧ ∃ j : Nat, fe 109 = .int .i64 j ∧ m2 + j = (nxt ps a).length ∧
          ∃ col vR R ws, fe 12 = vR ∧ PN S0 S' col n S0.next (S0.next + 2) (nxt ps) vN xs ∧ OwnK S' col 4 (.slice (some ⟨S0.next + 3, 0, none⟩) n n) ws ∧ ws.length = n ∧ OwnK S' col 5 vR R ∧ KI ps n (k + 1) R (fnOf ws) ((nxt ps a).drop j))
        (fun fe S' => fe 2 = .pointer (some ⟨S0.next, 0, none⟩) ∧ fe 6 = .pointer (some ⟨S0.next + 2, 0, none⟩) ∧ fe 7 = .slice (some ⟨S0.next + 3, 0, none⟩) n n ∧ fe 14 = .int .i64 k ∧
          ∃ col vR R ws, fe 12 = vR ∧ PN S0 S' col n S0.next (S0.next + 2) (nxt ps) vN xs ∧ OwnK S' col 4 (.slice (some ⟨S0.next + 3, 0, none⟩) n n) ws ∧ ws.length = n ∧ OwnK S' col 5 vR R ∧ KI ps n (k + 1) R (fnOf ws) []) (nxt ps a).length ?_ ?_ ?_
      · simp (decide := true) only [↓symD, symU, ↓XW_cond, Nat.reduceEqDiff, List.zip_cons_cons, List.zip_nil_left, Option.bind_some, Option.map_some, Option.map_none, List.map_toArray, List.map_cons, List.map_nil, ne_eq, List.append_toArray, List.nil_append, List.cons_append, List.append_nil, h2, h6, h7, h14, true_and]
        exact ⟨0, rfl, by omega, col, vR, R, ws, h12, pn, ow, hws, own, kir⟩
      · clear pn ow own inn ki kir r1 r2 r3 x1 x2 x3 hws hRn h12 hlt hk ha h2 h6 h7 h14
        rintro m2 fe S6 ⟨h2, h6, h7, h14, h107, h108, j, h109, hm2, col, vR, R, ws, h12, pn, ow, hws, own, ki⟩
        simp (decide := true) only [↓symD, symU, ↓XW_cond, Nat.reduceEqDiff, List.zip_cons_cons, List.zip_nil_left, Option.bind_some, Option.map_some, Option.map_none, List.map_toArray, List.map_cons, List.map_nil, ne_eq, List.append_toArray, List.nil_append, List.cons_append, List.append_nil, h108, h109, xbin_lss]
        refine Test_dec (fun hlt => ?_) (fun hge => ?_)
        · have hj : j < (nxt ps a).length := by omega
          have inn := pn.inn a hxa
          obtain ⟨ib, ob, b1, b2, b3⟩ := inn.rd.nat j hj
          have hbn : (nxt ps a)[j] < n := (hu _ (mem_nxt.1 (List.getElem_mem hj))).2
          rw [List.drop_eq_getElem_cons hj] at ki
          generalize (nxt ps a)[j] = b at *
          have hbw : b < ws.length := by omega
          have hpos := ki.pos hbn
          have hle := ki.wle b hbn
          have hlen2 := nxt_length ps a
          rw [fnOf_get hbw] at hpos hle
          have hle2 : ((nxt ps a).drop (j + 1)).length ≤ (nxt ps a).length := by rw [List.length_drop]; omega
          rw [List.length_cons] at hle
          obtain ⟨iw, oww, y1, y2, y3⟩ := ow.rd.nat b hbw
          obtain ⟨iw2, ow2, cs, t, z, an, c1, c2, c3, c4, c5⟩ := ow.store b hbw (ws[b] - 1)
          obtain ⟨rfl, rfl⟩ : iw2 = iw ∧ ow2 = oww := by
            have := y1.symm.trans c1
            simp only [Option.some.injEq, Value.pointer.injEq, Addr.mk.injEq, and_true] at this
            exact ⟨this.1.symm, this.2.symm⟩
          have c2' : stv 1 [.int .i64 ((ws[b] - 1 : Nat) : Int)] ow2 (S6.get iw2) = some (cs, t, z, an) := c2
          have pnE := pn.chg c4 (by decide) (by decide)
          have ownE := own.keep c4 (by decide)
          generalize hE : S6.write iw2 cs t z an = SE at c3 c4 pnE ownE
          obtain ⟨iw3, ow3, z1, z2, z3⟩ := c3.rd.nat b (by simpa using hbw)
          obtain ⟨rfl, rfl⟩ : iw3 = iw2 ∧ ow3 = ow2 := by
            have := y1.symm.trans z1
            simp only [Option.some.injEq, Value.pointer.injEq, Addr.mk.injEq, and_true] at this
            exact ⟨this.1.symm, this.2.symm⟩
          rw [List.getElem_set_self] at z3
          have w2 : w64 ((ws[b] : Int) - 1) = ((ws[b] - 1 : Nat) : Int) := by rw [w64_ok (by omega) (by omega)]; omega
          have w3 := w64_add1 j (by omega)
          have kd := ki.down (w' := fnOf (ws.set b (ws[b] - 1))) hbn (fun c hc => fnOf_set hbw (by omega) c (by omega))
          rw [fnOf_get (by simpa using hbw), List.getElem_set_self] at kd
          simp (decide := true) only [↓symD, symU, ↓XW_cond, Nat.reduceEqDiff, List.zip_cons_cons, List.zip_nil_left, Option.bind_some, Option.map_some, Option.map_none, List.map_toArray, List.map_cons, List.map_nil, ne_eq, List.append_toArray, List.nil_append, List.cons_append, List.append_nil, h7, h107, h109, b1, b3, part1_one, y1, y3, xbin_sub, w2, boxc_int, blkOf_ptr, c2', hE, z3, xbin_eql]
          refine Test_dec (fun h0 => ?_) (fun h0 => ?_)
          · have hxC : Ext SE (SE.alloc (.cells [.int .i64 (b : Int)] 3 1 true [])) := Ext.alloc _ _
            have rdC : RdS (SE.alloc (.cells [.int .i64 (b : Int)] 3 1 true [])) (.slice (some ⟨SE.next, 0, none⟩) 1 1) [b] := RdS.one SE b _
            generalize hC : SE.alloc (.cells [.int .i64 (b : Int)] 3 1 true []) = SC at hxC rdC
            have hRle := ki.le
            obtain ⟨r, SD, colD, a1, a2, a3, a4⟩ := (ownE.mono hxC).append rdC 3 8 (by simp [reach]; omega) (by decide)
            have a1' : xappend 3 1 8 vR (.slice (some ⟨SE.next, 0, none⟩) 1 1) SC = some (r, SD) := a1
            simp (decide := true) only [↓symD, symU, ↓XW_cond, Nat.reduceEqDiff, List.zip_cons_cons, List.zip_nil_left, Option.bind_some, Option.map_some, Option.map_none, List.map_toArray, List.map_cons, List.map_nil, ne_eq, List.append_toArray, List.nil_append, List.cons_append, List.append_nil, fillL, splice, rep, List.replicate_succ, List.replicate_zero, List.flatten_cons, List.flatten_nil, List.append_nil, List.nil_append, List.cons_append, Value.cells, List.append_assoc, and_self, true_and, and_true, List.size_toArray, List.length_cons, List.length_nil, Nat.zero_add, ↓reduceIte, List.take_zero, List.drop_zero, List.drop_succ_cons, List.take_succ_cons, Nat.reduceAdd, Nat.reduceLeDiff, Nat.reduceEqDiff, allOne_int, allOne_nil, List.toList_toArray, boxc_agg, blkOf_ptr, stv_cells, Nat.add_zero, h2, h6, h7, h12, h14, h107, h108, h109, hE, hC, a1', xbin_add, w3, true_and]
            exact ⟨m2 - 1, by omega, j + 1, rfl, by omega, colD, r, _, _, rfl, (pnE.mono hxC).chg a3 (by decide) (by decide), (c3.mono hxC).keep a3 (by decide), by simpa using hws, a2, kd.1 h0⟩
          · simp (decide := true) only [↓symD, symU, ↓XW_cond, Nat.reduceEqDiff, List.zip_cons_cons, List.zip_nil_left, Option.bind_some, Option.map_some, Option.map_none, List.map_toArray, List.map_cons, List.map_nil, ne_eq, List.append_toArray, List.nil_append, List.cons_append, List.append_nil, h2, h6, h7, h12, h14, h107, h108, h109, hE, xbin_add, w3, true_and]
            exact ⟨m2 - 1, by omega, j + 1, rfl, by omega, col, vR, _, _, rfl, pnE, c3, by simpa using hws, ownE, kd.2 h0⟩
        · simp (decide := true) only [↓symD, symU, ↓XW_cond, Nat.reduceEqDiff, List.zip_cons_cons, List.zip_nil_left, Option.bind_some, Option.map_some, Option.map_none, List.map_toArray, List.map_cons, List.map_nil, ne_eq, List.append_toArray, List.nil_append, List.cons_append, List.append_nil, h2, h6, h7, h14, true_and]
          rw [List.drop_of_length_le (by omega)] at ki
          exact ⟨col, vR, R, ws, h12, pn, ow, hws, own, ki⟩
      · rintro fe S6 ⟨h2, h6, h7, h14, col, vR, R, ws, h12, pn, ow, hws, own, ki⟩
        simp (decide := true) only [↓symD, symU, ↓XW_cond, Nat.reduceEqDiff, List.zip_cons_cons, List.zip_nil_left, Option.bind_some, Option.map_some, Option.map_none, List.map_toArray, List.map_cons, List.map_nil, ne_eq, List.append_toArray, List.nil_append, List.cons_append, List.append_nil, h2, h6, h7, h12, h14, xbin_add, w1, true_and]
        exact ⟨m - 1, by omega, k + 1, rfl, by omega, col, vR, R, ws, rfl, pn, ow, hws, own, ki⟩
    · simp (decide := true) only [↓symD, symU, ↓XW_cond, Nat.reduceEqDiff, List.zip_cons_cons, List.zip_nil_left, Option.bind_some, Option.map_some, Option.map_none, List.map_toArray, List.map_cons, List.map_nil, ne_eq, List.append_toArray, List.nil_append, List.cons_append, List.append_nil, h2, h6, true_and]
      have hkl := ki.hk
      obtain rfl : k = R.length := by omega
      exact ⟨col, vR, R, ws, h12, pn, own, ki⟩
  rintro fe S5 ⟨h2, h6, col5, vR, R, ws5, h12, pn5, own5, ki5⟩
  have tp := ki5.topo' hu
  have hRn := tp.len
  clear ki5 ki4 pn4 ow4 own4 hws hw
  have d3 : ¬ ((n : Int) < n) := by omega
  simp (decide := true) only [↓symD, symU, ↓XW_cond, Nat.reduceEqDiff, List.zip_cons_cons, List.zip_nil_left, Option.bind_some, Option.map_some, Option.map_none, List.map_toArray, List.map_cons, List.map_nil, ne_eq, List.append_toArray, List.nil_append, List.cons_append, List.append_nil, h2, h12, own5.rd.len, hRn, pn5.bn.1, rdBox, part1_one, xbin_lss, d3, decide_false]
  have m1 := OwnK.made S5 col5 6 6 (List.replicate n (⟨none, 0, 0⟩ : SV)) 68 n (by simp) _ (encs_nils n)
  change OwnK (S5.alloc (.cells (rep n [.slice none 0 0]) 68 1 true [])) _ _ _ _ ∧ Chg _ _ _ _ (S5.alloc (.cells (rep n [.slice none 0 0]) 68 1 true [])) at m1
  have kA := k1' S5
  have pnA := pn5.chg m1.2 (by decide) (by decide)
  have rowA := own5.keep m1.2 (by decide)
  generalize hcA : paint col5 S5 6 = colA at m1 pnA rowA
  have nA : (S5.alloc (.cells (rep n [.slice none 0 0]) 68 1 true [])).next = S5.next + 1 := rfl
  generalize hA : S5.alloc (.cells (rep n [.slice none 0 0]) 68 1 true []) = SA at m1 pnA rowA kA nA
  have m2 := BoxK.alloc SA colA 7 7 [.int .i64 (n : Int), .slice (some ⟨S5.next, 0, none⟩) n n] 71 2
  have pnB := pnA.chg m2.2 (by decide) (by decide)
  have rowB := rowA.keep m2.2 (by decide)
  have abB := m1.1.keep m2.2 (by decide)
  generalize hcB : paint colA SA 7 = colB at m2 pnB rowB abB
  have nB : (SA.alloc (.cells [.int .i64 (n : Int), .slice (some ⟨S5.next, 0, none⟩) n n] 71 2 true [])).next = SA.next + 1 := rfl
  generalize hB : SA.alloc (.cells [.int .i64 (n : Int), .slice (some ⟨S5.next, 0, none⟩) n n] 71 2 true []) = SB at m2 pnB rowB abB nB
  have m3 := BoxK.alloc SB colB 8 8 [.pointer none] 30 1
  have pnC := pnB.chg m3.2 (by decide) (by decide)
  have rowC := rowB.keep m3.2 (by decide)
  have abC := abB.keep m3.2 (by decide)
  have boC := m2.1.keep m3.2 (by decide)
  generalize hcC : paint colB SB 8 = colC at m3 pnC rowC abC boC
  generalize hC : SB.alloc (.cells [.pointer none] 30 1 true []) = SC at m3 pnC rowC abC boC
  have gC := m3.1.1
  have m4 := m3.1.write [.pointer (some ⟨SA.next, 0, none⟩)]
  have pnD := pnC.chg m4.2 (by decide) (by decide)
  have rowD := rowC.keep m4.2 (by decide)
  have abD := abC.keep m4.2 (by decide)
  have boD := boC.keep m4.2 (by decide)
  generalize hD : SC.write SB.next [.pointer (some ⟨SA.next, 0, none⟩)] 30 1 [] = SD at m4 pnD rowD abD boD
  have cz : (Value.pointer none).cells.toList = [.pointer none] := by simp [Value.cells]
  simp (decide := true) only [↓symD, symU, ↓XW_cond, Nat.reduceEqDiff, List.zip_cons_cons, List.zip_nil_left, Option.bind_some, Option.map_some, Option.map_none, List.map_toArray, List.map_cons, List.map_nil, ne_eq, List.append_toArray, List.nil_append, List.cons_append, List.append_nil, ↓XS_mkSlice, fillL, splice, rep, List.replicate_succ, List.replicate_zero, List.flatten_cons, List.flatten_nil, List.append_nil, List.nil_append, List.cons_append, Value.cells, List.append_assoc, and_self, true_and, and_true, List.size_toArray, List.length_cons, List.length_nil, Nat.zero_add, ↓reduceIte, List.take_zero, List.drop_zero, List.drop_succ_cons, List.take_succ_cons, Nat.reduceAdd, Nat.reduceLeDiff, Nat.reduceEqDiff, allOne_int, allOne_nil, List.toList_toArray, boxc_agg, blkOf_ptr, stv_cells, Nat.add_zero, h2, h12, pn5.bn.1, rdBox, part1_one, kA, allOne_sl, allOne_order, cz, hB, hC, gC, boxc_ptr, stBox, hD]
  refine XCall_at fun SD' hSD' => ?_
  obtain rfl : SD' = SD := by rw [hSD']; simp only [hA, hB, hC, hD, List.length_cons, List.length_nil, Nat.zero_add, Nat.reduceAdd]
  clear hSD'
  have m5 := BoxK.alloc SD' colC 9 9 [vR] 22 1
  have pnE := pnD.chg m5.2 (by decide) (by decide)
  have rowE := rowD.keep m5.2 (by decide)
  have abE := abD.keep m5.2 (by decide)
  have boE := boD.keep m5.2 (by decide)
  have bbE := m4.1.keep m5.2 (by decide)
  rw [nB] at bbE
  generalize hcE : paint colC SD' 9 = colE at m5 pnE rowE abE boE bbE
  refine XCall.of (backward_any rowD.rd) ?_
  rintro _ SE ⟨hSE, rfl⟩
  rw [← hSE] at m5 pnE rowE abE boE bbE
  have jE : JB S0 SE colE n ps vN xs vR R SA.next (SA.next + 1) SD'.next (.slice (some ⟨S5.next, 0, none⟩) n n) _ [] := ⟨pnE, rowE, boE, bbE, m5.1, abE, by simp, fun a h ha => by simp at ha⟩
  clear pnE rowE abE boE bbE m5 pnD rowD abD boD m4 pnC rowC abC boC m3 pnB rowB abB m2 pnA rowA m1 kA hcA hcB hcC hcE pn5 own5 gC
  simp (decide := true) only [↓symD, symU, ↓XW_cond, Nat.reduceEqDiff, List.zip_cons_cons, List.zip_nil_left, Option.bind_some, Option.map_some, Option.map_none, List.map_toArray, List.map_cons, List.map_nil, ne_eq, List.append_toArray, List.nil_append, List.cons_append, List.append_nil]
  refine XRange.intro fun env henv hnv => ?_
  have jF : JB S0 (SE.alloc (.loop env (loopIn Try.prog 31 12) none)) (paint colE SE 4) n ps vN xs vR R SA.next (SA.next + 1) SD'.next (.slice (some ⟨S5.next, 0, none⟩) n n) _ [] := jE.chg4 (Chg.of_ext (Ext.alloc SE _)).paint
  have hback := backward1_any (v := vR) (R := R) (fun j S' => ∃ col xa, JB S0 S' col n ps vN xs vR R SA.next (SA.next + 1) SD'.next (.slice (some ⟨S5.next, 0, none⟩) n n) xa (R.drop (R.length - j)) ∧ S'.get SE.next = .loop env (loopIn Try.prog 31 12) none ∧ SE.next < S'.next ∧ col SE.next = 4)
    SE.next SD'.next 22 true [] ?_ ?_ (by omega) (S := SE.alloc (.loop env (loopIn Try.prog 31 12) none)) ?_
  · refine XC.mono hback ?_
    rintro _ S2 ⟨col, xa, j2, hlp, hlt, hcol⟩
    refine ⟨env, _, none, hlp, ?_⟩
    have j3 := j2.chg4 (Chg.put S2 .gone hcol)
    generalize S2.put SE.next .gone = S3 at j3 ⊢
    rw [Nat.sub_self, List.drop_zero] at j3
    simp (decide := true) only [↓symD, symU, ↓XW_cond, Nat.reduceEqDiff, List.zip_cons_cons, List.zip_nil_left, Option.bind_some, Option.map_some, Option.map_none, List.map_toArray, List.map_cons, List.map_nil, ne_eq, List.append_toArray, List.nil_append, List.cons_append, List.append_nil, Option.getD_none, j3.bb.1, rdBox, part1_one]
    refine ⟨j3.pn.fl.ext, _, rfl, SA.next, _, _, _, _, xa, rfl, ⟨j3.pn.fl.ge j3.bo.2.1 (by decide), j3.bo.2.2⟩, j3.bo.1, j3.ab.own (fun id hid => by rw [j3.pn.fl.hcol id hid]; decide), j3.alen, fun a ha => ?_⟩
    obtain ⟨m, q1, q2⟩ := j3.done a ha ((tp.mem a).2 (by rw [← j3.alen]; exact ha))
    exact ⟨m, q1.own (fun id hid => by rw [j3.pn.fl.hcol id hid]; omega), q2⟩
  · rintro j S2 ⟨col, xa, j2, _⟩
    exact ⟨j2.row.rd, j2.br.2.2, j2.br.1⟩
  · rintro j S2 ⟨col, xa, j2, hlp, hlt, hcol⟩ hj
    refine XY_roundN hlp XL31_12 hnv (by rw [XP31_12]; rfl) ?_
    rw [XP31_12]
    simp only [updL, List.zip_cons_cons, List.zip_nil_left, List.foldl_cons, List.foldl_nil]
    rw [henv]
    have j3 := j2.chg4 (Chg.put S2 .gone hcol)
    have hlt3 : SE.next < (S2.put SE.next .gone).next := by simpa using hlt
    generalize S2.put SE.next .gone = S3 at j3 hlt3 ⊢
    simp (decide := true) only [↓symD, symU, ↓XW_cond, Nat.reduceEqDiff, List.zip_cons_cons, List.zip_nil_left, Option.bind_some, Option.map_some, Option.map_none, List.map_toArray, List.map_cons, List.map_nil, ne_eq, List.append_toArray, List.nil_append, List.cons_append, List.append_nil, xa31_12, true_and]
    have hpos : R.length - 1 - j < R.length := by omega
    have e1 : R.length - j = (R.length - 1 - j) + 1 := by omega
    have e2 : R.length - (j + 1) = R.length - 1 - j := by omega
    rw [e1] at j3
    rw [e2]
    obtain ⟨p, hpe⟩ : ∃ p, p = R.length - 1 - j := ⟨_, rfl⟩
    simp only [← hpe] at j3 hpos ⊢
    have hno : R[p] ∉ R.drop (p + 1) := by
      intro hm
      obtain ⟨i, hi, he⟩ := List.mem_iff_getElem.1 hm
      rw [List.getElem_drop] at he
      have := (List.getElem_inj tp.nodup).1 he
      omega
    refine XW.mono (fun ex fe' S4 hh => ?_) (newRound_any (a := R[p]) j3 hu hn hl ((tp.mem _).1 (List.getElem_mem hpos)) hno (fun b hb => tp.behind hu hpos hb) ?_ ?_ ?_ ?_)
    · obtain ⟨rfl, col4, xa4, j4, c4⟩ := hh
      have hcol4 : col4 SE.next = 4 := (c4.hcol _ hlt3).trans hcol
      refine ⟨rfl, col4, xa4, ?_, by rw [St.get_put, if_pos rfl], by have := c4.next; simp; omega, hcol4⟩
      rw [List.drop_eq_getElem_cons hpos]
      exact j4.chg4 (Chg.put S4 _ hcol4)
    · simp (decide := true) only [↓symD, symU, ↓XW_cond, Nat.reduceEqDiff, List.zip_cons_cons, List.zip_nil_left, Option.bind_some, Option.map_some, Option.map_none, List.map_toArray, List.map_cons, List.map_nil, ne_eq, List.append_toArray, List.nil_append, List.cons_append, List.append_nil, h2]
    · simp (decide := true) only [↓symD, symU, ↓XW_cond, Nat.reduceEqDiff, List.zip_cons_cons, List.zip_nil_left, Option.bind_some, Option.map_some, Option.map_none, List.map_toArray, List.map_cons, List.map_nil, ne_eq, List.append_toArray, List.nil_append, List.cons_append, List.append_nil, h6]
    · simp (decide := true) only [↓symD, symU, ↓XW_cond, Nat.reduceEqDiff, List.zip_cons_cons, List.zip_nil_left, Option.bind_some, Option.map_some, Option.map_none, List.map_toArray, List.map_cons, List.map_nil, ne_eq, List.append_toArray, List.nil_append, List.cons_append, List.append_nil]
    · simp (decide := true) only [↓symD, symU, ↓XW_cond, Nat.reduceEqDiff, List.zip_cons_cons, List.zip_nil_left, Option.bind_some, Option.map_some, Option.map_none, List.map_toArray, List.map_cons, List.map_nil, ne_eq, List.append_toArray, List.nil_append, List.cons_append, List.append_nil]
  · refine ⟨_, _, by simpa using jF, get_alloc_self _ _, by simp, paint_new _ _ _ (Nat.le_refl _)⟩
end
end Go.Proofs.Ytolfpchcmiljpaa

/- poset.New: the round that fills the sets. -/
import Derived.Test.YtolfpchcmiljpaaDi
set_option linter.unusedSimpArgs false
set_option linter.unusedSectionVars false
set_option maxRecDepth 10000
namespace Go.Proofs.Ytolfpchcmiljpaa
open Go Go.RowKit

theorem Chg.put {col : Col} {c id : Nat} (S : St) (b : Blk) (hc : col id = c) : Chg col c S col (S.put id b) :=
  ⟨by simp, fun _ _ => rfl, fun j _ hj => by rw [St.get_put, if_neg (fun e => hj (by rw [e]; exact hc))]⟩
theorem allOne_u64 (n : Int) : allOne [Value.int .u64 n] = true := by simp [allOne_int, allOne_nil]
theorem rdO0 (n : Int) (va : Value) (t : TypeId) (mi : Bool) (an : List Nat) : (Blk.cells [.int .i64 n, va] t 2 mi an).rd 0 1 = some [.int .i64 n] := Eq.trans rfl rfl
theorem rdO1 (n : Int) (va : Value) (t : TypeId) (mi : Bool) (an : List Nat) : (Blk.cells [.int .i64 n, va] t 2 mi an).rd 1 1 = some [va] := Eq.trans rfl rfl

/-- what lies in memory while the sets are filled. -/
structure JB (S0 S : St) (col : Col) (n : Nat) (ps : Pairs) (vN : Value) (xs : List SV) (vR : Value) (R : List Nat) (ido idb idr : Nat) (va : Value) (xa : List SV) (D : List Nat) : Prop where
  pn : PN S0 S col n S0.next (S0.next + 2) (nxt ps) vN xs
  row : OwnK S col 5 vR R
  bo : BoxK S col 7 ido [.int .i64 (n : Int), va] 71 2
  bb : BoxK S col 8 idb [.pointer (some ⟨ido, 0, none⟩)] 30 1
  br : BoxK S col 9 idr [vR] 22 1
  ab : OwnK S col 6 va xa
  alen : xa.length = n
  done : ∀ a (h : a < xa.length), a ∈ D → ∃ m, OwnK S col (11 + 2 * a) xa[a].v [(⟨m⟩ : W64)] ∧ Mask ps a m ∧ m < 18446744073709551616
section
variable {S0 S S' : St} {col col' : Col} {n : Nat} {ps : Pairs} {vN : Value} {xs : List SV} {vR : Value} {R : List Nat} {ido idb idr : Nat} {va : Value} {xa : List SV} {D : List Nat}
theorem JB.chgP {C : Nat → Prop} (h : JB S0 S col n ps vN xs vR R ido idb idr va xa D) (k : ChgP col C S col' S') (h0 : ∀ c, c < 10 → c ≠ 4 → ¬ C c) (h1 : ∀ i, ¬ C (10 + 2 * i)) (h2 : ∀ a, a ∈ D → ¬ C (11 + 2 * a)) : JB S0 S' col' n ps vN xs vR R ido idb idr va xa D := by
  refine ⟨h.pn.chgP k (fun c hc => h0 c (by omega) (by omega)) h1, h.row.keepP k (h0 5 (by decide) (by decide)), h.bo.keepP k (h0 7 (by decide) (by decide)), h.bb.keepP k (h0 8 (by decide) (by decide)), h.br.keepP k (h0 9 (by decide) (by decide)), h.ab.keepP k (h0 6 (by decide) (by decide)), h.alen, fun a ha hD => ?_⟩
  obtain ⟨m, q1, q2⟩ := h.done a ha hD
  exact ⟨m, q1.keepP k (h2 a hD), q2⟩
theorem JB.chg11 {a : Nat} (h : JB S0 S col n ps vN xs vR R ido idb idr va xa D) (k : Chg col (11 + 2 * a) S col' S') (ha : a ∉ D) : JB S0 S' col' n ps vN xs vR R ido idb idr va xa D :=
  h.chgP (k.toP (C := fun x => x = 11 + 2 * a) rfl) (fun c h1 h2 e => by omega) (fun i e => by omega) (fun b hb e => ha (by rw [show a = b by omega]; exact hb))
theorem JB.chg4 (h : JB S0 S col n ps vN xs vR R ido idb idr va xa D) (k : Chg col 4 S col' S') : JB S0 S' col' n ps vN xs vR R ido idb idr va xa D :=
  h.chgP (k.toP (C := fun x => x = 4) rfl) (fun c h1 h2 e => h2 e) (fun i e => by omega) (fun b hb e => by omega)
theorem JB.set {a : Nat} {s : SV} (h : JB S0 S col n ps vN xs vR R ido idb idr va xa D) (k : Chg col 6 S col' S') (ho : OwnK S' col' 6 va (xa.set a s)) (ha : a ∉ D) : JB S0 S' col' n ps vN xs vR R ido idb idr va (xa.set a s) D := by
  refine ⟨h.pn.chg k (by decide) (by decide), h.row.keep k (by decide), h.bo.keep k (by decide), h.bb.keep k (by decide), h.br.keep k (by decide), ho, by simpa using h.alen, fun b hb hD => ?_⟩
  have hb' : b < xa.length := by simpa using hb
  obtain ⟨m, q1, q2⟩ := h.done b hb' hD
  refine ⟨m, ?_, q2⟩
  rw [List.getElem_set_ne (fun e => ha (by rw [e]; exact hD))]
  exact q1.keep k (by omega)
theorem JB.one {a m : Nat} (h : JB S0 S col n ps vN xs vR R ido idb idr va xa D) (ha : a < xa.length) (ho : OwnK S col (11 + 2 * a) xa[a].v [(⟨m⟩ : W64)]) (hm : Mask ps a m) (hlt : m < 18446744073709551616) : JB S0 S col n ps vN xs vR R ido idb idr va xa (a :: D) := by
  refine ⟨h.pn, h.row, h.bo, h.bb, h.br, h.ab, h.alen, fun b hb hD => ?_⟩
  rcases List.mem_cons.1 hD with rfl | hD
  · exact ⟨m, ho, hm, hlt⟩
  · exact h.done b hb hD
end

section
variable [Prim Try.prog]

theorem newRound_any {S0 S : St} {col : Col} {n : Nat} {ps : Pairs} {vN : Value} {xs : List SV} {vR : Value} {R : List Nat} {ido idb idr : Nat} {va : Value} {xa : List SV} {D : List Nat} {fe : FEnv} {a : Nat}
    (h : JB S0 S col n ps vN xs vR R ido idb idr va xa D) (hu : Up ps n) (hn : n ≤ 64) (hl : ps.length ≤ 1000000) (ha : a < n) (haD : a ∉ D) (hD : ∀ b, (a, b) ∈ ps → b ∈ D)
    (h2 : fe 2 = .pointer (some ⟨S0.next, 0, none⟩)) (h6 : fe 6 = .pointer (some ⟨S0.next + 2, 0, none⟩)) (h17 : fe 17 = .pointer (some ⟨idb, 0, none⟩)) (h19 : fe 19 = .int .i64 (a : Int)) :
    XW Try.prog xb31_12 fe S (fun ex _ S2 => ex = .normal ∧ ∃ col' xa', JB S0 S2 col' n ps vN xs vR R ido idb idr va xa' (a :: D) ∧ ChgP col (fun c => c = 6 ∨ c = 11 + 2 * a) S col' S2) := by
  have haa : a < xa.length := by rw [h.alen]; exact ha
  have w1 : w64 ((n : Int) + 63) = ((n + 63 : Nat) : Int) := by rw [w64_ok (by omega) (by omega)]; omega
  have w2 : w64 (((n + 63 : Nat) : Int).tdiv 64) = ((1 : Nat) : Int) := by
    have : ((n + 63 : Nat) : Int).tdiv 64 = 1 := by rw [Int.tdiv_eq_ediv_of_nonneg (by omega)]; omega
    rw [this]; rfl
  have k1 := mksv_ok 87 1 8 [.int .u64 0] 1 S (by decide) (by decide) rfl (allOne_u64 0)
  have m1 := OwnK.made S col (11 + 2 * a) (11 + 2 * a) [(⟨0⟩ : W64)] 87 1 rfl (rep 1 [.int .u64 0]) rfl
  change OwnK (S.alloc (.cells (rep 1 [.int .u64 0]) 87 1 true [])) _ _ _ _ ∧ Chg _ _ _ _ (S.alloc (.cells (rep 1 [.int .u64 0]) 87 1 true [])) at m1
  generalize hcA : paint col S (11 + 2 * a) = colA at m1
  generalize hA : S.alloc (.cells (rep 1 [.int .u64 0]) 87 1 true []) = SA at m1 k1
  have jA := h.chg11 m1.2 haD
  obtain ⟨id, o, cs, t, z, an, b1, b2, b3, b4, b5⟩ := jA.ab.store a haa (⟨some ⟨S.next, 0, none⟩, 1, 1⟩ : SV)
  have b2' : stv 1 [.slice (some ⟨S.next, 0, none⟩) 1 1] o (SA.get id) = some (cs, t, z, an) := b2
  have b1' : iav 1 va (.int .i64 (a : Int)) = some (.pointer (some ⟨id, o, none⟩)) := b1
  have jB := jA.set b4 b3 haD
  have oB := m1.1.keep b4 (by omega)
  have cB : ChgP col (fun c => c = 6 ∨ c = 11 + 2 * a) S colA (SA.write id cs t z an) := (m1.2.toP (.inr rfl)).trans (b4.toP (.inl rfl))
  generalize hB : SA.write id cs t z an = SB at b3 b4 jB oB cB
  obtain ⟨ix, ox, x1, x2, x3⟩ := jB.pn.own.rd.svs a (by rw [jB.pn.len]; exact ha)
  have hxa : a < xs.length := by rw [jB.pn.len]; exact ha
  simp (decide := true) only [↓symD, symU, ↓XW_cond, Nat.reduceEqDiff, List.zip_cons_cons, List.zip_nil_left, Option.bind_some, Option.map_some, Option.map_none, List.map_toArray, List.map_cons, List.map_nil, ne_eq, List.append_toArray, List.nil_append, List.cons_append, List.append_nil, ↓XS_mkSlice, xb31_12, h2, h6, h17, h19, h.bb.1, h.bo.1, h.pn.bn.1, jA.bb.1, rdBox, rdO0, rdO1, part1_one, xbin_add, xbin_quo, w1, w2, k1, b1', boxc_slice, blkOf_ptr, b2', hB, jB.pn.bx.1, x1, x3, (jB.pn.inn a hxa).rd.len, Nat.zero_add]
  generalize hxa1 : xa.set a (⟨some ⟨S.next, 0, none⟩, 1, 1⟩ : SV) = xb at b3 jB
  have haa1 : a < xb.length := by rw [jB.alen]; exact ha
  have hget : xb[a].v = .slice (some ⟨S.next, 0, none⟩) 1 1 := by subst hxa1; rw [List.getElem_set_self]; rfl
  rw [← hget] at oB
  refine XW_loopR 13 (fun m fe S' => fe 17 = .pointer (some ⟨idb, 0, none⟩) ∧ fe 19 = .int .i64 (a : Int) ∧ fe 155 = xs[a].v ∧ fe 156 = .int .i64 (nxt ps a).length ∧ ∃ i : Nat, fe 157 = .int .i64 i ∧ m + i = (nxt ps a).length ∧
      ∃ col' w, JB S0 S' col' n ps vN xs vR R ido idb idr va xb D ∧ OwnK S' col' (11 + 2 * a) xb[a].v [(⟨w⟩ : W64)] ∧ PMask ps ((nxt ps a).take i) w ∧ ChgP col (fun c => c = 6 ∨ c = 11 + 2 * a) S col' S')
    (fun _ S' => ∃ col' w, JB S0 S' col' n ps vN xs vR R ido idb idr va xb D ∧ OwnK S' col' (11 + 2 * a) xb[a].v [(⟨w⟩ : W64)] ∧ PMask ps (nxt ps a) w ∧ ChgP col (fun c => c = 6 ∨ c = 11 + 2 * a) S col' S') (nxt ps a).length ?_ ?_ ?_
  · simp (decide := true) only [↓symD, symU, ↓XW_cond, Nat.reduceEqDiff, List.zip_cons_cons, List.zip_nil_left, Option.bind_some, Option.map_some, Option.map_none, List.map_toArray, List.map_cons, List.map_nil, ne_eq, List.append_toArray, List.nil_append, List.cons_append, List.append_nil, h17, h19, hB, true_and]
    exact ⟨0, rfl, by omega, colA, 0, jB, oB, PMask.nil ps, cB⟩
  · have hnl := nxt_length ps a
    clear jB oB cB x1 x2 x3 b1 b1' b2 b2' b3 b4 m1 k1 jA h hB hA h17 h19
    rintro m fe S6 ⟨h17, h19, h155, h156, i, h157, hm, col6, w, j6, o6, p6, c6⟩
    simp (decide := true) only [↓symD, symU, ↓XW_cond, Nat.reduceEqDiff, List.zip_cons_cons, List.zip_nil_left, Option.bind_some, Option.map_some, Option.map_none, List.map_toArray, List.map_cons, List.map_nil, ne_eq, List.append_toArray, List.nil_append, List.cons_append, List.append_nil, h156, h157, xbin_lss]
    refine Test_dec (fun hlt => ?_) (fun hge => ?_)
    · have hi : i < (nxt ps a).length := by omega
      obtain ⟨ib, ob, b1, b2, b3⟩ := (j6.pn.inn a hxa).rd.nat i hi
      have hbm : (nxt ps a)[i] ∈ nxt ps a := List.getElem_mem hi
      have hbp := mem_nxt.1 hbm
      have htk := take_snoc (nxt ps a) i hi
      generalize (nxt ps a)[i] = b at *
      have hup := hu _ hbp
      simp only at hup
      have hbx : b < xb.length := by rw [j6.alen]; omega
      obtain ⟨u, u1, u2, u3⟩ := j6.done b hbx (hD b hbp)
      obtain ⟨ia, oa, a1, a2, a3⟩ := j6.ab.rd.svs a haa1
      have hw : w < 18446744073709551616 := p6.lt hu hn (fun c hc => (hu _ (mem_nxt.1 (List.mem_of_mem_take hc))).2)
      have wi := w64_add1 i (by omega)
      simp (decide := true) only [↓symD, symU, ↓XW_cond, Nat.reduceEqDiff, List.zip_cons_cons, List.zip_nil_left, Option.bind_some, Option.map_some, Option.map_none, List.map_toArray, List.map_cons, List.map_nil, ne_eq, List.append_toArray, List.nil_append, List.cons_append, List.append_nil, h17, h19, h155, h157, b1, b3, part1_one, j6.bb.1, j6.bo.1, rdBox, rdO1, Nat.zero_add, a1, a3]
      refine XCall.of (setAdd_any o6 hw b (by omega)) ?_
      rintro _ S7 ⟨o7, c7⟩
      have j7 := j6.chg11 c7 haD
      have u7 := u1.keep c7 (by omega)
      have p7 := c6.trans (c7.toP (C := fun c => c = 6 ∨ c = 11 + 2 * a) (.inr rfl))
      obtain ⟨ia2, oa2, d1, d2, d3⟩ := j7.ab.rd.svs a haa1
      obtain ⟨ie, oe, e1, e2, e3⟩ := j7.ab.rd.svs b hbx
      have hw2 : w ||| 2 ^ b < 18446744073709551616 := Nat.or_lt_two_pow (n := 64) (by simpa using hw) (Nat.pow_lt_pow_right (by decide) (by omega))
      simp (decide := true) only [↓symD, symU, ↓XW_cond, Nat.reduceEqDiff, List.zip_cons_cons, List.zip_nil_left, Option.bind_some, Option.map_some, Option.map_none, List.map_toArray, List.map_cons, List.map_nil, ne_eq, List.append_toArray, List.nil_append, List.cons_append, List.append_nil, h17, h19, h155, h157, part1_one, j7.bb.1, j7.bo.1, rdBox, rdO1, Nat.zero_add, d1, d3, e1, e3]
      refine XCall.of (setJoin_any o7 u7 hw2 u3) ?_
      rintro _ S8 ⟨o8, c8⟩
      have j8 := j7.chg11 c8 haD
      have p8 := p7.trans (c8.toP (C := fun c => c = 6 ∨ c = 11 + 2 * a) (.inr rfl))
      simp (decide := true) only [↓symD, symU, ↓XW_cond, Nat.reduceEqDiff, List.zip_cons_cons, List.zip_nil_left, Option.bind_some, Option.map_some, Option.map_none, List.map_toArray, List.map_cons, List.map_nil, ne_eq, List.append_toArray, List.nil_append, List.cons_append, List.append_nil, h17, h19, h155, h156, h157, xbin_add, wi, true_and]
      exact ⟨m - 1, by omega, i + 1, rfl, by omega, _, _, j8, o8, by rw [htk]; exact p6.next u2, p8⟩
    · simp (decide := true) only [↓symD, symU, ↓XW_cond, Nat.reduceEqDiff, List.zip_cons_cons, List.zip_nil_left, Option.bind_some, Option.map_some, Option.map_none, List.map_toArray, List.map_cons, List.map_nil, ne_eq, List.append_toArray, List.nil_append, List.cons_append, List.append_nil]
      rw [List.take_of_length_le (by omega)] at p6
      exact ⟨col6, w, j6, o6, p6, c6⟩
  · rintro fe S6 ⟨col6, w, j6, o6, p6, c6⟩
    simp (decide := true) only [↓symD, symU, ↓XW_cond, Nat.reduceEqDiff, List.zip_cons_cons, List.zip_nil_left, Option.bind_some, Option.map_some, Option.map_none, List.map_toArray, List.map_cons, List.map_nil, ne_eq, List.append_toArray, List.nil_append, List.cons_append, List.append_nil, true_and]
    exact ⟨col6, xb, j6.one haa1 o6 p6.mask (p6.lt hu hn (fun c hc => (hu _ (mem_nxt.1 hc)).2)), c6⟩
end
end Go.Proofs.Ytolfpchcmiljpaa

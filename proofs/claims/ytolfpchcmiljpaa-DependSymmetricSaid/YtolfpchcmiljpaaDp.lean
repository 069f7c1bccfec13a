/- The generator of runs. -/
import Derived.Test.YtolfpchcmiljpaaDpa
set_option linter.unusedSimpArgs false
set_option linter.unusedSectionVars false
set_option maxRecDepth 10000
namespace Go.Proofs.Ytolfpchcmiljpaa
open Go Go.RowKit

section
variable [Prim Try.prog]

theorem run_any {S0 : St} {v : Value} {l : List Int} (hv : RdS S0 v l) (hi : ∀ x ∈ l, -9223372036854775808 ≤ x ∧ x ≤ 9223372036854775807) :
    XC Try.prog 10 #[v, .int .i64 14] S0 fun r S' => Ext S0 S' ∧ ∃ rl : List Step, Run S' r rl ∧ rl.length ≤ 14 ∧ ∀ j (h : j < rl.length), GoodS rl[j] := by
  refine XC_body XF10 ?_
  have k4 := mksv_ok 3 1 8 [.int .i64 0] 4 S0 (by decide) (by decide) rfl (by simp [allOne_int, allOne_nil])
  have k4' : mksv 3 1 8 [.int .i64 0] (.int .i64 4) (.int .i64 4) S0 = some (.slice (some ⟨S0.next, 0, none⟩) 4 4, S0.alloc (.cells (rep 4 [.int .i64 0]) 3 1 true [])) := k4
  have m1 := OwnK.made S0 (fun _ => 0) 1 1 [(0 : Int), 0, 0, 0] 3 4 rfl (rep 4 [.int .i64 0]) rfl
  change OwnK (S0.alloc (.cells (rep 4 [.int .i64 0]) 3 1 true [])) _ _ _ _ ∧ Chg _ _ _ _ (S0.alloc (.cells (rep 4 [.int .i64 0]) 3 1 true [])) at m1
  have f1 := (Floor.start S0 S0 (Ext.refl _)).chg m1.2 (by decide)
  generalize hA : S0.alloc (.cells (rep 4 [.int .i64 0]) 3 1 true []) = SA at m1 f1 k4'
  simp (decide := true) only [↓symD, symU, ↓XW_cond, Nat.reduceEqDiff, List.zip_cons_cons, List.zip_nil_left, Option.bind_some, Option.map_some, Option.map_none, List.map_toArray, List.map_cons, List.map_nil, ne_eq, List.append_toArray, List.nil_append, List.cons_append, List.append_nil, ↓XS_mkSlice, xf10, k4']
  refine XW_loopR 0 (fun m fe S' => fe 0 = v ∧ fe 1 = .int .i64 14 ∧ fe 7 = .slice (some ⟨S0.next, 0, none⟩) 4 4 ∧ ∃ i : Nat, fe 8 = .int .i64 i ∧ m + i = l.length ∧ i ≤ 14 ∧
      ∃ col vf vo cs fl rs rl, fe 6 = vf ∧ fe 5 = vo ∧ rs.length = i ∧ RunI S0 S' col (.slice (some ⟨S0.next, 0, none⟩) 4 4) vf vo cs fl rs rl)
    (fun fe S' => ∃ col vo rs rl, fe 5 = vo ∧ rs.length ≤ 14 ∧ Floor col S0 S' ∧ OwnK S' col 3 vo rs ∧ MadeS S' col rs rl) l.length ?_ ?_ ?_
  · simp (decide := true) only [↓symD, symU, ↓XW_cond, Nat.reduceEqDiff, List.zip_cons_cons, List.zip_nil_left, Option.bind_some, Option.map_some, Option.map_none, List.map_toArray, List.map_cons, List.map_nil, ne_eq, List.append_toArray, List.nil_append, List.cons_append, List.append_nil, true_and]
    exact ⟨0, rfl, by omega, by omega, _, _, _, _, _, _, _, rfl, rfl, rfl, f1, m1.1, rfl, OwnK.nil _ _ _, by simp, by simp, OwnK.nil _ _ _, MadeS.nil _ _⟩
  · rintro m fe S1 ⟨h0, h1, h7, i, h8, hm, hi14, col, vf, vo, cs, fl, rs, rl, h6, h5, hrs, fl0, oc, hcs, of, hfl, hfll, oo, md⟩
    have fin : XW Try.prog (.exit 0) fe S1 (fun e fe S => e = .exit 0 ∧ True) → True := fun _ => trivial
    have hlen := (hv.mono fl0.ext).len
    by_cases hlt : i < l.length ∧ i < 14
    · have c1 : decide ((i : Int) < l.length) = true := by simp; exact hlt.1
      have c2 : decide ((i : Int) < 14) = true := by simp; omega
      obtain ⟨il, ol, x1, x2, x3⟩ := (hv.mono fl0.ext).get .i64 i hlt.1
      have x1' : iav 1 v (.int .i64 i) = some (.pointer (some ⟨il, ol, none⟩)) := x1
      have x3' : (S1.get il).rd ol 1 = some [.int .i64 l[i]] := x3
      simp (decide := true) only [↓symD, symU, ↓XW_cond, Nat.reduceEqDiff, List.zip_cons_cons, List.zip_nil_left, Option.bind_some, Option.map_some, Option.map_none, List.map_toArray, List.map_cons, List.map_nil, ne_eq, List.append_toArray, List.nil_append, List.cons_append, List.append_nil, h0, h1, h8, hlen, xbin_lss, c1, c2, x1', x3', part1_one]
      refine XCall.of (around_any l[i] 10000000 S1 (hi _ (List.getElem_mem _)).1 (hi _ (List.getElem_mem _)).2 (by decide)) ?_
      rintro _ S1 ⟨rfl, rfl⟩
      have ha := around_lt l[i] 10000000 (by decide)
      generalize around l[i] 10000000 = n at ha ⊢
      have tm : ∀ k : Int, 0 < k → 0 ≤ n.tmod k ∧ n.tmod k < k := fun k hk => by
        rw [Int.tmod_eq_emod_of_nonneg ha.1]
        exact ⟨Int.emod_nonneg _ (by omega), Int.emod_lt_of_pos _ hk⟩
      obtain ⟨nd, hnd, hnd4⟩ : ∃ nd : Nat, n.tmod 4 = (nd : Int) ∧ nd < 4 := ⟨(n.tmod 4).toNat, by have := tm 4 (by decide); omega, by have := tm 4 (by decide); omega⟩
      have n10 := fl0.ext.next
      have cA := BoxK.alloc S1 col 4 4 [.int .i64 0, .int .i64 0, .int .i64 0, .int .i64 0, .int .i64 0, .int .i64 0, .int .i64 0, .int .i64 0, .slice none 0 0, .bool false, .slice none 0 0] 41 11
      have flA := fl0.chg cA.2 (by decide)
      have ocA := oc.keep cA.2 (by decide)
      have ofA := of.keep cA.2 (by decide)
      have ooA := oo.keep cA.2 (by decide)
      have mdA := md.keep cA.2 (by omega)
      generalize hcA : paint col S1 4 = colA at cA flA ocA ofA ooA mdA
      generalize hA1 : S1.alloc (.cells [.int .i64 0, .int .i64 0, .int .i64 0, .int .i64 0, .int .i64 0, .int .i64 0, .int .i64 0, .int .i64 0, .slice none 0 0, .bool false, .slice none 0 0] 41 11 true []) = SA1 at cA flA ocA ofA ooA mdA
      have gA := cA.1.1
      have cB := cA.1.write [.int .i64 0, .int .i64 nd, .int .i64 0, .int .i64 0, .int .i64 0, .int .i64 0, .int .i64 0, .int .i64 0, .slice none 0 0, .bool false, .slice none 0 0]
      have flB := flA.chg cB.2 (by decide)
      have ocB := ocA.keep cB.2 (by decide)
      have ofB := ofA.keep cB.2 (by decide)
      have ooB := ooA.keep cB.2 (by decide)
      have mdB := mdA.keep cB.2 (by omega)
      generalize hB : SA1.write S1.next [.int .i64 0, .int .i64 nd, .int .i64 0, .int .i64 0, .int .i64 0, .int .i64 0, .int .i64 0, .int .i64 0, .slice none 0 0, .bool false, .slice none 0 0] 41 11 [] = SB at cB flB ocB ofB ooB mdB
      obtain ⟨ic, oc', y1, y2, y3⟩ := ocB.rd.get .i64 nd (by omega)
      have y1' : iav 1 (.slice (some ⟨S0.next, 0, none⟩) 4 4) (.int .i64 nd) = some (.pointer (some ⟨ic, oc', none⟩)) := y1
      have y3' : (SB.get ic).rd oc' 1 = some [.int .i64 cs[nd]] := y3
      have cC := BoxK.alloc SB colA 5 5 [.int .i64 0, .int .i64 0, .int .i64 0] 33 3
      have flC := flB.chg cC.2 (by decide)
      have ocC := ocB.keep cC.2 (by decide)
      have ofC := ofB.keep cC.2 (by decide)
      have ooC := ooB.keep cC.2 (by decide)
      have mdC := mdB.keep cC.2 (by omega)
      have bsC := cB.1.keep cC.2 (by decide)
      generalize hcC : paint colA SB 5 = colC at cC flC ocC ofC ooC mdC bsC
      generalize hC : SB.alloc (.cells [.int .i64 0, .int .i64 0, .int .i64 0] 33 3 true []) = SC at cC flC ocC ofC ooC mdC bsC
      have gC := cC.1.1
      have cD := cC.1.write [.int .i64 nd, .int .i64 ((n / 4).tmod 3), .int .i64 cs[nd]]
      have flD := flC.chg cD.2 (by decide)
      have ocD := ocC.keep cD.2 (by decide)
      have ofD := ofC.keep cD.2 (by decide)
      have ooD := ooC.keep cD.2 (by decide)
      have mdD := mdC.keep cD.2 (by omega)
      have bsD := bsC.keep cD.2 (by decide)
      generalize hD : SC.write SB.next [.int .i64 nd, .int .i64 ((n / 4).tmod 3), .int .i64 cs[nd]] 33 3 [] = SD at cD flD ocD ofD ooD mdD bsD
      obtain ⟨id, od, z1, z2, z3⟩ := ocD.rd.get .i64 nd (by omega)
      have z1' : iav 1 (.slice (some ⟨S0.next, 0, none⟩) 4 4) (.int .i64 nd) = some (.pointer (some ⟨id, od, none⟩)) := z1
      have z3' : (SD.get id).rd od 1 = some [.int .i64 cs[nd]] := z3
      obtain ⟨rfl, rfl⟩ : id = ic ∧ od = oc' := by
        have := y1'.symm.trans z1'
        simp only [Option.some.injEq, Value.pointer.injEq, Addr.mk.injEq, and_true] at this
        exact ⟨this.1.symm, this.2.symm⟩
      obtain ⟨id2, od2, ce, te, ze, an, b1, b2, b3, b4, b5⟩ := ocD.store nd (by omega) (w64 (cs[nd] + 1))
      obtain ⟨rfl, rfl⟩ : id2 = id ∧ od2 = od := by
        have := z1'.symm.trans b1
        simp only [Option.some.injEq, Value.pointer.injEq, Addr.mk.injEq, and_true] at this
        exact ⟨this.1.symm, this.2.symm⟩
      have b2' : stv 1 [.int .i64 (w64 (cs[nd] + 1))] od2 (SD.get id2) = some (ce, te, ze, an) := b2
      have flE := flD.chg b4 (by decide)
      have ofE := ofD.keep b4 (by decide)
      have ooE := ooD.keep b4 (by decide)
      have mdE := mdD.keep b4 (by omega)
      have bsE := bsD.keep b4 (by decide)
      have bcE := cD.1.keep b4 (by decide)
      generalize hE : SD.write id2 ce te ze an = SE at b3 b4 flE ofE ooE mdE bsE bcE
      have qd : ∀ k : Int, 0 < k → w64 (n.tdiv k) = n / k := fun k hk => by
        rw [Int.tdiv_eq_ediv_of_nonneg ha.1]
        have h1 : 0 ≤ n / k := Int.ediv_nonneg ha.1 (by omega)
        have h2 : n / k ≤ n := Int.ediv_le_self _ ha.1
        exact w64_ok (by omega) (by omega)
      have q4 := qd 4 (by decide)
      have q12 := qd 12 (by decide)
      simp (decide := true) only [↓symD, symU, ↓XW_cond, Nat.reduceEqDiff, List.zip_cons_cons, List.zip_nil_left, Option.bind_some, Option.map_some, Option.map_none, List.map_toArray, List.map_cons, List.map_nil, ne_eq, List.append_toArray, List.nil_append, List.cons_append, List.append_nil, fillL, splice, rep, List.replicate_succ, List.replicate_zero, List.flatten_cons, List.flatten_nil, List.append_nil, List.nil_append, List.cons_append, Value.cells, List.append_assoc, and_self, true_and, and_true, List.size_toArray, List.length_cons, List.length_nil, Nat.zero_add, ↓reduceIte, List.take_zero, List.drop_zero, List.drop_succ_cons, List.take_succ_cons, Nat.reduceAdd, Nat.reduceLeDiff, Nat.reduceEqDiff, allOne_int, allOne_nil, List.toList_toArray, boxc_agg, blkOf_ptr, stv_cells, Nat.add_zero, h7, xbin_rem, xbin_quo, xbin_add, hnd, q4, q12, cells_zs, cells_z3, allOne_slc, allOne_bl, hA1, gA, hB, y1', y3', part1_one, hC, gC, hD, z1', z3', b2', boxc_int, hE, ofE.rd.len, xbin_lss, xbin_gtr]
      have bs : BoxK SE colC 4 S1.next (stepZero nd).cs 41 11 := bsE
      let R : FEnv → St → Prop := fun fe' S' => (∃ r : RStep, BoxK S' colC 4 S1.next r.cs 41 11 ∧ r.asks = ⟨none, 0, 0⟩ ∧ r.sent = ⟨none, 0, 0⟩) ∧ Chg colC 4 SE colC S' ∧ fe' 0 = v ∧ fe' 1 = .int .i64 14 ∧ fe' 5 = vo ∧ fe' 6 = vf ∧ fe' 7 = .slice (some ⟨S0.next, 0, none⟩) 4 4 ∧ fe' 8 = .int .i64 i ∧ fe' 9 = .int .i64 n ∧ fe' 11 = .pointer (some ⟨S1.next, 0, none⟩) ∧ fe' 12 = .pointer (some ⟨SB.next, 0, none⟩)
      have k8 : 0 ≤ (n / 12).tmod 8 ∧ (n / 12).tmod 8 < 8 := by
        have h0 : 0 ≤ n / 12 := Int.ediv_nonneg ha.1 (by decide)
        rw [Int.tmod_eq_emod_of_nonneg h0]
        omega
      generalize (n / 12).tmod 8 = kd at k8 ⊢
      have q96 := qd 96 (by decide)
      refine Pick_t (fun hk => ?_) (fun hk => ?_)
      · simp (decide := true) only [↓symD, symU, ↓XW_cond, Nat.reduceEqDiff, List.zip_cons_cons, List.zip_nil_left, Option.bind_some, Option.map_some, Option.map_none, List.map_toArray, List.map_cons, List.map_nil, ne_eq, List.append_toArray, List.nil_append, List.cons_append, List.append_nil, hk, h6, ofE.rd.len, xbin_gtr]
        have d6 : decide (kd < 6) = true := decide_eq_true (by have := of_decide_eq_true hk; omega)
        refine Test_join R (fun hq => ?_) (fun hq => ?_) ?_
        · have hq' : 0 < fl.length := by simpa using hq
          obtain ⟨kn, rfl, hkn⟩ : ∃ kn : Nat, kd = (kn : Int) ∧ kn < 4 := ⟨kd.toNat, by omega, by have := of_decide_eq_true hk; omega⟩
          have hxF : Ext SE (SE.alloc (.cells [.int .i64 3, .int .i64 3, .int .i64 5, .int .i64 6] 3 1 true [])) := Ext.alloc _ _
          have rdF := (Own.made SE [(3 : Int), 3, 5, 6] 3 0 (Nat.zero_le _) 4 rfl [.int .i64 3, .int .i64 3, .int .i64 5, .int .i64 6] rfl).rd
          change RdS (SE.alloc (.cells [.int .i64 3, .int .i64 3, .int .i64 5, .int .i64 6] 3 1 true [])) _ _ at rdF
          generalize hF : SE.alloc (.cells [.int .i64 3, .int .i64 3, .int .i64 5, .int .i64 6] 3 1 true []) = SF at hxF rdF
          obtain ⟨ik, ok, f1, f2, f3⟩ := rdF.get .i64 kn (by simpa using hkn)
          have f1' : iav 1 (.slice (some ⟨SE.next, 0, none⟩) 4 4) (.int .i64 kn) = some (.pointer (some ⟨ik, ok, none⟩)) := f1
          have f3' : (SF.get ik).rd ok 1 = some [.int .i64 ([(3 : Int), 3, 5, 6][kn]'(by simpa using hkn))] := f3
          generalize [(3 : Int), 3, 5, 6][kn]'(by simpa using hkn) = kv at f3'
          have bsF := bs.mono hxF
          obtain ⟨qn, hqn, hql⟩ : ∃ qn : Nat, (n / 96).tmod fl.length = (qn : Int) ∧ qn < fl.length := by
            have h0 : 0 ≤ n / 96 := Int.ediv_nonneg ha.1 (by decide)
            have h1 : (0 : Int) < fl.length := by omega
            rw [Int.tmod_eq_emod_of_nonneg h0]
            have h2 := Int.emod_nonneg (n / 96) (show (fl.length : Int) ≠ 0 by omega)
            have h3 := Int.emod_lt_of_pos (n / 96) h1
            exact ⟨((n / 96) % fl.length).toNat, by omega, by omega⟩
          have w1 := bsF.write (RStep.cs { stepZero nd with ev := { (stepZero nd).ev with kind := kv } })
          have ofG := (ofE.mono hxF).keep w1.2 (by decide)
          generalize hG : SF.write S1.next (RStep.cs { stepZero nd with ev := { (stepZero nd).ev with kind := kv } }) 41 11 [] = SG at w1 ofG
          obtain ⟨im, om, g1, g2, g3⟩ := ofG.rd.get .i64 qn hql
          have g1' : iav 5 vf (.int .i64 qn) = some (.pointer (some ⟨im, om, none⟩)) := g1
          have g3' : (SG.get im).rd om 5 = some fl[qn].cs := g3
          have w2 := w1.1.write (RStep.cs { stepZero nd with ev := { (stepZero nd).ev with kind := kv, msg := fl[qn] } })
          have hne : (fl.length : Int) ≠ 0 := by omega
          have q7 := qd 7 (by decide)
          simp (decide := true) only [↓symD, symU, ↓XW_cond, Nat.reduceEqDiff, List.zip_cons_cons, List.zip_nil_left, Option.bind_some, Option.map_some, Option.map_none, List.map_toArray, List.map_cons, List.map_nil, ne_eq, List.append_toArray, List.nil_append, List.cons_append, List.append_nil, fillL, splice, rep, List.replicate_succ, List.replicate_zero, List.flatten_cons, List.flatten_nil, List.append_nil, List.nil_append, List.cons_append, Value.cells, List.append_assoc, and_self, true_and, and_true, List.size_toArray, List.length_cons, List.length_nil, Nat.zero_add, ↓reduceIte, List.take_zero, List.drop_zero, List.drop_succ_cons, List.take_succ_cons, Nat.reduceAdd, Nat.reduceLeDiff, Nat.reduceEqDiff, allOne_int, allOne_nil, List.toList_toArray, blkOf_ptr, Nat.add_zero, ↓reduceIte, eq_self, Bool.false_eq_true, decide_true, decide_false, Int.reduceEq, Int.reduceLT, Int.reduceLE, Int.reduceNe, Int.reduceGT, Int.reduceGE, boxc_int, List.length_cons, List.length_nil, Nat.reduceAdd, hA1, hB, hC, hD, hE, hF, f1', f3', bsF.1, part1_one, part1_agg, Nat.zero_add, boxc_int, blkOf_ptr, stKind, hG, ofG.rd.len, xbin_quo, xbin_rem, q96, hne, hqn, g1', g3', boxc_msg, w1.1.1, stMsg, xbin_gtr, h6]
          have fold1 := hxF
          have cW : Chg colC 4 SE colC (SG.write S1.next (RStep.cs { stepZero nd with ev := { (stepZero nd).ev with kind := kv, msg := fl[qn] } }) 41 11 []) := ((Chg.of_ext hxF).trans w1.2).trans w2.2
          have w3 := w2.1.write (RStep.cs { stepZero nd with ev := { (stepZero nd).ev with kind := kv, msg := { fl[qn] with copy := 1 } } })
          have cW3 := cW.trans w3.2
          generalize hH : SG.write S1.next (RStep.cs { stepZero nd with ev := { (stepZero nd).ev with kind := kv, msg := fl[qn] } }) 41 11 [] = SH at w2 w3 cW cW3
          have b3 := w2.1.1
          refine Pick_t (fun hz => ?_) (fun hz => ?_)
          · simp (decide := true) only [↓symD, symU, ↓XW_cond, Nat.reduceEqDiff, List.zip_cons_cons, List.zip_nil_left, Option.bind_some, Option.map_some, Option.map_none, List.map_toArray, List.map_cons, List.map_nil, ne_eq, List.append_toArray, List.nil_append, List.cons_append, List.append_nil, hz, xbin_quo, xbin_rem, q7, xbin_eql]
            refine Test_dec (fun h4 => ?_) (fun h4 => ?_)
            · simp (decide := true) only [↓symD, symU, ↓XW_cond, Nat.reduceEqDiff, List.zip_cons_cons, List.zip_nil_left, Option.bind_some, Option.map_some, Option.map_none, List.map_toArray, List.map_cons, List.map_nil, ne_eq, List.append_toArray, List.nil_append, List.cons_append, List.append_nil, List.length_cons, List.length_nil, Nat.reduceAdd, Nat.zero_add, hA1, hB, hC, hD, hE, hF, hG, hH, boxc_int, blkOf_ptr, b3, stCopy, true_and]
              refine ⟨⟨_, w3.1, rfl, rfl⟩, cW3, ?_⟩
              simp (decide := true) only [↓symD, symU, ↓XW_cond, Nat.reduceEqDiff, List.zip_cons_cons, List.zip_nil_left, Option.bind_some, Option.map_some, Option.map_none, List.map_toArray, List.map_cons, List.map_nil, ne_eq, List.append_toArray, List.nil_append, List.cons_append, List.append_nil, h0, h1, h5, h6, h7, h8, and_self]
            · simp (decide := true) only [↓symD, symU, ↓XW_cond, Nat.reduceEqDiff, List.zip_cons_cons, List.zip_nil_left, Option.bind_some, Option.map_some, Option.map_none, List.map_toArray, List.map_cons, List.map_nil, ne_eq, List.append_toArray, List.nil_append, List.cons_append, List.append_nil, List.length_cons, List.length_nil, Nat.reduceAdd, Nat.zero_add, hA1, hB, hC, hD, hE, hF, hG, hH, true_and]
              refine ⟨⟨_, w2.1, rfl, rfl⟩, cW, ?_⟩
              simp (decide := true) only [↓symD, symU, ↓XW_cond, Nat.reduceEqDiff, List.zip_cons_cons, List.zip_nil_left, Option.bind_some, Option.map_some, Option.map_none, List.map_toArray, List.map_cons, List.map_nil, ne_eq, List.append_toArray, List.nil_append, List.cons_append, List.append_nil, h0, h1, h5, h6, h7, h8, and_self]
          · simp (decide := true) only [↓symD, symU, ↓XW_cond, Nat.reduceEqDiff, List.zip_cons_cons, List.zip_nil_left, Option.bind_some, Option.map_some, Option.map_none, List.map_toArray, List.map_cons, List.map_nil, ne_eq, List.append_toArray, List.nil_append, List.cons_append, List.append_nil, hz, Pick_undef, List.length_cons, List.length_nil, Nat.reduceAdd, Nat.zero_add, hA1, hB, hC, hD, hE, hF, hG, hH, true_and]
            refine ⟨⟨_, w2.1, rfl, rfl⟩, cW, ?_⟩
            simp (decide := true) only [↓symD, symU, ↓XW_cond, Nat.reduceEqDiff, List.zip_cons_cons, List.zip_nil_left, Option.bind_some, Option.map_some, Option.map_none, List.map_toArray, List.map_cons, List.map_nil, ne_eq, List.append_toArray, List.nil_append, List.cons_append, List.append_nil, h0, h1, h5, h6, h7, h8, and_self]
        · simp (decide := true) only [↓symD, symU, ↓XW_cond, Nat.reduceEqDiff, List.zip_cons_cons, List.zip_nil_left, Option.bind_some, Option.map_some, Option.map_none, List.map_toArray, List.map_cons, List.map_nil, ne_eq, List.append_toArray, List.nil_append, List.cons_append, List.append_nil, Pick_undef, xbin_lss, d6, ↓reduceIte, eq_self, Bool.false_eq_true, decide_true, decide_false, Int.reduceEq, Int.reduceLT, Int.reduceLE, Int.reduceNe, Int.reduceGT, Int.reduceGE, boxc_int, List.length_cons, List.length_nil, Nat.reduceAdd, hA1, hB, hC, hD, hE, bs.1, Nat.zero_add, boxc_int, blkOf_ptr, stKind, get_write_self, stArg, xbin_quo, xbin_rem, q96, h0, h1, h5, h6, h7, h8, true_and]
          have w1 := bs.write (RStep.cs { stepZero nd with ev := { (stepZero nd).ev with kind := 4 } })
          have w2 := w1.1.write (RStep.cs { stepZero nd with ev := { (stepZero nd).ev with kind := 4, arg := (n / 96).tmod 3 } })
          refine ⟨⟨_, w2.1, rfl, rfl⟩, w1.2.trans w2.2, ?_⟩
          simp (decide := true) only [↓symD, symU, ↓XW_cond, Nat.reduceEqDiff, List.zip_cons_cons, List.zip_nil_left, Option.bind_some, Option.map_some, Option.map_none, List.map_toArray, List.map_cons, List.map_nil, ne_eq, List.append_toArray, List.nil_append, List.cons_append, List.append_nil, h0, h1, h5, h6, h7, h8, and_self]
        · clear h0 h1 h5 h6 h7 h8
          rintro fe S2 ⟨⟨r, br, ra0, rs0⟩, cR, h0, h1, h5, h6, h7, h8, h9, h11, h12⟩
          have mid : Mid S0 S2 colC (.slice (some ⟨S0.next, 0, none⟩) 4 4) vf vo (cs.set nd (w64 (cs[nd] + 1))) fl rs rl S1.next SB.next r nd ((n / 4).tmod 3) cs[nd] [] [] := ⟨flE.chg cR (by decide), b3.keep cR (by decide), by simpa using hcs, ofE.keep cR (by decide), hfl, by simp; omega, ooE.keep cR (by decide), mdE.keep cR (by omega), br, bcE.keep cR (by decide), by rw [rs0]; exact OwnK.nil _ _ _, by simp, by rw [ra0]; exact OwnK.nil _ _ _⟩
          refine XW.mono ?_ (tail_any mid ⟨h0, h1, h5, h7, h8, h9, h11, h12, h6⟩ ha (by omega))
          rintro e fe S ⟨rfl, vo', vf', col', fl', r', s', ⟨h0, h1, h5, h7, h8, h9, h11, h12, h6⟩, hI⟩
          have wi : w64 ((i : Int) + 1) = ((i + 1 : Nat) : Int) := w64_add1 i (by omega)
          simp (decide := true) only [↓symD, symU, ↓XW_cond, Nat.reduceEqDiff, List.zip_cons_cons, List.zip_nil_left, Option.bind_some, Option.map_some, Option.map_none, List.map_toArray, List.map_cons, List.map_nil, ne_eq, List.append_toArray, List.nil_append, List.cons_append, List.append_nil, h8, xbin_add, wi]
          exact ⟨m - 1, by omega, h0, h1, h7, i + 1, rfl, by omega, by omega, col', vf', vo', _, fl', rs ++ [r'], rl ++ [s'], h6, h5, by simp [hrs], hI⟩
      · simp (decide := true) only [↓symD, symU, ↓XW_cond, Nat.reduceEqDiff, List.zip_cons_cons, List.zip_nil_left, Option.bind_some, Option.map_some, Option.map_none, List.map_toArray, List.map_cons, List.map_nil, ne_eq, List.append_toArray, List.nil_append, List.cons_append, List.append_nil, hk, Pick_undef, xbin_lss]
        refine Test_join R (fun hq => ?_) (fun hq => ?_) ?_
        · simp (decide := true) only [↓symD, symU, ↓XW_cond, Nat.reduceEqDiff, List.zip_cons_cons, List.zip_nil_left, Option.bind_some, Option.map_some, Option.map_none, List.map_toArray, List.map_cons, List.map_nil, ne_eq, List.append_toArray, List.nil_append, List.cons_append, List.append_nil, ↓reduceIte, eq_self, Bool.false_eq_true, decide_true, decide_false, Int.reduceEq, Int.reduceLT, Int.reduceLE, Int.reduceNe, Int.reduceGT, Int.reduceGE, boxc_int, List.length_cons, List.length_nil, Nat.reduceAdd, hA1, hB, hC, hD, hE, bs.1, Nat.zero_add, boxc_int, blkOf_ptr, stKind, get_write_self, stArg, xbin_quo, xbin_rem, q96, h0, h1, h5, h6, h7, h8, true_and]
          have w1 := bs.write (RStep.cs { stepZero nd with ev := { (stepZero nd).ev with kind := 4 } })
          have w2 := w1.1.write (RStep.cs { stepZero nd with ev := { (stepZero nd).ev with kind := 4, arg := (n / 96).tmod 3 } })
          refine ⟨⟨_, w2.1, rfl, rfl⟩, w1.2.trans w2.2, ?_⟩
          simp (decide := true) only [↓symD, symU, ↓XW_cond, Nat.reduceEqDiff, List.zip_cons_cons, List.zip_nil_left, Option.bind_some, Option.map_some, Option.map_none, List.map_toArray, List.map_cons, List.map_nil, ne_eq, List.append_toArray, List.nil_append, List.cons_append, List.append_nil, h0, h1, h5, h6, h7, h8, and_self]
        · simp (decide := true) only [↓symD, symU, ↓XW_cond, Nat.reduceEqDiff, List.zip_cons_cons, List.zip_nil_left, Option.bind_some, Option.map_some, Option.map_none, List.map_toArray, List.map_cons, List.map_nil, ne_eq, List.append_toArray, List.nil_append, List.cons_append, List.append_nil, ↓reduceIte, eq_self, Bool.false_eq_true, decide_true, decide_false, Int.reduceEq, Int.reduceLT, Int.reduceLE, Int.reduceNe, Int.reduceGT, Int.reduceGE, boxc_int, List.length_cons, List.length_nil, Nat.reduceAdd, hA1, hB, hC, hD, hE, bs.1, Nat.zero_add, boxc_int, boxc_bool, blkOf_ptr, stKind, get_write_self, stArg, stObs, xbin_quo, xbin_rem, q96, h0, h1, h5, h6, h7, h8, true_and]
          have w1 := bs.write (RStep.cs { stepZero nd with ev := { (stepZero nd).ev with kind := 2 } })
          have w2 := w1.1.write (RStep.cs { stepZero nd with ev := { (stepZero nd).ev with kind := 2, arg := i } })
          have w3 := w2.1.write (RStep.cs { stepZero nd with ev := { (stepZero nd).ev with kind := 2, arg := i }, obs := true })
          refine ⟨⟨_, w3.1, rfl, rfl⟩, (w1.2.trans w2.2).trans w3.2, ?_⟩
          simp (decide := true) only [↓symD, symU, ↓XW_cond, Nat.reduceEqDiff, List.zip_cons_cons, List.zip_nil_left, Option.bind_some, Option.map_some, Option.map_none, List.map_toArray, List.map_cons, List.map_nil, ne_eq, List.append_toArray, List.nil_append, List.cons_append, List.append_nil, h0, h1, h5, h6, h7, h8, and_self]
        · clear h0 h1 h5 h6 h7 h8
          rintro fe S2 ⟨⟨r, br, ra0, rs0⟩, cR, h0, h1, h5, h6, h7, h8, h9, h11, h12⟩
          have mid : Mid S0 S2 colC (.slice (some ⟨S0.next, 0, none⟩) 4 4) vf vo (cs.set nd (w64 (cs[nd] + 1))) fl rs rl S1.next SB.next r nd ((n / 4).tmod 3) cs[nd] [] [] := ⟨flE.chg cR (by decide), b3.keep cR (by decide), by simpa using hcs, ofE.keep cR (by decide), hfl, by simp; omega, ooE.keep cR (by decide), mdE.keep cR (by omega), br, bcE.keep cR (by decide), by rw [rs0]; exact OwnK.nil _ _ _, by simp, by rw [ra0]; exact OwnK.nil _ _ _⟩
          refine XW.mono ?_ (tail_any mid ⟨h0, h1, h5, h7, h8, h9, h11, h12, h6⟩ ha (by omega))
          rintro e fe S ⟨rfl, vo', vf', col', fl', r', s', ⟨h0, h1, h5, h7, h8, h9, h11, h12, h6⟩, hI⟩
          have wi : w64 ((i : Int) + 1) = ((i + 1 : Nat) : Int) := w64_add1 i (by omega)
          simp (decide := true) only [↓symD, symU, ↓XW_cond, Nat.reduceEqDiff, List.zip_cons_cons, List.zip_nil_left, Option.bind_some, Option.map_some, Option.map_none, List.map_toArray, List.map_cons, List.map_nil, ne_eq, List.append_toArray, List.nil_append, List.cons_append, List.append_nil, h8, xbin_add, wi]
          exact ⟨m - 1, by omega, h0, h1, h7, i + 1, rfl, by omega, by omega, col', vf', vo', _, fl', rs ++ [r'], rl ++ [s'], h6, h5, by simp [hrs], hI⟩
    · by_cases hlt1 : i < l.length
      · have c1 : decide ((i : Int) < l.length) = true := by simp; exact hlt1
        have c2 : decide ((i : Int) < 14) = false := by simp; omega
        simp (decide := true) only [↓symD, symU, ↓XW_cond, Nat.reduceEqDiff, List.zip_cons_cons, List.zip_nil_left, Option.bind_some, Option.map_some, Option.map_none, List.map_toArray, List.map_cons, List.map_nil, ne_eq, List.append_toArray, List.nil_append, List.cons_append, List.append_nil, h0, h1, h8, hlen, xbin_lss, c1, c2]
        exact ⟨col, vo, rs, rl, h5, by omega, fl0, oo, md⟩
      · have c1 : decide ((i : Int) < l.length) = false := by simp; omega
        simp (decide := true) only [↓symD, symU, ↓XW_cond, Nat.reduceEqDiff, List.zip_cons_cons, List.zip_nil_left, Option.bind_some, Option.map_some, Option.map_none, List.map_toArray, List.map_cons, List.map_nil, ne_eq, List.append_toArray, List.nil_append, List.cons_append, List.append_nil, h0, h1, h8, hlen, xbin_lss, c1, Pick_undef]
        exact ⟨col, vo, rs, rl, h5, by omega, fl0, oo, md⟩
  · rintro fe S' ⟨col, vo, rs, rl, h5, hle, hf, ho, hmd⟩
    simp (decide := true) only [↓symD, symU, ↓XW_cond, Nat.reduceEqDiff, List.zip_cons_cons, List.zip_nil_left, Option.bind_some, Option.map_some, Option.map_none, List.map_toArray, List.map_cons, List.map_nil, ne_eq, List.append_toArray, List.nil_append, List.cons_append, List.append_nil, h5]
    exact ⟨hf.ext, rl, hmd.run ho.rd, by rw [← hmd.len]; exact hle, hmd.good⟩
end
end Go.Proofs.Ytolfpchcmiljpaa

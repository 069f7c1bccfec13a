/- The generator of runs: what is done to a step behind the choice of its kind. -/
import Derived.Test.YtolfpchcmiljpaaDo
set_option linter.unusedSimpArgs false
set_option linter.unusedSectionVars false
set_option maxRecDepth 10000
namespace Go.Proofs.Ytolfpchcmiljpaa
open Go Go.RowKit

def nodeOf (n : Int) : Int := n.tmod 4
def stepZero (node : Int) : RStep := ⟨⟨0, node, 0, ⟨0, 0, 0, 0, 0⟩⟩, ⟨none, 0, 0⟩, false, ⟨none, 0, 0⟩⟩
theorem rdCs3 (a b c : Int) (t : TypeId) (mi : Bool) (an : List Nat) : (Blk.cells [.int .i64 a, .int .i64 b, .int .i64 c] t 3 mi an).rd 0 3 = some [.int .i64 a, .int .i64 b, .int .i64 c] := Eq.trans rfl rfl

theorem cells_zs : (Value.agg #[.int .i64 0, .int .i64 0, .int .i64 0, .int .i64 0, .int .i64 0, .int .i64 0, .int .i64 0, .int .i64 0, .slice none 0 0, .bool false, .slice none 0 0]).cells.toList = [.int .i64 0, .int .i64 0, .int .i64 0, .int .i64 0, .int .i64 0, .int .i64 0, .int .i64 0, .int .i64 0, .slice none 0 0, .bool false, .slice none 0 0] := by simp [Value.cells]
theorem cells_z3 : (Value.agg #[.int .i64 0, .int .i64 0, .int .i64 0]).cells.toList = [.int .i64 0, .int .i64 0, .int .i64 0] := by simp [Value.cells]

theorem stKind (r : RStep) (k : Int) (t : TypeId) : stv 1 [.int .i64 k] 0 (.cells r.cs t 11 true []) = some (RStep.cs { r with ev := { r.ev with kind := k } }, t, 11, []) := Eq.trans rfl rfl
theorem stArg (r : RStep) (k : Int) (t : TypeId) : stv 1 [.int .i64 k] 2 (.cells r.cs t 11 true []) = some (RStep.cs { r with ev := { r.ev with arg := k } }, t, 11, []) := Eq.trans rfl rfl
theorem stCopy (r : RStep) (k : Int) (t : TypeId) : stv 1 [.int .i64 k] 7 (.cells r.cs t 11 true []) = some (RStep.cs { r with ev := { r.ev with msg := { r.ev.msg with copy := k } } }, t, 11, []) := Eq.trans rfl rfl
theorem stMsg (r : RStep) (m : Msg) (t : TypeId) : stv 5 m.cs 3 (.cells r.cs t 11 true []) = some (RStep.cs { r with ev := { r.ev with msg := m } }, t, 11, []) := Eq.trans rfl rfl
theorem stObs (r : RStep) (b : Bool) (t : TypeId) : stv 1 [.bool b] 9 (.cells r.cs t 11 true []) = some (RStep.cs { r with obs := b }, t, 11, []) := Eq.trans rfl rfl
theorem stSent (r : RStep) (v : SV) (t : TypeId) : stv 1 [v.v] 10 (.cells r.cs t 11 true []) = some (RStep.cs { r with sent := v }, t, 11, []) := Eq.trans rfl rfl
theorem stAsks (r : RStep) (v : SV) (t : TypeId) : stv 1 [v.v] 8 (.cells r.cs t 11 true []) = some (RStep.cs { r with asks := v }, t, 11, []) := Eq.trans rfl rfl

theorem boxc_cs5 (a b c d e : Int) : boxc (.agg #[.int .i64 a, .int .i64 b, .int .i64 c, .int .i64 d, .int .i64 e]) = some [.int .i64 a, .int .i64 b, .int .i64 c, .int .i64 d, .int .i64 e] := boxc_msg ⟨a, b, c, d, e⟩
theorem rdCs5 (a b c d e : Int) (t : TypeId) (mi : Bool) (an : List Nat) : (Blk.cells [.int .i64 a, .int .i64 b, .int .i64 c, .int .i64 d, .int .i64 e] t 5 mi an).rd 0 5 = some [.int .i64 a, .int .i64 b, .int .i64 c, .int .i64 d, .int .i64 e] := Eq.trans rfl rfl
theorem stCs5 (x y z u w a b c d e : Int) (t : TypeId) : stv 5 [.int .i64 a, .int .i64 b, .int .i64 c, .int .i64 d, .int .i64 e] 0 (.cells [.int .i64 x, .int .i64 y, .int .i64 z, .int .i64 u, .int .i64 w] t 5 true []) = some ([.int .i64 a, .int .i64 b, .int .i64 c, .int .i64 d, .int .i64 e], t, 5, []) := Eq.trans rfl rfl
theorem cells_z5 : (Value.agg #[.int .i64 0, .int .i64 0, .int .i64 0, .int .i64 0, .int .i64 0]).cells.toList = [.int .i64 0, .int .i64 0, .int .i64 0, .int .i64 0, .int .i64 0] := by simp [Value.cells]
theorem reach_le {n : Nat} (h : n ≤ 70368744177664) : n ≤ reach := h

/-- a part of a piece of code. -/
def XCode.part : List Bool → XCode → XCode
  | [], c => c
  | q :: l, .seq a b => XCode.part l (if q then b else a)
  | _ :: l, .block _ a => XCode.part l a
  | _ :: l, .loop a => XCode.part l a
  | q :: l, .cond _ a b => XCode.part l (if q then b else a)
  | _ :: _, c => c
theorem XW_cut {P : Program} [Prim P] {a b : XCode} {fe : FEnv} {S : St} {Q : Ex → FEnv → St → Prop} (R : FEnv → St → Prop) (h1 : XW P a fe S fun e fe S => e = .normal ∧ R fe S) (h2 : ∀ fe S, R fe S → XW P b fe S Q) : XW P (.seq a b) fe S Q := by
  rw [XW_seq]
  refine XW.mono (fun e fe S hh => ?_) h1
  obtain ⟨rfl, hh⟩ := hh
  exact h2 fe S hh

/-- what lies in memory while a step is made. -/
structure Mid (S0 S : St) (col : Col) (vc vf vo : Value) (cs : List Int) (fl : List Msg) (rs : List RStep) (rl : List Step) (bx bc : Nat) (r : RStep) (q1 q2 q3 : Int) (sent : List Msg) (asks : List Ask) : Prop where
  fr : Floor col S0 S
  oc : OwnK S col 1 vc cs
  cl : cs.length = 4
  of : OwnK S col 2 vf fl
  fc : ∀ m ∈ fl, Msg.copy m = 0
  fll : fl.length ≤ 2 * rs.length + sent.length
  oo : OwnK S col 3 vo rs
  md : MadeS S col rs rl
  bk : BoxK S col 4 bx r.cs 41 11
  bq : BoxK S col 5 bc [.int .i64 q1, .int .i64 q2, .int .i64 q3] 33 3
  os : OwnK S col (10 + 2 * rs.length) r.sent.v sent
  sc : ∀ m ∈ sent, Msg.copy m = 0
  oa : OwnK S col (11 + 2 * rs.length) r.asks.v asks
theorem Mid.mono {S0 S S' : St} {col : Col} {vc vf vo : Value} {cs : List Int} {fl : List Msg} {rs : List RStep} {rl : List Step} {bx bc : Nat} {r : RStep} {q1 q2 q3 : Int} {sent : List Msg} {asks : List Ask} (h : Mid S0 S col vc vf vo cs fl rs rl bx bc r q1 q2 q3 sent asks) (k : Ext S S') : Mid S0 S' col vc vf vo cs fl rs rl bx bc r q1 q2 q3 sent asks :=
  ⟨h.fr.mono k, h.oc.mono k, h.cl, h.of.mono k, h.fc, h.fll, h.oo.mono k, h.md.mono k, h.bk.mono k, h.bq.mono k, h.os.mono k, h.sc, h.oa.mono k⟩
theorem Mid.six {S0 S S' : St} {col col' : Col} {vc vf vo : Value} {cs : List Int} {fl : List Msg} {rs : List RStep} {rl : List Step} {bx bc : Nat} {r : RStep} {q1 q2 q3 : Int} {sent : List Msg} {asks : List Ask} (h : Mid S0 S col vc vf vo cs fl rs rl bx bc r q1 q2 q3 sent asks) (k : Chg col 6 S col' S') : Mid S0 S' col' vc vf vo cs fl rs rl bx bc r q1 q2 q3 sent asks :=
  ⟨h.fr.chg k (by decide), h.oc.keep k (by decide), h.cl, h.of.keep k (by decide), h.fc, h.fll, h.oo.keep k (by decide), h.md.keep k (by omega), h.bk.keep k (by decide), h.bq.keep k (by decide), h.os.keep k (by omega), h.sc, h.oa.keep k (by omega)⟩
/-- the step's box is written, with what else is known then. -/
theorem Mid.box {S0 S S' : St} {col : Col} {vc vf vo : Value} {cs : List Int} {fl : List Msg} {rs : List RStep} {rl : List Step} {bx bc : Nat} {r r' : RStep} {q1 q2 q3 : Int} {sent : List Msg} {asks : List Ask} (h : Mid S0 S col vc vf vo cs fl rs rl bx bc r q1 q2 q3 sent asks) (hs : r'.sent = r.sent) (ha : r'.asks = r.asks) (e : S.write bx r'.cs 41 11 [] = S') : Mid S0 S' col vc vf vo cs fl rs rl bx bc r' q1 q2 q3 sent asks := by
  obtain ⟨w1, w2⟩ := h.bk.write r'.cs
  rw [e] at w1 w2
  exact ⟨h.fr.chg w2 (by decide), h.oc.keep w2 (by decide), h.cl, h.of.keep w2 (by decide), h.fc, h.fll, h.oo.keep w2 (by decide), h.md.keep w2 (by omega), w1, h.bq.keep w2 (by decide), by rw [hs]; exact h.os.keep w2 (by omega), h.sc, by rw [ha]; exact h.oa.keep w2 (by omega)⟩
/-- a message is sent. -/
theorem Mid.send {S0 S : St} {col : Col} {vc vf vo : Value} {cs : List Int} {fl : List Msg} {rs : List RStep} {rl : List Step} {bx bc : Nat} {r : RStep} {q1 q2 q3 : Int} {sent : List Msg} {asks : List Ask} (h : Mid S0 S col vc vf vo cs fl rs rl bx bc r q1 q2 q3 sent asks) (hl : sent.length ≤ 10) {x : Value} {m : Msg} (hx : RdS S x [m]) (hm : m.copy = 0) :
    ∃ (w : SV) (S1 : St) (col' : Col), xappend 35 5 40 r.sent.v x S = some (w.v, S1) ∧ boxc w.v = some [w.v] ∧ BoxK S1 col' 4 bx r.cs 41 11 ∧ (∀ id cs t z, BoxK S col 6 id cs t z → BoxK S1 col' 6 id cs t z) ∧
      ∀ S2, S1.write bx (RStep.cs { r with sent := w }) 41 11 [] = S2 → (∀ id cs t z, BoxK S col 6 id cs t z → BoxK S2 col' 6 id cs t z) ∧ ∀ S3, Ext S2 S3 → ∀ y, RdS S3 y [m] → rs.length ≤ 20 → ∃ w4 S4 col4, xappend 35 5 40 vf y S3 = some (w4, S4) ∧ Mid S0 S4 col4 vc w4 vo cs (fl ++ [m]) rs rl bx bc { r with sent := w } q1 q2 q3 (sent ++ [m]) asks := by
  obtain ⟨w, S1, c1, e1, o1, k1, _⟩ := h.os.append hx 35 40 (reach_le (by simp; omega)) (by decide)
  have hbw := o1.boxc
  obtain ⟨sv, rfl⟩ := o1.rd.sv
  have b1 := h.bk.keep k1 (by omega)
  refine ⟨sv, S1, c1, e1, hbw, b1, fun id cs t z hb => hb.keep k1 (by omega), fun S2 hS2 => ?_⟩
  obtain ⟨w1, w2⟩ := b1.write (RStep.cs { r with sent := sv })
  rw [hS2] at w1 w2
  refine ⟨fun id cs t z hb => (hb.keep k1 (by omega)).keep w2 (by decide), fun S3 x3 y hy hrs => ?_⟩
  have hfl := h.fll
  obtain ⟨w4, S4, c4, e4, o4, k4, _⟩ := (((h.of.keep k1 (by omega)).keep w2 (by decide)).mono x3).append hy 35 40 (reach_le (by simp; omega)) (by decide)
  refine ⟨w4, S4, c4, e4, ⟨?_, ?_, h.cl, o4, ?_, ?_, ?_, ?_, ?_, ?_, ?_, ?_, ?_⟩⟩
  · exact (((h.fr.chg k1 (by omega)).chg w2 (by decide)).mono x3).chg k4 (by decide)
  · exact (((h.oc.keep k1 (by omega)).keep w2 (by decide)).mono x3).keep k4 (by decide)
  · intro m' hm'
    rcases List.mem_append.1 hm' with hm' | hm'
    · exact h.fc m' hm'
    · rw [List.mem_singleton.1 hm']; exact hm
  · simp; omega
  · exact (((h.oo.keep k1 (by omega)).keep w2 (by decide)).mono x3).keep k4 (by decide)
  · exact (((h.md.keep k1 (by omega)).keep w2 (by omega)).mono x3).keep k4 (by omega)
  · exact (w1.mono x3).keep k4 (by decide)
  · exact (((h.bq.keep k1 (by omega)).keep w2 (by decide)).mono x3).keep k4 (by decide)
  · exact ((o1.keep w2 (by omega)).mono x3).keep k4 (by omega)
  · intro m' hm'
    rcases List.mem_append.1 hm' with hm' | hm'
    · exact h.sc m' hm'
    · rw [List.mem_singleton.1 hm']; exact hm
  · exact (((h.oa.keep k1 (by omega)).keep w2 (by omega)).mono x3).keep k4 (by omega)
/-- a question is asked. -/
theorem Mid.ask {S0 S : St} {col : Col} {vc vf vo : Value} {cs : List Int} {fl : List Msg} {rs : List RStep} {rl : List Step} {bx bc : Nat} {r : RStep} {q1 q2 q3 : Int} {sent : List Msg} {asks : List Ask} (h : Mid S0 S col vc vf vo cs fl rs rl bx bc r q1 q2 q3 sent asks) (hl : asks.length ≤ 10) {x : Value} {m : Ask} (hx : RdS S x [m]) :
    ∃ (w : SV) (S1 : St) (col' : Col), xappend 59 7 56 r.asks.v x S = some (w.v, S1) ∧ boxc w.v = some [w.v] ∧ S1.get bx = .cells r.cs 41 11 true [] ∧
      ∀ S2, S1.write bx (RStep.cs { r with asks := w }) 41 11 [] = S2 → Mid S0 S2 col' vc vf vo cs fl rs rl bx bc { r with asks := w } q1 q2 q3 sent (asks ++ [m]) := by
  obtain ⟨w, S1, c1, e1, o1, k1, _⟩ := h.oa.append hx 59 56 (reach_le (by simp; omega)) (by decide)
  have hbw := o1.boxc
  obtain ⟨sv, rfl⟩ := o1.rd.sv
  have b1 := h.bk.keep k1 (by omega)
  refine ⟨sv, S1, c1, e1, hbw, b1.1, fun S2 hS2 => ?_⟩
  obtain ⟨w1, w2⟩ := b1.write (RStep.cs { r with asks := sv })
  rw [hS2] at w1 w2
  exact ⟨(h.fr.chg k1 (by omega)).chg w2 (by decide), (h.oc.keep k1 (by omega)).keep w2 (by decide), h.cl, (h.of.keep k1 (by omega)).keep w2 (by decide), h.fc, h.fll, (h.oo.keep k1 (by omega)).keep w2 (by decide), (h.md.keep k1 (by omega)).keep w2 (by omega), w1, (h.bq.keep k1 (by omega)).keep w2 (by decide), (h.os.keep k1 (by omega)).keep w2 (by omega), h.sc, o1.keep w2 (by omega)⟩

/-- the variables of a round. -/
def FeR (fe : FEnv) (v vo vc vf : Value) (i : Nat) (n : Int) (bx bc : Nat) : Prop := fe 0 = v ∧ fe 1 = .int .i64 14 ∧ fe 5 = vo ∧ fe 7 = vc ∧ fe 8 = .int .i64 i ∧ fe 9 = .int .i64 n ∧ fe 11 = .pointer (some ⟨bx, 0, none⟩) ∧ fe 12 = .pointer (some ⟨bc, 0, none⟩) ∧ fe 6 = vf

section
variable [Prim Try.prog]

/-- where the piece begins. -/
def tailP : XCode := XCode.part [true, true, true, true, false, true, false, false, true, false, false, true, true, true, true, true, true, true] xf10.body

theorem tailObs {S0 S : St} {col : Col} {v vc vf vo : Value} {cs : List Int} {fl : List Msg} {rs : List RStep} {rl : List Step} {bx bc i : Nat} {r : RStep} {q1 q2 q3 n : Int} {sent : List Msg} {asks : List Ask} {fe : FEnv} (h : Mid S0 S col vc vf vo cs fl rs rl bx bc r q1 q2 q3 sent asks) (hf : FeR fe v vo vc vf i n bx bc) (hn : 0 ≤ n ∧ n < 10000000) :
    XW Try.prog (XCode.part [false] tailP) fe S fun e fe' S' => e = .normal ∧ FeR fe' v vo vc vf i n bx bc ∧ ∃ r', Mid S0 S' col vc vf vo cs fl rs rl bx bc r' q1 q2 q3 sent asks := by
  obtain ⟨h0, h1, h5, h7, h8, h9, h11, h12, h6⟩ := hf
  have q11 : w64 (n.tdiv 11) = n / 11 := by
    rw [Int.tdiv_eq_ediv_of_nonneg hn.1]
    exact w64_ok (by omega) (by omega)
  simp (decide := true) only [tailP, XCode.part, xf10, ↓reduceIte, Bool.false_eq_true]
  simp (decide := true) only [↓symD, symU, ↓XW_cond, Nat.reduceEqDiff, List.zip_cons_cons, List.zip_nil_left, Option.bind_some, Option.map_some, Option.map_none, List.map_toArray, List.map_cons, List.map_nil, ne_eq, List.append_toArray, List.nil_append, List.cons_append, List.append_nil, h9, xbin_quo, xbin_rem, q11, xbin_eql]
  refine Test_dec (fun hq => ?_) (fun hq => ?_)
  · simp (decide := true) only [↓symD, symU, ↓XW_cond, Nat.reduceEqDiff, List.zip_cons_cons, List.zip_nil_left, Option.bind_some, Option.map_some, Option.map_none, List.map_toArray, List.map_cons, List.map_nil, ne_eq, List.append_toArray, List.nil_append, List.cons_append, List.append_nil, h11, boxc_bool, blkOf_ptr, h.bk.1, stObs, Nat.zero_add, true_and]
    refine ⟨?_, _, h.box (r' := { r with obs := true }) rfl rfl rfl⟩
    simp (decide := true) only [FeR, ↓symD, symU, ↓XW_cond, Nat.reduceEqDiff, List.zip_cons_cons, List.zip_nil_left, Option.bind_some, Option.map_some, Option.map_none, List.map_toArray, List.map_cons, List.map_nil, ne_eq, List.append_toArray, List.nil_append, List.cons_append, List.append_nil, h0, h1, h5, h6, h7, h8, h9, h11, h12, and_self]
  · simp (decide := true) only [↓symD, symU, ↓XW_cond, Nat.reduceEqDiff, List.zip_cons_cons, List.zip_nil_left, Option.bind_some, Option.map_some, Option.map_none, List.map_toArray, List.map_cons, List.map_nil, ne_eq, List.append_toArray, List.nil_append, List.cons_append, List.append_nil, true_and]
    refine ⟨?_, _, h⟩
    simp (decide := true) only [FeR, ↓symD, symU, ↓XW_cond, Nat.reduceEqDiff, List.zip_cons_cons, List.zip_nil_left, Option.bind_some, Option.map_some, Option.map_none, List.map_toArray, List.map_cons, List.map_nil, ne_eq, List.append_toArray, List.nil_append, List.cons_append, List.append_nil, h0, h1, h5, h6, h7, h8, h9, h11, h12, and_self]
theorem tailSend {S0 S : St} {col : Col} {v vc vf vo : Value} {cs : List Int} {fl : List Msg} {rs : List RStep} {rl : List Step} {bx bc i : Nat} {r : RStep} {q1 q2 q3 n : Int} {asks : List Ask} {fe : FEnv} (h : Mid S0 S col vc vf vo cs fl rs rl bx bc r q1 q2 q3 [] asks) (hf : FeR fe v vo vc vf i n bx bc) (hn : 0 ≤ n ∧ n < 10000000) (hrs : rs.length ≤ 20) :
    XW Try.prog (XCode.part [true, false] tailP) fe S fun e fe' S' => e = .normal ∧ ∃ vf' col' fl' r' sent, FeR fe' v vo vc vf' i n bx bc ∧ sent.length ≤ 2 ∧ Mid S0 S' col' vc vf' vo cs fl' rs rl bx bc r' q1 q2 q3 sent asks := by
  obtain ⟨h0, h1, h5, h7, h8, h9, h11, h12, h6⟩ := hf
  have q13 : w64 (n.tdiv 13) = n / 13 := by
    rw [Int.tdiv_eq_ediv_of_nonneg hn.1]
    exact w64_ok (by omega) (by omega)
  obtain ⟨K, hK, hK3⟩ : ∃ K : Nat, (n / 13).tmod 3 = (K : Int) ∧ K ≤ 2 := by
    have h0 : 0 ≤ n / 13 := Int.ediv_nonneg hn.1 (by decide)
    rw [Int.tmod_eq_emod_of_nonneg h0]
    exact ⟨(n / 13 % 3).toNat, by omega, by omega⟩
  simp (decide := true) only [tailP, XCode.part, xf10, ↓reduceIte, Bool.false_eq_true]
  simp (decide := true) only [↓symD, symU, ↓XW_cond, Nat.reduceEqDiff, List.zip_cons_cons, List.zip_nil_left, Option.bind_some, Option.map_some, Option.map_none, List.map_toArray, List.map_cons, List.map_nil, ne_eq, List.append_toArray, List.nil_append, List.cons_append, List.append_nil]
  refine XW_loopR 2 (fun m2 fe' S' => ∃ k : Nat, fe' 14 = .int .i64 k ∧ m2 + k = K ∧ ∃ vf' col' fl' r' sent, FeR fe' v vo vc vf' i n bx bc ∧ List.length sent = k ∧ Mid S0 S' col' vc vf' vo cs fl' rs rl bx bc r' q1 q2 q3 sent asks)
    (fun fe' S' => ∃ vf' col' fl' r' sent, FeR fe' v vo vc vf' i n bx bc ∧ List.length sent = K ∧ Mid S0 S' col' vc vf' vo cs fl' rs rl bx bc r' q1 q2 q3 sent asks) K ?_ ?_ ?_
  · refine ⟨0, by simp (decide := true) only [↓symD, symU, ↓XW_cond, Nat.reduceEqDiff, List.zip_cons_cons, List.zip_nil_left, Option.bind_some, Option.map_some, Option.map_none, List.map_toArray, List.map_cons, List.map_nil, ne_eq, List.append_toArray, List.nil_append, List.cons_append, List.append_nil]; rfl, by omega, vf, col, fl, r, [], ?_, rfl, h⟩
    simp (decide := true) only [FeR, ↓symD, symU, ↓XW_cond, Nat.reduceEqDiff, List.zip_cons_cons, List.zip_nil_left, Option.bind_some, Option.map_some, Option.map_none, List.map_toArray, List.map_cons, List.map_nil, ne_eq, List.append_toArray, List.nil_append, List.cons_append, List.append_nil, h0, h1, h5, h6, h7, h8, h9, h11, h12, and_self]
  · clear h h0 h1 h5 h6 h7 h8 h9 h11 h12
    rintro m2 fe S ⟨k, h14, hmk, vf, col, fl, r, sent, ⟨h0, h1, h5, h7, h8, h9, h11, h12, h6⟩, hsl, h⟩
    simp (decide := true) only [↓symD, symU, ↓XW_cond, Nat.reduceEqDiff, List.zip_cons_cons, List.zip_nil_left, Option.bind_some, Option.map_some, Option.map_none, List.map_toArray, List.map_cons, List.map_nil, ne_eq, List.append_toArray, List.nil_append, List.cons_append, List.append_nil, h14, h9, xbin_quo, xbin_rem, q13, hK, xbin_lss]
    refine Test_dec (fun hlt => ?_) (fun hge => ?_)
    · have a1 := BoxK.alloc S col 6 6 [.int .i64 0, .int .i64 0, .int .i64 0, .int .i64 0, .int .i64 0] 35 5
      have m1 := h.six a1.2
      generalize hc1 : paint col S 6 = c1 at a1 m1
      generalize hX1 : S.alloc (.cells [.int .i64 0, .int .i64 0, .int .i64 0, .int .i64 0, .int .i64 0] 35 5 true []) = X1 at a1 m1
      have a2 := a1.1.write [.int .i64 q1, .int .i64 q2, .int .i64 q3, .int .i64 k, .int .i64 0]
      have m2' := m1.six a2.2
      generalize hX2 : X1.write S.next [.int .i64 q1, .int .i64 q2, .int .i64 q3, .int .i64 k, .int .i64 0] 35 5 [] = X2 at a2 m2'
      have x3 : Ext X2 (X2.alloc (.cells [.int .i64 q1, .int .i64 q2, .int .i64 q3, .int .i64 k, .int .i64 0] 35 5 true [])) := Ext.alloc _ _
      have rd3 := RdS.one X2 (⟨q1, q2, q3, k, 0⟩ : Msg) 35
      change RdS (X2.alloc (.cells [.int .i64 q1, .int .i64 q2, .int .i64 q3, .int .i64 k, .int .i64 0] 35 5 true [])) _ _ at rd3
      generalize hX3 : X2.alloc (.cells [.int .i64 q1, .int .i64 q2, .int .i64 q3, .int .i64 k, .int .i64 0] 35 5 true []) = X3 at x3 rd3
      have b3 := a2.1.mono x3
      obtain ⟨w, X4, c4, e4, hbw, b4, k4, hn4⟩ := (m2'.mono x3).send (by omega) rd3 rfl
      generalize hX5 : X4.write bx (RStep.cs { r with sent := w }) 41 11 [] = X5 at hn4
      obtain ⟨k5, hn5⟩ := hn4 X5 rfl
      have b5 := k5 _ _ _ _ b3
      have x6 : Ext X5 (X5.alloc (.cells [.int .i64 q1, .int .i64 q2, .int .i64 q3, .int .i64 k, .int .i64 0] 35 5 true [])) := Ext.alloc _ _
      have rd6 := RdS.one X5 (⟨q1, q2, q3, k, 0⟩ : Msg) 35
      change RdS (X5.alloc (.cells [.int .i64 q1, .int .i64 q2, .int .i64 q3, .int .i64 k, .int .i64 0] 35 5 true [])) _ _ at rd6
      generalize hX6 : X5.alloc (.cells [.int .i64 q1, .int .i64 q2, .int .i64 q3, .int .i64 k, .int .i64 0] 35 5 true []) = X6 at x6 rd6
      obtain ⟨w7, X7, c7, e7, hfin⟩ := hn5 X6 x6 _ rd6 hrs
      have e4' : xappend 35 5 40 r.sent.v (.slice (some ⟨X2.next, 0, none⟩) 1 1) X3 = some (w.v, X4) := e4
      have e7' : xappend 35 5 40 vf (.slice (some ⟨X5.next, 0, none⟩) 1 1) X6 = some (w7, X7) := e7
      have wk : w64 ((k : Int) + 1) = ((k + 1 : Nat) : Int) := w64_add1 k (by omega)
      simp (decide := true) only [↓symD, symU, ↓XW_cond, Nat.reduceEqDiff, List.zip_cons_cons, List.zip_nil_left, Option.bind_some, Option.map_some, Option.map_none, List.map_toArray, List.map_cons, List.map_nil, ne_eq, List.append_toArray, List.nil_append, List.cons_append, List.append_nil, fillL, splice, rep, List.replicate_succ, List.replicate_zero, List.flatten_cons, List.flatten_nil, List.append_nil, List.nil_append, List.cons_append, Value.cells, List.append_assoc, and_self, true_and, and_true, List.size_toArray, List.length_cons, List.length_nil, Nat.zero_add, ↓reduceIte, List.take_zero, List.drop_zero, List.drop_succ_cons, List.take_succ_cons, Nat.reduceAdd, Nat.reduceLeDiff, Nat.reduceEqDiff, allOne_int, allOne_nil, List.toList_toArray, blkOf_ptr, Nat.add_zero, h12, h.bq.1, rdCs3, part1_agg, part1_one, cells_z5, hX1, a1.1.1, boxc_cs5, stCs5, hX2, h11, m2'.bk.1, rdSent, a2.1.1, rdCs5, hX3, e4', hbw, b4.1, stSent, hX5, h6, b5.1, hX6, e7', h14, xbin_add, wk]
      refine ⟨m2 - 1, by omega, k + 1, rfl, by omega, w7, c7, _, _, _, ?_, ?_, hfin⟩
      · simp (decide := true) only [FeR, ↓symD, symU, ↓XW_cond, Nat.reduceEqDiff, List.zip_cons_cons, List.zip_nil_left, Option.bind_some, Option.map_some, Option.map_none, List.map_toArray, List.map_cons, List.map_nil, ne_eq, List.append_toArray, List.nil_append, List.cons_append, List.append_nil, h0, h1, h5, h6, h7, h8, h9, h11, h12, and_self]
      · simp [hsl]
    · have hk : k = K := by omega
      simp (decide := true) only [↓symD, symU, ↓XW_cond, Nat.reduceEqDiff, List.zip_cons_cons, List.zip_nil_left, Option.bind_some, Option.map_some, Option.map_none, List.map_toArray, List.map_cons, List.map_nil, ne_eq, List.append_toArray, List.nil_append, List.cons_append, List.append_nil]
      refine ⟨vf, col, fl, r, sent, ?_, by omega, h⟩
      simp (decide := true) only [FeR, ↓symD, symU, ↓XW_cond, Nat.reduceEqDiff, List.zip_cons_cons, List.zip_nil_left, Option.bind_some, Option.map_some, Option.map_none, List.map_toArray, List.map_cons, List.map_nil, ne_eq, List.append_toArray, List.nil_append, List.cons_append, List.append_nil, h0, h1, h5, h6, h7, h8, h9, h11, h12, and_self]
  · rintro fe S ⟨vf, col, fl, r, sent, hf, hsl, h⟩
    simp (decide := true) only [↓symD, symU, ↓XW_cond, Nat.reduceEqDiff, List.zip_cons_cons, List.zip_nil_left, Option.bind_some, Option.map_some, Option.map_none, List.map_toArray, List.map_cons, List.map_nil, ne_eq, List.append_toArray, List.nil_append, List.cons_append, List.append_nil, true_and]
    exact ⟨vf, col, fl, r, sent, hf, by omega, h⟩
theorem tailAsk {S0 S : St} {col : Col} {v vc vf vo : Value} {cs : List Int} {fl : List Msg} {rs : List RStep} {rl : List Step} {bx bc i : Nat} {r : RStep} {q1 q2 q3 n : Int} {sent : List Msg} {fe : FEnv} (h : Mid S0 S col vc vf vo cs fl rs rl bx bc r q1 q2 q3 sent []) (hf : FeR fe v vo vc vf i n bx bc) (hn : 0 ≤ n ∧ n < 10000000) :
    XW Try.prog (XCode.part [true, true, false] tailP) fe S fun e fe' S' => e = .normal ∧ FeR fe' v vo vc vf i n bx bc ∧ ∃ col' r' asks, List.length asks ≤ 1 ∧ Mid S0 S' col' vc vf vo cs fl rs rl bx bc r' q1 q2 q3 sent asks := by
  obtain ⟨h0, h1, h5, h7, h8, h9, h11, h12, h6⟩ := hf
  have q17 : w64 (n.tdiv 17) = n / 17 := by
    rw [Int.tdiv_eq_ediv_of_nonneg hn.1]
    exact w64_ok (by omega) (by omega)
  have q51 : w64 (n.tdiv 51) = n / 51 := by
    rw [Int.tdiv_eq_ediv_of_nonneg hn.1]
    exact w64_ok (by omega) (by omega)
  simp (decide := true) only [tailP, XCode.part, xf10, ↓reduceIte, Bool.false_eq_true]
  simp (decide := true) only [↓symD, symU, ↓XW_cond, Nat.reduceEqDiff, List.zip_cons_cons, List.zip_nil_left, Option.bind_some, Option.map_some, Option.map_none, List.map_toArray, List.map_cons, List.map_nil, ne_eq, List.append_toArray, List.nil_append, List.cons_append, List.append_nil, h9, xbin_quo, xbin_rem, q17, xbin_eql]
  refine Test_dec (fun hq => ?_) (fun hq => ?_)
  · have x3 : Ext S (S.alloc (.cells [.int .i64 q1, .int .i64 q2, .int .i64 q3, .int .i64 1, .int .i64 0, .int .i64 2, .int .i64 ((n / 51).tmod 2)] 59 7 true [])) := Ext.alloc _ _
    have rd3 := RdS.one S (⟨q1, q2, q3, 1, 0, 2, (n / 51).tmod 2⟩ : Ask) 59
    change RdS (S.alloc (.cells [.int .i64 q1, .int .i64 q2, .int .i64 q3, .int .i64 1, .int .i64 0, .int .i64 2, .int .i64 ((n / 51).tmod 2)] 59 7 true [])) _ _ at rd3
    generalize hX3 : S.alloc (.cells [.int .i64 q1, .int .i64 q2, .int .i64 q3, .int .i64 1, .int .i64 0, .int .i64 2, .int .i64 ((n / 51).tmod 2)] 59 7 true []) = X3 at x3 rd3
    obtain ⟨w, X4, c4, e4, hbw, g4, hfin⟩ := (h.mono x3).ask (by simp) rd3
    have e4' : xappend 59 7 56 r.asks.v (.slice (some ⟨S.next, 0, none⟩) 1 1) X3 = some (w.v, X4) := e4
    simp (decide := true) only [↓symD, symU, ↓XW_cond, Nat.reduceEqDiff, List.zip_cons_cons, List.zip_nil_left, Option.bind_some, Option.map_some, Option.map_none, List.map_toArray, List.map_cons, List.map_nil, ne_eq, List.append_toArray, List.nil_append, List.cons_append, List.append_nil, fillL, splice, rep, List.replicate_succ, List.replicate_zero, List.flatten_cons, List.flatten_nil, List.append_nil, List.nil_append, List.cons_append, Value.cells, List.append_assoc, and_self, true_and, and_true, List.size_toArray, List.length_cons, List.length_nil, Nat.zero_add, ↓reduceIte, List.take_zero, List.drop_zero, List.drop_succ_cons, List.take_succ_cons, Nat.reduceAdd, Nat.reduceLeDiff, Nat.reduceEqDiff, allOne_int, allOne_nil, List.toList_toArray, blkOf_ptr, Nat.add_zero, h9, h11, h12, h.bk.1, rdAsks, h.bq.1, rdCs3, part1_agg, part1_one, xbin_quo, xbin_rem, q51, hX3, e4', hbw, g4, stAsks]
    refine ⟨?_, c4, _, _, ?_, hfin _ rfl⟩
    · simp (decide := true) only [FeR, ↓symD, symU, ↓XW_cond, Nat.reduceEqDiff, List.zip_cons_cons, List.zip_nil_left, Option.bind_some, Option.map_some, Option.map_none, List.map_toArray, List.map_cons, List.map_nil, ne_eq, List.append_toArray, List.nil_append, List.cons_append, List.append_nil, h0, h1, h5, h6, h7, h8, h9, h11, h12, and_self]
    · simp
  · simp (decide := true) only [↓symD, symU, ↓XW_cond, Nat.reduceEqDiff, List.zip_cons_cons, List.zip_nil_left, Option.bind_some, Option.map_some, Option.map_none, List.map_toArray, List.map_cons, List.map_nil, ne_eq, List.append_toArray, List.nil_append, List.cons_append, List.append_nil, true_and]
    refine ⟨?_, col, r, [], by simp, h⟩
    simp (decide := true) only [FeR, ↓symD, symU, ↓XW_cond, Nat.reduceEqDiff, List.zip_cons_cons, List.zip_nil_left, Option.bind_some, Option.map_some, Option.map_none, List.map_toArray, List.map_cons, List.map_nil, ne_eq, List.append_toArray, List.nil_append, List.cons_append, List.append_nil, h0, h1, h5, h6, h7, h8, h9, h11, h12, and_self]

/-- what holds between the rounds. -/
def RunI (S0 S : St) (col : Col) (vc vf vo : Value) (cs : List Int) (fl : List Msg) (rs : List RStep) (rl : List Step) : Prop :=
  Floor col S0 S ∧ OwnK S col 1 vc cs ∧ cs.length = 4 ∧ OwnK S col 2 vf fl ∧ (∀ m ∈ fl, m.copy = 0) ∧ fl.length ≤ 2 * rs.length ∧ OwnK S col 3 vo rs ∧ MadeS S col rs rl

theorem tailOut {S0 S : St} {col : Col} {v vc vf vo : Value} {cs : List Int} {fl : List Msg} {rs : List RStep} {rl : List Step} {bx bc i : Nat} {r : RStep} {q1 q2 q3 n : Int} {sent : List Msg} {asks : List Ask} {fe : FEnv} (h : Mid S0 S col vc vf vo cs fl rs rl bx bc r q1 q2 q3 sent asks) (hf : FeR fe v vo vc vf i n bx bc) (hrs : rs.length ≤ 20) (hsl : sent.length ≤ 2) (hal : asks.length ≤ 1) :
    XW Try.prog (XCode.part [true, true, true] tailP) fe S fun e fe' S' => e = .normal ∧ ∃ vo' col' r' s', FeR fe' v vo' vc vf i n bx bc ∧ RunI S0 S' col' vc vf vo' cs fl (rs ++ [r']) (rl ++ [s']) := by
  obtain ⟨h0, h1, h5, h7, h8, h9, h11, h12, h6⟩ := hf
  simp (decide := true) only [tailP, XCode.part, xf10, ↓reduceIte, Bool.false_eq_true]
  have x3 : Ext S (S.alloc (.cells r.cs 41 11 true [])) := Ext.alloc _ _
  have rd3 := RdS.one S r 41
  change RdS (S.alloc (.cells r.cs 41 11 true [])) _ _ at rd3
  have m3 := h.mono x3
  generalize hX3 : S.alloc (.cells r.cs 41 11 true []) = X3 at x3 rd3 m3
  obtain ⟨w, X4, c4, e4, o4, k4, _⟩ := m3.oo.append rd3 41 120 (reach_le (by simp; omega)) (by decide)
  have e4' : xappend 41 11 120 vo (.slice (some ⟨S.next, 0, none⟩) 1 1) X3 = some (w, X4) := e4
  simp (decide := true) only [↓symD, symU, ↓XW_cond, Nat.reduceEqDiff, List.zip_cons_cons, List.zip_nil_left, Option.bind_some, Option.map_some, Option.map_none, List.map_toArray, List.map_cons, List.map_nil, ne_eq, List.append_toArray, List.nil_append, List.cons_append, List.append_nil, fillL, splice, rep, List.replicate_succ, List.replicate_zero, List.flatten_cons, List.flatten_nil, List.append_nil, List.nil_append, List.cons_append, Value.cells, List.append_assoc, and_self, true_and, and_true, List.size_toArray, List.length_cons, List.length_nil, Nat.zero_add, ↓reduceIte, List.take_zero, List.drop_zero, List.drop_succ_cons, List.take_succ_cons, Nat.reduceAdd, Nat.reduceLeDiff, Nat.reduceEqDiff, allOne_int, allOne_nil, List.toList_toArray, blkOf_ptr, Nat.add_zero, h5, h11, h.bk.1, rdStep, part1_agg, step_len, tkStep, allOne_step, hX3, e4']
  refine ⟨w, c4, r, ⟨r.ev, asks, r.obs, sent⟩, ?_, ?_⟩
  · simp (decide := true) only [FeR, ↓symD, symU, ↓XW_cond, Nat.reduceEqDiff, List.zip_cons_cons, List.zip_nil_left, Option.bind_some, Option.map_some, Option.map_none, List.map_toArray, List.map_cons, List.map_nil, ne_eq, List.append_toArray, List.nil_append, List.cons_append, List.append_nil, h0, h1, h5, h6, h7, h8, h9, h11, h12, and_self]
  · have hfl := m3.fll
    refine ⟨m3.fr.chg k4 (by decide), m3.oc.keep k4 (by decide), m3.cl, m3.of.keep k4 (by decide), m3.fc, by simp; omega, o4, ?_⟩
    exact (m3.md.keep k4 (by omega)).add rfl rfl (m3.os.keep k4 (by omega)) (m3.oa.keep k4 (by omega)) ⟨hsl, hal, m3.sc⟩

theorem tail_any {S0 S : St} {col : Col} {v vc vf vo : Value} {cs : List Int} {fl : List Msg} {rs : List RStep} {rl : List Step} {bx bc i : Nat} {r : RStep} {q1 q2 q3 n : Int} {fe : FEnv} (h : Mid S0 S col vc vf vo cs fl rs rl bx bc r q1 q2 q3 [] []) (hf : FeR fe v vo vc vf i n bx bc) (hn : 0 ≤ n ∧ n < 10000000) (hrs : rs.length ≤ 20) :
    XW Try.prog tailP fe S fun e fe' S' => e = .normal ∧ ∃ vo' vf' col' fl' r' s', FeR fe' v vo' vc vf' i n bx bc ∧ RunI S0 S' col' vc vf' vo' cs fl' (rs ++ [r']) (rl ++ [s']) := by
  have e : tailP = .seq (XCode.part [false] tailP) (.seq (XCode.part [true, false] tailP) (.seq (XCode.part [true, true, false] tailP) (XCode.part [true, true, true] tailP))) := by rfl
  rw [e]
  refine XW_cut _ (tailObs h hf hn) ?_
  rintro fe S ⟨hf, r, h⟩
  refine XW_cut _ (tailSend h hf hn hrs) ?_
  rintro fe S ⟨vf, col, fl, r, sent, hf, hsl, h⟩
  refine XW_cut _ (tailAsk h hf hn) ?_
  rintro fe S ⟨hf, col, r, asks, hal, h⟩
  refine XW.mono ?_ (tailOut h hf hrs hsl hal)
  rintro e fe S ⟨rfl, vo, col, r, s, hf, h⟩
  exact ⟨rfl, vo, vf, col, fl, r, s, hf, h⟩
end
end Go.Proofs.Ytolfpchcmiljpaa

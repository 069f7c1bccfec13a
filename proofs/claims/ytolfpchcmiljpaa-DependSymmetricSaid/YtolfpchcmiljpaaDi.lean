/- What lies in memory while an order is made. -/
import Derived.Test.YtolfpchcmiljpaaDh
set_option linter.unusedSimpArgs false
set_option linter.unusedSectionVars false
set_option maxRecDepth 10000
namespace Go.Proofs.Ytolfpchcmiljpaa
open Go Go.RowKit

theorem ia0 (id : Nat) : iaArrv 2 1 (.pointer (some ⟨id, 0, none⟩)) (.int .i64 0) = some (.pointer (some ⟨id, 0, none⟩)) := by simp [iaArrv]
theorem ia1 (id : Nat) : iaArrv 2 1 (.pointer (some ⟨id, 0, none⟩)) (.int .i64 1) = some (.pointer (some ⟨id, 1, none⟩)) := by simp [iaArrv]
theorem rdP0 (p : Nat × Nat) (t : TypeId) (mi : Bool) (an : List Nat) : (Blk.cells (pairCs p) t 2 mi an).rd 0 1 = some [.int .i64 (p.1 : Int)] := Eq.trans rfl rfl
theorem rdP1 (p : Nat × Nat) (t : TypeId) (mi : Bool) (an : List Nat) : (Blk.cells (pairCs p) t 2 mi an).rd 1 1 = some [.int .i64 (p.2 : Int)] := Eq.trans rfl rfl
theorem rdBox (v : Value) (t : TypeId) (mi : Bool) (an : List Nat) : (Blk.cells [v] t 1 mi an).rd 0 1 = some [v] := Eq.trans rfl rfl
theorem stBox (u v : Value) (t : TypeId) : stv 1 [v] 0 (.cells [u] t 1 true []) = some ([v], t, 1, []) := Eq.trans rfl rfl
theorem stPair (p : Nat × Nat) (t : TypeId) : stv 2 (pairCs p) 0 (.cells [.int .i64 0, .int .i64 0] t 2 true []) = some (pairCs p, t, 2, []) := Eq.trans rfl rfl
theorem cells_zp : (Value.agg #[.int .i64 0, .int .i64 0]).cells.toList = [.int .i64 0, .int .i64 0] := by simp [Value.cells]

theorem RdS.pairs {S : St} {v : Value} {l : List (Nat × Nat)} (h : RdS S v l) (i : Nat) (hi : i < l.length) : ∃ id o, iav 2 v (.int .i64 i) = some (.pointer (some ⟨id, o, none⟩)) ∧ id < S.next ∧ (S.get id).rd o 2 = some (pairCs l[i]) := h.get .i64 i hi

/-- the lists of followers. -/
structure PN (S0 S : St) (col : Col) (n idn inx : Nat) (adj : Nat → List Nat) (vN : Value) (xs : List SV) : Prop where
  fl : Floor col S0 S
  bn : BoxK S col 1 idn [.int .i64 (n : Int)] 3 1
  bx : BoxK S col 2 inx [vN] 81 1
  own : OwnK S col 3 vN xs
  len : xs.length = n
  inn : ∀ i (h : i < xs.length), OwnK S col (10 + 2 * i) xs[i].v (adj i)
theorem PN.chgP {S0 S S' : St} {col col' : Col} {n idn inx : Nat} {adj : Nat → List Nat} {vN : Value} {xs : List SV} {C : Nat → Prop} (h : PN S0 S col n idn inx adj vN xs) (k : ChgP col C S col' S') (h0 : ∀ c, c < 4 → ¬ C c) (h1 : ∀ i, ¬ C (10 + 2 * i)) : PN S0 S' col' n idn inx adj vN xs :=
  ⟨h.fl.chgP k (h0 0 (by decide)), h.bn.keepP k (h0 1 (by decide)), h.bx.keepP k (h0 2 (by decide)), h.own.keepP k (h0 3 (by decide)), h.len, fun i hi => (h.inn i hi).keepP k (h1 i)⟩
theorem PN.chg {S0 S S' : St} {col col' : Col} {n idn inx c : Nat} {adj : Nat → List Nat} {vN : Value} {xs : List SV} (h : PN S0 S col n idn inx adj vN xs) (k : Chg col c S col' S') (hc : 4 ≤ c) (hc2 : c < 10) : PN S0 S' col' n idn inx adj vN xs :=
  h.chgP (k.toP (C := fun x => x = c) rfl) (fun d hd e => by omega) (fun i e => by omega)
theorem PN.mono {S0 S S' : St} {col : Col} {n idn inx : Nat} {adj : Nat → List Nat} {vN : Value} {xs : List SV} (h : PN S0 S col n idn inx adj vN xs) (k : Ext S S') : PN S0 S' col n idn inx adj vN xs :=
  ⟨h.fl.mono k, h.bn.mono k, h.bx.mono k, h.own.mono k, h.len, fun i hi => (h.inn i hi).mono k⟩
theorem PN.push {S0 S : St} {col : Col} {n idn inx : Nat} {adj : Nat → List Nat} {vN : Value} {xs : List SV} (h : PN S0 S col n idn inx adj vN xs) (i k : Nat) (hi : i < xs.length) (x : Value) (hx : RdS S x [k]) (hr : (adj i).length < 1000000)
    {id o : Nat} (hia : iav 1 vN (.int .i64 i) = some (.pointer (some ⟨id, o, none⟩))) :
    ∃ r S1 cs t z an col1 xs', xappend 3 1 8 xs[i].v x S = some (r, S1) ∧ ExtL S S1 ∧ boxc r = some [r] ∧ stv 1 [r] o (S1.get id) = some (cs, t, z, an) ∧
      ChgP col (fun c => c = 3 ∨ c = 10 + 2 * i) S col1 S1 ∧ ChgP col (fun c => c = 3 ∨ c = 10 + 2 * i) S col1 (S1.write id cs t z an) ∧
      PN S0 (S1.write id cs t z an) col1 n idn inx (fun j => if j = i then adj i ++ [k] else adj j) vN xs' := by
  obtain ⟨r, S1, col1, a1, a2, a3, a4⟩ := (h.inn i hi).append hx 3 8 (by simp [reach]; omega) (by decide)
  have own1 := h.own.keep a3 (by omega)
  obtain ⟨s, rfl⟩ := a2.rd.sv
  obtain ⟨id', o', cs, t, z, an, b1, b2, b3, b4, b5⟩ := own1.store i hi s
  obtain ⟨rfl, rfl⟩ : id' = id ∧ o' = o := by
    have := hia.symm.trans b1
    simp only [Option.some.injEq, Value.pointer.injEq, Addr.mk.injEq, and_true] at this
    exact ⟨this.1.symm, this.2.symm⟩
  have q1 : ChgP col (fun c => c = 3 ∨ c = 10 + 2 * i) S col1 S1 := a3.toP (.inr rfl)
  refine ⟨s.v, S1, cs, t, z, an, col1, xs.set i s, a1, a4, a2.boxc, b2, q1, q1.trans (b4.toP (.inl rfl)), ?_⟩
  refine ⟨(h.fl.chg a3 (by omega)).chg b4 (by omega), (h.bn.keep a3 (by omega)).keep b4 (by omega), (h.bx.keep a3 (by omega)).keep b4 (by omega), b3, by simpa using h.len, fun j hj => ?_⟩
  have hj' : j < xs.length := by simpa using hj
  by_cases e : j = i
  · subst e
    rw [if_pos rfl, List.getElem_set_self]
    exact a2.keep b4 (by omega)
  · rw [if_neg e, List.getElem_set_ne (Ne.symm e)]
    exact ((h.inn j hj').keep a3 (by omega)).keep b4 (by omega)
theorem encs_nils (n : Nat) : rep n [Value.slice none 0 0] = encs (List.replicate n (⟨none, 0, 0⟩ : SV)) := rep_encs (⟨none, 0, 0⟩ : SV) n
theorem encs_zeros (n : Nat) : rep n [Value.int .i64 0] = encs (List.replicate n (0 : Nat)) := rep_encs (0 : Nat) n
theorem PN.start (S0 : St) (n : Nat) : ∀ S1, S1 = ((((S0.alloc (.cells [.int .i64 (n : Int)] 3 1 true [])).alloc (.cells (rep n [.slice none 0 0]) 22 1 true [])).alloc (.cells [.slice none 0 0] 81 1 true [])).write (S0.next + 2) [.slice (some ⟨S0.next + 1, 0, none⟩) n n] 81 1 []).alloc (.cells (rep n [.int .i64 0]) 3 1 true []) →
    ∃ col, PN S0 S1 col n S0.next (S0.next + 2) (fun _ => []) (.slice (some ⟨S0.next + 1, 0, none⟩) n n) (List.replicate n (⟨none, 0, 0⟩ : SV)) ∧ OwnK S1 col 4 (.slice (some ⟨S0.next + 3, 0, none⟩) n n) (List.replicate n (0 : Nat)) ∧ S0.next + 4 ≤ S1.next := by
  intro S1 hS1
  have b1 := BoxK.alloc S0 (fun _ => 0) 1 9 [.int .i64 (n : Int)] 3 1
  have f1 := (Floor.start S0 S0 (Ext.refl _)).chg b1.2 (by decide)
  generalize hA : S0.alloc (.cells [.int .i64 (n : Int)] 3 1 true []) = SA at *
  have nA : SA.next = S0.next + 1 := by rw [← hA]; rfl
  have b2 := OwnK.made SA (paint (fun _ => 0) S0 1) 3 9 (List.replicate n (⟨none, 0, 0⟩ : SV)) 22 n (by simp) _ (encs_nils n)
  change OwnK (SA.alloc (.cells (rep n [.slice none 0 0]) 22 1 true [])) _ 3 _ _ ∧ Chg _ 9 SA _ (SA.alloc (.cells (rep n [.slice none 0 0]) 22 1 true [])) at b2
  generalize hc2 : paint (paint (fun _ => 0) S0 1) SA 3 = col2 at *
  generalize hB : SA.alloc (.cells (rep n [.slice none 0 0]) 22 1 true []) = SB at *
  have nB : SB.next = S0.next + 2 := by rw [← hB]; simp [nA]
  have b3 := BoxK.alloc SB col2 2 9 [.slice none 0 0] 81 1
  generalize hc3 : paint col2 SB 2 = col3 at *
  generalize hC : SB.alloc (.cells [.slice none 0 0] 81 1 true []) = SC at *
  have nC : SC.next = S0.next + 3 := by rw [← hC]; simp [nB]
  have b4 := b3.1.write [.slice (some ⟨S0.next + 1, 0, none⟩) n n]
  rw [nB] at b4
  generalize hD : SC.write (S0.next + 2) [.slice (some ⟨S0.next + 1, 0, none⟩) n n] 81 1 [] = SD at *
  have nD : SD.next = S0.next + 3 := by rw [← hD]; simp [nC]
  have b5 := OwnK.made SD col3 4 9 (List.replicate n (0 : Nat)) 3 n (by simp) _ (encs_zeros n)
  change OwnK (SD.alloc (.cells (rep n [.int .i64 0]) 3 1 true [])) _ 4 _ _ ∧ Chg _ 9 SD _ (SD.alloc (.cells (rep n [.int .i64 0]) 3 1 true [])) at b5
  rw [← hS1] at b5
  have nE : S1.next = S0.next + 4 := by rw [hS1]; simp [nD]
  rw [nD] at b5
  rw [nA] at b2
  refine ⟨_, ⟨(((f1.chg b2.2 (by decide)).chg b3.2 (by decide)).chg b4.2 (by decide)).chg b5.2 (by decide), (((b1.1.keep b2.2 (by decide)).keep b3.2 (by decide)).keep b4.2 (by decide)).keep b5.2 (by decide), b4.1.keep b5.2 (by decide), ((b2.1.keep b3.2 (by decide)).keep b4.2 (by decide)).keep b5.2 (by decide), by simp, fun i h => ?_⟩, b5.1, by omega⟩
  rw [List.getElem_replicate]
  exact OwnK.nil _ _ _
theorem PN.adj_eq {S0 S : St} {col : Col} {n idn inx : Nat} {adj adj' : Nat → List Nat} {vN : Value} {xs : List SV} (h : PN S0 S col n idn inx adj vN xs) (e : ∀ i, adj i = adj' i) : PN S0 S col n idn inx adj' vN xs := by
  obtain rfl : adj = adj' := funext e
  exact h
/-- a list that counts, with one more. -/
theorem counts_inc {ps : Pairs} {ws : List Nat} {p : Nat × Nat} (hp : p.2 < ws.length) (h : ∀ b (hb : b < ws.length), ws[b] = inc ps b) : ∀ b (hb : b < (ws.set p.2 (ws[p.2] + 1)).length), (ws.set p.2 (ws[p.2] + 1))[b] = inc (ps ++ [p]) b := by
  intro b hb
  have hb' : b < ws.length := by simpa using hb
  rw [List.getElem_set, inc_append]
  split
  · rename_i e; subst e; rw [h _ hp]
  · rw [h _ hb']
theorem take_snoc {α : Type} (l : List α) (i : Nat) (h : i < l.length) : l.take (i + 1) = l.take i ++ [l[i]] := by
  rw [List.take_add_one, List.getElem?_eq_getElem h]; rfl
/-- the numbers of a list, as a function. -/
def fnOf (ws : List Nat) (b : Nat) : Int := ((ws[b]?.getD 0 : Nat) : Int)
theorem fnOf_get {ws : List Nat} {b : Nat} (h : b < ws.length) : fnOf ws b = (ws[b] : Int) := by simp [fnOf, List.getElem?_eq_getElem h]
theorem fnOf_set {ws : List Nat} {b : Nat} (h : b < ws.length) (h1 : 1 ≤ ws[b]) (c : Nat) (hc : c < ws.length) : fnOf (ws.set b (ws[b] - 1)) c = if c = b then fnOf ws b - 1 else fnOf ws c := by
  rw [fnOf_get (by simpa using hc), List.getElem_set]
  by_cases e : c = b
  · subst e; rw [if_pos rfl, if_pos rfl, fnOf_get hc]; omega
  · rw [if_neg (Ne.symm e), if_neg e, fnOf_get hc]
theorem nxt_length (ps : Pairs) (a : Nat) : (nxt ps a).length ≤ ps.length := by
  unfold nxt; rw [List.length_map]; exact List.length_filter_le _ _
theorem KI.le {ps : Pairs} {n k : Nat} {R rem : List Nat} {w : Nat → Int} (h : KI ps n k R w rem) : R.length ≤ n := by
  have := nodup_le R (List.range n) h.nodup (fun x hx => by simpa using h.lt x hx)
  simpa using this
theorem KI.wle {ps : Pairs} {n k : Nat} {R rem : List Nat} {w : Nat → Int} (h : KI ps n k R w rem) (b : Nat) (hb : b < n) : w b ≤ (ps.length + rem.length : Nat) := by
  rw [h.cnt b hb]
  have h1 := List.countP_le_length (l := ps) (p := fun p => p.2 == b && !(decide (p.1 ∈ R.take k)))
  have h2 := List.count_le_length (a := b) (l := rem)
  omega
theorem KI.pos {ps : Pairs} {n k b : Nat} {R rem : List Nat} {w : Nat → Int} (h : KI ps n k R w (b :: rem)) (hb : b < n) : 1 ≤ w b := by
  rw [h.cnt b hb, List.count_cons_self]; omega
end Go.Proofs.Ytolfpchcmiljpaa

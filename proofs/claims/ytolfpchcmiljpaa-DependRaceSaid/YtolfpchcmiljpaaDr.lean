/- The reference's happens-before order as a matrix. -/
import Derived.Test.YtolfpchcmiljpaaDq
set_option linter.unusedSimpArgs false
set_option linter.unusedSectionVars false
set_option maxRecDepth 10000
namespace Go.Proofs.Ytolfpchcmiljpaa
open Go Go.RowKit

instance : Enc Bool := ⟨1, fun b => [.bool b], fun _ => rfl, fun _ => rfl, by decide⟩
theorem RdS.bools {S : St} {v : Value} {l : List Bool} (h : RdS S v l) (i : Nat) (hi : i < l.length) : ∃ id o, iav 1 v (.int .i64 i) = some (.pointer (some ⟨id, o, none⟩)) ∧ id < S.next ∧ (S.get id).rd o 1 = some [.bool l[i]] := h.get .i64 i hi

/-- a matrix in memory. -/
def Mat (S : St) (v : Value) (n : Nat) (ps : Pairs) : Prop := ∃ xs : List SV, RdS S v xs ∧ xs.length = n ∧ ∀ i (h : i < xs.length), ∃ row : List Bool, RdS S xs[i].v row ∧ row.length = n ∧ ∀ j (hj : j < row.length), row[j] = true ↔ Rch ps i j
theorem Mat.mono {S S' : St} {v : Value} {n : Nat} {ps : Pairs} (h : Mat S v n ps) (hx : Ext S S') : Mat S' v n ps := by
  obtain ⟨xs, h1, h2, h3⟩ := h
  refine ⟨xs, h1.mono hx, h2, fun i hi => ?_⟩
  obtain ⟨row, k1, k2⟩ := h3 i hi
  exact ⟨row, k1.mono hx, k2⟩
theorem Mat.cell {S : St} {v : Value} {n : Nat} {ps : Pairs} (h : Mat S v n ps) {i j : Nat} (hi : i < n) (hj : j < n) : ∃ id o w id2 o2 b, iav 1 v (.int .i64 i) = some (.pointer (some ⟨id, o, none⟩)) ∧ id < S.next ∧ (S.get id).rd o 1 = some [w] ∧ iav 1 w (.int .i64 j) = some (.pointer (some ⟨id2, o2, none⟩)) ∧ id2 < S.next ∧ (S.get id2).rd o2 1 = some [.bool b] ∧ (b = true ↔ Rch ps i j) := by
  obtain ⟨xs, h1, h2, h3⟩ := h
  obtain ⟨id, o, a1, a2, a3⟩ := h1.svs i (by omega)
  obtain ⟨row, k1, k2, k3⟩ := h3 i (by omega)
  obtain ⟨id2, o2, b1, b2, b3⟩ := k1.bools j (by omega)
  exact ⟨id, o, _, id2, o2, _, a1, a2, a3, b1, b2, b3, k3 j (by omega)⟩

/-- the rows from lo on are made. -/
structure LessI (S0 S : St) (col : Col) (vx : Value) (xs : List SV) (n lo : Nat) (ps : Pairs) : Prop where
  fr : Floor col S0 S
  ox : OwnK S col 1 vx xs
  xl : xs.length = n
  rows : ∀ i, lo ≤ i → ∀ (h : i < xs.length), ∃ row : List Bool, OwnK S col (2 + i) xs[i].v row ∧ row.length = n ∧ ∀ j (hj : j < row.length), row[j] = true ↔ Rch ps i j
theorem LessI.mat {S0 S : St} {col : Col} {vx : Value} {xs : List SV} {n : Nat} {ps : Pairs} (h : LessI S0 S col vx xs n 0 ps) : Mat S vx n ps :=
  ⟨xs, h.ox.rd, h.xl, fun i hi => by
    obtain ⟨row, k1, k2⟩ := h.rows i (by omega) hi
    exact ⟨row, k1.rd, k2⟩⟩
theorem LessI.mono {S0 S S' : St} {col : Col} {vx : Value} {xs : List SV} {n lo : Nat} {ps : Pairs} (h : LessI S0 S col vx xs n lo ps) (k : Ext S S') : LessI S0 S' col vx xs n lo ps :=
  ⟨h.fr.mono k, h.ox.mono k, h.xl, fun i h1 h2 => by
    obtain ⟨row, k1, k2⟩ := h.rows i h1 h2
    exact ⟨row, k1.mono k, k2⟩⟩
/-- .. and a row is under way. -/
structure RowI (S0 S : St) (col : Col) (vx : Value) (xs : List SV) (n i : Nat) (ps : Pairs) (f : Nat → Prop) : Prop where
  on : LessI S0 S col vx xs n (i + 1) ps
  row : ∃ (h : i < xs.length) (row : List Bool), OwnK S col (2 + i) xs[i].v row ∧ row.length = n ∧ ∀ j (hj : j < row.length), row[j] = true ↔ f j
theorem RowI.mono {S0 S S' : St} {col : Col} {vx : Value} {xs : List SV} {n i : Nat} {ps : Pairs} {f : Nat → Prop} (h : RowI S0 S col vx xs n i ps f) (k : Ext S S') : RowI S0 S' col vx xs n i ps f := by
  obtain ⟨h1, h2, row, h3, h4⟩ := h
  exact ⟨h1.mono k, h2, row, h3.mono k, h4⟩
theorem RowI.imp {S0 S : St} {col : Col} {vx : Value} {xs : List SV} {n i : Nat} {ps : Pairs} {f f' : Nat → Prop} (h : RowI S0 S col vx xs n i ps f) (k : ∀ j, j < n → (f j ↔ f' j)) : RowI S0 S col vx xs n i ps f' := by
  obtain ⟨h1, h2, row, h3, h4, h5⟩ := h
  exact ⟨h1, h2, row, h3, h4, fun j hj => (h5 j hj).trans (k j (by omega))⟩
theorem RowI.done {S0 S : St} {col : Col} {vx : Value} {xs : List SV} {n i : Nat} {ps : Pairs} (h : RowI S0 S col vx xs n i ps (Rch ps i)) : LessI S0 S col vx xs n i ps := by
  obtain ⟨h1, h2, row, h3, h4⟩ := h
  refine ⟨h1.fr, h1.ox, h1.xl, fun i' k1 k2 => ?_⟩
  by_cases e : i' = i
  · subst e; exact ⟨row, h3, h4⟩
  · exact h1.rows i' (by omega) k2
theorem RowI.read {S0 S : St} {col : Col} {vx : Value} {xs : List SV} {n i : Nat} {ps : Pairs} {f : Nat → Prop} (h : RowI S0 S col vx xs n i ps f) {j : Nat} (hj : j < n) : ∃ id o w id2 o2 b, iav 1 vx (.int .i64 i) = some (.pointer (some ⟨id, o, none⟩)) ∧ (S.get id).rd o 1 = some [w] ∧ iav 1 w (.int .i64 j) = some (.pointer (some ⟨id2, o2, none⟩)) ∧ (S.get id2).rd o2 1 = some [.bool b] ∧ (b = true ↔ f j) ∧
    ∀ q : Bool, ∃ cs t z an, stv 1 [.bool q] o2 (S.get id2) = some (cs, t, z, an) ∧ RowI S0 (S.write id2 cs t z an) col vx xs n i ps (fun j' => if j' = j then q = true else f j') := by
  obtain ⟨h1, h2, row, h3, h4, h5⟩ := h
  obtain ⟨id, o, a1, a2, a3⟩ := h1.ox.rd.svs i h2
  obtain ⟨id2, o2, b1, b2, b3⟩ := h3.rd.bools j (by omega)
  refine ⟨id, o, _, id2, o2, _, a1, a3, b1, b3, h5 j (by omega), fun q => ?_⟩
  obtain ⟨id', o', cs, t, z, an, c1, c2, c3, c4, c5⟩ := h3.store j (by omega) q
  have c1' : iav 1 xs[i].v (.int .i64 j) = some (.pointer (some ⟨id', o', none⟩)) := c1
  rw [b1] at c1'
  obtain ⟨rfl, rfl⟩ : id2 = id' ∧ o2 = o' := by
    simp only [Option.some.injEq, Value.pointer.injEq, Addr.mk.injEq, and_true] at c1'
    exact c1'
  refine ⟨cs, t, z, an, c2, ⟨h1.fr.chg c4 (by omega), h1.ox.keep c4 (by omega), h1.xl, fun i' k1 k2 => ?_⟩, h2, _, c3, by simpa using h4, fun j' hj' => ?_⟩
  · obtain ⟨row', k3, k4⟩ := h1.rows i' k1 k2
    exact ⟨row', k3.keep c4 (by omega), k4⟩
  · have hj2 : j' < row.length := by simpa using hj'
    rw [List.getElem_set]
    by_cases e : j = j'
    · subst e; simp
    · rw [if_neg e, if_neg (fun h => e h.symm)]
      exact h5 j' hj2
theorem LessI.other {S0 S : St} {col : Col} {vx : Value} {xs : List SV} {n lo : Nat} {ps : Pairs} (h : LessI S0 S col vx xs n lo ps) {k j : Nat} (hk : lo ≤ k) (hkn : k < n) (hj : j < n) : ∃ id o w id2 o2 b, iav 1 vx (.int .i64 k) = some (.pointer (some ⟨id, o, none⟩)) ∧ (S.get id).rd o 1 = some [w] ∧ iav 1 w (.int .i64 j) = some (.pointer (some ⟨id2, o2, none⟩)) ∧ (S.get id2).rd o2 1 = some [.bool b] ∧ (b = true ↔ Rch ps k j) := by
  have hxl := h.xl
  obtain ⟨id, o, a1, a2, a3⟩ := h.ox.rd.svs k (by omega)
  obtain ⟨row, h3, h4, h5⟩ := h.rows k hk (by omega)
  obtain ⟨id2, o2, b1, b2, b3⟩ := h3.rd.bools j (by omega)
  exact ⟨id, o, _, id2, o2, _, a1, a3, b1, b3, h5 j (by omega)⟩
/-- a row begins. -/
theorem LessI.begin {S0 S : St} {col : Col} {vx : Value} {xs : List SV} {n i : Nat} {ps : Pairs} (h : LessI S0 S col vx xs n (i + 1) ps) (hi : i < n) (t : TypeId) : ∃ id o cs t' z an col', iav 1 vx (.int .i64 i) = some (.pointer (some ⟨id, o, none⟩)) ∧
    stv 1 [.slice (some ⟨S.next, 0, none⟩) n n] o ((S.alloc (.cells (rep n [.bool false]) t 1 true [])).get id) = some (cs, t', z, an) ∧ ∃ xs', RowI S0 ((S.alloc (.cells (rep n [.bool false]) t 1 true [])).write id cs t' z an) col' vx xs' n i ps (fun _ => False) := by
  have hxl := h.xl
  have m := OwnK.made S col (2 + i) (2 + i) (List.replicate n false) t n (by simp) (rep n [.bool false]) (rep_encs false n)
  change OwnK (S.alloc (.cells (rep n [.bool false]) t 1 true [])) _ _ _ _ ∧ Chg _ _ _ _ (S.alloc (.cells (rep n [.bool false]) t 1 true [])) at m
  have ox := h.ox.keep m.2 (by omega)
  have fr := h.fr.chg m.2 (by omega)
  have rows : ∀ i', i + 1 ≤ i' → ∀ (h : i' < xs.length), ∃ row : List Bool, OwnK (S.alloc (.cells (rep n [.bool false]) t 1 true [])) (paint col S (2 + i)) (2 + i') xs[i'].v row ∧ row.length = n ∧ ∀ j (hj : j < row.length), row[j] = true ↔ Rch ps i' j := fun i' k1 k2 => by
    obtain ⟨row', k3, k4⟩ := h.rows i' k1 k2
    exact ⟨row', k3.keep m.2 (by omega), k4⟩
  generalize S.alloc (.cells (rep n [.bool false]) t 1 true []) = SA at m ox fr rows ⊢
  generalize paint col S (2 + i) = colA at m ox fr rows
  obtain ⟨id, o, cs, t', z, an, c1, c2, c3, c4, c5⟩ := ox.store i (by omega) (⟨some ⟨S.next, 0, none⟩, n, n⟩ : SV)
  refine ⟨id, o, cs, t', z, an, colA, c1, c2, _, ⟨fr.chg c4 (by omega), c3, by simpa using hxl, fun i' k1 k2 => ?_⟩, by simpa using (by omega), List.replicate n false, ?_, by simp, by simp⟩
  · obtain ⟨row', k3, k4⟩ := rows i' k1 (by simpa using k2)
    refine ⟨row', ?_, k4⟩
    rw [List.getElem_set_ne (by omega)]
    exact k3.keep c4 (by omega)
  · rw [List.getElem_set_self]
    exact m.1.keep c4 (by omega)

/-- what is known of a row when the elements below k are done. -/
def PK (l : List Step) (i k j : Nat) : Prop := ∃ b, i < b ∧ b < k ∧ dp l i b = true ∧ (j = b ∨ Rch (depPairs l) b j)
theorem PK.start (l : List Step) (i j : Nat) : False ↔ PK l i (i + 1) j := ⟨False.elim, fun ⟨b, h1, h2, _⟩ => by omega⟩
theorem PK.skip {l : List Step} {i k : Nat} (h : dp l i k = false) (j : Nat) : PK l i k j ↔ PK l i (k + 1) j := by
  constructor
  · rintro ⟨b, h1, h2, h3⟩; exact ⟨b, h1, by omega, h3⟩
  · rintro ⟨b, h1, h2, h3, h4⟩
    refine ⟨b, h1, ?_, h3, h4⟩
    rcases Nat.lt_or_ge b k with h5 | h5
    · exact h5
    · obtain rfl : b = k := by omega
      rw [h] at h3; cases h3
theorem PK.next {l : List Step} {i k : Nat} (hik : i < k) (h : dp l i k = true) (j : Nat) : (PK l i k j ∨ j = k ∨ Rch (depPairs l) k j) ↔ PK l i (k + 1) j := by
  constructor
  · rintro (⟨b, h1, h2, h3⟩ | h1 | h1)
    · exact ⟨b, h1, by omega, h3⟩
    · exact ⟨k, hik, by omega, h, .inl h1⟩
    · exact ⟨k, hik, by omega, h, .inr h1⟩
  · rintro ⟨b, h1, h2, h3, h4⟩
    rcases Nat.lt_or_ge b k with h5 | h5
    · exact .inl ⟨b, h1, h5, h3, h4⟩
    · obtain rfl : b = k := by omega
      exact .inr h4
theorem PK.all {l : List Step} {i : Nat} (j : Nat) : PK l i l.length j ↔ Rch (depPairs l) i j := by
  rw [Rch.iff]
  constructor
  · rintro ⟨b, h1, h2, h3, h4⟩
    exact ⟨b, mem_nxt.2 ((mem_depPairs l _).2 ⟨h1, h2, h3⟩), h4⟩
  · rintro ⟨b, h1, h2⟩
    obtain ⟨h3, h4, h5⟩ := (mem_depPairs l _).1 (mem_nxt.1 h1)
    exact ⟨b, h3, h4, h5, h2⟩

section
variable [Prim Try.prog]

theorem refLess_any {v : Value} {l : List Step} {S0 : St} (hr : Run S0 v l) (hl : l.length ≤ 64) (hs : Sents l) :
    XC Try.prog 16 #[v] S0 fun r S' => Ext S0 S' ∧ Mat S' r l.length (depPairs l) := by
  refine XC_body XF16 ?_
  have k1 := mksv_ok 45 1 24 [.slice none 0 0] l.length S0 (reach_le (by omega)) (by decide) rfl (by simp [allOne, Value.oneCell'])
  have m1 := OwnK.made S0 (fun _ => 0) 1 1 (List.replicate l.length (⟨none, 0, 0⟩ : SV)) 45 l.length (by simp) (rep l.length [.slice none 0 0]) (rep_encs (⟨none, 0, 0⟩ : SV) _)
  change OwnK (S0.alloc (.cells (rep l.length [.slice none 0 0]) 45 1 true [])) _ _ _ _ ∧ Chg _ _ _ _ (S0.alloc (.cells (rep l.length [.slice none 0 0]) 45 1 true [])) at m1
  have f1 := (Floor.start S0 S0 (Ext.refl _)).chg m1.2 (by decide)
  generalize hA : S0.alloc (.cells (rep l.length [.slice none 0 0]) 45 1 true []) = SA at m1 f1 k1
  have wl : w64 ((l.length : Int) - 1) = (l.length : Int) - 1 := w64_sub1 _ (by omega)
  simp (decide := true) only [↓symD, symU, ↓XW_cond, Nat.reduceEqDiff, List.zip_cons_cons, List.zip_nil_left, Option.bind_some, Option.map_some, Option.map_none, List.map_toArray, List.map_cons, List.map_nil, ne_eq, List.append_toArray, List.nil_append, List.cons_append, List.append_nil, ↓XS_mkSlice, xf16, hr.len, k1, xbin_sub, wl]
  refine XW_loopR 0 (fun m fe S' => fe 0 = v ∧ fe 3 = .int .i64 l.length ∧ fe 4 = .slice (some ⟨S0.next, 0, none⟩) l.length l.length ∧ fe 5 = .int .i64 ((m : Int) - 1) ∧ m ≤ l.length ∧ ∃ col xs, LessI S0 S' col (.slice (some ⟨S0.next, 0, none⟩) l.length l.length) xs l.length m (depPairs l))
    (fun fe S' => fe 4 = .slice (some ⟨S0.next, 0, none⟩) l.length l.length ∧ ∃ col xs, LessI S0 S' col (.slice (some ⟨S0.next, 0, none⟩) l.length l.length) xs l.length 0 (depPairs l)) l.length ?_ ?_ ?_
  · simp (decide := true) only [↓symD, symU, ↓XW_cond, Nat.reduceEqDiff, List.zip_cons_cons, List.zip_nil_left, Option.bind_some, Option.map_some, Option.map_none, List.map_toArray, List.map_cons, List.map_nil, ne_eq, List.append_toArray, List.nil_append, List.cons_append, List.append_nil, true_and]
    exact ⟨Nat.le_refl _, _, _, f1, m1.1, by simp, fun i h1 h2 => by simp at h2; omega⟩
  · rintro m fe S1 ⟨h0, h3, h4, h5, hm, col, xs, hI⟩
    simp (decide := true) only [↓symD, symU, ↓XW_cond, Nat.reduceEqDiff, List.zip_cons_cons, List.zip_nil_left, Option.bind_some, Option.map_some, Option.map_none, List.map_toArray, List.map_cons, List.map_nil, ne_eq, List.append_toArray, List.nil_append, List.cons_append, List.append_nil, h5, xbin_geq]
    refine Test_dec (fun hge => ?_) (fun hlt => ?_)
    · obtain ⟨i, rfl⟩ : ∃ i, m = i + 1 := ⟨m - 1, by omega⟩
      have h5' : fe 5 = .int .i64 i := by rw [h5]; congr 1; omega
      clear h5
      have e5 : ((i + 1 : Nat) : Int) - 1 = (i : Int) := by omega
      have hi : i < l.length := by omega
      have k2 := mksv_ok 4 1 1 [.bool false] l.length S1 (reach_le (by omega)) (by decide) rfl (by simp [allOne, Value.oneCell'])
      obtain ⟨id, o, cs, t', z, an, colA, a1, a2, xs', hR⟩ := hI.begin hi 4
      have wi : w64 ((i : Int) + 1) = ((i + 1 : Nat) : Int) := w64_add1 i (by omega)
      simp (decide := true) only [↓symD, symU, ↓XW_cond, Nat.reduceEqDiff, List.zip_cons_cons, List.zip_nil_left, Option.bind_some, Option.map_some, Option.map_none, List.map_toArray, List.map_cons, List.map_nil, ne_eq, List.append_toArray, List.nil_append, List.cons_append, List.append_nil, ↓XS_mkSlice, h0, h3, h4, h5', e5, k2, a1, boxc_slice, blkOf_ptr, a2, xbin_add, wi]
      generalize (S1.alloc (.cells (rep l.length [.bool false]) 4 1 true [])).write id cs t' z an = S2 at hR ⊢
      clear a1 a2 k2 hI
      refine XW_loopR 2 (fun m2 fe S' => fe 0 = v ∧ fe 3 = .int .i64 l.length ∧ fe 4 = .slice (some ⟨S0.next, 0, none⟩) l.length l.length ∧ fe 5 = .int .i64 i ∧ ∃ k : Nat, fe 6 = .int .i64 k ∧ m2 + k = l.length ∧ i < k ∧ ∃ col xs, RowI S0 S' col (.slice (some ⟨S0.next, 0, none⟩) l.length l.length) xs l.length i (depPairs l) (PK l i k))
        (fun fe S' => fe 0 = v ∧ fe 3 = .int .i64 l.length ∧ fe 4 = .slice (some ⟨S0.next, 0, none⟩) l.length l.length ∧ fe 5 = .int .i64 i ∧ ∃ col xs, RowI S0 S' col (.slice (some ⟨S0.next, 0, none⟩) l.length l.length) xs l.length i (depPairs l) (PK l i l.length)) (l.length - (i + 1)) ?_ ?_ ?_
      · simp (decide := true) only [↓symD, symU, ↓XW_cond, Nat.reduceEqDiff, List.zip_cons_cons, List.zip_nil_left, Option.bind_some, Option.map_some, Option.map_none, List.map_toArray, List.map_cons, List.map_nil, ne_eq, List.append_toArray, List.nil_append, List.cons_append, List.append_nil, h0, h3, h4, h5', true_and]
        exact ⟨i + 1, rfl, by omega, by omega, colA, xs', hR.imp fun j _ => PK.start l i j⟩
      · clear h0 h3 h4 h5' hR
        rintro m2 fe S1 ⟨h0, h3, h4, h5, k, h6, hm2, hik, col, xs, hR⟩
        simp (decide := true) only [↓symD, symU, ↓XW_cond, Nat.reduceEqDiff, List.zip_cons_cons, List.zip_nil_left, Option.bind_some, Option.map_some, Option.map_none, List.map_toArray, List.map_cons, List.map_nil, ne_eq, List.append_toArray, List.nil_append, List.cons_append, List.append_nil, h3, h6, xbin_lss]
        refine Test_dec (fun hlt => ?_) (fun hge => ?_)
        · have hk : k < l.length := by omega
          have wk : w64 ((k : Int) + 1) = ((k + 1 : Nat) : Int) := w64_add1 k (by omega)
          obtain ⟨ia, oa, ra, a1, a2, a3, a4⟩ := (hr.mono hR.on.fr.ext).step i hi
          obtain ⟨ib, ob, rb, b1, b2, b3, b4⟩ := (hr.mono hR.on.fr.ext).step k hk
          simp (decide := true) only [↓symD, symU, ↓XW_cond, Nat.reduceEqDiff, List.zip_cons_cons, List.zip_nil_left, Option.bind_some, Option.map_some, Option.map_none, List.map_toArray, List.map_cons, List.map_nil, ne_eq, List.append_toArray, List.nil_append, List.cons_append, List.append_nil, h0, h5, h6, a1, a3, b1, b3, part1_agg]
          refine XCall.of (refDependent_any a4 b4 (hs i hi) (hs k hk)) ?_
          rintro _ S2 ⟨hx2, rfl⟩
          have hR := hR.mono hx2
          have hdp := dp_of hi hk
          cases hd : depP l[i] l[k] with
          | false =>
            simp (decide := true) only [↓symD, symU, ↓XW_cond, Nat.reduceEqDiff, List.zip_cons_cons, List.zip_nil_left, Option.bind_some, Option.map_some, Option.map_none, List.map_toArray, List.map_cons, List.map_nil, ne_eq, List.append_toArray, List.nil_append, List.cons_append, List.append_nil, Bool.not_false, h6, xbin_add, wk, h0, h3, h4, h5, true_and]
            exact ⟨m2 - 1, by omega, k + 1, rfl, by omega, by omega, col, xs, hR.imp fun j _ => PK.skip (by rw [hdp, hd]) j⟩
          | true =>
            obtain ⟨id, o, w, id2, o2, b, c1, c2, c3, c4, c5, c6⟩ := hR.read hk
            obtain ⟨cs, t, z, an, d1, hR1⟩ := c6 true
            simp (decide := true) only [↓symD, symU, ↓XW_cond, Nat.reduceEqDiff, List.zip_cons_cons, List.zip_nil_left, Option.bind_some, Option.map_some, Option.map_none, List.map_toArray, List.map_cons, List.map_nil, ne_eq, List.append_toArray, List.nil_append, List.cons_append, List.append_nil, Bool.not_true, h4, h5, h6, c1, c2, part1_one, c3, boxc_bool, blkOf_ptr, d1, xbin_add, wk]
            generalize S2.write id2 cs t z an = S3 at hR1 ⊢
            refine XW_loopR 4 (fun m3 fe S' => fe 0 = v ∧ fe 3 = .int .i64 l.length ∧ fe 4 = .slice (some ⟨S0.next, 0, none⟩) l.length l.length ∧ fe 5 = .int .i64 i ∧ fe 6 = .int .i64 k ∧ ∃ j : Nat, fe 7 = .int .i64 j ∧ m3 + j = l.length ∧ k < j ∧ ∃ col xs, RowI S0 S' col (.slice (some ⟨S0.next, 0, none⟩) l.length l.length) xs l.length i (depPairs l) (fun x => PK l i k x ∨ x = k ∨ (x < j ∧ Rch (depPairs l) k x)))
              (fun fe S' => fe 0 = v ∧ fe 3 = .int .i64 l.length ∧ fe 4 = .slice (some ⟨S0.next, 0, none⟩) l.length l.length ∧ fe 5 = .int .i64 i ∧ fe 6 = .int .i64 k ∧ ∃ col xs, RowI S0 S' col (.slice (some ⟨S0.next, 0, none⟩) l.length l.length) xs l.length i (depPairs l) (PK l i (k + 1))) (l.length - (k + 1)) ?_ ?_ ?_
            · simp (decide := true) only [↓symD, symU, ↓XW_cond, Nat.reduceEqDiff, List.zip_cons_cons, List.zip_nil_left, Option.bind_some, Option.map_some, Option.map_none, List.map_toArray, List.map_cons, List.map_nil, ne_eq, List.append_toArray, List.nil_append, List.cons_append, List.append_nil, h0, h3, h4, h5, h6, true_and]
              refine ⟨k + 1, rfl, by omega, by omega, col, xs, hR1.imp fun x _ => ?_⟩
              by_cases e : x = k
              · simp [e]
              · rw [if_neg e]
                constructor
                · exact .inl
                · rintro (h | h | ⟨h, h'⟩)
                  · exact h
                  · exact absurd h e
                  · have := (Rch.lt (up_depPairs l) h').1
                    omega
            · clear h0 h3 h4 h5 h6 hR hR1 c1 c2 c3 c4 c5 c6 d1
              rintro m3 fe S1 ⟨h0, h3, h4, h5, h6, j, h7, hm3, hkj, col, xs, hR⟩
              simp (decide := true) only [↓symD, symU, ↓XW_cond, Nat.reduceEqDiff, List.zip_cons_cons, List.zip_nil_left, Option.bind_some, Option.map_some, Option.map_none, List.map_toArray, List.map_cons, List.map_nil, ne_eq, List.append_toArray, List.nil_append, List.cons_append, List.append_nil, h3, h7, xbin_lss]
              refine Test_dec (fun hlt => ?_) (fun hge => ?_)
              · have hj : j < l.length := by omega
                have wj : w64 ((j : Int) + 1) = ((j + 1 : Nat) : Int) := w64_add1 j (by omega)
                obtain ⟨id, o, w, id2, o2, b, c1, c2, c3, c4, c5, c6⟩ := hR.read hj
                obtain ⟨id3, o3, w3, id4, o4, b4, d1, d2, d3, d4, d5⟩ := hR.on.other (k := k) hik hk hj
                obtain ⟨cs, t, z, an, g1, hR1⟩ := c6 (b || b4)
                cases b with
                | true =>
                  simp (decide := true) only [↓symD, symU, ↓XW_cond, Nat.reduceEqDiff, List.zip_cons_cons, List.zip_nil_left, Option.bind_some, Option.map_some, Option.map_none, List.map_toArray, List.map_cons, List.map_nil, ne_eq, List.append_toArray, List.nil_append, List.cons_append, List.append_nil, h0, h3, h4, h5, h6, h7, c1, c2, part1_one, c3, c4, Pick_undef]
                  rw [Bool.true_or] at g1 hR1
                  simp (decide := true) only [↓symD, symU, ↓XW_cond, Nat.reduceEqDiff, List.zip_cons_cons, List.zip_nil_left, Option.bind_some, Option.map_some, Option.map_none, List.map_toArray, List.map_cons, List.map_nil, ne_eq, List.append_toArray, List.nil_append, List.cons_append, List.append_nil, h0, h3, h4, h5, h6, h7, boxc_bool, blkOf_ptr, g1, xbin_add, wj, true_and]
                  refine ⟨m3 - 1, by omega, j + 1, rfl, by omega, by omega, col, xs, hR1.imp fun x _ => ?_⟩
                  by_cases e : x = j
                  · subst e
                    rw [if_pos rfl]
                    have := c5.1 rfl
                    constructor
                    · intro _
                      rcases this with h | h | ⟨h, h'⟩
                      · exact .inl h
                      · exact .inr (.inl h)
                      · omega
                    · intro _; rfl
                  · rw [if_neg e]
                    constructor
                    · rintro (h | h | ⟨h, h'⟩)
                      · exact .inl h
                      · exact .inr (.inl h)
                      · exact .inr (.inr ⟨by omega, h'⟩)
                    · rintro (h | h | ⟨h, h'⟩)
                      · exact .inl h
                      · exact .inr (.inl h)
                      · exact .inr (.inr ⟨by omega, h'⟩)
                | false =>
                  simp (decide := true) only [↓symD, symU, ↓XW_cond, Nat.reduceEqDiff, List.zip_cons_cons, List.zip_nil_left, Option.bind_some, Option.map_some, Option.map_none, List.map_toArray, List.map_cons, List.map_nil, ne_eq, List.append_toArray, List.nil_append, List.cons_append, List.append_nil, h0, h3, h4, h5, h6, h7, c1, c2, part1_one, c3, c4, d1, d2, d3, d4]
                  rw [Bool.false_or] at g1 hR1
                  simp (decide := true) only [↓symD, symU, ↓XW_cond, Nat.reduceEqDiff, List.zip_cons_cons, List.zip_nil_left, Option.bind_some, Option.map_some, Option.map_none, List.map_toArray, List.map_cons, List.map_nil, ne_eq, List.append_toArray, List.nil_append, List.cons_append, List.append_nil, h0, h3, h4, h5, h6, h7, boxc_bool, blkOf_ptr, g1, xbin_add, wj, true_and]
                  refine ⟨m3 - 1, by omega, j + 1, rfl, by omega, by omega, col, xs, hR1.imp fun x _ => ?_⟩
                  by_cases e : x = j
                  · subst e
                    rw [if_pos rfl, d5]
                    constructor
                    · intro h; exact .inr (.inr ⟨by omega, h⟩)
                    · rintro (h | h | ⟨h, h'⟩)
                      · exact absurd (c5.2 (.inl h)) (by simp)
                      · exact absurd (c5.2 (.inr (.inl h))) (by simp)
                      · exact h'
                  · rw [if_neg e]
                    constructor
                    · rintro (h | h | ⟨h, h'⟩)
                      · exact .inl h
                      · exact .inr (.inl h)
                      · exact .inr (.inr ⟨by omega, h'⟩)
                    · rintro (h | h | ⟨h, h'⟩)
                      · exact .inl h
                      · exact .inr (.inl h)
                      · exact .inr (.inr ⟨by omega, h'⟩)
              · simp (decide := true) only [↓symD, symU, ↓XW_cond, Nat.reduceEqDiff, List.zip_cons_cons, List.zip_nil_left, Option.bind_some, Option.map_some, Option.map_none, List.map_toArray, List.map_cons, List.map_nil, ne_eq, List.append_toArray, List.nil_append, List.cons_append, List.append_nil, h0, h3, h4, h5, h6, true_and]
                refine ⟨col, xs, hR.imp fun x hx => ?_⟩
                rw [← PK.next hik (by rw [hdp, hd])]
                constructor
                · rintro (h | h | ⟨h, h'⟩)
                  · exact .inl h
                  · exact .inr (.inl h)
                  · exact .inr (.inr h')
                · rintro (h | h | h')
                  · exact .inl h
                  · exact .inr (.inl h)
                  · exact .inr (.inr ⟨by omega, h'⟩)
            · rintro fe S1 ⟨h0, h3, h4, h5, h6, col, xs, hR⟩
              simp (decide := true) only [↓symD, symU, ↓XW_cond, Nat.reduceEqDiff, List.zip_cons_cons, List.zip_nil_left, Option.bind_some, Option.map_some, Option.map_none, List.map_toArray, List.map_cons, List.map_nil, ne_eq, List.append_toArray, List.nil_append, List.cons_append, List.append_nil, h6, xbin_add, wk, h0, h3, h4, h5, true_and]
              exact ⟨m2 - 1, by omega, k + 1, rfl, by omega, by omega, col, xs, hR⟩
        · simp (decide := true) only [↓symD, symU, ↓XW_cond, Nat.reduceEqDiff, List.zip_cons_cons, List.zip_nil_left, Option.bind_some, Option.map_some, Option.map_none, List.map_toArray, List.map_cons, List.map_nil, ne_eq, List.append_toArray, List.nil_append, List.cons_append, List.append_nil, h0, h3, h4, h5, true_and]
          obtain rfl : k = l.length := by omega
          exact ⟨col, xs, hR⟩
      · rintro fe S2 ⟨h0, h3, h4, h5, col, xs, hR⟩
        have wi2 : w64 ((i : Int) - 1) = (i : Int) - 1 := w64_sub1 _ (by omega)
        simp (decide := true) only [↓symD, symU, ↓XW_cond, Nat.reduceEqDiff, List.zip_cons_cons, List.zip_nil_left, Option.bind_some, Option.map_some, Option.map_none, List.map_toArray, List.map_cons, List.map_nil, ne_eq, List.append_toArray, List.nil_append, List.cons_append, List.append_nil, h5, xbin_sub, wi2, h0, h3, h4, true_and]
        exact ⟨i, by omega, rfl, by omega, col, xs, (hR.imp fun j _ => PK.all j).done⟩
    · simp (decide := true) only [↓symD, symU, ↓XW_cond, Nat.reduceEqDiff, List.zip_cons_cons, List.zip_nil_left, Option.bind_some, Option.map_some, Option.map_none, List.map_toArray, List.map_cons, List.map_nil, ne_eq, List.append_toArray, List.nil_append, List.cons_append, List.append_nil, h4, true_and]
      obtain rfl : m = 0 := by omega
      exact ⟨col, xs, hI⟩
  · rintro fe S1 ⟨h4, col, xs, hI⟩
    simp (decide := true) only [↓symD, symU, ↓XW_cond, Nat.reduceEqDiff, List.zip_cons_cons, List.zip_nil_left, Option.bind_some, Option.map_some, Option.map_none, List.map_toArray, List.map_cons, List.map_nil, ne_eq, List.append_toArray, List.nil_append, List.cons_append, List.append_nil, h4]
    exact ⟨hI.fr.ext, hI.mat⟩
end
end Go.Proofs.Ytolfpchcmiljpaa

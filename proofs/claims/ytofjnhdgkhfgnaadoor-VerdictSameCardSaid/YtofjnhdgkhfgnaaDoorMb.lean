/- Writes into the abstract memory, and what they stand for. No program in sight. -/
import Derived.Test.YtofjnhdgkhfgnaaDoorMa
namespace Go.Proofs.YtofjnhdgkhfgnaaDoor
open Go Go.RowKit

/-- a part of a block is written; the blocks that may lie in the same places are gone. -/
def St.write (S : St) (id : Nat) (c : List Value) (t : TypeId) (sz : Nat) (an : List Nat) : St := (S.kill an).put id (.cells c t sz true [])

theorem St.get_write (S : St) (id : Nat) (c : List Value) (t : TypeId) (sz : Nat) (an : List Nat) (j : Nat) :
    (S.write id c t sz an).get j = if j = id then .cells c t sz true [] else if j ∈ an then .gone else S.get j := by
  unfold St.write
  rw [St.get_put, St.get_kill]
@[simp] theorem St.next_write (S : St) (id : Nat) (c : List Value) (t : TypeId) (sz : Nat) (an : List Nat) : (S.write id c t sz an).next = S.next := by
  unfold St.write
  rw [St.next_put, St.next_kill]

theorem Sim.write {B : Nat} {φ : Emb} {S : St} {w : World} (h : Sim B φ S w) {id : Nat} {s : Spot} {c c2 : List Value} {t : TypeId} {sz : Nat} {an : List Nat}
    (e : φ id = some s) (e2 : S.get id = .cells c t sz true an) (cs cs2 : Array Value) (t' : TypeId) (hg : w.heap[s.b]? = some (.cells cs t' (0, 0)))
    (hl : c2.length = c.length) (hl2 : cs2.size = cs.size) (h1 : ∀ v ∈ c2, v.oneCell' = true) (hr : ∀ (i : Nat) v, c2[i]? = some v → ∃ v', cs2[s.base + i]? = some v' ∧ Rel φ v v') :
    Sim B φ (S.write id c2 t sz an) (w.setRow s.b cs2) ∧ Keep B φ S w φ (S.write id c2 t sz an) (w.setRow s.b cs2) := by
  obtain ⟨a1, a2, a3, cs0, t0, a4, a5, a6⟩ := h.blk id s c t sz true an e e2
  have a4 := a4.mine
  rw [hg] at a4
  simp only [Option.some.injEq, Obj.cells.injEq] at a4
  obtain ⟨rfl, rfl, -⟩ := a4
  constructor
  · refine ⟨fun j sj ej => ?_, (fun j hj => by
      rw [St.get_write]
      have h1 := h.gone j (by simpa using hj)
      by_cases e3 : j = id
      · subst e3; rw [e2] at h1; cases h1
      · rw [if_neg e3]; split
        · rfl
        · exact h1), fun j sj cj tj zj mj aj ej e3 => ?_, fun j sj cj tj zj aj ej e3 k sk ck tk zk mk ak hk ek e4 e5 => ?_, h.loops.of (Emb.le.refl _) (fun j o e3 => ?_) (fun _ _ _ ej _ => ej) (fun b r hnr hb => ?_) fun b o hb ho => by rw [setRow_other w s.b b cs2 (fun eb => by have := a3 rfl; omega)]; exact ho⟩
    · have := h.dom j sj ej
      simp; exact this
    · rw [St.get_write] at e3
      by_cases hj : j = id
      · subst hj
        rw [if_pos rfl] at e3
        obtain ⟨rfl, rfl, rfl, rfl, rfl⟩ := Blk.cells.inj e3
        rw [e] at ej
        obtain rfl := Option.some.inj ej
        refine ⟨a1, by omega, a3, cs2, t', Row.of (setRow_heap w s.b cs cs2 t' (0, 0) hg), by omega, fun i v hv => ⟨h1 v (List.mem_of_getElem? hv), hr i v hv⟩⟩
      · rw [if_neg hj] at e3
        by_cases hja : j ∈ an
        · rw [if_pos hja] at e3; cases e3
        · rw [if_neg hja] at e3
          obtain ⟨b1, b2, b3, csj, tj', b4, b5, b6⟩ := h.blk j sj cj tj zj mj aj ej e3
          have hne : sj.b ≠ s.b := fun eb => hja (h.apart id s c t sz an e e2 j sj cj tj zj mj aj hj ej e3 eb).1.1
          exact ⟨b1, b2, b3, csj, tj', b4.same (setRow_other w s.b sj.b cs2 hne), b5, b6⟩
    · rw [St.get_write] at e3 e4
      by_cases hj : j = id
      · subst hj
        rw [e] at ej
        obtain rfl := Option.some.inj ej
        rw [if_neg hk] at e4
        by_cases hka : k ∈ an
        · rw [if_pos hka] at e4; cases e4
        · rw [if_neg hka] at e4
          exact absurd (h.apart j s c t sz an e e2 k sk ck tk zk mk ak hk ek e4 e5).1.1 hka
      · rw [if_neg hj] at e3
        by_cases hja : j ∈ an
        · rw [if_pos hja] at e3; cases e3
        · rw [if_neg hja] at e3
          by_cases hki : k = id
          · subst hki
            rw [e] at ek
            obtain rfl := Option.some.inj ek
            exact absurd (h.apart k s c t sz an e e2 j sj cj tj zj true aj hj ej e3 e5.symm).1.1 hja
          · rw [if_neg hki] at e4
            by_cases hka : k ∈ an
            · rw [if_pos hka] at e4; cases e4
            · rw [if_neg hka] at e4
              exact h.apart j sj cj tj zj aj ej e3 k sk ck tk zk mk ak hk ek e4 e5
    · rw [St.get_write] at e3
      split at e3
      · cases e3
      · split at e3
        · cases e3
        · exact e3
    · rw [setRow_other w s.b b cs2 (fun eb => by rw [eb, hg] at hb; rw [← Option.some.inj hb] at hnr; cases hnr)]; exact hb
  · refine ⟨Emb.le.refl _, fun _ _ h h' => (Option.some_ne_none _ (h.symm.trans h')).elim, fun _ _ h h' => (Option.some_ne_none _ (h.symm.trans h')).elim, by simp, by simp, rfl, rfl, rfl, fun b hb hno => ?_, fun j sj ej e3 hlt => ?_⟩
    · refine setRow_other w s.b b cs2 (fun eb => ?_)
      have := hno id s e eb.symm
      rw [wr_cells e2] at this
      cases this
    · rw [St.get_write] at e3
      by_cases hj : j = id
      · subst hj
        rw [e] at ej
        obtain rfl := Option.some.inj ej
        exact ⟨j, s, e, rfl, wr_cells e2⟩
      · rw [if_neg hj] at e3
        by_cases hja : j ∈ an
        · rw [if_pos hja] at e3; cases e3
        · rw [if_neg hja] at e3
          exact ⟨j, sj, ej, rfl, e3⟩

/-- a block is not to be written any more. -/
theorem Sim.still {B : Nat} {φ : Emb} {S : St} {w : World} (h : Sim B φ S w) {id : Nat} {c : List Value} {t : TypeId} {sz : Nat} {m : Bool} {an : List Nat} (e2 : S.get id = .cells c t sz m an) (an' : List Nat) :
    Sim B φ (S.put id (.cells c t sz false an')) w ∧ Keep B φ S w φ (S.put id (.cells c t sz false an')) w := by
  constructor
  · refine ⟨fun j sj ej => by simpa using h.dom j sj ej, (fun j hj => by
      rw [St.get_put]
      have h1 := h.gone j (by simpa using hj)
      by_cases e3 : j = id
      · subst e3; rw [e2] at h1; cases h1
      · rw [if_neg e3]; exact h1), fun j sj cj tj zj mj aj ej e3 => ?_, fun j sj cj tj zj aj ej e3 k sk ck tk zk mk ak hk ek e4 e5 => ?_, h.loops.of (Emb.le.refl _) (fun j o e3 => by
        rw [St.get_put] at e3
        split at e3
        · cases e3
        · exact e3) (fun _ _ _ ej _ => ej) (fun _ _ _ hb => hb) fun _ _ _ hb => hb⟩
    · rw [St.get_put] at e3
      by_cases hj : j = id
      · subst hj
        rw [if_pos rfl] at e3
        obtain ⟨rfl, rfl, rfl, rfl, rfl⟩ := Blk.cells.inj e3
        obtain ⟨b1, b2, b3, cr, tr, r1, r2⟩ := h.blk j sj c t sz m an ej e2
        exact ⟨b1, b2, fun x => (Bool.noConfusion x), cr, tr, r1.still, r2⟩
      · rw [if_neg hj] at e3
        exact h.blk j sj cj tj zj mj aj ej e3
    · rw [St.get_put] at e3 e4
      by_cases hj : j = id
      · subst hj
        rw [if_pos rfl] at e3
        cases e3
      · rw [if_neg hj] at e3
        by_cases hki : k = id
        · subst hki
          rw [if_pos rfl] at e4
          obtain ⟨rfl, rfl, rfl, rfl, rfl⟩ := Blk.cells.inj e4
          exact ⟨⟨(h.apart j sj cj tj zj aj ej e3 k sk c t sz m an hk ek e2 e5).1.1, rfl⟩, (h.apart j sj cj tj zj aj ej e3 k sk c t sz m an hk ek e2 e5).2⟩
        · rw [if_neg hki] at e4
          exact h.apart j sj cj tj zj aj ej e3 k sk ck tk zk mk ak hk ek e4 e5
  · refine ⟨Emb.le.refl _, fun _ _ h h' => (Option.some_ne_none _ (h.symm.trans h')).elim, fun _ _ h h' => (Option.some_ne_none _ (h.symm.trans h')).elim, Nat.le_refl _, Nat.le_refl _, rfl, rfl, rfl, fun b hb hno => rfl, fun j sj ej e3 hlt => ?_⟩
    rw [St.get_put] at e3
    by_cases hj : j = id
    · subst hj
      rw [if_pos rfl] at e3
      cases e3
    · rw [if_neg hj] at e3
      exact ⟨j, sj, ej, rfl, e3⟩

/-- append: the old block is not to be written any more, the new one holds the old cells from o on and the new ones. -/
def St.grow (S : St) (id : Nat) (c : List Value) (t : TypeId) (sz : Nat) (an : List Nat) (c2 : List Value) (t2 : TypeId) : St := (S.put id (.cells c t sz false an)).alloc (.cells c2 t2 sz true (id :: an))

theorem Sim.growNew {B : Nat} {φ : Emb} {S : St} {w : World} (h : Sim B φ S w) (hB : B ≤ w.heap.size) {id : Nat} {c : List Value} {t : TypeId} {sz : Nat} {m : Bool} {an : List Nat}
    (e2 : S.get id = .cells c t sz m an) (c2 : List Value) (t2 t' : TypeId) (cs : Array Value)
    (h1 : ∀ v ∈ c2, v.oneCell' = true) (hlen : c2.length ≤ cs.size) (hr : ∀ (i : Nat) v, c2[i]? = some v → ∃ v', cs[i]? = some v' ∧ Rel φ v v') :
    Sim B (φ.add S.next ⟨w.heap.size, 0, cs.size, sz⟩) (S.grow id c t sz an c2 t2) (w.alloc (.cells cs t')) ∧
    Keep B φ S w (φ.add S.next ⟨w.heap.size, 0, cs.size, sz⟩) (S.grow id c t sz an c2 t2) (w.alloc (.cells cs t')) := by
  obtain ⟨k1, k2⟩ := h.still e2 an
  obtain ⟨k3, k4⟩ := k1.alloc hB c2 cs t2 t' sz h1 hlen hr (id :: an)
  exact ⟨k3, k2.trans k4⟩

theorem Sim.growIn {B : Nat} {φ : Emb} {S : St} {w : World} (h : Sim B φ S w) {id : Nat} {s : Spot} {c news : List Value} {t : TypeId} {sz : Nat} {an : List Nat} (o : Nat) (ho : o ≤ c.length)
    (e : φ id = some s) (e2 : S.get id = .cells c t sz true an) (cs cs2 : Array Value) (t2 t' : TypeId) (hg : w.heap[s.b]? = some (.cells cs t' (0, 0)))
    (hl2 : cs2.size = cs.size) (hfit : c.length + news.length ≤ s.ext) (h1 : ∀ v ∈ news, v.oneCell' = true)
    (hold : ∀ (i : Nat), i < s.base + c.length → cs2[i]? = cs[i]?) (hr : ∀ (i : Nat) v, news[i]? = some v → ∃ v', cs2[s.base + (c.length + i)]? = some v' ∧ Rel φ v v') :
    Sim B (φ.add S.next ⟨s.b, s.base + o, s.ext - o, sz⟩) (S.grow id c t sz an (c.drop o ++ news) t2) (w.setRow s.b cs2) ∧
    Keep B φ S w (φ.add S.next ⟨s.b, s.base + o, s.ext - o, sz⟩) (S.grow id c t sz an (c.drop o ++ news) t2) (w.setRow s.b cs2) := by
  have hf := h.fresh
  have hle := Emb.le_add φ S.next ⟨s.b, s.base + o, s.ext - o, sz⟩ hf
  obtain ⟨hid, hsb⟩ := h.dom id s e
  have hne : id ≠ S.next := by omega
  have hget : ∀ j, (S.grow id c t sz an (c.drop o ++ news) t2).get j = if j = S.next then .cells (c.drop o ++ news) t2 sz true (id :: an) else if j = id then .cells c t sz false an else S.get j := by
    intro j
    unfold St.grow
    rw [St.get_alloc, St.get_put]
    rfl
  have hnx : (S.grow id c t sz an (c.drop o ++ news) t2).next = S.next + 1 := rfl
  obtain ⟨a1, a2, a3, cs0, t0, a4, a5, a6⟩ := h.blk id s c t sz true an e e2
  have a4 := a4.mine
  rw [hg] at a4
  simp only [Option.some.injEq, Obj.cells.injEq] at a4
  obtain ⟨rfl, rfl, -⟩ := a4
  -- what any other block's cells have become
  have hcell : ∀ j sj cj tj zj mj aj, j ≠ id → φ j = some sj → S.get j = .cells cj tj zj mj aj →
      ∃ cs' t'', Row (w.setRow s.b cs2) sj.b mj cs' t'' ∧ sj.base + sj.ext ≤ cs'.size ∧ ∀ i v, cj[i]? = some v → v.oneCell' = true ∧ ∃ v', cs'[sj.base + i]? = some v' ∧ Rel φ v v' := by
    intro j sj cj tj zj mj aj hj ej e3
    obtain ⟨b1, b2, b3, csj, tj', b4, b5, b6⟩ := h.blk j sj cj tj zj mj aj ej e3
    by_cases hb : sj.b = s.b
    · have hap := (h.apart id s c t sz an e e2 j sj cj tj zj mj aj hj ej e3 hb).2
      obtain ⟨fz, b4, -⟩ := b4
      rw [hb, hg] at b4
      simp only [Option.some.injEq, Obj.cells.injEq] at b4
      obtain ⟨rfl, rfl, -⟩ := b4
      refine ⟨cs2, t', by rw [hb]; exact Row.of (setRow_heap w s.b cs cs2 t' (0, 0) hg), by omega, fun i v hv => ?_⟩
      obtain ⟨c1, v', c2, c3⟩ := b6 i v hv
      have hi : i < cj.length := (List.getElem?_eq_some_iff.1 hv).1
      exact ⟨c1, v', by rw [hold _ (by omega)]; exact c2, c3⟩
    · exact ⟨csj, tj', b4.same (setRow_other w s.b sj.b cs2 hb), b5, b6⟩
  have hself : ∀ i v, c[i]? = some v → v.oneCell' = true ∧ ∃ v', cs2[s.base + i]? = some v' ∧ Rel φ v v' := by
    intro i v hv
    obtain ⟨c1, v', c2, c3⟩ := a6 i v hv
    have hi : i < c.length := (List.getElem?_eq_some_iff.1 hv).1
    exact ⟨c1, v', by rw [hold _ (by omega)]; exact c2, c3⟩
  constructor
  · refine ⟨fun j sj ej => ?_, (fun j hj => by
      rw [hnx] at hj
      rw [hget, if_neg (by omega)]
      have h1 := h.gone j (by omega)
      by_cases e3 : j = id
      · subst e3; rw [e2] at h1; cases h1
      · rw [if_neg e3]; exact h1), fun j sj cj tj zj mj aj ej e3 => ?_, fun j sj cj tj zj aj ej e3 k sk ck tk zk mk ak hk ek e4 e5 => ?_, h.loops.of hle (fun j o e3 => by
        rw [hget] at e3
        split at e3
        · cases e3
        · split at e3
          · cases e3
          · exact e3) (fun j sj o ej e3 => by
        rw [hget] at e3
        split at e3
        · cases e3
        · rename_i hj
          rwa [Emb.add_other _ _ hj] at ej) (fun b r hnr hb => by rw [setRow_other w s.b b cs2 (fun eb => by rw [eb, hg] at hb; rw [← Option.some.inj hb] at hnr; cases hnr)]; exact hb) fun b o2 hb ho => by rw [setRow_other w s.b b cs2 (fun eb => by have := a3 rfl; omega)]; exact ho⟩
    · rw [hnx]
      by_cases hj : j = S.next
      · subst hj
        rw [Emb.add_same] at ej
        obtain rfl := Option.some.inj ej
        simpa using hsb
      · rw [Emb.add_other _ _ hj] at ej
        have := h.dom j sj ej
        simp; omega
    · rw [hget] at e3
      by_cases hj : j = S.next
      · subst hj
        rw [if_pos rfl] at e3
        rw [Emb.add_same] at ej
        obtain rfl := Option.some.inj ej
        obtain ⟨rfl, rfl, rfl, rfl, rfl⟩ := Blk.cells.inj e3
        refine ⟨rfl, by simp; omega, fun _ => a3 rfl, cs2, t', Row.of (setRow_heap w s.b cs cs2 t' (0, 0) hg), by simp; omega, fun i v hv => ?_⟩
        by_cases hi : i < (c.drop o).length
        · rw [List.getElem?_append_left hi, List.getElem?_drop] at hv
          obtain ⟨c1, v', c2, c3⟩ := hself _ v hv
          exact ⟨c1, v', by simpa [Nat.add_assoc] using c2, c3.mono hle⟩
        · rw [List.getElem?_append_right (by omega)] at hv
          refine ⟨h1 v (List.mem_of_getElem? hv), ?_⟩
          obtain ⟨v', c2, c3⟩ := hr _ v hv
          refine ⟨v', ?_, c3.mono hle⟩
          rw [← c2]
          congr 1
          simp only [List.length_drop] at hi ⊢
          omega
      · rw [if_neg hj] at e3
        rw [Emb.add_other _ _ hj] at ej
        by_cases hji : j = id
        · subst hji
          rw [if_pos rfl] at e3
          obtain ⟨rfl, rfl, rfl, rfl, rfl⟩ := Blk.cells.inj e3
          rw [e] at ej
          obtain rfl := Option.some.inj ej
          refine ⟨a1, a2, fun x => (Bool.noConfusion x), cs2, t', Row.of (setRow_heap w s.b cs cs2 t' (0, 0) hg), by omega, fun i v hv => ?_⟩
          obtain ⟨c1, v', c2, c3⟩ := hself i v hv
          exact ⟨c1, v', c2, c3.mono hle⟩
        · rw [if_neg hji] at e3
          obtain ⟨b1, b2, b3, -⟩ := h.blk j sj cj tj zj mj aj ej e3
          obtain ⟨cs', t'', d1, d2, d3⟩ := hcell j sj cj tj zj mj aj hji ej e3
          refine ⟨b1, b2, b3, cs', t'', d1, d2, fun i v hv => ?_⟩
          obtain ⟨c1, v', c2, c3⟩ := d3 i v hv
          exact ⟨c1, v', c2, c3.mono hle⟩
    · rw [hget] at e3 e4
      by_cases hj : j = S.next
      · subst hj
        rw [if_pos rfl] at e3
        rw [Emb.add_same] at ej
        obtain rfl := Option.some.inj ej
        obtain ⟨rfl, rfl, rfl, -, rfl⟩ := Blk.cells.inj e3
        rw [if_neg hk] at e4
        rw [Emb.add_other _ _ hk] at ek
        by_cases hki : k = id
        · subst hki
          rw [if_pos rfl] at e4
          obtain ⟨rfl, rfl, rfl, rfl, rfl⟩ := Blk.cells.inj e4
          rw [e] at ek
          obtain rfl := Option.some.inj ek
          exact ⟨⟨List.mem_cons_self, rfl⟩, by simp; omega⟩
        · rw [if_neg hki] at e4
          have := h.apart id s c t sz an e e2 k sk ck tk zk mk ak hki ek e4 e5
          exact ⟨⟨List.mem_cons_of_mem _ this.1.1, this.1.2⟩, by simp; omega⟩
      · rw [if_neg hj] at e3
        rw [Emb.add_other _ _ hj] at ej
        by_cases hji : j = id
        · subst hji
          rw [if_pos rfl] at e3
          cases e3
        · rw [if_neg hji] at e3
          by_cases hkn : k = S.next
          · subst hkn
            rw [Emb.add_same] at ek
            obtain rfl := Option.some.inj ek
            -- j is another one that may be written: it lies elsewhere
            exact absurd (h.apart id s c t sz an e e2 j sj cj tj zj true aj hji ej e3 e5.symm).1.2 (by simp)
          · rw [if_neg hkn] at e4
            rw [Emb.add_other _ _ hkn] at ek
            by_cases hki : k = id
            · subst hki
              rw [if_pos rfl] at e4
              obtain ⟨rfl, rfl, rfl, rfl, rfl⟩ := Blk.cells.inj e4
              exact ⟨⟨(h.apart j sj cj tj zj aj ej e3 k sk c t sz true an hk ek e2 e5).1.1, rfl⟩, (h.apart j sj cj tj zj aj ej e3 k sk c t sz true an hk ek e2 e5).2⟩
            · rw [if_neg hki] at e4
              exact h.apart j sj cj tj zj aj ej e3 k sk ck tk zk mk ak hk ek e4 e5
  · refine ⟨hle, fun j sj ej e3 => ?_, fun j sj ej e3 => ?_, by simp, by rw [hnx]; omega, rfl, rfl, rfl, fun b hb hno => ?_, fun j sj ej e3 hlt => ?_⟩
    · by_cases hj : j = S.next
      · subst hj
        rw [Emb.add_same] at ej
        obtain rfl := Option.some.inj ej
        exact .inr ⟨id, s, e, rfl, wr_cells e2⟩
      · rw [Emb.add_other _ _ hj, e3] at ej; cases ej
    · by_cases hj : j = S.next
      · omega
      · rw [Emb.add_other _ _ hj, e3] at ej; cases ej
    · refine setRow_other w s.b b cs2 (fun eb => ?_)
      have := hno id s e eb.symm
      rw [wr_cells e2] at this
      cases this
    · rw [hget] at e3
      by_cases hj : j = S.next
      · subst hj
        rw [Emb.add_same] at ej
        obtain rfl := Option.some.inj ej
        exact ⟨id, s, e, rfl, wr_cells e2⟩
      · rw [if_neg hj] at e3
        rw [Emb.add_other _ _ hj] at ej
        by_cases hji : j = id
        · subst hji
          rw [if_pos rfl] at e3
          cases e3
        · rw [if_neg hji] at e3
          exact ⟨j, sj, ej, rfl, e3⟩
end Go.Proofs.YtofjnhdgkhfgnaaDoor

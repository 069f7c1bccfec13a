/- The model's operations do what the abstract machine's do: the single operations. -/
import Derived.Test.YtofjnhdgkhfgnaaDoorMc
namespace Go.Proofs.YtofjnhdgkhfgnaaDoor
open Go Go.RowKit

def aggD : TypeDesc → Bool
  | .struct _ => true
  | .array _ _ => true
  | _ => false

theorem allOne_iff {l : List Value} : allOne l = true ↔ ∀ v ∈ l, v.oneCell' = true := by simp [allOne]

def OutV (P : Program) (B : Nat) (φ : Emb) (S : St) (w : World) (s : Sem Value) (v : Value) (S' : St) : Prop :=
  ∃ φ' v' w', s.run P w = .ok v' w' ∧ Rel φ' v v' ∧ Sim B φ' S' w' ∧ Keep B φ S w φ' S' w'

section
variable {P : Program} {B : Nat} {φ : Emb} {S : St} {w : World}

theorem OutV.same {s : Sem Value} {v v' : Value} (hs : Sim B φ S w) (h : s.run P w = .ok v' w) (hr : Rel φ v v') : OutV P B φ S w s v S :=
  ⟨φ, v', w, h, hr, hs, Keep.refl _ _ _ _⟩

theorem rd_sound (hs : Sim B φ S w) {id o n : Nat} {s : Spot} {c : List Value} (e : φ id = some s) (h : S.rd id o n = some c) :
    c.length = n ∧ ∃ c', RelL φ c c' ∧ (∀ v ∈ c', v.oneCell' = true) ∧ (∀ v ∈ c, v.oneCell' = true) ∧ ∀ j v, c'[j]? = some v → w.cell? ⟨s.b, s.base + o + j, none⟩ = some v := by
  unfold St.rd at h
  cases hb : S.get id with
  | gone => rw [hb] at h; cases h
  | obj o => rw [hb] at h; cases h
  | cells cc t z m an =>
    rw [hb] at h
    simp only at h
    split at h
    case isFalse => cases h
    case isTrue hle =>
      obtain rfl := Option.some.inj h
      obtain ⟨a1, a2, a3, cs, t', ⟨fz, a4, -⟩, a5, a6⟩ := hs.blk id s cc t z m an e hb
      have hsz : s.base + o + n ≤ cs.size := by omega
      have hl1 : (List.take n (List.drop o cc)).length = n := by simp; omega
      have hl2 : (List.take n (List.drop (s.base + o) cs.toList)).length = n := by simp; omega
      have hget : ∀ i, i < n → ∃ (h1 : o + i < cc.length) (h2 : s.base + o + i < cs.size), cc[o + i].oneCell' = true ∧ Rel φ cc[o + i] cs[s.base + o + i] := by
        intro i hi
        have h1 : o + i < cc.length := by omega
        obtain ⟨b1, v', b2, b3⟩ := a6 (o + i) cc[o + i] (List.getElem?_eq_getElem h1)
        have h2 : s.base + o + i < cs.size := by omega
        refine ⟨h1, h2, b1, ?_⟩
        rw [show s.base + (o + i) = s.base + o + i by omega, Array.getElem?_eq_getElem h2] at b2
        rw [Option.some.inj b2]
        exact b3
      refine ⟨hl1, _, ⟨hl1.trans hl2.symm, fun i h1 h2 => ?_⟩, fun v hv => ?_, fun v hv => ?_, fun j v hv => ?_⟩
      · obtain ⟨_, _, _, hr⟩ := hget i (by omega)
        simpa using hr
      · obtain ⟨i, hi, rfl⟩ := List.getElem_of_mem hv
        obtain ⟨_, _, h1, hr⟩ := hget i (by omega)
        rw [← hr.oneCell] at h1
        simpa using h1
      · obtain ⟨i, hi, rfl⟩ := List.getElem_of_mem hv
        obtain ⟨_, _, h1, hr⟩ := hget i (by omega)
        simpa using h1
      · have hj : j < n := by have := (List.getElem?_eq_some_iff.1 hv).1; omega
        obtain ⟨_, h2, _, _⟩ := hget j hj
        simp only [List.getElem?_take, List.getElem?_drop, hj, if_true] at hv
        unfold World.cell?
        simp only [a4]
        simpa using hv

theorem ptr_inv {id o : Nat} {v' : Value} (h : Rel φ (.pointer (some ⟨id, o, none⟩)) v') : ∃ s, φ id = some s ∧ v' = .pointer (some ⟨s.b, s.base + o, none⟩) := by
  cases h with
  | ptr _ _ s h => exact ⟨s, h, rfl⟩

theorem run_isAgg (t : TypeId) (d : TypeDesc) (h : P.underlying t = some d) : (isAgg t).run P w = .ok (aggD d) w := by
  cases d <;> simp [isAgg, run_underlying h, aggD]
theorem run_sizeOf' (t : TypeId) (i : TypeInfo) (h : P.info? t = some i) : (sizeOf t).run P w = .ok i.size w := by simp [sizeOf, typeInfo, h]

theorem one_inv {l : List Value} {v : Value} (h : one l = some v) : l = [v] := by
  match l, h with
  | [x], h => rw [one] at h; rw [Option.some.inj h]

theorem loadVar_sound (hs : Sim B φ S w) {t : TypeId} {d : TypeDesc} {i : TypeInfo} (hd : P.underlying t = some d) (hi : P.info? t = some i)
    {id o : Nat} {s : Spot} {c : List Value} {v : Value} (e : φ id = some s)
    (hc : S.rd id o (if aggD d then i.size else 1) = some c) (hv : part1 (aggD d) c = some v) : ∃ v', (loadVar t ⟨s.b, s.base + o, none⟩).run P w = .ok v' w ∧ Rel φ v v' := by
  obtain ⟨hl, c', hrel, _, _, hcell⟩ := rd_sound hs e hc
  have hload := run_loadCells_list (P := P) w ⟨s.b, s.base + o, none⟩ c' (fun j v h => by rw [Addr.add_lit]; exact hcell j v h)
  have hl' : c'.length = (if aggD d then i.size else 1) := hrel.1.symm.trans hl
  rw [hl'] at hload
  have ha := run_isAgg (w := w) t d hd
  have hz := run_sizeOf' (w := w) t i hi
  by_cases hagg : aggD d = true
  · rw [if_pos hagg] at hload
    rw [hagg] at ha
    unfold part1 at hv
    rw [if_pos hagg] at hv
    obtain rfl := Option.some.inj hv
    refine ⟨.agg c'.toArray, ?_, .agg' hrel.toA⟩
    simp [loadVar, ha, hz, hload]
  · rw [if_neg hagg] at hl'
    rw [Bool.eq_false_iff.2 hagg] at ha
    unfold part1 at hv
    rw [if_neg hagg] at hv
    obtain rfl := one_inv hv
    obtain ⟨v', rfl⟩ : ∃ v', c' = [v'] := List.length_eq_one_iff.1 hl'
    have h0 := hcell 0 v' rfl
    refine ⟨v', ?_, hrel.2 0 (by simp) (by simp)⟩
    simp [loadVar, ha, run_load]
    simp at h0
    rw [h0]

theorem load_sound (hs : Sim B φ S w) {t : TypeId} {d : TypeDesc} {i : TypeInfo} (hd : P.underlying t = some d) (hi : P.info? t = some i)
    {id o : Nat} {x' : Value} {c : List Value} {v : Value} (hx : Rel φ (.pointer (some ⟨id, o, none⟩)) x')
    (hc : S.rd id o (if aggD d then i.size else 1) = some c) (hv : part1 (aggD d) c = some v) : OutV P B φ S w (Instr.loadAt t x') v S := by
  obtain ⟨s, e, rfl⟩ := ptr_inv hx
  obtain ⟨v', h1, h2⟩ := loadVar_sound (P := P) hs hd hi e hc hv
  refine OutV.same hs (v' := v') ?_ h2
  simp [Instr.loadAt, Instr.sureAddr, h1]

theorem splice_length (l : List Value) (o : Nat) (r : List Value) (h : o + r.length ≤ l.length) : (splice l o r).length = l.length := by
  unfold splice; simp; omega
theorem splice_get (l : List Value) (o : Nat) (r : List Value) (h : o + r.length ≤ l.length) (i : Nat) : (splice l o r)[i]? = if o ≤ i ∧ i < o + r.length then r[i - o]? else l[i]? := by
  unfold splice
  by_cases h1 : i < o
  · rw [List.append_assoc, List.getElem?_append_left (by simp; omega), List.getElem?_take, if_pos h1, if_neg (by omega)]
  · by_cases h2 : i < o + r.length
    · rw [List.append_assoc, List.getElem?_append_right (by simp; omega), List.getElem?_append_left (by simp; omega), if_pos ⟨by omega, h2⟩]
      congr 1; simp; omega
    · rw [List.append_assoc, List.getElem?_append_right (by simp; omega), List.getElem?_append_right (by simp; omega), List.getElem?_drop, if_neg (by omega)]
      congr 1; simp; omega
theorem splice_mem (l : List Value) (o : Nat) (r : List Value) {v : Value} (h : v ∈ splice l o r) : v ∈ l ∨ v ∈ r := by
  unfold splice at h
  simp only [List.mem_append] at h
  rcases h with (h | h) | h
  · exact .inl (List.mem_of_mem_take h)
  · exact .inr h
  · exact .inl (List.mem_of_mem_drop h)

/-- what a store into a part of a block does, on both sides. -/
theorem write_sound (hs : Sim B φ S w) {id o : Nat} {s : Spot} {c : List Value} {t : TypeId} {z : Nat} {an : List Nat} (e : φ id = some s) (e2 : S.get id = .cells c t z true an)
    {r r' : List Value} (hr : RelL φ r r') (h1 : allOne r = true) (hfit : o + r.length ≤ c.length) :
    ∃ w', (∀ i, i = 0 → (storeCells ⟨s.b, s.base + o, none⟩ r' i).run P w = .ok () w') ∧ Sim B φ (S.write id (splice c o r) t z an) w' ∧ Keep B φ S w φ (S.write id (splice c o r) t z an) w' := by
  obtain ⟨a1, a2, a3, cs, t', a4, a5, a6⟩ := hs.blk id s c t z true an e e2
  have a4 := a4.mine
  have h1' : ∀ v ∈ r, v.oneCell' = true := allOne_iff.1 h1
  have h1r : ∀ v ∈ r', v.oneCell' = true := by
    intro v hv
    obtain ⟨i, hi, rfl⟩ := List.getElem_of_mem hv
    have := hr.2 i (by rw [hr.1]; exact hi) hi
    rw [this.oneCell]
    exact h1' _ (List.getElem_mem _)
  have hlen : r.length = r'.length := hr.1
  have hst := run_storeCells_at P s.b (s.base + o) t' r' 0 cs w a4 (by omega) h1r
  refine ⟨_, fun i hi => by subst hi; exact hst, ?_⟩
  refine hs.write e e2 cs _ t' a4 (splice_length c o r hfit) ?_ (fun v hv => ?_) (fun i v hv => ?_)
  · simp; omega
  · rcases splice_mem c o r hv with h | h
    · obtain ⟨i, hi, rfl⟩ := List.getElem_of_mem h
      exact (a6 i _ (List.getElem?_eq_getElem hi)).1
    · exact h1' v h
  · rw [splice_get c o r hfit] at hv
    have hsp : (cs.toList.take (s.base + o + 0) ++ r' ++ cs.toList.drop (s.base + o + 0 + r'.length)) = splice cs.toList (s.base + o) r' := by unfold splice; simp
    rw [hsp]
    have hg := splice_get cs.toList (s.base + o) r' (by simp; omega) (s.base + i)
    rw [List.getElem?_toArray, hg]
    by_cases hi : o ≤ i ∧ i < o + r.length
    · rw [if_pos hi] at hv
      rw [if_pos (by omega)]
      have hlt : i - o < r.length := by omega
      rw [List.getElem?_eq_getElem hlt] at hv
      obtain rfl := Option.some.inj hv
      refine ⟨r'[i - o], ?_, hr.2 (i - o) hlt (by omega)⟩
      rw [show s.base + i - (s.base + o) = i - o by omega, List.getElem?_eq_getElem]
    · rw [if_neg hi] at hv
      rw [if_neg (by omega)]
      obtain ⟨b1, v', b2, b3⟩ := a6 i v hv
      exact ⟨v', by simpa using b2, b3⟩

theorem store_sound (hs : Sim B φ S w) {t : TypeId} {i : TypeInfo} (hi : P.info? t = some i) {id o : Nat} {x' v v' : Value} {c : List Value} {t2 : TypeId} {z : Nat} {an : List Nat}
    (hx : Rel φ (.pointer (some ⟨id, o, none⟩)) x') (hv : Rel φ v v') (e2 : S.get id = .cells c t2 z true an) (h0 : v.cells.size = i.size) (h2 : o + i.size ≤ c.length) (h1 : allOne v.cells.toList = true) :
    ∃ w', (Instr.storeAt t x' v').run P w = .ok () w' ∧ Sim B φ (S.write id (splice c o v.cells.toList) t2 z an) w' ∧ Keep B φ S w φ (S.write id (splice c o v.cells.toList) t2 z an) w' := by
  obtain ⟨s, e, rfl⟩ := ptr_inv hx
  have hc := hv.cells
  obtain ⟨w', hst, k1, k2⟩ := write_sound (P := P) hs e e2 (o := o) hc.toL h1 (by simp; omega)
  refine ⟨w', ?_, k1, k2⟩
  have hz := run_sizeOf' (w := w) t i hi
  have h3 := hst 0 rfl
  have hsz : v'.cells.size = i.size := hc.1.symm.trans h0
  simp [Instr.storeAt, Instr.sureAddr, storeVar, hz, hsz, h3]

theorem box_sound (hs : Sim B φ S w) (hB : B ≤ w.heap.size) {t : TypeId} {v v' : Value} (hv : Rel φ v v') (h1 : allOne v.cells.toList = true) :
    OutV P B φ S w (Instr.box t v') (.pointer (some ⟨S.next, 0, none⟩)) (S.alloc (.cells v.cells.toList t v.cells.size true [])) := by
  have hc := hv.cells
  obtain ⟨k1, k2⟩ := hs.alloc hB v.cells.toList v'.cells t t v.cells.size (allOne_iff.1 h1) (by simp [hc.1]) (fun i u hu => by
    have hi : i < v.cells.size := by simpa using (List.getElem?_eq_some_iff.1 hu).1
    have hi' : i < v'.cells.size := by rw [← hc.1]; exact hi
    refine ⟨v'.cells[i], Array.getElem?_eq_getElem hi', ?_⟩
    have : u = v.cells[i] := by simpa [hi] using hu.symm
    subst this
    exact hc.2 i hi hi') []
  refine ⟨_, .pointer (some ⟨w.heap.size, 0, none⟩), _, ?_, ?_, k1, k2⟩
  · simp [Instr.box, newVar, newRow]
  · have := Rel.ptr (φ := φ.add S.next ⟨w.heap.size, 0, v'.cells.size, v.cells.size⟩) S.next 0 _ (Emb.add_same _ _ _)
    simpa using this
end
end Go.Proofs.YtofjnhdgkhfgnaaDoor

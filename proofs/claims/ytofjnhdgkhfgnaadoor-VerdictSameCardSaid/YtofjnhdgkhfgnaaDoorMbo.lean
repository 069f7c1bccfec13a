/- Objects that are no rows: loops over functions, maps, walks through strings. No program in sight. -/
import Derived.Test.YtofjnhdgkhfgnaaDoorMb
import Derived.RangeFuncRecord
set_option linter.unusedVariables false
namespace Go.Proofs.YtofjnhdgkhfgnaaDoor
open Go Go.RowKit

section
variable {B : Nat} {φ : Emb} {S : St} {w : World}

/-- a new object that no block of the abstract machine stands for. -/
theorem Sim.allocOther (h : Sim B φ S w) (o : Obj) : Sim B φ S (w.alloc o) ∧ Keep B φ S w φ S (w.alloc o) := by
  have hk : ∀ k, k < w.heap.size → (w.alloc o).heap[k]? = w.heap[k]? := fun k hk => by rw [heap_alloc', if_neg (by omega)]
  constructor
  · refine ⟨fun id s e => ⟨(h.dom id s e).1, by have := (h.dom id s e).2; simp; omega⟩, h.gone, fun id s c t sz m an e e2 => ?_, h.apart, h.loops.of (Emb.le.refl _) (fun _ _ e => e) (fun _ _ _ e _ => e) (fun b r _ e => by rw [hk b (Array.getElem?_eq_some_iff.1 e).1]; exact e) fun b o2 _ e => by rw [hk b (Array.getElem?_eq_some_iff.1 e).1]; exact e⟩
    obtain ⟨a1, a2, a3, cs, t', a4, a5⟩ := h.blk id s c t sz m an e e2
    exact ⟨a1, a2, a3, cs, t', a4.same (hk _ (h.dom id s e).2), a5⟩
  · exact ⟨Emb.le.refl _, fun _ _ h h' => (Option.some_ne_none _ (h.symm.trans h')).elim, fun _ _ h h' => (Option.some_ne_none _ (h.symm.trans h')).elim, by simp, Nat.le_refl _, rfl, rfl, rfl, fun b hb _ => hk b hb, fun id s h1 h2 _ => ⟨id, s, h1, rfl, h2⟩⟩

/-- an object that is no row begins. -/
theorem Sim.objNew (h : Sim B φ S w) (hB : B ≤ w.heap.size) {o : AObj} {r : Obj} (hr : ObjR φ o r) :
    Sim B (φ.add S.next ⟨w.heap.size, 0, 0, 0⟩) (S.alloc (.obj o)) (w.alloc r) ∧ Keep B φ S w (φ.add S.next ⟨w.heap.size, 0, 0, 0⟩) (S.alloc (.obj o)) (w.alloc r) := by
  have hf := h.fresh
  have hle := Emb.le_add φ S.next ⟨w.heap.size, 0, 0, 0⟩ hf
  have hk : ∀ k, k < w.heap.size → (w.alloc r).heap[k]? = w.heap[k]? := fun k hk => by rw [heap_alloc', if_neg (by omega)]
  have hdom : ∀ id s, (φ.add S.next ⟨w.heap.size, 0, 0, 0⟩) id = some s → (id = S.next ∧ s = ⟨w.heap.size, 0, 0, 0⟩) ∨ (id ≠ S.next ∧ φ id = some s) := by
    intro id s e
    by_cases hi : id = S.next
    · subst hi
      rw [Emb.add_same] at e
      exact .inl ⟨rfl, (Option.some.inj e).symm⟩
    · rw [Emb.add_other _ _ hi] at e
      exact .inr ⟨hi, e⟩
  constructor
  · refine ⟨fun id s e => ?_, fun id hi => ?_, fun id s c t sz m an e e2 => ?_, fun id s c t sz an e e2 j sj cj tj zj mj aj hj ej e3 e4 => ?_, h.loops.1.of (Nat.le_refl _) hle.tab (fun b o2 _ _ e => by rw [hk b (Array.getElem?_eq_some_iff.1 e).1]; exact e), fun id s o2 e e2 => ?_⟩
    · rcases hdom id s e with ⟨rfl, rfl⟩ | ⟨hi, e⟩
      · simp
      · have := h.dom id s e
        simp; omega
    · simp only [St.next_alloc] at hi
      rw [St.get_alloc, if_neg (by omega)]
      exact h.gone id (by omega)
    · rw [St.get_alloc] at e2
      rcases hdom id s e with ⟨rfl, rfl⟩ | ⟨hi, e⟩
      · rw [if_pos rfl] at e2; cases e2
      · rw [if_neg hi] at e2
        obtain ⟨a1, a2, a3, cs, t', a4, a5, a6⟩ := h.blk id s c t sz m an e e2
        refine ⟨a1, a2, a3, cs, t', a4.same (hk _ (h.dom id s e).2), a5, fun i v hv => ?_⟩
        obtain ⟨b1, v', b2, b3⟩ := a6 i v hv
        exact ⟨b1, v', b2, b3.mono hle⟩
    · rw [St.get_alloc] at e2 e3
      rcases hdom id s e with ⟨rfl, rfl⟩ | ⟨hi, e⟩
      · rw [if_pos rfl] at e2; cases e2
      · rcases hdom j sj ej with ⟨rfl, rfl⟩ | ⟨hj2, ej⟩
        · rw [if_pos rfl] at e3; cases e3
        · rw [if_neg hi] at e2
          rw [if_neg hj2] at e3
          exact h.apart id s c t sz an e e2 j sj cj tj zj mj aj hj ej e3 e4
    · rw [St.get_alloc] at e2
      rcases hdom id s e with ⟨rfl, rfl⟩ | ⟨hi, e⟩
      · rw [if_pos rfl] at e2
        obtain rfl := Blk.obj.inj e2
        refine ⟨⟨hB, rfl⟩, ⟨r, by rw [heap_alloc', if_pos rfl], hr.mono hle⟩, fun j sj o3 hj ej e3 => ?_⟩
        rcases hdom j sj ej with ⟨rfl, _⟩ | ⟨hj2, ej⟩
        · exact absurd rfl hj
        · have := (h.dom j sj ej).2
          simp; omega
      · rw [if_neg hi] at e2
        obtain ⟨a1, ⟨r', a2, a3⟩, a4⟩ := h.loops.2 id s o2 e e2
        refine ⟨a1, ⟨r', by rw [hk _ (h.dom id s e).2]; exact a2, a3.mono hle⟩, fun j sj o3 hj ej e3 => ?_⟩
        rw [St.get_alloc] at e3
        rcases hdom j sj ej with ⟨rfl, rfl⟩ | ⟨hj2, ej⟩
        · have := (h.dom id s e).2
          simp; omega
        · rw [if_neg hj2] at e3
          exact a4 j sj o3 hj ej e3
  · refine ⟨hle, fun id s e e2 => ?_, fun id s e e2 => ?_, by simp, by simp, rfl, rfl, rfl, fun b hb _ => hk b hb, fun id s e e2 hlt => ?_⟩
    · rcases hdom id s e with ⟨rfl, rfl⟩ | ⟨hi, e⟩
      · exact .inl (Nat.le_refl _)
      · rw [e2] at e; cases e
    · rcases hdom id s e with ⟨rfl, rfl⟩ | ⟨hi, e⟩
      · exact Nat.le_refl _
      · rw [e2] at e; cases e
    · rcases hdom id s e with ⟨rfl, rfl⟩ | ⟨hi, e⟩
      · simp at hlt
      · rw [St.get_alloc, if_neg hi] at e2
        exact ⟨id, s, e, rfl, e2⟩

/-- a loop begins. -/
theorem Sim.loopNew (h : Sim B φ S w) (hB : B ≤ w.heap.size) {env : Array Value} {L : LoopC} {r : Loop} (hr : LoopR φ env L none r) :
    Sim B (φ.add S.next ⟨w.heap.size, 0, 0, 0⟩) (S.alloc (.loop env L none)) (w.alloc (.loop r)) ∧ Keep B φ S w (φ.add S.next ⟨w.heap.size, 0, 0, 0⟩) (S.alloc (.loop env L none)) (w.alloc (.loop r)) :=
  h.objNew hB (o := .loop env L none) ⟨r, rfl, hr⟩

/-- no block of the abstract machine that may be turned lies there. -/
def NoWr (φ : Emb) (S : St) (l : Nat) : Prop := ∀ id s, φ id = some s → s.b = l → (S.get id).wr = false

theorem NoWr.keep {φ' : Emb} {S' : St} {w' : World} {l : Nat} (h : NoWr φ S l) (hl : l < w.heap.size) (hk : Keep B φ S w φ' S' w') : NoWr φ' S' l := by
  intro id s e e2
  cases h3 : (S'.get id).wr with
  | false => rfl
  | true =>
    obtain ⟨id0, s0, h4, h5, h6⟩ := hk.mine id s e h3 (by omega)
    rw [h id0 s0 h4 (h5.trans e2)] at h6
    cases h6

/-- an object that no block stands for, or one that is under way, is turned. -/
theorem Sim.putOther (h : Sim B φ S w) {l : Nat} {o : Obj} (o' : Obj) (hl : w.heap[l]? = some o) (hc : isRow o = false) (hn : NoWr φ S l) (hlB : B ≤ l ∨ isObj o = false) : Sim B φ S (w.putObj l o') := by
  refine ⟨fun id s e => by have := h.dom id s e; simpa using this, h.gone, fun id s c t sz m an e e2 => ?_, h.apart, h.loops.1.of (Nat.le_refl _) rfl (fun b o2 hb hk e => by
      rw [World.putObj_heap_other]
      · exact e
      · intro eb
        rcases hlB with h1 | h1
        · omega
        · rw [eb, hl] at e
          obtain rfl := Option.some.inj e
          rcases hk with hk | hk
          · rw [hc] at hk; cases hk
          · rw [h1] at hk; cases hk), fun id s o2 e e2 => ?_⟩
  · obtain ⟨a1, a2, a3, cs, t', ⟨fr, a4, a5⟩, a6⟩ := h.blk id s c t sz m an e e2
    refine ⟨a1, a2, a3, cs, t', ⟨fr, ?_, a5⟩, a6⟩
    rw [World.putObj_heap_other]
    · exact a4
    · intro eb
      rw [eb, hl] at a4
      rw [Option.some.inj a4] at hc
      cases hc
  · obtain ⟨a1, ⟨r, a2, a3⟩, a4⟩ := h.loops.2 id s o2 e e2
    refine ⟨a1, ⟨r, ?_, a3⟩, a4⟩
    rw [World.putObj_heap_other]
    · exact a2
    · intro eb
      have := hn id s e eb
      rw [wr_obj e2] at this
      cases this

/-- a loop is left, or its round begins. -/
theorem Sim.objGone (h : Sim B φ S w) {id : Nat} {s : Spot} {o : AObj} (e : φ id = some s) (e2 : S.get id = .obj o) :
    Sim B φ (S.put id .gone) w ∧ Keep B φ S w φ (S.put id .gone) w ∧ NoWr φ (S.put id .gone) s.b := by
  have hS : ∀ j, (S.put id .gone).get j = if j = id then .gone else S.get j := fun j => St.get_put S id .gone j
  have hwr : ∀ j, ((S.put id .gone).get j).wr = true → (S.get j).wr = true := by
    intro j hj
    rw [hS] at hj
    split at hj
    · cases hj
    · exact hj
  obtain ⟨a1, ⟨r, a2, a3⟩, a4⟩ := h.loops.2 id s o e e2
  refine ⟨⟨fun j sj ej => by simpa using h.dom j sj ej, fun j hj => ?_, fun j sj c t sz m an ej e3 => ?_, fun j sj c t sz an ej e3 i si ci ti zi mi ai hi ei e4 e5 => ?_, h.loops.of (Emb.le.refl _) (fun j o e3 => ?_) (fun _ _ _ ej _ => ej) (fun _ _ _ hb => hb) fun _ _ _ hb => hb⟩,
    ⟨Emb.le.refl _, fun _ _ h h' => (Option.some_ne_none _ (h.symm.trans h')).elim, fun _ _ h h' => (Option.some_ne_none _ (h.symm.trans h')).elim, Nat.le_refl _, Nat.le_refl _, rfl, rfl, rfl, fun b hb hno => rfl, fun j sj ej e3 hlt => ⟨j, sj, ej, rfl, hwr j e3⟩⟩, fun j sj ej eb => ?_⟩
  · rw [hS]; split
    · rfl
    · exact h.gone j (by simpa using hj)
  · rw [hS] at e3
    split at e3
    · cases e3
    · exact h.blk j sj c t sz m an ej e3
  · rw [hS] at e3 e4
    split at e3
    · cases e3
    · split at e4
      · cases e4
      · exact h.apart j sj c t sz an ej e3 i si ci ti zi mi ai hi ei e4 e5
  · rw [hS] at e3
    split at e3
    · cases e3
    · exact e3
  · rw [hS]
    split
    · rfl
    · rename_i hji
      cases hw : (S.get j).wr with
      | false => rfl
      | true =>
        rcases wr_inv hw with ⟨c, t, sz, an, e3⟩ | ⟨o', e3⟩
        · obtain ⟨_, _, _, cs, t', ⟨fr, b4, _⟩, _⟩ := h.blk j sj c t sz true an ej e3
          rw [eb, a2] at b4
          have hnr := a3.noRow
          rw [Option.some.inj b4] at hnr
          cases hnr
        · exact absurd eb (a4 j sj o' hji ej e3)
theorem Sim.loopGone (h : Sim B φ S w) {id : Nat} {s : Spot} {env : Array Value} {L : LoopC} {pe : Option Ex} (e : φ id = some s) (e2 : S.get id = .loop env L pe) :
    Sim B φ (S.put id .gone) w ∧ Keep B φ S w φ (S.put id .gone) w ∧ NoWr φ (S.put id .gone) s.b := h.objGone e e2

/-- a round ends: the record is ready again, or done. -/
theorem Sim.objBack (h : Sim B φ S w) {id : Nat} {s : Spot} {o : AObj} {r r' : Obj} (e : φ id = some s) (hl : w.heap[s.b]? = some r) (hc : isRow r = false) (hn : NoWr φ S s.b) (hB : B ≤ s.b ∧ s.base = 0) (hr : ObjR φ o r') :
    Sim B φ (S.put id (.obj o)) (w.putObj s.b r') := by
  have hS : ∀ j, (S.put id (.obj o)).get j = if j = id then .obj o else S.get j := fun j => St.get_put S id _ j
  have h1 := h.putOther r' hl hc hn (.inl hB.1)
  have hlt : s.b < w.heap.size := (Array.getElem?_eq_some_iff.1 hl).1
  refine ⟨fun j sj ej => by simpa using h1.dom j sj ej, fun j hj => ?_, fun j sj c t sz m an ej e3 => ?_, fun j sj c t sz an ej e3 i si ci ti zi mi ai hi ei e4 e5 => ?_, h1.loops.1, fun j sj o2 ej e3 => ?_⟩
  · rw [hS]
    have := (h.dom id s e).1
    rw [if_neg (by simp at hj; omega)]
    exact h.gone j (by simpa using hj)
  · rw [hS] at e3
    split at e3
    · cases e3
    · exact h1.blk j sj c t sz m an ej e3
  · rw [hS] at e3 e4
    split at e3
    · cases e3
    · split at e4
      · cases e4
      · exact h1.apart j sj c t sz an ej e3 i si ci ti zi mi ai hi ei e4 e5
  · have hother : ∀ i si o3, φ i = some si → S.get i = .obj o3 → si.b ≠ s.b := by
      intro i si o3 ei e4 eb
      have := hn i si ei eb
      rw [wr_obj e4] at this
      cases this
    rw [hS] at e3
    split at e3
    · rename_i hj
      subst hj
      rw [e] at ej
      obtain rfl := Option.some.inj ej
      obtain rfl := Blk.obj.inj e3
      refine ⟨hB, ⟨r', World.putObj_heap_same hlt, hr⟩, fun i si o3 hi ei e4 => ?_⟩
      rw [hS, if_neg hi] at e4
      exact hother i si o3 ei e4
    · rename_i hj
      obtain ⟨b1, b2, b3⟩ := h1.loops.2 j sj o2 ej e3
      refine ⟨b1, b2, fun i si o3 hi ei e4 => ?_⟩
      rw [hS] at e4
      split at e4
      · rename_i hii
        subst hii
        rw [e] at ei
        obtain rfl := Option.some.inj ei
        exact (hother j sj o2 ej e3).symm
      · exact b3 i si o3 hi ei e4
theorem Sim.loopBack (h : Sim B φ S w) {id : Nat} {s : Spot} {env : Array Value} {L : LoopC} {pe : Option Ex} {r r' : Loop} (e : φ id = some s) (hl : w.heap[s.b]? = some (.loop r)) (hn : NoWr φ S s.b) (hB : B ≤ s.b ∧ s.base = 0) (hr : LoopR φ env L pe r') :
    Sim B φ (S.put id (.loop env L pe)) (w.putObj s.b (.loop r')) := h.objBack e hl rfl hn hB ⟨r', rfl, hr⟩

/-- what lies in a turned block does not matter to what is kept. -/
theorem Keep.putObj {φ' : Emb} {S' : St} {w' : World} (h : Keep B φ S w φ' S' w') {id0 : Nat} {s0 : Spot} (e : φ id0 = some s0) (hw : (S.get id0).wr = true) (o : Obj) : Keep B φ S w φ' S' (w'.putObj s0.b o) :=
  ⟨h.le, h.place, h.new, by simpa using h.size, h.next, h.os, h.tape, h.output, (fun b hb hno => by
    rw [World.putObj_heap_other]
    · exact h.keep b hb hno
    · intro eb
      have := hno id0 s0 e eb.symm
      rw [hw] at this
      cases this), h.mine⟩
theorem Keep.putNew {φ' : Emb} {S' : St} {w' : World} (h : Keep B φ S w φ' S' w') {D : Nat} (hD : w.heap.size ≤ D) (o : Obj) : Keep B φ S w φ' S' (w'.putObj D o) :=
  ⟨h.le, h.place, h.new, by simpa using h.size, h.next, h.os, h.tape, h.output, (fun b hb hno => by
    rw [World.putObj_heap_other (by omega)]
    exact h.keep b hb hno), h.mine⟩
theorem Keep.setBlk {φ' : Emb} {S' : St} {w' : World} (h : Keep B φ S w φ' S' w') {id : Nat} {s : Spot} (e : φ id = some s) (hw : (S.get id).wr = true) (b : Blk) : Keep B φ S w φ' (S'.put id b) w' :=
  ⟨h.le, h.place, h.new, h.size, h.next, h.os, h.tape, h.output, h.keep, fun j sj ej e2 hlt => by
    by_cases hj : j = id
    · subst hj
      have := h.le _ _ e
      rw [ej] at this
      obtain rfl := Option.some.inj this
      exact ⟨j, sj, e, rfl, hw⟩
    · rw [St.get_put, if_neg hj] at e2
      exact h.mine j sj ej e2 hlt⟩

end
end Go.Proofs.YtofjnhdgkhfgnaaDoor

/- A region that draws its order: the memory. -/
import Derived.Test.YtofjnhdgkhfgnaaDoorMm
namespace Go.Proofs.YtofjnhdgkhfgnaaDoor
open Go Go.RowKit

/-- more blocks, the old ones as they were. -/
structure More (w w' : World) : Prop where
  size : w.heap.size ≤ w'.heap.size
  block : ∀ b, b < w.heap.size → w'.heap[b]? = w.heap[b]?
  os : w'.os = w.os
  tape : w'.tape = w.tape
  output : w'.output = w.output

/-- both machines' memories fit, and what the region's start asks is kept. -/
def SK (B : Nat) (φ0 : Emb) (S0 : St) (w0 : World) (φ : Emb) (T : St) (w : World) : Prop := Sim B φ T w ∧ Keep B φ0 S0 w0 φ T w

section
variable {B : Nat} {φ0 φ : Emb} {S0 T : St} {w0 w w' : World}

theorem Loops.of2 {φ' : Emb} {T' : St} (h : Loops B φ T w) (hle : Emb.le φ φ') (hS : ∀ id s o, φ' id = some s → T'.get id = .obj o → φ id = some s ∧ T.get id = .obj o)
    (hw : ∀ (b : Nat) r, w.heap[b]? = some r → w'.heap[b]? = some r) : Loops B φ' T' w' := by
  refine ⟨h.1.of (Nat.le_refl _) hle.tab (fun b o _ _ e => hw b o e), ?_⟩
  intro id s o e e2
  obtain ⟨f1, f2⟩ := hS id s o e e2
  obtain ⟨h1, ⟨r, h2, h3⟩, h4⟩ := h.2 id s o f1 f2
  refine ⟨h1, ⟨r, hw _ r h2, h3.mono hle⟩, fun j sj o' hj ej ej2 => ?_⟩
  obtain ⟨g1, g2⟩ := hS j sj o' ej ej2
  exact h4 j sj o' hj g1 g2

theorem Sim.more (h : Sim B φ T w) (hm : More w w') : Sim B φ T w' :=
  ⟨fun id s e => ⟨(h.dom id s e).1, Nat.lt_of_lt_of_le (h.dom id s e).2 hm.size⟩, h.gone, fun id s c t sz m an e e2 => by
    obtain ⟨a1, a2, a3, cs, t', a4, a5⟩ := h.blk id s c t sz m an e e2
    exact ⟨a1, a2, a3, cs, t', a4.same (hm.block _ (h.dom id s e).2), a5⟩, h.apart, h.loops.of2 (Emb.le.refl _) (fun _ _ _ e e2 => ⟨e, e2⟩) fun b r e => by rw [hm.block b (Array.getElem?_eq_some_iff.1 e).1]; exact e⟩
theorem SK.more (h : SK B φ0 S0 w0 φ T w) (hm : More w w') : SK B φ0 S0 w0 φ T w' :=
  ⟨h.1.more hm, ⟨h.2.le, h.2.place, h.2.new, Nat.le_trans h.2.size hm.size, h.2.next, hm.os.trans h.2.os, hm.tape.trans h.2.tape, hm.output.trans h.2.output,
    fun b hb hno => by rw [hm.block b (Nat.lt_of_lt_of_le hb h.2.size)]; exact h.2.keep b hb hno, h.2.mine⟩⟩

/-- a block that the model has not made yet. -/
theorem SK.skip (h : SK B φ0 S0 w0 φ T w) (b : Blk) : SK B φ0 S0 w0 φ (T.alloc b) w := by
  have hne : ∀ id s, φ id = some s → id ≠ T.next := fun id s e => by have := (h.1.dom id s e).1; omega
  refine ⟨⟨fun id s e => ⟨by have := (h.1.dom id s e).1; simp; omega, (h.1.dom id s e).2⟩, (fun id hi => by rw [St.get_alloc, if_neg (by simp at hi; omega)]; exact h.1.gone id (by simp at hi; omega)), fun id s c t sz m an e e2 => ?_, fun id s c t sz an e e2 j sj cj tj zj mj aj hj e3 e4 => ?_, h.1.loops.of2 (Emb.le.refl _) (fun id s o e e2 => ⟨e, by rwa [St.get_alloc, if_neg (hne id s e)] at e2⟩) fun _ _ e => e⟩, ?_⟩
  · rw [St.get_alloc, if_neg (hne id s e)] at e2
    exact h.1.blk id s c t sz m an e e2
  · rw [St.get_alloc, if_neg (hne id s e)] at e2
    rw [St.get_alloc, if_neg (hne j sj e3)] at e4
    exact h.1.apart id s c t sz an e e2 j sj cj tj zj mj aj hj e3 e4
  · refine ⟨h.2.le, h.2.place, h.2.new, h.2.size, by have := h.2.next; simp; omega, h.2.os, h.2.tape, h.2.output, h.2.keep, fun id s e e2 hlt => ?_⟩
    rw [St.get_alloc, if_neg (hne id s e)] at e2
    exact h.2.mine id s e e2 hlt

/-- what a block is, right behind its making. -/
inductive Born (φ : Emb) (w : World) (s : Spot) : Blk → Prop where
  | row (c : List Value) (t : TypeId) (cs : Array Value) (t' : TypeId) (hlen : c.length ≤ s.ext) (hg : w.heap[s.b]? = some (.cells cs t' (0, 0))) (hext : s.base + s.ext ≤ cs.size)
    (hcell : ∀ (i : Nat) v, c[i]? = some v → v.oneCell' = true ∧ ∃ v', cs[s.base + i]? = some v' ∧ Rel φ v v') : Born φ w s (.cells c t s.sz true [])
  | map (hb : s.base = 0) (hg : w.heap[s.b]? = some (.map #[] 0)) : Born φ w s (.map [] 0)
theorem Born.mono {ψ : Emb} {s : Spot} {b : Blk} (hle : Emb.le φ ψ) (h : Born φ w s b) : Born ψ w s b := by
  cases h with
  | row c t cs t' h1 h2 h3 h4 =>
    refine .row c t cs t' h1 h2 h3 fun i v hv => ?_
    obtain ⟨q1, v', q2, q3⟩ := h4 i v hv
    exact ⟨q1, v', q2, q3.mono hle⟩
  | map h1 h2 => exact .map h1 h2
theorem Born.same {s : Spot} {b : Blk} (h : Born φ w s b) (e : w'.heap[s.b]? = w.heap[s.b]?) : Born φ w' s b := by
  cases h with
  | row c t cs t' h1 h2 h3 h4 => exact .row c t cs t' h1 (e.trans h2) h3 h4
  | map h1 h2 => exact .map h1 (e.trans h2)
theorem Born.lt {s : Spot} {b : Blk} (h : Born φ w s b) : s.b < w.heap.size := by
  cases h with
  | row c t cs t' h1 h2 h3 h4 => exact (Array.getElem?_eq_some_iff.1 h2).1
  | map h1 h2 => exact (Array.getElem?_eq_some_iff.1 h2).1

/-- a block of the abstract machine that has now been made in the model too. -/
theorem SK.insert (h : SK B φ0 S0 w0 φ T w) {id : Nat} (hid : φ id = none) (h0 : φ0 id = none) (hlt : id < T.next) (hn : S0.next ≤ id) {b : Blk} (hget : T.get id = b) {s : Spot} (hBb : B ≤ s.b) (hborn : Born (φ.add id s) w s b) (hw0 : w0.heap.size ≤ s.b)
    (hapart : ∀ j sj, φ j = some sj → sj.b ≠ s.b) : SK B φ0 S0 w0 (φ.add id s) T w := by
  have hle := Emb.le_add φ id s hid
  have hsb : s.b < w.heap.size := hborn.lt
  refine ⟨⟨fun j sj e => ?_, h.1.gone, fun j sj cj tj zj mj aj e e2 => ?_, fun j sj cj tj zj aj e e2 k sk ck tk zk mk ak hk e3 e4 e5 => ?_, h.1.loops.1.of (Nat.le_refl _) hle.tab (fun _ _ _ _ e => e), fun j sj o e e2 => ?_⟩, ?_⟩
  · by_cases hj : j = id
    · subst hj
      rw [Emb.add_same] at e
      obtain rfl := Option.some.inj e
      exact ⟨hlt, hsb⟩
    · rw [Emb.add_other _ _ hj] at e
      exact h.1.dom j sj e
  · by_cases hj : j = id
    · subst hj
      rw [Emb.add_same] at e
      obtain rfl := Option.some.inj e
      rw [hget] at e2
      subst e2
      cases hborn with
      | row _ _ cs t' h1 h2 h3 h4 => exact ⟨rfl, h1, fun _ => hBb, cs, t', Row.of h2, h3, fun i v hv => h4 i v hv⟩
    · rw [Emb.add_other _ _ hj] at e
      obtain ⟨a1, a2, a3, cs', t2, a4, a5, a6⟩ := h.1.blk j sj cj tj zj mj aj e e2
      refine ⟨a1, a2, a3, cs', t2, a4, a5, fun i v hv => ?_⟩
      obtain ⟨q1, v', q2, q3⟩ := a6 i v hv
      exact ⟨q1, v', q2, q3.mono hle⟩
  · by_cases hj : j = id
    · subst hj
      rw [Emb.add_same] at e
      obtain rfl := Option.some.inj e
      rw [Emb.add_other _ _ hk] at e3
      exact absurd e5 (hapart k sk e3)
    · rw [Emb.add_other _ _ hj] at e
      by_cases hk2 : k = id
      · subst hk2
        rw [Emb.add_same] at e3
        obtain rfl := Option.some.inj e3
        exact absurd e5.symm (hapart j sj e)
      · rw [Emb.add_other _ _ hk2] at e3
        exact h.1.apart j sj cj tj zj aj e e2 k sk ck tk zk mk ak hk e3 e4 e5
  · by_cases hj : j = id
    · subst hj
      rw [Emb.add_same] at e
      obtain rfl := Option.some.inj e
      rw [hget] at e2
      subst e2
      generalize hbb : Blk.obj o = bb at hborn
      cases hborn with
      | row => cases hbb
      | map h1 h2 =>
        obtain rfl := Blk.obj.inj hbb
        exact ⟨⟨hBb, h1⟩, ⟨_, h2, #[], rfl, rfl, fun i h => by simp at h⟩, fun k sk o' hk e3 _ => by
          rw [Emb.add_other _ _ hk] at e3
          exact hapart k sk e3⟩
    · rw [Emb.add_other _ _ hj] at e
      obtain ⟨a1, ⟨r, a2, a3⟩, a4⟩ := h.1.loops.2 j sj o e e2
      refine ⟨a1, ⟨r, a2, a3.mono hle⟩, fun k sk o' hk e3 e4 => ?_⟩
      by_cases hk2 : k = id
      · subst hk2
        rw [Emb.add_same] at e3
        obtain rfl := Option.some.inj e3
        exact (hapart j sj e).symm
      · rw [Emb.add_other _ _ hk2] at e3
        exact a4 k sk o' hk e3 e4
  · refine ⟨h.2.le.trans hle, fun j sj e e2 => ?_, fun j sj e e2 => ?_, h.2.size, h.2.next, h.2.os, h.2.tape, h.2.output, h.2.keep, fun j sj e e2 hl => ?_⟩
    · by_cases hj : j = id
      · subst hj
        rw [Emb.add_same] at e
        obtain rfl := Option.some.inj e
        exact .inl hw0
      · rw [Emb.add_other _ _ hj] at e
        exact h.2.place j sj e e2
    · by_cases hj : j = id
      · subst hj; exact hn
      · rw [Emb.add_other _ _ hj] at e
        exact h.2.new j sj e e2
    · by_cases hj : j = id
      · subst hj
        rw [Emb.add_same] at e
        obtain rfl := Option.some.inj e
        omega
      · rw [Emb.add_other _ _ hj] at e
        exact h.2.mine j sj e e2 hl

/-- the memory without blocks. -/
def St.bare (m : Nat) : St := { heap := .leaf, next := m }
theorem bare_get (m id : Nat) : (St.bare m).get id = .gone := rfl
theorem bare_sim (B : Nat) {φ : Emb} {m : Nat} {w : World} (ht : GlobOK B φ w) (h : ∀ id s, φ id = some s → id < m ∧ s.b < w.heap.size) : Sim B φ (St.bare m) w :=
  ⟨h, fun _ _ => rfl, (fun id s c t sz m an e e2 => by rw [bare_get] at e2; cases e2), (fun id s c t sz an e e2 => by rw [bare_get] at e2; cases e2), ht, (fun id s o e e2 => by rw [bare_get] at e2; cases e2)⟩
theorem bare_more {φ' : Emb} {m : Nat} {S' : St} (h : Keep B φ (St.bare m) w φ' S' w') : More w w' :=
  ⟨h.size, fun b hb => h.keep b hb (fun id s _ _ => by rw [bare_get]; rfl), h.os, h.tape, h.output⟩

theorem gload_any {l : List Value} {S S' : St} {v : Value} (h : xextra .gload l S = some (v, S')) (R : St) : S' = S ∧ xextra .gload l R = some (v, R) := by
  unfold xextra at h ⊢
  split at h
  all_goals first | contradiction | skip
  split at h
  · rename_i hg
    obtain ⟨rfl, rfl⟩ := Prod.mk.inj (Option.some.inj h)
    exact ⟨rfl, by simp [hg]⟩
  · cases h
theorem lookG_any {z : Value} {ok : Bool} {l : List Value} {S S' : St} {v : Value} (h : xextra (.lookG z ok) l S = some (v, S')) (R : St) : S' = S ∧ xextra (.lookG z ok) l R = some (v, R) := by
  unfold xextra at h
  split at h
  all_goals first | contradiction | skip
  rename_i e1
  obtain ⟨rfl, rfl⟩ := EOp.lookG.inj e1
  split at h
  · rename_i hg
    obtain ⟨rfl, rfl⟩ := Prod.mk.inj (Option.some.inj h)
    exact ⟨rfl, by simp [xextra, hg]⟩
  · cases h
theorem pure_any {o : XOp} (h1 : anch o = false) (h2 : heapy o = false) (h3 : isAlloc o = false) {ρ : Operand → Value} {S S' : St} {v : Value} (h : xop o ρ S = some (v, S')) (R : St) : S' = S ∧ xop o ρ R = some (v, R) := by
  cases o
  case extra e l =>
    cases e
    case gload => exact gload_any h R
    case lookG z ok => exact lookG_any h R
    case nilF neg =>
      simp only [xop] at h ⊢
      obtain ⟨x, b, e1, e2, rfl, rfl⟩ := nilF_inv h
      rw [e1]
      exact ⟨rfl, by simp [xextra, e2]⟩
    all_goals first | (simp [anch] at h1; done) | (simp [isAlloc] at h3; done)
  all_goals (first | (simp [anch] at h1; done) | (simp [heapy] at h2; done) | (simp [isAlloc] at h3; done) | skip)
  all_goals simp only [xop] at h ⊢
  all_goals first
    | (simp only [Option.some.injEq, Prod.mk.injEq] at h ⊢; obtain ⟨rfl, rfl⟩ := h; simp; done)
    | (simp only [Option.map_eq_some_iff, Prod.mk.injEq] at h; obtain ⟨v0, h, rfl, rfl⟩ := h; simp [h]; done)
    | (split at h <;> first
        | (cases h; done)
        | (simp only [Option.some.injEq, Prod.mk.injEq] at h ⊢; obtain ⟨rfl, rfl⟩ := h; simp; done)
        | (simp only [Option.map_eq_some_iff, Prod.mk.injEq] at h; obtain ⟨v0, h, rfl, rfl⟩ := h; simp [h]; done)
        | (split at h <;> first
            | (cases h; done)
            | (simp only [Option.some.injEq, Prod.mk.injEq] at h ⊢; obtain ⟨rfl, rfl⟩ := h; simp; done)
            | (rename_i hc; simp only [Option.map_eq_some_iff, Prod.mk.injEq] at h; obtain ⟨v0, h, rfl, rfl⟩ := h; simp [h, hc]; done)
            | (rename_i hc; simp only [Option.some.injEq, Prod.mk.injEq] at h ⊢; obtain ⟨rfl, rfl⟩ := h; simp [hc]; done)
            | (split at h <;> first
                | (cases h; done)
                | (rename_i hc; simp only [Option.some.injEq, Prod.mk.injEq] at h ⊢; obtain ⟨rfl, rfl⟩ := h; simp [*]; done))))

/-- what an operation that floats makes. -/
def NewB (b : Blk) : Prop := (∃ c t sz, b = .cells c t sz true []) ∨ b = .map [] 0
theorem alloc_any {o : XOp} (h3 : isAlloc o = true) {ρ : Operand → Value} {S S' : St} {v : Value} (h : xop o ρ S = some (v, S')) : ∃ b, NewB b ∧ S' = S.alloc b ∧ xop o ρ (St.bare S.next) = some (v, (St.bare S.next).alloc b) ∧
    ((∃ n k, v = .slice (some ⟨S.next, 0, none⟩) n k) ∨ v = .pointer (some ⟨S.next, 0, none⟩) ∨ v = .map (some S.next)) := by
  cases o
  case extra e l =>
    cases e
    case mkMap =>
      simp only [xop, xextra] at h ⊢
      obtain ⟨rfl, rfl⟩ := Prod.mk.inj (Option.some.inj h)
      exact ⟨_, .inr rfl, rfl, by simp [St.bare], .inr (.inr rfl)⟩
    all_goals (simp [isAlloc] at h3; done)
  all_goals (first | (simp [isAlloc] at h3; done) | skip)
  case box t x =>
    simp only [xop] at h ⊢
    split at h
    case isFalse => cases h
    rename_i hc
    obtain ⟨rfl, rfl⟩ := Prod.mk.inj (Option.some.inj h)
    exact ⟨_, .inl ⟨_, _, _, rfl⟩, rfl, by simp [hc, St.bare], .inr (.inl rfl)⟩
  case zero t z =>
    simp only [xop] at h ⊢
    obtain ⟨rfl, rfl⟩ := Prod.mk.inj (Option.some.inj h)
    exact ⟨_, .inl ⟨_, _, _, rfl⟩, rfl, by simp [St.bare], .inr (.inl rfl)⟩
  case mkSlice e esz bytes z l c =>
    simp only [xop] at h ⊢
    split at h
    case h_2 => cases h
    rename_i e1 e2
    split at h
    case isFalse => cases h
    rename_i hc
    obtain ⟨rfl, rfl⟩ := Prod.mk.inj (Option.some.inj h)
    exact ⟨_, .inl ⟨_, _, _, rfl⟩, rfl, by simp [hc, St.bare], .inl ⟨_, _, rfl⟩⟩
  case buildSlice e esz n z parts =>
    simp only [xop] at h ⊢
    split at h
    case isFalse => cases h
    rename_i hz
    simp only [Option.bind_eq_some_iff] at h
    obtain ⟨l, hl, h⟩ := h
    split at h
    case isFalse => cases h
    rename_i hone
    obtain ⟨rfl, rfl⟩ := Prod.mk.inj (Option.some.inj h)
    exact ⟨_, .inl ⟨_, _, _, rfl⟩, rfl, by simp [hz, hl, hone, St.bare], .inl ⟨_, _, rfl⟩⟩
end
end Go.Proofs.YtofjnhdgkhfgnaaDoor

/- The records of loops over functions in the model's memory. No program in sight. -/
import Derived.Test.YtofjnhdgkhfgnaaDoorMk
set_option linter.unusedVariables false
namespace Go.Proofs.YtofjnhdgkhfgnaaDoor
open Go Go.RowKit

section
variable {B : Nat} {φ : Emb} {S : St} {w : World}

/-- the round that is under way. -/
def InR (r : Option Nat) (φ : Emb) (S : St) (w : World) : Prop := ∀ l, r = some l → (∃ r0, w.heap[l]? = some (.loop r0)) ∧ NoWr φ S l
theorem InR.none (φ : Emb) (S : St) (w : World) : InR Option.none φ S w := fun l h => by cases h
theorem InR.same {r : Option Nat} (h : InR r φ S w) {φ' : Emb} {S' : St} {w' : World} (hk : Keep B φ S w φ' S' w') : InR r φ' S' w' := fun l e => by
  obtain ⟨⟨r0, h1⟩, h2⟩ := h l e
  have hlt := (Array.getElem?_eq_some_iff.1 h1).1
  exact ⟨⟨r0, by rw [hk.keep l hlt h2]; exact h1⟩, h2.keep hlt hk⟩

/-- the marks that loops over functions leave among the deferred calls. -/
def Marks (lo : Nat) (w : World) : List Deferred → Prop
  | [] => True
  | d :: l => (∃ D, d = { target := .collected D, args := #[] } ∧ lo ≤ D ∧ w.heap[D]? = some (.deferred (some [])) ∧ ∀ d' ∈ l, d'.target ≠ .collected D) ∧ Marks lo w l

theorem Marks.lower {lo lo' : Nat} (h : lo' ≤ lo) : ∀ {l : List Deferred}, Marks lo w l → Marks lo' w l
  | [], _ => trivial
  | _ :: _, ⟨⟨D, h1, h2, h3, h4⟩, h5⟩ => ⟨⟨D, h1, Nat.le_trans h h2, h3, h4⟩, h5.lower h⟩

theorem noWr_deferred (h : Sim B φ S w) {D : Nat} {o : Obj} (hD : w.heap[D]? = some o) (hc : isRow o = false) (hl : isObj o = false) : NoWr φ S D := by
  intro id s e eb
  cases hw : (S.get id).wr with
  | false => rfl
  | true =>
    rcases wr_inv hw with ⟨c, t, sz, an, e3⟩ | ⟨o2, e3⟩
    · obtain ⟨_, _, _, cs, t', ⟨fr, b4, _⟩, _⟩ := h.blk id s c t sz true an e e3
      rw [eb, hD] at b4
      rw [Option.some.inj b4] at hc
      cases hc
    · obtain ⟨_, ⟨r, b2, b3⟩, _⟩ := h.loops.2 id s o2 e e3
      rw [eb, hD] at b2
      have := b3.isObj
      rw [← Option.some.inj b2, hl] at this
      cases this

theorem Marks.keep {lo : Nat} {φ' : Emb} {S' : St} {w' : World} (hs : Sim B φ S w) (hk : Keep B φ S w φ' S' w') : ∀ {l : List Deferred}, Marks lo w l → Marks lo w' l
  | [], _ => trivial
  | _ :: _, ⟨⟨D, h1, h2, h3, h4⟩, h5⟩ => ⟨⟨D, h1, h2, by
      rw [hk.keep D (Array.getElem?_eq_some_iff.1 h3).1 (noWr_deferred hs h3 rfl rfl)]; exact h3, h4⟩, h5.keep hs hk⟩

theorem Marks.lt {lo : Nat} : ∀ {l : List Deferred}, Marks lo w l → ∀ d ∈ l, ∃ D, d.target = .collected D ∧ D < w.heap.size
  | _ :: l, ⟨⟨D, h1, h2, h3, h4⟩, h5⟩, d, hd => by
    rcases List.mem_cons.1 hd with rfl | hd
    · exact ⟨D, by rw [h1], (Array.getElem?_eq_some_iff.1 h3).1⟩
    · exact h5.lt d hd

theorem Marks.append {lo lo2 : Nat} (hle : lo ≤ lo2) : ∀ {l2 l : List Deferred}, Marks lo2 w l2 → Marks lo w l → (∀ d ∈ l, ∃ D, d.target = .collected D ∧ D < lo2) → Marks lo w (l2 ++ l)
  | [], _, _, h, _ => h
  | _ :: l2, l, ⟨⟨D, h1, h2, h3, h4⟩, h5⟩, h, hlt => ⟨⟨D, h1, Nat.le_trans hle h2, h3, fun d' hd' => by
      rcases List.mem_append.1 hd' with h' | h'
      · exact h4 d' h'
      · obtain ⟨D', e, hlt'⟩ := hlt d' h'
        rw [e]
        intro e'
        have := Go.Target.collected.inj e'
        omega⟩, h5.append hle h hlt⟩

theorem Marks.putObj {lo : Nat} {b : Nat} (o : Obj) : ∀ {l : List Deferred}, Marks lo w l → (∀ d ∈ l, d.target ≠ .collected b) → Marks lo (w.putObj b o) l
  | [], _, _ => trivial
  | _ :: l, ⟨⟨D, h1, h2, h3, h4⟩, h5⟩, hb => ⟨⟨D, h1, h2, by
      rw [World.putObj_heap_other]
      · exact h3
      · intro e
        exact hb _ List.mem_cons_self (by rw [h1, e]), h4⟩, h5.putObj o fun d hd => hb d (List.mem_cons_of_mem _ hd)⟩

/-- a function is left: the marks are taken. -/
theorem leaves_marks {P : Program} {F : Fence} {n : Nat} {fn : Func} {tmps : Array Value} {R : Ending → World → Prop} {lo : Nat} :
    ∀ (l : List Deferred) (w : World) (hs : Sim B φ S w), Marks lo w l → (∀ w', (∀ D, D < lo → w'.heap[D]? = w.heap[D]?) → w.heap.size = w'.heap.size → w'.os = w.os → w'.tape = w.tape → w'.output = w.output → Sim B φ S w' → ∃ v, (results fn tmps).run P w' = .ok v w' ∧ R (.returned v) w') → LeavesInM F n P fn tmps R l .returning w
  | [], w, hs, _, h => h w (fun _ _ => rfl) rfl rfl rfl rfl hs
  | d :: l, w, hs, ⟨⟨D, h1, h2, h3, h4⟩, h5⟩, h => by
    refine ⟨by simp, .inl ⟨D, w.putObj D (.deferred none), by rw [h1], run_takeDeferred h3, ?_⟩⟩
    refine leaves_marks l _ (hs.putOther _ h3 rfl (noWr_deferred hs h3 rfl rfl) (.inr rfl)) (h5.putObj _ h4) fun w' g1 g2 g3 g4 g5 g6 => h w' (fun D' hD' => ?_) (by simpa using g2) g3 g4 g5 g6
    rw [g1 D' hD', World.putObj_heap_other (by omega)]
end
end Go.Proofs.YtofjnhdgkhfgnaaDoor

/- Several lists of one's own at a time: each block has a colour, and a step of one colour leaves the others alone. -/
import Derived.Test.YtmbbebfpjclghaaMz
set_option linter.unusedVariables false
set_option linter.unnecessarySimpa false
namespace Go.Proofs.Ytmbbebfpjclghaa
open Go Go.RowKit

abbrev Col := Nat → Nat
structure Chg (col : Col) (c : Nat) (S : St) (col' : Col) (S' : St) : Prop where
  next : S.next ≤ S'.next
  hcol : ∀ id, id < S.next → col' id = col id
  get : ∀ id, id < S.next → col id ≠ c → S'.get id = S.get id
theorem Chg.refl (col : Col) (c : Nat) (S : St) : Chg col c S col S := ⟨Nat.le_refl _, fun _ _ => rfl, fun _ _ _ => rfl⟩
theorem Chg.of_ext {col : Col} {c : Nat} {S S' : St} (h : Ext S S') : Chg col c S col S' := ⟨h.next, fun _ _ => rfl, fun id hid _ => h.get id hid⟩
theorem Chg.trans {col col' col'' : Col} {c : Nat} {S S' S'' : St} (h : Chg col c S col' S') (k : Chg col' c S' col'' S'') : Chg col c S col'' S'' :=
  ⟨Nat.le_trans h.next k.next, fun id hid => (k.hcol id (Nat.lt_of_lt_of_le hid h.next)).trans (h.hcol id hid), fun id hid hc => (k.get id (Nat.lt_of_lt_of_le hid h.next) (by rw [h.hcol id hid]; exact hc)).trans (h.get id hid hc)⟩
/-- new blocks have the colour c. -/
def paint (col : Col) (S : St) (c : Nat) : Col := fun id => if id < S.next then col id else c
theorem paint_new (col : Col) (S : St) (c : Nat) {id : Nat} (h : S.next ≤ id) : paint col S c id = c := by unfold paint; rw [if_neg (by omega)]
theorem paint_old (col : Col) (S : St) (c : Nat) {id : Nat} (h : id < S.next) : paint col S c id = col id := by unfold paint; rw [if_pos h]
theorem Chg.paint {col : Col} {c d : Nat} {S S' : St} (h : Chg col c S col S') : Chg col c S (Go.Proofs.Ytmbbebfpjclghaa.paint col S d) S' :=
  ⟨h.next, fun id hid => paint_old _ _ _ hid, h.get⟩

/-- what was there before. -/
structure Floor (col : Col) (S0 S : St) : Prop where
  hcol : ∀ id, id < S0.next → col id = 0
  ext : Ext S0 S
theorem Floor.start (S0 S : St) (h : Ext S0 S) : Floor (fun _ => 0) S0 S := ⟨fun _ _ => rfl, h⟩
theorem Floor.chg {col col' : Col} {c : Nat} {S0 S S' : St} (h : Floor col S0 S) (k : Chg col c S col' S') (hc : c ≠ 0) : Floor col' S0 S' :=
  ⟨fun id hid => (k.hcol id (Nat.lt_of_lt_of_le hid h.ext.next)).trans (h.hcol id hid), ⟨Nat.le_trans h.ext.next k.next, fun id hid => (k.get id (Nat.lt_of_lt_of_le hid h.ext.next) (by rw [h.hcol id hid]; exact fun e => hc e.symm)).trans (h.ext.get id hid)⟩⟩

/-- a box of one's own. -/
def BoxK (S : St) (col : Col) (c : Nat) (id : Nat) (cs : List Value) (t : TypeId) (z : Nat) : Prop := S.get id = .cells cs t z true [] ∧ col id = c ∧ id < S.next
theorem BoxK.keep {S S' : St} {col col' : Col} {c c' id : Nat} {cs : List Value} {t : TypeId} {z : Nat} (h : BoxK S col c id cs t z) (k : Chg col c' S col' S') (hc : c ≠ c') : BoxK S' col' c id cs t z :=
  ⟨by rw [k.get id h.2.2 (by rw [h.2.1]; exact hc)]; exact h.1, (k.hcol id h.2.2).trans h.2.1, Nat.lt_of_lt_of_le h.2.2 k.next⟩
theorem BoxK.mono {S S' : St} {col : Col} {c id : Nat} {cs : List Value} {t : TypeId} {z : Nat} (h : BoxK S col c id cs t z) (k : Ext S S') : BoxK S' col c id cs t z :=
  ⟨by rw [k.get id h.2.2]; exact h.1, h.2.1, Nat.lt_of_lt_of_le h.2.2 k.next⟩
theorem BoxK.alloc (S : St) (col : Col) (c c' : Nat) (cs : List Value) (t : TypeId) (z : Nat) : BoxK (S.alloc (.cells cs t z true [])) (paint col S c) c S.next cs t z ∧ Chg col c' S (paint col S c) (S.alloc (.cells cs t z true [])) :=
  ⟨⟨get_alloc_self _ _, paint_new _ _ _ (Nat.le_refl _), by simp⟩, (Chg.of_ext (Ext.alloc _ _)).paint⟩
theorem BoxK.write {S : St} {col : Col} {c id : Nat} {cs : List Value} {t : TypeId} {z : Nat} (h : BoxK S col c id cs t z) (cs' : List Value) : BoxK (S.write id cs' t z []) col c id cs' t z ∧ Chg col c S col (S.write id cs' t z []) := by
  refine ⟨⟨get_write_self _ _ _ _ _ _, h.2.1, by simpa using h.2.2⟩, ⟨by simp, fun _ _ => rfl, fun j _ hc => ?_⟩⟩
  rw [get_write_ne _ _ _ _ _ _ (fun e => hc (by rw [e]; exact h.2.1))]

section
variable {α : Type} [Enc α]

/-- a list of one's own, of one colour. -/
def OwnK (S : St) (col : Col) (c : Nat) (v : Value) (l : List α) : Prop :=
  (v = .slice none 0 0 ∧ l = []) ∨ ∃ id t an, v = .slice (some ⟨id, 0, none⟩) l.length l.length ∧ S.get id = .cells (encs l) t (Enc.w α) true an ∧ col id = c ∧ id < S.next ∧ ∀ j ∈ an, col j = c ∧ j < S.next
theorem OwnK.nil (S : St) (col : Col) (c : Nat) : OwnK S col c (.slice none 0 0) ([] : List α) := .inl ⟨rfl, rfl⟩
theorem OwnK.rd {S : St} {col : Col} {c : Nat} {v : Value} {l : List α} (h : OwnK S col c v l) : RdS S v l := by
  rcases h with h | ⟨id, t, an, rfl, h1, _, h2, _⟩
  · exact .inl h
  · exact .inr ⟨id, 0, _, _, t, _, _, rfl, Nat.le_refl _, h2, h1, by rw [encs_length]; omega, by simp [← encs_length]⟩
theorem OwnK.keep {S S' : St} {col col' : Col} {c c' : Nat} {v : Value} {l : List α} (h : OwnK S col c v l) (k : Chg col c' S col' S') (hc : c ≠ c') : OwnK S' col' c v l := by
  rcases h with h | ⟨id, t, an, rfl, h1, h2, h3, h4⟩
  · exact .inl h
  · exact .inr ⟨id, t, an, rfl, by rw [k.get id h3 (by rw [h2]; exact hc)]; exact h1, (k.hcol id h3).trans h2, Nat.lt_of_lt_of_le h3 k.next, fun j hj => ⟨(k.hcol j (h4 j hj).2).trans (h4 j hj).1, Nat.lt_of_lt_of_le (h4 j hj).2 k.next⟩⟩
theorem OwnK.mono {S S' : St} {col : Col} {c : Nat} {v : Value} {l : List α} (h : OwnK S col c v l) (k : Ext S S') : OwnK S' col c v l := by
  rcases h with h | ⟨id, t, an, rfl, h1, h2, h3, h4⟩
  · exact .inl h
  · exact .inr ⟨id, t, an, rfl, by rw [k.get id h3]; exact h1, h2, Nat.lt_of_lt_of_le h3 k.next, fun j hj => ⟨(h4 j hj).1, Nat.lt_of_lt_of_le (h4 j hj).2 k.next⟩⟩
theorem OwnK.own {S : St} {col : Col} {c : Nat} {v : Value} {l : List α} {b : Nat} (h : OwnK S col c v l) (hb : ∀ id, id < b → col id ≠ c) : Own S b v l := by
  rcases h with h | ⟨id, t, an, rfl, h1, h2, h3, h4⟩
  · exact .inl h
  · exact .inr ⟨id, t, an, rfl, h1, Nat.le_of_not_lt fun hlt => hb id hlt h2, h3, fun j hj => Nat.le_of_not_lt fun hlt => hb j hlt (h4 j hj).1⟩
theorem OwnK.made (S : St) (col : Col) (c c' : Nat) (l : List α) (t : TypeId) (n : Nat) (hn : n = l.length) (cs : List Value) (hc : cs = encs l) : OwnK (S.alloc (.cells cs t (Enc.w α) true [])) (paint col S c) c (.slice (some ⟨S.next, 0, none⟩) n n) l ∧ Chg col c' S (paint col S c) (S.alloc (.cells cs t (Enc.w α) true [])) := by
  subst hn hc
  exact ⟨.inr ⟨S.next, t, [], rfl, by rw [get_alloc_self], paint_new _ _ _ (Nat.le_refl _), by simp, by simp⟩, (Chg.of_ext (Ext.alloc _ _)).paint⟩
theorem OwnK.store {S : St} {col : Col} {c : Nat} {v : Value} {l : List α} (h : OwnK S col c v l) (i : Nat) (hi : i < l.length) (a : α) :
    ∃ id o cs t z an, iav (Enc.w α) v (.int .i64 i) = some (.pointer (some ⟨id, o, none⟩)) ∧ stv (Enc.w α) (Enc.e a) o (S.get id) = some (cs, t, z, an) ∧ OwnK (S.write id cs t z an) col c v (l.set i a) ∧ Chg col c S col (S.write id cs t z an) ∧ id < S.next := by
  rcases h with ⟨rfl, rfl⟩ | ⟨id, t, an, rfl, h1, h2, h3, h4⟩
  · exact absurd hi (by simp)
  · have hm : i * Enc.w α + Enc.w α ≤ l.length * Enc.w α := by
      have := Nat.mul_le_mul_right (Enc.w α) (show i + 1 ≤ l.length by omega)
      rw [Nat.add_mul] at this; omega
    refine ⟨id, 0 + i * Enc.w α, encs (l.set i a), t, Enc.w α, an, ?_, ?_, ?_, ⟨by simp, fun _ _ => rfl, fun j _ hc => ?_⟩, h3⟩
    · simp only [iav]
      rw [if_pos ⟨by omega, by omega⟩]
      simp
    · rw [h1, stv_cells, if_pos ⟨Enc.len a, by rw [encs_length]; omega⟩, Nat.zero_add, encs_set l i hi a]
    · exact .inr ⟨id, t, [], by simp, by rw [St.get_write, if_pos rfl], h2, by simpa using h3, by simp⟩
    · rw [St.get_write, if_neg (fun e => hc (by rw [e]; exact h2)), if_neg (fun e => hc (h4 j e).1)]
theorem OwnK.append {S : St} {col : Col} {c : Nat} {v x : Value} {l m : List α} (h : OwnK S col c v l) (hx : RdS S x m) (e : TypeId) (bytes : Nat) (hr : (l.length + m.length) * bytes ≤ reach) (hbytes : 0 < bytes) :
    ∃ r S' col', xappend e (Enc.w α) bytes v x S = some (r, S') ∧ OwnK S' col' c r (l ++ m) ∧ Chg col c S col' S' ∧ ExtL S S' := by
  have hn := hx.elems
  have hl := hx.vlen
  unfold xappend
  rw [hn, hl]
  simp only
  by_cases hm : m.length = 0
  · rw [if_pos hm]
    obtain rfl : m = [] := List.eq_nil_of_length_eq_zero hm
    rcases h with ⟨rfl, rfl⟩ | ⟨id, t, an, rfl, h1, h2⟩
    · exact ⟨_, _, col, rfl, .inl ⟨rfl, rfl⟩, Chg.refl _ _ _, ExtL.refl _⟩
    · exact ⟨_, _, col, rfl, .inr ⟨id, t, an, by simp, by simpa using h1, h2⟩, Chg.refl _ _ _, ExtL.refl _⟩
  · rw [if_neg hm]
    have hc : (allOne (encs m) && decide (0 < Enc.w α) && decide (0 < bytes)) = true := by
      simp [encs_flat, Enc.pos, hbytes]
    rw [if_pos hc]
    rcases h with ⟨rfl, rfl⟩ | ⟨id, t, an, rfl, h1, h2, h3, h4⟩
    · simp only
      rw [if_pos (by simpa using hr)]
      exact ⟨_, _, paint col S c, rfl, .inr ⟨S.next, e, [], by simp, by rw [get_alloc_self]; simp, paint_new _ _ _ (Nat.le_refl _), by simp, by simp⟩, (Chg.of_ext (Ext.alloc S _)).paint, (Ext.alloc _ _).toL⟩
    · simp only [h1]
      rw [if_pos ⟨trivial, trivial, by rw [encs_length]; omega⟩, if_pos hr]
      refine ⟨_, _, paint col S c, rfl, .inr ⟨S.next, e, id :: an, by simp, ?_, paint_new _ _ _ (Nat.le_refl _), by simp [St.grow], ?_⟩, ⟨by simp [St.grow], fun j hj => paint_old _ _ _ hj, fun j hj hc => ?_⟩, ExtL.grow h1 _ _⟩
      · unfold St.grow
        rw [St.get_alloc, if_pos (by simp)]
        simp
      · intro j hj
        have hj' : col j = c ∧ j < S.next := by
          rcases List.mem_cons.1 hj with rfl | hj
          · exact ⟨h2, h3⟩
          · exact h4 j hj
        exact ⟨by rw [paint_old _ _ _ hj'.2]; exact hj'.1, by have := hj'.2; simp [St.grow]; omega⟩
      · unfold St.grow
        rw [St.get_alloc, if_neg (by simp; omega), St.get_put, if_neg (fun e => hc (by rw [e]; exact h2))]
end

/-- .. of several colours. -/
structure ChgP (col : Col) (C : Nat → Prop) (S : St) (col' : Col) (S' : St) : Prop where
  next : S.next ≤ S'.next
  hcol : ∀ id, id < S.next → col' id = col id
  get : ∀ id, id < S.next → ¬ C (col id) → S'.get id = S.get id
theorem Chg.toP {col col' : Col} {c : Nat} {C : Nat → Prop} {S S' : St} (h : Chg col c S col' S') (hc : C c) : ChgP col C S col' S' := ⟨h.next, h.hcol, fun id hid hn => h.get id hid (fun e => hn (by rw [e]; exact hc))⟩
theorem ChgP.of_ext {col : Col} {C : Nat → Prop} {S S' : St} (h : Ext S S') : ChgP col C S col S' := ⟨h.next, fun _ _ => rfl, fun id hid _ => h.get id hid⟩
theorem ChgP.trans {col col' col'' : Col} {C : Nat → Prop} {S S' S'' : St} (h : ChgP col C S col' S') (k : ChgP col' C S' col'' S'') : ChgP col C S col'' S'' :=
  ⟨Nat.le_trans h.next k.next, fun id hid => (k.hcol id (Nat.lt_of_lt_of_le hid h.next)).trans (h.hcol id hid), fun id hid hc => (k.get id (Nat.lt_of_lt_of_le hid h.next) (by rw [h.hcol id hid]; exact hc)).trans (h.get id hid hc)⟩
theorem Floor.chgP {col col' : Col} {C : Nat → Prop} {S0 S S' : St} (h : Floor col S0 S) (k : ChgP col C S col' S') (hc : ¬ C 0) : Floor col' S0 S' :=
  ⟨fun id hid => (k.hcol id (Nat.lt_of_lt_of_le hid h.ext.next)).trans (h.hcol id hid), ⟨Nat.le_trans h.ext.next k.next, fun id hid => (k.get id (Nat.lt_of_lt_of_le hid h.ext.next) (by rw [h.hcol id hid]; exact hc)).trans (h.ext.get id hid)⟩⟩
theorem BoxK.keepP {S S' : St} {col col' : Col} {c id : Nat} {C : Nat → Prop} {cs : List Value} {t : TypeId} {z : Nat} (h : BoxK S col c id cs t z) (k : ChgP col C S col' S') (hc : ¬ C c) : BoxK S' col' c id cs t z :=
  ⟨by rw [k.get id h.2.2 (by rw [h.2.1]; exact hc)]; exact h.1, (k.hcol id h.2.2).trans h.2.1, Nat.lt_of_lt_of_le h.2.2 k.next⟩
theorem OwnK.keepP {α : Type} [Enc α] {S S' : St} {col col' : Col} {c : Nat} {C : Nat → Prop} {v : Value} {l : List α} (h : OwnK S col c v l) (k : ChgP col C S col' S') (hc : ¬ C c) : OwnK S' col' c v l := by
  rcases h with h | ⟨id, t, an, rfl, h1, h2, h3, h4⟩
  · exact .inl h
  · exact .inr ⟨id, t, an, rfl, by rw [k.get id h3 (by rw [h2]; exact hc)]; exact h1, (k.hcol id h3).trans h2, Nat.lt_of_lt_of_le h3 k.next, fun j hj => ⟨(k.hcol j (h4 j hj).2).trans (h4 j hj).1, Nat.lt_of_lt_of_le (h4 j hj).2 k.next⟩⟩
theorem OwnK.boxc {α : Type} [Enc α] {S : St} {col : Col} {c : Nat} {v : Value} {l : List α} (h : OwnK S col c v l) : boxc v = some [v] := by
  rcases h with ⟨rfl, _⟩ | ⟨j, t, an, rfl, _⟩ <;> simp [Go.Proofs.Ytmbbebfpjclghaa.boxc, Value.cells, allOne, Value.oneCell']
theorem Floor.mono {col : Col} {S0 S S' : St} (h : Floor col S0 S) (k : Ext S S') : Floor col S0 S' := ⟨h.hcol, h.ext.trans k⟩
end Go.Proofs.Ytmbbebfpjclghaa

/- Lists in the abstract memory. -/
import Derived.Test.YtofjnhdgkhfgnaaDoorMx
namespace Go.Proofs.YtofjnhdgkhfgnaaDoor
open Go Go.RowKit

/-- how an element lies in memory. -/
class Enc (α : Type) where
  w : Nat
  e : α → List Value
  len : ∀ a, (e a).length = w
  flat : ∀ a, allOne (e a) = true
  pos : 0 < w

/-- nothing below b has turned. -/
structure Fr (b : Nat) (S S' : St) : Prop where
  next : S.next ≤ S'.next
  get : ∀ id, id < b → S'.get id = S.get id
theorem Fr.refl (b : Nat) (S : St) : Fr b S S := ⟨Nat.le_refl _, fun _ _ => rfl⟩
theorem Fr.trans {b : Nat} {S S' S'' : St} (h : Fr b S S') (k : Fr b S' S'') : Fr b S S'' := ⟨Nat.le_trans h.next k.next, fun id hid => (k.get id hid).trans (h.get id hid)⟩
theorem Ext.fr {S S' : St} (h : Ext S S') {b : Nat} (hb : b ≤ S.next) : Fr b S S' := ⟨h.next, fun id hid => h.get id (Nat.lt_of_lt_of_le hid hb)⟩
theorem Fr.ext {S S' : St} (h : Fr S.next S S') : Ext S S' := ⟨h.next, h.get⟩
theorem Fr.alloc {b : Nat} (S : St) (k : Blk) (hb : b ≤ S.next) : Fr b S (S.alloc k) := (Ext.alloc S k).fr hb
theorem Fr.write {b : Nat} (S : St) {id : Nat} (c : List Value) (t : TypeId) (z : Nat) {an : List Nat} (hb : b ≤ id) (ha : ∀ j ∈ an, b ≤ j) : Fr b S (S.write id c t z an) := ⟨by simp, fun j hj => by
  rw [St.get_write, if_neg (by omega), if_neg]
  intro hm
  have := ha j hm
  omega⟩
theorem Fr.grow {b : Nat} (S : St) {id : Nat} (c : List Value) (t : TypeId) (z : Nat) {an : List Nat} (c2 : List Value) (t2 : TypeId) (hb : b ≤ id) (hS : b ≤ S.next) : Fr b S (S.grow id c t z an c2 t2) := ⟨by simp [St.grow], fun j hj => by
  unfold St.grow
  rw [St.get_alloc, if_neg (by simp; omega), St.get_put, if_neg (by omega)]⟩

def w64 (n : Int) : Int := IntKind.i64.wrap n
theorem w64_ok {n : Int} (h : -9223372036854775808 ≤ n) (h' : n ≤ 9223372036854775807) : w64 n = n := by
  unfold w64
  rw [IntKind.wrap_i64]
  omega
theorem xbin_add (a b : Int) : xbin .add (.int .i64 a) (.int .i64 b) = some (.int .i64 (w64 (a + b))) := Eq.trans rfl rfl
theorem xbin_sub (a b : Int) : xbin .sub (.int .i64 a) (.int .i64 b) = some (.int .i64 (w64 (a - b))) := Eq.trans rfl rfl
theorem xbin_mul (a b : Int) : xbin .mul (.int .i64 a) (.int .i64 b) = some (.int .i64 (w64 (a * b))) := Eq.trans rfl rfl
theorem xbin_quo (a b : Int) (h : b ≠ 0) : xbin .quo (.int .i64 a) (.int .i64 b) = some (.int .i64 (w64 (a.tdiv b))) := by simp [xbin, xbinI, w64, h]
theorem xbin_rem (a b : Int) (h : b ≠ 0) : xbin .rem (.int .i64 a) (.int .i64 b) = some (.int .i64 (a.tmod b)) := by simp [xbin, xbinI, h]
theorem xbin_eql (a b : Int) : xbin .eql (.int .i64 a) (.int .i64 b) = some (.bool (decide (a = b))) := by
  simp only [xbin, xbinI, if_pos]; congr 2
theorem xbin_neq (a b : Int) : xbin .neq (.int .i64 a) (.int .i64 b) = some (.bool (decide (a ≠ b))) := by
  simp only [xbin, xbinI, if_pos]; congr 2; simp [bne, ← Bool.beq_eq_decide_eq]
theorem xbin_lss (a b : Int) : xbin .lss (.int .i64 a) (.int .i64 b) = some (.bool (decide (a < b))) := Eq.trans rfl rfl
theorem xbin_leq (a b : Int) : xbin .leq (.int .i64 a) (.int .i64 b) = some (.bool (decide (a ≤ b))) := Eq.trans rfl rfl
theorem xbin_gtr (a b : Int) : xbin .gtr (.int .i64 a) (.int .i64 b) = some (.bool (decide (a > b))) := Eq.trans rfl rfl
theorem xbin_geq (a b : Int) : xbin .geq (.int .i64 a) (.int .i64 b) = some (.bool (decide (a ≥ b))) := Eq.trans rfl rfl

section
variable {α : Type} [Enc α]

def encs (l : List α) : List Value := l.flatMap Enc.e
@[simp] theorem encs_nil : encs ([] : List α) = [] := rfl
@[simp] theorem encs_cons (a : α) (l : List α) : encs (a :: l) = Enc.e a ++ encs l := rfl
@[simp] theorem encs_append (l m : List α) : encs (l ++ m) = encs l ++ encs m := by simp [encs]
theorem encs_length (l : List α) : (encs l).length = l.length * Enc.w α := by
  induction l with
  | nil => simp
  | cons a l ih => simp [ih, Enc.len, Nat.add_mul, Nat.add_comm]
theorem encs_drop (l : List α) (i : Nat) : (encs l).drop (i * Enc.w α) = encs (l.drop i) := by
  induction i generalizing l with
  | zero => simp
  | succ i ih =>
    cases l with
    | nil => simp
    | cons a l =>
      simp only [encs_cons, List.drop_succ_cons]
      rw [show (i + 1) * Enc.w α = (Enc.e a).length + i * Enc.w α by rw [Enc.len, Nat.add_mul]; omega, List.drop_append, List.drop_eq_nil_of_le (by omega)]
      simp [ih]
theorem encs_take (l : List α) (i : Nat) : (encs l).take (i * Enc.w α) = encs (l.take i) := by
  induction i generalizing l with
  | zero => simp
  | succ i ih =>
    cases l with
    | nil => simp
    | cons a l =>
      simp only [encs_cons, List.take_succ_cons]
      rw [show (i + 1) * Enc.w α = (Enc.e a).length + i * Enc.w α by rw [Enc.len, Nat.add_mul]; omega, List.take_append, List.take_of_length_le (by omega)]
      simp [ih]
theorem encs_flat (l : List α) : allOne (encs l) = true := by
  induction l with
  | nil => rfl
  | cons a l ih =>
    have h1 := Enc.flat a
    unfold allOne at *
    rw [encs_cons, List.all_append, h1, ih]
    rfl
/-- the cells of one element, and a part of them. -/
theorem encs_part (l : List α) (i : Nat) (hi : i < l.length) (off sz : Nat) (h : off + sz ≤ Enc.w α) : ((encs l).drop (i * Enc.w α + off)).take sz = ((Enc.e l[i]).drop off).take sz := by
  rw [← List.drop_drop, encs_drop, List.drop_eq_getElem_cons hi, encs_cons, List.drop_append, List.take_append, Enc.len]
  have h0 : ((Enc.e l[i]).drop off).length = Enc.w α - off := by simp [Enc.len]
  rw [h0, show sz - (Enc.w α - off) = 0 by omega]
  simp

/-- a slice's value, as a list to be read. -/
def RdS (S : St) (v : Value) (l : List α) : Prop :=
  (v = .slice none 0 0 ∧ l = []) ∨ ∃ id o c cc t mi an, v = .slice (some ⟨id, o, none⟩) l.length c ∧ l.length ≤ c ∧ id < S.next ∧ S.get id = .cells cc t (Enc.w α) mi an ∧ o + l.length * Enc.w α ≤ cc.length ∧ (cc.drop o).take (l.length * Enc.w α) = encs l

/-- a slice of one's own: it may be appended to. -/
def Own (S : St) (b : Nat) (v : Value) (l : List α) : Prop :=
  (v = .slice none 0 0 ∧ l = []) ∨ ∃ id t an, v = .slice (some ⟨id, 0, none⟩) l.length l.length ∧ S.get id = .cells (encs l) t (Enc.w α) true an ∧ b ≤ id ∧ id < S.next ∧ ∀ j ∈ an, b ≤ j

theorem RdS.nil (S : St) : RdS S (.slice none 0 0) ([] : List α) := .inl ⟨rfl, rfl⟩
theorem Own.nil (S : St) (b : Nat) : Own S b (.slice none 0 0) ([] : List α) := .inl ⟨rfl, rfl⟩
theorem Own.rd {S : St} {b : Nat} {v : Value} {l : List α} (h : Own S b v l) : RdS S v l := by
  rcases h with h | ⟨id, t, an, rfl, h1, _, h2, _⟩
  · exact .inl h
  · exact .inr ⟨id, 0, _, _, t, _, _, rfl, Nat.le_refl _, h2, h1, by rw [encs_length]; omega, by simp [← encs_length]⟩
theorem RdS.fr {S S' : St} {b : Nat} {v : Value} {l : List α} (h : RdS S v l) (hf : Fr b S S') (hb : S.next ≤ b) : RdS S' v l := by
  rcases h with h | ⟨id, o, c, cc, t, mi, an, rfl, h1, h2, h3, h4⟩
  · exact .inl h
  · exact .inr ⟨id, o, c, cc, t, mi, an, rfl, h1, Nat.lt_of_lt_of_le h2 hf.next, by rw [hf.get id (by omega)]; exact h3, h4⟩
theorem RdS.mono {S S' : St} {v : Value} {l : List α} (h : RdS S v l) (hf : Ext S S') : RdS S' v l := h.fr (hf.fr (Nat.le_refl _)) (Nat.le_refl _)
theorem Own.mono {S S' : St} {b : Nat} {v : Value} {l : List α} (h : Own S b v l) (hf : Ext S S') : Own S' b v l := by
  rcases h with h | ⟨id, t, an, rfl, h1, h2, h3, h4⟩
  · exact .inl h
  · exact .inr ⟨id, t, an, rfl, by rw [hf.get id h3]; exact h1, h2, Nat.lt_of_lt_of_le h3 hf.next, h4⟩
theorem Own.weak {S : St} {b b' : Nat} {v : Value} {l : List α} (h : Own S b v l) (hb : b' ≤ b) : Own S b' v l := by
  rcases h with h | ⟨id, t, an, rfl, h1, h2, h3, h4⟩
  · exact .inl h
  · exact .inr ⟨id, t, an, rfl, h1, by omega, h3, fun j hj => Nat.le_trans hb (h4 j hj)⟩

theorem Own.off {S : St} {b : Nat} {v : Value} {l : List α} (h : Own S b v l) {id0 : Nat} (h0 : id0 < b) (c : List Value) (t : TypeId) (z : Nat) : Own (S.write id0 c t z []) b v l := by
  rcases h with h | ⟨id, t', an, rfl, h1, h2, h3, h4⟩
  · exact .inl h
  · exact .inr ⟨id, t', an, rfl, by rw [get_write_ne _ _ _ _ _ _ (by omega)]; exact h1, h2, by simpa using h3, h4⟩
theorem RdS.monoL {S S' : St} {v : Value} {l : List α} (h : RdS S v l) (hf : ExtL S S') : RdS S' v l := by
  rcases h with h | ⟨id, o, c, cc, t, mi, an, rfl, h1, h2, h3, h4⟩
  · exact .inl h
  · have := hf.look id h2
    rw [h3] at this
    cases e : S'.get id with
    | gone => rw [e] at this; simp [Blk.look] at this
    | obj o => rw [e] at this; simp [Blk.look] at this
    | cells c' t' z' mi' an' =>
      rw [e] at this
      simp only [Blk.look, Option.some.injEq, Prod.mk.injEq] at this
      obtain ⟨rfl, rfl, rfl⟩ := this
      exact .inr ⟨id, o, c, _, _, mi', an', rfl, h1, Nat.lt_of_lt_of_le h2 hf.next, e, h4⟩
theorem RdS.cases {S : St} {v : Value} {l : List α} (h : RdS S v l) : (v = .slice none 0 0 ∧ l = []) ∨ ∃ a n c, v = .slice (some a) n c := by
  rcases h with h | ⟨id, o, c, cc, t, mi, an, rfl, _⟩
  · exact .inl h
  · exact .inr ⟨_, _, _, rfl⟩
theorem RdS.len {S : St} {v : Value} {l : List α} (h : RdS S v l) : lenv v = some (.int .i64 l.length) := by
  rcases h with ⟨rfl, rfl⟩ | ⟨id, o, c, cc, t, mi, an, rfl, _⟩ <;> rfl
theorem RdS.vlen {S : St} {v : Value} {l : List α} (h : RdS S v l) : vlen v = some l.length := by
  rcases h with ⟨rfl, rfl⟩ | ⟨id, o, c, cc, t, mi, an, rfl, _⟩ <;> rfl
theorem RdS.elems {S : St} {v : Value} {l : List α} (h : RdS S v l) : S.elems (Enc.w α) v = some (encs l) := by
  rcases h with ⟨rfl, rfl⟩ | ⟨id, o, c, cc, t, mi, an, rfl, _, _, h1, h2, h3⟩
  · rfl
  · simp only [St.elems, rd_eq, h1, Blk.rd_cells]
    rw [if_pos h2, h3]

/-- where an element lies, and what is read there. -/
theorem RdS.at {S : St} {v : Value} {l : List α} (h : RdS S v l) (k : IntKind) (i : Nat) (hi : i < l.length) : ∃ id o, iav (Enc.w α) v (.int k i) = some (.pointer (some ⟨id, o, none⟩)) ∧ id < S.next ∧ ∀ S' : St, S'.get id = S.get id → ∀ off sz, off + sz ≤ Enc.w α → (S'.get id).rd (o + off) sz = some (((Enc.e l[i]).drop off).take sz) := by
  rcases h with ⟨rfl, rfl⟩ | ⟨id, o, c, cc, t, mi, an, rfl, h0, h00, h1, h2, h3⟩
  · exact absurd hi (by simp)
  · have hm : i * Enc.w α + Enc.w α ≤ l.length * Enc.w α := by
      have := Nat.mul_le_mul_right (Enc.w α) (show i + 1 ≤ l.length by omega)
      rw [Nat.add_mul] at this; omega
    refine ⟨id, o + i * Enc.w α, ?_, h00, fun S' hS off sz hsz => ?_⟩
    · simp only [iav]
      rw [if_pos ⟨by omega, by omega⟩]
      simp
    · rw [hS, h1, Blk.rd_cells, if_pos (by omega), ← encs_part l i hi off sz hsz, ← h3, List.drop_take, List.take_take, Nat.min_eq_left (by omega), List.drop_drop, Nat.add_assoc]

theorem ldv_agg {S : St} {id o : Nat} {c : List Value} {sz : Nat} (h : (S.get id).rd o sz = some c) : ldv S true sz (.pointer (some ⟨id, o, none⟩)) = some (.agg c.toArray) := by
  rw [ldv_ptr, h]; rfl

theorem RdS.get {S : St} {v : Value} {l : List α} (h : RdS S v l) (k : IntKind) (i : Nat) (hi : i < l.length) : ∃ id o, iav (Enc.w α) v (.int k i) = some (.pointer (some ⟨id, o, none⟩)) ∧ id < S.next ∧ (S.get id).rd o (Enc.w α) = some (Enc.e l[i]) := by
  obtain ⟨id, o, h1, h2, h3⟩ := h.at k i hi
  refine ⟨id, o, h1, h2, ?_⟩
  have := h3 S rfl 0 (Enc.w α) (by omega)
  rw [Nat.add_zero, List.drop_zero, List.take_of_length_le (by rw [Enc.len]; exact Nat.le_refl _)] at this
  exact this

theorem Own.append {S : St} {b : Nat} {v x : Value} {l m : List α} (h : Own S b v l) (hx : RdS S x m) (hb : b ≤ S.next) (e : TypeId) (bytes : Nat) (hr : (l.length + m.length) * bytes ≤ reach) (hbytes : 0 < bytes) :
    ∃ r S', xappend e (Enc.w α) bytes v x S = some (r, S') ∧ Own S' b r (l ++ m) ∧ Fr b S S' := by
  have hn := hx.elems
  have hl := hx.vlen
  unfold xappend
  rw [hn, hl]
  simp only
  by_cases hm : m.length = 0
  · rw [if_pos hm]
    obtain rfl : m = [] := List.eq_nil_of_length_eq_zero hm
    rcases h with ⟨rfl, rfl⟩ | ⟨id, t, an, rfl, h1, h2⟩
    · exact ⟨_, _, rfl, .inl ⟨rfl, rfl⟩, Fr.refl _ _⟩
    · exact ⟨_, _, rfl, .inr ⟨id, t, an, by simp, by simpa using h1, h2⟩, Fr.refl _ _⟩
  · rw [if_neg hm]
    have hc : (allOne (encs m) && decide (0 < Enc.w α) && decide (0 < bytes)) = true := by
      simp [encs_flat, Enc.pos, hbytes]
    rw [if_pos hc]
    rcases h with ⟨rfl, rfl⟩ | ⟨id, t, an, rfl, h1, h2, h3, h4⟩
    · simp only
      rw [if_pos (by simpa using hr)]
      exact ⟨_, _, rfl, .inr ⟨S.next, e, [], by simp, by rw [get_alloc_self]; simp, hb, by simp, by simp⟩, Fr.alloc S _ hb⟩
    · simp only [h1]
      rw [if_pos ⟨trivial, trivial, by rw [encs_length]; omega⟩, if_pos hr]
      refine ⟨_, _, rfl, .inr ⟨S.next, e, id :: an, by simp, ?_, hb, by simp [St.grow], ?_⟩, Fr.grow S _ _ _ _ _ h2 hb⟩
      · unfold St.grow
        rw [St.get_alloc, if_pos (by simp)]
        simp
      · intro j hj
        rcases List.mem_cons.1 hj with rfl | hj
        · exact h2
        · exact h4 j hj

theorem ExtL.grow {S : St} {id : Nat} {c : List Value} {t : TypeId} {z : Nat} {an : List Nat} (hg : S.get id = .cells c t z true an) (c2 : List Value) (t2 : TypeId) : ExtL S (S.grow id c t z an c2 t2) := ⟨by simp [St.grow], fun j hj => by
  unfold St.grow
  rw [St.get_alloc, if_neg (by simp; omega), St.get_put]
  split
  · rename_i e; subst e; rw [hg]; rfl
  · rfl⟩
/-- .. and what stood reads as before. -/
theorem Own.appendL {S : St} {b : Nat} {v x : Value} {l m : List α} (h : Own S b v l) (hx : RdS S x m) (hb : b ≤ S.next) (e : TypeId) (bytes : Nat) (hr : (l.length + m.length) * bytes ≤ reach) (hbytes : 0 < bytes) :
    ∃ r S', xappend e (Enc.w α) bytes v x S = some (r, S') ∧ Own S' b r (l ++ m) ∧ Fr b S S' ∧ ExtL S S' := by
  have hn := hx.elems
  have hl := hx.vlen
  unfold xappend
  rw [hn, hl]
  simp only
  by_cases hm : m.length = 0
  · rw [if_pos hm]
    obtain rfl : m = [] := List.eq_nil_of_length_eq_zero hm
    rcases h with ⟨rfl, rfl⟩ | ⟨id, t, an, rfl, h1, h2⟩
    · exact ⟨_, _, rfl, .inl ⟨rfl, rfl⟩, Fr.refl _ _, ExtL.refl _⟩
    · exact ⟨_, _, rfl, .inr ⟨id, t, an, by simp, by simpa using h1, h2⟩, Fr.refl _ _, ExtL.refl _⟩
  · rw [if_neg hm]
    have hc : (allOne (encs m) && decide (0 < Enc.w α) && decide (0 < bytes)) = true := by
      simp [encs_flat, Enc.pos, hbytes]
    rw [if_pos hc]
    rcases h with ⟨rfl, rfl⟩ | ⟨id, t, an, rfl, h1, h2, h3, h4⟩
    · simp only
      rw [if_pos (by simpa using hr)]
      exact ⟨_, _, rfl, .inr ⟨S.next, e, [], by simp, by rw [get_alloc_self]; simp, hb, by simp, by simp⟩, Fr.alloc S _ hb, (Ext.alloc _ _).toL⟩
    · simp only [h1]
      rw [if_pos ⟨trivial, trivial, by rw [encs_length]; omega⟩, if_pos hr]
      refine ⟨_, _, rfl, .inr ⟨S.next, e, id :: an, by simp, ?_, hb, by simp [St.grow], ?_⟩, Fr.grow S _ _ _ _ _ h2 hb, ExtL.grow h1 _ _⟩
      · unfold St.grow
        rw [St.get_alloc, if_pos (by simp)]
        simp
      · intro j hj
        rcases List.mem_cons.1 hj with rfl | hj
        · exact h2
        · exact h4 j hj

/-- a part of a slice. -/
theorem RdS.part {S : St} {v : Value} {l : List α} (h : RdS S v l) (lo hi : Nat) (h1 : lo ≤ hi) (h2 : hi ≤ l.length) {vl vh : Option Value} (hl : bound vl 0 = some lo) (hh : bound vh l.length = some hi) :
    ∃ r, slv S (Enc.w α) v vl vh = some r ∧ RdS S r ((l.take hi).drop lo) := by
  rcases h with ⟨rfl, rfl⟩ | ⟨id, o, c, cc, t, mi, an, rfl, h0, h00, h3, h4, h5⟩
  · obtain rfl : hi = 0 := by simpa using h2
    obtain rfl : lo = 0 := by omega
    have hh' : bound vh 0 = some 0 := hh
    exact ⟨_, by simp only [slv, hl, hh']; rfl, .inl ⟨rfl, by simp⟩⟩
  · refine ⟨_, by simp only [slv, hl, hh]; rw [if_pos ⟨h1, by omega⟩, h3, Blk.width_cells, if_pos (slFit_self _ _)], .inr ⟨id, o + lo * Enc.w α, c - lo, cc, t, mi, an, ?_, ?_, h00, h3, ?_, ?_⟩⟩
    · simp only [List.length_drop, List.length_take, Nat.min_eq_left h2]
    · simp only [List.length_drop, List.length_take]; omega
    · have hm : hi * Enc.w α ≤ l.length * Enc.w α := Nat.mul_le_mul_right _ h2
      have hm2 : lo * Enc.w α ≤ hi * Enc.w α := Nat.mul_le_mul_right _ h1
      simp only [List.length_drop, List.length_take, Nat.min_eq_left h2, Nat.sub_mul]
      omega
    · have hm : hi * Enc.w α ≤ l.length * Enc.w α := Nat.mul_le_mul_right _ h2
      have hm2 : lo * Enc.w α ≤ hi * Enc.w α := Nat.mul_le_mul_right _ h1
      simp only [List.length_drop, List.length_take, Nat.min_eq_left h2, Nat.sub_mul]
      rw [← encs_drop, ← encs_take, ← h5, List.take_take, List.drop_take, List.drop_drop, Nat.min_eq_left hm]
end
end Go.Proofs.YtofjnhdgkhfgnaaDoor

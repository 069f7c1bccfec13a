/- One element is inserted into a slice of one's own: what it does in the abstract memory. -/
import Derived.Test.YtofjnhdgkhfgnaaDoorMz
namespace Go.Proofs.YtofjnhdgkhfgnaaDoor
open Go Go.RowKit

/-- put the last element of a row at a place. -/
def putAt (esz i : Nat) (cc : List Value) : List Value := cc.take (i * esz) ++ cc.drop (cc.length - esz) ++ (cc.drop (i * esz)).take (cc.length - esz - i * esz)

/-- the one that is inserted lies in a row of its own. -/
def ownX (S : St) (s x : Value) : Bool :=
  match x with
  | .slice (some ⟨j, _, none⟩) _ _ => match S.get j with
    | .cells _ _ _ true _ => match s with
      | .slice (some ⟨id, _, none⟩) _ _ => decide (id ≠ j)
      | _ => true
    | _ => false
  | _ => false
/-- there is no room behind the elements that the abstract machine knows of. -/
def tight (s : Value) : Bool :=
  match s with
  | .slice none 0 0 => true
  | .slice (some ⟨_, 0, none⟩) n c => decide (n = c)
  | _ => false

def insRun (e : TypeId) (esz bytes : Nat) (s : Value) (i : Int) (x : Value) (S : St) : Option (Value × St) :=
  if vlen x = some 1 ∧ 0 ≤ i ∧ 0 < esz ∧ ownX S s x = true ∧ tight s = true then
    (xappend e esz bytes s x S).bind fun r => match r.1 with
      | .slice (some ⟨id, 0, none⟩) n c => match r.2.get id with
        | .cells cc t z true an => if z = esz ∧ n = c ∧ cc.length = n * esz ∧ i.toNat < n then some (r.1, r.2.write id (putAt esz i.toNat cc) t z an) else none
        | _ => none
      | _ => none
  else none

def insCall (e : TypeId) (esz bytes : Nat) (args : Array Value) (S : St) : Option (Value × St) :=
  match args.toList with
  | [s, .int .i64 i, x] => insRun e esz bytes s i x S
  | _ => none

theorem ScL.putAt {m : Nat} {l : List Value} (h : ScL m l) (esz i : Nat) : ScL m (putAt esz i l) := ((h.take _).append (h.drop _)).append ((h.drop _).take _)

theorem insRun_ws {e : TypeId} {esz bytes : Nat} {s x v : Value} {i : Int} {S S' : St} (h : insRun e esz bytes s i x S = some (v, S')) (hw : WS S) (hs : Sc S.next s) : WS S' ∧ S.next ≤ S'.next ∧ Sc S'.next v := by
  unfold insRun at h
  split at h
  case isFalse => cases h
  simp only [Option.bind_eq_some_iff] at h
  obtain ⟨⟨r, S1⟩, h1, h2⟩ := h
  obtain ⟨q1, q2, q3⟩ := xappend_ws hw hs h1
  split at h2
  case h_2 => cases h2
  rename_i id n c e1
  split at h2
  case h_2 => cases h2
  rename_i cc t z an e2
  split at h2
  case isFalse => cases h2
  simp only [Option.some.injEq, Prod.mk.injEq] at h2
  obtain ⟨rfl, rfl⟩ := h2
  simp only at e1 e2 ⊢
  have hc := q1.cell id cc t z true an e2
  exact ⟨q1.write (q1.alive (by rw [e2]; simp)) (hc.putAt _ _) _ _ _, by simpa using q2, by simpa using q3⟩
theorem insCall_ws {e : TypeId} {esz bytes : Nat} {args : Array Value} {v : Value} {S S' : St} (h : insCall e esz bytes args S = some (v, S')) (hw : WS S) (hs : ScL S.next args.toList) : WS S' ∧ S.next ≤ S'.next ∧ Sc S'.next v := by
  unfold insCall at h
  split at h
  · rename_i s i x e1
    exact insRun_ws h hw (hs _ (by rw [e1]; simp))
  · cases h

section
variable {α : Type} [Enc α]
theorem putAt_encs (l : List α) (a : α) (i : Nat) (hi : i ≤ l.length) : putAt (Enc.w α) i (encs (l ++ [a])) = encs (l.take i ++ a :: l.drop i) := by
  have hp := Enc.pos (α := α)
  have e1 : (encs (l ++ [a])).length = (l.length + 1) * Enc.w α := by rw [encs_length]; simp
  have e2 : (l.length + 1) * Enc.w α - Enc.w α = l.length * Enc.w α := by rw [Nat.add_mul]; omega
  have hm : i * Enc.w α ≤ l.length * Enc.w α := Nat.mul_le_mul_right _ hi
  unfold putAt
  rw [e1, e2, encs_take, encs_drop, encs_drop, ← Nat.sub_mul, encs_take, List.take_append_of_le_length hi, List.drop_append_of_le_length (Nat.le_refl _), List.drop_length, List.drop_append_of_le_length hi, List.take_append_of_le_length (by simp), List.take_of_length_le (l := l.drop i) (by simp)]
  simp

theorem Own.insert {S : St} {b : Nat} {v : Value} {l : List α} {a : α} (h : Own S b v l) (hb : b ≤ S.next) (i : Nat) (hi : i ≤ l.length) (e : TypeId) (bytes : Nat) (hr : (l.length + 1) * bytes ≤ reach) (hbytes : 0 < bytes) (t : TypeId) :
    ∃ r S', insRun e (Enc.w α) bytes v i (.slice (some ⟨S.next, 0, none⟩) 1 1) (S.alloc (.cells (Enc.e a) t (Enc.w α) true [])) = some (r, S') ∧ Own S' b r (l.take i ++ a :: l.drop i) ∧ Fr b S S' := by
  have hx := RdS.one S a t
  have h0 : Own (S.alloc (.cells (Enc.e a) t (Enc.w α) true [])) b v l := h.mono (Ext.alloc _ _)
  obtain ⟨r, S1, h1, h2, h3⟩ := h0.append hx (by simp; omega) e bytes hr hbytes
  have hown : ownX (S.alloc (.cells (Enc.e a) t (Enc.w α) true [])) v (.slice (some ⟨S.next, 0, none⟩) 1 1) = true := by
    simp only [ownX, get_alloc_self]
    rcases h with ⟨rfl, _⟩ | ⟨id, t, an, rfl, g1, g2, g3, g4⟩
    · rfl
    · simp only [decide_eq_true_eq]; omega
  have htight : tight v = true := by
    rcases h with ⟨rfl, _⟩ | ⟨id, t, an, rfl, g1, g2, g3, g4⟩
    · rfl
    · simp [tight]
  unfold insRun
  rw [if_pos ⟨hx.vlen, by omega, Enc.pos, hown, htight⟩, h1]
  simp only [Option.bind_some]
  rcases h2 with ⟨_, h2⟩ | ⟨id, t, an, rfl, g1, g2, g3, g4⟩
  · exact absurd h2 (by simp)
  · simp only [g1]
    rw [if_pos ⟨trivial, trivial, encs_length _, by simp; omega⟩, Int.toNat_natCast, putAt_encs l a i hi]
    refine ⟨_, _, rfl, .inr ⟨id, t, [], by simp; omega, by rw [St.get_write, if_pos rfl], g2, by simpa using g3, by simp⟩, ((Fr.alloc _ _ hb).trans h3).trans (Fr.write _ _ _ _ g2 g4)⟩
end

section
variable {B : Nat} {φ : Emb} {S : St} {w : World}

/-- a block's row in the model, and its parts. -/
theorem Sim.row (hs : Sim B φ S w) {id : Nat} {s : Spot} {c : List Value} {t : TypeId} {sz : Nat} {m : Bool} {an : List Nat} (e : φ id = some s) (e2 : S.get id = .cells c t sz m an) :
    ∃ cs t', Row w s.b m cs t' ∧ s.base + s.ext ≤ cs.size ∧ c.length ≤ s.ext ∧ s.sz = sz ∧ ∀ o n, o + n ≤ c.length → RelL φ ((c.drop o).take n) ((cs.toList.drop (s.base + o)).take n) ∧ (∀ v ∈ (c.drop o).take n, v.oneCell' = true) ∧ ∀ v ∈ (cs.toList.drop (s.base + o)).take n, v.oneCell' = true := by
  obtain ⟨a1, a2, a3, cs, t', a4, a5, a6⟩ := hs.blk id s c t sz m an e e2
  refine ⟨cs, t', a4, a5, a2, a1, fun o n hon => ?_⟩
  have hl1 : ((c.drop o).take n).length = n := by simp; omega
  have hl2 : ((cs.toList.drop (s.base + o)).take n).length = n := by simp; omega
  have hrel : ∀ i (h1 : i < ((c.drop o).take n).length) (h2 : i < ((cs.toList.drop (s.base + o)).take n).length), ((c.drop o).take n)[i].oneCell' = true ∧ Rel φ ((c.drop o).take n)[i] ((cs.toList.drop (s.base + o)).take n)[i] := by
    intro i h1 h2
    have hlt : o + i < c.length := by omega
    obtain ⟨c1, v', c2, c3⟩ := a6 (o + i) c[o + i] (List.getElem?_eq_getElem hlt)
    have hlt' : s.base + (o + i) < cs.size := by omega
    rw [Array.getElem?_eq_getElem hlt'] at c2
    obtain rfl := Option.some.inj c2
    simp only [List.getElem_take, List.getElem_drop, Array.getElem_toList, Nat.add_assoc]
    exact ⟨c1, c3⟩
  refine ⟨⟨hl1.trans hl2.symm, fun i h1 h2 => (hrel i h1 h2).2⟩, fun v hv => ?_, fun v hv => ?_⟩
  · obtain ⟨i, hi, rfl⟩ := List.getElem_of_mem hv
    exact (hrel i hi (by omega)).1
  · obtain ⟨i, hi, rfl⟩ := List.getElem_of_mem hv
    have := hrel i (by omega) hi
    rw [this.2.oneCell]
    exact this.1

/-- a row is written as it is. -/
theorem Sim.same (hs : Sim B φ S w) {id : Nat} {s : Spot} {c : List Value} {t : TypeId} {sz : Nat} {an : List Nat} (e : φ id = some s) (e2 : S.get id = .cells c t sz true an) :
    Sim B φ (S.write id c t sz an) w ∧ Keep B φ S w φ (S.write id c t sz an) w := by
  obtain ⟨a1, a2, a3, cs, t', a4, a5, a6⟩ := hs.blk id s c t sz true an e e2
  have a4 := a4.mine
  have := hs.write e e2 (c2 := c) cs cs t' a4 rfl rfl (fun v hv => by
    obtain ⟨i, hi, rfl⟩ := List.getElem_of_mem hv
    exact (a6 i _ (List.getElem?_eq_getElem hi)).1) (fun i v hv => (a6 i v hv).2)
  rw [setRow_self w s.b cs t' (0, 0) a4] at this
  exact this

/-- the insertion, in place. -/
theorem Sim.insIn (hs : Sim B φ S w) {id : Nat} {s : Spot} {c news c2 : List Value} {t t2 : TypeId} {sz : Nat} {an : List Nat} (e : φ id = some s) (e2 : S.get id = .cells c t sz true an) (cs cs2 : Array Value) (t' : TypeId)
    (hg : w.heap[s.b]? = some (.cells cs t' (0, 0))) (hl2 : cs2.size = cs.size) (hfit : c.length + news.length ≤ s.ext) (h1 : ∀ v ∈ news, v.oneCell' = true) (news' : List Value) (hn : RelL φ news news') (hc2 : c2.length = c.length + news.length) (h1c : ∀ v ∈ c2, v.oneCell' = true)
    (hr : RelL φ c2 ((cs2.toList.drop s.base).take c2.length)) :
    ∃ φ', φ' = φ.add S.next ⟨s.b, s.base, s.ext, sz⟩ ∧ Sim B φ' ((S.grow id c t sz an (c ++ news) t2).write S.next c2 t2 sz (id :: an)) (w.setRow s.b cs2) ∧ Keep B φ S w φ' ((S.grow id c t sz an (c ++ news) t2).write S.next c2 t2 sz (id :: an)) (w.setRow s.b cs2) := by
  obtain ⟨a1, a2, a3, cs0, t0, a4, a5, a6⟩ := hs.blk id s c t sz true an e e2
  have a4 := a4.mine
  rw [hg] at a4
  simp only [Option.some.injEq, Obj.cells.injEq] at a4
  obtain ⟨rfl, rfl, -⟩ := a4
  have hnl : news'.length = news.length := hn.1.symm
  have hsp : (splice cs.toList (s.base + c.length) news').length = cs.size := by rw [splice_length _ _ _ (by simp; omega)]; simp
  obtain ⟨k1, k2⟩ := hs.growIn (news := news) 0 (Nat.zero_le _) e e2 cs (splice cs.toList (s.base + c.length) news').toArray t2 t' hg (by simpa using hsp) hfit h1 (fun i hi => by
      rw [List.getElem?_toArray, splice_get _ _ _ (by simp; omega), if_neg (by omega)]; simp) (fun i v hv => by
      have hi : i < news.length := (List.getElem?_eq_some_iff.1 hv).1
      refine ⟨news'[i], ?_, ?_⟩
      · rw [List.getElem?_toArray, splice_get _ _ _ (by simp; omega), if_pos (by omega), show s.base + (c.length + i) - (s.base + c.length) = i by omega, List.getElem?_eq_getElem]
      · have := hn.2 i hi (by omega)
        rw [List.getElem?_eq_getElem hi] at hv
        rw [← Option.some.inj hv]; exact this)
  simp only [List.drop_zero, Nat.add_zero, Nat.sub_zero] at k1 k2
  have hle := Emb.le_add φ S.next ⟨s.b, s.base, s.ext, sz⟩ hs.fresh
  have hget : (S.grow id c t sz an (c ++ news) t2).get S.next = .cells (c ++ news) t2 sz true (id :: an) := by
    unfold St.grow
    rw [St.get_alloc, if_pos (by simp)]
  have hrow := setRow_heap w s.b cs (splice cs.toList (s.base + c.length) news').toArray t' (0, 0) hg
  obtain ⟨k3, k4⟩ := k1.write (Emb.add_same φ S.next ⟨s.b, s.base, s.ext, sz⟩) hget (c2 := c2) _ cs2 t' hrow (by simpa using hc2) (by simp [hsp, hl2]) h1c (fun i v hv => by
    have hi : i < c2.length := (List.getElem?_eq_some_iff.1 hv).1
    have hi' : i < ((cs2.toList.drop s.base).take c2.length).length := by rw [← hr.1]; exact hi
    refine ⟨((cs2.toList.drop s.base).take c2.length)[i], ?_, ?_⟩
    · simp only [List.getElem_take, List.getElem_drop]
      simp at hi'
      rw [← Array.getElem?_toList, List.getElem?_eq_getElem]
    · have := hr.2 i hi hi'
      rw [List.getElem?_eq_getElem hi] at hv
      rw [← Option.some.inj hv]; exact this.mono hle)
  rw [setRow_setRow] at k3 k4
  exact ⟨_, rfl, k3, k2.trans k4⟩

theorem alloc_setRow (w : World) (a b : Array Value) (t : TypeId) : (w.alloc (.cells a t)).setRow w.heap.size b = w.alloc (.cells b t) := by
  unfold World.setRow World.alloc
  congr 1
  apply Array.ext
  · simp
  · intro i h1 h2
    simp only [Array.getElem_modify]
    split
    · rename_i e
      subst e
      simp
    · rename_i e
      simp at h1
      rw [Array.getElem_push, Array.getElem_push]
      have : i < w.heap.size := by omega
      simp [this]

/-- the insertion, into a new row. -/
theorem Sim.insNew (hs : Sim B φ S w) (hB : B ≤ w.heap.size) {id : Nat} {c news c2 : List Value} {t t2 : TypeId} {sz : Nat} {m : Bool} {an : List Nat} (e2 : S.get id = .cells c t sz m an) (cs2 : Array Value) (t' : TypeId)
    (h1 : ∀ v ∈ c ++ news, v.oneCell' = true) (c' : List Value) (hn : RelL φ (c ++ news) c') (hc2 : c2.length = (c ++ news).length) (h1c : ∀ v ∈ c2, v.oneCell' = true)
    (hfit : c2.length ≤ cs2.size) (hr : RelL φ c2 (cs2.toList.take c2.length)) :
    ∃ φ', φ' = φ.add S.next ⟨w.heap.size, 0, cs2.size, sz⟩ ∧ Sim B φ' ((S.grow id c t sz an (c ++ news) t2).write S.next c2 t2 sz (id :: an)) (w.alloc (.cells cs2 t')) ∧ Keep B φ S w φ' ((S.grow id c t sz an (c ++ news) t2).write S.next c2 t2 sz (id :: an)) (w.alloc (.cells cs2 t')) := by
  have hsz : (splice cs2.toList 0 c').length = cs2.size := by rw [splice_length _ _ _ (by rw [← hn.1, ← hc2]; simpa using hfit)]; simp
  have hl := hn.1
  have hle := Emb.le_add φ S.next ⟨w.heap.size, 0, cs2.size, sz⟩ hs.fresh
  obtain ⟨k1, k2⟩ := hs.growNew hB e2 (c ++ news) t2 t' (splice cs2.toList 0 c').toArray h1 (by simp only [List.size_toArray, hsz]; omega) (fun i v hv => by
    have hi : i < (c ++ news).length := (List.getElem?_eq_some_iff.1 hv).1
    refine ⟨c'[i], ?_, ?_⟩
    · rw [List.getElem?_toArray, splice_get _ _ _ (by simp; omega), if_pos (by omega), Nat.sub_zero, List.getElem?_eq_getElem]
    · have := hn.2 i hi (by omega)
      rw [List.getElem?_eq_getElem hi] at hv
      rw [← Option.some.inj hv]; exact this)
  simp only [List.size_toArray, hsz] at k1 k2
  have hget : (S.grow id c t sz an (c ++ news) t2).get S.next = .cells (c ++ news) t2 sz true (id :: an) := by
    unfold St.grow
    rw [St.get_alloc, if_pos (by simp)]
  obtain ⟨k3, k4⟩ := k1.write (Emb.add_same φ S.next ⟨w.heap.size, 0, cs2.size, sz⟩) hget (c2 := c2) (splice cs2.toList 0 c').toArray cs2 t' (by rw [heap_alloc', if_pos rfl]) hc2 (by simp [hsz]) h1c (fun i v hv => by
    have hi : i < c2.length := (List.getElem?_eq_some_iff.1 hv).1
    have hi' : i < (cs2.toList.take c2.length).length := by rw [← hr.1]; exact hi
    refine ⟨(cs2.toList.take c2.length)[i], ?_, ?_⟩
    · simp only [List.getElem_take, Nat.zero_add]
      simp at hi'
      rw [← Array.getElem?_toList, List.getElem?_eq_getElem]
    · have := hr.2 i hi hi'
      rw [List.getElem?_eq_getElem hi] at hv
      rw [← Option.some.inj hv]; exact this.mono hle)
  rw [alloc_setRow] at k3 k4
  exact ⟨_, rfl, k3, k2.trans k4⟩
end
end Go.Proofs.YtofjnhdgkhfgnaaDoor

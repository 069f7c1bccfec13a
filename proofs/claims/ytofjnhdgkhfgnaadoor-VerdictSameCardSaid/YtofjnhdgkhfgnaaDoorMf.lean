/- The model's operations do what the abstract machine's do: copy, clear, make, literals, parts. -/
import Derived.Test.YtofjnhdgkhfgnaaDoorMe
namespace Go.Proofs.YtofjnhdgkhfgnaaDoor
open Go Go.RowKit

section
variable {P : Program} {B : Nat} {φ : Emb} {S : St} {w : World}

theorem rd_take {id o n k : Nat} {l : List Value} (h : S.rd id o n = some l) (hk : k ≤ n) : S.rd id o k = some (l.take k) := by
  unfold St.rd at *
  split at h
  · rename_i c t z m an hb
    split at h
    case isFalse => cases h
    case isTrue hle =>
      obtain rfl := Option.some.inj h
      rw [if_pos (by omega), List.take_take, Nat.min_eq_left hk]
  · cases h

/-- the first elements of a slice. -/
theorem elems_first (hs : Sim B φ S w) {esz : Nat} {x x' : Value} {l : List Value} {m : Nat} (hx : Rel φ x x') (h : S.elems esz x = some l) (hm : vlen x = some m) (k : Nat) (hk : k ≤ m) :
    ∃ a c l', x' = .slice a m c ∧ RelL φ (l.take (k * esz)) l' ∧ (l.take (k * esz)).length = k * esz ∧ (Builtin.firstCells esz k x').run P w = .ok l'.toArray w := by
  unfold St.elems at h
  split at h
  · cases hx
    obtain rfl := Option.some.inj h
    obtain rfl : 0 = m := Option.some.inj hm
    obtain rfl : k = 0 := by omega
    exact ⟨none, 0, [], rfl, by simpa using RelL.nil _, by simp, by simp [Builtin.firstCells]⟩
  · rename_i id o n c
    obtain rfl : n = m := Option.some.inj hm
    obtain ⟨s, x, c', e, rfl, hn, _, _, hor⟩ := slice_inv hx
    obtain ⟨hl, l', hrel, h1, h2, hcell⟩ := rd_sound hs e (rd_take h (Nat.mul_le_mul_right esz hk))
    refine ⟨_, c', l', rfl, hrel, hl, ?_⟩
    rcases hor with ⟨rfl, _⟩ | ⟨rfl, _, _⟩
    · exact run_firstCells_some w esz k ⟨s.b, s.base + o, none⟩ n c' l' (hrel.1.symm.trans hl) (fun j v hv => by rw [Addr.add_lit]; exact hcell j v hv)
    · obtain rfl : k = 0 := by omega
      have : l' = [] := List.eq_nil_of_length_eq_zero (by rw [← hrel.1, hl]; simp)
      subst this
      simp [Builtin.firstCells, loadCells, loadCellsFrom]
  · cases h

theorem run_copy_any (dT sT ty e : TypeId) (i : TypeInfo) (ht : P.underlying dT = some (.slice e)) (hi : P.info? e = some i) (b : Option Addr) (n c m : Nat) (a2 : Option Addr) (c2 : Nat) (cells : List Value)
    (hf : (Builtin.firstCells i.size (min m n) (.slice a2 m c2)).run P w = .ok cells.toArray w) (w' : World) (hst : (match b with | some a => storeCells a cells | none => pure ()).run P w = .ok () w') :
    (Builtin.copy_ #[dT, sT] ty #[.slice b n c, .slice a2 m c2]).run P w = .ok (.int .i64 (min m n : Nat)) w' := by
  have hmin : Nat.min m n = min m n := rfl
  cases b with
  | none =>
    simp at hst
    subst hst
    simp [Builtin.copy_, run_underlying ht, sizeOf, typeInfo, hi, Builtin.lenOf, hmin, hf, goInt]
  | some a =>
    simp only at hst
    simp [Builtin.copy_, run_underlying ht, sizeOf, typeInfo, hi, Builtin.lenOf, hmin, hf, hst, goInt]

theorem copy_sound (hs : Sim B φ S w) {dT sT ty e : TypeId} {i : TypeInfo} (ht : P.underlying dT = some (.slice e)) (hi : P.info? e = some i)
    {d d' x x' v : Value} {S' : St} (hd : Rel φ d d') (hx : Rel φ x x') (h : xcopy i.size d x S = some (v, S')) :
    OutV P B φ S w (Builtin.copy_ #[dT, sT] ty #[d', x']) v S' := by
  unfold xcopy at h
  split at h
  case h_2 => cases h
  rename_i a n c m src hm hsrc
  obtain ⟨a2, c2, l', rfl, hrel, hlen, hf⟩ := elems_first (P := P) hs hx hsrc hm (min m n) (Nat.min_le_left _ _)
  by_cases h0 : min m n = 0
  · rw [if_pos h0] at h
    obtain ⟨rfl, rfl⟩ := Prod.mk.inj (Option.some.inj h)
    have hnil : l' = [] := List.eq_nil_of_length_eq_zero (by rw [← hrel.1, hlen, h0]; simp)
    subst hnil
    obtain ⟨a', c', rfl⟩ : ∃ a' c', d' = .slice a' n c' := by
      cases hd with
      | sliceNil => exact ⟨none, 0, rfl⟩
      | slice _ _ _ _ c' s h hn hc he => exact ⟨_, c', rfl⟩
      | sliceEnd _ _ x s h => exact ⟨_, 0, rfl⟩
    have hr := run_copy_any dT sT ty e i ht hi a' n c' m a2 c2 [] hf w (by cases a' <;> simp [storeCells])
    rw [h0] at hr
    exact OutV.same hs hr (.int _ _)
  · rw [if_neg h0] at h
    split at h
    case h_2 => cases h
    rename_i id o
    split at h
    case h_2 => cases h
    rename_i cc t z an hget
    split at h
    case isFalse => cases h
    rename_i hfit
    obtain ⟨hfit, hone⟩ := hfit
    obtain ⟨rfl, rfl⟩ := Prod.mk.inj (Option.some.inj h)
    obtain ⟨sp, xo, c', hid, rfl, hn, hcc, hnc, hor⟩ := slice_inv hd
    have hpos : xo = sp.base + o := by
      rcases hor with h | ⟨h1, h2, h3⟩
      · exact h.1
      · omega
    subst hpos
    obtain ⟨w', hst, k1, k2⟩ := write_sound (P := P) hs hid hget (o := o) hrel (allOne_iff.2 fun v hv => allOne_iff.1 hone v (List.mem_of_mem_take hv)) (by rw [hlen]; exact hfit)
    have hr := run_copy_any dT sT ty e i ht hi (some ⟨sp.b, sp.base + o, none⟩) n c' m a2 c2 l' hf w' (hst 0 rfl)
    exact ⟨φ, _, w', hr, .int _ _, k1, k2⟩

theorem rep_length (n : Nat) (z : List Value) : (rep n z).length = n * z.length := by simp [rep]
theorem rep_get (n : Nat) (z : List Value) : ∀ i, i < n * z.length → (rep n z)[i]? = z[i % z.length]? := by
  induction n with
  | zero => intro i hi; simp at hi
  | succ n ih =>
    intro i hi
    have e : rep (n + 1) z = z ++ rep n z := by simp [rep, List.replicate_succ]
    rw [e]
    by_cases h : i < z.length
    · rw [List.getElem?_append_left h, Nat.mod_eq_of_lt h]
    · rw [List.getElem?_append_right (by omega), ih _ (by rw [Nat.succ_mul] at hi; omega), ← Nat.mod_eq_sub_mod (by omega)]

theorem zeroCells_rep (z : Array Value) (n : Nat) : (Builtin.zeroCells z n).toList = rep n z.toList := by
  apply List.ext_getElem?
  intro i
  by_cases hi : i < n * z.size
  · have hz : 0 < z.size := by
      rcases Nat.eq_zero_or_pos z.size with h | h
      · rw [h] at hi; simp at hi
      · exact h
    rw [rep_get n z.toList i (by simpa using hi)]
    have hm : i % z.size < z.size := Nat.mod_lt _ hz
    simp [Builtin.zeroCells, hi, hm]
  · rw [List.getElem?_eq_none (by rw [Array.length_toList, size_zeroCells]; omega), List.getElem?_eq_none (by rw [rep_length]; simpa using hi)]
theorem madeCells_rep (z : Array Value) (n : Nat) : (madeCells z (n * z.size)).toList = rep n z.toList := by
  rw [← zeroCells_rep]
  rfl

/-- values without addresses stand for themselves. -/
def flat1 : Value → Bool
  | .bool _ => true
  | .int _ _ => true
  | .string _ => true
  | .pointer none => true
  | .slice none 0 0 => true
  | .nilFunc => true
  | .nilIface => true
  | .map none => true
  | _ => false
theorem flat1_rel {v : Value} (h : flat1 v = true) (φ : Emb) : Rel φ v v := by
  unfold flat1 at h
  split at h <;> first | constructor | cases h
theorem flat1_one {v : Value} (h : flat1 v = true) : v.oneCell' = true := by
  unfold flat1 at h
  split at h <;> first | rfl | cases h
def flatL (l : List Value) : Bool := l.all flat1
theorem flatL_rel {l : List Value} (h : flatL l = true) (φ : Emb) : RelL φ l l := ⟨rfl, fun i h1 h2 => flat1_rel (by simp [flatL] at h; exact h _ (List.getElem_mem _)) φ⟩
theorem flatL_one {l : List Value} (h : flatL l = true) : allOne l = true := allOne_iff.2 fun v hv => flat1_one (by simp [flatL] at h; exact h v hv)
theorem flatL_rep {l : List Value} (h : flatL l = true) (n : Nat) : flatL (rep n l) = true := by
  simp only [flatL, List.all_eq_true] at *
  intro v hv
  simp only [rep, List.mem_flatten, List.mem_replicate] at hv
  obtain ⟨l', ⟨_, rfl⟩, hv⟩ := hv
  exact h v hv
def flatV : Value → Bool
  | .agg a => flatL a.toList
  | .tuple a => flatL a.toList
  | v => flat1 v
theorem flatV_rel {v : Value} (h : flatV v = true) (φ : Emb) : Rel φ v v := by
  unfold flatV at h
  split at h
  · rename_i a
    have := (flatL_rel h φ).toA
    simp at this
    exact .agg' this
  · rename_i a
    have := (flatL_rel h φ).toA
    simp at this
    exact .tuple' this
  · exact flat1_rel h φ

theorem clr_sound (hs : Sim B φ S w) {t e : TypeId} {ty : TypeId} {i : TypeInfo} {z : Value} (ht : P.underlying t = some (.slice e)) (hi : P.info? e = some i) (hz : i.zero = some z) (hzf : flatL z.cells.toList = true)
    {x x' v : Value} {S' : St} (hx : Rel φ x x') (h : xclr i.size z.cells.toList x S = some (v, S')) :
    OutV P B φ S w (Builtin.clear_ #[t] ty #[x']) v S' := by
  unfold xclr at h
  split at h
  case h_3 => cases h
  case h_1 =>
    obtain ⟨rfl, rfl⟩ := Prod.mk.inj (Option.some.inj h)
    cases hx
    refine OutV.same hs (v' := .tuple #[]) ?_ (Rel.undef φ)
    simp [Builtin.clear_, run_underlying ht]
  case h_2 =>
    rename_i id o n c
    obtain ⟨sp, xo, c', hid, rfl, hn, hcc, hnc, hor⟩ := slice_inv hx
    split at h
    · rename_i h0
      subst h0
      obtain ⟨rfl, rfl⟩ := Prod.mk.inj (Option.some.inj h)
      refine OutV.same hs (v' := .tuple #[]) ?_ (Rel.undef φ)
      simp [Builtin.clear_, run_underlying ht]
    · rename_i h0
      split at h
      case h_2 => cases h
      rename_i cc t2 zz an hget
      split at h
      case isFalse => cases h
      rename_i hfit
      obtain ⟨hzl, hfit, hone⟩ := hfit
      obtain ⟨rfl, rfl⟩ := Prod.mk.inj (Option.some.inj h)
      have hpos : xo = sp.base + o := by
        rcases hor with h | ⟨h1, h2, h3⟩
        · exact h.1
        · omega
      subst hpos
      have hrf := flatL_rep hzf n
      obtain ⟨w', hst, k1, k2⟩ := write_sound (P := P) hs hid hget (o := o) (flatL_rel hrf φ) (flatL_one hrf) (by rw [rep_length, hzl]; exact hfit)
      refine ⟨φ, .tuple #[], w', ?_, Rel.undef φ, k1, k2⟩
      have h3 := hst 0 rfl
      have hzc := zeroCells_rep z.cells n
      cases n with
      | zero => omega
      | succ n => simp [Builtin.clear_, run_underlying ht, zeroValue, typeInfo, hi, hz, hzc, h3]

theorem mkSlice_sound (hs : Sim B φ S w) (hB : B ≤ w.heap.size) {t e : TypeId} {i : TypeInfo} {z : Value} (ht : P.underlying t = some (.slice e)) (hi : P.info? e = some i) (hz : i.zero = some z) (hzs : z.cells.size = i.size) (hzf : flatL z.cells.toList = true)
    (kl kc : IntKind) (l c : Int) (h0 : 0 ≤ l) (hlc : l ≤ c) (hby : i.bytes * c.toNat ≤ reach) (hb0 : 0 < i.bytes) :
    OutV P B φ S w (Instr.makeSlice t (.int kl l) (.int kc c)) (.slice (some ⟨S.next, 0, none⟩) l.toNat c.toNat) (S.alloc (.cells (rep c.toNat z.cells.toList) e i.size true [])) := by
  unfold reach at hby
  have hcb : (1 : Nat) * c.toNat ≤ i.bytes * c.toNat := Nat.mul_le_mul_right _ hb0
  have hb' : (i.bytes : Int) * c ≤ 281474976710656 := by
    have : ((i.bytes * c.toNat : Nat) : Int) = (i.bytes : Int) * c := by rw [Int.natCast_mul, Int.toNat_of_nonneg (by omega)]
    omega
  have hr := run_make (P := P) w t e i z ht hi hz kl kc l c h0 hlc hb' (by omega)
  have hcells : (madeCells z.cells (c.toNat * i.size)).toList = rep c.toNat z.cells.toList := by rw [← hzs]; exact madeCells_rep _ _
  have hrf := flatL_rep hzf c.toNat
  have hsize : (madeCells z.cells (c.toNat * i.size)).size = c.toNat * i.size := size_madeCells _ _
  obtain ⟨k1, k2⟩ := hs.alloc hB (rep c.toNat z.cells.toList) (madeCells z.cells (c.toNat * i.size)) e e i.size (allOne_iff.1 (flatL_one hrf)) (by rw [hsize, rep_length]; simp [hzs]) (fun j v hv => ⟨v, by rw [← Array.getElem?_toList, hcells]; exact hv, flat1_rel (by simp [flatL] at hrf; exact hrf v (List.mem_of_getElem? hv)) φ⟩) []
  refine ⟨_, _, _, hr, ?_, k1, k2⟩
  have := Rel.slice (φ := φ.add S.next ⟨w.heap.size, 0, (madeCells z.cells (c.toNat * i.size)).size, i.size⟩) S.next 0 l.toNat c.toNat c.toNat _ (Emb.add_same _ _ _) (by omega) (Nat.le_refl _) (by simp only [hsize]; omega)
  simpa using this

/-- literals -/
theorem foldl_set (off : Nat) : ∀ (v : List Value) (k : Nat) (cs : Array Value), off + k + v.length ≤ cs.size →
    (v.zipIdx k).foldl (fun cs (p : Value × Nat) => cs.setIfInBounds (off + p.2) p.1) cs = (splice cs.toList (off + k) v).toArray := by
  intro v
  induction v with
  | nil => intro k cs h; simp [splice]
  | cons a v ih =>
    intro k cs h
    simp only [List.zipIdx_cons, List.foldl_cons]
    rw [ih (k + 1) _ (by simp at h ⊢; omega)]
    apply Array.ext'
    apply List.ext_getElem?
    intro j
    simp only [List.length_cons] at h
    rw [splice_get _ _ _ (by simp; omega), splice_get _ _ _ (by simp; omega)]
    simp only [Array.toList_setIfInBounds, List.length_cons]
    by_cases h1 : j = off + k
    · subst h1
      rw [if_neg (by omega), if_pos (by omega), List.getElem?_set_self (by simp; omega)]
      simp
    · rw [List.getElem?_set_ne (by omega)]
      by_cases h2 : off + (k + 1) ≤ j ∧ j < off + (k + 1) + v.length
      · rw [if_pos h2, if_pos (by omega), show j - (off + k) = (j - (off + (k + 1))) + 1 by omega, List.getElem?_cons_succ]
      · rw [if_neg h2, if_neg (by omega)]

/-- the model's 'fill' as the splice of lists. -/
theorem fill_eq (place : Nat → Option (Nat × Nat)) : ∀ (parts : List (Nat × Value)) (ps : List (Nat × Nat × Value)) (cs : Array Value) (l : List Value),
    parts.length = ps.length → (∀ i (h : i < parts.length) (h' : i < ps.length), place parts[i].1 = some (ps[i].1, ps[i].2.1) ∧ parts[i].2 = ps[i].2.2) →
    fillL cs.toList ps = some l → Instr.fill place cs parts = some l.toArray := by
  intro parts
  induction parts with
  | nil =>
    intro ps cs l hl _ h
    obtain rfl : ps = [] := List.eq_nil_of_length_eq_zero hl.symm
    simp only [fillL, Option.some.injEq] at h
    subst h
    simp [Instr.fill]
  | cons p parts ih =>
    intro ps cs l hl hp h
    cases ps with
    | nil => simp at hl
    | cons q ps =>
      obtain ⟨j, v⟩ := p
      obtain ⟨off, sz, u⟩ := q
      have h0 := hp 0 (by simp) (by simp)
      simp only [List.getElem_cons_zero] at h0
      obtain ⟨h01, rfl⟩ := h0
      simp only [fillL] at h
      split at h
      case isFalse => cases h
      rename_i hc
      obtain ⟨hc1, hc2⟩ := hc
      have hfold : v.cells.zipIdx.foldl (fun cs (p : Value × Nat) => cs.setIfInBounds (off + p.2) p.1) cs = (splice cs.toList off v.cells.toList).toArray := by
        have := foldl_set off v.cells.toList 0 cs (by simp at hc2 ⊢; omega)
        rw [← Array.foldl_toList, Array.toList_zipIdx]
        simpa using this
      have hih := ih ps (splice cs.toList off v.cells.toList).toArray l (by simpa using hl) (fun i h1 h2 => by
        have := hp (i + 1) (by simpa using h1) (by simpa using h2)
        simpa using this) (by simpa using h)
      rw [Instr.fill, h01]
      simp only
      rw [if_neg (by simp at hc2 ⊢; exact ⟨hc1, by omega⟩)]
      rw [← hih]
      congr 1

theorem splice_rel {l l' r r' : List Value} (hl : RelL φ l l') (hr : RelL φ r r') (o : Nat) : RelL φ (splice l o r) (splice l' o r') := by
  unfold splice
  rw [hr.1]
  exact ((hl.take o).append hr).append (hl.drop _)
theorem fillL_rel : ∀ (ps ps' : List (Nat × Nat × Value)) (z z' l : List Value), RelL φ z z' → ps.length = ps'.length →
    (∀ i (h : i < ps.length) (h' : i < ps'.length), ps'[i].1 = ps[i].1 ∧ ps'[i].2.1 = ps[i].2.1 ∧ Rel φ ps[i].2.2 ps'[i].2.2) → fillL z ps = some l → ∃ l', fillL z' ps' = some l' ∧ RelL φ l l' := by
  intro ps
  induction ps with
  | nil =>
    intro ps' z z' l hz hl _ h
    obtain rfl : ps' = [] := List.eq_nil_of_length_eq_zero hl.symm
    simp only [fillL, Option.some.injEq] at h
    subst h
    exact ⟨z', rfl, hz⟩
  | cons p ps ih =>
    intro ps' z z' l hz hl hp h
    cases ps' with
    | nil => simp at hl
    | cons q ps' =>
      obtain ⟨off, sz, v⟩ := p
      obtain ⟨off', sz', v'⟩ := q
      have h0 := hp 0 (by simp) (by simp)
      simp only [List.getElem_cons_zero] at h0
      obtain ⟨rfl, rfl, hv⟩ := h0
      simp only [fillL] at h ⊢
      split at h
      case isFalse => cases h
      rename_i hc
      rw [if_pos ⟨hv.cells.1.symm.trans hc.1, by rw [← hz.1]; exact hc.2⟩]
      exact ih ps' _ _ l (splice_rel hz hv.cells.toL _) (by simpa using hl) (fun i h1 h2 => by
        have := hp (i + 1) (by simpa using h1) (by simpa using h2)
        simpa using this) h
end
end Go.Proofs.YtofjnhdgkhfgnaaDoor

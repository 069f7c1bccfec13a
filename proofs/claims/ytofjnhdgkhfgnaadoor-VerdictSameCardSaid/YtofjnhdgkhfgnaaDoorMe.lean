/- The model's operations do what the abstract machine's do: slices. -/
import Derived.Test.YtofjnhdgkhfgnaaDoorMd
namespace Go.Proofs.YtofjnhdgkhfgnaaDoor
open Go Go.RowKit

section
variable {P : Program} {B : Nat} {φ : Emb} {S : St} {w : World}

theorem slice_inv {id o n c : Nat} {v' : Value} (h : Rel φ (.slice (some ⟨id, o, none⟩) n c) v') :
    ∃ s x c', φ id = some s ∧ v' = .slice (some ⟨s.b, x, none⟩) n c' ∧ n ≤ c' ∧ c ≤ c' ∧ n ≤ c ∧ ((x = s.base + o ∧ o + c' * s.sz ≤ s.ext) ∨ (n = 0 ∧ c = 0 ∧ c' = 0)) := by
  cases h with
  | slice _ _ _ _ c' s h hn hc he => exact ⟨s, _, c', h, rfl, by omega, hc, hn, .inl ⟨rfl, he⟩⟩
  | sliceEnd _ _ x s h => exact ⟨s, x, 0, h, rfl, Nat.le_refl _, Nat.le_refl _, Nat.le_refl _, .inr ⟨rfl, rfl, rfl⟩⟩

/-- what a slice holds, on both sides. -/
theorem elems_sound (hs : Sim B φ S w) {esz : Nat} {x x' : Value} {l : List Value} (hx : Rel φ x x') (h : S.elems esz x = some l) :
    ∃ a m c l', x' = .slice a m c ∧ vlen x = some m ∧ RelL φ l l' ∧ l.length = m * esz ∧ (∀ v ∈ l', v.oneCell' = true) ∧ (∀ v ∈ l, v.oneCell' = true) ∧ ∀ W : World, W.heap = w.heap → (Builtin.firstCells esz m x').run P W = .ok l'.toArray W := by
  unfold St.elems at h
  split at h
  · cases hx
    obtain rfl := Option.some.inj h
    exact ⟨none, 0, 0, [], rfl, rfl, RelL.nil _, by simp, by simp, by simp, fun W _ => by simp [Builtin.firstCells]⟩
  · rename_i id o n c
    obtain ⟨s, x, c', e, rfl, hn, _, _, hor⟩ := slice_inv hx
    obtain ⟨hl, l', hrel, h1, h2, hcell⟩ := rd_sound hs e h
    refine ⟨_, n, c', l', rfl, rfl, hrel, hl, h1, h2, fun W hW => ?_⟩
    rcases hor with ⟨rfl, _⟩ | ⟨rfl, _, _⟩
    · exact run_firstCells_some W esz n ⟨s.b, s.base + o, none⟩ n c' l' (hrel.1.symm.trans hl) (fun j v hv => by rw [Addr.add_lit]; unfold World.cell?; rw [hW]; exact hcell j v hv)
    · have : l' = [] := List.eq_nil_of_length_eq_zero (by rw [← hrel.1, hl]; simp)
      subst this
      simp [Builtin.firstCells, loadCells, loadCellsFrom]
  · cases h

theorem run_lenOf (a : Option Addr) (n c : Nat) : (Builtin.lenOf (.slice a n c)).run P w = .ok n w := by simp [Builtin.lenOf]

theorem run_append_in (t ty e : TypeId) (i : TypeInfo) (ht : P.underlying t = some (.slice e)) (hi : P.info? e = some i)
    (b : Option Addr) (n c m : Nat) (x' : Value) (a2 : Option Addr) (c2 : Nat) (hx : x' = .slice a2 m c2) (news : List Value) (hf : (Builtin.firstCells i.size m x').run P w = .ok news.toArray w) (hroom : n + m ≤ c)
    (w' : World) (hst : (match b with | some a => storeCells (a.add (n * i.size)) news | none => pure ()).run P w = .ok () w') :
    (Builtin.append_ #[t, t] ty #[.slice b n c, x']).run P w = .ok (.slice b (n + m) c) w' := by
  subst hx
  cases b with
  | none =>
    simp at hst
    subst hst
    simp [Builtin.append_, run_underlying ht, sizeOf, typeInfo, hi, Builtin.lenOf, hroom, hf]
  | some a =>
    simp only at hst
    simp [Builtin.append_, run_underlying ht, sizeOf, typeInfo, hi, Builtin.lenOf, hroom, hf, hst]

theorem run_append_new (t ty e : TypeId) (i : TypeInfo) (z : Value) (ht : P.underlying t = some (.slice e)) (hi : P.info? e = some i) (hz : i.zero = some z)
    (b : Option Addr) (n c m : Nat) (x' : Value) (a2 : Option Addr) (c2 : Nat) (hx : x' = .slice a2 m c2) (news olds : List Value) (hf : (Builtin.firstCells i.size m x').run P w.drew = .ok news.toArray w.drew)
    (ho : (Builtin.firstCells i.size n (.slice b n c)).run P w.drew = .ok olds.toArray w.drew) (hg : c < n + m) (hby : (n + m) * i.bytes ≤ reach) (h0 : 0 < i.bytes) :
    (Builtin.append_ #[t, t] ty #[.slice b n c, x']).run P w = .ok (.slice (some ⟨w.heap.size, 0, none⟩) (n + m) (grownCap w (n + m) c e))
      (w.drew.alloc (.cells (olds.toArray ++ news.toArray ++ Builtin.zeroCells z.cells (grownCap w (n + m) c e - (n + m))) e)) := by
  subst hx
  have hr : (n + m) * 1 ≤ (n + m) * i.bytes := Nat.mul_le_mul_left _ h0
  unfold reach at hby
  have hfit := growslice_fits hg (by omega : (n + m) * i.bytes ≤ 140737488355328)
  have hn : ¬ (n + m ≤ c) := by omega
  have h63' : ¬ (9223372036854775807 < ((n : Int) + (m : Int))) := by omega
  have h48' : ¬ (281474976710656 < Builtin.nextslicecap (n + m) c * i.bytes) := by omega
  simp [Builtin.append_, run_underlying ht, sizeOf, typeInfo, zeroValue, hi, hz, Builtin.lenOf, hn, h63', h48', Question.forced, hf, ho, newRow, grownCap]
  congr 2
  apply Array.ext'
  simp [List.append_assoc]

theorem append_sound (hs : Sim B φ S w) (hB : B ≤ w.heap.size) {t e : TypeId} {ty : TypeId} {i : TypeInfo} {z : Value} (ht : P.underlying t = some (.slice e)) (hi : P.info? e = some i) (hz : i.zero = some z) (hzs : z.cells.size = i.size)
    {s s' x x' v : Value} {S' : St} (hsr : Rel φ s s') (hx : Rel φ x x') (h : xappend e i.size i.bytes s x S = some (v, S')) :
    OutV P B φ S w (Builtin.append_ #[t, t] ty #[s', x']) v S' := by
  unfold xappend at h
  split at h
  case h_2 => cases h
  rename_i news m hel hvl
  obtain ⟨a2, m', c2, news', hx', hvl', hrel, hnl, h1, h1a, hf⟩ := elems_sound (P := P) hs hx hel
  rw [hvl] at hvl'
  obtain rfl := Option.some.inj hvl'
  by_cases hm : m = 0
  · -- nothing is appended
    subst hm
    rw [if_pos rfl] at h
    split at h
    case h_2 => cases h
    rename_i a n c
    obtain ⟨rfl, rfl⟩ := Prod.mk.inj (Option.some.inj h)
    have hnil : news' = [] := List.eq_nil_of_length_eq_zero (by rw [← hrel.1, hnl]; simp)
    subst hnil
    obtain ⟨a', c', rfl, hn⟩ : ∃ a' c', s' = .slice a' n c' ∧ n ≤ c' := by
      cases hsr with
      | sliceNil => exact ⟨none, 0, rfl, Nat.le_refl _⟩
      | slice _ _ _ _ c' s h hn hc he => exact ⟨_, c', rfl, by omega⟩
      | sliceEnd _ _ x s h => exact ⟨_, 0, rfl, Nat.le_refl _⟩
    have hr := run_append_in (P := P) (w := w) t ty e i ht hi a' n c' 0 x' a2 c2 hx' [] (hf w rfl) (by omega) w (by cases a' <;> simp [storeCells])
    exact OutV.same hs hr hsr
  · rw [if_neg hm] at h
    split at h
    case isFalse => cases h
    rename_i hcond
    simp only [Bool.and_eq_true, decide_eq_true_eq] at hcond
    obtain ⟨⟨hone, hsz⟩, hby0⟩ := hcond
    split at h
    case h_3 => cases h
    case h_1 =>
      split at h
      case isFalse => cases h
      rename_i hby
      obtain ⟨rfl, rfl⟩ := Prod.mk.inj (Option.some.inj h)
      cases hsr
      have hr := run_append_new (P := P) (w := w) t ty e i z ht hi hz none 0 0 m x' a2 c2 hx' news' [] (hf w.drew rfl) (by simp [Builtin.firstCells]) (by omega) (by simpa using hby) hby0
      have hcap := grownCap_ge w (0 + m) 0 e
      obtain ⟨k1, k2⟩ := hs.drew.alloc hB news (#[] ++ news'.toArray ++ Builtin.zeroCells z.cells (grownCap w (0 + m) 0 e - (0 + m))) e e i.size h1a (by simp [hrel.1]) (fun j u hu => by
        have hj : j < news.length := (List.getElem?_eq_some_iff.1 hu).1
        have hj' : j < news'.length := by rw [← hrel.1]; exact hj
        refine ⟨news'[j], ?_, ?_⟩
        · simp [Array.getElem?_append, hj']
        · have := hrel.2 j hj hj'
          rw [List.getElem?_eq_getElem hj] at hu
          rw [← Option.some.inj hu]; exact this) []
      refine ⟨_, _, _, by simpa using hr, ?_, k1, (Keep.drew B φ S w).trans k2⟩
      have hrr := Rel.slice (φ := φ.add S.next ⟨w.drew.heap.size, 0, (#[] ++ news'.toArray ++ Builtin.zeroCells z.cells (grownCap w (0 + m) 0 e - (0 + m))).size, i.size⟩) S.next 0 m m (grownCap w m 0 e) _ (Emb.add_same _ _ _) (Nat.le_refl _) (by simpa using hcap) ?_
      · simpa using hrr
      have hl : news'.length = m * i.size := by rw [← hrel.1, hnl]
      simp only [Nat.zero_add] at hcap
      have he : grownCap w m 0 e * i.size = m * i.size + (grownCap w m 0 e - m) * i.size := by rw [← Nat.add_mul]; congr 1; omega
      simp only [Array.size_append, List.size_toArray, size_zeroCells, hzs, hl, Nat.zero_add]
      omega
    case h_2 =>
      rename_i id o n c
      split at h
      case h_2 => cases h
      rename_i cc t2 z2 an hget
      obtain ⟨sp, xo, c', hid, rfl, hn, hcc, hnc, hor⟩ := slice_inv hsr
      obtain ⟨d1, d2, d3, cs, t', d4, d5, d6⟩ := hs.blk id sp cc t2 z2 true an hid hget
      have d4 := d4.mine
      split at h
      case isTrue hgrow =>
        obtain ⟨rfl, rfl, hend⟩ := hgrow
        split at h
        case isFalse => cases h
        rename_i hby
        obtain ⟨rfl, rfl⟩ := Prod.mk.inj (Option.some.inj h)
        have holds : S.elems i.size (.slice (some ⟨id, o, none⟩) n n) = some (cc.drop o) := by
          simp only [St.elems, St.rd, hget]
          rw [if_pos (by omega), List.take_of_length_le (by simp; omega)]
        obtain ⟨_, _, _, olds', hso, hvo, hro, hol, h1o, h1oa, hfo⟩ := elems_sound (P := P) hs hsr holds
        obtain ⟨rfl, rfl, rfl⟩ := Value.slice.inj hso
        have hlo : olds'.length = n * i.size := by rw [← hro.1, hol]
        have hln : news'.length = m * i.size := by rw [← hrel.1, hnl]
        have hall : ∀ v ∈ cc.drop o ++ news, v.oneCell' = true := by
          intro v hv
          rcases List.mem_append.1 hv with h | h
          · exact h1oa v h
          · exact h1a v h
        by_cases hroom : n + m ≤ c'
        · -- there is room
          have hpos : xo = sp.base + o ∧ o + c' * sp.sz ≤ sp.ext := by
            rcases hor with h | ⟨h1, h2, h3⟩
            · exact h
            · omega
          obtain ⟨rfl, hext⟩ := hpos
          have hmul : (n + m) * i.size ≤ c' * i.size := Nat.mul_le_mul_right _ hroom
          rw [d1] at hext
          have hfit : cc.length + news.length ≤ sp.ext := by rw [hnl, ← hend]; rw [Nat.add_mul] at hmul; omega
          have h1r : ∀ v ∈ news', v.oneCell' = true := h1
          have hat : (⟨sp.b, sp.base + o, none⟩ : Addr).add (n * i.size) = ⟨sp.b, sp.base + cc.length, none⟩ := by rw [Addr.add_lit, ← hend, Nat.add_assoc]
          have hst := run_storeCells_at P sp.b (sp.base + cc.length) t' news' 0 cs w d4 (by rw [← hrel.1]; omega) h1r
          have hr := run_append_in (P := P) (w := w) t ty e i ht hi (some ⟨sp.b, sp.base + o, none⟩) n c' m x' a2 c2 hx' news' (hf w rfl) hroom _ (by simp only [hat]; exact hst)
          have hsp : (cs.toList.take (sp.base + cc.length + 0) ++ news' ++ cs.toList.drop (sp.base + cc.length + 0 + news'.length)) = splice cs.toList (sp.base + cc.length) news' := by unfold splice; simp
          rw [hsp] at hr
          have hfit2 : sp.base + cc.length + news'.length ≤ cs.toList.length := by rw [← hrel.1]; simp; omega
          obtain ⟨k1, k2⟩ := hs.growIn (news := news) o (by omega) hid hget cs (splice cs.toList (sp.base + cc.length) news').toArray e t' d4 (by simp [splice_length _ _ _ hfit2]) hfit h1a (fun j hj => by
            rw [List.getElem?_toArray, splice_get _ _ _ hfit2, if_neg (by omega)]; simp) (fun j u hu => by
            have hj : j < news.length := (List.getElem?_eq_some_iff.1 hu).1
            have hj' : j < news'.length := by rw [← hrel.1]; exact hj
            refine ⟨news'[j], ?_, ?_⟩
            · rw [List.getElem?_toArray, splice_get _ _ _ hfit2, if_pos (by omega), show sp.base + (cc.length + j) - (sp.base + cc.length) = j by omega, List.getElem?_eq_getElem hj']
            · have := hrel.2 j hj hj'
              rw [List.getElem?_eq_getElem hj] at hu
              rw [← Option.some.inj hu]; exact this)
          refine ⟨_, _, _, hr, ?_, k1, k2⟩
          have := Rel.slice (φ := φ.add S.next ⟨sp.b, sp.base + o, sp.ext - o, i.size⟩) S.next 0 (n + m) (n + m) c' _ (Emb.add_same _ _ _) (Nat.le_refl _) hroom (by simp only; omega)
          simpa using this
        · -- it grows
          have hr := run_append_new (P := P) (w := w) t ty e i z ht hi hz (some ⟨sp.b, xo, none⟩) n c' m x' a2 c2 hx' news' olds' (hf w.drew rfl) (hfo w.drew rfl) (by omega) hby hby0
          have hcap := grownCap_ge w (n + m) c' e
          obtain ⟨k1, k2⟩ := hs.drew.growNew hB hget (cc.drop o ++ news) e e (olds'.toArray ++ news'.toArray ++ Builtin.zeroCells z.cells (grownCap w (n + m) c' e - (n + m))) hall (by simp [hlo, hln]; rw [hnl]; omega) (fun j u hu => by
            have hrr := hro.append hrel
            have hj : j < (cc.drop o ++ news).length := (List.getElem?_eq_some_iff.1 hu).1
            have hj' : j < (olds' ++ news').length := by rw [← hrr.1]; exact hj
            refine ⟨(olds' ++ news')[j], ?_, ?_⟩
            · have : olds'.toArray ++ news'.toArray ++ Builtin.zeroCells z.cells (grownCap w (n + m) c' e - (n + m)) = (olds' ++ news' ++ (Builtin.zeroCells z.cells (grownCap w (n + m) c' e - (n + m))).toList).toArray := by
                apply Array.ext'; simp
              rw [this, List.getElem?_toArray, List.getElem?_append_left hj', List.getElem?_eq_getElem hj']
            · have := hrr.2 j hj hj'
              rw [List.getElem?_eq_getElem hj] at hu
              rw [← Option.some.inj hu]; exact this)
          refine ⟨_, _, _, hr, ?_, k1, (Keep.drew B φ S w).trans k2⟩
          refine (Rel.slice (φ := φ.add S.next ⟨w.drew.heap.size, 0, _, i.size⟩) S.next 0 (n + m) (n + m) (grownCap w (n + m) c' e) _ (Emb.add_same _ _ _) (Nat.le_refl _) (by omega) ?_)
          simp only [Array.size_append, List.size_toArray, size_zeroCells, hzs, hlo, hln, Nat.zero_add, ← Nat.add_mul]
          refine Nat.le_of_eq ?_
          congr 1
          omega
      case isFalse hgrow =>
        split at h
        case isFalse => cases h
        rename_i hin
        obtain ⟨rfl, hroom, hfit⟩ := hin
        obtain ⟨rfl, rfl⟩ := Prod.mk.inj (Option.some.inj h)
        have hpos : xo = sp.base + o ∧ o + c' * sp.sz ≤ sp.ext := by
          rcases hor with h | ⟨h1, h2, h3⟩
          · exact h
          · omega
        obtain ⟨rfl, hext⟩ := hpos
        obtain ⟨w', hst, k1, k2⟩ := write_sound (P := P) hs hid hget (o := o + n * i.size) hrel hone (by rw [hnl]; rw [Nat.add_mul] at hfit; omega)
        have hat : (⟨sp.b, sp.base + o, none⟩ : Addr).add (n * i.size) = ⟨sp.b, sp.base + (o + n * i.size), none⟩ := by rw [Addr.add_lit, Nat.add_assoc]
        have hr := run_append_in (P := P) (w := w) t ty e i ht hi (some ⟨sp.b, sp.base + o, none⟩) n c' m x' a2 c2 hx' news' (hf w rfl) (by omega) w' (by simp only [hat]; exact hst 0 rfl)
        exact ⟨φ, _, w', hr, .slice id o (n + m) c c' sp hid hroom hcc hext, k1, k2⟩
end
end Go.Proofs.YtofjnhdgkhfgnaaDoor

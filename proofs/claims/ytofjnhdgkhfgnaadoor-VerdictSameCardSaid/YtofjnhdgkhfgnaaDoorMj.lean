/- Every operation that is read as one of the abstract machine's does the same. -/
import Derived.Test.YtofjnhdgkhfgnaaDoorMmp
set_option linter.unusedVariables false
set_option linter.unnecessarySimpa false
namespace Go.Proofs.YtofjnhdgkhfgnaaDoor
open Go Go.RowKit

section
variable {P : Program} {B : Nat} {φ : Emb} {S : St} {w : World}

theorem rel_argsL {l : List Operand} {ρa ρc : Operand → Value} (h : ∀ x ∈ l, Rel φ (ρa x) (ρc x)) : RelL φ (l.map ρa) (l.map ρc) :=
  ⟨by simp, fun i h1 h2 => by simpa using h _ (List.getElem_mem (by simpa using h1))⟩
theorem rel_argsA {l : Array Operand} {ρa ρc : Operand → Value} (h : ∀ x ∈ l, Rel φ (ρa x) (ρc x)) : RelA φ (l.map ρa) (l.map ρc) :=
  ⟨by simp, fun i h1 h2 => by simpa using h _ (Array.getElem_mem (by simpa using h1))⟩

theorem minmax_run (mx : Bool) : ∀ (l l' : List Value) (a : Int) (k : IntKind) (v : Value), xminmax mx a k l = some v → RelL φ l l' → (l'.foldlM (if mx then Builtin.max2 else Builtin.min2) (.int k a)).run P w = .ok v w ∧ Rel φ v v := by
  intro l
  induction l with
  | nil =>
    intro l' a k v h hr
    obtain rfl : l' = [] := List.eq_nil_of_length_eq_zero hr.1.symm
    obtain rfl := Option.some.inj h
    exact ⟨by simp, .int _ _⟩
  | cons x l ih =>
    intro l' a k v h hr
    cases l' with
    | nil => have := hr.1; simp at this
    | cons x' l' =>
      have hx := hr.2 0 (by simp) (by simp)
      simp only [List.getElem_cons_zero] at hx
      cases x with
      | int j b =>
        rw [int_inv hx]
        simp only [xminmax] at h
        split at h
        case isFalse => cases h
        rename_i e
        subst e
        obtain ⟨h1, h2⟩ := ih l' _ _ v h hr.tail
        refine ⟨?_, h2⟩
        cases mx
        · simp only [Bool.false_eq_true, if_false] at h1 ⊢
          rw [List.foldlM_cons]
          simpa [Builtin.min2] using h1
        · simp only [if_true] at h1 ⊢
          rw [List.foldlM_cons]
          simpa [Builtin.max2] using h1
      | _ => simp [xminmax] at h

theorem outU {s : Sem Unit} {v : Value} {S' : St} {w' : World} (hr : s.run P w = .ok () w') (hv : v = undef) (h1 : Sim B φ S' w') (h2 : Keep B φ S w φ S' w') : OutE P B φ S w (do s; pure .skip) v S' :=
  ⟨φ, undef, w', .inr ⟨by simp [hr], rfl⟩, by rw [hv]; exact Rel.undef φ, h1, h2⟩

theorem trElem_inv {t e : TypeId} {i : TypeInfo} {z : Value} (h : trElem P t = some (e, i, z)) : P.underlying t = some (.slice e) ∧ P.info? e = some i ∧ i.zero = some z ∧ z.cells.size = i.size ∧ flatL z.cells.toList = true := by
  unfold trElem at h
  split at h
  case h_2 => cases h
  rename_i e' hu
  split at h
  case h_2 => cases h
  rename_i i' hi
  split at h
  case h_2 => cases h
  rename_i z' hz
  split at h
  case isFalse => cases h
  rename_i hc
  simp only [Option.some.injEq, Prod.mk.injEq] at h
  obtain ⟨rfl, rfl, rfl⟩ := h
  exact ⟨hu, hi, hz, hc.1, hc.2⟩

theorem builtin_ofV {b : Builtin} {s : Sem Value} {v : Value} {S' : St} {argTypes : Array TypeId} {ty : TypeId} {consts : Array Bool} {args : Array Value} (e : builtin b argTypes ty consts args = (do pure (.value (← s)))) (h : OutV P B φ S w s v S') : OutE P B φ S w (builtin b argTypes ty consts args) v S' := by
  rw [e]; exact OutE.ofV h

theorem trCall_sound (hs : Sim B φ S w) (hB : B ≤ w.heap.size) {o : Oper} {c : Call} (ho : o.op = .call c) {xo : XOp} (ht : trCall P c = some xo) {ρa ρc : Operand → Value} (hρ : ∀ x ∈ c.operands, Rel φ (ρa x) (ρc x)) {v : Value} {S' : St} (h : xop xo ρa S = some (v, S')) :
    OutE P B φ S w (execOp ρc o) v S' := by
  have hargs : ∀ x ∈ c.args, Rel φ (ρa x) (ρc x) := fun x hx => hρ x (by simp [Call.operands, hx])
  obtain ⟨callee, args, argTypes⟩ := c
  have hexec : ∀ b, callee = .builtin b → execOp ρc o = builtin b argTypes o.type (args.map fun | .const _ => true | _ => false) (args.map ρc) := by
    intro b hb
    subst hb
    unfold execOp
    simp only [ho, resolve]
    rfl
  unfold trCall at ht
  simp only at ht hargs
  split at ht
  · -- len
    rename_i x t hx1 hx2
    rw [hexec _ rfl]
    have ha : args = #[x] := by apply Array.ext'; simpa using hx1
    have hb : argTypes = #[t] := by apply Array.ext'; simpa using hx2
    subst ha; subst hb
    have hx := hargs x (by simp)
    split at ht
    · rename_i e hu
      obtain rfl := Option.some.inj ht
      simp only [xop] at h
      split at h
      case h_2 => cases h
      rename_i a n c0 e1
      obtain ⟨rfl, rfl⟩ := Prod.mk.inj (Option.some.inj h)
      rw [e1] at hx
      refine builtin_ofV (s := Builtin.len_ #[t] o.type #[ρc x]) (by simp [builtin]) (OutV.same hs (v' := .int .i64 n) ?_ (.int _ _))
      revert hx
      generalize ρc x = u'
      intro hx
      cases hx <;> simp [Builtin.len_, run_underlying hu, goInt]
    · rename_i hu
      obtain rfl := Option.some.inj ht
      simp only [xop] at h
      split at h
      case h_2 => cases h
      rename_i q e1
      obtain ⟨rfl, rfl⟩ := Prod.mk.inj (Option.some.inj h)
      rw [e1] at hx
      refine builtin_ofV (s := Builtin.len_ #[t] o.type #[ρc x]) (by simp [builtin]) (OutV.same hs (v' := .int .i64 q.size) ?_ (.int _ _))
      simp [string_inv hx, Builtin.len_, run_underlying hu, goInt]
    · cases ht
  · -- append
    rename_i s x t u hx1 hx2
    rw [hexec _ rfl]
    have ha : args = #[s, x] := by apply Array.ext'; simpa using hx1
    have hb : argTypes = #[t, u] := by apply Array.ext'; simpa using hx2
    subst ha; subst hb
    split at ht
    case isFalse => cases ht
    rename_i e
    subst e
    simp only [Option.map_eq_some_iff] at ht
    obtain ⟨⟨e, i, z⟩, hte, rfl⟩ := ht
    obtain ⟨h1, h2, h3, h4, h5⟩ := trElem_inv hte
    exact builtin_ofV (s := Builtin.append_ #[t, t] o.type #[ρc s, ρc x]) (by simp [builtin]) (append_sound hs hB h1 h2 h3 h4 (hargs s (by simp)) (hargs x (by simp)) h)
  · -- copy
    rename_i s x t u hx1 hx2
    rw [hexec _ rfl]
    have ha : args = #[s, x] := by apply Array.ext'; simpa using hx1
    have hb : argTypes = #[t, u] := by apply Array.ext'; simpa using hx2
    subst ha; subst hb
    simp only [Option.map_eq_some_iff] at ht
    obtain ⟨⟨e, i, z⟩, hte, rfl⟩ := ht
    obtain ⟨h1, h2, h3, h4, h5⟩ := trElem_inv hte
    exact builtin_ofV (s := Builtin.copy_ #[t, u] o.type #[ρc s, ρc x]) (by simp [builtin]) (copy_sound hs h1 h2 (hargs s (by simp)) (hargs x (by simp)) h)
  · -- clear
    rename_i x t hx1 hx2
    rw [hexec _ rfl]
    have ha : args = #[x] := by apply Array.ext'; simpa using hx1
    have hb : argTypes = #[t] := by apply Array.ext'; simpa using hx2
    subst ha; subst hb
    simp only [Option.map_eq_some_iff] at ht
    obtain ⟨⟨e, i, z⟩, hte, rfl⟩ := ht
    obtain ⟨h1, h2, h3, h4, h5⟩ := trElem_inv hte
    exact builtin_ofV (s := Builtin.clear_ #[t] o.type #[ρc x]) (by simp [builtin]) (clr_sound hs h1 h2 h3 h5 (hargs x (by simp)) h)
  · -- min
    rename_i x l hx1
    rw [hexec _ rfl]
    have ha : args = (x :: l).toArray := by apply Array.ext'; simpa using hx1
    subst ha
    obtain rfl := Option.some.inj ht
    simp only [xop] at h
    split at h
    case h_2 => cases h
    rename_i k a e1
    simp only [Option.map_eq_some_iff, Prod.mk.injEq] at h
    obtain ⟨v0, h, rfl, rfl⟩ := h
    have hx := hargs x (by simp)
    rw [e1] at hx
    obtain ⟨h1, h2⟩ := minmax_run (P := P) (w := w) false (l.map ρa) (l.map ρc) a k v0 h (rel_argsL fun y hy => hargs y (by simp [hy]))
    refine builtin_ofV (s := Builtin.min_ argTypes o.type (((x :: l).toArray).map ρc)) (by simp [builtin]) (OutV.same hs (v' := v0) ?_ h2)
    simp only [Bool.false_eq_true, if_false] at h1
    simp [Builtin.min_, int_inv hx]
    simpa using h1
  · -- max
    rename_i x l hx1
    rw [hexec _ rfl]
    have ha : args = (x :: l).toArray := by apply Array.ext'; simpa using hx1
    subst ha
    obtain rfl := Option.some.inj ht
    simp only [xop] at h
    split at h
    case h_2 => cases h
    rename_i k a e1
    simp only [Option.map_eq_some_iff, Prod.mk.injEq] at h
    obtain ⟨v0, h, rfl, rfl⟩ := h
    have hx := hargs x (by simp)
    rw [e1] at hx
    obtain ⟨h1, h2⟩ := minmax_run (P := P) (w := w) true (l.map ρa) (l.map ρc) a k v0 h (rel_argsL fun y hy => hargs y (by simp [hy]))
    refine builtin_ofV (s := Builtin.max_ argTypes o.type (((x :: l).toArray).map ρc)) (by simp [builtin]) (OutV.same hs (v' := v0) ?_ h2)
    simp only [if_true] at h1
    simp [Builtin.max_, int_inv hx]
    simpa using h1
  · -- a call: not here
    split at ht
    · split at ht
      · obtain rfl := Option.some.inj ht
        simp [xop] at h
      · cases ht
    · cases ht
  · obtain rfl := Option.some.inj ht
    simp [xop] at h
  · cases ht

theorem parts_rel {ps : List (Nat × Nat × Operand)} {ρa ρc : Operand → Value} (h : ∀ p ∈ ps, Rel φ (ρa p.2.2) (ρc p.2.2)) {z l : List Value} (hz : flatL z = true) (hf : fillL z (ps.map fun p => (p.1, p.2.1, ρa p.2.2)) = some l) :
    ∃ l', fillL z (ps.map fun p => (p.1, p.2.1, ρc p.2.2)) = some l' ∧ RelL φ l l' :=
  fillL_rel _ _ z z l (flatL_rel hz φ) (by simp) (fun i h1 h2 => ⟨by simp, by simp, by simpa using h _ (List.getElem_mem (by simpa using h1))⟩) hf

theorem mapM_struct : ∀ (l : List Field) (w : World) (zs : List (Nat × Nat)), (l.mapM fun f => (P.info? f.type).map fun i => (f.offset, i.size)) = some zs →
    ((l.mapM fun f => (do pure (f.offset, ← sizeOf f.type) : Sem (Nat × Nat))).run P w) = .ok zs w := by
  intro l
  induction l with
  | nil => intro w zs h; simp at h; subst h; simp
  | cons f l ih =>
    intro w zs h
    simp only [List.mapM_cons, Option.bind_eq_bind, Option.bind_eq_some_iff, Option.map_eq_some_iff] at h
    obtain ⟨q, ⟨i, hi, rfl⟩, r, hr, h⟩ := h
    simp at h
    subst h
    have hz := run_sizeOf' (w := w) f.type i hi
    simp only [List.mapM_cons, Sem.run_bind, hz, Result.andThen_ok, Sem.run_pure, ih w r hr]

theorem mapM_parts {zs : List (Nat × Nat)} : ∀ {parts : List (Nat × Operand)} {ps : List (Nat × Nat × Operand)}, (parts.mapM fun p => (zs[p.1]?).map fun q => (q.1, q.2, p.2)) = some ps →
    parts.length = ps.length ∧ ∀ i (h : i < parts.length) (h' : i < ps.length), zs[parts[i].1]? = some (ps[i].1, ps[i].2.1) ∧ parts[i].2 = ps[i].2.2 := by
  intro parts
  induction parts with
  | nil => intro ps h; simp at h; subst h; exact ⟨rfl, fun i h => by simp at h⟩
  | cons p parts ih =>
    intro ps h
    simp only [List.mapM_cons, Option.bind_eq_bind, Option.bind_eq_some_iff, Option.map_eq_some_iff] at h
    obtain ⟨q, ⟨z, hz, rfl⟩, r, hr, h⟩ := h
    simp at h
    subst h
    obtain ⟨h1, h2⟩ := ih hr
    refine ⟨by simp [h1], fun i hi hi' => ?_⟩
    cases i with
    | zero => exact ⟨hz, rfl⟩
    | succ i => simpa using h2 i (by simpa using hi) (by simpa using hi')

theorem build_sound (hs : Sim B φ S w) {t : TypeId} {i : TypeInfo} {z : Value} (hi : P.info? t = some i) (hz : i.zero = some z) (hzf : flatL z.cells.toList = true) {parts : Array (Nat × Operand)} {ps : List (Nat × Nat × Operand)} (hp : trParts P t parts.toList = some ps)
    {ρa ρc : Operand → Value} (hρ : ∀ p ∈ parts, Rel φ (ρa p.2) (ρc p.2)) {l : List Value} (h : fillL z.cells.toList (ps.map fun p => (p.1, p.2.1, ρa p.2.2)) = some l) :
    OutV P B φ S w (Instr.build t (parts.map fun (i, x) => (i, ρc x))) (.agg l.toArray) S := by
  unfold trParts at hp
  split at hp
  · rename_i fs hu
    simp only [Option.bind_eq_some_iff] at hp
    obtain ⟨zs, hzs, hps⟩ := hp
    obtain ⟨hl, hget⟩ := mapM_parts hps
    have hrel : ∀ p ∈ ps, Rel φ (ρa p.2.2) (ρc p.2.2) := by
      intro p hp
      obtain ⟨j, hj, rfl⟩ := List.getElem_of_mem hp
      rw [← (hget j (by omega) hj).2]
      exact hρ _ (by have := List.getElem_mem (l := parts.toList) (show j < parts.toList.length by omega); simpa using this)
    obtain ⟨l', hf, hr⟩ := parts_rel hrel hzf h
    have hm := mapM_struct (P := P) fs.toList w zs hzs
    refine OutV.same hs (v' := .agg l'.toArray) ?_ (.agg' hr.toA)
    have hfill := fill_eq (fun j => zs.toArray[j]?) ((parts.map fun (i, x) => (i, ρc x)).toList) (ps.map fun p => (p.1, p.2.1, ρc p.2.2)) z.cells l' (by simp [hl]) (fun j h1 h2 => by
      have := hget j (by simpa using h1) (by simpa using h2)
      simp at this ⊢
      exact ⟨this.1, by rw [this.2]⟩) hf
    have hmA : (fs.mapM fun f => (do pure (f.offset, ← sizeOf f.type) : Sem (Nat × Nat))).run P w = .ok zs.toArray w := by
      rw [← Array.toArray_toList (xs := fs), List.mapM_toArray, Sem.run_map, hm]
      rfl
    simp only [Instr.build, Sem.run_bind, zeroValue, typeInfo, run_program, Result.andThen_ok, hi, Sem.run_pure, hz, run_underlying hu, hmA, hfill]
  · rename_i n e hu
    simp only [Option.map_eq_some_iff] at hp
    obtain ⟨j, hj, rfl⟩ := hp
    have hrel : ∀ p ∈ (parts.toList.map fun p => (p.1 * j.size, j.size, p.2)), Rel φ (ρa p.2.2) (ρc p.2.2) := by
      intro p hp
      simp only [List.mem_map] at hp
      obtain ⟨q, hq, rfl⟩ := hp
      exact hρ q (by simpa using hq)
    obtain ⟨l', hf, hr⟩ := parts_rel hrel hzf h
    refine OutV.same hs (v' := .agg l'.toArray) ?_ (.agg' hr.toA)
    have hzz := run_sizeOf' (w := w) e j hj
    have hfill := fill_eq (fun i => some (i * j.size, j.size)) ((parts.map fun (i, x) => (i, ρc x)).toList) _ z.cells l' (by simp) (fun j h1 h2 => by simp) hf
    simp only [Instr.build, Sem.run_bind, zeroValue, typeInfo, run_program, Result.andThen_ok, hi, Sem.run_pure, hz, run_underlying hu, hzz, hfill]
  · cases hp

theorem buildSlice_sound (hs : Sim B φ S w) (hB : B ≤ w.heap.size) {t e : TypeId} {i : TypeInfo} {z : Value} (hte : trElem P t = some (e, i, z)) {n : Nat} (hn : n * i.size ≤ 16777216) {parts : Array (Nat × Operand)}
    {ρa ρc : Operand → Value} (hρ : ∀ p ∈ parts, Rel φ (ρa p.2) (ρc p.2)) {l : List Value} (h : fillL (rep n z.cells.toList) ((parts.toList.map fun p => (p.1 * i.size, i.size, p.2)).map fun p => (p.1, p.2.1, ρa p.2.2)) = some l) (hone : allOne l = true) :
    OutV P B φ S w (Instr.buildSlice t n (parts.map fun (i, x) => (i, ρc x))) (.slice (some ⟨S.next, 0, none⟩) n n) (S.alloc (.cells l e i.size true [])) := by
  obtain ⟨hu, hi, hz, hzs, hzf⟩ := trElem_inv hte
  have hrel : ∀ p ∈ (parts.toList.map fun p => (p.1 * i.size, i.size, p.2)), Rel φ (ρa p.2.2) (ρc p.2.2) := by
    intro p hp
    simp only [List.mem_map] at hp
    obtain ⟨q, hq, rfl⟩ := hp
    exact hρ q (by simpa using hq)
  have hrf := flatL_rep hzf n
  obtain ⟨l', hf, hr⟩ := parts_rel hrel hrf h
  have hzz := run_sizeOf' (w := w) e i hi
  have hcells : ((Array.range (n * i.size)).map (z.cells[· % z.cells.size]!)).toList = rep n z.cells.toList := by rw [← hzs]; exact madeCells_rep _ _
  have hfill := fill_eq (fun j => some (j * i.size, i.size)) ((parts.map fun (i, x) => (i, ρc x)).toList) ((parts.toList.map fun p => (p.1 * i.size, i.size, p.2)).map fun p => (p.1, p.2.1, ρc p.2.2)) ((Array.range (n * i.size)).map (z.cells[· % z.cells.size]!)) l' (by simp) (fun j h1 h2 => by simp) (by rw [hcells]; exact hf)
  have hll : l'.length = n * i.size := by
    have : ∀ (ps : List (Nat × Nat × Value)) (z l : List Value), fillL z ps = some l → l.length = z.length := by
      intro ps
      induction ps with
      | nil => intro z l h; simp [fillL] at h; rw [h]
      | cons p ps ih =>
        intro z l h
        obtain ⟨off, sz, v⟩ := p
        simp only [fillL] at h
        split at h
        case isFalse => cases h
        rename_i hc
        rw [ih _ _ h, splice_length _ _ _ (by simp; omega)]
    rw [this _ _ _ hf, rep_length]
    simp [hzs]
  have hone' : ∀ v ∈ l, v.oneCell' = true := allOne_iff.1 hone
  obtain ⟨k1, k2⟩ := hs.alloc hB l l'.toArray e e i.size hone' (by simp [hr.1]) (fun j u hu => by
    have hj : j < l.length := (List.getElem?_eq_some_iff.1 hu).1
    have hj' : j < l'.length := by rw [← hr.1]; exact hj
    refine ⟨l'[j], by simp [hj'], ?_⟩
    have := hr.2 j hj hj'
    rw [List.getElem?_eq_getElem hj] at hu
    rw [← Option.some.inj hu]; exact this) []
  refine ⟨_, .slice (some ⟨w.heap.size, 0, none⟩) n n, _, ?_, ?_, k1, k2⟩
  · have hnn : ¬ (16777216 < n * i.size) := by omega
    by_cases hn0 : n * i.size = 0
    · have he : (Array.range (n * i.size)).map (z.cells[· % z.cells.size]!) = #[] := Array.eq_empty_of_size_eq_zero (by simp [hn0])
      rw [he] at hfill
      simp only [Instr.buildSlice, Sem.run_bind, run_underlying hu, Result.andThen_ok, hzz, hn0, Nat.not_lt_zero, if_false, if_true, Sem.run_pure, gt_iff_lt]
      have he0 : (Array.range 0).map ((#[] : Array Value)[· % (#[] : Array Value).size]!) = #[] := Array.eq_empty_of_size_eq_zero (by simp)
      rw [he0, hfill]
      simp [newRow]
    · simp only [Instr.buildSlice, Sem.run_bind, run_underlying hu, Result.andThen_ok, hzz, gt_iff_lt, Sem.run_ite, hn0, if_false, zeroValue, typeInfo, run_program, hi, hz, Sem.run_pure]
      rw [if_neg (by simpa using hnn)]
      simp only [Sem.run_pure, Result.andThen_ok, hfill, newRow, Sem.run_bind, run_newObj]
      rfl
  · have := Rel.slice (φ := φ.add S.next ⟨w.heap.size, 0, l'.toArray.size, i.size⟩) S.next 0 n n n _ (Emb.add_same _ _ _) (Nat.le_refl _) (Nat.le_refl _) (by simp [hll])
    simpa using this

theorem tr_sound (hs : Sim B φ S w) (hB : B ≤ w.heap.size) {o : Oper} {xo : XOp} (ht : tr P o = some xo) {ρa ρc : Operand → Value} (hρ : ∀ x ∈ o.op.operands, Rel φ (ρa x) (ρc x)) {v : Value} {S' : St} (h : xop xo ρa S = some (v, S')) :
    OutE P B φ S w (execOp ρc o) v S' := by
  unfold tr at ht
  split at ht
  case h_1 x ho =>
    obtain rfl := Option.some.inj ht
    obtain ⟨rfl, rfl⟩ := Prod.mk.inj (Option.some.inj h)
    refine OutE.same hs (v' := ρc x) ?_ (hρ x (by simp [ho, Op.operands]))
    simp [execOp, ho]
  case h_2 x ho =>
    obtain rfl := Option.some.inj ht
    obtain ⟨rfl, rfl⟩ := Prod.mk.inj (Option.some.inj h)
    refine OutE.same hs (v' := ρc x) ?_ (hρ x (by simp [ho, Op.operands]))
    simp [execOp, ho]
  case h_3 c a b ho =>
    obtain rfl := Option.some.inj ht
    have hc := hρ c (by simp [ho, Op.operands])
    have ha := hρ a (by simp [ho, Op.operands])
    have hb := hρ b (by simp [ho, Op.operands])
    simp only [xop] at h
    split at h
    case h_2 => cases h
    rename_i q e
    obtain ⟨rfl, rfl⟩ := Prod.mk.inj (Option.some.inj h)
    rw [e] at hc
    refine OutE.same hs (v' := if q then ρc a else ρc b) ?_ (by cases q <;> simp [ha, hb])
    simp [execOp, ho, bool_inv hc, asBool]
  case h_4 t x ho =>
    obtain rfl := Option.some.inj ht
    simp only [xop] at h
    split at h
    case isFalse => cases h
    rename_i h1
    obtain ⟨rfl, rfl⟩ := Prod.mk.inj (Option.some.inj h)
    have := OutE.ofV (box_sound (P := P) hs hB (t := t) (hρ x (by simp [ho, Op.operands])) h1)
    simpa [execOp, ho] using this
  case h_5 t ho =>
    split at ht
    case h_2 => cases ht
    rename_i i hi
    split at ht
    case h_2 => cases ht
    rename_i z hz
    split at ht
    case isFalse => cases ht
    rename_i hzf
    obtain rfl := Option.some.inj ht
    obtain ⟨rfl, rfl⟩ := Prod.mk.inj (Option.some.inj h)
    obtain ⟨k1, k2⟩ := hs.alloc hB z.cells.toList z.cells t t z.cells.size (allOne_iff.1 (flatL_one hzf)) (by simp) (fun j u hu => ⟨u, by simpa using hu, flat1_rel (by simp [flatL] at hzf; have := List.mem_of_getElem? hu; simp at this; obtain ⟨j, hj, rfl⟩ := Array.getElem_of_mem this; exact hzf j hj) φ⟩) []
    refine ⟨_, .pointer (some ⟨w.heap.size, 0, none⟩), _, .inl ?_, ?_, k1, k2⟩
    · simp [execOp, ho, Instr.alloc, zeroValue, typeInfo, hi, hz, newVar, newRow]
    · have := Rel.ptr (φ := φ.add S.next ⟨w.heap.size, 0, z.cells.size, z.cells.size⟩) S.next 0 _ (Emb.add_same _ _ _)
      simpa using this
  case h_6 t x ho =>
    split at ht
    case h_2 => cases ht
    rename_i d i hd hi
    obtain rfl := Option.some.inj ht
    have hx := hρ x (by simp [ho, Op.operands])
    simp only [xop] at h
    split at h
    case h_2 => cases h
    rename_i id o' e
    rw [e] at hx
    simp only [Option.bind_eq_some_iff, Option.map_eq_some_iff, Prod.mk.injEq] at h
    obtain ⟨c, hc, v0, hv, rfl, rfl⟩ := h
    have := OutE.ofV (load_sound (P := P) hs hd hi hx hc hv)
    simpa [execOp, ho] using this
  case h_7 t a x ho =>
    simp only [Option.map_eq_some_iff] at ht
    obtain ⟨i, hi, rfl⟩ := ht
    have ha := hρ a (by simp [ho, Op.operands])
    have hx := hρ x (by simp [ho, Op.operands])
    simp only [xop] at h
    split at h
    case h_2 => cases h
    rename_i id o' e
    rw [e] at ha
    split at h
    case h_2 => cases h
    rename_i c t2 z an hget
    split at h
    case isFalse => cases h
    rename_i hc
    obtain ⟨hc1, hc2, hc3⟩ := hc
    obtain ⟨rfl, rfl⟩ := Prod.mk.inj (Option.some.inj h)
    obtain ⟨w', hr, k1, k2⟩ := store_sound (P := P) hs hi ha hx hget hc1 hc2 hc3
    have := outU (v := undef) hr rfl k1 k2
    simpa [execOp, ho] using this
  case h_8 x ho =>
    obtain rfl := Option.some.inj ht
    have hx := hρ x (by simp [ho, Op.operands])
    simp only [xop] at h
    split at h
    · rename_i id o' e
      obtain ⟨rfl, rfl⟩ := Prod.mk.inj (Option.some.inj h)
      rw [e] at hx
      obtain ⟨s, e2, e3⟩ := ptr_inv hx
      refine OutE.same hs (v' := ρc x) ?_ hx
      simp [execOp, ho, e3]
    · rename_i f a b e
      obtain ⟨rfl, rfl⟩ := Prod.mk.inj (Option.some.inj h)
      rw [e] at hx
      refine OutE.same hs (v' := ρc x) ?_ hx
      have : ∃ a' b', ρc x = .func (.func f) a' b' := by
        revert hx; generalize ρc x = u; intro hx
        cases hx; exact ⟨_, _, rfl⟩
      obtain ⟨a', b', e3⟩ := this
      simp [execOp, ho, e3]
    · rename_i t u e
      obtain ⟨rfl, rfl⟩ := Prod.mk.inj (Option.some.inj h)
      rw [e] at hx
      refine OutE.same hs (v' := ρc x) ?_ hx
      have : ∃ u', ρc x = .iface t u' := by
        revert hx; generalize ρc x = u; intro hx
        cases hx; exact ⟨_, rfl⟩
      obtain ⟨u', e3⟩ := this
      simp [execOp, ho, e3]
    · cases h
  case h_9 t x y yt ho =>
    have := trEq_sound (P := P) hs ht (hρ x (by simp [ho, Op.operands])) (hρ y (by simp [ho, Op.operands])) h
    simpa [execOp, ho] using this
  case h_10 t x y yt ho =>
    have := trEq_sound (P := P) hs ht (hρ x (by simp [ho, Op.operands])) (hρ y (by simp [ho, Op.operands])) h
    simpa [execOp, ho] using this
  case h_11 op t x y yt n1 n2 ho =>
    have hb : xo = .bin op x y := by
      split at ht
      · exact (Option.some.inj ht).symm
      · exact (Option.some.inj ht).symm
      · cases ht
    subst hb
    simp only [xop, Option.map_eq_some_iff, Prod.mk.injEq] at h
    obtain ⟨v0, h, rfl, rfl⟩ := h
    have := bin_sound (P := P) hs (op := op) (t := t) (hρ x (by simp [ho, Op.operands])) (hρ y (by simp [ho, Op.operands])) h
    simpa [execOp, ho] using this
  case h_12 op t x ho =>
    obtain rfl := Option.some.inj ht
    have hx := hρ x (by simp [ho, Op.operands])
    simp only [xop] at h
    split at h
    · rename_i k n e
      obtain ⟨rfl, rfl⟩ := Prod.mk.inj (Option.some.inj h)
      rw [e] at hx
      refine OutE.same hs (v' := .int k (k.wrap (0 - n))) ?_ (.int _ _)
      simp [execOp, ho, int_inv hx, Op.unary, Op.intArith]
    · rename_i b e
      obtain ⟨rfl, rfl⟩ := Prod.mk.inj (Option.some.inj h)
      rw [e] at hx
      refine OutE.same hs (v' := .bool !b) ?_ (.bool _)
      simp [execOp, ho, bool_inv hx, Op.unary]
    · cases h
  case h_13 src dst x ho =>
    have hx := hρ x (by simp [ho, Op.operands])
    split at ht
    · rename_i k1 k2 h1 h2
      obtain rfl := Option.some.inj ht
      simp only [xop] at h
      split at h
      case h_2 => cases h
      rename_i k n e
      obtain ⟨rfl, rfl⟩ := Prod.mk.inj (Option.some.inj h)
      rw [e] at hx
      refine OutE.same hs (v' := .int k2 (k2.wrap n)) ?_ (.int _ _)
      simp [execOp, ho, int_inv hx, convert, run_underlying h1, run_underlying h2, Conv.intToInt]
    · rename_i h1 h2
      obtain rfl := Option.some.inj ht
      simp only [xop] at h
      split at h
      case h_2 => cases h
      rename_i q e
      obtain ⟨rfl, rfl⟩ := Prod.mk.inj (Option.some.inj h)
      rw [e] at hx
      refine OutE.same hs (v' := .string q) ?_ (.string _)
      simp [execOp, ho, string_inv hx, convert, run_underlying h1, run_underlying h2]
    · cases ht
  case h_14 t x ho =>
    have hx := hρ x (by simp [ho, Op.operands])
    split at ht
    · cases ht
    · rename_i d hno hd
      obtain rfl := Option.some.inj ht
      obtain ⟨rfl, rfl⟩ := Prod.mk.inj (Option.some.inj h)
      refine OutE.same hs (v' := .iface t (ρc x)) ?_ (.iface t _ _ hx)
      cases d <;> first | (exact (hno _ rfl).elim) | simp [execOp, ho, Instr.makeInterface, run_underlying hd]
    · cases ht
  case h_15 f a b ho =>
    obtain rfl := Option.some.inj ht
    obtain ⟨rfl, rfl⟩ := Prod.mk.inj (Option.some.inj h)
    refine OutE.same hs (v' := .func (.func f) (a.map ρc) (b.map ρc)) ?_ (.func' (rel_argsA fun x hx => hρ x (by simp [ho, Op.operands, hx])) (rel_argsA fun x hx => hρ x (by simp [ho, Op.operands, hx])))
    simp [execOp, ho, Instr.makeFunc]
  case h_16 t l c ho =>
    simp only [Option.map_eq_some_iff] at ht
    obtain ⟨⟨e, i, z⟩, hte, rfl⟩ := ht
    obtain ⟨h1, h2, h3, h4, h5⟩ := trElem_inv hte
    have hl := hρ l (by simp [ho, Op.operands])
    have hc := hρ c (by simp [ho, Op.operands])
    simp only [xop] at h
    split at h
    case h_2 => cases h
    rename_i kl nl kc nc e1 e2
    split at h
    case isFalse => cases h
    rename_i hcnd
    obtain ⟨c1, c2, c3, c4, c5, c6⟩ := hcnd
    obtain ⟨rfl, rfl⟩ := Prod.mk.inj (Option.some.inj h)
    rw [e1] at hl
    rw [e2] at hc
    have := OutE.ofV (mkSlice_sound (P := P) hs hB h1 h2 h3 h4 h5 kl kc nl nc c1 c2 c3 c4)
    simpa [execOp, ho, int_inv hl, int_inv hc] using this
  case h_17 t x lo hi ho =>
    have hx := hρ x (by simp [ho, Op.operands])
    have hlo : ∀ y, lo = some y → Rel φ (ρa y) (ρc y) := fun y hy => hρ y (by simp [ho, Op.operands, hy])
    have hhi : ∀ y, hi = some y → Rel φ (ρa y) (ρc y) := fun y hy => hρ y (by simp [ho, Op.operands, hy])
    split at ht
    · rename_i e hu
      simp only [Option.map_eq_some_iff] at ht
      obtain ⟨j, hj, rfl⟩ := ht
      simp only [xop] at h
      split at h
      case h_2 => cases h
      rename_i a n c e1
      split at h
      case h_2 => cases h
      rename_i l hh b1 b2
      split at h
      case isFalse => cases h
      rename_i hcnd
      have hS : S' = S := by
        unfold slRes at h
        split at h
        · split at h <;> cases h; rfl
        · split at h <;> cases h; rfl
        · cases h
      subst hS
      have := OutE.ofV (sl_sound (P := P) hs hu hj hx e1 (bound_opd (φ := φ) b1 hlo) (bound_opd (φ := φ) b2 hhi) hcnd.1 hcnd.2 h)
      simpa [execOp, ho] using this
    · rename_i hu
      obtain rfl := Option.some.inj ht
      simp only [xop] at h
      split at h
      case h_2 => cases h
      rename_i q e1
      split at h
      case h_2 => cases h
      rename_i l hh b1 b2
      split at h
      case isFalse => cases h
      rename_i hcnd
      obtain ⟨rfl, rfl⟩ := Prod.mk.inj (Option.some.inj h)
      rw [e1] at hx
      have hb := bounds_run (P := P) (w := w) false (bound_opd (φ := φ) b1 hlo) (bound_opd (φ := φ) b2 hhi) hcnd.1 hcnd.2
      refine OutE.same hs (v' := .string (q.extract l hh)) ?_ (.string _)
      simp [execOp, ho, string_inv hx, Instr.sliceAt, Instr.slice, run_underlying hu, hb]
    · cases ht
  case h_18 t x f ho =>
    have hx := hρ x (by simp [ho, Op.operands])
    simp only [Option.map_eq_some_iff] at ht
    obtain ⟨⟨off, agg, sz⟩, hts, rfl⟩ := ht
    simp only [xop] at h
    split at h
    case h_2 => cases h
    rename_i id o' e
    obtain ⟨rfl, rfl⟩ := Prod.mk.inj (Option.some.inj h)
    rw [e] at hx
    have := OutE.ofV (fa_sound (P := P) hs hts hx)
    simpa [execOp, ho] using this
  case h_19 t x f ho =>
    have hx := hρ x (by simp [ho, Op.operands])
    simp only [Option.map_eq_some_iff] at ht
    obtain ⟨⟨off, agg, sz⟩, hts, rfl⟩ := ht
    simp only [xop] at h
    split at h
    case h_2 => cases h
    rename_i a e
    split at h
    case isFalse => cases h
    rename_i hle
    simp only [Option.map_eq_some_iff, Prod.mk.injEq] at h
    obtain ⟨v0, h, rfl, rfl⟩ := h
    rw [e] at hx
    have := OutE.ofV (fld_sound (P := P) hs hts hx hle h)
    simpa [execOp, ho] using this
  case h_20 t x i ho =>
    have hx := hρ x (by simp [ho, Op.operands])
    have hi := hρ i (by simp [ho, Op.operands])
    split at ht
    · rename_i e hu
      simp only [Option.map_eq_some_iff] at ht
      obtain ⟨j, hj, rfl⟩ := ht
      simp only [xop] at h
      split at h
      case h_2 => cases h
      rename_i id o' n c k q e1 e2
      split at h
      case isFalse => cases h
      rename_i hcnd
      obtain ⟨rfl, rfl⟩ := Prod.mk.inj (Option.some.inj h)
      rw [e1] at hx
      rw [e2] at hi
      have := OutE.ofV (ia_sound (P := P) hs hu hj hx (k := k) hcnd.1 hcnd.2)
      simpa [execOp, ho, int_inv hi] using this
    · rename_i n e hu
      simp only [Option.map_eq_some_iff] at ht
      obtain ⟨j, hj, rfl⟩ := ht
      simp only [xop] at h
      split at h
      case h_2 => cases h
      rename_i id o' k q e1 e2
      split at h
      case isFalse => cases h
      rename_i hcnd
      obtain ⟨rfl, rfl⟩ := Prod.mk.inj (Option.some.inj h)
      rw [e1] at hx
      rw [e2] at hi
      have := OutE.ofV (iaArr_sound (P := P) hs hu hj hx (k := k) hcnd.1 hcnd.2)
      simpa [execOp, ho, int_inv hi] using this
    · cases ht
  case h_21 t x i ho =>
    have hx := hρ x (by simp [ho, Op.operands])
    have hi := hρ i (by simp [ho, Op.operands])
    split at ht
    · rename_i hu
      obtain rfl := Option.some.inj ht
      simp only [xop] at h
      split at h
      case h_2 => cases h
      rename_i q k n e1 e2
      split at h
      case isFalse => cases h
      rename_i h0
      simp only [Option.map_eq_some_iff, Prod.mk.injEq] at h
      obtain ⟨b, hb, rfl, rfl⟩ := h
      rw [e1] at hx
      rw [e2] at hi
      refine OutE.same hs (v' := .int .u8 b.toNat) ?_ (.int _ _)
      simp [execOp, ho, string_inv hx, int_inv hi, Instr.index, asIntOf, run_underlying hu, h0, hb]
    · rename_i n e hu
      split at ht
      case h_2 => cases ht
      rename_i d j hd hj
      split at ht
      case isFalse => cases ht
      rename_i hone
      obtain rfl := Option.some.inj ht
      simp only [xop] at h
      split at h
      case h_2 => cases h
      rename_i a k q e1 e2
      split at h
      case isFalse => cases h
      rename_i hcnd
      obtain ⟨c1, c2, c3⟩ := hcnd
      simp only [Option.map_eq_some_iff, Prod.mk.injEq] at h
      obtain ⟨v0, h, rfl, rfl⟩ := h
      rw [e1] at hx
      rw [e2] at hi
      have := OutE.ofV (idx_sound (P := P) hs hu hd hj hone hx (k := k) c1 c2 c3 h)
      simpa [execOp, ho, int_inv hi] using this
    · cases ht
  case h_22 x i ho =>
    have hx := hρ x (by simp [ho, Op.operands])
    obtain rfl := Option.some.inj ht
    simp only [xop] at h
    split at h
    case h_2 => cases h
    rename_i a e
    simp only [Option.map_eq_some_iff, Prod.mk.injEq] at h
    obtain ⟨v0, h, rfl, rfl⟩ := h
    rw [e] at hx
    obtain ⟨a', e2, ha⟩ := tuple_inv hx
    have hlt : i < a.size := (Array.getElem?_eq_some_iff.1 h).1
    have hlt' : i < a'.size := by rw [← ha.1]; exact hlt
    have hr := ha.2 i hlt hlt'
    rw [Array.getElem?_eq_getElem hlt] at h
    rw [Option.some.inj h] at hr
    refine OutE.same hs (v' := a'[i]) ?_ hr
    simp [execOp, ho, e2, Instr.extract, hlt']
  case h_23 t parts ho =>
    split at ht
    case h_2 => cases ht
    rename_i i hi
    split at ht
    case h_2 => cases ht
    rename_i z hz
    split at ht
    case isFalse => cases ht
    rename_i hzf
    simp only [Option.map_eq_some_iff] at ht
    obtain ⟨ps, hps, rfl⟩ := ht
    simp only [xop, Option.map_eq_some_iff, Prod.mk.injEq] at h
    obtain ⟨l, hl, rfl, rfl⟩ := h
    have := OutE.ofV (build_sound (P := P) hs hi hz hzf hps (ρa := ρa) (ρc := ρc) (fun p hp => hρ p.2 (by
      simp only [ho, Op.operands, List.mem_toArray, List.mem_map]
      exact ⟨p, by simpa using hp, rfl⟩)) hl)
    simpa [execOp, ho] using this
  case h_24 t n parts ho =>
    simp only [Option.bind_eq_some_iff] at ht
    obtain ⟨⟨e, i, z⟩, hte, ht⟩ := ht
    simp only at ht
    split at ht
    case isFalse => cases ht
    rename_i hc
    obtain rfl := Option.some.inj ht
    simp only [xop] at h
    split at h
    case isFalse => cases h
    simp only [Option.bind_eq_some_iff] at h
    obtain ⟨l, hl, h⟩ := h
    split at h
    case isFalse => cases h
    rename_i hone
    obtain ⟨rfl, rfl⟩ := Prod.mk.inj (Option.some.inj h)
    have := OutE.ofV (buildSlice_sound (P := P) hs hB hte hc.1 (ρa := ρa) (ρc := ρc) (fun p hp => hρ p.2 (by
      simp only [ho, Op.operands, List.mem_toArray, List.mem_map]
      exact ⟨p, by simpa using hp, rfl⟩)) hl hone)
    simpa [execOp, ho] using this
  case h_25 c ho =>
    split at ht
    · rename_i x0 hc0
      obtain rfl := Option.some.inj ht
      exact trCall_sound hs hB ho hc0 (fun x hx => hρ x (by simpa [ho, Op.operands] using hx)) h
    · simp only [Option.map_eq_some_iff] at ht
      obtain ⟨⟨e, l⟩, hel, rfl⟩ := ht
      exact extra_sound (P := P) hs hB (by rw [ho]; exact hel) hρ h
  case h_26 =>
    simp only [Option.map_eq_some_iff] at ht
    obtain ⟨⟨e, l⟩, hel, rfl⟩ := ht
    exact extra_sound (P := P) hs hB hel hρ h
end
end Go.Proofs.YtofjnhdgkhfgnaaDoor

/- Verdicts as arguments: three numbers, two lists that nobody looks at. -/
import Derived.Test.YtofjnhdgkhfgnaaDoorWc
import Derived.Test.YtofjnhdgkhfgnaaDoorMst
set_option linter.unusedVariables false
set_option linter.constructorNameAsVariable false
set_option maxRecDepth 100000
namespace Go.Proofs.YtofjnhdgkhfgnaaDoor
open Go Go.RowKit Go.WideShapes

/-- a list that is not looked at. -/
def SlV (w : World) (v : Value) : Prop := v = .slice none 0 0 ∨ ∃ b o n c, v = .slice (some ⟨b, o, none⟩) n c ∧ n ≤ c ∧ b < w.heap.size
theorem sl_of {P : Program} {w : World} {r : Go.Reach} {base : Nat} {t e : TypeId} {v : Value} (hu : P.underlying t = some (.slice e)) (h : Cell.okWide P w r base t v) : SlV w v := by
  simp only [Cell.okWide, hu, Cell.ok] at h
  cases v <;> try exact (h : False).elim
  case slice a n c =>
    cases a with
    | none =>
      rcases n with _ | n <;> rcases c with _ | c <;> first | exact .inl rfl | (simp at h; done)
    | some x =>
      obtain ⟨b, o, sp⟩ := x
      simp only [World.has] at h
      obtain ⟨h1, _, _, hsp, row, cells, hsh, _⟩ := h
      subst hsp
      refine .inr ⟨b, o, n, c, rfl, h1, ?_⟩
      unfold World.shape? at hsh
      split at hsh
      · rename_i cs t fz e
        exact (Array.getElem?_eq_some_iff.1 e).1
      · cases hsh

theorem Begin.any {w : World} {φ : Emb} {S : St} (h : Begin w φ S) {u : Value} (hu : SlV w u) :
    ∃ φ' S' v, Begin w φ' S' ∧ Emb.le φ φ' ∧ S.next ≤ S'.next ∧ Rel φ' v u ∧ v.oneCell' = true ∧ Sc S'.next v := by
  rcases hu with rfl | ⟨b, o, n, c, rfl, hnc, hb⟩
  · exact ⟨φ, S, .slice none 0 0, h, Emb.le.refl _, Nat.le_refl _, .sliceNil, rfl, .sliceNil 0 0⟩
  · have hf := h.sim.fresh
    have hle := Emb.le_add φ S.next ⟨b, o, c, 1⟩ hf
    have hget : ∀ j, (S.alloc .gone).get j = if j = S.next then .gone else S.get j := St.get_alloc S _
    have hget2 : ∀ j, (S.alloc .gone).get j = S.get j := fun j => by
      rw [hget]; split
      · rename_i e; rw [e, h.sim.gone _ (Nat.le_refl _)]
      · rfl
    have hstill : ∀ id, ((S.alloc .gone).get id).wr = false := fun id => by rw [hget2]; exact h.still id
    refine ⟨φ.add S.next ⟨b, o, c, 1⟩, S.alloc .gone, .slice (some ⟨S.next, 0, none⟩) n c, ⟨⟨fun id s e => ?_, fun id hi => ?_, fun id s c' t1 sz m an e e2 => ?_, (fun id s c1 t1 sz an e e2 => absurd (wr_cells e2) (by rw [hstill]; simp)), h.sim.loops.1.of (Nat.le_refl _) hle.tab (fun _ _ _ _ e => e), fun id s' o e e2 => absurd (wr_obj e2) (by rw [hstill]; simp)⟩, ?_, hstill⟩, hle, by simp, ?_, rfl, .slice _ _ _ _ (by simp)⟩
    · by_cases hi : id = S.next
      · subst hi
        rw [Emb.add_same] at e
        obtain rfl := Option.some.inj e
        exact ⟨by simp, hb⟩
      · rw [Emb.add_other _ _ hi] at e
        have := h.sim.dom id s e
        exact ⟨by simp; omega, this.2⟩
    · rw [hget2]; exact h.sim.gone id (by simp at hi; omega)
    · rw [hget2] at e2
      by_cases hi : id = S.next
      · subst hi; rw [h.sim.gone _ (Nat.le_refl _)] at e2; cases e2
      · rw [Emb.add_other _ _ hi] at e
        obtain ⟨a1, a2, a3, cs, t', a4, a5, a6⟩ := h.sim.blk id s c' t1 sz m an e e2
        refine ⟨a1, a2, a3, cs, t', a4, a5, fun i v hv => ?_⟩
        obtain ⟨q1, v', q2, q3⟩ := a6 i v hv
        exact ⟨q1, v', q2, q3.mono hle⟩
    · exact h.ws.allocB (b := .gone) trivial
    · have := Rel.slice (φ := φ.add S.next ⟨b, o, c, 1⟩) S.next 0 n c c ⟨b, o, c, 1⟩ (Emb.add_same _ _ _) hnc (Nat.le_refl _) (by simp)
      simpa using this

theorem ver_of {w : World} {r : Go.Reach} {base : Nat} {v : Value} (h : Value.okWide Tryd.prog w r base 27 v) : ∃ c k a s1 s2, v = .agg #[.int .i64 c, .int .i64 k, .int .i64 a, s1, s2] ∧ SlV w s1 ∧ SlV w s2 := by
  have hu := Tryd.underlying27
  obtain ⟨x, y, ex, ey, hct, hx, hy⟩ : ∃ x y ex ey, Tryd.prog.cellTypes Tryd.prog.depth 27 = some [3, 3, 3, x, y] ∧ Tryd.prog.underlying x = some (.slice ex) ∧ Tryd.prog.underlying y = some (.slice ey) := ⟨22, 23, 3, 201, by kernel_rfl, by kernel_rfl, by kernel_rfl⟩
  have hn : Tryd.prog.cellsOf 27 = 5 := by kernel_rfl
  simp only [Value.okWide, hu] at h
  obtain ⟨cs, rfl, hsz, ts, hts, _, hcells⟩ := h
  rw [hct] at hts
  obtain rfl := Option.some.inj hts
  rw [hn] at hsz
  obtain ⟨l, rfl⟩ : ∃ l : List Value, cs = l.toArray := ⟨cs.toList, by simp⟩
  match l, hsz with
  | [v0, v1, v2, v3, v4], _ =>
    have int_of : ∀ {u : Value}, Cell.okWide Tryd.prog w r base 3 u → ∃ z, u = .int .i64 z := by
      intro u hok
      simp only [Cell.okWide, Cell.ok, Tryd.underlying3] at hok
      cases u <;> simp at hok
      obtain ⟨rfl, _⟩ := hok
      exact ⟨_, rfl⟩
    have c0 := hcells 0 v0 rfl
    have c1 := hcells 1 v1 rfl
    have c2 := hcells 2 v2 rfl
    have c3 := hcells 3 v3 rfl
    have c4 := hcells 4 v4 rfl
    simp at c0 c1 c2 c3 c4
    obtain ⟨z0, rfl⟩ := int_of c0
    obtain ⟨z1, rfl⟩ := int_of c1
    obtain ⟨z2, rfl⟩ := int_of c2
    exact ⟨z0, z1, z2, v3, v4, rfl, sl_of hx c3, sl_of hy c4⟩

theorem walk {w : World} (hl : laidMetH Tryd.prog Rows.verdictSameRow.laid w) {c k a c' k' a' : Int} {o e o' e' : Value} (ho : SlV w o) (he : SlV w e) (ho' : SlV w o') (he' : SlV w e') :
    Calls Tryd.prog 3 #[.agg #[.int .i64 c, .int .i64 k, .int .i64 a, o, e], .agg #[.int .i64 c', .int .i64 k', .int .i64 a', o', e']] w fun ex w' => ex = .returned (.bool true) ∧ Below w.heap.size w w' := by
  obtain ⟨t, ht⟩ := of_laid hl
  obtain ⟨p1, S1, v1, b1, l1, n1, r1, o1, s1⟩ := (Begin.tab ht).any ho
  obtain ⟨p2, S2, v2, b2, l2, n2, r2, o2, s2⟩ := b1.any he
  obtain ⟨p3, S3, v3, b3, l3, n3, r3, o3, s3⟩ := b2.any ho'
  obtain ⟨p4, S4, v4, b4, l4, n4, r4, o4, s4⟩ := b3.any he'
  have r1 := ((r1.mono l2).mono l3).mono l4
  have r2 := (r2.mono l3).mono l4
  have r3 := r3.mono l4
  have s1 := s1.mono (show S1.next ≤ S4.next by omega)
  have s2 := s2.mono (show S2.next ≤ S4.next by omega)
  have s3 := s3.mono (show S3.next ≤ S4.next by omega)
  have ver : ∀ {x y z : Int} {u v u' v' : Value}, Rel p4 u u' → Rel p4 v v' → Rel p4 (verV x y z u v) (.agg #[.int .i64 x, .int .i64 y, .int .i64 z, u', v']) := fun h1 h2 =>
    .agg' (RelL.toA (a := [_, _, _, _, _]) (b := [_, _, _, _, _]) (RelL.cons (.int _ _) (RelL.cons (.int _ _) (RelL.cons (.int _ _) (RelL.cons h1 (RelL.cons h2 (RelL.nil _)))))))
  have scv : ∀ {x y z : Int} {u v : Value}, Sc S4.next u → Sc S4.next v → Sc S4.next (verV x y z u v) := fun {x y z u v} h1 h2 => by
    refine .agg _ fun i hi => ?_
    match i, hi with
    | 0, _ => exact .int _ _
    | 1, _ => exact .int _ _
    | 2, _ => exact .int _ _
    | 3, _ => exact h1
    | 4, _ => exact h2
  refine XC.law (by kernel_rfl) (law_any o1 o2 o3 o4) b4 ?_ (RelL.cons (ver r1 r2) (RelL.cons (ver r3 r4) (RelL.nil _)))
  intro v hv
  simp only [List.mem_cons, List.not_mem_nil, or_false] at hv
  rcases hv with rfl | rfl
  · exact scv s1 s2
  · exact scv s3 s4
end Go.Proofs.YtofjnhdgkhfgnaaDoor

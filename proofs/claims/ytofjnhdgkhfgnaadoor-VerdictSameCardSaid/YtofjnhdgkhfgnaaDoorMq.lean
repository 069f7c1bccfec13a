/- A region that draws its order does what its operations do in the order of the text. -/
import Derived.Test.YtofjnhdgkhfgnaaDoorMp
set_option linter.unusedVariables false
set_option linter.unnecessarySimpa false
namespace Go.Proofs.YtofjnhdgkhfgnaaDoor
open Go Go.RowKit

section
variable {P : Program} {B : Nat} {cl : Caller} {ops : Array Oper} {d : XDraw} {R : List Rec} {env0 : Env} {S0 : St} {env' : Env} {S' : St} {pt : Nat → Nat → Prop}
variable {φ0 φ : Emb} {w0 w : World} {df : List Deferred} {listed : Array Bool} {a : Act} {q : Nat}

theorem More.refl (w : World) : More w w := ⟨Nat.le_refl _, fun _ _ => rfl, rfl, rfl, rfl⟩

theorem alive_lt {T : St} (h : Sim B φ T w) {id : Nat} (hg : T.get id ≠ .gone) : id < T.next := by
  rcases Nat.lt_or_ge id T.next with h1 | h1
  · exact h1
  · exact absurd (h.gone id h1) hg
theorem rd_alive {T : St} {id o n : Nat} {c : List Value} (h : T.rd id o n = some c) : T.get id ≠ .gone := by
  unfold St.rd at h
  split at h
  · rename_i e; rw [e]; simp
  · cases h
theorem width_alive {T : St} {id z : Nat} (h : T.width id = some z) : T.get id ≠ .gone := by
  unfold St.width at h
  split at h
  · rename_i e; rw [e]; simp
  · cases h

theorem hold_lt (C : DC P B cl ops d R env0 S0 env' S' pt) (I : Inv ops d R env0 S0 S' B φ0 w0 df listed φ a w q) : ∀ j sj, φ j = some sj → sj.b < w.heap.size := by
  intro j sj hj
  by_cases h : j < (recT R S' q).next
  · exact (I.mem.1.dom j sj (by rw [below_get h]; exact hj)).2
  · obtain ⟨k, i1, i2, i3, b', i4, i5, i8, iB, i12, i13⟩ := I.early j sj hj (by omega)
    exact iB.lt

theorem int_any {φ ψ : Emb} {v v' : Value} (h : Rel φ v v') (hi : ∃ k n, v = .int k n) : Rel ψ v v' := by
  obtain ⟨k, n, rfl⟩ := hi
  rw [int_inv h]; exact .int k n

theorem bound_int {o : Option Operand} {ρ : Operand → Value} {d l : Nat} (h : bound (o.map ρ) d = some l) : ∀ x, o = some x → ∃ k n, ρ x = .int k n := by
  intro x hx
  subst hx
  unfold bound at h
  simp only [Option.map_some] at h
  split at h
  · rename_i e; cases e
  · rename_i e; exact ⟨_, _, Option.some.inj e⟩
  · cases h

theorem tr_nodefer {o : Oper} {xo : XOp} (h : tr P o = some xo) : ∀ c, o.op ≠ .defer c := by
  intro c hc
  unfold tr at h
  rw [hc] at h
  simp [trExtra] at h

/-- an operation that is ready comes up. -/
theorem step_inv (C : DC P B cl ops d R env0 S0 env' S' pt) (h0 : ∀ id s, φ0 id = some s → id < S0.next) (hBw : B ≤ w0.heap.size) (I : Inv ops d R env0 S0 S' B φ0 w0 df listed φ a w q) {i : Nat} (hi : i < ops.size) (hni : listed.getD i true = false) (hr : ∀ j ∈ aftF ops i, listed.getD j true = true)
    {K : Act → World → Prop} {Q : Exit → Act → World → Prop} (hK : ∀ φ' a' w' q', Inv ops d R env0 S0 S' B φ0 w0 df (listed.setIfInBounds i true) φ' a' w' q' → K a' w') (ro : Option Nat) : wpOpIn (fz ro) 0 P ops Q i K a w := by
  have hpt : ∀ j, pt i j → listed.getD j true = true := C.closed I.closed i hi hr
  obtain ⟨r, xo, o, e1, e2, e3, e4, e5, e6, e7, e8, e9, e10, e11, e12, e13, e14, e15⟩ := C.at hi
  have hdst : dstF d.ops i = o.dst := e11.trans e15
  have hwant := wanted_at C I hi hni hpt e3 e4
  have hBw' : B ≤ w.heap.size := Nat.le_trans hBw I.mem.2.size
  unfold wpOpIn
  simp only [e3]
  rw [hwant, ← e7]
  cases hw : r.w with
  | false =>
    simp only [Bool.false_eq_true, if_false]
    obtain ⟨hv, hT⟩ := e9 hw
    refine ⟨fun _ _ => trivial, ?_⟩
    by_cases ha : anF d.ops i = true
    · obtain rfl := anch_stage C I hi hni hpt ha
      obtain ⟨φ', q', h⟩ := inv_anch C h0 I hi hni hr ha hdst (ψ := φ.below (recT R S' i).next) (v' := undef) (w' := w) (by rw [e13, hv]; exact Rel.undef _) (by rw [hT]; exact I.mem.1) (by rw [hT]; exact Keep.refl _ _ _ _)
      exact hK _ _ _ _ h
    · exact hK _ _ _ _ (inv_float C I hi hni hr (Bool.eq_false_iff.2 ha) hdst (More.refl w) (by rw [e13, hv]; exact Rel.undef _))
  | true =>
    simp only [if_true]
    have hx := e8 hw
    have hopd : ∀ x ∈ o.op.operands, okOpd x = true → Rel (φ.below (recT R S' i).next) ((recE R env' i).ev x) (a.eval x) := fun x hx hok => I.opd C hi hni hpt e3 hx hok
    by_cases ha : anF d.ops i = true
    · obtain rfl := anch_stage C I hi hni hpt ha
      refine step_sound' C.hcl I.mem.1 hBw' e4 hopd hx fun ψ v' w' k1 k2 k3 => ?_
      obtain ⟨φ', q', h⟩ := inv_anch C h0 I hi hni hr ha hdst (by rw [e13]; exact k1) k2 k3
      exact hK _ _ _ _ h
    · have ha' : anF d.ops i = false := Bool.eq_false_iff.2 ha
      have hax : anch xo.op = false := by rw [← e12]; exact ha'
      rw [xstep_xop hax] at hx
      have hor := trOper_inv e4
      rcases hor with ⟨hall, htr⟩ | ⟨hst, _⟩ | ⟨hgl, hst⟩
      case inr.inl =>
        rw [hst, xop_stuck] at hx
        cases hx
      case inr.inr =>
        rw [hst] at hx
        obtain ⟨hT, hb⟩ := pure_any rfl rfl rfl hx (St.bare (recT R S' i).next)
        have hbs : Sim B (φ.below (recT R S' i).next) (St.bare (recT R S' i).next) w := bare_sim B (I.mem.1.loops.1.of (Nat.le_refl _) rfl fun _ _ _ _ e => e) fun id s e => ⟨(below_some e).1, hold_lt C I id s (below_some e).2⟩
        obtain ⟨v', g1, g2, _⟩ := gload_sound hbs hgl hb a
        unfold Oper.wpIn
        rw [Oper.semAt_eq _ _ _ (trGl_nodefer hgl)]
        refine ⟨fun _ _ => trivial, ?_⟩
        rw [g1]
        exact hK _ _ _ _ (inv_float C I hi hni hr ha' hdst (More.refl w) (v' := v') (by rw [e13, hT]; exact g2))
      have hopd' : ∀ x ∈ o.op.operands, Rel (φ.below (recT R S' i).next) ((recE R env' i).ev x) (a.eval x) := fun x hx => hopd x hx (hall x hx)
      have hq : q ∈ (d.stages[i]?).getD [] := C.c5 i hi ha' q I.stage.1 (fun k hk hka hlt hp => by
        have h1 := (I.stage.2 k hk hka).1 hlt
        have := C.closed I.closed k hk (I.closed k hk h1) i hp
        rw [hni] at this; cases this) (fun k hk hka hle hp => by
        have h1 := (I.stage.2 k hk hka).2 hle
        have := hpt k hp
        rw [h1] at this; cases this)
      have hchk := C.hchk.2 i r xo e1 e2 hw hax q hq
      cases hh : heapy xo.op with
      | true =>
        have hT := heapy_same hh hx
        obtain ⟨⟨S2, hx2⟩, hsc⟩ := hchk.1 hh
        have hS2 := heapy_same hh hx2
        subst hS2
        rw [e5] at hx2
        -- the value in the model, and that it reaches no further than the text's run
        have main : ∃ v', (execOp a.eval o).run P w = .ok (.value v') w ∧ Rel (φ.below (recT R S' q).next) r.v v' ∧ (q ≤ i → Rel (φ.below (recT R S' i).next) r.v v') := by
          cases hop : xo.op with
          | load agg sz x =>
            rw [hop] at hx2 htr
            obtain ⟨t, dsc, ti, ho, hd, hti, rfl, rfl⟩ := (tr_heap_inv htr).1 _ _ _ rfl
            have hxr := hopd' x (by simp [ho, Op.operands])
            simp only [xop] at hx2
            split at hx2
            case h_2 => cases hx2
            rename_i id off e
            rw [e] at hxr
            simp only [Option.bind_eq_some_iff, Option.map_eq_some_iff, Prod.mk.injEq] at hx2
            obtain ⟨c, hc, v0, hv, rfl, _⟩ := hx2
            obtain ⟨s, f1, f2⟩ := ptr_inv hxr
            have hlt := alive_lt I.mem.1 (rd_alive hc)
            obtain ⟨v', g1, g2⟩ := loadVar_sound (P := P) I.mem.1 hd hti (by rw [below_get hlt]; exact (below_some f1).2) hc hv
            refine ⟨v', ?_, g2, fun h => g2.mono (below_mono (Emb.le.refl _) (C.mono' h))⟩
            simp [execOp, ho, Instr.loadAt, Instr.sureAddr, f2, g1]
          | sl esz x lo hi2 =>
            rw [hop] at hx2 htr
            obtain ⟨t, e, j, ho, hu, hj, rfl⟩ := (tr_heap_inv htr).2 _ _ _ _ rfl
            have hxr := hopd' x (by simp [ho, Op.operands])
            have hlo : ∀ y, lo = some y → Rel (φ.below (recT R S' i).next) ((recE R env' i).ev y) (a.eval y) := fun y hy => hopd' y (by simp [ho, Op.operands, hy])
            have hhi : ∀ y, hi2 = some y → Rel (φ.below (recT R S' i).next) ((recE R env' i).ev y) (a.eval y) := fun y hy => hopd' y (by simp [ho, Op.operands, hy])
            simp only [xop] at hx2
            split at hx2
            case h_2 => cases hx2
            rename_i ad n c ex
            split at hx2
            case h_2 => cases hx2
            rename_i l hh2 b1 b2
            split at hx2
            case isFalse => cases hx2
            rename_i hcnd
            have hxr2 : Rel (φ.below (recT R S' q).next) ((recE R env' i).ev x) (a.eval x) := by
              rw [ex] at hxr ⊢
              revert hxr
              generalize a.eval x = u
              intro hxr
              cases hxr with
              | sliceNil => exact .sliceNil
              | slice id o2 n2 c2 c3 s2 hs2 hn2 hc2 he2 =>
                have hlt : id < (recT R S' q).next := by
                  simp only [slRes] at hx2
                  split at hx2
                  · rename_i hwd; obtain ⟨z1, hwd, _⟩ := slFit_inv hwd; exact alive_lt I.mem.1 (width_alive hwd)
                  · cases hx2
                exact .slice id o2 _ _ _ s2 (by rw [below_get hlt]; exact (below_some hs2).2) hn2 hc2 he2
              | sliceEnd id o2 x2 s2 hs2 =>
                have hlt : id < (recT R S' q).next := by
                  simp only [slRes] at hx2
                  split at hx2
                  · rename_i hwd; obtain ⟨z1, hwd, _⟩ := slFit_inv hwd; exact alive_lt I.mem.1 (width_alive hwd)
                  · cases hx2
                exact .sliceEnd id o2 x2 s2 (by rw [below_get hlt]; exact (below_some hs2).2)
            obtain ⟨v', g1, g2⟩ := sl_exact (P := P) I.mem.1 hu hj hxr2 ex (bound_opd (φ := φ.below (recT R S' i).next) b1 hlo) (bound_opd (φ := φ.below (recT R S' i).next) b2 hhi) hcnd.1 hcnd.2 hx2
            refine ⟨v', ?_, g2, fun h => g2.mono (below_mono (Emb.le.refl _) (C.mono' h))⟩
            simp [execOp, ho, g1]
          | _ => rw [hop] at hh; simp [heapy] at hh
        obtain ⟨v', g1, g2, g3⟩ := main
        unfold Oper.wpIn
        rw [Oper.semAt_eq _ _ _ (tr_nodefer htr)]
        refine ⟨fun _ _ => trivial, ?_⟩
        rw [g1]
        refine hK _ _ _ _ (inv_float C I hi hni hr ha' hdst (More.refl w) (v' := v') ?_)
        rw [hT, e13]
        rcases Nat.lt_or_ge i q with hlt | hge
        · have := hsc hlt (φ.below (recT R S' q).next) v' g2
          rw [e6] at this
          have hle9 : Emb.le ((φ.below (recT R S' q).next).below (recT R S' i).next) (φ.below (recT R S' i).next) := ⟨fun id s e => by
            have h1 := below_some e
            have h2 := below_some h1.2
            exact (below_get (φ := φ) h1.1).trans h2.2, rfl⟩
          exact this.mono hle9
        · exact g3 hge
      | false =>
        cases hl : isAlloc xo.op with
        | false =>
          obtain ⟨hT, hb⟩ := pure_any hax hh hl hx (St.bare (recT R S' i).next)
          have hbs : Sim B (φ.below (recT R S' i).next) (St.bare (recT R S' i).next) w := bare_sim B (I.mem.1.loops.1.of (Nat.le_refl _) rfl fun _ _ _ _ e => e) fun id s e => ⟨(below_some e).1, hold_lt C I id s (below_some e).2⟩
          obtain ⟨ψ, v', w', hrun, g1, g2, g3⟩ := tr_sound (P := P) hbs hBw' htr hopd' hb
          have hψ : ψ = φ.below (recT R S' i).next := by
            refine Emb.ext' (fun id => ?_) g3.le.tab
            cases e : ψ id with
            | none =>
              cases e9 : φ.below (recT R S' i).next id with
              | none => rfl
              | some s => have := g3.le id s e9; rw [e] at this; cases this
            | some s =>
              cases e9 : φ.below (recT R S' i).next id with
              | none => have h1 := g3.new id s e e9; have h2 := (g2.dom id s e).1; exact absurd h2 (Nat.not_lt.2 h1)
              | some s2 => have := g3.le id s2 e9; rw [e] at this; exact this
          rw [hψ] at g1
          unfold Oper.wpIn
          rw [Oper.semAt_eq _ _ _ (tr_nodefer htr)]
          refine ⟨fun _ _ => trivial, ?_⟩
          have fin : K (a.put o.dst v') w' := hK _ _ _ _ (inv_float C I hi hni hr ha' hdst (bare_more g3) (by rw [e13, hT]; exact g1))
          rcases hrun with hrun | ⟨hrun, rfl⟩
          · rw [hrun]; exact fin
          · rw [hrun]; exact fin
        | true =>
          obtain ⟨b0, hnew, hT, hb, hshape⟩ := alloc_any hl hx
          have hbs : Sim B (φ.below (recT R S' i).next) (St.bare (recT R S' i).next) w := bare_sim B (I.mem.1.loops.1.of (Nat.le_refl _) rfl fun _ _ _ _ e => e) fun id s e => ⟨(below_some e).1, hold_lt C I id s (below_some e).2⟩
          obtain ⟨ψ, v', w', hrun, g1, g2, g3⟩ := tr_sound (P := P) hbs hBw' htr hopd' hb
          have hid : ∃ s, ψ (recT R S' i).next = some s := by
            rcases hshape with ⟨n, k, hv⟩ | hv | hv
            · rw [hv] at g1
              cases g1 with
              | slice _ _ _ _ c' s h hn hc he => exact ⟨s, h⟩
              | sliceEnd _ _ x s h => exact ⟨s, h⟩
            · rw [hv] at g1
              cases g1 with
              | ptr _ _ s h => exact ⟨s, h⟩
            · rw [hv] at g1
              cases g1 with
              | map _ s h => exact ⟨s, h⟩
          obtain ⟨s, hs⟩ := hid
          have hgetb : ((St.bare (recT R S' i).next).alloc b0).get (recT R S' i).next = b0 := by
            rw [St.get_alloc]
            exact if_pos rfl
          have hbn : B ≤ s.b ∧ Born ψ w' s b0 := by
            rcases hnew with ⟨c, t, sz, rfl⟩ | rfl
            · obtain ⟨f1, f2, f3, cs, t', f4, f5, f6⟩ := g2.blk _ s c t sz true [] hs hgetb
              subst f1
              exact ⟨f3 rfl, .row c t cs t' f2 f4.mine f5 f6⟩
            · obtain ⟨f1, ⟨r, f2, es, f3, f4, _⟩, _⟩ := g2.loops.2 _ s _ hs hgetb
              refine ⟨f1.1, .map f1.2 ?_⟩
              rw [f2, f3]
              have : es = #[] := by
                have : es.toList = [] := List.length_eq_zero_iff.1 f4.symm
                exact Array.toList_inj.1 (by rw [this])
              rw [this]
          have hnb : φ.below (recT R S' i).next (recT R S' i).next = none := if_neg (Nat.lt_irrefl _)
          have hsb : w.heap.size ≤ s.b := by
            rcases g3.place _ s hs hnb with h | ⟨id0, s0, h1, h2, h3⟩
            · exact h
            · rw [bare_get] at h3; cases h3
          have hψ : ψ = (φ.add (recT R S' i).next s).below ((recT R S' i).next + 1) := by
            refine Emb.ext' (fun id => ?_) g3.le.tab
            rw [below_at, Emb.add_at]
            by_cases e : id = (recT R S' i).next
            · subst e; simp [hs]
            · simp only [e, if_false]
              by_cases hlt : id < (recT R S' i).next
              · rw [if_pos (by omega)]
                cases e9 : φ id with
                | some s2 => exact g3.le id s2 (by rw [below_get hlt]; exact e9)
                | none =>
                  cases e8 : ψ id with
                  | none => rfl
                  | some s3 =>
                    have h1 := g3.new id s3 e8 (by rw [below_get hlt]; exact e9)
                    exact absurd hlt (Nat.not_lt.2 h1)
              · rw [if_neg (by omega)]
                cases e8 : ψ id with
                | none => rfl
                | some s3 =>
                  have h1 := (g2.dom id s3 e8).1
                  simp only [St.next_alloc, St.bare] at h1
                  omega
          have hn1 : (recT R S' (i + 1)).next = (recT R S' i).next + 1 := by rw [hT]; rfl
          unfold Oper.wpIn
          rw [Oper.semAt_eq _ _ _ (tr_nodefer htr)]
          refine ⟨fun _ _ => trivial, ?_⟩
          have fin : K (a.put o.dst v') w' := hK _ _ _ _ (inv_alloc C h0 I hi hni hr ha' hT (fun hlt => by
            have := hchk.2 hl hlt
            rw [e6] at this
            rw [this, hT, St.get_alloc]
            exact if_pos rfl) hdst (bare_more g3) hsb hbn.1 (by rw [← hψ]; exact hbn.2) (by rw [e13, hn1, ← hψ]; exact g1))
          rcases hrun with hrun | ⟨hrun, rfl⟩
          · rw [hrun]; exact fin
          · rw [hrun]; exact fin
end
end Go.Proofs.YtofjnhdgkhfgnaaDoor

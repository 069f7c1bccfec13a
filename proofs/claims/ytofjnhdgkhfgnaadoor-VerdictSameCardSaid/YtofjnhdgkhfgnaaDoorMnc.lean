/- What a call leaves behind, and what of it is kept: blocks that nobody needs are dropped from the abstract memory. -/
import Derived.Test.YtofjnhdgkhfgnaaDoorMnd
set_option linter.unusedVariables false
set_option linter.unusedSectionVars false
namespace Go.Proofs.YtofjnhdgkhfgnaaDoor
open Go Go.RowKit

section
variable {P : Program} [Prim P] {B : Nat}

theorem NS_of (hm : P.follows .mixedOrders = true) {o : XOp} {ρ : Operand → Value} {S : St} {K : Value → St → Prop} (h : XS P o ρ S K) : NS P B o ρ S K := by
  unfold NS
  split
  · exact NG.of hm h
  · obtain ⟨g, a, b, e, h⟩ := h
    exact ⟨g, a, b, e, NG.of hm h⟩
  · obtain ⟨v, S', h, _⟩ := h
    simp [xop, xextra] at h
  · rename_i n1 n2 n3
    unfold XS at h
    split at h
    · exact (n1 _ _ rfl).elim
    · exact (n2 _ _ rfl).elim
    · exact h
theorem NS.mono {o : XOp} {ρ : Operand → Value} {S : St} {K K' : Value → St → Prop} (h : NS P B o ρ S K) (hk : ∀ v S', K v S' → K' v S') : NS P B o ρ S K' := by
  unfold NS at *
  split at h
  · exact NG.mono h hk
  · obtain ⟨g, a, b, e, h⟩ := h
    exact ⟨g, a, b, e, NG.mono h hk⟩
  · obtain ⟨id, e, h⟩ := h
    refine ⟨id, e, ?_⟩
    rcases h with ⟨s, l, c, h1, h2⟩ | ⟨m, cl, seen, es, h1, h2, h3, h4, h5⟩
    · exact .inl ⟨s, l, c, h1, hk _ _ h2⟩
    · exact .inr ⟨m, cl, seen, es, h1, h2, h3, fun a => hk _ _ (h4 a), fun e he hn => hk _ _ (h5 e he hn)⟩
  · obtain ⟨v, S', h1, h2⟩ := h
    exact ⟨v, S', h1, hk _ _ h2⟩
theorem XS.mono' {o : XOp} {ρ : Operand → Value} {S : St} {K K' : Value → St → Prop} (h : XS P o ρ S K) (hk : ∀ v S', K v S' → K' v S') : XS P o ρ S K' := by
  unfold XS at *
  split at h
  · exact XC.mono h hk
  · obtain ⟨g, a, b, e, h⟩ := h
    exact ⟨g, a, b, e, XG.mono h hk⟩
  · obtain ⟨v, S', h1, h2⟩ := h
    exact ⟨v, S', h1, hk _ _ h2⟩
theorem NO_of (hm : P.follows .mixedOrders = true) : ∀ (l : List XOper) (fe : FEnv) (S : St) (Q : FEnv → St → Prop), XO P l fe S Q → NO P B l fe S Q := by
  intro l
  induction l with
  | nil => intro fe S Q h; exact h
  | cons o l ih =>
    intro fe S Q h
    simp only [XO, NO] at *
    split at h
    · rename_i hw
      rw [if_pos hw]
      exact NS_of hm (XS.mono' h fun v S' hh => ih _ _ _ hh)
    · rename_i hw
      rw [if_neg hw]
      exact ih _ _ _ h
/-- what is shown of the code in the machine holds here. -/
theorem NW_of (hm : P.follows .mixedOrders = true) : ∀ (c : XCode) (fe : FEnv) (S : St) (Q : Ex → FEnv → St → Prop), XW P c fe S Q → NW P B c fe S Q := by
  intro c
  induction c with
  | skip => intro fe S Q h; exact h
  | exit id => intro fe S Q h; exact h
  | ret => intro fe S Q h; exact h
  | region ops => intro fe S Q h; exact NO_of hm _ _ _ _ h
  | draw d => intro fe S Q h; exact h
  | seq a b iha ihb =>
    intro fe S Q h
    refine iha _ _ _ (XW.mono (fun e fe' S' hh => ?_) h)
    cases e with
    | normal => exact ihb _ _ _ hh
    | exit id => exact hh
    | ret => exact hh
  | cond c x y ihx ihy =>
    intro fe S Q h
    obtain ⟨b, e, h1, h2⟩ := h
    exact ⟨b, e, fun hb => ihx _ _ _ (h1 hb), fun hb => ihy _ _ _ (h2 hb)⟩
  | block id c ih => intro fe S Q h; exact ih _ _ _ h
  | loop c ih =>
    intro fe S Q h
    obtain ⟨I, μ, hI, hr⟩ := h
    exact ⟨I, μ, hI, fun fe S hh => ih _ _ _ (hr fe S hh)⟩
  | range x L =>
    intro fe S Q h
    obtain ⟨g, a, b, e, h⟩ := h
    exact ⟨g, a, b, e, fun env h1 h2 => NG.of hm (h env h1 h2)⟩

theorem NW.mono : ∀ (c : XCode) (fe : FEnv) (S : St) {Q Q' : Ex → FEnv → St → Prop}, NW P B c fe S Q → (∀ e fe S, Q e fe S → Q' e fe S) → NW P B c fe S Q' := by
  have hNO : ∀ (l : List XOper) (fe : FEnv) (S : St) {Q Q' : FEnv → St → Prop}, NO P B l fe S Q → (∀ fe S, Q fe S → Q' fe S) → NO P B l fe S Q' := by
    intro l
    induction l with
    | nil => intro fe S Q Q' h hq; exact hq _ _ h
    | cons o l ih =>
      intro fe S Q Q' h hq
      simp only [NO] at *
      split at h
      · rename_i hw
        rw [if_pos hw]
        exact NS.mono h fun v S' hh => ih _ _ hh hq
      · rename_i hw
        rw [if_neg hw]
        exact ih _ _ h hq
  intro c
  induction c with
  | skip => intro fe S Q Q' h hq; exact hq _ _ _ h
  | exit id => intro fe S Q Q' h hq; exact hq _ _ _ h
  | ret => intro fe S Q Q' h hq; exact hq _ _ _ h
  | region ops => intro fe S Q Q' h hq; exact hNO _ _ _ h fun fe S => hq _ _ _
  | draw d => intro fe S Q Q' h hq; exact XW.mono hq (c := .draw d) h
  | seq a b iha ihb =>
    intro fe S Q Q' h hq
    refine iha _ _ h fun e fe' S' hh => ?_
    cases e with
    | normal => exact ihb _ _ hh hq
    | exit id => exact hq _ _ _ hh
    | ret => exact hq _ _ _ hh
  | cond c x y ihx ihy =>
    intro fe S Q Q' h hq
    obtain ⟨b, e, h1, h2⟩ := h
    exact ⟨b, e, fun hb => ihx _ _ (h1 hb) hq, fun hb => ihy _ _ (h2 hb) hq⟩
  | block id c ih =>
    intro fe S Q Q' h hq
    refine ih _ _ h fun e fe' S' hh => ?_
    cases e with
    | normal => exact hq _ _ _ hh
    | ret => exact hq _ _ _ hh
    | exit id' =>
      simp only at hh ⊢
      split at hh
      · rename_i e; rw [if_pos e]; exact hq _ _ _ hh
      · rename_i e; rw [if_neg e]; exact hq _ _ _ hh
  | loop c ih =>
    intro fe S Q Q' h hq
    obtain ⟨I, μ, hI, hr⟩ := h
    refine ⟨I, μ, hI, fun fe S hh => ih _ _ (hr fe S hh) fun e fe' S' hk => ?_⟩
    cases e with
    | normal => exact hk
    | exit id => exact hq _ _ _ hk
    | ret => exact hq _ _ _ hk
  | range x L =>
    intro fe S Q Q' h hq
    obtain ⟨g, a, b, e, h⟩ := h
    refine ⟨g, a, b, e, fun env h1 h2 => NG.mono (h env h1 h2) ?_⟩
    rintro _ S2 ⟨env2, L2, pe, q1, q2⟩
    exact ⟨env2, L2, pe, q1, hq _ _ _ q2⟩
theorem NO_next (d : Tmp) (x : Operand) (r : List XOper) {fe : FEnv} {S : St} {Q : FEnv → St → Prop} : NO P B (⟨some d, .extra .nextMap [x], none⟩ :: r) fe S Q = NNext (fev fe x) S (fun v S' => NO P B r (upd fe d v) S' Q) := by simp [NO, NS, fwant, updO]
theorem XS_extra (e : EOp) (l : List Operand) {ρ : Operand → Value} {S : St} {K : Value → St → Prop} : XS P (.extra e l) ρ S K = @Got _ (xextra e (l.map ρ) S) ⟨fun r => K r.1 r.2⟩ := XS_gen (by simp) (by simp)
/-- an operation of the machine at the head of a region. -/
theorem NO_X (hm : P.follows .mixedOrders = true) {d : Tmp} {o : XOp} {r : List XOper} {fe : FEnv} {S : St} {Q : FEnv → St → Prop} (h : XS P o (fev fe) S (fun v S' => NO P B r (upd fe d v) S' Q)) : NO P B (⟨some d, o, none⟩ :: r) fe S Q := by
  have := NS_of (B := B) hm h
  simpa [NO, fwant, updO] using this
/-- a call at the head of a region. -/
theorem NO_call {d : Tmp} {f : FuncId} {args : Array Operand} {args' : Array Value} {r : List XOper} {fe : FEnv} {S : St} {K : Value → St → Prop} {Q : FEnv → St → Prop} (h : NG P B (.func f) args' S K) (ha : args.map (fev fe) = args') (hk : ∀ v S', K v S' → NO P B r (upd fe d v) S' Q) : NO P B (⟨some d, .call f args, none⟩ :: r) fe S Q := by
  subst ha
  have := NG.mono h hk
  simpa [NO, NS, fwant, updO] using this
theorem NW_region {ops : List XOper} {fe : FEnv} {S : St} {Q : Ex → FEnv → St → Prop} : NW P B (.region ops) fe S Q = NO P B ops fe S (Q .normal) := by simp only [NW]
/-- two pieces, the first of them of the machine. -/
theorem NW_seqX (hm : P.follows .mixedOrders = true) {a b : XCode} {fe : FEnv} {S : St} {Q : Ex → FEnv → St → Prop} (h : XW P a fe S (fun e fe' S' => match e with
    | .normal => NW P B b fe' S' Q
    | e => Q e fe' S')) : NW P B (.seq a b) fe S Q := NW_of hm a fe S _ h
theorem NW_seq {a b : XCode} {fe : FEnv} {S : St} {Q : Ex → FEnv → St → Prop} : NW P B (.seq a b) fe S Q = NW P B a fe S (bindN (fun fe S => NW P B b fe S Q) Q) := by
  simp only [NW]
  congr 1
theorem NW_block {id : Nat} {c : XCode} {fe : FEnv} {S : St} {Q : Ex → FEnv → St → Prop} : NW P B (.block id c) fe S Q = NW P B c fe S (bindB id Q) := by
  simp only [NW]
  congr 1
theorem NW_loop {c : XCode} {fe : FEnv} {S : St} {Q : Ex → FEnv → St → Prop} (I : Nat → FEnv → St → Prop) (n : Nat) (h0 : I n fe S) (h : ∀ k fe S, I k fe S → NW P B c fe S (bindL I k Q)) : NW P B (.loop c) fe S Q := by
  classical
  let μ : FEnv → St → Nat := fun fe S => if h : ∃ k, I k fe S ∧ ∀ j, I j fe S → k ≤ j then h.choose else 0
  have hμ : ∀ fe S k, I k fe S → I (μ fe S) fe S ∧ μ fe S ≤ k := fun fe S k hk => by
    have hex := least (p := fun k => I k fe S) k hk
    simp only [μ]
    rw [dif_pos hex]
    exact ⟨hex.choose_spec.1, hex.choose_spec.2 k hk⟩
  refine ⟨fun fe S => ∃ k, I k fe S, μ, ⟨n, h0⟩, fun fe S ⟨k, hk⟩ => NW.mono _ _ _ (h _ fe S (hμ fe S k hk).1) fun e fe' S' hh => ?_⟩
  cases e with
  | normal =>
    obtain ⟨k', hlt, hI⟩ := hh
    exact ⟨⟨k', hI⟩, Nat.lt_of_le_of_lt (hμ fe' S' k' hI).2 hlt⟩
  | exit id => exact hh
  | ret => exact hh
end

section
variable {B : Nat} {φ φ2 : Emb} {S S2 : St} {w w2 : World}

theorem Keep.old (hk : Keep B φ S w φ2 S2 w2) {id : Nat} {s : Spot} (h : φ2 id = some s) (hid : id < S.next) : φ id = some s := by
  cases e : φ id with
  | none => have := hk.new id s h e; omega
  | some s' =>
    have := hk.le id s' e
    rw [h] at this
    exact this.symm
theorem Keep.below_le (hk : Keep B φ S w φ2 S2 w2) : Emb.le (φ2.below S.next) φ := ⟨fun id s h => by
  rw [below_at] at h
  split at h
  · rename_i hid; exact hk.old h hid
  · exact absurd h (by simp), hk.le.tab.symm⟩
theorem Keep.relOld (hk : Keep B φ S w φ2 S2 w2) {v v' : Value} (h : Rel φ2 v v') (hv : Sc S.next v) : Rel φ v v' := (hv.toScoped φ2 v' h).mono hk.below_le
theorem Keep.objOld (hk : Keep B φ S w φ2 S2 w2) {o : AObj} {r : Obj} (h : ObjR φ2 o r) (hv : ScO S.next o) : ObjR φ o r := by
  cases o with
  | loop env L pe =>
    obtain ⟨q, rfl, h1, h2⟩ := h
    refine ⟨q, rfl, ⟨h1.1, fun i a b => hk.relOld (h1.2 i a b) (hv _ (by simp))⟩, h2⟩
  | map es c =>
    obtain ⟨q, rfl, h1, h2⟩ := h
    exact ⟨q, rfl, h1, fun i a b => ⟨hk.relOld (h2 i a b).1 (hv _ (List.getElem_mem _)).1, hk.relOld (h2 i a b).2.1 (hv _ (List.getElem_mem _)).2, (h2 i a b).2.2⟩⟩
  | iter s p => exact h
  | mapIter m s l c =>
    obtain ⟨q, rfl, h1⟩ := h
    exact ⟨q, rfl, hk.relOld h1 hv⟩

/-- nothing new is kept. -/
theorem collect0 (hS : WS S) (hs : Sim B φ S w) (hs2 : Sim B φ2 S2 w2) (hk : Keep B φ S w φ2 S2 w2) (hx : Ext S S2) : Sim B φ S w2 ∧ Keep B φ S w φ S w2 := by
  have hid : ∀ {id s}, φ id = some s → φ2 id = some s ∧ S2.get id = S.get id ∧ id < S.next := fun h => ⟨hk.le _ _ h, hx.get _ (hs.dom _ _ h).1, (hs.dom _ _ h).1⟩
  refine ⟨⟨fun id s h => ⟨(hid h).2.2, (hs2.dom id s (hid h).1).2⟩, hs.gone, fun id s c t sz m an h hg => ?_, fun id s c t sz an h hg j sj cj tj zj mj aj hj hj1 hj2 hb => ?_, hs2.loops.1.of (Nat.le_refl _) hk.le.tab.symm (fun _ _ _ _ e => e), fun id s o h hg => ?_⟩,
    ⟨Emb.le.refl _, fun _ _ h h' => (Option.some_ne_none _ (h.symm.trans h')).elim, fun _ _ h h' => (Option.some_ne_none _ (h.symm.trans h')).elim, hk.size, Nat.le_refl _, hk.os, hk.tape, hk.output, hk.keep, fun id s h1 h2 _ => ⟨id, s, h1, rfl, h2⟩⟩⟩
  · obtain ⟨a1, a2, a3, cs, t', a4, a5, a6⟩ := hs2.blk id s c t sz m an (hid h).1 (by rw [(hid h).2.1]; exact hg)
    refine ⟨a1, a2, a3, cs, t', a4, a5, fun i v hv => ?_⟩
    obtain ⟨b1, v', b2, b3⟩ := a6 i v hv
    exact ⟨b1, v', b2, hk.relOld b3 (hS.cell id c t sz m an hg v (List.mem_of_getElem? hv))⟩
  · exact hs2.apart id s c t sz an (hid h).1 (by rw [(hid h).2.1]; exact hg) j sj cj tj zj mj aj hj (hid hj1).1 (by rw [(hid hj1).2.1]; exact hj2) hb
  · obtain ⟨a1, ⟨r, a2, a3⟩, a4⟩ := hs2.loops.2 id s o (hid h).1 (by rw [(hid h).2.1]; exact hg)
    exact ⟨a1, ⟨r, a2, hk.objOld a3 (hS.obj id o hg)⟩, fun j sj o' hj ej ej2 => a4 j sj o' hj (hid ej).1 (by rw [(hid ej).2.1]; exact ej2)⟩

/-- one new row is kept. -/
theorem collect1 (hS : WS S) (hs : Sim B φ S w) (hs2 : Sim B φ2 S2 w2) (hk : Keep B φ S w φ2 S2 w2) (hx : Ext S S2) {k : Nat} {s0 : Spot} {c0 : List Value} {t0 : TypeId} {z0 : Nat} {an0 : List Nat} (hkn : S.next ≤ k) (hks : φ2 k = some s0)
    (hkg : S2.get k = .cells c0 t0 z0 true an0) (han : ∀ j ∈ an0, S.next ≤ j) (hc : ScL S.next c0) (t1 : TypeId) :
    Sim B (φ.add S.next s0) (S.alloc (.cells c0 t1 z0 true [])) w2 ∧ Keep B φ S w (φ.add S.next s0) (S.alloc (.cells c0 t1 z0 true [])) w2 := by
  obtain ⟨b0, _⟩ := collect0 hS hs hs2 hk hx
  have hid : ∀ {id s}, φ id = some s → φ2 id = some s ∧ S2.get id = S.get id ∧ id < S.next := fun h => ⟨hk.le _ _ h, hx.get _ (hs.dom _ _ h).1, (hs.dom _ _ h).1⟩
  have hnone : φ S.next = none := by
    cases e : φ S.next with
    | none => rfl
    | some s => have := (hs.dom _ _ e).1; omega
  have hle : Emb.le φ (φ.add S.next s0) := ⟨fun id s h => by
    rw [Emb.add_other]
    · exact h
    · have := (hid h).2.2; omega, rfl⟩
  have hold : ∀ {id s}, (φ.add S.next s0) id = some s → id ≠ S.next → φ id = some s := fun h hne => by
    rw [Emb.add_other _ _ hne] at h; exact h
  have hnew : ∀ {s}, (φ.add S.next s0) S.next = some s → s = s0 := fun h => by
    rw [Emb.add_same] at h; exact (Option.some.inj h).symm
  have hga : ∀ id, id ≠ S.next → (S.alloc (.cells c0 t1 z0 true [])).get id = S.get id := fun id h => by rw [St.get_alloc, if_neg h]
  have hgs : (S.alloc (.cells c0 t1 z0 true [])).get S.next = .cells c0 t1 z0 true [] := by rw [St.get_alloc, if_pos rfl]
  have hkd := hs2.dom k s0 hks
  refine ⟨⟨fun id s h => ?_, fun id h => ?_, fun id s c t sz m an h hg => ?_, fun id s c t sz an h hg j sj cj tj zj mj aj hj hj1 hj2 hb => ?_, b0.loops.1, fun id s o h hg => ?_⟩,
    ⟨hle, fun id s h h' => ?_, fun id s h h' => ?_, hk.size, by simp, hk.os, hk.tape, hk.output, hk.keep, fun id s h1 h2 h3 => ?_⟩⟩
  · by_cases e : id = S.next
    · subst e; obtain rfl := hnew h; exact ⟨by simp, hkd.2⟩
    · have := b0.dom id s (hold h e); exact ⟨by simp; omega, this.2⟩
  · rw [hga id (by simp at h; omega)]; exact hs.gone id (by simp at h; omega)
  · by_cases e : id = S.next
    · subst e
      obtain rfl := hnew h
      rw [hgs] at hg
      injection hg with e1 e2 e3 e4 e5
      subst e1 e2 e3 e4 e5
      obtain ⟨a1, a2, a3, cs, t', a4, a5, a6⟩ := hs2.blk k s _ _ _ _ _ hks hkg
      refine ⟨a1, a2, a3, cs, t', a4, a5, fun i v hv => ?_⟩
      obtain ⟨q1, v', q2, q3⟩ := a6 i v hv
      exact ⟨q1, v', q2, (hk.relOld q3 (hc v (List.mem_of_getElem? hv))).mono hle⟩
    · rw [hga id e] at hg
      obtain ⟨a1, a2, a3, cs, t', a4, a5, a6⟩ := b0.blk id s c t sz m an (hold h e) hg
      refine ⟨a1, a2, a3, cs, t', a4, a5, fun i v hv => ?_⟩
      obtain ⟨q1, v', q2, q3⟩ := a6 i v hv
      exact ⟨q1, v', q2, q3.mono hle⟩
  · by_cases e : id = S.next
    · subst e
      obtain rfl := hnew h
      rw [hgs] at hg
      injection hg with e1 e2 e3 e4 e5
      subst e1 e2 e3 e5
      have h1 := hold hj1 hj
      rw [hga j hj] at hj2
      have h2 := hid h1
      have := hs2.apart k s _ _ _ _ hks hkg j sj cj tj zj mj aj (by omega) h2.1 (by rw [h2.2.1]; exact hj2) hb
      have := han j this.1.1
      omega
    · rw [hga id e] at hg
      have h1 := hold h e
      have h2 := hid h1
      by_cases e' : j = S.next
      · subst e'
        obtain rfl := hnew hj1
        rw [hgs] at hj2
        injection hj2 with e1 e2 e3 e4 e5
        subst e1 e2 e3 e4 e5
        have := hs2.apart id s c t sz an h2.1 (by rw [h2.2.1]; exact hg) k sj _ _ _ _ _ (by omega) hks hkg hb
        exact absurd this.1.2 (by simp)
      · rw [hga j e'] at hj2
        exact b0.apart id s c t sz an h1 hg j sj cj tj zj mj aj hj (hold hj1 e') hj2 hb
  · by_cases e : id = S.next
    · subst e; rw [hgs] at hg; cases hg
    · rw [hga id e] at hg
      obtain ⟨a1, ⟨r, a2, a3⟩, a4⟩ := b0.loops.2 id s o (hold h e) hg
      refine ⟨a1, ⟨r, a2, a3.mono hle⟩, fun j sj o' hj ej ej2 => ?_⟩
      by_cases e' : j = S.next
      · subst e'; rw [hgs] at ej2; cases ej2
      · rw [hga j e'] at ej2
        exact a4 j sj o' hj (hold ej e') ej2
  · by_cases e : id = S.next
    · subst e
      obtain rfl := hnew h
      cases ek : φ k with
      | some s => have := (hs.dom _ _ ek).1; omega
      | none => exact hk.place k s hks ek
    · rw [hold h e] at h'; cases h'
  · by_cases e : id = S.next
    · omega
    · rw [hold h e] at h'; cases h'
  · by_cases e : id = S.next
    · subst e
      obtain rfl := hnew h1
      exact hk.mine k s hks (by rw [hkg]; rfl) h3
    · rw [hga id e] at h2
      exact ⟨id, s, hold h1 e, rfl, h2⟩
end
end Go.Proofs.YtofjnhdgkhfgnaaDoor


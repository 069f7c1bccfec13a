/- A logic for the abstract machine: what is said of a piece of code holds. -/
import Derived.Test.YtofjnhdgkhfgnaaDoorMu
namespace Go.Proofs.YtofjnhdgkhfgnaaDoor
open Go Go.RowKit

/-- What a call does, of a function or of yield. -/
def XG (P : Program) [Prim P] (g : Go.Fn) (args : Array Value) (S : St) (Q : Value → St → Prop) : Prop :=
  WS S → ScL S.next args.toList → ∃ n v S', xcall xdraw (XF P) (XL P) (Prim.run P) n g args S = some (v, S') ∧ Q v S'
/-- What a call does. -/
def XC (P : Program) [Prim P] (f : FuncId) (args : Array Value) (S : St) (Q : Value → St → Prop) : Prop := XG P (.func f) args S Q

theorem XG.mono {P : Program} [Prim P] {g : Go.Fn} {args : Array Value} {S : St} {Q Q' : Value → St → Prop} (h : XG P g args S Q) (hq : ∀ v S', Q v S' → Q' v S') : XG P g args S Q' := fun h1 h2 => by
  obtain ⟨n, v, S', h3, h4⟩ := h h1 h2
  exact ⟨n, v, S', h3, hq _ _ h4⟩
theorem XC.mono {P : Program} [Prim P] {f : FuncId} {args : Array Value} {S : St} {Q Q' : Value → St → Prop} (h : XC P f args S Q) (hq : ∀ v S', Q v S' → Q' v S') : XC P f args S Q' := XG.mono h hq

/-- a call that is shown by hand. -/
theorem XC_prim {P : Program} [Prim P] {f : FuncId} (hf : XF P f = none) {args : Array Value} {S : St} {Q : Value → St → Prop} (h : ∃ v S', Prim.run P f args S = some (v, S') ∧ Q v S') : XC P f args S Q := fun _ _ => by
  obtain ⟨v, S', h1, h2⟩ := h
  exact ⟨0, v, S', by simp only [xcall, hf]; exact h1, h2⟩

/-- What an operation does. -/
def XS (P : Program) [Prim P] (o : XOp) (ρ : Operand → Value) (S : St) (K : Value → St → Prop) : Prop :=
  match o with
  | .call f args => XC P f (args.map ρ) S K
  | .callv x args => ∃ g a b, ρ x = .func g a b ∧ XG P g (a ++ args.map ρ ++ b) S K
  | o => ∃ v S', xop o ρ S = some (v, S') ∧ K v S'

def XO (P : Program) [Prim P] : List XOper → FEnv → St → (FEnv → St → Prop) → Prop
  | [], fe, S, Q => Q fe S
  | o :: r, fe, S, Q => if fwant fe o.guard = true then XS P o.op (fev fe) S (fun v S' => XO P r (updO fe o.dst v) S' Q) else XO P r (updO fe o.dst undef) S Q

/-- nothing that stood has turned. -/
structure Ext (S S' : St) : Prop where
  next : S.next ≤ S'.next
  get : ∀ id, id < S.next → S'.get id = S.get id
theorem Ext.refl (S : St) : Ext S S := ⟨Nat.le_refl _, fun _ _ => rfl⟩
theorem Ext.trans {S S' S'' : St} (h : Ext S S') (k : Ext S' S'') : Ext S S'' := ⟨Nat.le_trans h.next k.next, fun id hid => (k.get id (Nat.lt_of_lt_of_le hid h.next)).trans (h.get id hid)⟩
theorem Ext.alloc (S : St) (b : Blk) : Ext S (S.alloc b) := ⟨by simp, fun id hid => by rw [St.get_alloc, if_neg (by omega)]⟩

/-- what lies in a block, whoever may write it. -/
def Blk.look : Blk → Option (List Value × TypeId × Nat)
  | .cells c t z _ _ => some (c, t, z)
  | _ => none
/-- what stood reads as before. -/
structure ExtL (S S' : St) : Prop where
  next : S.next ≤ S'.next
  look : ∀ id, id < S.next → (S'.get id).look = (S.get id).look
theorem ExtL.refl (S : St) : ExtL S S := ⟨Nat.le_refl _, fun _ _ => rfl⟩
theorem ExtL.trans {S S' S'' : St} (h : ExtL S S') (k : ExtL S' S'') : ExtL S S'' := ⟨Nat.le_trans h.next k.next, fun id hid => (k.look id (Nat.lt_of_lt_of_le hid h.next)).trans (h.look id hid)⟩
theorem Ext.toL {S S' : St} (h : Ext S S') : ExtL S S' := ⟨h.next, fun id hid => by rw [h.get id hid]⟩
theorem look_rd {S S' : St} {id : Nat} (h : (S'.get id).look = (S.get id).look) (o n : Nat) : S'.rd id o n = S.rd id o n := by
  unfold St.rd
  cases e : S.get id <;> cases e' : S'.get id <;> rw [e, e'] at h <;> simp [Blk.look] at h ⊢
  rw [h.1]
theorem look_width {S S' : St} {id : Nat} (h : (S'.get id).look = (S.get id).look) : S'.width id = S.width id := by
  unfold St.width
  cases e : S.get id <;> cases e' : S'.get id <;> rw [e, e'] at h <;> simp [Blk.look] at h ⊢
  exact h.2.2

/-- the block that an operation reads. -/
def readsAt (o : XOp) (ρ : Operand → Value) : Option Nat :=
  match o with
  | .load _ _ x => match ρ x with
    | .pointer (some a) => some a.block
    | _ => none
  | .sl _ x _ _ => match ρ x with
    | .slice (some a) _ _ => some a.block
    | _ => none
  | _ => none

/-- the same in a region that draws its order: at an operation that is marked, nothing that stood is turned; what is read ahead of the text lay there when the region began. -/
def XM (P : Program) [Prim P] (S0 : St) : List (XOper × (Bool × Bool) × Bool) → FEnv → St → (FEnv → St → Prop) → Prop
  | [], fe, S, Q => Q fe S
  | (o, keep, early) :: r, fe, S, Q => if fwant fe o.guard = true then
      (early = true → ∀ id, readsAt o.op (fev fe) = some id → id < S0.next) ∧ XS P o.op (fev fe) S (fun v S' => ((keep.1 = true → ExtL S S') ∧ (keep.2 = true → Ext S S')) ∧ XM P S0 r (updO fe o.dst v) S' Q)
    else XM P S0 r (updO fe o.dst undef) S Q

def XW (P : Program) [Prim P] : XCode → FEnv → St → (Ex → FEnv → St → Prop) → Prop
  | .skip, fe, S, Q => Q .normal fe S
  | .region ops, fe, S, Q => XO P ops fe S (Q .normal)
  | .draw d, fe, S, Q => XM P S (d.ops.zip d.flags) fe S (Q .normal)
  | .seq a b, fe, S, Q => XW P a fe S (fun e fe' S' => match e with
    | .normal => XW P b fe' S' Q
    | e => Q e fe' S')
  | .cond c x y, fe, S, Q => ∃ b, fev fe c = .bool b ∧ (b = true → XW P x fe S Q) ∧ (b = false → XW P y fe S Q)
  | .block id c, fe, S, Q => XW P c fe S (fun e fe' S' => match e with
    | .exit id' => if id' = id then Q .normal fe' S' else Q (.exit id') fe' S'
    | e => Q e fe' S')
  | .loop c, fe, S, Q => ∃ (I : FEnv → St → Prop) (μ : FEnv → St → Nat), I fe S ∧ ∀ fe S, I fe S → XW P c fe S (fun e fe' S' => match e with
    | .normal => I fe' S' ∧ μ fe' S' < μ fe S
    | e => Q e fe' S')
  | .exit id, fe, S, Q => Q (.exit id) fe S
  | .ret, fe, S, Q => Q .ret fe S
  | .range x L, fe, S, Q => ∃ g a b, fev fe x = .func (.func g) a b ∧ ∀ env : Array Value, toF env = fe → L.n ≤ env.size → XC P g (a ++ #[Value.func (.yield S.next) #[] #[]] ++ b) (S.alloc (.loop env L none)) (fun _ S2 => ∃ env2 L2 pe, S2.get S.next = .loop env2 L2 pe ∧ Q (pe.getD .normal) fe (S2.put S.next .gone))

section
variable {P : Program} [Prim P]

theorem XS_run {o : XOp} {ρ : Operand → Value} {S : St} {K : Value → St → Prop} (hw : WS S) (hok : opdsOk o = true) (hρ : ∀ x, okOpd x = true → Sc S.next (ρ x)) (h : XS P o ρ S K) : ∃ n v S', xstep (xcall xdraw (XF P) (XL P) (Prim.run P) n) o ρ S = some (v, S') ∧ K v S' := by
  unfold XS at h
  split at h
  · obtain ⟨n, v, S', h1, h2⟩ := h hw (args_sc hρ hok)
    exact ⟨n, v, S', h1, h2⟩
  · rename_i x args
    obtain ⟨f, a, b, e, h⟩ := h
    simp only [opdsOk, Bool.and_eq_true] at hok
    have hx := hρ x hok.1
    rw [e] at hx
    obtain ⟨k1, k2⟩ := func_sc hx
    obtain ⟨n, v, S', h1, h2⟩ := h hw (by
      rw [Array.toList_append, Array.toList_append]
      exact (k1.append (args_sc hρ hok.2)).append k2)
    refine ⟨n, v, S', ?_, h2⟩
    simp only [xstep, e]
    exact h1
  · rename_i n1 n2
    obtain ⟨v, S', h1, h2⟩ := h
    refine ⟨0, v, S', ?_, h2⟩
    rw [← h1]
    unfold xstep
    split
    · exact (n1 _ _ rfl).elim
    · exact (n2 _ _ rfl).elim
    · rfl

theorem XO_run {m : Nat} : ∀ (l : List XOper), wfO m l = true → ∀ (env : Env) (S : St) (Q : FEnv → St → Prop), WS S → SE S.next env → m ≤ env.size → XO P l (toF env) S Q → ∃ n env' S', xops (xcall xdraw (XF P) (XL P) (Prim.run P) n) l env S = some (env', S') ∧ Q (toF env') S' := by
  intro l
  induction l with
  | nil => intro _ env S Q hw hs hm h; exact ⟨0, env, S, rfl, h⟩
  | cons o l ih =>
    intro hwf env S Q hw hs hm h
    obtain ⟨h1, h2, h3⟩ := wfO_cons hwf
    simp only [XO] at h
    rw [← toF_want] at h
    simp only [xops]
    split at h
    · rename_i hwn
      rw [← toF_ev] at h
      obtain ⟨n, v, S1, k1, k2⟩ := XS_run hw h1 hs.ev h
      obtain ⟨q1, q2, q3⟩ := xstep_ws (xcall_ws P n) hw h1 hs.ev k1
      rw [← toF_put env o.dst v (fun t e => Nat.lt_of_lt_of_le (h2 t e) hm)] at k2
      obtain ⟨n2, env', S', k3, k4⟩ := ih h3 (env.put o.dst v) S1 Q q1 ((hs.mono q2).put _ q3) (by rw [put_size]; exact hm) k2
      refine ⟨max n n2, env', S', ?_, k4⟩
      rw [if_pos hwn, xstep_mono (xcall_mono (XF P) (XL P) (Prim.run P) n (max n n2) (Nat.le_max_left _ _)) k1]
      exact xops_mono (xcall_mono (XF P) (XL P) (Prim.run P) n2 (max n n2) (Nat.le_max_right _ _)) _ _ _ _ k3
    · rename_i hwn
      rw [← toF_put env o.dst undef (fun t e => Nat.lt_of_lt_of_le (h2 t e) hm)] at h
      obtain ⟨n2, env', S', k3, k4⟩ := ih h3 _ S Q hw (hs.put _ (Sc.undef _)) (by rw [put_size]; exact hm) h
      exact ⟨n2, env', S', by rw [if_neg hwn]; exact k3, k4⟩

/-- the run of a region that draws its order, with what it keeps. -/
theorem XM_run {m : Nat} (S0 : St) : ∀ (l : List (XOper × (Bool × Bool) × Bool)), wfO m (l.map (·.1)) = true → ∀ (env : Env) (S : St) (Q : FEnv → St → Prop), WS S → SE S.next env → m ≤ env.size → XM P S0 l (toF env) S Q →
    ∃ n R env' S', xrun (xcall xdraw (XF P) (XL P) (Prim.run P) n) (l.map (·.1)) env S = some (R, env', S') ∧ Q (toF env') S' ∧
      ∀ i (hi : i < l.length), ∃ r, R[i]? = some r ∧ (r.w = true → ((l[i].2.1.1 = true → ExtL (recT R S' i) (recT R S' (i + 1))) ∧ (l[i].2.1.2 = true → Ext (recT R S' i) (recT R S' (i + 1)))) ∧ (l[i].2.2 = true → ∀ id, readsAt l[i].1.op r.env.ev = some id → id < S0.next)) := by
  intro l
  induction l with
  | nil => intro _ env S Q hw hs hm h; exact ⟨0, [], env, S, rfl, h, fun i hi => by simp at hi⟩
  | cons o l ih =>
    obtain ⟨o, keep, early⟩ := o
    intro hwf env S Q hw hs hm h
    obtain ⟨h1, h2, h3⟩ := wfO_cons hwf
    simp only [XM] at h
    rw [← toF_want] at h
    simp only [List.map_cons, xrun]
    have sT : ∀ (wn : Bool) (v : Value) (R1 : List Rec) (S' : St) (j : Nat), recT (⟨env, S, wn, v⟩ :: R1) S' (j + 1) = recT R1 S' j := fun wn v R1 S' j => by simp [recT]
    split at h
    · rename_i hwn
      rw [← toF_ev] at h
      obtain ⟨he, h⟩ := h
      obtain ⟨n, v, S1, k1, kk, k2⟩ := XS_run hw h1 hs.ev h
      obtain ⟨q1, q2, q3⟩ := xstep_ws (xcall_ws P n) hw h1 hs.ev k1
      rw [← toF_put env o.dst v (fun t e => Nat.lt_of_lt_of_le (h2 t e) hm)] at k2
      obtain ⟨n2, R1, env', S', k3, k4, k5⟩ := ih h3 (env.put o.dst v) S1 Q q1 ((hs.mono q2).put _ q3) (by rw [put_size]; exact hm) k2
      refine ⟨max n n2, ⟨env, S, true, v⟩ :: R1, env', S', ?_, k4, fun i hi => ?_⟩
      · rw [if_pos hwn, xstep_mono (xcall_mono (XF P) (XL P) (Prim.run P) n (max n n2) (Nat.le_max_left _ _)) k1]
        simp only [Option.bind_some]
        rw [xrun_mono (xcall_mono (XF P) (XL P) (Prim.run P) n2 (max n n2) (Nat.le_max_right _ _)) _ _ _ _ k3]
        rfl
      · cases i with
        | zero =>
          refine ⟨⟨env, S, true, v⟩, rfl, fun _ => ⟨?_, fun hk => he hk⟩⟩
          rw [sT]
          have e0 : recT R1 S' 0 = S1 := (xrun_facts _ _ _ _ _ _ k3).2.2.1
          rw [e0]
          exact kk
        | succ i =>
          obtain ⟨r, p1, p2⟩ := k5 i (by simpa using hi)
          refine ⟨r, by simpa using p1, fun hw => ?_⟩
          rw [sT, sT]
          exact p2 hw
    · rename_i hwn
      rw [← toF_put env o.dst undef (fun t e => Nat.lt_of_lt_of_le (h2 t e) hm)] at h
      obtain ⟨n2, R1, env', S', k3, k4, k5⟩ := ih h3 _ S Q hw (hs.put _ (Sc.undef _)) (by rw [put_size]; exact hm) h
      refine ⟨n2, ⟨env, S, false, undef⟩ :: R1, env', S', ?_, k4, fun i hi => ?_⟩
      · rw [if_neg hwn, k3]; rfl
      · cases i with
        | zero => exact ⟨⟨env, S, false, undef⟩, rfl, fun x => by cases x⟩
        | succ i =>
          obtain ⟨r, p1, p2⟩ := k5 i (by simpa using hi)
          refine ⟨r, by simpa using p1, fun hw => ?_⟩
          rw [sT, sT]
          exact p2 hw

theorem heapy_at {o : XOp} (h : heapy o = true) {ρ : Operand → Value} {S S1 S2 : St} {v : Value} (hx : xop o ρ S = some (v, S1)) (hg : ∀ id, readsAt o ρ = some id → (S2.get id).look = (S.get id).look) : ∃ S'', xop o ρ S2 = some (v, S'') := by
  cases o
  all_goals (first | (simp [heapy] at h; done) | skip)
  case load agg sz x =>
    simp only [xop, readsAt] at hx hg ⊢
    split at hx
    · rename_i id o e
      rw [e] at hg
      have := hg id rfl
      simp only [Option.bind_eq_some_iff, Option.map_eq_some_iff, Prod.mk.injEq] at hx ⊢
      obtain ⟨c, hc, v0, hv, rfl, _⟩ := hx
      refine ⟨S2, c, ?_, v0, hv, rfl, rfl⟩
      rw [look_rd this]; exact hc
    · cases hx
  case sl esz x lo hi =>
    simp only [xop, readsAt] at hx hg ⊢
    split at hx
    case h_2 => cases hx
    rename_i a n c e
    rw [e] at hg
    split at hx
    case h_2 => cases hx
    rename_i l hh b1 b2
    split at hx
    case isFalse => cases hx
    rename_i hc
    rw [if_pos hc]
    cases a with
    | none =>
      simp only [slRes] at hx ⊢
      split at hx
      · rename_i h0
        rw [if_pos h0]
        exact ⟨S2, by rw [(Prod.mk.inj (Option.some.inj hx)).1]⟩
      · cases hx
    | some ad =>
      obtain ⟨id, o, sp⟩ := ad
      cases sp with
      | some _ => simp [slRes] at hx
      | none =>
        have := hg id rfl
        simp only [slRes] at hx ⊢
        split at hx
        · rename_i h0
          have h0' : slFit (S2.width id) esz l = true := by
            rw [look_width this]; exact h0
          rw [if_pos h0']
          exact ⟨S2, by rw [(Prod.mk.inj (Option.some.inj hx)).1]⟩
        · cases hx

theorem readsAt_sc {o : XOp} (hok : opdsOk o = true) {ρ : Operand → Value} {m : Nat} (hρ : ∀ x, okOpd x = true → Sc m (ρ x)) {id : Nat} (h : readsAt o ρ = some id) : id < m := by
  cases o <;> simp only [readsAt] at h
  all_goals (first | (cases h; done) | skip)
  case load agg sz x =>
    have hx := hρ x hok
    split at h
    · rename_i a e
      rw [e] at hx
      obtain rfl := Option.some.inj h
      cases hx with
      | ptr _ _ hid => exact hid
    · cases h
  case sl esz x lo hi =>
    simp only [opdsOk, Bool.and_eq_true] at hok
    have hx := hρ x hok.1.1
    split at h
    · rename_i a n c e
      rw [e] at hx
      obtain rfl := Option.some.inj h
      cases hx with
      | slice _ _ _ _ hid => exact hid
    · cases h
end
end Go.Proofs.YtofjnhdgkhfgnaaDoor

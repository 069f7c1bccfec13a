/- The second view: its logic, and that it is sound. No program in sight. The second view: code is sound; functions. No program in sight. The second view: rules to evaluate a piece of code. The second view: lists of elements, calls that only compute. A law that is shown in the second view. -/
import Derived.Test.YtmbbebfpjclghaaMVa
import Derived.Test.YtmbbebfpjclghaaMst
set_option linter.unusedVariables false
set_option linter.unusedSectionVars false
set_option linter.unusedSimpArgs false
namespace Go.Proofs.Ytmbbebfpjclghaa
open Go Go.RowKit

def vfev (fe : FV) : Operand → VV
  | .tmp t => fe t
  | .const v => toV v
  | .global _ => .tup []
  | .func f => .fn f [] []
def vupd (fe : FV) (d : Tmp) (v : VV) : FV := fun t => if t = d then v else fe t
def vupdO (fe : FV) : Option Tmp → VV → FV
  | some d, v => vupd fe d v
  | none, _ => fe
def vwantV (x : VV) (want : Bool) : Bool := match x with
  | .v (.bool b) => b == want
  | _ => false
def vwant (fe : FV) : Option (Tmp × Bool) → Bool
  | none => true
  | some (t, want) => vwantV (fe t) want
abbrev vundef : VV := .tup []

/-- What a call does. -/
def VG (P : Program) [Prim P] (g : Go.Fn) (args : List VV) (σ : VSt) (Q : VV → VSt → Prop) : Prop :=
  ∀ S (args' : Array Value), VSim σ S → VRelL σ.G S args args'.toList → XG P g args' S (fun v' S' => ∃ v σ', VSim σ' S' ∧ VStep σ.fresh S σ' S' ∧ VRel σ'.G S' v v' ∧ Q v σ')
def VC (P : Program) [Prim P] (f : FuncId) (args : List VV) (σ : VSt) (Q : VV → VSt → Prop) : Prop := VG P (.func f) args σ Q

theorem VG.mono {P : Program} [Prim P] {g : Go.Fn} {args : List VV} {σ : VSt} {Q Q' : VV → VSt → Prop} (h : VG P g args σ Q) (hq : ∀ v σ', Q v σ' → Q' v σ') : VG P g args σ Q' := fun S args' h1 h2 => by
  refine XG.mono (h S args' h1 h2) ?_
  rintro v' S' ⟨v, σ', k1, k2, k3, k4⟩
  exact ⟨v, σ', k1, k2, k3, hq _ _ k4⟩

def fnOf : VV → Option (Go.Fn × List VV × List VV)
  | .fn f a b => some (.func f, a, b)
  | .yield id => some (.yield id, [], [])
  | _ => none
/-- a call that may be pure. -/
def VCK (P : Program) [Prim P] (k : Bool × Bool) (g : Go.Fn) (args : List VV) (σ : VSt) (K : VV → VSt → Bool → Prop) : Prop :=
  VG P g args σ (fun v σ' => ∃ c : Bool, (c = true → σ.next ≤ σ'.low) ∧ ((k.1 || k.2) = true → c = true) ∧ K v (σ.join σ') c)

/-- What an operation does; the mark says whether nothing that stood has turned. -/
def VS (P : Program) [Prim P] (k : Bool × Bool) (o : XOp) (ρ : Operand → VV) (σ : VSt) (K : VV → VSt → Bool → Prop) : Prop :=
  match o with
  | .call f args => VCK P k (.func f) (args.toList.map ρ) σ K
  | .callv x args => ∃ g a b, fnOf (ρ x) = some (g, a, b) ∧ VCK P k g (a ++ args.toList.map ρ ++ b) σ K
  | .append e esz bytes s x => (k.2 = false ∧ ∃ r, vapp esz bytes (ρ s) (ρ x) σ = some r ∧ K r.1 r.2 false) ∨ (k = (false, false) ∧ ∃ r, vappS e esz bytes (ρ s) (ρ x) σ = some r ∧ K r.1 r.2 false)
  | .buildSlice e esz n z parts => (∃ r, vbs e esz n z (parts.map fun p => (p.1, p.2.1, ρ p.2.2)) σ = some r ∧ K r.1 r.2 true) ∨ (∃ r, vbsS e esz n z (parts.map fun p => (p.1, p.2.1, ρ p.2.2)) σ = some r ∧ K r.1 r.2 true)
  | .extra e l => (readsE e = true ∨ k = (false, false)) ∧ ∃ r, vextra e (l.map ρ) σ = some r ∧ K r.1 r.2 (readsE e)
  | .store sz a x => k = (false, false) ∧ ∃ σ', vst σ sz (ρ a) (ρ x) = some σ' ∧ K (.tup []) σ' false
  | .copy esz d s => k = (false, false) ∧ ∃ r, vcopy esz (ρ d) (ρ s) σ = some r ∧ K r.1 r.2 false
  | .clr esz z x => k = (false, false) ∧ ∃ r, vclr esz z (ρ x) σ = some r ∧ K r.1 r.2 false
  | .eqs neg x y => (∃ v, veqs neg (ρ x) (ρ y) = some v ∧ K v σ true) ∨ (ρ x = .lst 0 [] ∧ ρ y = nilS ∧ K (.v (.bool (notIf neg true))) σ true ∧ K (.v (.bool (notIf neg false))) σ true)
  | o => ∃ r, vop o ρ σ = some r ∧ K r.1 r.2 true

def VO (P : Program) [Prim P] : List XOper → FV → VSt → (FV → VSt → Prop) → Prop
  | [], fe, σ, Q => Q fe σ
  | o :: r, fe, σ, Q => if vwant fe o.guard = true then VS P (false, false) o.op (vfev fe) σ (fun v σ' _ => VO P r (vupdO fe o.dst v) σ' Q) else VO P r (vupdO fe o.dst vundef) σ Q

/-- .. what an operation reads lay there when the region began. -/
def oldOpd (old : Tmp → Bool) : Operand → Bool
  | .tmp t => old t
  | _ => true
def vlowV (n0 : Nat) (o : Bool) : VV → Prop
  | .ptr id _ => id < n0
  | .slice id _ _ _ => id < n0
  | .v _ => True
  | _ => o = true
def vEarly (o : XOp) (ρ : Operand → VV) (n0 : Nat) (old : Tmp → Bool) : Prop := match o with
  | .load _ _ x => vlowV n0 (oldOpd old x) (ρ x)
  | .sl _ x _ _ => vlowV n0 (oldOpd old x) (ρ x)
  | _ => True
def keepsOld (o : XOp) (old : Tmp → Bool) (cl : Bool) : Bool := match o with
  | .mv x => oldOpd old x
  | .fa _ x => oldOpd old x
  | .fld _ _ _ x => oldOpd old x
  | .ia _ x _ => oldOpd old x
  | .iaArr _ _ x _ => oldOpd old x
  | .idx _ _ _ x _ => oldOpd old x
  | .ext x _ => oldOpd old x
  | .load _ _ x => oldOpd old x && cl
  | .sl _ x _ _ => oldOpd old x
  | _ => false
def oldO (old : Tmp → Bool) : Option Tmp → Bool → Tmp → Bool
  | some d, b => fun t => if t = d then b else old t
  | none, _ => old

def VM (P : Program) [Prim P] (n0 : Nat) : List (XOper × (Bool × Bool) × Bool) → (Tmp → Bool) → Bool → FV → VSt → (FV → VSt → Prop) → Prop
  | [], _, _, fe, σ, Q => Q fe σ
  | (o, k, early) :: r, old, cl, fe, σ, Q => if vwant fe o.guard = true then
      (early = true → vEarly o.op (vfev fe) n0 old) ∧ VS P k o.op (vfev fe) σ (fun v σ' c => VM P n0 r (oldO old o.dst (keepsOld o.op old cl)) (cl && c) (vupdO fe o.dst v) σ' Q)
    else VM P n0 r (oldO old o.dst true) cl (vupdO fe o.dst vundef) σ Q

def VW (P : Program) [Prim P] : XCode → FV → VSt → (Ex → FV → VSt → Prop) → Prop
  | .skip, fe, σ, Q => Q .normal fe σ
  | .region ops, fe, σ, Q => VO P ops fe σ (Q .normal)
  | .draw d, fe, σ, Q => VM P σ.next (d.ops.zip d.flags) (fun _ => true) true fe σ (Q .normal)
  | .seq a b, fe, σ, Q => VW P a fe σ (fun e fe' σ' => match e with
    | .normal => VW P b fe' σ' Q
    | e => Q e fe' σ')
  | .cond c x y, fe, σ, Q => ∃ b, vfev fe c = .v (.bool b) ∧ (b = true → VW P x fe σ Q) ∧ (b = false → VW P y fe σ Q)
  | .block id c, fe, σ, Q => VW P c fe σ (fun e fe' σ' => match e with
    | .exit id' => if id' = id then Q .normal fe' σ' else Q (.exit id') fe' σ'
    | e => Q e fe' σ')
  | .loop c, fe, σ, Q => ∃ (I : Nat → FV → VSt → Prop) (n : Nat), I n fe σ ∧ ∀ k fe σ, I k fe σ → VW P c fe σ (fun e fe' σ' => match e with
    | .normal => ∃ k', k' < k ∧ I k' fe' σ'
    | e => Q e fe' σ')
  | .exit id, fe, σ, Q => Q (.exit id) fe σ
  | .ret, fe, σ, Q => Q .ret fe σ
  | .range x L, fe, σ, Q => ∃ g a b, vfev fe x = .fn g a b ∧ VG P (.func g) (a ++ [.yield σ.next] ++ b) (σ.alloc (.loop fe L none)) (fun _ σ2 => ∃ fe2 L2 pe, σ2.heap σ.next = .loop fe2 L2 pe ∧ Q (pe.getD .normal) fe ((σ.join σ2).put σ.next .dead))

structure VR (σ : VSt) (S : St) (fe : FV) (fe' : FEnv) : Prop where
  sim : VSim σ S
  env : ∀ t, VRel σ.G S (fe t) (fe' t)
  ws : WS S
  se : ∀ t, Sc S.next (fe' t)

section
variable {P : Program} [Prim P]

theorem XG.ws {g : Go.Fn} {args : Array Value} {S : St} {Q : Value → St → Prop} (h : XG P g args S Q) : XG P g args S (fun v S' => Q v S' ∧ WS S' ∧ S.next ≤ S'.next ∧ Sc S'.next v) := fun h1 h2 => by
  obtain ⟨n, v, S', h3, h4⟩ := h h1 h2
  exact ⟨n, v, S', h3, h4, xcall_ws P n g args S v S' h3 h1 h2⟩

variable {σ : VSt} {S : St} {fe : FV} {fe' : FEnv}

theorem VR.ev (h : VR σ S fe fe') : ∀ x, okOpd x = true → VRel σ.G S (vfev fe x) (fev fe' x) := by
  intro x hx
  cases x with
  | tmp t => exact h.env t
  | const v => exact .toV hx
  | func f => exact .fn f [] [] #[] #[] rfl rfl (fun i h => by simp at h) (fun i h => by simp at h)
  | global g => cases hx
theorem VR.sc (h : VR σ S fe fe') : ∀ x, okOpd x = true → Sc S.next (fev fe' x) := by
  intro x hx
  cases x with
  | tmp t => exact h.se t
  | const v => exact Sc.flatV hx
  | func f => exact .func f _ _ (fun i h => by simp at h) (fun i h => by simp at h)
  | global g => cases hx
theorem VR.want (h : VR σ S fe fe') (g : Option (Tmp × Bool)) : vwant fe g = fwant fe' g := by
  cases g with
  | none => rfl
  | some p =>
    obtain ⟨t, w⟩ := p
    have := h.env t
    simp only [vwant, fwant]
    generalize fe t = x at this
    generalize fe' t = x' at this
    cases this with
    | v x hf => unfold vwantV; cases x' <;> rfl
    | _ => rfl
theorem VSim.join {σ' : VSt} {S' : St} (h : VSim σ' S') : VSim (σ.join σ') S' := ⟨h.next, h.hi, by simp only [VSt.join]; have := h.low; omega, h.blk⟩
theorem VStep.join {σ' : VSt} {S' : St} (h : VStep σ.fresh S σ' S') : VStep σ S (σ.join σ') S' :=
  ⟨h.next, h.still, by simp only [VSt.join]; omega, fun id h1 h2 => by
    simp only [VSt.join] at h2 ⊢
    exact h.keep id h1 (by omega)⟩
theorem VStep.ext {σ' : VSt} {S' : St} (h : VStep σ.fresh S σ' S') (hn : σ.next = S.next) (hn' : σ'.next = S'.next) (hp : σ.next ≤ σ'.low) : Ext S S' :=
  ⟨by rw [← hn, ← hn']; exact h.next, fun id hid => (h.keep id (by rw [← hn] at hid; exact hid) (by omega)).2.2⟩
theorem VSim.fresh (h : VSim σ S) : VSim σ.fresh S := ⟨h.next, h.hi, Nat.le_refl _, h.blk⟩
theorem argsL {ρ : Operand → VV} {ρ' : Operand → Value} (hρ : ∀ x, okOpd x = true → VRel σ.G S (ρ x) (ρ' x)) {l : List Operand} (hl : l.all okOpd = true) : VRelL σ.G S (l.map ρ) (l.map ρ') := by
  refine ⟨by simp, fun i h1 h2 => ?_⟩
  simp only [List.getElem_map]
  simp only [List.all_eq_true] at hl
  exact hρ _ (hl _ (List.getElem_mem _))

/-- what is known behind an operation. -/
def VOut (σ : VSt) (S : St) (k : Bool × Bool) (K : VV → VSt → Bool → Prop) (v' : Value) (S' : St) : Prop :=
  ∃ v σ' c, VSim σ' S' ∧ VStep σ S σ' S' ∧ VRel σ'.G S' v v' ∧ WS S' ∧ S.next ≤ S'.next ∧ Sc S'.next v' ∧ (c = true → Ext S S') ∧ (k.1 = true → ExtL S S') ∧ (k.2 = true → Ext S S') ∧ K v σ' c

theorem VCK_sound {k : Bool × Bool} {g : Go.Fn} {args : List VV} {args' : Array Value} {K : VV → VSt → Bool → Prop} (hs : VSim σ S) (hargs : VRelL σ.G S args args'.toList) (h : VCK P k g args σ K) : XG P g args' S (VOut σ S k K) := by
  refine XG.mono (h S args' hs hargs).ws ?_
  rintro v' S' ⟨⟨v, σ', k1, k2, k3, c, c1, c2, k4⟩, w1, w2, w3⟩
  have he : (k.1 || k.2) = true → Ext S S' := fun hk => k2.ext hs.next k1.next (c1 (c2 hk))
  exact ⟨v, σ.join σ', c, k1.join, k2.join, k3, w1, w2, w3, fun hc => k2.ext hs.next k1.next (c1 hc), fun hk => (he (by simp [hk])).toL, fun hk => he (by simp [hk]), k4⟩

theorem VS_sound {k : Bool × Bool} {o : XOp} {K : VV → VSt → Bool → Prop} (h : VR σ S fe fe') (hok : opdsOk o = true) (hv : VS P k o (vfev fe) σ K) : XS P o (fev fe') S (VOut σ S k K) := by
  have hs := h.sim
  have gen : ∀ {r : VV × VSt} {c : Bool} {v' : Value} {S' : St}, (∀ f a, o ≠ .call f a) → (∀ x a, o ≠ .callv x a) → xop o (fev fe') S = some (v', S') → VSim r.2 S' → VStep σ S r.2 S' → VRel r.2.G S' r.1 v' → (c = true → Ext S S') → (k.1 = true → ExtL S S') → (k.2 = true → Ext S S') → K r.1 r.2 c → XS P o (fev fe') S (VOut σ S k K) := by
    intro r c v' S' n1 n2 hx h1 h2 h3 h4 h5 h6 h7
    rw [XS_gen n1 n2]
    obtain ⟨w1, w2, w3⟩ := xop_ws h.ws hok h.sc hx
    exact ⟨(v', S'), hx, r.1, r.2, c, h1, h2, h3, w1, w2, w3, h4, h5, h6, h7⟩
  have ff : ∀ {Q : Prop} {b : Bool × Bool}, b = (false, false) → (b.1 = true → Q) ∧ (b.2 = true → Q) := fun e => ⟨fun h => (by rw [e] at h; cases h), fun h => (by rw [e] at h; cases h)⟩
  unfold VS at hv
  split at hv
  · rename_i f args
    exact VCK_sound hs (by simpa using argsL h.ev (l := args.toList) (by simpa [opdsOk] using hok)) hv
  · rename_i x args
    obtain ⟨g, a, b, hf, hv⟩ := hv
    simp only [opdsOk, Bool.and_eq_true] at hok
    have hx := h.ev x hok.1
    have hargs := argsL h.ev (l := args.toList) (by simpa using hok.2)
    unfold fnOf at hf
    generalize ex : vfev fe x = xv at hf hx
    generalize ex' : fev fe' x = xv' at hx
    split at hf
    · obtain ⟨rfl, rfl, rfl⟩ := by simpa using hf
      cases hx with
      | fn f _ _ a' b' ha hb h1 h2 =>
        refine ⟨_, a', b', ex', VCK_sound hs ?_ hv⟩
        simp only [Array.toList_append, Array.toList_map]
        exact VRelL.append (VRelL.append ⟨by simpa using ha, fun i k1 k2 => by simpa using h1 i k1 (by simpa using k2)⟩ hargs) ⟨by simpa using hb, fun i k1 k2 => by simpa using h2 i k1 (by simpa using k2)⟩
    · obtain ⟨rfl, rfl, rfl⟩ := by simpa using hf
      cases hx
      refine ⟨_, #[], #[], ex', VCK_sound hs ?_ hv⟩
      simpa using hargs
    · cases hf
  · rename_i e esz bytes s x
    simp only [opdsOk, Bool.and_eq_true] at hok
    rcases hv with ⟨hk, r, hr, hK⟩ | ⟨hk, r, hr, hK⟩
    · obtain ⟨v', S', k1, k2, k3, k4, k5⟩ := vapp_sound (e := e) hs (h.ev s hok.1) (h.ev x hok.2) hr
      exact gen (by simp) (by simp) (by simpa only [xop] using k1) k2 k3 k4 (fun hc => by cases hc) (fun _ => k5) (fun hc => by rw [hk] at hc; cases hc) hK
    · obtain ⟨v', S', k1, k2, k3, k4⟩ := vappS_sound hs (h.ev s hok.1) (h.ev x hok.2) hr
      exact gen (by simp) (by simp) (by simpa only [xop] using k1) k2 k3 k4 (fun hc => by cases hc) (ff hk).1 (ff hk).2 hK
  · rename_i e esz n z parts
    simp only [opdsOk, Bool.and_eq_true] at hok
    rcases hv with ⟨r, hr, hK⟩ | ⟨r, hr, hK⟩
    · obtain ⟨v', S', k1, k2, k3, k4⟩ := vbs_sound hs hok.1 h.ev hok.2 hr
      have he : Ext S S' := float_ext (cl := fun _ _ _ => none) (o := .buildSlice e esz n z parts) rfl k1
      exact gen (by simp) (by simp) k1 k2 k3 k4 (fun _ => he) (fun _ => he.toL) (fun _ => he) hK
    · obtain ⟨v', S', k1, k2, k3, k4⟩ := vbsS_sound hs hok.1 h.ev hok.2 hr
      have he : Ext S S' := float_ext (cl := fun _ _ _ => none) (o := .buildSlice e esz n z parts) rfl k1
      exact gen (by simp) (by simp) k1 k2 k3 k4 (fun _ => he) (fun _ => he.toL) (fun _ => he) hK
  · rename_i e l
    simp only [opdsOk] at hok
    obtain ⟨hk, r, hr, hK⟩ := hv
    obtain ⟨v', S', k1, k2, k3, k4, k5⟩ := vextra_sound hs (argsL h.ev (l := l) (by simp only [Bool.and_eq_true] at hok; exact hok.2)) hr
    have he : readsE e = true → Ext S S' := fun hc => by rw [k5 hc]; exact Ext.refl _
    have he' : ∀ b : Bool, b = k.1 ∨ b = k.2 → b = true → Ext S S' := fun b hb hbt => by
      rcases hk with hk | hk
      · exact he hk
      · rw [hk] at hb; rcases hb with rfl | rfl <;> cases hbt
    exact gen (by simp) (by simp) (by simpa only [xop] using k1) k2 k3 k4 he (fun hc => (he' k.1 (.inl rfl) hc).toL) (fun hc => he' k.2 (.inr rfl) hc) hK
  · rename_i sz a x
    simp only [opdsOk, Bool.and_eq_true] at hok
    obtain ⟨hk, σ', hr, hK⟩ := hv
    obtain ⟨v', S', k1, k2, k3, k4⟩ := vop_sound hs (o := .store sz a x) h.ev (by simp [opdsOk, hok]) (v := .tup []) (σ' := σ') (by simp only [vop, hr, Option.map_some])
    exact gen (r := (.tup [], σ')) (by simp) (by simp) k1 k2 k3 k4 (fun hc => by cases hc) (ff hk).1 (ff hk).2 hK
  · rename_i esz d s
    obtain ⟨hk, r, hr, hK⟩ := hv
    obtain ⟨v', S', k1, k2, k3, k4⟩ := vop_sound hs (o := .copy esz d s) h.ev hok (v := r.1) (σ' := r.2) (by simp only [vop]; exact hr)
    exact gen (by simp) (by simp) k1 k2 k3 k4 (fun hc => by cases hc) (ff hk).1 (ff hk).2 hK
  · rename_i esz z x
    obtain ⟨hk, r, hr, hK⟩ := hv
    obtain ⟨v', S', k1, k2, k3, k4⟩ := vop_sound hs (o := .clr esz z x) h.ev hok (v := r.1) (σ' := r.2) (by simp only [vop]; exact hr)
    exact gen (by simp) (by simp) k1 k2 k3 k4 (fun hc => by cases hc) (ff hk).1 (ff hk).2 hK
  · rename_i neg x y
    have hok' := hok
    simp only [opdsOk, Bool.and_eq_true] at hok
    rcases hv with ⟨v, hr, hK⟩ | ⟨e1, e2, hK1, hK2⟩
    · obtain ⟨v', S', k1, k2, k3, k4⟩ := vop_sound hs (o := .eqs neg x y) h.ev hok' (v := v) (σ' := σ) (by simp only [vop, hr, Option.map_some])
      have he : Ext S S' := float_ext (cl := fun _ _ _ => none) (o := .eqs neg x y) rfl k1
      exact gen (r := (v, σ)) (by simp) (by simp) k1 k2 k3 k4 (fun _ => he) (fun _ => he.toL) (fun _ => he) hK
    · have hx := h.ev x hok.1
      have hy := h.ev y hok.2
      rw [e1] at hx
      rw [e2] at hy
      generalize ex' : fev fe' x = xv' at hx
      generalize ey' : fev fe' y = yv' at hy
      cases hy
      cases hx with
      | lstNil => exact gen (r := (.v (.bool (notIf neg true)), σ)) (c := true) (S' := S) (v' := .bool (notIf neg true)) (by simp) (by simp) (by simp only [xop, ex', ey', Option.isNone_none]) hs (.refl _ _) (.v _ rfl) (fun _ => Ext.refl _) (fun _ => ExtL.refl _) (fun _ => Ext.refl _) hK1
      | lst => exact gen (r := (.v (.bool (notIf neg false)), σ)) (c := true) (S' := S) (v' := .bool (notIf neg false)) (by simp) (by simp) (by simp only [xop, ex', ey', Option.isNone_some]) hs (.refl _ _) (.v _ rfl) (fun _ => Ext.refl _) (fun _ => ExtL.refl _) (fun _ => Ext.refl _) hK2
  · rename_i n1 n2 n3 n4 n5 n6 n7 n8 n9
    obtain ⟨r, hr, hK⟩ := hv
    obtain ⟨v', S', k1, k2, k3, k4⟩ := vop_sound hs h.ev hok (v := r.1) (σ' := r.2) hr
    have ha : anch o = false := by
      cases o <;> first | rfl | (exact (n1 _ _ rfl).elim) | (exact (n2 _ _ rfl).elim) | (exact (n3 _ _ _ _ _ rfl).elim) | (exact (n5 _ _ rfl).elim) | (exact (n6 _ _ _ rfl).elim) | (exact (n7 _ _ _ rfl).elim) | (exact (n8 _ _ _ rfl).elim)
    have he : Ext S S' := float_ext (cl := fun _ _ _ => none) ha (by rw [xstep_xop ha]; exact k1)
    exact gen (fun f a e => n1 f a e) (fun x a e => n2 x a e) k1 k2 k3 k4 (fun _ => he) (fun _ => he.toL) (fun _ => he) hK
end
end Go.Proofs.Ytmbbebfpjclghaa

set_option linter.unusedVariables false
set_option linter.unusedSectionVars false
set_option linter.unusedSimpArgs false
namespace Go.Proofs.Ytmbbebfpjclghaa
open Go Go.RowKit

section
variable {P : Program} [Prim P]

theorem oldOpd_sc {old : Tmp → Bool} {fe' : FEnv} {m : Nat} (ho : ∀ t, old t = true → Sc m (fe' t)) {x : Operand} (hok : okOpd x = true) (h : oldOpd old x = true) : Sc m (fev fe' x) := by
  cases x with
  | tmp t => exact ho t h
  | const v => exact Sc.flatV hok
  | func f => exact .func f _ _ (fun i h => by simp at h) (fun i h => by simp at h)
  | global g => cases hok
theorem part_sc {m : Nat} {agg : Bool} {l : List Value} {v : Value} (h : part1 agg l = some v) (hl : ScL m l) : Sc m v := by
  unfold part1 at h
  split at h
  · obtain rfl := Option.some.inj h
    exact .agg _ fun i hi => hl _ (by simp)
  · unfold one at h
    split at h
    · obtain rfl := Option.some.inj h; exact hl _ (by simp)
    · cases h
theorem keepsOld_sc {o : XOp} {old : Tmp → Bool} {cl : Bool} {fe' : FEnv} {S0 S S' : St} {v' : Value} (hk : keepsOld o old cl = true) (ho : ∀ t, old t = true → Sc S0.next (fe' t)) (hcl : cl = true → Ext S0 S) (hw : WS S0) (hok : opdsOk o = true) (hx : xop o (fev fe') S = some (v', S')) : Sc S0.next v' := by
  cases o <;> simp only [keepsOld, Bool.and_eq_true] at hk <;> first | (cases hk; done) | skip
  all_goals simp only [opdsOk, Bool.and_eq_true] at hok
  case mv x =>
    obtain ⟨rfl, _⟩ := Prod.mk.inj (Option.some.inj hx)
    exact oldOpd_sc ho hok hk
  case load agg sz x =>
    have hs := oldOpd_sc ho hok hk.1
    simp only [xop] at hx
    split at hx
    case h_2 => cases hx
    rename_i id o e
    rw [e] at hs
    simp only [Option.bind_eq_some_iff, Option.map_eq_some_iff, Prod.mk.injEq] at hx
    obtain ⟨c, hc, u, hu, rfl, _⟩ := hx
    cases hs with
    | ptr _ _ hid =>
      refine part_sc hu (hw.rd (id := id) (o := o) (n := sz) ?_)
      rw [← hc]
      unfold St.rd
      rw [(hcl hk.2).get id hid]
  case sl esz x lo hi =>
    have hs := oldOpd_sc ho hok.1.1 hk
    simp only [xop] at hx
    split at hx
    case h_2 => cases hx
    rename_i a n c e
    rw [e] at hs
    split at hx
    case h_2 => cases hx
    split at hx
    case isFalse => cases hx
    unfold slRes at hx
    split at hx
    · split at hx
      · obtain ⟨rfl, _⟩ := Prod.mk.inj (Option.some.inj hx); exact .sliceNil _ _
      · cases hx
    · split at hx
      · obtain ⟨rfl, _⟩ := Prod.mk.inj (Option.some.inj hx)
        cases hs with
        | slice _ _ _ _ hid => exact .slice _ _ _ _ hid
      · cases hx
    · cases hx
  case fa off x =>
    have hs := oldOpd_sc ho hok hk
    simp only [xop] at hx
    split at hx
    case h_2 => cases hx
    rename_i id o e
    rw [e] at hs
    obtain ⟨rfl, _⟩ := Prod.mk.inj (Option.some.inj hx)
    cases hs with
    | ptr _ _ hid => exact .ptr _ _ hid
  case fld agg sz off x =>
    have hs := oldOpd_sc ho hok hk
    simp only [xop] at hx
    split at hx
    case h_2 => cases hx
    rename_i a e
    rw [e] at hs
    split at hx
    case isFalse => cases hx
    simp only [Option.map_eq_some_iff, Prod.mk.injEq] at hx
    obtain ⟨u, hu, rfl, _⟩ := hx
    cases hs with
    | agg _ ha =>
      refine part_sc hu fun w hw => ?_
      have := List.mem_of_mem_drop (List.mem_of_mem_take hw)
      obtain ⟨i, hi, rfl⟩ := List.getElem_of_mem this
      simpa using ha i (by simpa using hi)
  case ia esz x i =>
    have hs := oldOpd_sc ho hok.1 hk
    simp only [xop] at hx
    split at hx
    case h_2 => cases hx
    rename_i id o n c k j e e2
    rw [e] at hs
    split at hx
    case isFalse => cases hx
    obtain ⟨rfl, _⟩ := Prod.mk.inj (Option.some.inj hx)
    cases hs with
    | slice _ _ _ _ hid => exact .ptr _ _ hid
  case iaArr n esz x i =>
    have hs := oldOpd_sc ho hok.1 hk
    simp only [xop] at hx
    split at hx
    case h_2 => cases hx
    rename_i id o k j e e2
    rw [e] at hs
    split at hx
    case isFalse => cases hx
    obtain ⟨rfl, _⟩ := Prod.mk.inj (Option.some.inj hx)
    cases hs with
    | ptr _ _ hid => exact .ptr _ _ hid
  case idx n agg esz x i =>
    have hs := oldOpd_sc ho hok.1 hk
    simp only [xop] at hx
    split at hx
    case h_2 => cases hx
    rename_i a k j e e2
    rw [e] at hs
    split at hx
    case isFalse => cases hx
    simp only [Option.map_eq_some_iff, Prod.mk.injEq] at hx
    obtain ⟨u, hu, rfl, _⟩ := hx
    cases hs with
    | agg _ ha =>
      refine part_sc hu fun w hw => ?_
      have := List.mem_of_mem_drop (List.mem_of_mem_take hw)
      obtain ⟨i, hi, rfl⟩ := List.getElem_of_mem this
      simpa using ha i (by simpa using hi)
  case ext x i =>
    have hs := oldOpd_sc ho hok hk
    simp only [xop] at hx
    split at hx
    case h_2 => cases hx
    rename_i a e
    rw [e] at hs
    simp only [Option.map_eq_some_iff, Prod.mk.injEq] at hx
    obtain ⟨u, hu, rfl, _⟩ := hx
    cases hs with
    | tuple _ ha =>
      obtain ⟨hi, rfl⟩ := Array.getElem?_eq_some_iff.1 hu
      exact ha i hi
theorem XS_val {o : XOp} {ρ : Operand → Value} {S : St} {K : Value → St → Prop} (n1 : ∀ f a, o ≠ .call f a) (n2 : ∀ x a, o ≠ .callv x a) (h : XS P o ρ S K) : XS P o ρ S (fun v S' => K v S' ∧ xop o ρ S = some (v, S')) := by
  rw [XS_gen n1 n2] at h ⊢
  obtain ⟨r, h1, h2⟩ := h
  exact ⟨r, h1, h2, h1⟩

theorem VR.put {σ σ' : VSt} {S S' : St} {fe : FV} {fe' : FEnv} (h : VR σ S fe fe') (hs : VSim σ' S') (k : VStep σ S σ' S') (hw : WS S') (hn : S.next ≤ S'.next) (d : Option Tmp) {v : VV} {v' : Value} (hv : VRel σ'.G S' v v') (hsc : Sc S'.next v') : VR σ' S' (vupdO fe d v) (updO fe' d v') := by
  cases d with
  | none => exact ⟨hs, fun t => (h.env t).step k, hw, fun t => (h.se t).mono hn⟩
  | some d =>
    refine ⟨hs, fun t => ?_, hw, fun t => ?_⟩
    · simp only [vupdO, vupd, updO, upd]
      split
      · exact hv
      · exact (h.env t).step k
    · simp only [updO, upd]
      split
      · exact hsc
      · exact (h.se t).mono hn
theorem VR.put0 {σ : VSt} {S : St} {fe : FV} {fe' : FEnv} (h : VR σ S fe fe') (d : Option Tmp) : VR σ S (vupdO fe d vundef) (updO fe' d undef) :=
  h.put h.sim (.refl _ _) h.ws (Nat.le_refl _) d (tup_nil h.sim) (Sc.undef _)

theorem XO_mono {l : List XOper} {fe : FEnv} {S : St} {Q Q' : FEnv → St → Prop} (h : ∀ fe S, Q fe S → Q' fe S) (hx : XO P l fe S Q) : XO P l fe S Q' := XW.mono (c := .region l) (Q := fun _ => Q) (Q' := fun _ => Q') (fun _ => h) hx
theorem XM_mono {S0 : St} : ∀ {l : List (XOper × (Bool × Bool) × Bool)} {fe : FEnv} {S : St} {Q Q' : FEnv → St → Prop}, (∀ fe S, Q fe S → Q' fe S) → XM P S0 l fe S Q → XM P S0 l fe S Q' := by
  intro l
  induction l with
  | nil => intro fe S Q Q' h hx; exact h _ _ hx
  | cons o l ih =>
    obtain ⟨o, k, e⟩ := o
    intro fe S Q Q' h hx
    simp only [XM] at hx ⊢
    split at hx
    · rename_i hw
      rw [if_pos hw]
      exact ⟨hx.1, XS_mono (fun v S' hh => ⟨hh.1, ih h hh.2⟩) hx.2⟩
    · rename_i hw
      rw [if_neg hw]
      exact ih h hx
theorem VO_sound {n : Nat} : ∀ (l : List XOper), wfO n l = true → ∀ (fe : FV) (σ : VSt) (Q : FV → VSt → Prop) (S : St) (fe' : FEnv), VR σ S fe fe' → VO P l fe σ Q → XO P l fe' S (fun fe'' S' => ∃ fe2 σ', VR σ' S' fe2 fe'' ∧ VStep σ S σ' S' ∧ Q fe2 σ') := by
  intro l
  induction l with
  | nil => intro _ fe σ Q S fe' h hv; exact ⟨fe, σ, h, .refl _ _, hv⟩
  | cons o l ih =>
    intro hwf fe σ Q S fe' h hv
    obtain ⟨h1, _, h3⟩ := wfO_cons hwf
    simp only [VO, XO] at *
    rw [h.want] at hv
    split at hv
    · rename_i hw
      rw [if_pos hw]
      refine XS_mono (fun v' S1 hh => ?_) (VS_sound h h1 hv)
      obtain ⟨v, σ1, c, k1, k2, k3, k4, k5, k6, _, _, _, k7⟩ := hh
      refine XO_mono (fun fe2 S2 hh => ?_) (ih h3 _ _ _ _ _ (h.put k1 k2 k4 k5 o.dst k3 k6) k7)
      obtain ⟨fe3, σ3, a1, a2, a3⟩ := hh
      exact ⟨fe3, σ3, a1, k2.trans a2, a3⟩
    · rename_i hw
      rw [if_neg hw]
      exact ih h3 _ _ _ _ _ (h.put0 o.dst) hv
theorem VM_sound {S0 : St} (hw0 : WS S0) {n : Nat} : ∀ (l : List (XOper × (Bool × Bool) × Bool)), wfO n (l.map (·.1)) = true → ∀ (old : Tmp → Bool) (cl : Bool) (fe : FV) (σ : VSt) (Q : FV → VSt → Prop) (S : St) (fe' : FEnv), VR σ S fe fe' → (∀ t, old t = true → Sc S0.next (fe' t)) → (cl = true → Ext S0 S) →
    VM P S0.next l old cl fe σ Q → XM P S0 l fe' S (fun fe'' S' => ∃ fe2 σ', VR σ' S' fe2 fe'' ∧ VStep σ S σ' S' ∧ Q fe2 σ') := by
  intro l
  induction l with
  | nil => intro _ old cl fe σ Q S fe' h _ _ hv; exact ⟨fe, σ, h, .refl _ _, hv⟩
  | cons o l ih =>
    obtain ⟨o, k, early⟩ := o
    intro hwf old cl fe σ Q S fe' h hold hcl hv
    obtain ⟨h1, _, h3⟩ := wfO_cons hwf
    simp only [VM, XM] at *
    rw [h.want] at hv
    split at hv
    · rename_i hw
      rw [if_pos hw]
      obtain ⟨he, hv⟩ := hv
      refine ⟨fun hea id hid => ?_, ?_⟩
      · have hE := he hea
        have key : ∀ (x : Operand) (u : Value), okOpd x = true → fev fe' x = u → vlowV S0.next (oldOpd old x) (vfev fe x) → (∀ a, (u = .pointer (some a) ∨ ∃ n c, u = .slice (some a) n c) → a.block = id → id < S0.next) := by
          intro x u hx hu hl a ha hb
          have hr := h.ev x hx
          rw [hu] at hr
          have hs : oldOpd old x = true → Sc S0.next u := fun ho => by rw [← hu]; exact oldOpd_sc hold hx ho
          have fin : Sc S0.next u → id < S0.next := fun hsc => by
            rcases ha with rfl | ⟨n, c, rfl⟩
            · cases hsc with | ptr _ _ hid => rw [← hb]; exact hid
            · cases hsc with | slice _ _ _ _ hid => rw [← hb]; exact hid
          generalize vfev fe x = y at hr hl
          cases hr with
          | ptr id' o' =>
            rcases ha with ha | ⟨_, _, ha⟩
            · obtain rfl : a = _ := by injection ha with ha; injection ha with ha; exact ha.symm
              rw [← hb]; exact hl
            · cases ha
          | slice id' o' n' c' =>
            rcases ha with ha | ⟨_, _, ha⟩
            · cases ha
            · injection ha with ha _ _
              injection ha with ha
              subst ha
              rw [← hb]; exact hl
          | v _ hf =>
            rcases ha with rfl | ⟨_, _, rfl⟩
            · simp [flat1] at hf
            · simp [flat1] at hf
          | _ => exact fin (hs hl)
        cases ho : o.op <;> rw [ho] at hid hE h1 <;> simp only [readsAt] at hid <;> first | (cases hid; done) | skip
        case load agg sz x =>
          split at hid
          · rename_i a e
            exact key x _ h1 e hE a (.inl rfl) (Option.some.inj hid)
          · cases hid
        case sl esz x lo hi =>
          simp only [opdsOk, Bool.and_eq_true] at h1
          split at hid
          · rename_i a nn cc e
            exact key x _ h1.1.1 e hE a (.inr ⟨_, _, rfl⟩) (Option.some.inj hid)
          · cases hid
      · have hx := VS_sound h h1 hv
        have hx2 : XS P o.op (fev fe') S (fun v' S' => VOut σ S k (fun v σ' c => VM P S0.next l (oldO old o.dst (keepsOld o.op old cl)) (cl && c) (vupdO fe o.dst v) σ' Q) v' S' ∧ (keepsOld o.op old cl = true → Sc S0.next v')) := by
          by_cases hk : keepsOld o.op old cl = true
          · have n1 : ∀ f a, o.op ≠ .call f a := fun f a e => by rw [e] at hk; cases hk
            have n2 : ∀ x a, o.op ≠ .callv x a := fun x a e => by rw [e] at hk; cases hk
            exact XS_mono (fun v' S' hh => ⟨hh.1, fun _ => keepsOld_sc hk hold hcl hw0 h1 hh.2⟩) (XS_val n1 n2 hx)
          · exact XS_mono (fun v' S' hh => ⟨hh, fun h => absurd h hk⟩) hx
        refine XS_mono (fun v' S1 hh => ?_) hx2
        obtain ⟨⟨v, σ1, c, k1, k2, k3, k4, k5, k6, k7, k8, k9, k10⟩, hsc⟩ := hh
        refine ⟨⟨k8, k9⟩, XM_mono (fun fe2 S2 hh => ?_) (ih h3 _ _ _ _ _ _ _ (h.put k1 k2 k4 k5 o.dst k3 k6) (fun t ht => ?_) (fun hc => ?_) k10)⟩
        · obtain ⟨fe3, σ3, a1, a2, a3⟩ := hh
          exact ⟨fe3, σ3, a1, k2.trans a2, a3⟩
        · cases hd : o.dst with
          | none => rw [hd] at ht; exact hold t ht
          | some d =>
            rw [hd] at ht
            simp only [oldO] at ht
            simp only [updO, upd]
            split at ht
            · rename_i e; rw [if_pos e]; exact hsc ht
            · rename_i e; rw [if_neg e]; exact hold t ht
        · simp only [Bool.and_eq_true] at hc
          exact (hcl hc.1).trans (k7 hc.2)
    · rename_i hw
      rw [if_neg hw]
      refine ih h3 _ _ _ _ _ _ _ (h.put0 o.dst) (fun t ht => ?_) hcl hv
      cases hd : o.dst with
      | none => rw [hd] at ht; exact hold t ht
      | some d =>
        rw [hd] at ht
        simp only [oldO] at ht
        simp only [updO, upd]
        split at ht
        · rename_i e; rw [if_pos e]; exact Sc.undef _
        · rename_i e; rw [if_neg e]; exact hold t ht

theorem VW_sound {n : Nat} : ∀ (c : XCode), wfC n c = true → ∀ (fe : FV) (σ : VSt) (Q : Ex → FV → VSt → Prop) (S : St) (fe' : FEnv), VR σ S fe fe' → VW P c fe σ Q → XW P c fe' S (fun e fe'' S' => ∃ fe2 σ', VR σ' S' fe2 fe'' ∧ VStep σ S σ' S' ∧ Q e fe2 σ') := by
  intro c
  induction c with
  | skip => intro _ fe σ Q S fe' h hv; exact ⟨fe, σ, h, .refl _ _, hv⟩
  | exit id => intro _ fe σ Q S fe' h hv; exact ⟨fe, σ, h, .refl _ _, hv⟩
  | ret => intro _ fe σ Q S fe' h hv; exact ⟨fe, σ, h, .refl _ _, hv⟩
  | region ops => intro hwf fe σ Q S fe' h hv; exact VO_sound ops hwf fe σ _ S fe' h hv
  | draw d =>
    intro hwf fe σ Q S fe' h hv
    simp only [wfC, Bool.and_eq_true] at hwf
    have hv : VM P σ.next (d.ops.zip d.flags) (fun _ => true) true fe σ (Q .normal) := hv
    rw [h.sim.next] at hv
    have hl : (flagsOf d.ops d.stages).length = d.ops.length := by simp [flagsOf]
    refine VM_sound h.ws (n := n) _ ?_ _ _ _ _ _ _ _ h (fun t _ => h.se t) (fun _ => Ext.refl _) hv
    have hf : d.flags = flagsOf d.ops d.stages := by simpa using hwf.2
    rw [hf, List.map_fst_zip (by omega)]
    exact hwf.1
  | seq a b iha ihb =>
    intro hwf fe σ Q S fe' h hv
    simp only [wfC, Bool.and_eq_true] at hwf
    rw [XW_seq]
    refine XW.mono (fun e fe2 S2 hh => ?_) (iha hwf.1 _ _ _ _ _ h hv)
    obtain ⟨fe3, σ3, k1, k2, k3⟩ := hh
    cases e with
    | normal =>
      refine XW.mono (fun e fe4 S4 hh => ?_) (ihb hwf.2 _ _ _ _ _ k1 k3)
      obtain ⟨fe5, σ5, a1, a2, a3⟩ := hh
      exact ⟨fe5, σ5, a1, k2.trans a2, a3⟩
    | exit id => exact ⟨fe3, σ3, k1, k2, k3⟩
    | ret => exact ⟨fe3, σ3, k1, k2, k3⟩
  | cond c x y ihx ihy =>
    intro hwf fe σ Q S fe' h hv
    obtain ⟨b, e, h1, h2⟩ := hv
    have hok : okOpd c = true ∨ okOpd c = false := by cases okOpd c <;> simp
    have hc : fev fe' c = .bool b := by
      cases c with
      | tmp t =>
        have := h.env t
        simp only [vfev] at e
        rw [e] at this
        simp only [fev]
        generalize fe' t = y at this
        cases this; rfl
      | const v =>
        simp only [vfev] at e
        simp only [fev]
        unfold toV at e
        split at e
        · cases e
        · cases e
        · injection e
      | func f => cases e
      | global g => cases e
    simp only [wfC, Bool.and_eq_true] at hwf
    exact ⟨b, hc, fun hb => ihx hwf.1 _ _ _ _ _ h (h1 hb), fun hb => ihy hwf.2 _ _ _ _ _ h (h2 hb)⟩
  | block id c ih =>
    intro hwf fe σ Q S fe' h hv
    rw [XW_block]
    refine XW.mono (fun e fe2 S2 hh => ?_) (ih hwf _ _ _ _ _ h hv)
    obtain ⟨fe3, σ3, k1, k2, k3⟩ := hh
    cases e with
    | normal => exact ⟨fe3, σ3, k1, k2, k3⟩
    | ret => exact ⟨fe3, σ3, k1, k2, k3⟩
    | exit i =>
      simp only [bindB] at k3 ⊢
      split at k3
      · rename_i e; rw [if_pos e]; exact ⟨fe3, σ3, k1, k2, k3⟩
      · rename_i e; rw [if_neg e]; exact ⟨fe3, σ3, k1, k2, k3⟩
  | loop c ih =>
    intro hwf fe σ Q S fe' h hv
    obtain ⟨I, m, hI, hr⟩ := hv
    have := XW_loop (P := P) (c := c) (fe := fe') (S := S) (Q := fun e fe'' S' => ∃ fe2 σ', VR σ' S' fe2 fe'' ∧ VStep σ S σ' S' ∧ Q e fe2 σ') (fun k fe'' S' => ∃ fe2 σ', VR σ' S' fe2 fe'' ∧ VStep σ S σ' S' ∧ I k fe2 σ') m ⟨fe, σ, h, .refl _ _, hI⟩ ?_
    · exact this
    · rintro k fe2 S2 ⟨fe3, σ3, k1, k2, k3⟩
      refine XW.mono (fun e fe4 S4 hh => ?_) (ih hwf _ _ _ _ _ k1 (hr _ _ _ k3))
      obtain ⟨fe5, σ5, a1, a2, a3⟩ := hh
      cases e with
      | normal =>
        obtain ⟨k', hk, hI'⟩ := a3
        exact ⟨k', hk, fe5, σ5, a1, k2.trans a2, hI'⟩
      | exit i => exact ⟨fe5, σ5, a1, k2.trans a2, a3⟩
      | ret => exact ⟨fe5, σ5, a1, k2.trans a2, a3⟩
  | range x L =>
    intro hwf fe σ Q S fe' h hv
    simp only [wfC, Bool.and_eq_true] at hwf
    obtain ⟨g, a, b, e, hv⟩ := hv
    have hx := h.ev x hwf.1
    rw [e] at hx
    have hscx := h.sc x hwf.1
    generalize ex : fev fe' x = xv at hx hscx
    cases hx with
    | fn _ _ _ a' b' ha hb h1 h2 =>
    refine ⟨g, a', b', ex, fun env he hn => ?_⟩
    have hse : SE S.next env := fun t => by rw [he]; exact h.se t
    obtain ⟨q1, q2⟩ := h.sim.allocB (.loop fe L none) (.obj (.loop env L none)) (by simp) fun G' hG => ⟨rfl, env, rfl, fun t => by rw [he]; exact (h.env t).mono hG⟩
    have hargs : VRelL (σ.alloc (.loop fe L none)).G (S.alloc (.loop env L none)) (a ++ [.yield σ.next] ++ b) (a' ++ #[Value.func (.yield S.next) #[] #[]] ++ b').toList := by
      have hm := q2.rel
      simp only [Array.toList_append]
      refine VRelL.append (VRelL.append (VRelL.mono hm ⟨by simpa using ha, fun i k1 k2 => by simpa using h1 i k1 (by simpa using k2)⟩) ?_) (VRelL.mono hm ⟨by simpa using hb, fun i k1 k2 => by simpa using h2 i k1 (by simpa using k2)⟩)
      refine .cons ?_ .nil
      rw [h.sim.next]
      exact .yield _
    refine XC.mono (h := (hv _ _ q1 hargs).ws) ?_
    rintro v' S2 ⟨⟨v, σ2, k1, k2, k3, fe2, L2, pe, k4, k5⟩, w1, w2, w3⟩
    have hb2 := k1.blk σ.next
    rw [k4] at hb2
    obtain ⟨_, env2, hg2, _⟩ := hb2
    rw [h.sim.next] at hg2
    refine ⟨env2, L2, pe, hg2, fe, (σ.join σ2).put σ.next .dead, ?_⟩
    have hj : VSim (σ.join σ2) S2 := k1.join
    have hst : VStep σ S (σ.join σ2) S2 := q2.trans (VStep.join (σ := σ.alloc (.loop fe L none)) k2)
    have hlt : S.next < S2.next := by simp at w2; omega
    have e0 : (σ.join σ2).heap σ.next = .loop fe2 L2 pe := k4
    obtain ⟨r1, r2⟩ := hj.turn (σ' := (σ.join σ2).put σ.next .dead) (S' := S2.put S.next .gone) (id := σ.next) (lo := σ.next) (by rw [e0]; simp) (by rw [e0]; simp) (Nat.le_refl _) (fun j hj => by simp only [VSt.put]; rw [if_neg hj]) rfl rfl rfl (by simp [VSt.put]) (by simp)
      (fun j hj => by rw [St.get_put, if_neg (by rw [← h.sim.next]; exact hj)]; exact .inl rfl) (fun G' hG => by simp [VSt.put, BRel])
    have hall := hst.trans r2
    refine ⟨⟨r1, fun t => (h.env t).step hall, w1.putB hlt (b := .gone) trivial, fun t => (h.se t).mono (by simp; simp at w2; omega)⟩, hall, k5⟩

def vfe0 (args : List VV) : FV := fun t => args.getD t vundef
def vr1 (fe : FV) (σ : VSt) : XRes → Option VV
  | .tmp t => some (fe t)
  | .cell a agg sz => vld σ agg sz (fe a)
def vpack : List VV → VV
  | [v] => v
  | vs => .tup vs
def vrs (l : List XRes) (fe : FV) (σ : VSt) : Option VV := (l.mapM (vr1 fe σ)).map vpack
/-- the end of a function. -/
def vatEnd (l : List XRes) (Q : VV → VSt → Prop) : Ex → FV → VSt → Prop := fun e fe σ => (∀ id, e ≠ .exit id) ∧ ∃ v, vrs l fe σ = some v ∧ Q v σ
theorem vr1_sound {σ : VSt} {S : St} {fe : FV} {fe' : FEnv} (h : VR σ S fe fe') {x : XRes} {v : VV} (hv : vr1 fe σ x = some v) : ∃ v', xr1 fe' S x = some v' ∧ VRel σ.G S v v' := by
  cases x with
  | tmp t => obtain rfl := Option.some.inj hv; exact ⟨_, rfl, h.env t⟩
  | cell a agg sz =>
    obtain ⟨id, o, c, v', e, h1, h2, h3⟩ := vld_sound h.sim (h.env a) hv
    refine ⟨v', ?_, h3⟩
    rw [xr1_cell, e, ldv_ptr, ← rd_eq, h1]
    exact h2
theorem vrs_sound {σ : VSt} {S : St} {fe : FV} {fe' : FEnv} (h : VR σ S fe fe') {l : List XRes} {v : VV} (hv : vrs l fe σ = some v) : ∃ v', xrs l fe' S = some v' ∧ VRel σ.G S v v' := by
  unfold vrs at hv
  simp only [Option.map_eq_some_iff] at hv
  obtain ⟨vs, h1, rfl⟩ := hv
  have key : ∀ (l : List XRes) (vs : List VV), l.mapM (vr1 fe σ) = some vs → ∃ vs', l.mapM (xr1 fe' S) = some vs' ∧ VRelL σ.G S vs vs' := by
    intro l
    induction l with
    | nil => intro vs h1; simp at h1; subst h1; exact ⟨[], by simp, .nil⟩
    | cons x l ih =>
      intro vs h1
      simp only [List.mapM_cons, Option.bind_eq_bind, Option.bind_eq_some_iff, Option.pure_def, Option.some.injEq] at h1
      obtain ⟨u, hu, us, hus, rfl⟩ := h1
      obtain ⟨u', q1, q2⟩ := vr1_sound h hu
      obtain ⟨us', q3, q4⟩ := ih us hus
      exact ⟨u' :: us', by simp [List.mapM_cons, q1, q3], .cons q2 q4⟩
  obtain ⟨vs', q1, q2⟩ := key l vs h1
  have hp : xrs l fe' S = some (pack vs') := by
    unfold xrs
    rw [q1]
    rfl
  refine ⟨pack vs', hp, ?_⟩
  match vs, vs', q2 with
  | [], [], _ => exact .tup _ _ rfl (fun i h => by simp at h)
  | [x], [y], q => exact q.2 0 (by simp) (by simp)
  | a :: b :: r, [], q => exact absurd q.1 (by simp)
  | a :: b :: r, [_], q => exact absurd q.1 (by simp)
  | a :: b :: r, x :: y :: s, q => exact .tup _ _ (by simpa using q.1) (fun i h1 h2 => by simpa using q.2 i h1 (by simpa using h2))
  | [], _ :: _, q => exact absurd q.1 (by simp)
  | [_], [], q => exact absurd q.1 (by simp)
  | [_], _ :: _ :: _, q => exact absurd q.1 (by simp)

/-- a function, by its body. -/
theorem VC_body {f : FuncId} {xf : XFunc} (hf : XF P f = some xf) {args : List VV} {σ : VSt} {Q : VV → VSt → Prop} (h : VW P xf.body (vfe0 args) σ.fresh (vatEnd xf.results Q)) : VC P f args σ Q := by
  intro S args' hs hargs
  refine XC.given fun hw hsc => ?_
  have hr : VR σ.fresh S (vfe0 args) (fe0 args'.toList) := by
    refine ⟨hs.fresh, fun t => ?_, hw, fun t => ?_⟩
    · show VRel σ.G S (vfe0 args t) (fe0 args'.toList t)
      simp only [vfe0, fe0, List.getD_eq_getElem?_getD]
      cases e : args[t]? with
      | none =>
        have : args'.toList[t]? = none := by
          rw [List.getElem?_eq_none_iff] at e ⊢
          rw [← hargs.1]; exact e
        rw [this]
        exact tup_nil hs
      | some x =>
        obtain ⟨x', k1, k2⟩ := hargs.at e
        rw [k1]
        exact k2
    · simp only [fe0, List.getD_eq_getElem?_getD]
      cases e : args'.toList[t]? with
      | none => exact Sc.undef _
      | some x => exact hsc x (List.mem_of_getElem? e)
  have := VW_sound xf.body (XF_wf hf).1 _ _ _ _ _ hr h
  refine XC_intro hf (XW.mono (fun e fe2 S2 hh => ?_) this)
  obtain ⟨fe3, σ3, k1, k2, k3, v, k4, k5⟩ := hh
  obtain ⟨v', q1, q2⟩ := vrs_sound k1 k4
  exact ⟨k3, v', q1, v, σ3, k1.sim, k2, q2, k5⟩
end
end Go.Proofs.Ytmbbebfpjclghaa

set_option linter.unusedVariables false
set_option linter.unusedSectionVars false
set_option linter.unusedSimpArgs false
namespace Go.Proofs.Ytmbbebfpjclghaa
open Go Go.RowKit

abbrev vi (n : Int) : VV := .v (.int .i64 n)
abbrev vb (b : Bool) : VV := .v (.bool b)

def TestV (v : VV) [H : Hold (Prop × Prop)] : Prop := ∃ b, v = .v (.bool b) ∧ (b = true → H.it.1) ∧ (b = false → H.it.2)
theorem TestV_true (T F : Prop) : @TestV (.v (.bool true)) ⟨(T, F)⟩ = T := by simp [TestV]
theorem TestV_false (T F : Prop) : @TestV (.v (.bool false)) ⟨(T, F)⟩ = F := by simp [TestV]
theorem TestV_bool {b : Bool} {T F : Prop} (h1 : b = true → T) (h2 : b = false → F) : @TestV (.v (.bool b)) ⟨(T, F)⟩ := ⟨b, rfl, h1, h2⟩
theorem TestV_dec {p : Prop} [Decidable p] {T F : Prop} (h1 : p → T) (h2 : ¬ p → F) : @TestV (.v (.bool (decide p))) ⟨(T, F)⟩ := ⟨_, rfl, fun h => h1 (by simpa using h), fun h => h2 (by simpa using h)⟩
def PickV (v : VV) (want : Bool) [H : Hold (Prop × Prop)] : Prop := if vwantV v want = true then H.it.1 else H.it.2
theorem PickV_tt (T F : Prop) : @PickV (.v (.bool true)) true ⟨(T, F)⟩ = T := by simp [PickV, vwantV]
theorem PickV_ft (T F : Prop) : @PickV (.v (.bool false)) true ⟨(T, F)⟩ = F := by simp [PickV, vwantV]
theorem PickV_tf (T F : Prop) : @PickV (.v (.bool true)) false ⟨(T, F)⟩ = F := by simp [PickV, vwantV]
theorem PickV_ff (T F : Prop) : @PickV (.v (.bool false)) false ⟨(T, F)⟩ = T := by simp [PickV, vwantV]
theorem PickV_undef (w : Bool) (T F : Prop) : @PickV (.tup []) w ⟨(T, F)⟩ = F := by simp [PickV, vwantV]
theorem PickV_t {b : Bool} {T F : Prop} (h1 : b = true → T) (h2 : b = false → F) : @PickV (.v (.bool b)) true ⟨(T, F)⟩ := by
  cases b
  · rw [PickV_ft]; exact h2 rfl
  · rw [PickV_tt]; exact h1 rfl
theorem PickV_f {b : Bool} {T F : Prop} (h1 : b = false → T) (h2 : b = true → F) : @PickV (.v (.bool b)) false ⟨(T, F)⟩ := by
  cases b
  · rw [PickV_ff]; exact h1 rfl
  · rw [PickV_tf]; exact h2 rfl

def vbindN (K : FV → VSt → Prop) (Q : Ex → FV → VSt → Prop) : Ex → FV → VSt → Prop := fun e fe σ => match e with
  | .normal => K fe σ
  | e => Q e fe σ
section
variable (K : FV → VSt → Prop) (Q : Ex → FV → VSt → Prop) (fe : FV) (σ : VSt)
theorem vbindN_normal : vbindN K Q .normal fe σ = K fe σ := Eq.trans rfl rfl
theorem vbindN_exit (id : Nat) : vbindN K Q (.exit id) fe σ = Q (.exit id) fe σ := Eq.trans rfl rfl
theorem vbindN_ret : vbindN K Q .ret fe σ = Q .ret fe σ := Eq.trans rfl rfl
def vbindB (id : Nat) (Q : Ex → FV → VSt → Prop) : Ex → FV → VSt → Prop := fun e fe σ => match e with
  | .exit id' => if id' = id then Q .normal fe σ else Q (.exit id') fe σ
  | e => Q e fe σ
theorem vbindB_normal (id : Nat) : vbindB id Q .normal fe σ = Q .normal fe σ := Eq.trans rfl rfl
theorem vbindB_ret (id : Nat) : vbindB id Q .ret fe σ = Q .ret fe σ := Eq.trans rfl rfl
theorem vbindB_self (id : Nat) : vbindB id Q (.exit id) fe σ = Q .normal fe σ := by simp [vbindB]
theorem vbindB_ne (id id' : Nat) (h : id' ≠ id) : vbindB id Q (.exit id') fe σ = Q (.exit id') fe σ := by simp [vbindB, h]
def vbindL (I : Nat → FV → VSt → Prop) (k : Nat) (Q : Ex → FV → VSt → Prop) : Ex → FV → VSt → Prop := fun e fe σ => match e with
  | .normal => ∃ k', k' < k ∧ I k' fe σ
  | e => Q e fe σ
variable (I : Nat → FV → VSt → Prop) (k : Nat)
theorem vbindL_normal : vbindL I k Q .normal fe σ = ∃ k', k' < k ∧ I k' fe σ := Eq.trans rfl rfl
theorem vbindL_exit (id : Nat) : vbindL I k Q (.exit id) fe σ = Q (.exit id) fe σ := Eq.trans rfl rfl
theorem vbindL_ret : vbindL I k Q .ret fe σ = Q .ret fe σ := Eq.trans rfl rfl
def vatExit (id : Nat) (R : FV → VSt → Prop) (Q : Ex → FV → VSt → Prop) : Ex → FV → VSt → Prop := fun e fe σ => match e with
  | .exit i => if i = id then R fe σ else Q (.exit i) fe σ
  | e => Q e fe σ
variable (R : FV → VSt → Prop)
theorem vatExit_self (id : Nat) : vatExit id R Q (.exit id) fe σ = R fe σ := by simp [vatExit]
theorem vatExit_ne (id i : Nat) (h : i ≠ id) : vatExit id R Q (.exit i) fe σ = Q (.exit i) fe σ := by simp [vatExit, h]
theorem vatExit_ret (id : Nat) : vatExit id R Q .ret fe σ = Q .ret fe σ := Eq.trans rfl rfl
theorem vatEnd_normal (l : List XRes) (Q : VV → VSt → Prop) (fe : FV) (σ : VSt) : vatEnd l Q .normal fe σ = @Got _ (vrs l fe σ) ⟨fun v => Q v σ⟩ := by simp [vatEnd, Got]
theorem vatEnd_ret (l : List XRes) (Q : VV → VSt → Prop) (fe : FV) (σ : VSt) : vatEnd l Q .ret fe σ = @Got _ (vrs l fe σ) ⟨fun v => Q v σ⟩ := by simp [vatEnd, Got]
end

theorem vrs_one (x : XRes) (fe : FV) (σ : VSt) : vrs [x] fe σ = vr1 fe σ x := by
  simp only [vrs, List.mapM_cons, List.mapM_nil]
  cases vr1 fe σ x <;> rfl
theorem vrs_two (x y : XRes) (fe : FV) (σ : VSt) : vrs [x, y] fe σ = (vr1 fe σ x).bind fun a => (vr1 fe σ y).bind fun b => some (.tup [a, b]) := by
  simp only [vrs, List.mapM_cons, List.mapM_nil]
  cases vr1 fe σ x
  · rfl
  · cases vr1 fe σ y <;> rfl
theorem vrs_three (x y z : XRes) (fe : FV) (σ : VSt) : vrs [x, y, z] fe σ = (vr1 fe σ x).bind fun a => (vr1 fe σ y).bind fun b => (vr1 fe σ z).bind fun c => some (.tup [a, b, c]) := by
  simp only [vrs, List.mapM_cons, List.mapM_nil]
  cases vr1 fe σ x
  · rfl
  · cases vr1 fe σ y
    · rfl
    · cases vr1 fe σ z <;> rfl
theorem vrs_four (x y z u : XRes) (fe : FV) (σ : VSt) : vrs [x, y, z, u] fe σ = (vr1 fe σ x).bind fun a => (vr1 fe σ y).bind fun b => (vr1 fe σ z).bind fun c => (vr1 fe σ u).bind fun d => some (.tup [a, b, c, d]) := by
  simp only [vrs, List.mapM_cons, List.mapM_nil]
  cases vr1 fe σ x
  · rfl
  · cases vr1 fe σ y
    · rfl
    · cases vr1 fe σ z
      · rfl
      · cases vr1 fe σ u <;> rfl
theorem vrs_nil (fe : FV) (σ : VSt) : vrs [] fe σ = some (.tup []) := Eq.trans rfl rfl
theorem vr1_tmp (t : Tmp) (fe : FV) (σ : VSt) : vr1 fe σ (.tmp t) = some (fe t) := Eq.trans rfl rfl
theorem vr1_cell (a : Tmp) (agg : Bool) (sz : Nat) (fe : FV) (σ : VSt) : vr1 fe σ (.cell a agg sz) = vld σ agg sz (fe a) := Eq.trans rfl rfl

theorem vfev_tmp (fe : FV) (t : Tmp) : vfev fe (.tmp t) = fe t := Eq.trans rfl rfl
theorem vfev_int (fe : FV) (k : IntKind) (n : Int) : vfev fe (.const (.int k n)) = .v (.int k n) := Eq.trans rfl rfl
theorem vfev_bool (fe : FV) (b : Bool) : vfev fe (.const (.bool b)) = .v (.bool b) := Eq.trans rfl rfl
theorem vfev_str (fe : FV) (s : ByteArray) : vfev fe (.const (.string s)) = .v (.string s) := Eq.trans rfl rfl
theorem vfev_nilS (fe : FV) : vfev fe (.const (.slice none 0 0)) = .v (.slice none 0 0) := Eq.trans rfl rfl
theorem vfev_nilP (fe : FV) : vfev fe (.const (.pointer none)) = .v (.pointer none) := Eq.trans rfl rfl
theorem vfev_nilM (fe : FV) : vfev fe (.const (.map none)) = .v (.map none) := Eq.trans rfl rfl
theorem vfev_nilF (fe : FV) : vfev fe (.const .nilFunc) = .v .nilFunc := Eq.trans rfl rfl
theorem vfev_nilI (fe : FV) : vfev fe (.const .nilIface) = .v .nilIface := Eq.trans rfl rfl
theorem vfev_agg (fe : FV) (l : List Value) : vfev fe (.const (.agg l.toArray)) = .agg (l.map .v) := Eq.trans rfl rfl
theorem vfev_tup (fe : FV) (l : List Value) : vfev fe (.const (.tuple l.toArray)) = .tup (l.map .v) := Eq.trans rfl rfl
theorem vfev_func (fe : FV) (f : FuncId) : vfev fe (.func f) = .fn f [] [] := Eq.trans rfl rfl
theorem vupd_same (fe : FV) (d : Tmp) (v : VV) : vupd fe d v d = v := by simp [vupd]
theorem vupd_ne (fe : FV) (d t : Tmp) (v : VV) (h : t ≠ d) : vupd fe d v t = fe t := by simp [vupd, h]
theorem vfe0_zero (a : VV) (l : List VV) : vfe0 (a :: l) 0 = a := Eq.trans rfl rfl
theorem vfe0_succ (a : VV) (l : List VV) (n : Nat) : vfe0 (a :: l) (n + 1) = vfe0 l n := Eq.trans rfl rfl

/-- a call, and a loop: one's own lemmas are needed. -/
def VCall (P : Program) [Prim P] (f : FuncId) (args : List VV) [H : Hold ((Bool × Bool) × VSt × (VV → VSt → Bool → Prop))] : Prop := VCK P H.it.1 (.func f) args H.it.2.1 H.it.2.2
def VYield (P : Program) [Prim P] (id : Nat) (args : List VV) [H : Hold ((Bool × Bool) × VSt × (VV → VSt → Bool → Prop))] : Prop := VCK P H.it.1 (.yield id) args H.it.2.1 H.it.2.2
def VCallv (P : Program) [Prim P] (v : VV) (args : List VV) [H : Hold ((Bool × Bool) × VSt × (VV → VSt → Bool → Prop))] : Prop := ∃ g a b, fnOf v = some (g, a, b) ∧ VCK P H.it.1 g (a ++ args ++ b) H.it.2.1 H.it.2.2
def VLoop (P : Program) [Prim P] [H : Hold (XCode × FV × VSt × (Ex → FV → VSt → Prop))] : Prop := VW P (.loop H.it.1) H.it.2.1 H.it.2.2.1 H.it.2.2.2
def VRange (P : Program) [Prim P] (x : VV) (L : LoopC) [H : Hold (FV × VSt × (Ex → FV → VSt → Prop))] : Prop :=
  ∃ g a b, x = .fn g a b ∧ VG P (.func g) (a ++ [.yield H.it.2.1.next] ++ b) (H.it.2.1.alloc (.loop H.it.1 L none)) (fun _ σ2 => ∃ fe2 L2 pe, σ2.heap H.it.2.1.next = .loop fe2 L2 pe ∧ H.it.2.2 (pe.getD .normal) H.it.1 ((H.it.2.1.join σ2).put H.it.2.1.next .dead))

section
variable {P : Program} [Prim P] {fe : FV} {σ : VSt}

theorem VCallv_func (f : FuncId) (a b args : List VV) (k : Bool × Bool) (σ : VSt) (K : VV → VSt → Bool → Prop) : @VCallv P _ (.fn f a b) args ⟨(k, σ, K)⟩ = @VCall P _ f (a ++ args ++ b) ⟨(k, σ, K)⟩ := by
  simp only [VCallv, VCall, fnOf, Option.some.injEq, Prod.mk.injEq]
  exact propext ⟨fun ⟨_, _, _, ⟨rfl, rfl, rfl⟩, h⟩ => h, fun h => ⟨_, _, _, ⟨rfl, rfl, rfl⟩, h⟩⟩
theorem VCallv_yield (id : Nat) (args : List VV) (k : Bool × Bool) (σ : VSt) (K : VV → VSt → Bool → Prop) : @VCallv P _ (.yield id) args ⟨(k, σ, K)⟩ = @VYield P _ id args ⟨(k, σ, K)⟩ := by
  simp only [VCallv, VYield, fnOf, Option.some.injEq, Prod.mk.injEq]
  exact propext ⟨fun ⟨_, _, _, ⟨rfl, rfl, rfl⟩, h⟩ => by simpa using h, fun h => ⟨_, _, _, ⟨rfl, rfl, rfl⟩, by simpa using h⟩⟩

section
variable {Q : Ex → FV → VSt → Prop}
theorem VW_skip : VW P .skip fe σ Q = Q .normal fe σ := Eq.trans rfl rfl
theorem VW_exit (id : Nat) : VW P (.exit id) fe σ Q = Q (.exit id) fe σ := Eq.trans rfl rfl
theorem VW_ret : VW P .ret fe σ Q = Q .ret fe σ := Eq.trans rfl rfl
theorem VW_region (ops : List XOper) : VW P (.region ops) fe σ Q = VO P ops fe σ (Q .normal) := Eq.trans rfl rfl
def allOld : Tmp → Bool := fun _ => true
theorem VW_draw (ops : List XOper) (st : List (List Nat)) (fl : List ((Bool × Bool) × Bool)) : VW P (.draw ⟨ops, st, fl⟩) fe σ Q = VM P σ.next (ops.zip fl) allOld true fe σ (Q .normal) := Eq.trans rfl rfl
theorem VW_seq (a b : XCode) : VW P (.seq a b) fe σ Q = VW P a fe σ (vbindN (fun fe σ => VW P b fe σ Q) Q) := by
  show VW P a fe σ (fun e fe' σ' => match e with
    | .normal => VW P b fe' σ' Q
    | e => Q e fe' σ') = _
  congr 1
theorem VW_block (id : Nat) (c : XCode) : VW P (.block id c) fe σ Q = VW P c fe σ (vbindB id Q) := by
  show VW P c fe σ (fun e fe' σ' => match e with
    | .exit id' => if id' = id then Q .normal fe' σ' else Q (.exit id') fe' σ'
    | e => Q e fe' σ') = _
  congr 1
theorem VW_cond (c : Operand) (a b : XCode) : VW P (.cond c a b) fe σ Q = @TestV (vfev fe c) ⟨(VW P a fe σ Q, VW P b fe σ Q)⟩ := Eq.trans rfl rfl
theorem VW_range (x : Operand) (L : LoopC) : VW P (.range x L) fe σ Q = @VRange P _ (vfev fe x) L ⟨(fe, σ, Q)⟩ := Eq.trans rfl rfl
theorem VW_stuck (c : XCode) : VW P (.loop c) fe σ Q = @VLoop P _ ⟨(c, fe, σ, Q)⟩ := Eq.trans rfl rfl

theorem VS_mono {k : Bool × Bool} {o : XOp} {ρ : Operand → VV} {K K' : VV → VSt → Bool → Prop} (hk : ∀ v σ c, K v σ c → K' v σ c) (h : VS P k o ρ σ K) : VS P k o ρ σ K' := by
  have ck : ∀ {g : Go.Fn} {args : List VV}, VCK P k g args σ K → VCK P k g args σ K' := fun h => VG.mono h fun v σ' ⟨c, h1, h2, h3⟩ => ⟨c, h1, h2, hk _ _ _ h3⟩
  unfold VS at *
  split at h
  · exact ck h
  · obtain ⟨g, a, b, e, h⟩ := h
    exact ⟨g, a, b, e, ck h⟩
  · rcases h with ⟨h1, r, h2, h3⟩ | ⟨h1, r, h2, h3⟩
    · exact .inl ⟨h1, r, h2, hk _ _ _ h3⟩
    · exact .inr ⟨h1, r, h2, hk _ _ _ h3⟩
  · rcases h with ⟨r, h2, h3⟩ | ⟨r, h2, h3⟩
    · exact .inl ⟨r, h2, hk _ _ _ h3⟩
    · exact .inr ⟨r, h2, hk _ _ _ h3⟩
  · obtain ⟨h1, r, h2, h3⟩ := h; exact ⟨h1, r, h2, hk _ _ _ h3⟩
  · obtain ⟨h1, r, h2, h3⟩ := h; exact ⟨h1, r, h2, hk _ _ _ h3⟩
  · obtain ⟨h1, r, h2, h3⟩ := h; exact ⟨h1, r, h2, hk _ _ _ h3⟩
  · obtain ⟨h1, r, h2, h3⟩ := h; exact ⟨h1, r, h2, hk _ _ _ h3⟩
  · rcases h with ⟨v, h1, h2⟩ | ⟨h1, h2, h3, h4⟩
    · exact .inl ⟨v, h1, hk _ _ _ h2⟩
    · exact .inr ⟨h1, h2, hk _ _ _ h3, hk _ _ _ h4⟩
  · obtain ⟨r, h2, h3⟩ := h; exact ⟨r, h2, hk _ _ _ h3⟩
theorem VW.mono {c : XCode} : ∀ {fe : FV} {σ : VSt} {Q Q' : Ex → FV → VSt → Prop}, (∀ e fe σ, Q e fe σ → Q' e fe σ) → VW P c fe σ Q → VW P c fe σ Q' := by
  have hO : ∀ (l : List XOper) {fe : FV} {σ : VSt} {Q Q' : FV → VSt → Prop}, (∀ fe σ, Q fe σ → Q' fe σ) → VO P l fe σ Q → VO P l fe σ Q' := by
    intro l
    induction l with
    | nil => intro fe σ Q Q' h hx; exact h _ _ hx
    | cons o l ih =>
      intro fe σ Q Q' h hx
      simp only [VO] at hx ⊢
      split at hx
      · rename_i hw
        rw [if_pos hw]
        exact VS_mono (fun v σ' _ => ih h) hx
      · rename_i hw
        rw [if_neg hw]
        exact ih h hx
  have hM : ∀ (n0 : Nat) (l : List (XOper × (Bool × Bool) × Bool)) {old : Tmp → Bool} {cl : Bool} {fe : FV} {σ : VSt} {Q Q' : FV → VSt → Prop}, (∀ fe σ, Q fe σ → Q' fe σ) → VM P n0 l old cl fe σ Q → VM P n0 l old cl fe σ Q' := by
    intro n0 l
    induction l with
    | nil => intro old cl fe σ Q Q' h hx; exact h _ _ hx
    | cons o l ih =>
      obtain ⟨o, k, e⟩ := o
      intro old cl fe σ Q Q' h hx
      simp only [VM] at hx ⊢
      split at hx
      · rename_i hw
        rw [if_pos hw]
        exact ⟨hx.1, VS_mono (fun v σ' c hh => ih h hh) hx.2⟩
      · rename_i hw
        rw [if_neg hw]
        exact ih h hx
  induction c with
  | skip => intro fe σ Q Q' h hx; exact h _ _ _ hx
  | exit id => intro fe σ Q Q' h hx; exact h _ _ _ hx
  | ret => intro fe σ Q Q' h hx; exact h _ _ _ hx
  | region ops => intro fe σ Q Q' h hx; exact hO ops (h .normal) hx
  | draw d => intro fe σ Q Q' h hx; exact hM _ _ (h .normal) hx
  | seq a b iha ihb =>
    intro fe σ Q Q' h hx
    rw [VW_seq] at hx ⊢
    refine iha (fun e fe σ hh => ?_) hx
    cases e with
    | normal => exact ihb h hh
    | exit id => exact h _ _ _ hh
    | ret => exact h _ _ _ hh
  | cond c a b iha ihb =>
    intro fe σ Q Q' h hx
    obtain ⟨b, e, h1, h2⟩ := hx
    exact ⟨b, e, fun hb => iha h (h1 hb), fun hb => ihb h (h2 hb)⟩
  | block id c ih =>
    intro fe σ Q Q' h hx
    rw [VW_block] at hx ⊢
    refine ih (fun e fe σ hh => ?_) hx
    cases e with
    | normal => exact h _ _ _ hh
    | ret => exact h _ _ _ hh
    | exit i =>
      simp only [vbindB] at hh ⊢
      split at hh
      · rename_i hi; rw [if_pos hi]; exact h _ _ _ hh
      · rename_i hi; rw [if_neg hi]; exact h _ _ _ hh
  | loop c ih =>
    intro fe σ Q Q' h hx
    obtain ⟨I, n, h1, h2⟩ := hx
    refine ⟨I, n, h1, fun k fe σ hI => ih (fun e fe' σ' hh => ?_) (h2 k fe σ hI)⟩
    cases e with
    | normal => exact hh
    | exit id => exact h _ _ _ hh
    | ret => exact h _ _ _ hh
  | range x L =>
    intro fe σ Q Q' h hx
    obtain ⟨g, a, b, e, hx⟩ := hx
    exact ⟨g, a, b, e, VG.mono hx fun _ σ2 ⟨fe2, L2, pe, k1, k2⟩ => ⟨fe2, L2, pe, k1, h _ _ _ k2⟩⟩

theorem VW_loop {c : XCode} {Q : Ex → FV → VSt → Prop} (I : Nat → FV → VSt → Prop) (n : Nat) (h0 : I n fe σ) (h : ∀ k fe σ, I k fe σ → VW P c fe σ (vbindL I k Q)) : @VLoop P _ ⟨(c, fe, σ, Q)⟩ := by
  refine ⟨I, n, h0, fun k fe σ hI => VW.mono (fun e fe σ hh => ?_) (h k fe σ hI)⟩
  cases e <;> exact hh
theorem VW_loopR {c : XCode} {Q : Ex → FV → VSt → Prop} (id : Nat) (I : Nat → FV → VSt → Prop) (R : FV → VSt → Prop) (n : Nat) (h0 : I n fe σ) (h : ∀ k fe σ, I k fe σ → VW P c fe σ (vbindL I k (vatExit id R Q))) (hq : ∀ fe σ, R fe σ → Q (.exit id) fe σ) : @VLoop P _ ⟨(c, fe, σ, Q)⟩ := by
  refine VW_loop I n h0 fun k fe σ hI => VW.mono (fun e fe σ hh => ?_) (h k fe σ hI)
  cases e with
  | normal => exact hh
  | ret => exact hh
  | exit i =>
    simp only [vbindL, vatExit] at hh ⊢
    split at hh
    · rename_i e; subst e; exact hq _ _ hh
    · exact hh
theorem VW_cut {c : XCode} {K : FV → VSt → Prop} (R : FV → VSt → Prop) (h1 : VW P c fe σ (vbindN R Q)) (h2 : ∀ fe σ, R fe σ → K fe σ) : VW P c fe σ (vbindN K Q) := by
  refine VW.mono (fun e fe σ hh => ?_) h1
  cases e with
  | normal => exact h2 _ _ hh
  | ret => exact hh
  | exit i => exact hh
end

section
variable {Q : FV → VSt → Prop}
theorem VO_nil : VO P [] fe σ Q = Q fe σ := Eq.trans rfl rfl
theorem VO_cons (d : Tmp) (o : XOp) (r : List XOper) : VO P (⟨some d, o, none⟩ :: r) fe σ Q = VS P (false, false) o (vfev fe) σ (fun v σ' _ => VO P r (vupd fe d v) σ' Q) := by simp [VO, vwant, vupdO]
theorem VO_cons_drop (o : XOp) (r : List XOper) : VO P (⟨none, o, none⟩ :: r) fe σ Q = VS P (false, false) o (vfev fe) σ (fun _ σ' _ => VO P r fe σ' Q) := by simp [VO, vwant, vupdO]
theorem VO_guard (d : Tmp) (o : XOp) (t : Tmp) (w : Bool) (r : List XOper) : VO P (⟨some d, o, some (t, w)⟩ :: r) fe σ Q = @PickV (fe t) w ⟨(VS P (false, false) o (vfev fe) σ (fun v σ' _ => VO P r (vupd fe d v) σ' Q), VO P r (vupd fe d vundef) σ Q)⟩ := Eq.trans rfl rfl
theorem VO_guard_drop (o : XOp) (t : Tmp) (w : Bool) (r : List XOper) : VO P (⟨none, o, some (t, w)⟩ :: r) fe σ Q = @PickV (fe t) w ⟨(VS P (false, false) o (vfev fe) σ (fun _ σ' _ => VO P r fe σ' Q), VO P r fe σ Q)⟩ := Eq.trans rfl rfl

def oldU (old : Tmp → Bool) (d : Tmp) (b : Bool) : Tmp → Bool := fun t => if t = d then b else old t
theorem oldU_same (old : Tmp → Bool) (d : Tmp) (b : Bool) : oldU old d b d = b := by simp [oldU]
theorem oldU_ne (old : Tmp → Bool) (d t : Tmp) (b : Bool) (h : t ≠ d) : oldU old d b t = old t := by simp [oldU, h]
theorem allOld_any (t : Tmp) : allOld t = true := Eq.trans rfl rfl
theorem oldOpd_tmp (old : Tmp → Bool) (t : Tmp) : oldOpd old (.tmp t) = old t := Eq.trans rfl rfl
theorem oldOpd_const (old : Tmp → Bool) (v : Value) : oldOpd old (.const v) = true := Eq.trans rfl rfl
def vearlyP (e : Bool) [H : Hold (XOp × (Operand → VV) × Nat × (Tmp → Bool) × Prop)] : Prop := (e = true → vEarly H.it.1 H.it.2.1 H.it.2.2.1 H.it.2.2.2.1) ∧ H.it.2.2.2.2
theorem vearlyP_false (o : XOp) (ρ : Operand → VV) (n0 : Nat) (old : Tmp → Bool) (K : Prop) : @vearlyP false ⟨(o, ρ, n0, old, K)⟩ = K := by simp [vearlyP]
def VLow (v : VV) (n0 : Nat) (o : Bool) [K : Hold Prop] : Prop := vlowV n0 o v ∧ K.it
theorem VLow_ptr (id p n0 : Nat) (o : Bool) (K : Prop) : @VLow (.ptr id p) n0 o ⟨K⟩ = @Need (id < n0) ⟨K⟩ := Eq.trans rfl rfl
theorem VLow_slice (id p n c n0 : Nat) (o : Bool) (K : Prop) : @VLow (.slice id p n c) n0 o ⟨K⟩ = @Need (id < n0) ⟨K⟩ := Eq.trans rfl rfl
theorem VLow_v (x : Value) (n0 : Nat) (o : Bool) (K : Prop) : @VLow (.v x) n0 o ⟨K⟩ = K := by simp [VLow, vlowV]
theorem VLow_old (v : VV) (n0 : Nat) (K : Prop) : @VLow v n0 true ⟨K⟩ → @VLow v n0 true ⟨K⟩ := id
theorem VLow_ep (xs : List VV) (p n0 : Nat) (K : Prop) : @VLow (.ep xs p) n0 true ⟨K⟩ = K := by simp [VLow, vlowV]
theorem VLow_lst (n : Nat) (xs : List VV) (n0 : Nat) (K : Prop) : @VLow (.lst n xs) n0 true ⟨K⟩ = K := by simp [VLow, vlowV]
theorem VLow_own (z n : Nat) (xs : List VV) (t n0 : Nat) (K : Prop) : @VLow (.own z n xs t) n0 true ⟨K⟩ = K := by simp [VLow, vlowV]
theorem vearly_load (agg : Bool) (sz : Nat) (x : Operand) (ρ : Operand → VV) (n0 : Nat) (old : Tmp → Bool) (K : Prop) : @vearlyP true ⟨(.load agg sz x, ρ, n0, old, K)⟩ = @Now _ (ρ x) ⟨fun v => @VLow v n0 (oldOpd old x) ⟨K⟩⟩ := by simp [vearlyP, vEarly, Now, VLow]
theorem vearly_sl (esz : Nat) (x : Operand) (lo hi : Option Operand) (ρ : Operand → VV) (n0 : Nat) (old : Tmp → Bool) (K : Prop) : @vearlyP true ⟨(.sl esz x lo hi, ρ, n0, old, K)⟩ = @Now _ (ρ x) ⟨fun v => @VLow v n0 (oldOpd old x) ⟨K⟩⟩ := by simp [vearlyP, vEarly, Now, VLow]
variable {n0 : Nat} {old : Tmp → Bool} {cl : Bool}
theorem VM_nil : VM P n0 [] old cl fe σ Q = Q fe σ := Eq.trans rfl rfl
theorem VM_cons (d : Tmp) (o : XOp) (k : Bool × Bool) (e : Bool) (r : List (XOper × (Bool × Bool) × Bool)) : VM P n0 ((⟨some d, o, none⟩, k, e) :: r) old cl fe σ Q = @vearlyP e ⟨(o, vfev fe, n0, old, VS P k o (vfev fe) σ (fun v σ' c => VM P n0 r (oldU old d (keepsOld o old cl)) (cl && c) (vupd fe d v) σ' Q))⟩ := by simp [VM, vwant, vupdO, vearlyP]; intro _; rfl
theorem VM_cons_drop (o : XOp) (k : Bool × Bool) (e : Bool) (r : List (XOper × (Bool × Bool) × Bool)) : VM P n0 ((⟨none, o, none⟩, k, e) :: r) old cl fe σ Q = @vearlyP e ⟨(o, vfev fe, n0, old, VS P k o (vfev fe) σ (fun _ σ' c => VM P n0 r old (cl && c) fe σ' Q))⟩ := by simp [VM, vwant, vupdO, vearlyP, oldO]
theorem VM_guard (d : Tmp) (o : XOp) (t : Tmp) (w : Bool) (k : Bool × Bool) (e : Bool) (r : List (XOper × (Bool × Bool) × Bool)) : VM P n0 ((⟨some d, o, some (t, w)⟩, k, e) :: r) old cl fe σ Q = @PickV (fe t) w ⟨(@vearlyP e ⟨(o, vfev fe, n0, old, VS P k o (vfev fe) σ (fun v σ' c => VM P n0 r (oldU old d (keepsOld o old cl)) (cl && c) (vupd fe d v) σ' Q))⟩, VM P n0 r (oldU old d true) cl (vupd fe d vundef) σ Q)⟩ := Eq.trans rfl rfl
theorem VM_guard_drop (o : XOp) (t : Tmp) (w : Bool) (k : Bool × Bool) (e : Bool) (r : List (XOper × (Bool × Bool) × Bool)) : VM P n0 ((⟨none, o, some (t, w)⟩, k, e) :: r) old cl fe σ Q = @PickV (fe t) w ⟨(@vearlyP e ⟨(o, vfev fe, n0, old, VS P k o (vfev fe) σ (fun _ σ' c => VM P n0 r old (cl && c) fe σ' Q))⟩, VM P n0 r old cl fe σ Q)⟩ := Eq.trans rfl rfl
end

section
variable {k : Bool × Bool} {ρ : Operand → VV} {K : VV → VSt → Bool → Prop}
theorem VS_call (f : FuncId) (args : List Operand) : VS P k (.call f args.toArray) ρ σ K = @VCall P _ f (args.map ρ) ⟨(k, σ, K)⟩ := Eq.trans rfl rfl
theorem VS_callv (x : Operand) (args : List Operand) : VS P k (.callv x args.toArray) ρ σ K = @Now _ (ρ x) ⟨fun v => @VCallv P _ v (args.map ρ) ⟨(k, σ, K)⟩⟩ := Eq.trans rfl rfl
theorem VS_gen1 {o : XOp} {r : Option VV} (h : VS P k o ρ σ K = ∃ q, vop o ρ σ = some q ∧ K q.1 q.2 true) (hr : vop o ρ σ = r.map fun v => (v, σ)) : VS P k o ρ σ K = @Got _ r ⟨fun v => K v σ true⟩ := by
  rw [h, hr]
  apply propext
  unfold Got
  constructor
  · rintro ⟨q, h1, h2⟩
    simp only [Option.map_eq_some_iff] at h1
    obtain ⟨u, h3, rfl⟩ := h1
    exact ⟨u, h3, h2⟩
  · rintro ⟨u, h3, h2⟩
    exact ⟨(u, σ), by simp [h3], h2⟩
theorem VS_mv (x : Operand) : VS P k (.mv x) ρ σ K = @Now _ (ρ x) ⟨fun v => K v σ true⟩ := by
  rw [VS_gen1 (r := some (ρ x)) rfl rfl, Got_some]; rfl
theorem VS_pick (c a b : Operand) : VS P k (.pick c a b) ρ σ K = @Now _ (ρ c) ⟨fun v => @Now _ (ρ a) ⟨fun x => @Now _ (ρ b) ⟨fun y => @Got _ (vpick v x y) ⟨fun r => K r σ true⟩⟩⟩⟩ := by rw [VS_gen1 rfl rfl]; rfl
theorem VS_load (agg : Bool) (sz : Nat) (x : Operand) : VS P k (.load agg sz x) ρ σ K = @Now _ (ρ x) ⟨fun v => @Got _ (vld σ agg sz v) ⟨fun r => K r σ true⟩⟩ := by rw [VS_gen1 rfl rfl]; rfl
theorem VS_nilck (x : Operand) : VS P k (.nilck x) ρ σ K = @Now _ (ρ x) ⟨fun v => @Got _ (vnilck v) ⟨fun r => K r σ true⟩⟩ := by rw [VS_gen1 rfl rfl]; rfl
theorem VS_bin (op : BinOp) (x y : Operand) : VS P k (.bin op x y) ρ σ K = @Now _ (ρ x) ⟨fun v => @Now _ (ρ y) ⟨fun u => @Got _ (vbin op v u) ⟨fun r => K r σ true⟩⟩⟩ := by rw [VS_gen1 rfl rfl]; rfl
theorem VS_eqb (neg : Bool) (x y : Operand) : VS P k (.eqb neg x y) ρ σ K = @Now _ (ρ x) ⟨fun v => @Now _ (ρ y) ⟨fun u => @Got _ (veqb neg v u) ⟨fun r => K r σ true⟩⟩⟩ := by rw [VS_gen1 rfl rfl]; rfl
theorem VS_eqf (ks : List Nat) (neg : Bool) (x y : Operand) : VS P k (.eqf ks neg x y) ρ σ K = @Now _ (ρ x) ⟨fun v => @Now _ (ρ y) ⟨fun u => @Got _ (veqf ks neg v u) ⟨fun r => K r σ true⟩⟩⟩ := by rw [VS_gen1 rfl rfl]; rfl
theorem VS_eqp (neg : Bool) (x y : Operand) : VS P k (.eqp neg x y) ρ σ K = @Now _ (ρ x) ⟨fun v => @Now _ (ρ y) ⟨fun u => @Got _ (veqp neg v u) ⟨fun r => K r σ true⟩⟩⟩ := by rw [VS_gen1 rfl rfl]; rfl
theorem VS_un (op : UnOp) (x : Operand) : VS P k (.un op x) ρ σ K = @Now _ (ρ x) ⟨fun v => @Got _ (vun op v) ⟨fun r => K r σ true⟩⟩ := by rw [VS_gen1 rfl rfl]; rfl
theorem VS_cvi (j : IntKind) (x : Operand) : VS P k (.cvi j x) ρ σ K = @Now _ (ρ x) ⟨fun v => @Got _ (vcvi j v) ⟨fun r => K r σ true⟩⟩ := by rw [VS_gen1 rfl rfl]; rfl
theorem VS_cvs (x : Operand) : VS P k (.cvs x) ρ σ K = @Now _ (ρ x) ⟨fun v => @Got _ (vcvs v) ⟨fun r => K r σ true⟩⟩ := by rw [VS_gen1 rfl rfl]; rfl
theorem VS_sl (esz : Nat) (x : Operand) (lo hi : Option Operand) : VS P k (.sl esz x lo hi) ρ σ K = @Now _ (ρ x) ⟨fun v => @Now _ (lo.map ρ) ⟨fun l => @Now _ (hi.map ρ) ⟨fun h => @Got _ (vsl σ esz v l h) ⟨fun r => K r σ true⟩⟩⟩⟩ := by rw [VS_gen1 rfl rfl]; rfl
theorem VS_slStr (x : Operand) (lo hi : Option Operand) : VS P k (.slStr x lo hi) ρ σ K = @Now _ (ρ x) ⟨fun v => @Now _ (lo.map ρ) ⟨fun l => @Now _ (hi.map ρ) ⟨fun h => @Got _ (vslStr v l h) ⟨fun r => K r σ true⟩⟩⟩⟩ := by rw [VS_gen1 rfl rfl]; rfl
theorem VS_fa (off : Nat) (x : Operand) : VS P k (.fa off x) ρ σ K = @Now _ (ρ x) ⟨fun v => @Got _ (vadd v off) ⟨fun r => K r σ true⟩⟩ := by rw [VS_gen1 rfl rfl]; rfl
theorem VS_fld (agg : Bool) (sz off : Nat) (x : Operand) : VS P k (.fld agg sz off x) ρ σ K = @Now _ (ρ x) ⟨fun v => @Got _ (vfld agg sz off v) ⟨fun r => K r σ true⟩⟩ := by rw [VS_gen1 rfl rfl]; rfl
theorem VS_ia (esz : Nat) (x i : Operand) : VS P k (.ia esz x i) ρ σ K = @Now _ (ρ x) ⟨fun v => @Now _ (ρ i) ⟨fun u => @Got _ (via esz v u) ⟨fun r => K r σ true⟩⟩⟩ := by rw [VS_gen1 rfl rfl]; rfl
theorem VS_iaArr (n esz : Nat) (x i : Operand) : VS P k (.iaArr n esz x i) ρ σ K = @Now _ (ρ x) ⟨fun v => @Now _ (ρ i) ⟨fun u => @Got _ (viaArr n esz v u) ⟨fun r => K r σ true⟩⟩⟩ := by rw [VS_gen1 rfl rfl]; rfl
theorem VS_idx (n : Nat) (agg : Bool) (esz : Nat) (x i : Operand) : VS P k (.idx n agg esz x i) ρ σ K = @Now _ (ρ x) ⟨fun v => @Now _ (ρ i) ⟨fun u => @Got _ (vidx n agg esz v u) ⟨fun r => K r σ true⟩⟩⟩ := by rw [VS_gen1 rfl rfl]; rfl
theorem VS_idxStr (x i : Operand) : VS P k (.idxStr x i) ρ σ K = @Now _ (ρ x) ⟨fun v => @Now _ (ρ i) ⟨fun u => @Got _ (vidxStr v u) ⟨fun r => K r σ true⟩⟩⟩ := by rw [VS_gen1 rfl rfl]; rfl
theorem VS_ext (x : Operand) (i : Nat) : VS P k (.ext x i) ρ σ K = @Now _ (ρ x) ⟨fun v => @Got _ (vext v i) ⟨fun r => K r σ true⟩⟩ := by rw [VS_gen1 rfl rfl]; rfl
theorem VS_len (x : Operand) : VS P k (.len x) ρ σ K = @Now _ (ρ x) ⟨fun v => @Got _ (vlenv v) ⟨fun r => K r σ true⟩⟩ := by rw [VS_gen1 rfl rfl]; rfl
theorem VS_lenStr (x : Operand) : VS P k (.lenStr x) ρ σ K = @Now _ (ρ x) ⟨fun v => @Got _ (vlenStr v) ⟨fun r => K r σ true⟩⟩ := by rw [VS_gen1 rfl rfl]; rfl
theorem VS_minmax (mx : Bool) (x : Operand) (l : List Operand) : VS P k (.minmax mx x l) ρ σ K = @Now _ (ρ x) ⟨fun v => @Now _ (l.map ρ) ⟨fun u => @Got _ (vmm mx v u) ⟨fun r => K r σ true⟩⟩⟩ := by rw [VS_gen1 rfl rfl]; rfl
theorem VS_mkFunc (f : FuncId) (a b : List Operand) : VS P k (.mkFunc f a.toArray b.toArray) ρ σ K = @Now _ (a.map ρ) ⟨fun a => @Now _ (b.map ρ) ⟨fun b => K (.fn f a b) σ true⟩⟩ := by
  rw [VS_gen1 (r := some (.fn f (a.map ρ) (b.map ρ))) rfl rfl, Got_some]; rfl
theorem VS_mkIface (t : TypeId) (x : Operand) : VS P k (.mkIface t x) ρ σ K = @Now _ (ρ x) ⟨fun v => K (.iface t v) σ true⟩ := by
  rw [VS_gen1 (r := some (.iface t (ρ x))) rfl rfl, Got_some]; rfl
theorem VS_build (z : List Value) (parts : List (Nat × Nat × Operand)) : VS P k (.build z parts) ρ σ K = @Got _ (vfill (z.map .v) (parts.map fun p => (p.1, p.2.1, ρ p.2.2))) ⟨fun l => K (.agg l) σ true⟩ := by
  rw [VS_gen1 (r := (vfill (z.map .v) (parts.map fun p => (p.1, p.2.1, ρ p.2.2))).map .agg) rfl (by simp only [vop, Option.map_map]; rfl)]
  unfold Got
  apply propext
  constructor
  · rintro ⟨v, h1, h2⟩
    simp only [Option.map_eq_some_iff] at h1
    obtain ⟨l, h3, rfl⟩ := h1
    exact ⟨l, h3, h2⟩
  · rintro ⟨l, h3, h2⟩
    exact ⟨_, by rw [h3]; rfl, h2⟩
theorem VS_gen2 {o : XOp} (h : VS P k o ρ σ K = ∃ q, vop o ρ σ = some q ∧ K q.1 q.2 true) : VS P k o ρ σ K = @Got _ (vop o ρ σ) ⟨fun r => K r.1 r.2 true⟩ := by rw [h]; rfl
theorem VS_box (t : TypeId) (x : Operand) : VS P k (.box t x) ρ σ K = @Now _ (ρ x) ⟨fun v => @Now _ v.cs ⟨fun c => @Need (vAll c = true) ⟨@Now _ c.length ⟨fun n => @Now _ σ.next ⟨fun m => K (.ptr m 0) (σ.box c t n) true⟩⟩⟩⟩⟩ := by
  rw [VS_gen2 rfl]
  simp only [vop, Now, Need, Got]
  apply propext
  constructor
  · rintro ⟨r, h1, h2⟩
    split at h1
    · rename_i hc; obtain rfl := Option.some.inj h1; exact ⟨hc, h2⟩
    · cases h1
  · rintro ⟨hc, h2⟩
    exact ⟨_, if_pos hc, h2⟩
theorem VS_zero (t : TypeId) (z : Value) : VS P k (.zero t z) ρ σ K = @Need (flatL z.cells.toList = true) ⟨@Now _ (z.cells.toList.map VV.v) ⟨fun c => K (.ptr σ.next 0) (σ.box c t c.length) true⟩⟩ := by
  rw [VS_gen2 rfl]
  simp only [vop, Now, Need, Got]
  apply propext
  constructor
  · rintro ⟨r, h1, h2⟩
    split at h1
    · rename_i hc; obtain rfl := Option.some.inj h1; exact ⟨hc, by simpa using h2⟩
    · cases h1
  · rintro ⟨hc, h2⟩
    exact ⟨_, if_pos hc, by simpa using h2⟩
theorem VS_zeroA (t : TypeId) (l : List Value) : VS P k (.zero t (.agg l.toArray)) ρ σ K = @Need (flatL l = true) ⟨@Now _ (l.map VV.v) ⟨fun c => @Now _ c.length ⟨fun n => @Now _ σ.next ⟨fun m => K (.ptr m 0) (σ.box c t n) true⟩⟩⟩⟩ := VS_zero t _
theorem VS_zeroI (t : TypeId) (j : IntKind) (n : Int) : VS P k (.zero t (.int j n)) ρ σ K = @Now _ σ.next ⟨fun m => K (.ptr m 0) (σ.box [.v (.int j n)] t 1) true⟩ := by rw [VS_zero]; simp [Need, Now, flatL, flat1, Value.cells]
theorem VS_zeroB (t : TypeId) (b : Bool) : VS P k (.zero t (.bool b)) ρ σ K = @Now _ σ.next ⟨fun m => K (.ptr m 0) (σ.box [.v (.bool b)] t 1) true⟩ := by rw [VS_zero]; simp [Need, Now, flatL, flat1, Value.cells]
theorem VS_zeroT (t : TypeId) (s : ByteArray) : VS P k (.zero t (.string s)) ρ σ K = @Now _ σ.next ⟨fun m => K (.ptr m 0) (σ.box [.v (.string s)] t 1) true⟩ := by rw [VS_zero]; simp [Need, Now, flatL, flat1, Value.cells]
theorem VS_zeroS (t : TypeId) : VS P k (.zero t (.slice none 0 0)) ρ σ K = @Now _ σ.next ⟨fun m => K (.ptr m 0) (σ.box [.v (.slice none 0 0)] t 1) true⟩ := by rw [VS_zero]; simp [Need, Now, flatL, flat1, Value.cells]
theorem VS_zeroP (t : TypeId) : VS P k (.zero t (.pointer none)) ρ σ K = @Now _ σ.next ⟨fun m => K (.ptr m 0) (σ.box [.v (.pointer none)] t 1) true⟩ := by rw [VS_zero]; simp [Need, Now, flatL, flat1, Value.cells]
theorem VS_zeroM (t : TypeId) : VS P k (.zero t (.map none)) ρ σ K = @Now _ σ.next ⟨fun m => K (.ptr m 0) (σ.box [.v (.map none)] t 1) true⟩ := by rw [VS_zero]; simp [Need, Now, flatL, flat1, Value.cells]
theorem VS_zeroF (t : TypeId) : VS P k (.zero t .nilFunc) ρ σ K = @Now _ σ.next ⟨fun m => K (.ptr m 0) (σ.box [.v .nilFunc] t 1) true⟩ := by rw [VS_zero]; simp [Need, Now, flatL, flat1, Value.cells]
theorem VS_mkSlice (e : TypeId) (esz bytes : Nat) (z : List Value) (l c : Operand) : VS P k (.mkSlice e esz bytes z l c) ρ σ K = @Now _ (ρ l) ⟨fun v => @Now _ (ρ c) ⟨fun u => @Got _ (vmk e esz bytes z v u σ) ⟨fun r => K r.1 r.2 true⟩⟩⟩ := by rw [VS_gen2 rfl]; rfl
theorem VS_store (sz : Nat) (a x : Operand) : VS P (false, false) (.store sz a x) ρ σ K = @Now _ (ρ a) ⟨fun p => @Now _ (ρ x) ⟨fun v => @Got _ (vst σ sz p v) ⟨fun σ' => K (.tup []) σ' false⟩⟩⟩ := by
  simp only [VS, Now, Got, true_and]
theorem VS_copy (esz : Nat) (d s : Operand) : VS P (false, false) (.copy esz d s) ρ σ K = @Now _ (ρ d) ⟨fun v => @Now _ (ρ s) ⟨fun u => @Got _ (vcopy esz v u σ) ⟨fun r => K r.1 r.2 false⟩⟩⟩ := by simp only [VS, Now, Got, true_and]
theorem VS_clr (esz : Nat) (z : List Value) (x : Operand) : VS P (false, false) (.clr esz z x) ρ σ K = @Now _ (ρ x) ⟨fun v => @Got _ (vclr esz z v σ) ⟨fun r => K r.1 r.2 false⟩⟩ := by simp only [VS, Now, Got, true_and]
theorem VS_extra0 (e : EOp) (l : List Operand) : VS P (false, false) (.extra e l) ρ σ K = @Now _ (l.map ρ) ⟨fun v => @Got _ (vextra e v σ) ⟨fun r => K r.1 r.2 (readsE e)⟩⟩ := by simp only [VS, Now, Got, or_true, true_and]
theorem VS_extraR (e : EOp) (l : List Operand) (h : readsE e = true) : VS P k (.extra e l) ρ σ K = @Now _ (l.map ρ) ⟨fun v => @Got _ (vextra e v σ) ⟨fun r => K r.1 r.2 (readsE e)⟩⟩ := by simp only [VS, Now, Got, h, true_or, true_and]
theorem VS_extraL (ks : List Nat) (agg : Bool) (z : Value) (ok : Bool) (l : List Operand) : VS P k (.extra (.lookup ks agg z ok) l) ρ σ K = @Now _ (l.map ρ) ⟨fun v => @Got _ (vextra (.lookup ks agg z ok) v σ) ⟨fun r => K r.1 r.2 true⟩⟩ := VS_extraR _ _ rfl
theorem VS_extraM (l : List Operand) : VS P k (.extra .mapLen l) ρ σ K = @Now _ (l.map ρ) ⟨fun v => @Got _ (vextra .mapLen v σ) ⟨fun r => K r.1 r.2 true⟩⟩ := VS_extraR _ _ rfl
/-- a list is written down: it may be appended to, or be a row. -/
def VBuild (e : TypeId) (esz n : Nat) (z : List Value) (ps : List (Nat × Nat × VV)) [H : Hold (VSt × (VV → VSt → Bool → Prop))] : Prop :=
  (∃ r, vbs e esz n z ps H.it.1 = some r ∧ H.it.2 r.1 r.2 true) ∨ (∃ r, vbsS e esz n z ps H.it.1 = some r ∧ H.it.2 r.1 r.2 true)
theorem VS_buildSlice (e : TypeId) (esz n : Nat) (z : List Value) (parts : List (Nat × Nat × Operand)) : VS P k (.buildSlice e esz n z parts) ρ σ K = @Now _ (parts.map fun p => (p.1, p.2.1, ρ p.2.2)) ⟨fun ps => @VBuild e esz n z ps ⟨(σ, K)⟩⟩ := Eq.trans rfl rfl
theorem VBuild.own {e : TypeId} {esz n : Nat} {z : List Value} {ps : List (Nat × Nat × VV)} {l : List VV} (h1 : z.length = esz) (h2 : vfill ((rep n z).map .v) ps = some l) (h3 : vAll l = true) (hk : K (.own esz n (l.map VV.fg) σ.next) σ.newTok true) : @VBuild e esz n z ps ⟨(σ, K)⟩ :=
  .inl ⟨_, by unfold vbs; rw [if_pos h1, h2]; simp only [Option.bind_some]; rw [if_pos h3], hk⟩
theorem VBuild.row {e : TypeId} {esz n : Nat} {z : List Value} {ps : List (Nat × Nat × VV)} {l : List VV} (h1 : z.length = esz) (h2 : vfill ((rep n z).map .v) ps = some l) (h3 : vAll l = true) (hk : K (.slice σ.next 0 n n) (σ.box l e esz) true) : @VBuild e esz n z ps ⟨(σ, K)⟩ :=
  .inr ⟨_, by unfold vbsS; rw [if_pos h1, h2]; simp only [Option.bind_some]; rw [if_pos h3], hk⟩
def VAppend (e : TypeId) (esz bytes : Nat) (s x : VV) [H : Hold ((Bool × Bool) × VSt × (VV → VSt → Bool → Prop))] : Prop :=
  (H.it.1.2 = false ∧ ∃ r, vapp esz bytes s x H.it.2.1 = some r ∧ H.it.2.2 r.1 r.2 false) ∨ (H.it.1 = (false, false) ∧ ∃ r, vappS e esz bytes s x H.it.2.1 = some r ∧ H.it.2.2 r.1 r.2 false)
theorem VS_append (e : TypeId) (esz bytes : Nat) (s x : Operand) : VS P k (.append e esz bytes s x) ρ σ K = @Now _ (ρ s) ⟨fun v => @Now _ (ρ x) ⟨fun u => @VAppend e esz bytes v u ⟨(k, σ, K)⟩⟩⟩ := Eq.trans rfl rfl
theorem VAppend.own {e : TypeId} {esz bytes : Nat} {s x r : VV} {σ' : VSt} {b : Bool} (h : vapp esz bytes s x σ = some (r, σ')) (hk : K r σ' false) : @VAppend e esz bytes s x ⟨((b, false), σ, K)⟩ := .inl ⟨rfl, _, h, hk⟩
theorem VAppend.row {e : TypeId} {esz bytes : Nat} {s x r : VV} {σ' : VSt} (h : vappS e esz bytes s x σ = some (r, σ')) (hk : K r σ' false) : @VAppend e esz bytes s x ⟨((false, false), σ, K)⟩ := .inr ⟨rfl, _, h, hk⟩
def VEqs (neg : Bool) (x y : VV) [H : Hold (VSt × (VV → VSt → Bool → Prop))] : Prop :=
  (∃ v, veqs neg x y = some v ∧ H.it.2 v H.it.1 true) ∨ (x = .lst 0 [] ∧ y = nilS ∧ H.it.2 (.v (.bool (notIf neg true))) H.it.1 true ∧ H.it.2 (.v (.bool (notIf neg false))) H.it.1 true)
theorem VS_eqs (neg : Bool) (x y : Operand) : VS P k (.eqs neg x y) ρ σ K = @Now _ (ρ x) ⟨fun v => @Now _ (ρ y) ⟨fun u => @VEqs neg v u ⟨(σ, K)⟩⟩⟩ := Eq.trans rfl rfl
theorem VEqs_own (neg : Bool) (z n : Nat) (xs : List VV) (t : Nat) : @VEqs neg (.own z n xs t) (.v (.slice none 0 0)) ⟨(σ, K)⟩ = K (.v (.bool (notIf neg false))) σ true := by simp [VEqs, veqs]
theorem VEqs_slice (neg : Bool) (id o n c : Nat) : @VEqs neg (.slice id o n c) (.v (.slice none 0 0)) ⟨(σ, K)⟩ = K (.v (.bool (notIf neg false))) σ true := by simp [VEqs, veqs]
theorem VEqs_nil (neg : Bool) : @VEqs neg (.v (.slice none 0 0)) (.v (.slice none 0 0)) ⟨(σ, K)⟩ = K (.v (.bool (notIf neg true))) σ true := by simp [VEqs, veqs]
theorem VEqs.lst {neg : Bool} {n : Nat} {xs : List VV} (hn : n = 0 → xs = []) (h1 : n = 0 → K (.v (.bool (notIf neg true))) σ true) (h2 : K (.v (.bool (notIf neg false))) σ true) : @VEqs neg (.lst n xs) (.v (.slice none 0 0)) ⟨(σ, K)⟩ := by
  by_cases h : n = 0
  · subst h
    exact .inr ⟨by rw [hn rfl], rfl, h1 rfl, h2⟩
  · exact .inl ⟨_, by simp [veqs, h], h2⟩
theorem notIf_tt : notIf true true = false := rfl
theorem notIf_tf : notIf true false = true := rfl
theorem notIf_ff (b : Bool) : notIf false b = b := rfl
end

/-- nothing that stood has turned. -/
structure Sub (σ σ' : VSt) : Prop where
  next : σ.next ≤ σ'.next
  heap : ∀ id, id < σ.next → σ'.heap id = σ.heap id
  live : ∀ id, id < σ.next → σ'.live id = σ.live id
  low : σ'.low = σ.low
theorem Sub.refl (σ : VSt) : Sub σ σ := ⟨Nat.le_refl _, fun _ _ => rfl, fun _ _ => rfl, rfl⟩
theorem Sub.trans {σ σ' σ'' : VSt} (h : Sub σ σ') (k : Sub σ' σ'') : Sub σ σ'' :=
  ⟨Nat.le_trans h.next k.next, fun id hid => (k.heap id (Nat.lt_of_lt_of_le hid h.next)).trans (h.heap id hid), fun id hid => (k.live id (Nat.lt_of_lt_of_le hid h.next)).trans (h.live id hid), k.low.trans h.low⟩
theorem Sub.box (σ : VSt) (c : List VV) (t : TypeId) (z : Nat) : Sub σ (σ.box c t z) :=
  ⟨by simp [VSt.box, VSt.alloc], fun id hid => by simp only [VSt.box, VSt.alloc]; rw [if_neg (by omega)], fun _ _ => rfl, rfl⟩
theorem Sub.newTok (σ : VSt) : Sub σ σ.newTok :=
  ⟨by simp [VSt.newTok], fun id hid => rfl, fun _ _ => by simp only [VSt.newTok]; rw [if_neg (by omega)], rfl⟩

theorem VG.frame {g : Go.Fn} {args : List VV} {Q : VV → VSt → Prop} (h : VG P g args σ Q) : VG P g args σ (fun v σ' => Q v σ' ∧ σ.next ≤ σ'.next ∧ σ.low ≤ σ.next ∧ (∀ id, id < σ.next → id < σ'.low → σ'.heap id = σ.heap id ∧ σ'.live id = σ.live id) ∧ σ'.low ≤ σ.next) := fun S args' h1 h2 => by
  refine XG.mono (h S args' h1 h2) ?_
  rintro v' S' ⟨v, σ', k1, k2, k3, k4⟩
  exact ⟨v, σ', k1, k2, k3, k4, k2.next, h1.low, fun id a b => ⟨(k2.keep id a b).1, (k2.keep id a b).2.1⟩, k2.low⟩
/-- a call that turns nothing. -/
theorem VCall.pure {f : FuncId} {args : List VV} {k : Bool × Bool} {K : VV → VSt → Bool → Prop} {Q : VV → VSt → Prop} (h : VC P f args σ (fun v σ' => σ.next ≤ σ'.low ∧ Q v σ')) (hj : ∀ v σ', Q v σ' → Q v (σ.join σ')) (hq : ∀ v σ', Q v σ' → Sub σ σ' → K v σ' true) : @VCall P _ f args ⟨(k, σ, K)⟩ := by
  show VCK P k (.func f) args σ K
  refine VG.mono (VG.frame h) ?_
  rintro v σ' ⟨⟨h1, h2⟩, h3, h4, h5, h6⟩
  refine ⟨true, fun _ => h1, fun _ => rfl, hq _ _ (hj _ _ h2) ⟨h3, fun id hid => (h5 id hid (by omega)).1, fun id hid => (h5 id hid (by omega)).2, ?_⟩⟩
  simp only [VSt.join]
  omega
/-- any call. -/
theorem VCall.any {f : FuncId} {args : List VV} {K : VV → VSt → Bool → Prop} {Q : VV → VSt → Prop} (h : VC P f args σ Q) (hq : ∀ v σ', Q v σ' → σ.next ≤ σ'.next → (∀ id, id < σ.next → id < σ'.low → σ'.heap id = σ.heap id ∧ σ'.live id = σ.live id) → K v (σ.join σ') false) : @VCall P _ f args ⟨((false, false), σ, K)⟩ := by
  show VCK P (false, false) (.func f) args σ K
  refine VG.mono (VG.frame h) ?_
  rintro v σ' ⟨h2, h3, h4, h5, h6⟩
  exact ⟨false, fun h => (by cases h), fun h => (by cases h), hq _ _ h2 h3 h5⟩
theorem VCall_at {f : FuncId} {args : List VV} {k : Bool × Bool} {K : VV → VSt → Bool → Prop} (h : ∀ σ', σ' = σ → @VCall P _ f args ⟨(k, σ', K)⟩) : @VCall P _ f args ⟨(k, σ, K)⟩ := h σ rfl
theorem VLoop_at {c : XCode} {Q : Ex → FV → VSt → Prop} (h : ∀ σ', σ' = σ → @VLoop P _ ⟨(c, fe, σ', Q)⟩) : @VLoop P _ ⟨(c, fe, σ, Q)⟩ := h σ rfl

/-- what is asked of the arguments may say less of them. -/
def Fg (a b : VV) : Prop := b = a ∨ b = a.fg
def FgL : List VV → List VV → Prop
  | [], [] => True
  | a :: r, b :: s => Fg a b ∧ FgL r s
  | _, _ => False
theorem FgL.rel {G : Nat → Prop} {S : St} : ∀ {a b : List VV} {l : List Value}, FgL a b → VRelL G S a l → VRelL G S b l := by
  intro a
  induction a with
  | nil => intro b l h hr; cases b with
    | nil => exact hr
    | cons _ _ => cases h
  | cons x a ih =>
    intro b l h hr
    match b, l, h, hr with
    | [], _, h, _ => cases h
    | y :: b, [], _, hr => exact absurd hr.1 (by simp)
    | y :: b, u :: l, h, hr =>
      have hx : VRel G S x u := hr.2 0 (by simp) (by simp)
      refine .cons ?_ (ih h.2 ⟨by simpa using hr.1, fun i h1 h2 => hr.2 (i + 1) (by simpa using h1) (by simpa using h2)⟩)
      rcases h.1 with rfl | rfl
      · exact hx
      · exact hx.fg
theorem VG.fg {g : Go.Fn} {args args2 : List VV} {Q : VV → VSt → Prop} (hf : FgL args args2) (h : VG P g args2 σ Q) : VG P g args σ Q := fun S args' h1 h2 => h S args' h1 (hf.rel h2)
theorem VC.fg {f : FuncId} {args args2 : List VV} {Q : VV → VSt → Prop} (hf : FgL args args2) (h : VC P f args2 σ Q) : VC P f args σ Q := VG.fg hf h
end

theorem flatL_int (j : IntKind) (n : Int) (l : List Value) : flatL (.int j n :: l) = flatL l := Eq.trans rfl rfl
theorem flatL_bool (b : Bool) (l : List Value) : flatL (.bool b :: l) = flatL l := Eq.trans rfl rfl
theorem flatL_str (s : ByteArray) (l : List Value) : flatL (.string s :: l) = flatL l := Eq.trans rfl rfl
theorem flatL_slice (l : List Value) : flatL (.slice none 0 0 :: l) = flatL l := Eq.trans rfl rfl
theorem flatL_ptr (l : List Value) : flatL (.pointer none :: l) = flatL l := Eq.trans rfl rfl
theorem flatL_map (l : List Value) : flatL (.map none :: l) = flatL l := Eq.trans rfl rfl
theorem flatL_fn (l : List Value) : flatL (.nilFunc :: l) = flatL l := Eq.trans rfl rfl
theorem flatL_nil : flatL [] = true := Eq.trans rfl rfl
theorem vfill_nil (l : List VV) : vfill l [] = some l := Eq.trans rfl rfl
theorem vfill_cons (l : List VV) (o s : Nat) (v : VV) (r : List (Nat × Nat × VV)) : vfill l ((o, s, v) :: r) = if v.cs.length = s ∧ o + s ≤ l.length then vfill (vsplice l o v.cs) r else none := Eq.trans rfl rfl
theorem vbin_v (op : BinOp) (a b : Value) : vbin op (.v a) (.v b) = (xbin op a b).map .v := Eq.trans rfl rfl
theorem vbin_add (a b : Int) : vbin .add (vi a) (vi b) = some (vi (w64 (a + b))) := Eq.trans rfl rfl
theorem vbin_sub (a b : Int) : vbin .sub (vi a) (vi b) = some (vi (w64 (a - b))) := Eq.trans rfl rfl
theorem vbin_mul (a b : Int) : vbin .mul (vi a) (vi b) = some (vi (w64 (a * b))) := Eq.trans rfl rfl
theorem vbin_quo (a b : Int) (h : b ≠ 0) : vbin .quo (vi a) (vi b) = some (vi (w64 (a.tdiv b))) := by rw [vbin_v, xbin_quo a b h]; rfl
theorem vbin_rem (a b : Int) (h : b ≠ 0) : vbin .rem (vi a) (vi b) = some (vi (a.tmod b)) := by rw [vbin_v, xbin_rem a b h]; rfl
theorem vbin_eql (a b : Int) : vbin .eql (vi a) (vi b) = some (vb (decide (a = b))) := by rw [vbin_v, xbin_eql]; rfl
theorem vbin_neq (a b : Int) : vbin .neq (vi a) (vi b) = some (vb (decide (a ≠ b))) := by rw [vbin_v, xbin_neq]; rfl
theorem vbin_lss (a b : Int) : vbin .lss (vi a) (vi b) = some (vb (decide (a < b))) := Eq.trans rfl rfl
theorem vbin_leq (a b : Int) : vbin .leq (vi a) (vi b) = some (vb (decide (a ≤ b))) := Eq.trans rfl rfl
theorem vbin_gtr (a b : Int) : vbin .gtr (vi a) (vi b) = some (vb (decide (a > b))) := Eq.trans rfl rfl
theorem vbin_geq (a b : Int) : vbin .geq (vi a) (vi b) = some (vb (decide (a ≥ b))) := Eq.trans rfl rfl
theorem vmm_min (a b : Int) : vmm false (vi a) [vi b] = some (vi (if b < a then b else a)) := Eq.trans rfl rfl
theorem vmm_max (a b : Int) : vmm true (vi a) [vi b] = some (vi (if b > a then b else a)) := Eq.trans rfl rfl
theorem vun_not (b : Bool) : vun .not (vb b) = some (vb !b) := Eq.trans rfl rfl
theorem vun_neg (n : Int) : vun .neg (vi n) = some (vi (w64 (0 - n))) := Eq.trans rfl rfl
theorem vpick_t (a b : VV) : vpick (.v (.bool true)) a b = some a := Eq.trans rfl rfl
theorem vpick_f (a b : VV) : vpick (.v (.bool false)) a b = some b := Eq.trans rfl rfl
theorem veqb_b (neg a b : Bool) : veqb neg (vb a) (vb b) = some (vb (notIf neg (a == b))) := Eq.trans rfl rfl
theorem vadd_ptr (id o off : Nat) : vadd (.ptr id o) off = some (.ptr id (o + off)) := Eq.trans rfl rfl
theorem vadd_ep (xs : List VV) (o off : Nat) : vadd (.ep xs o) off = some (.ep xs (o + off)) := Eq.trans rfl rfl
theorem vnilck_ptr (id o : Nat) : vnilck (.ptr id o) = some (.ptr id o) := Eq.trans rfl rfl
theorem vnilck_ep (xs : List VV) (o : Nat) : vnilck (.ep xs o) = some (.ep xs o) := Eq.trans rfl rfl
theorem vnilck_fn (f : FuncId) (a b : List VV) : vnilck (.fn f a b) = some (.fn f a b) := Eq.trans rfl rfl
theorem vext_zero (a : VV) (l : List VV) : vext (.tup (a :: l)) 0 = some a := Eq.trans rfl rfl
theorem vext_one (a b : VV) (l : List VV) : vext (.tup (a :: b :: l)) 1 = some b := Eq.trans rfl rfl
theorem vext_two (a b c : VV) (l : List VV) : vext (.tup (a :: b :: c :: l)) 2 = some c := Eq.trans rfl rfl
theorem vext_three (a b c d : VV) (l : List VV) : vext (.tup (a :: b :: c :: d :: l)) 3 = some d := Eq.trans rfl rfl
theorem vlenv_lst (n : Nat) (xs : List VV) : vlenv (.lst n xs) = some (vi n) := Eq.trans rfl rfl
theorem vlenv_own (z n : Nat) (xs : List VV) (t : Nat) : vlenv (.own z n xs t) = some (vi n) := Eq.trans rfl rfl
theorem vlenv_slice (id o n c : Nat) : vlenv (.slice id o n c) = some (vi n) := Eq.trans rfl rfl
theorem vlenv_nil : vlenv (.v (.slice none 0 0)) = some (vi 0) := Eq.trans rfl rfl
theorem vAll_v (x : Value) (l : List VV) : vAll (.v x :: l) = vAll l := Eq.trans rfl rfl
theorem vAll_lst (n : Nat) (xs l : List VV) : vAll (.lst n xs :: l) = vAll l := Eq.trans rfl rfl
theorem vAll_own (z n : Nat) (xs : List VV) (t : Nat) (l : List VV) : vAll (.own z n xs t :: l) = vAll l := Eq.trans rfl rfl
theorem vAll_slice (id o n c : Nat) (l : List VV) : vAll (.slice id o n c :: l) = vAll l := Eq.trans rfl rfl
theorem vAll_ptr (id o : Nat) (l : List VV) : vAll (.ptr id o :: l) = vAll l := Eq.trans rfl rfl
theorem vAll_map (id : Nat) (l : List VV) : vAll (.map id :: l) = vAll l := Eq.trans rfl rfl
theorem vAll_fn (f : FuncId) (a b l : List VV) : vAll (.fn f a b :: l) = vAll l := Eq.trans rfl rfl
theorem vAll_nil : vAll [] = true := Eq.trans rfl rfl
theorem vAll_append (a b : List VV) : vAll (a ++ b) = (vAll a && vAll b) := by simp [vAll]
theorem cs_agg (l : List VV) : (VV.agg l).cs = l := Eq.trans rfl rfl
theorem cs_v (x : Value) : (VV.v x).cs = [.v x] := Eq.trans rfl rfl
theorem cs_lst (n : Nat) (xs : List VV) : (VV.lst n xs).cs = [.lst n xs] := Eq.trans rfl rfl
theorem cs_own (z n : Nat) (xs : List VV) (t : Nat) : (VV.own z n xs t).cs = [.own z n xs t] := Eq.trans rfl rfl
theorem cs_slice (id o n c : Nat) : (VV.slice id o n c).cs = [.slice id o n c] := Eq.trans rfl rfl
theorem cs_ptr (id o : Nat) : (VV.ptr id o).cs = [.ptr id o] := Eq.trans rfl rfl
theorem cs_map (id : Nat) : (VV.map id).cs = [.map id] := Eq.trans rfl rfl
theorem cs_fn (f : FuncId) (a b : List VV) : (VV.fn f a b).cs = [.fn f a b] := Eq.trans rfl rfl
theorem vpart_agg (l : List VV) : vpart true l = some (.agg l) := Eq.trans rfl rfl
theorem vpart_one (x : VV) : vpart false [x] = some x := Eq.trans rfl rfl
/-- loads and stores, by what lies there. -/
def vrdB (b : VB) (agg : Bool) (o sz : Nat) : Option VV := match b with
  | .cells c _ _ _ => if o + sz ≤ c.length then vpart agg ((c.drop o).take sz) else none
  | _ => none
theorem vld_ptr (σ : VSt) (agg : Bool) (sz id o : Nat) : vld σ agg sz (.ptr id o) = vrdB (σ.heap id) agg o sz := Eq.trans rfl rfl
theorem vrdB_cells (c : List VV) (t : TypeId) (z b : Nat) (agg : Bool) (o sz : Nat) : vrdB (.cells c t z b) agg o sz = if o + sz ≤ c.length then vpart agg ((c.drop o).take sz) else none := Eq.trans rfl rfl
theorem vld_ep (σ : VSt) (agg : Bool) (sz : Nat) (xs : List VV) (o : Nat) : vld σ agg sz (.ep xs o) = if o + sz ≤ xs.length then vpart agg ((xs.drop o).take sz) else none := Eq.trans rfl rfl
def vstB (σ : VSt) (id sz o : Nat) (cs : List VV) (b : VB) : Option VSt := match b with
  | .cells c t z b => if cs.length = sz ∧ o + sz ≤ c.length ∧ vAll cs = true then some (σ.write id (vsplice c o cs) t z b) else none
  | _ => none
theorem vst_ptr (σ : VSt) (sz id o : Nat) (x : VV) : vst σ sz (.ptr id o) x = vstB σ id sz o x.cs (σ.heap id) := Eq.trans rfl rfl
theorem vstB_cells (σ : VSt) (id sz o : Nat) (cs c : List VV) (t : TypeId) (z b : Nat) : vstB σ id sz o cs (.cells c t z b) = if cs.length = sz ∧ o + sz ≤ c.length ∧ vAll cs = true then some (σ.write id (vsplice c o cs) t z b) else none := Eq.trans rfl rfl
/-- memories. -/
theorem heap_box (σ : VSt) (c : List VV) (t : TypeId) (z j : Nat) : (σ.box c t z).heap j = if j = σ.next then .cells c t z σ.next else σ.heap j := Eq.trans rfl rfl
theorem heap_box_self (σ : VSt) (c : List VV) (t : TypeId) (z : Nat) : (σ.box c t z).heap σ.next = .cells c t z σ.next := by rw [heap_box, if_pos rfl]
theorem heap_box_ne (σ : VSt) (c : List VV) (t : TypeId) (z j : Nat) (h : j ≠ σ.next) : (σ.box c t z).heap j = σ.heap j := by rw [heap_box, if_neg h]
theorem heap_write (σ : VSt) (id : Nat) (c : List VV) (t : TypeId) (z b j : Nat) : (σ.write id c t z b).heap j = if j = id then .cells c t z b else σ.heap j := Eq.trans rfl rfl
theorem heap_write_self (σ : VSt) (id : Nat) (c : List VV) (t : TypeId) (z b : Nat) : (σ.write id c t z b).heap id = .cells c t z b := by rw [heap_write, if_pos rfl]
theorem heap_write_ne (σ : VSt) (id : Nat) (c : List VV) (t : TypeId) (z b j : Nat) (h : j ≠ id) : (σ.write id c t z b).heap j = σ.heap j := by rw [heap_write, if_neg h]
theorem heap_newTok (σ : VSt) : σ.newTok.heap = σ.heap := Eq.trans rfl rfl
theorem heap_useTok (σ : VSt) (t : Nat) : (σ.useTok t).heap = σ.heap := Eq.trans rfl rfl
theorem heap_fresh (σ : VSt) : σ.fresh.heap = σ.heap := Eq.trans rfl rfl
theorem live_fresh (σ : VSt) : σ.fresh.live = σ.live := Eq.trans rfl rfl
theorem next_box (σ : VSt) (c : List VV) (t : TypeId) (z : Nat) : (σ.box c t z).next = σ.next + 1 := Eq.trans rfl rfl
theorem next_write (σ : VSt) (id : Nat) (c : List VV) (t : TypeId) (z b : Nat) : (σ.write id c t z b).next = σ.next := Eq.trans rfl rfl
theorem next_newTok (σ : VSt) : σ.newTok.next = σ.next + 1 := Eq.trans rfl rfl
theorem next_useTok (σ : VSt) (t : Nat) : (σ.useTok t).next = σ.next + 1 := Eq.trans rfl rfl
theorem next_fresh (σ : VSt) : σ.fresh.next = σ.next := Eq.trans rfl rfl
theorem low_box (σ : VSt) (c : List VV) (t : TypeId) (z : Nat) : (σ.box c t z).low = σ.low := Eq.trans rfl rfl
theorem low_write (σ : VSt) (id : Nat) (c : List VV) (t : TypeId) (z b : Nat) : (σ.write id c t z b).low = min σ.low b := Eq.trans rfl rfl
theorem low_newTok (σ : VSt) : σ.newTok.low = σ.low := Eq.trans rfl rfl
theorem low_useTok (σ : VSt) (t : Nat) : (σ.useTok t).low = min σ.low t := Eq.trans rfl rfl
theorem low_fresh (σ : VSt) : σ.fresh.low = σ.next := Eq.trans rfl rfl
theorem live_box (σ : VSt) (c : List VV) (t : TypeId) (z : Nat) : (σ.box c t z).live = σ.live := Eq.trans rfl rfl
theorem live_write (σ : VSt) (id : Nat) (c : List VV) (t : TypeId) (z b : Nat) : (σ.write id c t z b).live = σ.live := Eq.trans rfl rfl
end Go.Proofs.Ytmbbebfpjclghaa

set_option linter.unusedVariables false
set_option linter.unusedSectionVars false
set_option linter.unusedSimpArgs false
namespace Go.Proofs.Ytmbbebfpjclghaa
open Go Go.RowKit

class VEnc (α : Type) where
  w : Nat
  e : α → List VV
  len : ∀ a, (e a).length = w
  all : ∀ a, vAll (e a) = true
  fgd : ∀ a, (e a).map VV.fg = e a
  pos : 0 < w

section
variable {α : Type} [VEnc α]

def vencs (l : List α) : List VV := l.flatMap VEnc.e
theorem vencs_nil : vencs ([] : List α) = [] := rfl
theorem vencs_cons (a : α) (l : List α) : vencs (a :: l) = VEnc.e a ++ vencs l := rfl
theorem vencs_append (l m : List α) : vencs (l ++ m) = vencs l ++ vencs m := by simp [vencs]
theorem vencs_one (a : α) : vencs [a] = VEnc.e a := by simp [vencs]
theorem vencs_length (l : List α) : (vencs l).length = l.length * VEnc.w α := by
  induction l with
  | nil => simp [vencs_nil]
  | cons a l ih => rw [vencs_cons, List.length_append, ih, VEnc.len, List.length_cons, Nat.add_mul]; omega
theorem vencs_fg (l : List α) : (vencs l).map VV.fg = vencs l := by
  induction l with
  | nil => rfl
  | cons a l ih => rw [vencs_cons, List.map_append, ih, VEnc.fgd]
theorem vencs_all (l : List α) : vAll (vencs l) = true := by
  induction l with
  | nil => rfl
  | cons a l ih => rw [vencs_cons, vAll_append, ih, VEnc.all]; rfl
theorem vencs_drop (l : List α) (i : Nat) : (vencs l).drop (i * VEnc.w α) = vencs (l.drop i) := by
  induction i generalizing l with
  | zero => simp
  | succ i ih =>
    cases l with
    | nil => simp [vencs_nil]
    | cons a l =>
      simp only [vencs_cons, List.drop_succ_cons]
      rw [show (i + 1) * VEnc.w α = (VEnc.e a).length + i * VEnc.w α by rw [VEnc.len, Nat.add_mul]; omega, List.drop_append, List.drop_eq_nil_of_le (by omega)]
      simp [ih]
theorem vencs_take (l : List α) (i : Nat) : (vencs l).take (i * VEnc.w α) = vencs (l.take i) := by
  induction i generalizing l with
  | zero => simp [vencs_nil]
  | succ i ih =>
    cases l with
    | nil => simp [vencs_nil]
    | cons a l =>
      simp only [vencs_cons, List.take_succ_cons]
      rw [show (i + 1) * VEnc.w α = (VEnc.e a).length + i * VEnc.w α by rw [VEnc.len, Nat.add_mul]; omega, List.take_append, List.take_of_length_le (by omega)]
      simp [ih]
theorem vencs_part (l : List α) (i : Nat) (hi : i < l.length) (off sz : Nat) (h : off + sz ≤ VEnc.w α) : ((vencs l).drop (i * VEnc.w α + off)).take sz = ((VEnc.e l[i]).drop off).take sz := by
  rw [← List.drop_drop, vencs_drop, List.drop_eq_getElem_cons hi, vencs_cons, List.drop_append, List.take_append, VEnc.len]
  have h0 : ((VEnc.e l[i]).drop off).length = VEnc.w α - off := by simp [VEnc.len]
  rw [h0, show sz - (VEnc.w α - off) = 0 by omega]
  simp
theorem vencs_set (l : List α) (i : Nat) (hi : i < l.length) (a : α) : vsplice (vencs l) (i * VEnc.w α) (VEnc.e a) = vencs (l.set i a) := by
  unfold vsplice
  rw [VEnc.len, vencs_take, show i * VEnc.w α + VEnc.w α = (i + 1) * VEnc.w α by rw [Nat.add_mul, Nat.one_mul], vencs_drop, List.set_eq_take_append_cons_drop, if_pos hi]
  simp [vencs]

/-- a list, read only; one of one's own; a pointer to an element of it. -/
def vl (l : List α) : VV := .lst l.length (vencs l)
def vo (l : List α) (t : Nat) : VV := .own (VEnc.w α) l.length (vencs l) t
def vep (l : List α) (i o : Nat) : VV := .ep (vencs l) (i * VEnc.w α + o)
theorem vl_nil : (vl ([] : List α)) = .lst 0 [] := rfl
theorem fg_vl (l : List α) : (vl l).fg = vl l := by simp only [vl, VV.fg, vencs_fg]
theorem fg_vo (l : List α) (t : Nat) : (vo l t).fg = vl l := by simp only [vl, vo, VV.fg, vencs_fg]
theorem len_vl (l : List α) : vlenv (vl l) = some (vi l.length) := Eq.trans rfl rfl
theorem len_vo (l : List α) (t : Nat) : vlenv (vo l t) = some (vi l.length) := Eq.trans rfl rfl
theorem via_vl {l : List α} {i : Nat} (h : i < l.length) {esz : Nat} (hw : esz = VEnc.w α) : via esz (vl l) (vi i) = some (vep l i 0) := by
  subst hw
  unfold vl via vep
  simp only
  rw [if_pos ⟨by omega, by omega, vencs_length l⟩]
  simp
theorem via_vo {l : List α} {t : Nat} {i : Nat} (h : i < l.length) {esz : Nat} (hw : esz = VEnc.w α) : via esz (vo l t) (vi i) = some (vep l i 0) := by
  subst hw
  unfold vo via vep
  simp only
  rw [if_pos ⟨by omega, by omega, vencs_length l⟩]
  simp
theorem vadd_vep (l : List α) (i o off : Nat) : vadd (vep l i o) off = some (vep l i (o + off)) := by unfold vep vadd; simp [Nat.add_assoc]
theorem vld_vep {σ : VSt} {agg : Bool} {sz : Nat} {l : List α} {i o : Nat} (h : i < l.length) (hw : o + sz ≤ VEnc.w α) : vld σ agg sz (vep l i o) = vpart agg (((VEnc.e l[i]).drop o).take sz) := by
  unfold vep vld
  have hm : i * VEnc.w α + VEnc.w α ≤ l.length * VEnc.w α := by
    have := Nat.mul_le_mul_right (VEnc.w α) (show i + 1 ≤ l.length by omega)
    rw [Nat.add_mul] at this; omega
  simp only
  rw [if_pos (by rw [vencs_length]; omega), vencs_part l i h o sz hw]
theorem vnilck_vep (l : List α) (i o : Nat) : vnilck (vep l i o) = some (vep l i o) := Eq.trans rfl rfl
theorem VLow_vep (l : List α) (i o n0 : Nat) (K : Prop) : @VLow (vep l i o) n0 true ⟨K⟩ = K := VLow_ep _ _ _ _
theorem VLow_vl (l : List α) (n0 : Nat) (K : Prop) : @VLow (vl l) n0 true ⟨K⟩ = K := VLow_lst _ _ _ _
theorem VLow_vo (l : List α) (t n0 : Nat) (K : Prop) : @VLow (vo l t) n0 true ⟨K⟩ = K := VLow_own _ _ _ _ _ _
theorem vcont_vl (σ : VSt) (l : List α) {esz : Nat} (hw : esz = VEnc.w α) : vcont σ esz (vl l) = some (l.length, vencs l) := by subst hw; simp only [vl, vcont, vencs_length, if_true]
theorem vcont_vo (σ : VSt) (l : List α) (t : Nat) {esz : Nat} (hw : esz = VEnc.w α) : vcont σ esz (vo l t) = some (l.length, vencs l) := by subst hw; simp only [vo, vcont, vencs_length, if_true]
theorem cs_vl (l : List α) : (vl l).cs = [vl l] := Eq.trans rfl rfl
theorem cs_vo (l : List α) (t : Nat) : (vo l t).cs = [vo l t] := Eq.trans rfl rfl
theorem vAll_vl (l : List α) (m : List VV) : vAll (vl l :: m) = vAll m := Eq.trans rfl rfl
theorem vAll_vo (l : List α) (t : Nat) (m : List VV) : vAll (vo l t :: m) = vAll m := Eq.trans rfl rfl
theorem vsl_vl {σ : VSt} {l : List α} {esz : Nat} {lo hi : Option VV} {a b : Nat} (hw : esz = VEnc.w α) (h1 : vbound lo 0 = some a) (h2 : vbound hi l.length = some b) (hab : a ≤ b) (hb : b ≤ l.length) : vsl σ esz (vl l) lo hi = some (vl ((l.take b).drop a)) := by
  subst hw
  unfold vl vsl
  simp only [h1, h2]
  rw [if_pos ⟨hab, hb, vencs_length l⟩]
  have e : ((vencs l).drop (a * VEnc.w α)).take ((b - a) * VEnc.w α) = vencs ((l.take b).drop a) := by
    rw [vencs_drop, vencs_take]
    congr 1
    rw [List.drop_take]
  rw [e]
  simp [List.length_drop, List.length_take, Nat.min_eq_left hb]
theorem vsl_vo {σ : VSt} {l : List α} {t esz : Nat} {lo hi : Option VV} {a b : Nat} (hw : esz = VEnc.w α) (h1 : vbound lo 0 = some a) (h2 : vbound hi l.length = some b) (hab : a ≤ b) (hb : b ≤ l.length) : vsl σ esz (vo l t) lo hi = some (vl ((l.take b).drop a)) := by
  have := vsl_vl (σ := σ) hw h1 h2 hab hb
  exact this

theorem vbound_nat (a d : Nat) : vbound (some (vi a)) d = some a := by simp [vbound]
theorem vbound_none (d : Nat) : vbound none d = some d := rfl
theorem vsl_hi {σ : VSt} {l : List α} {esz b : Nat} (hw : esz = VEnc.w α) (hb : b ≤ l.length) : vsl σ esz (vl l) none (some (vi b)) = some (vl (l.take b)) := by
  have := vsl_vl (σ := σ) (l := l) (lo := none) (hi := some (vi b)) hw rfl (vbound_nat b _) (Nat.zero_le _) hb
  simpa using this
theorem vsl_lo {σ : VSt} {l : List α} {esz a : Nat} (hw : esz = VEnc.w α) (ha : a ≤ l.length) : vsl σ esz (vl l) (some (vi a)) none = some (vl (l.drop a)) := by
  have := vsl_vl (σ := σ) (l := l) (lo := some (vi a)) (hi := none) hw (vbound_nat a _) rfl ha (Nat.le_refl _)
  simpa using this
theorem vsl_lohi {σ : VSt} {l : List α} {esz a b : Nat} (hw : esz = VEnc.w α) (hab : a ≤ b) (hb : b ≤ l.length) : vsl σ esz (vl l) (some (vi a)) (some (vi b)) = some (vl ((l.take b).drop a)) :=
  vsl_vl hw (vbound_nat a _) (vbound_nat b _) hab hb
/-- a list of one's own that may be nil: it may be appended to. -/
def App (σ : VSt) (b : Nat) (v : VV) (l : List α) : Prop := (v = .v (.slice none 0 0) ∧ l = []) ∨ ∃ t, v = vo l t ∧ σ.live t = true ∧ b ≤ t ∧ t < σ.next
theorem App.nil (σ : VSt) (b : Nat) : App σ b (.v (.slice none 0 0)) ([] : List α) := .inl ⟨rfl, rfl⟩
theorem App.fg {σ : VSt} {b : Nat} {v : VV} {l : List α} (h : App σ b v l) : v.fg = vl l := by
  rcases h with ⟨rfl, rfl⟩ | ⟨t, rfl, _⟩
  · rw [VV.fg]; rfl
  · exact fg_vo _ _
theorem App.weak {σ : VSt} {b b' : Nat} {v : VV} {l : List α} (h : App σ b v l) (hb : b' ≤ b) : App σ b' v l := by
  rcases h with h | ⟨t, h1, h2, h3, h4⟩
  · exact .inl h
  · exact .inr ⟨t, h1, h2, by omega, h4⟩
theorem App.keep {σ σ' : VSt} {b : Nat} {v : VV} {l : List α} (h : App σ b v l) (hn : σ.next ≤ σ'.next) (hl : ∀ t, t < σ.next → b ≤ t → σ'.live t = σ.live t) : App σ' b v l := by
  rcases h with h | ⟨t, h1, h2, h3, h4⟩
  · exact .inl h
  · exact .inr ⟨t, h1, by rw [hl t h4 h3]; exact h2, h3, by omega⟩
theorem App.sub {σ σ' : VSt} {b : Nat} {v : VV} {l : List α} (h : App σ b v l) (k : Sub σ σ') : App σ' b v l := h.keep k.next fun t ht _ => k.live t ht
theorem App.cs {σ : VSt} {b : Nat} {v : VV} {l : List α} (h : App σ b v l) : v.cs = [v] := by
  rcases h with ⟨rfl, rfl⟩ | ⟨t, rfl, _⟩ <;> rfl
theorem App.all {σ : VSt} {b : Nat} {v : VV} {l : List α} (h : App σ b v l) (m : List VV) : vAll (v :: m) = vAll m := by
  rcases h with ⟨rfl, rfl⟩ | ⟨t, rfl, _⟩ <;> rfl
theorem App.len {σ : VSt} {b : Nat} {v : VV} {l : List α} (h : App σ b v l) : vlenv v = some (vi l.length) := by
  rcases h with ⟨rfl, rfl⟩ | ⟨t, rfl, _⟩ <;> rfl
theorem App.via {σ : VSt} {b : Nat} {v : VV} {l : List α} (h : App σ b v l) {i : Nat} (hi : i < l.length) {esz : Nat} (hw : esz = VEnc.w α) : Go.Proofs.Ytmbbebfpjclghaa.via esz v (vi i) = some (vep l i 0) := by
  rcases h with ⟨rfl, rfl⟩ | ⟨t, rfl, _⟩
  · exact absurd hi (by simp)
  · exact via_vo hi hw
theorem App.cont {σ : VSt} {b : Nat} {v : VV} {l : List α} (h : App σ b v l) (σ' : VSt) {esz : Nat} (hw : esz = VEnc.w α) : vcont σ' esz v = some (l.length, vencs l) := by
  rcases h with ⟨rfl, rfl⟩ | ⟨t, rfl, _⟩
  · rfl
  · exact vcont_vo _ _ _ hw
/-- a value that reads as a list. -/
def Rd (v : VV) (l : List α) : Prop := (v = .v (.slice none 0 0) ∧ l = []) ∨ (∃ t, v = vo l t) ∨ v = vl l
theorem App.rd {σ : VSt} {b : Nat} {v : VV} {l : List α} (h : App σ b v l) : Rd v l := by
  rcases h with h | ⟨t, h, _⟩
  · exact .inl h
  · exact .inr (.inl ⟨t, h⟩)
theorem Rd.vl (l : List α) : Rd (Go.Proofs.Ytmbbebfpjclghaa.vl l) l := .inr (.inr rfl)
theorem Rd.fg {v : VV} {l : List α} (h : Rd v l) : v.fg = Go.Proofs.Ytmbbebfpjclghaa.vl l := by
  rcases h with ⟨rfl, rfl⟩ | ⟨t, rfl⟩ | rfl
  · rw [VV.fg]; rfl
  · exact fg_vo _ _
  · exact fg_vl _
theorem Rd.cs {v : VV} {l : List α} (h : Rd v l) : v.cs = [v] := by
  rcases h with ⟨rfl, rfl⟩ | ⟨t, rfl⟩ | rfl <;> rfl
theorem Rd.all {v : VV} {l : List α} (h : Rd v l) (m : List VV) : vAll (v :: m) = vAll m := by
  rcases h with ⟨rfl, rfl⟩ | ⟨t, rfl⟩ | rfl <;> rfl
theorem Rd.len {v : VV} {l : List α} (h : Rd v l) : vlenv v = some (vi l.length) := by
  rcases h with ⟨rfl, rfl⟩ | ⟨t, rfl⟩ | rfl <;> rfl
theorem Rd.via {v : VV} {l : List α} (h : Rd v l) {i : Nat} (hi : i < l.length) {esz : Nat} (hw : esz = VEnc.w α) : Go.Proofs.Ytmbbebfpjclghaa.via esz v (vi i) = some (vep l i 0) := by
  rcases h with ⟨rfl, rfl⟩ | ⟨t, rfl⟩ | rfl
  · exact absurd hi (by simp)
  · exact via_vo hi hw
  · exact via_vl hi hw
theorem Rd.cont {v : VV} {l : List α} (h : Rd v l) (σ' : VSt) {esz : Nat} (hw : esz = VEnc.w α) : vcont σ' esz v = some (l.length, vencs l) := by
  rcases h with ⟨rfl, rfl⟩ | ⟨t, rfl⟩ | rfl
  · rfl
  · exact vcont_vo _ _ _ hw
  · exact vcont_vl _ _ hw
/-- what an append leaves. -/
structure Pushed (σ : VSt) (b : Nat) (σ' : VSt) : Prop where
  heap : σ'.heap = σ.heap
  next : σ.next ≤ σ'.next
  low : min σ.low b ≤ σ'.low
  low' : σ'.low ≤ σ.low
theorem App.push {σ : VSt} {b : Nat} {v x : VV} {l m : List α} (h : App σ b v l) {esz bytes : Nat} (hx : vcont σ esz x = some (m.length, vencs m)) (hw : esz = VEnc.w α) (hr : (l.length + m.length) * bytes ≤ reach) (hb : 0 < bytes) (hbn : b ≤ σ.next) :
    ∃ r σ', vapp esz bytes v x σ = some (r, σ') ∧ App σ' b r (l ++ m) ∧ Pushed σ b σ' ∧ ∀ t, t < b → σ'.live t = σ.live t := by
  subst hw
  unfold vapp
  rw [hx]
  simp only [Option.bind_some]
  by_cases hm : m.length = 0
  · obtain rfl : m = [] := List.eq_nil_of_length_eq_zero hm
    rcases h with ⟨rfl, rfl⟩ | ⟨t, rfl, h1, h2, h3⟩
    · exact ⟨_, σ, rfl, .inl ⟨rfl, rfl⟩, ⟨rfl, Nat.le_refl _, by omega, Nat.le_refl _⟩, fun _ _ => rfl⟩
    · exact ⟨_, σ, rfl, .inr ⟨t, by rw [List.append_nil]; rfl, h1, h2, h3⟩, ⟨rfl, Nat.le_refl _, by omega, Nat.le_refl _⟩, fun _ _ => rfl⟩
  · rw [if_neg hm, if_pos (by simp [vencs_all, VEnc.pos, hb])]
    rcases h with ⟨rfl, rfl⟩ | ⟨t, rfl, h1, h2, h3⟩
    · simp only
      rw [if_pos (by simpa using hr)]
      refine ⟨_, _, rfl, .inr ⟨σ.next, by rw [vencs_fg]; rfl, by simp [VSt.newTok], hbn, by simp [VSt.newTok]⟩, ⟨rfl, by simp [VSt.newTok], by simp only [VSt.newTok]; omega, Nat.le_refl _⟩, fun t ht => ?_⟩
      simp only [VSt.newTok]
      rw [if_neg (by omega)]
    · unfold vo
      simp only
      rw [if_pos ⟨h1, trivial, hr⟩]
      refine ⟨_, _, rfl, .inr ⟨σ.next, by unfold vo; rw [vencs_fg, vencs_append, List.length_append], by simp [VSt.useTok], hbn, by simp [VSt.useTok]⟩, ⟨rfl, by simp [VSt.useTok], by simp only [VSt.useTok]; omega, by simp only [VSt.useTok]; omega⟩, fun t' ht => ?_⟩
      simp only [VSt.useTok]
      rw [if_neg (by omega), if_neg (by omega)]
end
theorem fg_v (x : Value) (h : ∀ n c, x ≠ .slice none n c) : (VV.v x).fg = .v x := by
  rw [VV.fg]
  unfold fgv
  split
  · exact absurd rfl (h _ _)
  · rfl
theorem fg_int (k : IntKind) (n : Int) : (VV.v (.int k n)).fg = .v (.int k n) := fg_v _ (by simp)
theorem fg_bool (b : Bool) : (VV.v (.bool b)).fg = .v (.bool b) := fg_v _ (by simp)
theorem fg_str (s : ByteArray) : (VV.v (.string s)).fg = .v (.string s) := fg_v _ (by simp)
theorem fg_nilS : (VV.v (.slice none 0 0)).fg = .lst 0 [] := by rw [VV.fg]; rfl
instance encInt : VEnc Int := ⟨1, fun n => [vi n], fun _ => rfl, fun _ => rfl, fun _ => by rw [List.map_cons, List.map_nil, fg_int], by decide⟩
instance encBool : VEnc Bool := ⟨1, fun n => [vb n], fun _ => rfl, fun _ => rfl, fun _ => by rw [List.map_cons, List.map_nil, fg_bool], by decide⟩
theorem wInt : VEnc.w Int = 1 := rfl
theorem eInt (n : Int) : VEnc.e n = [vi n] := rfl
theorem wBool : VEnc.w Bool = 1 := rfl
theorem eBool (n : Bool) : VEnc.e n = [vb n] := rfl

section
variable {P : Program} [Prim P]

/-- What a call of a function that only computes gives. -/
def VD (P : Program) [Prim P] (f : FuncId) (args : List VV) (x : VV) : Prop := ∀ σ, VC P f args σ (fun r σ' => σ.next ≤ σ'.low ∧ r.fg = x)
theorem VG.resFg {g : Go.Fn} {args : List VV} {σ : VSt} {Q : VV → VSt → Prop} (h : VG P g args σ Q) : VG P g args σ (fun v σ' => ∃ v0, v = v0.fg ∧ Q v0 σ') := fun S args' h1 h2 => by
  refine XG.mono (h S args' h1 h2) ?_
  rintro v' S' ⟨v, σ', k1, k2, k3, k4⟩
  exact ⟨v.fg, σ', k1, k2, k3.fg, v, rfl, k4⟩
theorem VCall.data {f : FuncId} {args args2 : List VV} {x : VV} {k : Bool × Bool} {σ : VSt} {K : VV → VSt → Bool → Prop} (h : VC P f args2 σ (fun r σ' => σ.next ≤ σ'.low ∧ r.fg = x)) (hf : FgL args args2) (hq : ∀ σ', Sub σ σ' → K x σ' true) : @VCall P _ f args ⟨(k, σ, K)⟩ := by
  refine VCall.pure (Q := fun v _ => v = x) ?_ (fun _ _ h => h) (fun v σ' h1 h2 => by rw [h1]; exact hq σ' h2)
  refine VG.mono (VG.resFg (VC.fg hf h)) ?_
  rintro v σ' ⟨v0, rfl, h1, h2⟩
  exact ⟨h1, h2⟩
theorem VC.less {f : FuncId} {args args2 : List VV} {σ : VSt} {Q : VV → VSt → Prop} (h : VC P f args2 σ Q) (hf : FgL args args2) : VC P f args σ Q := VC.fg hf h
theorem VCall.dat {f : FuncId} {args args2 : List VV} {x : VV} {k : Bool × Bool} {σ : VSt} {K : VV → VSt → Bool → Prop} (h : VD P f args2 x) (hf : FgL args args2) (hq : ∀ σ', Sub σ σ' → K x σ' true) : @VCall P _ f args ⟨(k, σ, K)⟩ := VCall.data (h σ) hf hq
theorem fg_agg (l : List VV) : (VV.agg l).fg = .agg (l.map VV.fg) := by rw [VV.fg]
theorem fg_tup (l : List VV) : (VV.tup l).fg = .tup (l.map VV.fg) := by rw [VV.fg]
theorem fg_lst (n : Nat) (l : List VV) : (VV.lst n l).fg = .lst n (l.map VV.fg) := by rw [VV.fg]
theorem fg_own (z n t : Nat) (l : List VV) : (VV.own z n l t).fg = .lst n (l.map VV.fg) := by rw [VV.fg]
theorem fg_ptr (id o : Nat) : (VV.ptr id o).fg = .ptr id o := by rw [VV.fg]
theorem fg_map (id : Nat) : (VV.map id).fg = .map id := by rw [VV.fg]
theorem fg_fn (f : FuncId) (a b : List VV) : (VV.fn f a b).fg = .fn f a b := by rw [VV.fg]
theorem fg_slice (id o n c : Nat) : (VV.slice id o n c).fg = .slice id o n c := by rw [VV.fg]
theorem Fg.rfl (a : VV) : Fg a a := .inl (Eq.refl a)
theorem Fg.of {a b : VV} (h : a.fg = b) : Fg a b := .inr h.symm
end
end Go.Proofs.Ytmbbebfpjclghaa

set_option linter.unusedVariables false
set_option linter.unusedSectionVars false
namespace Go.Proofs.Ytmbbebfpjclghaa
open Go Go.RowKit

/-- where a law begins: nothing is written. -/
def VSt.begin (S : St) : VSt := ⟨fun _ => .gone, fun _ => false, S.next, S.next⟩
theorem VSim.begin (S : St) : VSim (.begin S) S := ⟨rfl, fun _ _ => ⟨rfl, rfl⟩, Nat.le_refl _, fun id h => by cases h⟩

theorem vencs_encI (l : List Int) : vencs l = (encs l).map VV.v := by
  induction l with
  | nil => rfl
  | cons a l ih => rw [vencs_cons, ih]; rfl
theorem encs_flatI (l : List Int) : flatL (encs l) = true := by
  induction l with
  | nil => rfl
  | cons a l ih => exact ih
theorem RdS.vl {S : St} {v : Value} {l : List Int} (h : RdS S v l) : VRel (VSt.begin S).G S (vl l) v := by
  rcases h with ⟨rfl, rfl⟩ | ⟨id, o, c, cc, t, mi, an, rfl, hc, hid, hg, hb, he⟩
  · exact .lstNil
  · have hw : Enc.w Int = 1 := rfl
    rw [hw] at hg hb he
    rw [Nat.mul_one] at hb he
    have hlen : (vencs l).length = l.length := by rw [vencs_length]; exact Nat.mul_one _
    refine .lst 1 id o l.length c cc t (vencs l) ⟨hid, rfl⟩ (by rw [hg]; rfl) hc (by rw [hlen, Nat.mul_one]) (by rw [hlen]; exact hb) fun i h1 h2 => ?_
    have hi : i < l.length := by omega
    have e1 : (vencs l)[i]? = some (.v cc[o + i]) := by
      rw [vencs_encI, ← he, List.getElem?_map, List.getElem?_take, if_pos hi, List.getElem?_drop, List.getElem?_eq_getElem h2]; rfl
    rw [List.getElem?_eq_getElem h1, Option.some.injEq] at e1
    rw [e1]
    refine .v _ ?_
    have := encs_flatI l
    rw [← he] at this
    simp only [flatL, List.all_eq_true] at this
    refine this _ ?_
    have e2 : ((cc.drop o).take l.length)[i]? = some cc[o + i] := by
      rw [List.getElem?_take, if_pos hi, List.getElem?_drop, List.getElem?_eq_getElem h2]
    exact List.mem_of_getElem? e2
theorem VRel.int {G : Nat → Prop} {S : St} (n : Int) : VRel G S (vi n) (.int .i64 n) := .v _ rfl
theorem VRel.bool {G : Nat → Prop} {S : St} (b : Bool) : VRel G S (vb b) (.bool b) := .v _ rfl
theorem VD.law {P : Program} [Prim P] {f : FuncId} {args : List VV} {args' : Array Value} {S : St} (h : VD P f args (vb true)) (ha : VRelL (VSt.begin S).G S args args'.toList) :
    XC P f args' S fun r S' => Ext S S' ∧ r = .bool true := by
  refine XG.mono (h (.begin S) S args' (VSim.begin S) ha) ?_
  rintro r S' ⟨v, σ', k1, k2, k3, k4, k5⟩
  refine ⟨⟨?_, fun id hid => (k2.keep id hid (Nat.lt_of_lt_of_le hid k4)).2.2⟩, ?_⟩
  · have := k2.next
    rw [k1.next] at this
    exact this
  · have := k3.fg
    rw [k5] at this
    cases this
    rfl
end Go.Proofs.Ytmbbebfpjclghaa

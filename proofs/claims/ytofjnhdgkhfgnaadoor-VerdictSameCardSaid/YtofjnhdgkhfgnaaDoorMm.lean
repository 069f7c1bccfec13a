/- A region that draws its order: what the abstract machine does in the order of the text, the model does in whatever order. The run of the text. -/
import Derived.Test.YtofjnhdgkhfgnaaDoorMl
namespace Go.Proofs.YtofjnhdgkhfgnaaDoor
open Go Go.RowKit

def anch : XOp → Bool
  | .extra .mkMap _ | .extra (.nilF _) _ | .extra .gload _ | .extra (.lookG _ _) _ => false
  | .store _ _ _ | .append _ _ _ _ _ | .copy _ _ _ | .clr _ _ _ | .call _ _ | .callv _ _ | .extra _ _ => true
  | _ => false
def heapy : XOp → Bool
  | .load _ _ _ | .sl _ _ _ _ => true
  | _ => false
def isAlloc : XOp → Bool
  | .box _ _ | .zero _ _ | .mkSlice _ _ _ _ _ _ | .buildSlice _ _ _ _ _ | .extra .mkMap _ => true
  | _ => false

structure Rec where
  env : Env
  S : St
  w : Bool
  v : Value

def xrun (cl : Caller) : List XOper → Env → St → Option (List Rec × Env × St)
  | [], env, S => some ([], env, S)
  | o :: r, env, S => if xwanted o env then (xstep cl o.op (Env.ev env) S).bind fun p => (xrun cl r (Env.put env o.dst p.1) p.2).map fun q => (⟨env, S, true, p.1⟩ :: q.1, q.2)
    else (xrun cl r (Env.put env o.dst undef) S).map fun q => (⟨env, S, false, undef⟩ :: q.1, q.2)

def recT (R : List Rec) (S' : St) (i : Nat) : St :=
  match R[i]? with
  | some r => r.S
  | none => S'
def recE (R : List Rec) (env' : Env) (i : Nat) : Env :=
  match R[i]? with
  | some r => r.env
  | none => env'

def Emb.below (φ : Emb) (m : Nat) : Emb := ⟨fun id => if id < m then φ id else none, φ.tab⟩
/-- every address in it is of a block below m. -/
def Scoped (m : Nat) (v : Value) : Prop := ∀ φ v', Rel φ v v' → Rel (φ.below m) v v'

def ChkP (d : XDraw) (R : List Rec) (S' : St) : Prop :=
  (∀ i, i < R.length → (recT R S' i).next ≤ (recT R S' (i + 1)).next) ∧
  ∀ i r o, R[i]? = some r → d.ops[i]? = some o → r.w = true → anch o.op = false → ∀ q, q ∈ (d.stages[i]?).getD [] →
    (heapy o.op = true → (∃ S'', xop o.op r.env.ev (recT R S' q) = some (r.v, S'')) ∧ (i < q → Scoped r.S.next r.v)) ∧
    (isAlloc o.op = true → i < q → (recT R S' q).get r.S.next = (recT R S' (i + 1)).get r.S.next)

open Classical in
noncomputable def xdraw : Drawer := fun cl d env S => (xrun cl d.ops env S).bind fun r => if ChkP d r.1 r.2.2 then some r.2 else none

theorem xrun_facts {cl : Caller} : ∀ (xs : List XOper) (env : Env) (S : St) (R : List Rec) (env' : Env) (S' : St), xrun cl xs env S = some (R, env', S') →
    R.length = xs.length ∧ recE R env' 0 = env ∧ recT R S' 0 = S ∧ ∀ i (h : i < xs.length), ∃ r, R[i]? = some r ∧ r.env = recE R env' i ∧ r.S = recT R S' i ∧ r.w = xwanted xs[i] (recE R env' i) ∧
      (r.w = true → xstep cl xs[i].op (recE R env' i).ev (recT R S' i) = some (r.v, recT R S' (i + 1))) ∧ (r.w = false → r.v = undef ∧ recT R S' (i + 1) = recT R S' i) ∧ recE R env' (i + 1) = (recE R env' i).put xs[i].dst r.v := by
  intro xs
  induction xs with
  | nil =>
    intro env S R env' S' h
    simp only [xrun, Option.some.injEq, Prod.mk.injEq] at h
    obtain ⟨rfl, rfl, rfl⟩ := h
    exact ⟨rfl, rfl, rfl, fun i h => by simp at h⟩
  | cons o xs ih =>
    intro env S R env' S' h
    have key : ∀ (wn : Bool) (v : Value) (S1 : St) (R1 : List Rec), R = ⟨env, S, wn, v⟩ :: R1 → xrun cl xs (env.put o.dst v) S1 = some (R1, env', S') → wn = xwanted o env → (wn = true → xstep cl o.op env.ev S = some (v, S1)) → (wn = false → v = undef ∧ S1 = S) →
        R.length = (o :: xs).length ∧ recE R env' 0 = env ∧ recT R S' 0 = S ∧ ∀ i (h : i < (o :: xs).length), ∃ r, R[i]? = some r ∧ r.env = recE R env' i ∧ r.S = recT R S' i ∧ r.w = xwanted (o :: xs)[i] (recE R env' i) ∧
          (r.w = true → xstep cl (o :: xs)[i].op (recE R env' i).ev (recT R S' i) = some (r.v, recT R S' (i + 1))) ∧ (r.w = false → r.v = undef ∧ recT R S' (i + 1) = recT R S' i) ∧ recE R env' (i + 1) = (recE R env' i).put (o :: xs)[i].dst r.v := by
      intro wn v S1 R1 hR h1 hw ht hf
      subst hR
      obtain ⟨l1, l2, l3, l4⟩ := ih _ _ _ _ _ h1
      refine ⟨by simp [l1], rfl, rfl, fun i hi => ?_⟩
      have sT : ∀ j, recT (⟨env, S, wn, v⟩ :: R1) S' (j + 1) = recT R1 S' j := fun j => by simp [recT]
      have sE : ∀ j, recE (⟨env, S, wn, v⟩ :: R1) env' (j + 1) = recE R1 env' j := fun j => by simp [recE]
      cases i with
      | zero =>
        refine ⟨⟨env, S, wn, v⟩, rfl, rfl, rfl, hw, fun h => ?_, fun h => ?_, ?_⟩
        · rw [sT, l3]; exact ht h
        · rw [sT, l3]; exact hf h
        · rw [sE, l2]; rfl
      | succ i =>
        obtain ⟨r, q⟩ := l4 i (by simpa using hi)
        refine ⟨r, ?_⟩
        rw [sT, sT, sE, sE]
        simpa using q
    simp only [xrun] at h
    split at h
    · rename_i hw
      simp only [Option.bind_eq_some_iff, Option.map_eq_some_iff] at h
      obtain ⟨⟨v, S1⟩, h1, ⟨R1, e1, s1⟩, h2, h3⟩ := h
      simp only [Prod.mk.injEq] at h3
      obtain ⟨h3, rfl, rfl⟩ := h3
      exact key true v S1 R1 h3.symm h2 hw.symm (fun _ => h1) (fun x => by cases x)
    · rename_i hw
      simp only [Option.map_eq_some_iff] at h
      obtain ⟨⟨R1, e1, s1⟩, h2, h3⟩ := h
      simp only [Prod.mk.injEq] at h3
      obtain ⟨h3, rfl, rfl⟩ := h3
      exact key false undef S R1 h3.symm h2 (Bool.eq_false_iff.2 hw).symm (fun x => by cases x) (fun _ => ⟨rfl, rfl⟩)

/-- what the operations that have come up leave in a temporary, and how far its addresses reach. -/
def fold (dst : Nat → Option Tmp) (val : Nat → Value) (bd : Nat → Nat) (v0 : Tmp → Value) (b0 : Nat) (dn : Nat → Bool) : Nat → Tmp → Value × Nat
  | 0, t => (v0 t, b0)
  | k + 1, t => if dn k = true ∧ dst k = some t then (val k, bd k) else fold dst val bd v0 b0 dn k t

section
variable {dst : Nat → Option Tmp} {val : Nat → Value} {bd : Nat → Nat} {v0 : Tmp → Value} {b0 : Nat} {dn : Nat → Bool}
theorem fold_read {i : Nat} {t : Tmp} (h1 : ∀ j, j < i → dst j = some t → dn j = true) (h2 : ∀ j, i ≤ j → dst j = some t → dn j = false) : ∀ k, i ≤ k → fold dst val bd v0 b0 dn k t = fold dst val bd v0 b0 (fun _ => true) i t := by
  have a : ∀ k, k ≤ i → fold dst val bd v0 b0 dn k t = fold dst val bd v0 b0 (fun _ => true) k t := by
    intro k
    induction k with
    | zero => intro _; rfl
    | succ k ih =>
      intro hk
      simp only [fold]
      rw [ih (by omega)]
      by_cases hd : dst k = some t
      · simp [hd, h1 k (by omega) hd]
      · simp [hd]
  intro k
  induction k with
  | zero =>
      intro h
      obtain rfl : i = 0 := by omega
      exact a 0 (Nat.le_refl _)
  | succ k ih =>
    intro hk
    by_cases e : i = k + 1
    · rw [← e]; exact a i (Nat.le_refl _)
    · simp only [fold]
      rw [ih (by omega)]
      by_cases hd : dst k = some t
      · simp [h2 k (by omega) hd]
      · simp [hd]
theorem fold_write {dn' : Nat → Bool} {i : Nat} (hdn : ∀ j, dn' j = true ↔ j = i ∨ dn j = true) (h0 : dn i = false) {t : Tmp} (h2 : ∀ j, i < j → dst i = some t → dst j = some t → dn j = false) : ∀ k, i < k →
    fold dst val bd v0 b0 dn' k t = if dst i = some t then (val i, bd i) else fold dst val bd v0 b0 dn k t := by
  have a : ∀ k, k ≤ i → fold dst val bd v0 b0 dn' k t = fold dst val bd v0 b0 dn k t := by
    intro k
    induction k with
    | zero => intro _; rfl
    | succ k ih =>
      intro hk
      simp only [fold]
      rw [ih (by omega)]
      have : dn' k = dn k := by
        rw [Bool.eq_iff_iff, hdn]
        simp; omega
      rw [this]
  intro k
  induction k with
  | zero => intro h; omega
  | succ k ih =>
    intro hk
    by_cases e : i = k
    · subst e
      have hi : dn' i = true := (hdn i).2 (.inl rfl)
      simp only [fold, hi, h0, true_and, Bool.false_eq_true, false_and, if_false]
      rw [a i (Nat.le_refl _)]
    · simp only [fold]
      rw [ih (by omega)]
      have hne : dn' k = dn k := by
        rw [Bool.eq_iff_iff, hdn]
        simp; omega
      rw [hne]
      by_cases hd : dst k = some t
      · by_cases hi : dst i = some t
        · simp [hi, h2 k (by omega) hi hd]
        · simp [hi]
      · simp [hd]
theorem fold_bound {m : Nat → Nat} (h0 : b0 ≤ m 0) (hm : ∀ k, bd k ≤ m (k + 1)) (mono : ∀ k, m k ≤ m (k + 1)) (t : Tmp) : ∀ k, (fold dst val bd v0 b0 (fun _ => true) k t).2 ≤ m k := by
  intro k
  induction k with
  | zero => exact h0
  | succ k ih =>
    simp only [fold]
    split
    · exact hm k
    · exact Nat.le_trans ih (mono k)
end

theorem below_at (φ : Emb) (m id : Nat) : (φ.below m) id = if id < m then φ id else none := rfl
theorem below_le (φ : Emb) (m : Nat) : Emb.le (φ.below m) φ := ⟨fun id s h => by
  rw [below_at] at h
  split at h
  · exact h
  · exact absurd h (by simp), rfl⟩
theorem below_mono {φ ψ : Emb} (h : Emb.le φ ψ) {m m' : Nat} (hm : m ≤ m') : Emb.le (φ.below m) (ψ.below m') := ⟨fun id s e => by
  rw [below_at] at e ⊢
  split at e
  · rw [if_pos (by omega)]; exact h id s e
  · exact absurd e (by simp), h.tab⟩
theorem below_eq {φ : Emb} {m : Nat} (h : ∀ id s, φ id = some s → id < m) : φ.below m = φ := by
  refine Emb.ext' (fun id => ?_) rfl
  rw [below_at]
  split
  · rfl
  · cases e : φ id with
    | none => rfl
    | some s => exact absurd (h id s e) (by assumption)
theorem below_get {φ : Emb} {m id : Nat} (h : id < m) : φ.below m id = φ id := if_pos h
theorem below_some {φ : Emb} {m id : Nat} {s : Spot} (h : φ.below m id = some s) : id < m ∧ φ id = some s := by
  rw [below_at] at h
  split at h
  · exact ⟨by assumption, h⟩
  · cases h
end Go.Proofs.YtofjnhdgkhfgnaaDoor

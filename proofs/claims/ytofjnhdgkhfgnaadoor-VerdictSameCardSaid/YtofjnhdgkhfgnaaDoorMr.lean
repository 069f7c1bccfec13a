/- Regions that draw their order are read, and done. -/
import Derived.Test.YtofjnhdgkhfgnaaDoorMq
namespace Go.Proofs.YtofjnhdgkhfgnaaDoor
open Go Go.RowKit

def closure (A : List (List Nat)) : List (List Nat) := A.foldl (fun acc l => acc ++ [(l ++ l.flatMap fun j => acc.getD j []).eraseDups]) []

def conf (ops : Array Oper) (xs : List XOper) (i k : Nat) : Bool :=
  (match dstF xs i with
   | some t => (looksF ops k).contains t || dstF xs k == some t
   | none => false) ||
  (match dstF xs k with
   | some t => (looksF ops i).contains t
   | none => false)

def drawStatic (ops : Array Oper) (xs : List XOper) (pt : List (List Nat)) : Bool :=
  (List.range ops.size).all fun i => (aftF ops i).all (fun j => decide (j < i)) &&
    (pt.getD i []).all (fun j => (aftF ops i).contains j || (aftF ops i).any fun k => (pt.getD k []).contains j) &&
    (List.range i).all fun j => (!conf ops xs j i || (pt.getD i []).contains j) && (!(anF xs j && anF xs i) || (pt.getD i []).contains j)

def stagesOf (xs : List XOper) (pt : List (List Nat)) (n i : Nat) : List Nat :=
  ((List.range n).filter (anF xs) ++ [n]).filter fun q => (List.range n).all fun k => !anF xs k || ((!decide (k < q) || !(pt.getD k []).contains i) && (!decide (q ≤ k) || !(pt.getD i []).contains k))

/-- which operations of a region must keep what stood, and which may come up ahead of the text. -/
def flagsOf (ops : List XOper) (stages : List (List Nat)) : List ((Bool × Bool) × Bool) :=
  (List.range ops.length).map fun k =>
    (((match ops[k]? with | some o => anch o.op | none => false) && (List.range ops.length).any fun i => (match ops[i]? with | some o => heapy o.op | none => false) && ((stages[i]?).getD []).any fun q => (decide (i ≤ k) && decide (k < q)) || (decide (q ≤ k) && decide (k < i)),
      (match ops[k]? with | some o => anch o.op | none => false) && (List.range ops.length).any fun i => (match ops[i]? with | some o => isAlloc o.op | none => false) && ((stages[i]?).getD []).any fun q => (decide (i ≤ k) && decide (k < q)) || (decide (q ≤ k) && decide (k < i))),
     (match ops[k]? with | some o => heapy o.op | none => false) && ((stages[k]?).getD []).any fun q => decide (q < k))

/-- a region whose order cannot be shown to be of no matter: the machine stands still there. -/
def stuckDraw : XDraw := ⟨[⟨none, stuckOp, none⟩], [], flagsOf [⟨none, stuckOp, none⟩] []⟩
theorem xrun_stuck {cl : Caller} {env : Env} {S : St} {r : List Rec × Env × St} (h : xrun cl stuckDraw.ops env S = some r) : False := by
  have e : xstep cl stuckOp (Env.ev env) S = none := (show xstep cl stuckOp (Env.ev env) S = xop stuckOp (Env.ev env) S from rfl).trans (xop_stuck _ _)
  simp [stuckDraw, xrun, xwanted, e] at h
def trDraw (P : Program) (ops : Array Oper) : Option XDraw :=
  match ops.toList.mapM (trOper P ops) with
  | some xs => if drawStatic ops xs (closure (ops.toList.map aft)) then some ⟨xs, (List.range ops.size).map (stagesOf xs (closure (ops.toList.map aft)) ops.size), flagsOf xs ((List.range ops.size).map (stagesOf xs (closure (ops.toList.map aft)) ops.size))⟩ else some stuckDraw
  | none => none

section
variable {P : Program} {B : Nat} {cl : Caller} {ops : Array Oper} {d : XDraw} {R : List Rec} {env0 : Env} {S0 : St} {env' : Env} {S' : St} {pt : Nat → Nat → Prop}
variable {φ0 φ : Emb} {w0 w : World} {df : List Deferred} {listed : Array Bool} {a : Act} {q : Nat}

theorem trDraw_ctx (hcl : CallOK P B cl) (h : trDraw P ops = some d) (hrun : xrun cl d.ops env0 S0 = some (R, env', S')) (hchk : ChkP d R S') :
    DC P B cl ops d R env0 S0 env' S' (fun i j => j ∈ (closure (ops.toList.map aft)).getD i []) := by
  unfold trDraw at h
  split at h
  case h_2 => cases h
  rename_i xs hxs
  split at h
  case isFalse =>
    obtain rfl := Option.some.inj h
    exact (xrun_stuck hrun).elim
  rename_i hst
  obtain rfl := Option.some.inj h
  simp only [drawStatic, List.all_eq_true, List.mem_range, Bool.and_eq_true, decide_eq_true_eq, Bool.or_eq_true, List.contains_eq_mem, List.any_eq_true, Bool.not_eq_true'] at hst
  refine ⟨hcl, hxs, hrun, hchk, fun i hi => (hst i hi).1.1, fun i hi j hj => ?_, fun i k hik hk hc => ?_, fun i k hik hk h1 h2 => ?_, fun i hi ha q hq h1 h2 => ?_⟩
  · rcases (hst i hi).1.2 j hj with h | ⟨k, h1, h2⟩
    · exact .inl h
    · exact .inr ⟨k, h1, h2⟩
  · have := ((hst k hk).2 i hik).1
    rcases this with h | h
    · exfalso
      have hcf : conf ops xs i k = true := by
        unfold conf
        rcases hc with ⟨t, e1, e2⟩ | ⟨t, e1, e2⟩
        · simp only at e1
          rw [e1]
          rcases e2 with e2 | e2
          · simp [e2]
          · simp [e2]
        · simp only at e1
          rw [e1]
          simp [e2]
      rw [hcf] at h; cases h
    · exact h
  · have := ((hst k hk).2 i hik).2
    rcases this with h | h
    · simp only at h1 h2
      rw [h1, h2] at h; cases h
    · exact h
  · simp only [List.getElem?_map, List.getElem?_range hi, Option.map_some, Option.getD_some, stagesOf, List.mem_filter, List.mem_append, List.mem_range, List.mem_singleton, List.all_eq_true, Bool.or_eq_true, Bool.and_eq_true, Bool.not_eq_true', decide_eq_false_iff_not, List.contains_eq_mem]
    refine ⟨?_, fun k hk => ?_⟩
    · rcases hq with h | h
      · exact .inr h
      · exact .inl h
    · cases hka : anF xs k with
      | false => exact .inl rfl
      | true =>
        right
        constructor
        · by_cases e : k < q
          · exact .inr (h1 k hk hka e)
          · exact .inl e
        · by_cases e : q ≤ k
          · exact .inr (h2 k hk hka e)
          · exact .inl e

def und (listed : Array Bool) : Nat → Nat
  | 0 => 0
  | n + 1 => und listed n + if listed.getD n true then 0 else 1
theorem und_set {i : Nat} (hi : i < listed.size) (hni : listed.getD i true = false) : ∀ n, und (listed.setIfInBounds i true) n + (if i < n then 1 else 0) = und listed n := by
  intro n
  induction n with
  | zero => rfl
  | succ n ih =>
    simp only [und]
    have hs : (listed.setIfInBounds i true).getD n true = if n = i then true else listed.getD n true := by
      have := listed_set (listed := listed) (i := i) (j := n) hi
      by_cases e : n = i
      · rw [if_pos e]; exact this.2 (.inl e)
      · rw [if_neg e, Bool.eq_iff_iff, this]; simp [e]
    rw [hs]
    by_cases e : n = i
    · subst e
      simp only [if_true, Nat.lt_irrefl, if_false] at ih ⊢
      rw [hni]; simp; omega
    · simp only [e, if_false]
      generalize (if listed.getD n true = true then 0 else 1) = z
      by_cases h2 : i < n
      · have h3 : (if i < n + 1 then 1 else 0) = 1 := if_pos (by omega)
        rw [if_pos h2] at ih; rw [h3]; omega
      · have h3 : (if i < n + 1 then 1 else 0) = 0 := if_neg (by omega)
        rw [if_neg h2] at ih; rw [h3]; omega
theorem und_zero : ∀ n, und listed n = 0 → ∀ i, i < n → listed.getD i true = true := by
  intro n
  induction n with
  | zero => intro _ i hi; omega
  | succ n ih =>
    intro h i hi
    simp only [und] at h
    by_cases e : i = n
    · subst e
      cases hl : listed.getD i true with
      | true => rfl
      | false => rw [hl] at h; simp at h
    · exact ih (by omega) i (by omega)
theorem und_le : ∀ n, und listed n ≤ n := by
  intro n
  induction n with
  | zero => exact Nat.le_refl _
  | succ n ih => simp only [und]; split <;> omega

theorem ready_mem {i : Nat} (h : i ∈ Region.ready .any ops listed) : i < ops.size ∧ listed.getD i true = false ∧ ∀ j ∈ aftF ops i, listed.getD j true = true := by
  unfold Region.ready at h
  simp only [List.mem_filter, List.mem_range, Bool.and_eq_true, Bool.not_eq_true'] at h
  obtain ⟨h1, h2, h3⟩ := h
  refine ⟨h1, h2, fun j hj => ?_⟩
  rw [Array.getElem?_eq_getElem h1] at h3
  simp only [Option.map_some, Option.getD_some, Array.all_eq_true'] at h3
  simp only [aftF, Array.getElem?_eq_getElem h1, aft, List.mem_map, List.mem_filter] at hj
  obtain ⟨e, ⟨he, hb⟩, rfl⟩ := hj
  have := h3 e (by simpa using he)
  rw [hb] at this
  simp only [Bool.not_true, Bool.false_or] at this
  rw [Array.getD_eq_getD_getElem?] at this ⊢
  by_cases hlt : e.on < listed.size
  · rw [Array.getElem?_eq_getElem hlt] at this ⊢; exact this
  · rw [Array.getElem?_eq_none (by omega)] at this; cases this

theorem ready_nil (C : DC P B cl ops d R env0 S0 env' S' pt) (hsz : listed.size = ops.size) (h : Region.ready .any ops listed = []) : ∀ i, i < ops.size → listed.getD i true = true := by
  intro i
  induction i using Nat.strongRecOn with
  | _ i ih =>
    intro hi
    cases hl : listed.getD i true with
    | true => rfl
    | false =>
      exfalso
      have hm : i ∈ Region.ready .any ops listed := by
        unfold Region.ready
        simp only [List.mem_filter, List.mem_range, Bool.and_eq_true, Bool.not_eq_true']
        refine ⟨hi, hl, ?_⟩
        rw [Array.getElem?_eq_getElem hi]
        simp only [Option.map_some, Option.getD_some, Array.all_eq_true']
        intro e he
        cases hb : Region.binds .any e with
        | false => rfl
        | true =>
          have hj : e.on ∈ aftF ops i := by
            simp only [aftF, Array.getElem?_eq_getElem hi, aft, List.mem_map, List.mem_filter]
            exact ⟨e, ⟨by simpa using he, hb⟩, rfl⟩
          have hlt := C.c1 i hi _ hj
          have := ih e.on hlt (by omega)
          simp only [Bool.not_true, Bool.false_or]
          rw [Array.getD_eq_getD_getElem?] at this ⊢
          rw [Array.getElem?_eq_getElem (by omega)] at this ⊢
          exact this
      rw [h] at hm; cases hm

theorem any_sound (C : DC P B cl ops d R env0 S0 env' S' pt) (h0 : ∀ id s, φ0 id = some s → id < S0.next) (hBw : B ≤ w0.heap.size) {Q : Exit → Act → World → Prop}
    (hQ : ∀ φ' a' w', EnvR φ' env' a' → Sim B φ' S' w' → Keep B φ0 S0 w0 φ' S' w' → a'.defers = df → Q .normal a' w') (ro : Option Nat) :
    ∀ (fuel : Nat) (listed : Array Bool) (φ : Emb) (a : Act) (w : World) (q : Nat), Inv ops d R env0 S0 S' B φ0 w0 df listed φ a w q → und listed ops.size ≤ fuel → wpAnyIn (fz ro) 0 P .any ops Q fuel listed a w := by
  have done : ∀ (listed : Array Bool) (φ : Emb) (a : Act) (w : World) (q : Nat), Inv ops d R env0 S0 S' B φ0 w0 df listed φ a w q → (∀ i, i < ops.size → listed.getD i true = true) → Q .normal a w := by
    intro listed φ a w q I hall
    have hq : q = ops.size := by
      rcases I.stage.1 with h | ⟨h1, h2⟩
      · exact h
      · have := (I.stage.2 q h1 h2).2 (Nat.le_refl _)
        rw [hall q h1] at this; cases this
    subst hq
    have hdom : ∀ id s, φ id = some s → id < (recT R S' ops.size).next := by
      intro id s e
      rcases Nat.lt_or_ge id (recT R S' ops.size).next with h | h
      · exact h
      · obtain ⟨k, i1, i2, _⟩ := I.early id s e h
        omega
    have hm := I.mem
    rw [below_eq hdom, C.Tn] at hm
    refine hQ φ a w ⟨?_, fun t h1 h2 => ?_⟩ hm.1 hm.2 I.defers
    · have := (C.envs ops.size (Nat.le_refl _)).1
      rw [C.En] at this
      rw [this, I.esize]
    · have he := I.env t h2
      have hE := (C.envs ops.size (Nat.le_refl _)).2 t (by rw [← I.esize]; exact h2)
      rw [C.En, Array.getD_eq_getD_getElem?, Array.getElem?_eq_getElem h1] at hE
      simp only [Option.getD_some] at hE
      have hf : FW d R env0 S0 S' (fun j => listed.getD j true) ops.size t = FW d R env0 S0 S' (fun _ => true) ops.size t := by
        unfold FW
        refine fold_read (i := ops.size) (fun j hj _ => hall j hj) (fun j hj hd => ?_) ops.size (Nat.le_refl _)
        have : dstF d.ops j = none := by simp [dstF, List.getElem?_eq_none (show d.ops.length ≤ j by have := C.len.1; omega)]
        rw [this] at hd; cases hd
      rw [hf, ← hE] at he
      exact he.mono (below_le φ _)
  intro fuel
  induction fuel with
  | zero =>
    intro listed φ a w q I hu
    have hall := und_zero (listed := listed) ops.size (by omega)
    refine ⟨?_, done listed φ a w q I hall⟩
    cases hr : Region.ready .any ops listed with
    | nil => rfl
    | cons i l =>
      have := ready_mem (ops := ops) (listed := listed) (i := i) (by rw [hr]; exact List.mem_cons_self)
      rw [hall i this.1] at this
      cases this.2.1
  | succ fuel ih =>
    intro listed φ a w q I hu
    refine ⟨fun hr => done listed φ a w q I (ready_nil C I.size hr), fun i hi => ?_⟩
    obtain ⟨h1, h2, h3⟩ := ready_mem hi
    refine step_inv C h0 hBw I h1 h2 h3 (fun φ' a' w' q' I' => ih _ φ' a' w' q' I' ?_) ro
    have := und_set (listed := listed) (i := i) (by rw [I.size]; exact h1) h2 ops.size
    rw [if_pos h1] at this
    omega

theorem fold_none {dst : Nat → Option Tmp} {val : Nat → Value} {bd : Nat → Nat} {v0 : Tmp → Value} {b0 : Nat} {dn : Nat → Bool} (t : Tmp) : ∀ k, (∀ j, j < k → dn j = false) → fold dst val bd v0 b0 dn k t = (v0 t, b0) := by
  intro k
  induction k with
  | zero => intro _; rfl
  | succ k ih =>
    intro h
    simp only [fold]
    rw [h k (by omega)]
    simp only [Bool.false_eq_true, false_and, if_false]
    exact ih fun j hj => h j (by omega)

theorem draw_ok (hm : P.follows .mixedOrders = true) : DrawOK P B (trDraw P) xdraw := by
  intro cl hcl ops d hd env S env' S' h id φ a w Q hs hB henv hQ
  unfold xdraw at h
  simp only [Option.bind_eq_some_iff] at h
  obtain ⟨⟨R, env1, S1⟩, hrun, h⟩ := h
  split at h
  case isFalse => cases h
  rename_i hchk
  simp only [Option.some.injEq, Prod.mk.injEq] at h
  obtain ⟨rfl, rfl⟩ := h
  have C := trDraw_ctx hcl hd hrun hchk
  have h0 : ∀ id s, φ id = some s → id < S.next := fun id s e => (hs.dom id s e).1
  intro ro
  refine wpIn_region_any hm ?_
  show wpAnyIn (fz ro) 0 P .any ops Q ops.size (Array.replicate ops.size false) a w.drew
  have hT0 := C.T0
  have hg : ∀ j, j < ops.size → (Array.replicate ops.size false).getD j true = false := fun j hj => by
    rw [Array.getD_eq_getD_getElem?, Array.getElem?_replicate, if_pos hj]; rfl
  have hsk : SK B φ S w (φ.below (recT R S1 0).next) (recT R S1 0) w.drew := by
    rw [hT0, below_eq h0]
    exact ⟨hs.drew, Keep.drew B φ S w⟩
  obtain ⟨q, k1, k2, k3, k4, k5⟩ := advance C (listed := Array.replicate ops.size false) h0 ops.size 0 (by omega) hsk (fun id s e hge => by
    rw [hT0] at hge
    have := h0 id s e
    omega)
  refine any_sound C h0 hB hQ ro ops.size _ φ a w.drew q ⟨by simp, fun i hi h => ?_, ⟨k2, fun k hk hka => ⟨fun h => ?_, fun _ => hg k hk⟩⟩, henv.1.symm, fun t ht => ?_, k4, k5, fun i hi _ b hb _ => ?_, rfl⟩ (und_le _)
  · rw [hg i hi] at h; cases h
  · have := k3 k (by omega) h
    rw [this] at hka; cases hka
  · unfold FW
    rw [fold_none t ops.size hg]
    simp only
    have ht' : t < env.size := by rw [henv.1]; exact ht
    rw [Array.getD_eq_getD_getElem?, Array.getElem?_eq_getElem ht', below_eq h0]
    exact henv.2 t ht' ht
  · cases e : φ (recT R S1 i).next with
    | none => rfl
    | some s =>
      have h1 := h0 _ s e
      have h2 := C.mono' (i := 0) (j := i) (by omega)
      rw [hT0] at h2
      omega
end
end Go.Proofs.YtofjnhdgkhfgnaaDoor

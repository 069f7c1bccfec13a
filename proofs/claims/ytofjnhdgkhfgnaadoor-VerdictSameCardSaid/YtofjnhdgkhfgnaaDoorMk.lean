/- The code of the abstract machine: regions, branches, loops, calls. -/
import Derived.Test.YtofjnhdgkhfgnaaDoorMj
import Derived.Scope
import Derived.Eval
import Derived.ControlIn
import Derived.CallsIn
import Derived.OrdersIn
import Derived.OwnWalkIn
import Derived.RangeFuncRecord
namespace Go.Proofs.YtofjnhdgkhfgnaaDoor
open Go Go.RowKit

abbrev Caller := Go.Fn → Array Value → St → Option (Value × St)

def xwanted (o : XOper) (env : Env) : Bool :=
  match o.guard with
  | none => true
  | some (t, want) => match env[t]? with
    | some (.bool b) => b == want
    | _ => false

def Env.put (env : Env) (dst : Option Tmp) (v : Value) : Env :=
  match dst with
  | some d => env.setIfInBounds d v
  | none => env

def xstep (cl : Caller) (o : XOp) (ρ : Operand → Value) (S : St) : Option (Value × St) :=
  match o with
  | .call f args => cl (.func f) (args.map ρ) S
  | .callv x args => match ρ x with
    | .func g a b => cl g (a ++ args.map ρ ++ b) S
    | _ => none
  | o => xop o ρ S

def xops (cl : Caller) : List XOper → Env → St → Option (Env × St)
  | [], env, S => some (env, S)
  | o :: r, env, S => if xwanted o env then (xstep cl o.op (Env.ev env) S).bind fun p => xops cl r (Env.put env o.dst p.1) p.2 else xops cl r (Env.put env o.dst undef) S

/-- an operand that the abstract machine knows. -/
def okOpd : Operand → Bool
  | .tmp _ => true
  | .const v => flatV v
  | .func _ => true
  | .global _ => false

/-- an operation that the abstract machine cannot do: it stands still there. -/
def stuckOp : XOp := .iaArr 0 0 (.const undef) (.const undef)
theorem xop_stuck (ρ : Operand → Value) (S : St) : xop stuckOp ρ S = none := by
  unfold stuckOp
  simp only [xop]
  split
  · rw [if_neg (by omega)]
  · rfl
def trStuck (o : Oper) : Option XOp := match o.op with
  | .defer _ => none
  | _ => some stuckOp
/-- the constant table is read. -/
def trGl (P : Program) (o : Oper) : Bool := match o.op with
  | .load t (.global g) => gOn && g == gVar && (match P.underlying t, P.info? t with
    | some (.map _ _), some _ => true
    | _, _ => false)
  | _ => false
theorem trGl_inv {P : Program} {o : Oper} (h : trGl P o = true) : gOn = true ∧ ∃ t k e i, o.op = .load t (.global gVar) ∧ P.underlying t = some (.map k e) ∧ P.info? t = some i := by
  unfold trGl at h
  split at h
  case h_2 => cases h
  rename_i t g ho
  simp only [Bool.and_eq_true, beq_iff_eq] at h
  obtain ⟨⟨h1, rfl⟩, h2⟩ := h
  split at h2
  · rename_i k e i e1 e2
    exact ⟨h1, t, k, e, i, ho, e1, e2⟩
  · cases h2
theorem trGl_nodefer {P : Program} {o : Oper} (h : trGl P o = true) (c : Call) : o.op ≠ .defer c := by
  obtain ⟨_, t, k, e, i, ho, _, _⟩ := trGl_inv h
  rw [ho]; intro e; cases e
theorem gload_sound {P : Program} {B : Nat} {φ : Emb} {S : St} {w : World} (hs : Sim B φ S w) {o : Oper} (ht : trGl P o = true) {ρ : Operand → Value} {v : Value} {S' : St} (h : xop (.extra .gload []) ρ S = some (v, S')) (a : Act) : ∃ v', (execOp a.eval o).run P w = .ok (.value v') w ∧ Rel φ v v' ∧ S' = S := by
  obtain ⟨hg, t, k, e, i, ho, hu, hi⟩ := trGl_inv ht
  simp only [xop, xextra, List.map_nil, hg, if_true] at h
  obtain ⟨rfl, rfl⟩ := Prod.mk.inj (Option.some.inj h)
  obtain ⟨b, h1, _, _, ⟨t', fz, h2⟩, _⟩ := hs.loops.1 hg
  refine ⟨.map (some b), ?_, .tab b h1, rfl⟩
  have ha := run_isAgg (P := P) (w := w) t _ hu
  have hl : (loadVar t ⟨gVar, 0, none⟩).run P w = .ok (.map (some b)) w := by
    have hc : w.cell? ⟨gVar, 0, none⟩ = some (.map (some b)) := by simp [World.cell?, h2]
    simp [loadVar, ha, aggD, hc]
  simp [execOp, ho, Act.eval, Instr.loadAt, Instr.sureAddr, hl]
def trX (P : Program) (o : Oper) : Option XOp := if trGl P o = true then some (.extra .gload []) else if o.op.operands.toList.all okOpd then (match tr P o with
  | some x => some x
  | none => trStuck o) else trStuck o
theorem trStuck_inv {o : Oper} {x : XOp} (h : trStuck o = some x) : x = stuckOp ∧ ∀ c, o.op ≠ .defer c := by
  unfold trStuck at h
  split at h
  · cases h
  · rename_i hn
    exact ⟨(Option.some.inj h).symm, fun c e => hn c e⟩
theorem trX_inv {P : Program} {o : Oper} {x : XOp} (h : trX P o = some x) : ((∀ y ∈ o.op.operands, okOpd y = true) ∧ tr P o = some x) ∨ (x = stuckOp ∧ ∀ c, o.op ≠ .defer c) ∨ (trGl P o = true ∧ x = .extra .gload []) := by
  unfold trX at h
  split at h
  · rename_i hg
    exact .inr (.inr ⟨hg, (Option.some.inj h).symm⟩)
  split at h
  · rename_i hopd
    simp only [List.all_eq_true, Array.mem_toList_iff] at hopd
    split at h
    · rename_i y e
      obtain rfl := Option.some.inj h
      exact .inl ⟨hopd, e⟩
    · exact .inr (.inl (trStuck_inv h))
  · exact .inr (.inl (trStuck_inv h))
def trOper (P : Program) (ops : Array Oper) (o : Oper) : Option XOper :=
  match trX P o, o.guard with
  | some xo, none => some ⟨o.dst, xo, none⟩
  | some xo, some (j, want) => match (ops[j]?).bind (·.dst) with
    | some t => some ⟨o.dst, xo, some (t, want)⟩
    | none => none
  | none, _ => none
theorem trOper_inv {P : Program} {ops : Array Oper} {o : Oper} {xo : XOper} (h : trOper P ops o = some xo) : ((∀ y ∈ o.op.operands, okOpd y = true) ∧ tr P o = some xo.op) ∨ (xo.op = stuckOp ∧ ∀ c, o.op ≠ .defer c) ∨ (trGl P o = true ∧ xo.op = .extra .gload []) := by
  unfold trOper at h
  split at h
  · rename_i h1 h2
    obtain rfl := Option.some.inj h
    exact trX_inv h1
  · rename_i h1 h2
    split at h
    · obtain rfl := Option.some.inj h
      exact trX_inv h1
    · cases h
  · cases h

def EnvR (φ : Emb) (env : Env) (a : Act) : Prop := RelA φ env a.tmps

theorem EnvR.mono {φ ψ : Emb} (h : Emb.le φ ψ) {env : Env} {a : Act} (k : EnvR φ env a) : EnvR ψ env a := RelA.mono h k
theorem EnvR.ev {φ : Emb} {env : Env} {a : Act} (h : EnvR φ env a) {x : Operand} (hx : okOpd x = true) : Rel φ (env.ev x) (a.eval x) := by
  cases x with
  | tmp t =>
    simp only [Env.ev, Act.eval, Array.getD_eq_getD_getElem?]
    by_cases ht : t < env.size
    · have ht' : t < a.tmps.size := by rw [← h.1]; exact ht
      rw [Array.getElem?_eq_getElem ht, Array.getElem?_eq_getElem ht']
      exact h.2 t ht ht'
    · have ht' : ¬ t < a.tmps.size := by rw [← h.1]; exact ht
      rw [Array.getElem?_eq_none (Nat.not_lt.1 ht), Array.getElem?_eq_none (Nat.not_lt.1 ht')]
      exact Rel.undef φ
  | const v => exact flatV_rel hx φ
  | func f => exact .func' ⟨rfl, fun i h => by simp at h⟩ ⟨rfl, fun i h => by simp at h⟩
  | global g => cases hx
theorem EnvR.put {φ : Emb} {env : Env} {a : Act} (h : EnvR φ env a) (dst : Option Tmp) {v v' : Value} (hv : Rel φ v v') : EnvR φ (env.put dst v) (a.put dst v') := by
  cases dst with
  | none => exact h
  | some d =>
    refine ⟨by simp [Env.put, Act.put, h.1], fun i h1 h2 => ?_⟩
    simp only [Env.put, Act.put, Array.size_setIfInBounds] at h1 h2 ⊢
    rw [Array.getElem_setIfInBounds (by simpa using h1), Array.getElem_setIfInBounds (by simpa using h2)]
    split
    · exact hv
    · exact h.2 i h1 h2

theorem wanted_rel {φ : Emb} {env : Env} {a : Act} (h : EnvR φ env a) {P : Program} {ops : Array Oper} {o : Oper} {xo : XOper} (ht : trOper P ops o = some xo) : Region.wanted o (yielded ops a.tmps) = xwanted xo env := by
  unfold trOper at ht
  split at ht
  · rename_i x hx hg
    obtain rfl := Option.some.inj ht
    simp [Region.wanted, xwanted, hg]
  · rename_i x j want hx hg
    split at ht
    case h_2 => cases ht
    rename_i t hj
    obtain rfl := Option.some.inj ht
    simp only [Region.wanted, xwanted, hg, yielded, hj, Option.bind_some]
    by_cases hlt : t < env.size
    · have hlt' : t < a.tmps.size := by rw [← h.1]; exact hlt
      have hr := h.2 t hlt hlt'
      rw [Array.getElem?_eq_getElem hlt, Array.getElem?_eq_getElem hlt']
      revert hr
      generalize env[t] = u
      generalize a.tmps[t] = u'
      intro hr
      cases hr <;> simp
    · have hlt' : ¬ t < a.tmps.size := by rw [← h.1]; exact hlt
      rw [Array.getElem?_eq_none (Nat.not_lt.1 hlt'), Array.getElem?_eq_none (Nat.not_lt.1 hlt)]
      simp
  · cases ht

theorem trOper_dst {P : Program} {ops : Array Oper} {o : Oper} {xo : XOper} (h : trOper P ops o = some xo) : xo.dst = o.dst := by
  unfold trOper at h
  split at h
  · obtain rfl := Option.some.inj h; rfl
  · split at h
    · obtain rfl := Option.some.inj h; rfl
    · cases h
  · cases h

theorem List.length_mapM_option {α β : Type} {f : α → Option β} : ∀ {l : List α} {r : List β}, l.mapM f = some r → r.length = l.length := by
  intro l
  induction l with
  | nil => intro r h; simp at h; subst h; rfl
  | cons x l ih =>
    intro r h
    simp only [List.mapM_cons, Option.bind_eq_bind, Option.bind_eq_some_iff] at h
    obtain ⟨y, hy, ys, hys, h⟩ := h
    simp at h
    subst h
    simp [ih hys]
theorem List.getElem_mapM_option {α β : Type} {f : α → Option β} : ∀ {l : List α} {r : List β}, l.mapM f = some r → ∀ i (h : i < l.length) (h' : i < r.length), f l[i] = some r[i] := by
  intro l
  induction l with
  | nil => intro r h i hi; simp at hi
  | cons x l ih =>
    intro r h i hi hi'
    simp only [List.mapM_cons, Option.bind_eq_bind, Option.bind_eq_some_iff] at h
    obtain ⟨y, hy, ys, hys, h⟩ := h
    simp at h
    subst h
    cases i with
    | zero => exact hy
    | succ i => simpa using ih hys i (by simpa using hi) (by simpa using hi')

/-- outside a loop over a function, or in a round of loop l. -/
def fz (r : Option Nat) : Fence := { Fence.wide with round := r }
theorem fz_room (r : Option Nat) (n : Nat) : (fz r).room n := fun _ h => by simp [fz, Fence.wide] at h
theorem callsIn_fz {r : Option Nat} {n : Nat} {P : Program} {f : FuncId} {args : Array Value} {w : World} {R : Ending → World → Prop} : CallsIn (fz r) n P f args w R ↔ Calls P f args w R :=
  (show CallsIn (fz r) n P f args w R ↔ CallsIn Fence.wide n P f args w R from Iff.rfl).trans callsIn_wide

/-- what a call of yield does. -/
def Yields (P : Program) (l : Nat) (args : Array Value) (w : World) (R : Ending → World → Prop) : Prop :=
  ∃ f tmps assign body, (Instr.yield l args).run P w = .ok (.round l f tmps assign body) w ∧ RoundIn Fence.wide 0 P l f tmps assign body w R

/-- how a call ends, on both sides. -/
def OutC (B : Nat) (φ : Emb) (S : St) (w : World) (v : Value) (S' : St) : Ending → World → Prop := fun e w' => ∃ φ' v', e = .returned v' ∧ Rel φ' v v' ∧ Sim B φ' S' w' ∧ Keep B φ S w φ' S' w'

/-- What a function that the abstract machine calls does in the model. -/
def CallOK (P : Program) (B : Nat) (cl : Caller) : Prop :=
  ∀ g args S v S', cl g args S = some (v, S') → match g with
    | .func f => (∃ fn, P.funcs[f]? = some fn ∧ fn.body.isSome = true ∧ (fn.name == "runtime.NumGoroutine") = false) ∧
      ∀ φ w args', RelA φ args args' → Sim B φ S w → B ≤ w.heap.size → Calls P f args' w (OutC B φ S w v S')
    | .yield id => ∀ φ w args', RelA φ args args' → Sim B φ S w → B ≤ w.heap.size → ∀ s, φ id = some s → Yields P s.b args' w (OutC B φ S w v S')
    | _ => False

/-- a scope, inside a fence. -/
theorem wpIn_scope_straight {F : Fence} {n : Nat} {P : Program} {Q : Exit → Act → World → Prop} {a : Act} {w : World} {c : Code} (h : c.wpIn F n P (Exit.noGoto Q) a w) : (Code.scope c).wpIn F n P Q a w := by
  intro b k cs hro hb hr
  have h0 : (lone (b.atR a (.code (.scope c) :: k)) cs w).fenced P F := fenced_calm hb hr rfl
  have s0 : step P (lone (b.atR a (.code (.scope c) :: k)) cs w) = .next (lone (b.atR a (.code c :: .inScope c :: k)) cs w) := step_lone_go (by simp [stepG, stepG.exec, Frame.atR])
  have s1 : ∀ a₁ w₁, step P (lone (b.atR a₁ (.inScope c :: k)) cs w₁) = .next (lone (b.atR a₁ k) cs w₁) := fun a₁ w₁ => step_lone_go (by simp [stepG, stepG.exec, Frame.atR])
  obtain ⟨e, a₁, w₁, hq, harr⟩ := h b (.inScope c :: k) cs hro hb hr
  cases e with
  | normal => exact ⟨.normal, a₁, w₁, hq, .head h0 s0 (StepsIn.trans harr (.one (fenced_calm hb hr rfl) (s1 a₁ w₁)))⟩
  | exit id =>
    have hx : exitTo id (.inScope c :: k) = exitTo id k := by simp [exitTo]
    exact ⟨.exit id, a₁, w₁, hq, fun k' hk => .head h0 s0 (harr.1 k' (by rw [hx]; exact hk)),
      fun hr' hk => let ⟨k₁, h1, h2⟩ := harr.2 hr' (by rw [hx]; exact hk); ⟨k₁, h1, .head h0 s0 h2⟩⟩
  | goto l => exact hq.elim
  | ret => exact ⟨_, a₁, w₁, hq, .of_steps (.one h0 s0) harr⟩
  | panic ch => exact ⟨_, a₁, w₁, hq, .of_steps (.one h0 s0) harr⟩
  | outgrown => exact ⟨_, a₁, w₁, hq, .of_steps (.one h0 s0) harr⟩

section
variable {P : Program} {B : Nat}

theorem RelA.append {φ : Emb} {a b a' b' : Array Value} (h : RelA φ a a') (k : RelA φ b b') : RelA φ (a ++ b) (a' ++ b') := by
  have := (h.toL.append k.toL).toA
  rw [← Array.toList_append, ← Array.toList_append] at this
  simpa only [Array.toArray_toList] using this

theorem RelA.nil (φ : Emb) : RelA φ #[] #[] := ⟨rfl, fun i h => by simp at h⟩
theorem callFunc_run {f : FuncId} {args : Array Value} {fn : Func} {w : World} (hf : P.funcs[f]? = some fn) (hb : fn.body.isSome = true) (hn : (fn.name == "runtime.NumGoroutine") = false) : (callFunc f args).run P w = .ok (.enter f args) w := by
  have hb' : fn.body.isNone = false := by cases h : fn.body <;> simp [h] at hb ⊢
  simp only [callFunc, Sem.run_bind, run_program, Result.andThen_ok, hf, hn, hb', Bool.false_eq_true, if_false, Sem.run_pure]

theorem trEq_ne {neg : Bool} {t : TypeId} {x y : Operand} {xo : XOp} (h : trEq P neg t x y = some xo) : (∀ f args, xo ≠ .call f args) ∧ (∀ x args, xo ≠ .callv x args) := by
  unfold trEq at h
  constructor <;> intro _ _ e <;> subst e <;> (split at h <;> first | (cases h; done) | (split at h <;> first | (cases h; done) | (simp at h; done)))

theorem trEq_ne2 {neg : Bool} {t : TypeId} {x y : Operand} {xo : XOp} (h : trEq P neg t x y = some xo) : (∀ agg sz x, xo ≠ .load agg sz x) ∧ (∀ esz x lo hi, xo ≠ .sl esz x lo hi) := by
  unfold trEq at h
  constructor <;> intros <;> intro e <;> subst e <;> (split at h <;> first | (cases h; done) | (split at h <;> first | (cases h; done) | (simp at h; done)))

theorem tr_heap_inv {o : Oper} {xo : XOp} (h : tr P o = some xo) :
    (∀ agg sz x, xo = .load agg sz x → ∃ t d i, o.op = .load t x ∧ P.underlying t = some d ∧ P.info? t = some i ∧ agg = aggD d ∧ sz = if aggD d then i.size else 1) ∧
    (∀ esz x lo hi, xo = .sl esz x lo hi → ∃ t e j, o.op = .slice t x lo hi none ∧ P.underlying t = some (.slice e) ∧ P.info? e = some j ∧ esz = j.size) := by
  unfold tr at h
  split at h
  case h_6 t x ho =>
    split at h
    case h_2 => cases h
    rename_i d i hd hi
    obtain rfl := Option.some.inj h
    refine ⟨fun agg sz y e => ?_, fun _ _ _ _ e => by cases e⟩
    simp only [XOp.load.injEq] at e
    obtain ⟨rfl, rfl, rfl⟩ := e
    exact ⟨t, d, i, ho, hd, hi, rfl, rfl⟩
  case h_17 t x lo hi ho =>
    split at h
    · rename_i e hu
      simp only [Option.map_eq_some_iff] at h
      obtain ⟨j, hj, rfl⟩ := h
      refine ⟨(fun _ _ _ e => by cases e), fun esz y lo' hi' e2 => ?_⟩
      simp only [XOp.sl.injEq] at e2
      obtain ⟨rfl, rfl, rfl, rfl⟩ := e2
      exact ⟨t, e, j, ho, hu, hj, rfl⟩
    · obtain rfl := Option.some.inj h
      exact ⟨(fun _ _ _ e => by cases e), (fun _ _ _ _ e => by cases e)⟩
    · cases h
  case h_9 => exact ⟨(fun _ _ _ e => ((trEq_ne2 h).1 _ _ _ e).elim), (fun _ _ _ _ e => ((trEq_ne2 h).2 _ _ _ _ e).elim)⟩
  case h_10 => exact ⟨(fun _ _ _ e => ((trEq_ne2 h).1 _ _ _ e).elim), (fun _ _ _ _ e => ((trEq_ne2 h).2 _ _ _ _ e).elim)⟩
  case h_24 =>
    simp only [Option.bind_eq_some_iff] at h
    obtain ⟨⟨e, i, z⟩, _, h⟩ := h
    simp only at h
    split at h
    · constructor <;> intros <;> subst_vars <;> simp at h
    · cases h
  case h_25 c ho =>
    split at h
    case h_2 =>
      simp only [Option.map_eq_some_iff] at h
      obtain ⟨_, _, rfl⟩ := h
      exact ⟨(fun _ _ _ e => by cases e), (fun _ _ _ _ e => by cases e)⟩
    rename_i x0 hc0
    obtain rfl := Option.some.inj h
    replace h := hc0
    clear hc0
    unfold trCall at h
    constructor
    · intro agg sz x e
      subst e
      split at h
      · split at h <;> cases h
      · split at h <;> simp at h
      · simp at h
      · simp at h
      · cases h
      · cases h
      · split at h
        · split at h <;> cases h
        · cases h
      · cases h
      · cases h
    · intro esz x lo hi e
      subst e
      split at h
      · split at h <;> cases h
      · split at h <;> simp at h
      · simp at h
      · simp at h
      · cases h
      · cases h
      · split at h
        · split at h <;> cases h
        · cases h
      · cases h
      · cases h
  all_goals
    constructor <;> intros <;> subst_vars <;> exfalso
    all_goals first
      | (cases h; done)
      | (simp at h; done)
      | (split at h <;> first | (cases h; done) | (simp at h; done) | (split at h <;> first | (cases h; done) | (simp at h; done) | (split at h <;> first | (cases h; done) | (simp at h; done))))

theorem tr_call_inv {o : Oper} {xo : XOp} (h : tr P o = some xo) :
    (∀ f args, xo = .call f args → ∃ T, o.op = .call { callee := .value (.func f), args, argTypes := T }) ∧ (∀ x args, xo = .callv x args → ∃ T, o.op = .call { callee := .value x, args, argTypes := T }) := by
  unfold tr at h
  split at h
  case h_25 c ho =>
    obtain ⟨callee, cargs, T⟩ := c
    split at h
    case h_2 =>
      simp only [Option.map_eq_some_iff] at h
      obtain ⟨_, _, rfl⟩ := h
      exact ⟨(fun _ _ e => by cases e), (fun _ _ e => by cases e)⟩
    rename_i x0 hc0
    obtain rfl := Option.some.inj h
    replace h := hc0
    clear hc0
    unfold trCall at h
    simp only at h
    constructor
    · intro f args e
      subst e
      split at h
      · split at h <;> cases h
      · split at h <;> simp at h
      · simp at h
      · simp at h
      · cases h
      · cases h
      · split at h
        · split at h
          · simp only [Option.some.injEq, XOp.call.injEq] at h
            obtain ⟨rfl, rfl⟩ := h
            exact ⟨_, ho⟩
          · cases h
        · cases h
      · cases h
      · cases h
    · intro x args e
      subst e
      split at h
      · split at h <;> cases h
      · split at h <;> simp at h
      · simp at h
      · simp at h
      · cases h
      · cases h
      · split at h
        · split at h <;> cases h
        · cases h
      · simp only [Option.some.injEq, XOp.callv.injEq] at h
        obtain ⟨rfl, rfl⟩ := h
        exact ⟨_, ho⟩
      · cases h
  case h_9 => exact ⟨fun f args e => ((trEq_ne h).1 f args e).elim, fun x args e => ((trEq_ne h).2 x args e).elim⟩
  case h_10 => exact ⟨fun f args e => ((trEq_ne h).1 f args e).elim, fun x args e => ((trEq_ne h).2 x args e).elim⟩
  case h_24 =>
    simp only [Option.bind_eq_some_iff] at h
    obtain ⟨⟨e, i, z⟩, _, h⟩ := h
    simp only at h
    split at h
    · constructor <;> intro _ _ e <;> subst e <;> simp at h
    · cases h
  all_goals
    constructor <;> intro _ _ e <;> subst e <;> exfalso
    all_goals first
      | (cases h; done)
      | (simp at h; done)
      | (split at h <;> first | (cases h; done) | (simp at h; done) | (split at h <;> first | (cases h; done) | (simp at h; done) | (split at h <;> first | (cases h; done) | (simp at h; done))))

/-- one operation. -/
theorem step_sound' {r : Option Nat} {cl : Caller} (hcl : CallOK P B cl) {φ : Emb} {S : St} {w : World} (hs : Sim B φ S w) (hB : B ≤ w.heap.size) {ρ : Operand → Value} {a : Act} {ops : Array Oper} {o : Oper} {xo : XOper} (ht : trOper P ops o = some xo) (hρ : ∀ x ∈ o.op.operands, okOpd x = true → Rel φ (ρ x) (a.eval x)) {v : Value} {S' : St}
    (h : xstep cl xo.op ρ S = some (v, S')) {K : Act → World → Prop} {Q : Exit → Act → World → Prop}
    (hK : ∀ φ' v' w', Rel φ' v v' → Sim B φ' S' w' → Keep B φ S w φ' S' w' → K (a.put o.dst v') w') : o.wpIn (fz r) 0 P a w K Q := by
  rcases trOper_inv ht with ⟨hopd, htr⟩ | ⟨hst, _⟩ | ⟨hgl, hst⟩
  case inr.inl =>
    rw [hst] at h
    have h : xop stuckOp ρ S = some (v, S') := h
    rw [xop_stuck] at h
    cases h
  case inr.inr =>
    rw [hst] at h
    have h : xop (.extra .gload []) ρ S = some (v, S') := h
    obtain ⟨v', h1, h2, rfl⟩ := gload_sound hs hgl h a
    unfold Oper.wpIn
    rw [Oper.semAt_eq _ _ _ (trGl_nodefer hgl)]
    refine ⟨fun _ _ => trivial, ?_⟩
    rw [h1]
    exact hK φ v' w h2 hs (Keep.refl _ _ _ _)
  have hρ : ∀ x ∈ o.op.operands, Rel φ (ρ x) (a.eval x) := fun x hx => hρ x hx (hopd x hx)
  have hnd : ∀ c, o.op ≠ .defer c := by
    intro c hc
    unfold tr at htr
    rw [hc] at htr
    simp [trExtra] at htr
  unfold Oper.wpIn
  rw [Oper.semAt_eq _ _ _ hnd]
  refine ⟨fun _ _ => trivial, ?_⟩
  unfold xstep at h
  have hcall : ∀ (f : FuncId) (args args' : Array Value), RelA φ args args' → cl (.func f) args S = some (v, S') → (execOp a.eval o).run P w = .ok (.enter f args') w → o.uponIn (fz r) 0 P a K Q ((execOp a.eval o).run P w) := by
    intro f args args' hargs hc hr
    rw [hr]
    simp only [Oper.uponIn]
    refine ⟨fun hd => by simp [fz, Fence.wide] at hd, callsIn_fz.2 ((((hcl _ args S v S' hc).2) φ w args' hargs hs hB).mono ?_)⟩
    rintro e w' ⟨φ', v', rfl, h1, h2, h3⟩
    exact hK φ' v' w' h1 h2 h3
  have hyield : ∀ (id : Nat) (s : Spot) (args args' : Array Value), RelA φ args args' → cl (.yield id) args S = some (v, S') → φ id = some s → (execOp a.eval o).run P w = (Instr.yield s.b args').run P w → o.uponIn (fz r) 0 P a K Q ((execOp a.eval o).run P w) := by
    intro id s args args' hargs hc hid hr
    obtain ⟨f, tmps, assign, body, hy, hround⟩ := (hcl _ args S v S' hc) φ w args' hargs hs hB s hid
    rw [hr, hy]
    simp only [Oper.uponIn]
    refine ⟨fun hd => by simp [fz, Fence.wide] at hd, RoundIn.mono (F := fz r) hround ?_⟩
    rintro e w' ⟨φ', v', rfl, h1, h2, h3⟩
    exact hK φ' v' w' h1 h2 h3
  split at h
  · -- a function by its name
    rename_i f args hop
    rw [hop] at htr
    obtain ⟨argTypes, hoc⟩ := (tr_call_inv htr).1 f args rfl
    obtain ⟨fn, h1, h2, h3⟩ := (hcl _ _ S v S' h).1
    refine hcall f _ (args.map a.eval) (rel_argsA fun x hx => hρ x (by simp [hoc, Op.operands, Call.operands, hx])) h ?_
    simp [execOp, hoc, resolve, Deferred.ofValue, Act.eval, invoke, callFunc_run h1 h2 h3]
  · rename_i x args hop
    rw [hop] at htr
    obtain ⟨argTypes, hoc⟩ := (tr_call_inv htr).2 x args rfl
    split at h
    case h_2 => cases h
    rename_i g fa fb hx
    have hxr := hρ x (by simp [hoc, Op.operands, Call.operands])
    rw [hx] at hxr
    cases g with
    | func f =>
      obtain ⟨fa', fb', e, ha, hb⟩ : ∃ fa' fb', a.eval x = .func (.func f) fa' fb' ∧ RelA φ fa fa' ∧ RelA φ fb fb' := by
        revert hxr
        generalize a.eval x = u
        intro hxr
        cases hxr with
        | func _ _ _ a' b' ha hb h1 h2 => exact ⟨a', b', rfl, ⟨ha, h1⟩, ⟨hb, h2⟩⟩
      obtain ⟨fn, h1, h2, h3⟩ := (hcl _ _ S v S' h).1
      refine hcall f _ (fa' ++ args.map a.eval ++ fb') ((ha.append (rel_argsA fun x hx => hρ x (by simp [hoc, Op.operands, Call.operands, hx]))).append hb) h ?_
      simp [execOp, hoc, resolve, Deferred.ofValue, e, invoke, callFunc_run h1 h2 h3]
    | yield id =>
      obtain ⟨s, hid, e, rfl, rfl⟩ : ∃ s, φ id = some s ∧ a.eval x = .func (.yield s.b) #[] #[] ∧ fa = #[] ∧ fb = #[] := by
        revert hxr
        generalize a.eval x = u
        intro hxr
        cases hxr with
        | yield _ s hid => exact ⟨s, hid, rfl, rfl, rfl⟩
      refine hyield id s _ (#[] ++ args.map a.eval ++ #[]) (RelA.append (RelA.append (RelA.nil φ) (rel_argsA fun x hx => hρ x (by simp [hoc, Op.operands, Call.operands, hx]))) (RelA.nil φ)) h hid ?_
      simp [execOp, hoc, resolve, Deferred.ofValue, e, invoke]
    | method n => exact ((hcl _ _ S v S' h) : False).elim
    | methodOf t n => exact ((hcl _ _ S v S' h) : False).elim
    | via t p f q => exact ((hcl _ _ S v S' h) : False).elim
  · rename_i n1 n2
    obtain ⟨φ', v', w', hr, h1, h2, h3⟩ := tr_sound hs hB htr hρ h
    rcases hr with hr | ⟨hr, rfl⟩
    · rw [hr]; exact hK φ' v' w' h1 h2 h3
    · rw [hr]; exact hK φ' undef w' h1 h2 h3

theorem step_sound {r : Option Nat} {cl : Caller} (hcl : CallOK P B cl) {φ : Emb} {S : St} {w : World} (hs : Sim B φ S w) (hB : B ≤ w.heap.size) {env : Env} {a : Act} (henv : EnvR φ env a) {ops : Array Oper} {o : Oper} {xo : XOper} (ht : trOper P ops o = some xo) {v : Value} {S' : St}
    (h : xstep cl xo.op env.ev S = some (v, S')) {K : Act → World → Prop} {Q : Exit → Act → World → Prop}
    (hK : ∀ φ' v' w', Rel φ' v v' → Sim B φ' S' w' → Keep B φ S w φ' S' w' → K (a.put o.dst v') w') : o.wpIn (fz r) 0 P a w K Q :=
  step_sound' hcl hs hB ht (fun _ _ hok => henv.ev hok) h hK

/-- the operations of a region, in the order of the text. -/
theorem ops_sound {r : Option Nat} {cl : Caller} (hcl : CallOK P B cl) {ops : Array Oper} {xs : List XOper} (hx : ops.toList.mapM (trOper P ops) = some xs) {Q : Exit → Act → World → Prop} :
    ∀ (m k : Nat) (env : Env) (S : St) (env' : Env) (S' : St) (φ : Emb) (a : Act) (w : World), k + m = ops.size → xops cl (xs.drop k) env S = some (env', S') → Sim B φ S w → B ≤ w.heap.size → EnvR φ env a →
      (∀ φ' a' w', EnvR φ' env' a' → Sim B φ' S' w' → Keep B φ S w φ' S' w' → a'.defers = a.defers → Q .normal a' w') → wpOpsIn (fz r) 0 P ops Q (List.range' k m) a w := by
  have hlen : xs.length = ops.size := by
    have := List.length_mapM_option hx
    simpa using this
  intro m
  induction m with
  | zero =>
    intro k env S env' S' φ a w hk h hs hB henv hQ
    rw [List.drop_of_length_le (by omega)] at h
    simp only [xops, Option.some.injEq, Prod.mk.injEq] at h
    obtain ⟨rfl, rfl⟩ := h
    exact hQ φ a w henv hs (Keep.refl _ _ _ _) rfl
  | succ m ih =>
    intro k env S env' S' φ a w hk h hs hB henv hQ
    have hko : k < ops.size := by omega
    have hkx : k < xs.length := by omega
    have hto : trOper P ops ops[k] = some xs[k] := by
      have := List.getElem_mapM_option hx k (by simpa using hko) hkx
      simpa using this
    rw [List.range'_succ, wpOpsIn_cons, wpOpIn]
    rw [List.drop_eq_getElem_cons hkx, xops] at h
    rw [Array.getElem?_eq_getElem hko]
    simp only
    rw [wanted_rel henv hto]
    have hdst : xs[k].dst = ops[k].dst := trOper_dst hto
    split at h
    · rename_i hw
      rw [if_pos hw]
      simp only [Option.bind_eq_some_iff] at h
      obtain ⟨⟨v, S1⟩, h1, h2⟩ := h
      refine step_sound hcl hs hB henv hto h1 fun φ1 v1 w1 k1 k2 k3 => ?_
      refine ih (k + 1) (env.put xs[k].dst v) S1 env' S' φ1 _ w1 (by omega) h2 k2 (Nat.le_trans hB k3.size) (by rw [hdst]; exact (henv.mono k3.le).put _ k1) fun φ' a' w' q1 q2 q3 q4 => hQ φ' a' w' q1 q2 (k3.trans q3) (by rw [q4]; cases ops[k].dst <;> rfl)
    · rename_i hw
      rw [if_neg hw]
      refine ⟨fun _ _ => trivial, ?_⟩
      refine ih (k + 1) (env.put xs[k].dst undef) S env' S' φ _ w (by omega) h hs hB (by rw [hdst]; exact henv.put _ (Rel.undef φ)) fun φ' a' w' q1 q2 q3 q4 => hQ φ' a' w' q1 q2 q3 (by rw [q4]; cases ops[k].dst <;> rfl)
end
end Go.Proofs.YtofjnhdgkhfgnaaDoor

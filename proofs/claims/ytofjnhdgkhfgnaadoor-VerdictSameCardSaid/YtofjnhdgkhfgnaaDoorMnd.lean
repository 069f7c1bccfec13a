/- A logic for functions whose run is not determined: walks through maps. What is said is shown of the model at once. -/
import Derived.Test.YtofjnhdgkhfgnaaDoorMx
set_option linter.unusedVariables false
namespace Go.Proofs.YtofjnhdgkhfgnaaDoor
open Go Go.RowKit

/-- how a call ends, on both sides. -/
def NOut (B : Nat) (φ : Emb) (S : St) (w : World) (K : Value → St → Prop) : Ending → World → Prop := fun e w' => ∃ v S', OutC B φ S w v S' e w' ∧ WS S' ∧ S.next ≤ S'.next ∧ Sc S'.next v ∧ K v S'

/-- What a call does in the model. -/
def NG (P : Program) (B : Nat) (g : Go.Fn) (args : Array Value) (S : St) (K : Value → St → Prop) : Prop :=
  WS S → ScL S.next args.toList → match g with
  | .func f => (∃ fn, P.funcs[f]? = some fn ∧ fn.body.isSome = true ∧ (fn.name == "runtime.NumGoroutine") = false) ∧ ∀ φ w args', RelA φ args args' → Sim B φ S w → B ≤ w.heap.size → Calls P f args' w (NOut B φ S w K)
  | .yield id => ∀ φ w args', RelA φ args args' → Sim B φ S w → B ≤ w.heap.size → ∀ s, φ id = some s → Yields P s.b args' w (NOut B φ S w K)
  | _ => False

theorem NOut.mono {B : Nat} {φ : Emb} {S : St} {w : World} {K K' : Value → St → Prop} (h : ∀ v S', K v S' → K' v S') {e : Ending} {w' : World} (k : NOut B φ S w K e w') : NOut B φ S w K' e w' := by
  obtain ⟨v, S', h1, h2, h3, h4, h5⟩ := k
  exact ⟨v, S', h1, h2, h3, h4, h _ _ h5⟩

theorem Yields.mono {P : Program} {l : Nat} {args : Array Value} {w : World} {R R' : Ending → World → Prop} (h : Yields P l args w R) (hr : ∀ e w', R e w' → R' e w') : Yields P l args w R' := by
  obtain ⟨f, tmps, a, b, h1, h2⟩ := h
  exact ⟨f, tmps, a, b, h1, RoundIn.mono (F := Fence.wide) h2 hr⟩

theorem NG.mono {P : Program} {B : Nat} {g : Go.Fn} {args : Array Value} {S : St} {K K' : Value → St → Prop} (h : NG P B g args S K) (hk : ∀ v S', K v S' → K' v S') : NG P B g args S K' := fun h1 h2 => by
  have := h h1 h2
  cases g with
  | func f => exact ⟨this.1, fun φ w args' a b c => (this.2 φ w args' a b c).mono fun e w' => NOut.mono hk⟩
  | yield id => exact fun φ w args' a b c s d => (this φ w args' a b c s d).mono fun e w' => NOut.mono hk
  | _ => exact this

/-- what the machine does, the model does. -/
theorem NG.of {P : Program} [Prim P] (hm : P.follows .mixedOrders = true) {B : Nat} {g : Go.Fn} {args : Array Value} {S : St} {K : Value → St → Prop} (h : XG P g args S K) : NG P B g args S K := fun h1 h2 => by
  obtain ⟨n, v, S', h3, h4⟩ := h h1 h2
  have hws := xcall_ws P n g args S v S' h3 h1 h2
  have := call_sound (P := P) (B := B) (draw_ok hm) (F := XF P) (fun f xf hf => (XF_wf hf).2) (LT := XL P) (fun L x h => (XL_wf h).1) (base := Prim.run P) (Prim.ok B) n g args S v S' h3
  cases g with
  | func f => exact ⟨this.1, fun φ w args' a b c => (this.2 φ w args' a b c).mono fun e w' hh => ⟨v, S', hh, hws.1, hws.2.1, hws.2.2, h4⟩⟩
  | yield id => exact fun φ w args' a b c s d => (this φ w args' a b c s d).mono fun e w' hh => ⟨v, S', hh, hws.1, hws.2.1, hws.2.2, h4⟩
  | _ => exact this

/-- the next entry of a map: whichever is left. -/
def NNext (v : Value) (S : St) (K : Value → St → Prop) : Prop := ∃ id, v = .pointer (some ⟨id, 0, none⟩) ∧
  ((∃ s l c, S.get id = .obj (.mapIter none s l c) ∧ K (.tuple #[.bool false]) S) ∨
  ∃ m cl seen es, S.get id = .obj (.mapIter (some m) cl seen cl) ∧ S.get m = .obj (.map es cl) ∧ (∀ e ∈ es, e.2.2 < cl) ∧
    ((∀ e ∈ es, e.2.2 ∈ seen) → K (.tuple #[.bool false]) S) ∧ ∀ e ∈ es, e.2.2 ∉ seen → K (.tuple #[.bool true, e.1, e.2.1]) (S.put id (.mapIter (some m) cl (seen ++ [e.2.2]) cl)))

/-- What an operation does. -/
def NS (P : Program) (B : Nat) (o : XOp) (ρ : Operand → Value) (S : St) (K : Value → St → Prop) : Prop :=
  match o with
  | .call f args => NG P B (.func f) (args.map ρ) S K
  | .callv x args => ∃ g a b, ρ x = .func g a b ∧ NG P B g (a ++ args.map ρ ++ b) S K
  | .extra .nextMap [x] => NNext (ρ x) S K
  | o => ∃ v S', xop o ρ S = some (v, S') ∧ K v S'

def NO (P : Program) (B : Nat) : List XOper → FEnv → St → (FEnv → St → Prop) → Prop
  | [], fe, S, Q => Q fe S
  | o :: r, fe, S, Q => if fwant fe o.guard = true then NS P B o.op (fev fe) S (fun v S' => NO P B r (updO fe o.dst v) S' Q) else NO P B r (updO fe o.dst undef) S Q

def NW (P : Program) [Prim P] (B : Nat) : XCode → FEnv → St → (Ex → FEnv → St → Prop) → Prop
  | .skip, fe, S, Q => Q .normal fe S
  | .region ops, fe, S, Q => NO P B ops fe S (Q .normal)
  | .draw d, fe, S, Q => XW P (.draw d) fe S Q
  | .seq a b, fe, S, Q => NW P B a fe S (fun e fe' S' => match e with
    | .normal => NW P B b fe' S' Q
    | e => Q e fe' S')
  | .cond c x y, fe, S, Q => ∃ b, fev fe c = .bool b ∧ (b = true → NW P B x fe S Q) ∧ (b = false → NW P B y fe S Q)
  | .block id c, fe, S, Q => NW P B c fe S (fun e fe' S' => match e with
    | .exit id' => if id' = id then Q .normal fe' S' else Q (.exit id') fe' S'
    | e => Q e fe' S')
  | .loop c, fe, S, Q => ∃ (I : FEnv → St → Prop) (μ : FEnv → St → Nat), I fe S ∧ ∀ fe S, I fe S → NW P B c fe S (fun e fe' S' => match e with
    | .normal => I fe' S' ∧ μ fe' S' < μ fe S
    | e => Q e fe' S')
  | .exit id, fe, S, Q => Q (.exit id) fe S
  | .ret, fe, S, Q => Q .ret fe S
  | .range x L, fe, S, Q => ∃ g a b, fev fe x = .func (.func g) a b ∧ ∀ env : Array Value, toF env = fe → L.n ≤ env.size → NG P B (.func g) (a ++ #[Value.func (.yield S.next) #[] #[]] ++ b) (S.alloc (.loop env L none)) (fun _ S2 => ∃ env2 L2 pe, S2.get S.next = .loop env2 L2 pe ∧ Q (pe.getD .normal) fe (S2.put S.next .gone))

section
variable {P : Program} {B : Nat}

theorem trEq_ne3 {neg : Bool} {t : TypeId} {x y : Operand} {xo : XOp} (h : trEq P neg t x y = some xo) : ∀ l, xo ≠ .extra .nextMap l := by
  unfold trEq at h
  intro _ e
  subst e
  split at h <;> first | (cases h; done) | (split at h <;> first | (cases h; done) | (simp at h; done))

theorem tr_next_inv {o : Oper} {x : Operand} (h : tr P o = some (.extra .nextMap [x])) : o.op = .next x false := by
  have key : ∀ op : Op, trExtra P op = some (.nextMap, [x]) → op = .next x false := by
    intro op h
    unfold trExtra at h
    split at h
    case h_9 it =>
      simp only [Option.some.injEq, Prod.mk.injEq, List.cons.injEq, true_and, and_true] at h
      rw [h]
    case h_11 =>
      split at h
      · split at h <;> simp at h
      · split at h <;> simp at h
      · simp only [Option.map_eq_some_iff] at h
        obtain ⟨⟨_, _, _⟩, _, h⟩ := h
        simp at h
      · cases h
    case h_7 =>
      split at h <;> simp at h
    case h_2 =>
      split at h
      · simp only [Option.map_eq_some_iff] at h
        obtain ⟨_, _, h⟩ := h
        simp at h
      · simp only [Option.map_eq_some_iff, Option.bind_eq_some_iff] at h
        obtain ⟨⟨_, _, _⟩, _, _, _, h⟩ := h
        simp at h
    all_goals first
      | (simp at h; done)
      | (simp only [Option.map_eq_some_iff, Option.bind_eq_some_iff] at h; obtain ⟨⟨_, _, _⟩, _, _, _, h⟩ := h; simp at h; done)
      | (simp only [Option.map_eq_some_iff] at h; obtain ⟨⟨_, _, _⟩, _, h⟩ := h; simp at h; done)
  have key2 : ∀ op : Op, (trExtra P op).map (fun (e, l) => XOp.extra e l) = some (.extra .nextMap [x]) → op = .next x false := by
    intro op h
    simp only [Option.map_eq_some_iff] at h
    obtain ⟨⟨e, l⟩, h1, h2⟩ := h
    simp only [XOp.extra.injEq] at h2
    obtain ⟨rfl, rfl⟩ := h2
    exact key op h1
  unfold tr at h
  split at h
  case h_25 c ho =>
    split at h
    case h_2 => exact ho.trans (key2 _ h)
    rename_i x0 hc0
    obtain rfl := Option.some.inj h
    exfalso
    revert hc0
    obtain ⟨callee, cargs, T⟩ := c
    intro hc0
    unfold trCall at hc0
    simp only at hc0
    split at hc0 <;> first | (cases hc0; done) | (simp at hc0; done) | (split at hc0 <;> first | (cases hc0; done) | (simp at hc0; done))
  case h_26 => exact key2 _ h
  case h_9 => exact absurd rfl ((trEq_ne3 h) _)
  case h_10 => exact absurd rfl ((trEq_ne3 h) _)
  case h_24 =>
    simp only [Option.bind_eq_some_iff] at h
    obtain ⟨⟨e, i, z⟩, _, h⟩ := h
    simp only at h
    split at h <;> simp at h
  all_goals exfalso
  all_goals first
    | (cases h; done)
    | (simp at h; done)
    | (split at h <;> first | (cases h; done) | (simp at h; done) | (split at h <;> first | (cases h; done) | (simp at h; done) | (split at h <;> first | (cases h; done) | (simp at h; done))))

theorem setBlock_put (w : World) (b : Nat) (o : Obj) : ChangeMaps.setBlock w b o = w.putObj b o := rfl

theorem leftOf_mem {es : Array MapEntry} {seen : Array Nat} {e : MapEntry} : e ∈ (leftOf es seen).toList ↔ e ∈ es.toList ∧ e.born ∉ seen.toList := by
  unfold leftOf
  simp

theorem EntsR.mem' {φ : Emb} {es : List (Value × Value × Nat)} {l : List MapEntry} (h : EntsR φ es l) {e : MapEntry} (he : e ∈ l) : ∃ x ∈ es, EntR φ x e := by
  obtain ⟨i, hi, rfl⟩ := List.getElem_of_mem he
  exact ⟨es[i]'(by rw [h.1]; exact hi), List.getElem_mem _, h.2 i (by rw [h.1]; exact hi) hi⟩
theorem EntsR.mem {φ : Emb} {es : List (Value × Value × Nat)} {l : List MapEntry} (h : EntsR φ es l) {x : Value × Value × Nat} (he : x ∈ es) : ∃ e ∈ l, EntR φ x e := by
  obtain ⟨i, hi, rfl⟩ := List.getElem_of_mem he
  exact ⟨l[i]'(by rw [← h.1]; exact hi), List.getElem_mem _, h.2 i hi (by rw [← h.1]; exact hi)⟩

/-- the next entry. -/
theorem next_sound {φ : Emb} {S : St} {w : World} (hw : WS S) (hs : Sim B φ S w) {v v' : Value} (hv : Rel φ v v') {t : TypeId} {K : Value → St → Prop} (h : NNext v S K) :
    ∃ u S' u' w', (Instr.next v' false t).run P w = .ok u' w' ∧ Rel φ u u' ∧ Sim B φ S' w' ∧ Keep B φ S w φ S' w' ∧ WS S' ∧ S.next ≤ S'.next ∧ Sc S'.next u ∧ K u S' := by
  obtain ⟨id, rfl, h⟩ := h
  obtain ⟨s, hid, rfl⟩ := ptr_inv hv
  have hno : Rel φ (.tuple #[.bool false]) (.tuple #[.bool false]) := .tuple' ⟨rfl, fun i h1 h2 => by
    rcases i with _ | i
    · exact .bool _
    · simp at h1⟩
  have hsc : ∀ m, Sc m (.tuple #[.bool false]) := fun m => .tuple _ fun i hi => by
    rcases i with _ | i
    · exact .bool _
    · simp at hi
  rcases h with ⟨s0, l, c, hg, hK⟩ | ⟨m, cl, seen, es, hg, hm, hlt, h1, h2⟩
  · obtain ⟨⟨_, hb0⟩, ⟨r, g1, m', rfl, g2⟩, _⟩ := hs.loops.2 id s _ hid hg
    obtain rfl := Option.some.inj (congrArg (fun | .map x => some x | _ => none) (mapNil_inv g2))
    rw [hb0]
    exact ⟨_, S, _, w, by simp [Instr.next, run_getObj_mapIter g1], hno, hs, Keep.refl _ _ _ _, hw, Nat.le_refl _, hsc _, hK⟩
  · obtain ⟨⟨_, hb0⟩, ⟨r, g1, m', rfl, g2⟩, _⟩ := hs.loops.2 id s _ hid hg
    obtain ⟨s2, hs2, e2⟩ := map_inv g2
    obtain rfl : m' = some s2.b := by injection e2
    obtain ⟨es', q1, q2⟩ := hs.mapAt hs2 hm
    rw [hb0, Nat.zero_add]
    have hold : ∀ x ∈ es'.toList, x.born < cl := fun x hx => by
      obtain ⟨y, hy, hr⟩ := q2.mem' hx
      rw [← hr.2.2]
      exact hlt y hy
    rcases run_next_at (P := P) w t s.b s2.b cl cl seen.toArray es' cl g1 q1 hold (Nat.le_refl _) with ⟨hz, hr⟩ | ⟨e, he, w1, hw1, hr⟩
    · refine ⟨_, S, _, w, hr, hno, hs, Keep.refl _ _ _ _, hw, Nat.le_refl _, hsc _, h1 fun x hx => ?_⟩
      obtain ⟨y, hy, hr⟩ := q2.mem hx
      refine Classical.byContradiction fun hn => ?_
      have : y ∈ (leftOf es' seen.toArray).toList := leftOf_mem.2 ⟨hy, by rw [← hr.2.2]; simpa using hn⟩
      rw [Array.eq_empty_of_size_eq_zero hz] at this
      simp at this
    · obtain ⟨he1, he2⟩ := leftOf_mem.1 he
      obtain ⟨x, hx, hxe⟩ := q2.mem' he1
      have hK := h2 x hx (by rw [hxe.2.2]; simpa using he2)
      have hs1 : Sim B φ S w1 := by rcases hw1 with rfl | rfl; exact hs; exact hs.drew
      have hk1 : Keep B φ S w φ S w1 := by rcases hw1 with rfl | rfl; exact Keep.refl _ _ _ _; exact Keep.drew _ _ _ _
      obtain ⟨k1, k2⟩ := hs1.objPut (o' := .mapIter (some m) cl (seen ++ [x.2.2]) cl) (r' := .mapIter (some s2.b) cl (seen.toArray.push e.born) cl) hid hg ⟨_, by rw [hxe.2.2]; simp, g2⟩
      have hid1 := hw.alive (id := id) (by rw [hg]; simp)
      have hx2 := (hw.map hm).2 x hx
      refine ⟨.tuple #[.bool true, x.1, x.2.1], S.put id (.mapIter (some m) cl (seen ++ [x.2.2]) cl), _, _, hr, .tuple' ⟨rfl, fun i h1 h2 => ?_⟩, by rw [setBlock_put]; exact k1, by rw [setBlock_put]; exact hk1.trans k2, hw.putB hid1 (b := .mapIter (some m) cl (seen ++ [x.2.2]) cl) (Sc.map _ (hw.map hm).1), by simp, ?_, hK⟩
      · rcases i with _ | _ | _ | i
        · exact .bool _
        · exact hxe.1
        · exact hxe.2.1
        · simp at h1; omega
      · refine .tuple _ fun i hi => ?_
        rcases i with _ | _ | _ | i
        · exact .bool _
        · exact hx2.1.mono (by simp)
        · exact hx2.2.mono (by simp)
        · simp at hi; omega

theorem noCall (P : Program) (B : Nat) : CallOK P B (fun _ _ _ => none) := fun _ _ _ _ _ h => by cases h
theorem noCallWS : CallerWS (fun _ _ _ => none) := fun _ _ _ _ _ h => by cases h

/-- one operation. -/
theorem step_soundN {r : Option Nat} {φ : Emb} {S : St} {w : World} (hw : WS S) (hs : Sim B φ S w) (hB : B ≤ w.heap.size) {env : Env} (hse : SE S.next env) {a : Act} (henv : EnvR φ env a) {ops : Array Oper} {o : Oper} {xo : XOper} (ht : trOper P ops o = some xo) (hok : opdsOk xo.op = true) {K0 : Value → St → Prop}
    (h : NS P B xo.op env.ev S K0) {K : Act → World → Prop} {Q : Exit → Act → World → Prop}
    (hK : ∀ φ' v v' S' w', WS S' → S.next ≤ S'.next → Sc S'.next v → K0 v S' → Rel φ' v v' → Sim B φ' S' w' → Keep B φ S w φ' S' w' → K (a.put o.dst v') w') : o.wpIn (fz r) 0 P a w K Q := by
  have ht0 := ht
  unfold NS at h
  split at h
  case h_4 n1 n2 n3 =>
    obtain ⟨v, S', h1, h2⟩ := h
    have hx : xstep (fun _ _ _ => none) xo.op env.ev S = some (v, S') := by
      rw [← h1]
      unfold xstep
      split
      · rename_i e; exact (n1 _ _ e).elim
      · rename_i e; exact (n2 _ _ e).elim
      · rfl
    obtain ⟨q1, q2, q3⟩ := xstep_ws noCallWS hw hok hse.ev hx
    exact step_sound (noCall P B) hs hB henv ht hx fun φ' v' w' a1 a2 a3 => hK φ' v v' S' w' q1 q2 q3 h2 a1 a2 a3
  all_goals
    rcases trOper_inv ht with ⟨hopd, htr⟩ | ⟨hst, _⟩ | ⟨_, hst⟩
    case' inr.inr =>
      rename_i hop _
      first | (rw [hst] at hop; cases hop; done) | (rename_i hop2; rw [hst] at hop2; cases hop2; done) | skip
    case' inr.inl =>
      rename_i hop _
      first | (rw [hst] at hop; cases hop; done) | (rename_i hop2; rw [hst] at hop2; cases hop2; done) | skip
    have hρ : ∀ x ∈ o.op.operands, Rel φ (env.ev x) (a.eval x) := fun x hx => henv.ev (hopd x hx)
    have hnd : ∀ c, o.op ≠ .defer c := by
      intro c hc
      unfold tr at htr
      rw [hc] at htr
      simp [trExtra] at htr
    unfold Oper.wpIn
    rw [Oper.semAt_eq _ _ _ hnd]
    refine ⟨fun _ _ => trivial, ?_⟩
    have hcall : ∀ (f : FuncId) (args args' : Array Value), RelA φ args args' → Calls P f args' w (NOut B φ S w K0) → (execOp a.eval o).run P w = .ok (.enter f args') w → o.uponIn (fz r) 0 P a K Q ((execOp a.eval o).run P w) := by
      intro f args args' hargs hc hr
      rw [hr]
      simp only [Oper.uponIn]
      refine ⟨fun hd => by simp [fz, Fence.wide] at hd, callsIn_fz.2 (hc.mono ?_)⟩
      rintro e w' ⟨v, S', ⟨φ', v', rfl, h1, h2, h3⟩, q1, q2, q3, q4⟩
      exact hK φ' v v' S' w' q1 q2 q3 q4 h1 h2 h3
  · rename_i f args hop
    rw [hop] at htr hok
    obtain ⟨argTypes, hoc⟩ := (tr_call_inv htr).1 f args rfl
    obtain ⟨⟨fn, h1, h2, h3⟩, hc⟩ := h hw (args_sc hse.ev hok)
    have hra := rel_argsA (l := args) (φ := φ) (ρa := env.ev) (ρc := a.eval) fun x hx => hρ x (by simp [hoc, Op.operands, Call.operands, hx])
    refine hcall f _ (args.map a.eval) hra (hc φ w _ hra hs hB) ?_
    simp [execOp, hoc, resolve, Deferred.ofValue, Act.eval, invoke, callFunc_run h1 h2 h3]
  · rename_i x args hop
    rw [hop] at htr hok
    obtain ⟨argTypes, hoc⟩ := (tr_call_inv htr).2 x args rfl
    obtain ⟨g, fa, fb, hx, h⟩ := h
    simp only [opdsOk, Bool.and_eq_true] at hok
    have hscx := hse.ev x hok.1
    rw [hx] at hscx
    obtain ⟨k1, k2⟩ := func_sc hscx
    have hsc : ScL S.next (fa ++ args.map env.ev ++ fb).toList := by
      rw [Array.toList_append, Array.toList_append]
      exact (k1.append (args_sc hse.ev hok.2)).append k2
    have h := h hw hsc
    have hxr := hρ x (by simp [hoc, Op.operands, Call.operands])
    rw [hx] at hxr
    have hra := rel_argsA (l := args) (φ := φ) (ρa := env.ev) (ρc := a.eval) fun x hx => hρ x (by simp [hoc, Op.operands, Call.operands, hx])
    cases g with
    | func f =>
      obtain ⟨fa', fb', e, ha, hb⟩ : ∃ fa' fb', a.eval x = .func (.func f) fa' fb' ∧ RelA φ fa fa' ∧ RelA φ fb fb' := by
        revert hxr
        generalize a.eval x = u
        intro hxr
        cases hxr with
        | func _ _ _ a' b' ha hb h1 h2 => exact ⟨a', b', rfl, ⟨ha, h1⟩, ⟨hb, h2⟩⟩
      obtain ⟨⟨fn, h1, h2, h3⟩, hc⟩ := h
      have hrr := (ha.append hra).append hb
      refine hcall f _ (fa' ++ args.map a.eval ++ fb') hrr (hc φ w _ hrr hs hB) ?_
      simp [execOp, hoc, resolve, Deferred.ofValue, e, invoke, callFunc_run h1 h2 h3]
    | yield id =>
      obtain ⟨s, hid, e, rfl, rfl⟩ : ∃ s, φ id = some s ∧ a.eval x = .func (.yield s.b) #[] #[] ∧ fa = #[] ∧ fb = #[] := by
        revert hxr
        generalize a.eval x = u
        intro hxr
        cases hxr with
        | yield _ s hid => exact ⟨s, hid, rfl, rfl, rfl⟩
      have hrr := RelA.append (RelA.append (RelA.nil φ) hra) (RelA.nil φ)
      have hr : (execOp a.eval o).run P w = (Instr.yield s.b (#[] ++ args.map a.eval ++ #[])).run P w := by simp [execOp, hoc, resolve, Deferred.ofValue, e, invoke]
      obtain ⟨f, tmps, assign, body, hy, hround⟩ := h φ w _ hrr hs hB s hid
      rw [hr, hy]
      simp only [Oper.uponIn]
      refine ⟨fun hd => by simp [fz, Fence.wide] at hd, RoundIn.mono (F := fz r) hround ?_⟩
      rintro e w' ⟨v, S', ⟨φ', v', rfl, h1, h2, h3⟩, q1, q2, q3, q4⟩
      exact hK φ' v v' S' w' q1 q2 q3 q4 h1 h2 h3
    | method n => exact (h : False).elim
    | methodOf t n => exact (h : False).elim
    | via t p f q => exact (h : False).elim
  · rename_i x hop
    rw [hop] at htr hok
    have ho := tr_next_inv htr
    obtain ⟨u, S', u', w', hr, a1, a2, a3, a4, a5, a6, a7⟩ := next_sound (P := P) (t := o.type) hw hs (hρ x (by simp [ho, Op.operands])) h
    have hex : (execOp a.eval o).run P w = .ok (.value u') w' := by
      simp [execOp, ho, hr]
    rw [hex]
    exact hK φ u u' S' w' a4 a5 a6 a7 a1 a2 a3

theorem xres_sc {l : List XRes} {env : Env} {S : St} {v : Value} (hw : WS S) (hs : SE S.next env) (h : xres l env S = some v) : Sc S.next v := by
  simp only [xres, Option.map_eq_some_iff] at h
  obtain ⟨vs, hvs, rfl⟩ := h
  have hall : ScL S.next vs := by
    intro u hu
    obtain ⟨i, hi, rfl⟩ := List.getElem_of_mem hu
    have hl := List.length_mapM_option hvs
    exact xres1_sc hw hs (List.getElem_mapM_option hvs i (by omega) hi)
  unfold pack
  split
  · exact hall _ (by simp)
  · exact .tuple _ fun i hi => hall _ (by simp)

/-- how a piece of code ends. -/
def PostN (B : Nat) (φ : Emb) (S : St) (w : World) (a : Act) (env : Env) (Q : Ex → FEnv → St → Prop) : Exit → Act → World → Prop := fun e a' w' =>
  ∃ ex env' S', PostX B φ S w a (ex, env', S') e a' w' ∧ WS S' ∧ S.next ≤ S'.next ∧ SE S'.next env' ∧ env'.size = env.size ∧ Q ex (toF env') S'

/-- the operations of a region, in the order of the text. -/
theorem ops_soundN {r : Option Nat} {n : Nat} {ops : Array Oper} {xs : List XOper} (hx : ops.toList.mapM (trOper P ops) = some xs) (hwf : wfO n xs = true) {Q : Exit → Act → World → Prop} {K : FEnv → St → Prop} :
    ∀ (m k : Nat) (env : Env) (S : St) (φ : Emb) (a : Act) (w : World), k + m = ops.size → WS S → SE S.next env → n ≤ env.size → NO P B (xs.drop k) (toF env) S K → Sim B φ S w → B ≤ w.heap.size → EnvR φ env a →
      (∀ φ' a' w' env' S', EnvR φ' env' a' → Sim B φ' S' w' → Keep B φ S w φ' S' w' → a'.defers = a.defers → WS S' → S.next ≤ S'.next → SE S'.next env' → env'.size = env.size → K (toF env') S' → Q .normal a' w') → wpOpsIn (fz r) 0 P ops Q (List.range' k m) a w := by
  have hlen : xs.length = ops.size := by
    have := List.length_mapM_option hx
    simpa using this
  intro m
  induction m with
  | zero =>
    intro k env S φ a w hk hw hse hn h hs hB henv hQ
    rw [List.drop_of_length_le (by omega)] at h
    exact hQ φ a w env S henv hs (Keep.refl _ _ _ _) rfl hw (Nat.le_refl _) hse rfl h
  | succ m ih =>
    intro k env S φ a w hk hw hse hn h hs hB henv hQ
    have hko : k < ops.size := by omega
    have hkx : k < xs.length := by omega
    have hto : trOper P ops ops[k] = some xs[k] := by
      have := List.getElem_mapM_option hx k (by simpa using hko) hkx
      simpa using this
    have hwk : opdsOk xs[k].op = true ∧ ∀ t, xs[k].dst = some t → t < n := by
      simp only [wfO, List.all_eq_true, Bool.and_eq_true] at hwf
      have := hwf xs[k] (List.getElem_mem _)
      refine ⟨this.1, fun t e => ?_⟩
      have := this.2
      rw [e] at this
      simpa using this
    rw [List.range'_succ, wpOpsIn_cons, wpOpIn]
    rw [List.drop_eq_getElem_cons hkx, NO] at h
    rw [Array.getElem?_eq_getElem hko]
    simp only
    rw [wanted_rel henv hto]
    have hdst : xs[k].dst = ops[k].dst := trOper_dst hto
    rw [← toF_want] at h
    split at h
    · rename_i hwn
      rw [if_pos hwn]
      rw [← toF_ev] at h
      refine step_soundN hw hs hB hse henv hto hwk.1 h fun φ1 v v1 S1 w1 p1 p2 p3 p4 k1 k2 k3 => ?_
      rw [← toF_put env xs[k].dst v (fun t e => Nat.lt_of_lt_of_le (hwk.2 t e) hn)] at p4
      refine ih (k + 1) (env.put xs[k].dst v) S1 φ1 _ w1 (by omega) p1 ((hse.mono p2).put _ p3) (by rw [put_size]; exact hn) p4 k2 (Nat.le_trans hB k3.size) (by rw [hdst]; exact (henv.mono k3.le).put _ k1) fun φ' a' w' env' S' q1 q2 q3 q4 q5 q6 q7 q8 q9 =>
        hQ φ' a' w' env' S' q1 q2 (k3.trans q3) (by rw [q4]; cases ops[k].dst <;> rfl) q5 (Nat.le_trans p2 q6) q7 (by rw [q8, put_size]) q9
    · rename_i hwn
      rw [if_neg hwn]
      refine ⟨fun _ _ => trivial, ?_⟩
      rw [← toF_put env xs[k].dst undef (fun t e => Nat.lt_of_lt_of_le (hwk.2 t e) hn)] at h
      refine ih (k + 1) (env.put xs[k].dst undef) S φ _ w (by omega) hw (hse.put _ (Sc.undef _)) (by rw [put_size]; exact hn) h hs hB (by rw [hdst]; exact henv.put _ (Rel.undef φ)) fun φ' a' w' env' S' q1 q2 q3 q4 q5 q6 q7 q8 q9 =>
        hQ φ' a' w' env' S' q1 q2 q3 (by rw [q4]; cases ops[k].dst <;> rfl) q5 q6 q7 (by rw [q8, put_size]) q9

theorem PostN.trans {φ φ1 : Emb} {S S1 : St} {w w1 : World} {a a1 : Act} {env env1 : Env} {Q : Ex → FEnv → St → Prop} (hk : Keep B φ S w φ1 S1 w1) (hs1 : Sim B φ1 S1 w1) (hd : ∃ ex, a1.defers = ex ++ a.defers ∧ Marks w.heap.size w1 ex) (hn : S.next ≤ S1.next) (hz : env1.size = env.size) {e : Exit} {a' : Act} {w' : World} (h : PostN B φ1 S1 w1 a1 env1 Q e a' w') : PostN B φ S w a env Q e a' w' := by
  obtain ⟨ex, env', S', h1, h2, h3, h4, h5, h6⟩ := h
  exact ⟨ex, env', S', PostX.trans hk hs1 hd h1, h2, Nat.le_trans hn h3, h4, h5.trans hz, h6⟩

theorem range_soundN {g : Operand} {ps : Array Tmp} {assign body : Code} {N : Nat} {env : Env} {S : St} {gf : FuncId} {fa fb fa' fb' : Array Value} {a : Act} {w : World} {φ : Emb} {ro : Option Nat} (hw : WS S) (hse : SE S.next env) {Q : Ex → FEnv → St → Prop}
    (hsc : ScL (S.alloc (.loop env ⟨ps, assign, body, N⟩ none)).next (fa ++ #[Value.func (.yield S.next) #[] #[]] ++ fb).toList)
    (hc : NG P B (.func gf) (fa ++ #[.func (.yield S.next) #[] #[]] ++ fb) (S.alloc (.loop env ⟨ps, assign, body, N⟩ none)) (fun _ S2 => ∃ env2 L2 pe, S2.get S.next = .loop env2 L2 pe ∧ Q (pe.getD .normal) (toF env) (S2.put S.next .gone)))
    (e' : a.eval g = .func (.func gf) fa' fb') (hfa : RelA φ fa fa') (hfb : RelA φ fb fb') (hro : InR ro φ S w) (hs : Sim B φ S w) (hB : B ≤ w.heap.size) (henv : EnvR φ env a) :
    (Code.rangeFunc g ps assign body).wpIn (fz ro) 0 P (PostN B φ S w a env Q) a w := by
  refine wpIn_rangeFunc fun fn _ => ?_
  obtain ⟨l, mark, w1, φ1, q1, q2, q3, q4, q5, q6, q7⟩ := enter_sound (P := P) hs hB henv hro fn ⟨ps, assign, body, N⟩
  obtain ⟨⟨f0, c1, c2, c3⟩, hcall⟩ := hc (hw.allocB (b := .loop env ⟨ps, assign, body, N⟩ none) hse.toL) hsc
  have hy : RelA φ1 #[.func (.yield S.next) #[] #[]] #[.func (.yield l) #[] #[]] := ⟨rfl, fun i h1 h2 => by
    have : i = 0 := by simp at h1; omega
    subst this
    exact Rel.yield S.next ⟨l, 0, 0, 0⟩ q2⟩
  have hcalls : Calls P gf (fa' ++ #[.func (.yield l) #[] #[]] ++ fb') w1 (rangePost (fz ro) 0 P l (PostN B φ S w a env Q) { a with defers := mark ++ a.defers }) := by
    have hargs : RelA φ1 (fa ++ #[.func (.yield S.next) #[] #[]] ++ fb) (fa' ++ #[.func (.yield l) #[] #[]] ++ fb') := RelA.append (RelA.append (hfa.mono q4.le) hy) (hfb.mono q4.le)
    have hB1 : B ≤ w1.heap.size := Nat.le_trans hB q4.size
    refine Calls.mono (hcall φ1 w1 _ hargs q3 hB1) ?_
    rintro ed w3 ⟨v, S2, hout, z1, z2, z3, env2, L2, pe, hget, hQ⟩
    obtain ⟨φ2, v', hed, r1, r2, r3⟩ := hout
    subst hed
    have hid := r3.le _ _ q2
    obtain ⟨hBl, rc, hrc, hlr⟩ := r2.loopAt hid hget
    obtain ⟨g1, g2, g3⟩ := r2.loopGone hid hget
    have hsim : Sim B φ2 (S2.put S.next .gone) (w3.putObj l (.loop { rc with state := .exhausted })) := g1.putOther _ hrc rfl g3 (.inl hBl.1)
    have hkeep : Keep B φ S w φ2 (S2.put S.next .gone) (w3.putObj l (.loop { rc with state := .exhausted })) := ((q4.trans r3).trans g2).putNew q7 _
    have hmk : Marks w.heap.size (w3.putObj l (.loop { rc with state := .exhausted })) mark := (q5.keep q3 r3).putObj _ q6
    have hid2 : S.next < S2.next := Nat.lt_of_lt_of_le (by simp) z2
    have hpost : ∀ ex : Ex, Q ex (toF env) (S2.put S.next .gone) → PostN B φ S w a env Q (toExit ex) { a with defers := mark ++ a.defers } (w3.putObj l (.loop { rc with state := .exhausted })) := fun ex hq =>
      ⟨ex, env, S2.put S.next .gone, ⟨rfl, φ2, henv.mono (q4.le.trans r3.le), hsim, hkeep, mark, rfl, hmk⟩, z1.putB hid2 (b := .gone) trivial, by simp; omega, hse.mono (by simp; omega), rfl, hq⟩
    have hend := run_endLoop (P := P) hrc hlr.notBusy
    have hp := hlr.2.2.2.2.1
    generalize (w3.putObj l (.loop { rc with state := .exhausted })) = w4 at *
    generalize rc.pending = pend at *
    subst hp
    refine ⟨pe.map Ex.code, w4, hend, ?_⟩
    cases pe with
    | none => exact hpost .normal hQ
    | some ex =>
      cases ex with
      | normal => exact wpIn_skip (hpost .normal hQ)
      | exit id => exact wpIn_exit (hpost (.exit id) hQ)
      | ret => exact wpIn_ret (hpost .ret hQ)
  have h1 : (resolve a.eval (rangeCall g l) 0).run P w1 = .ok { target := .fn (.func gf) fb', args := fa' ++ #[.func (.yield l) #[] #[]] } w1 := by
    simp only [resolve]
    rw [e']
    simp [Deferred.ofValue, Act.eval]
  have h2 : (invoke (.fn (.func gf) fb') (fa' ++ #[.func (.yield l) #[] #[]])).run P w1 = .ok (.enter gf (fa' ++ #[.func (.yield l) #[] #[]] ++ fb')) w1 := by
    simp [invoke, callFunc_run c1 c2 c3]
  have h3 : CallsIn (fz ro) (0 - 1) P gf (fa' ++ #[.func (.yield l) #[] #[]] ++ fb') w1 (rangePost (fz ro) 0 P l (PostN B φ S w a env Q) { a with defers := mark ++ a.defers }) := callsIn_fz.2 hcalls
  have h4 : (fz ro).depth.isSome = true → 1 ≤ 0 := fun hd => by simp [fz, Fence.wide] at hd
  have h5 : ∀ f', Target.leads P w1 (.fn (.func gf) fb') (fa' ++ #[.func (.yield l) #[] #[]]) = some f' → (fz ro).fn f' := fun _ _ => trivial
  generalize fa' ++ #[.func (.yield l) #[] #[]] ++ fb' = A at h2 h3
  generalize fa' ++ #[.func (.yield l) #[] #[]] = A1 at h1 h2 h5
  exact ⟨l, mark, w1, { target := .fn (.func gf) fb', args := A1 }, w1, gf, A, w1, q1, h1, h5, h2, h4, h3⟩

theorem code_soundN [Prim P] (hm : P.follows .mixedOrders = true) {N m : Nat} : ∀ (c : Code) (x : XCode), trCode P (trDraw P) N c = some x → wfC m x = true → ∀ (env : Env) (S : St) (Q : Ex → FEnv → St → Prop), WS S → SE S.next env → m ≤ env.size → NW P B x (toF env) S Q →
    ∀ (ro : Option Nat) (φ : Emb) (a : Act) (w : World), InR ro φ S w → Sim B φ S w → B ≤ w.heap.size → EnvR φ env a → c.wpIn (fz ro) 0 P (PostN B φ S w a env Q) a w := by
  intro c
  induction c with
  | skip =>
    intro x hx hwf env S Q hw hse hn h ro φ a w hro hs hB henv
    obtain rfl := Option.some.inj hx
    exact wpIn_skip ⟨_, _, _, PostX.same rfl henv hs (Keep.refl _ _ _ _) rfl, hw, Nat.le_refl _, hse, rfl, h⟩
  | exit id =>
    intro x hx hwf env S Q hw hse hn h ro φ a w hro hs hB henv
    obtain rfl := Option.some.inj hx
    exact wpIn_exit ⟨_, _, _, PostX.same (r := (.exit id, _, _)) rfl henv hs (Keep.refl _ _ _ _) rfl, hw, Nat.le_refl _, hse, rfl, h⟩
  | ret =>
    intro x hx hwf env S Q hw hse hn h ro φ a w hro hs hB henv
    obtain rfl := Option.some.inj hx
    exact wpIn_ret ⟨_, _, _, PostX.same (r := (.ret, _, _)) rfl henv hs (Keep.refl _ _ _ _) rfl, hw, Nat.le_refl _, hse, rfl, h⟩
  | region id ops draw =>
    intro x hx hwf env S Q hw hse hn h ro φ a w hro hs hB henv
    have hx0 := hx
    cases draw with
    | false =>
      simp only [trCode, Option.map_eq_some_iff] at hx
      obtain ⟨xs, hxs, rfl⟩ := hx
      refine wpIn_region ?_
      rw [List.range_eq_range']
      exact ops_soundN hxs hwf ops.size 0 env S φ a w (by omega) hw hse hn (by rw [List.drop_zero]; exact h) hs hB henv fun φ' a' w' env' S' h1 h2 h3 h4 h5 h6 h7 h8 h9 => ⟨.normal, env', S', PostX.same rfl h1 h2 h3 h4, h5, h6, h7, h8, h9⟩
    | true =>
      simp only [trCode, Option.map_eq_some_iff] at hx
      obtain ⟨d, hd, rfl⟩ := hx
      obtain ⟨n, e, env', S', h1, h2⟩ := XW_run (P := P) (m := m) (.draw d) hwf env S Q hw hse hn h
      have hws := xcode_ws (xcall_ws P n) (.draw d) hwf env S _ hw hse h1
      have hcs := code_sound (P := P) (B := B) (N := N) (draw_ok hm) (call_sound (P := P) (B := B) (draw_ok hm) (F := XF P) (fun f xf hf => (XF_wf hf).2) (LT := XL P) (fun L x h => (XL_wf h).1) (base := Prim.run P) (Prim.ok B) n) n (.region id ops true) (.draw d) hx0 env S _ h1 ro φ a w hro hs hB henv
      exact wpIn_mono hcs fun e' a' w' hp => ⟨e, env', S', hp, hws.1, hws.2.1, hws.2.2.1, hws.2.2.2, h2⟩
  | seq c1 c2 ih1 ih2 =>
    intro x hx hwf env S Q hw hse hn h ro φ a w hro hs hB henv
    simp only [trCode] at hx
    split at hx
    case h_2 => cases hx
    rename_i x1 x2 hx1 hx2
    obtain rfl := Option.some.inj hx
    simp only [wfC, Bool.and_eq_true] at hwf
    refine wpIn_seq (wpIn_mono (ih1 x1 hx1 hwf.1 env S _ hw hse hn h ro φ a w hro hs hB henv) ?_)
    rintro e a1 w1 ⟨ex, env1, S1, ⟨he, φ1, k1, k2, k3, k4⟩, p1, p2, p3, p4, p5⟩
    simp only at he k1 k2 k3
    cases ex with
    | normal =>
      subst he
      exact wpIn_mono (ih2 x2 hx2 hwf.2 env1 S1 Q p1 p3 (by rw [p4]; exact hn) p5 ro φ1 a1 w1 (hro.same k3) k2 (Nat.le_trans hB k3.size) k1) fun e a' w' hp => PostN.trans k3 k2 k4 p2 p4 hp
    | exit id =>
      subst he
      exact ⟨_, _, _, ⟨rfl, φ1, k1, k2, k3, k4⟩, p1, p2, p3, p4, p5⟩
    | ret =>
      subst he
      exact ⟨_, _, _, ⟨rfl, φ1, k1, k2, k3, k4⟩, p1, p2, p3, p4, p5⟩
  | cond c c1 c2 ih1 ih2 =>
    intro x hx hwf env S Q hw hse hn h ro φ a w hro hs hB henv
    simp only [trCode] at hx
    split at hx
    case isFalse => cases hx
    rename_i hok
    split at hx
    case h_2 => cases hx
    rename_i x1 x2 hx1 hx2
    obtain rfl := Option.some.inj hx
    simp only [wfC, Bool.and_eq_true] at hwf
    obtain ⟨b, e, h1, h2⟩ := h
    have hc := henv.ev hok
    rw [← toF_ev] at e
    rw [e] at hc
    cases b with
    | true => exact wpIn_cond_true (bool_inv hc) (ih1 x1 hx1 hwf.1 env S Q hw hse hn (h1 rfl) ro φ a w hro hs hB henv)
    | false => exact wpIn_cond_false (bool_inv hc) (ih2 x2 hx2 hwf.2 env S Q hw hse hn (h2 rfl) ro φ a w hro hs hB henv)
  | block id c ih =>
    intro x hx hwf env S Q hw hse hn h ro φ a w hro hs hB henv
    simp only [trCode, Option.map_eq_some_iff] at hx
    obtain ⟨x1, hx1, rfl⟩ := hx
    refine wpIn_block (wpIn_mono (ih x1 hx1 hwf env S _ hw hse hn h ro φ a w hro hs hB henv) ?_)
    rintro e a1 w1 ⟨ex, env1, S1, ⟨he, φ1, k1, k2, k3, k4⟩, p1, p2, p3, p4, p5⟩
    simp only at he k1 k2 k3
    cases ex with
    | normal => subst he; exact ⟨.normal, _, _, ⟨rfl, φ1, k1, k2, k3, k4⟩, p1, p2, p3, p4, p5⟩
    | ret => subst he; exact ⟨.ret, _, _, ⟨rfl, φ1, k1, k2, k3, k4⟩, p1, p2, p3, p4, p5⟩
    | exit id' =>
      subst he
      simp only [toExit, Exit.inBlock]
      simp only at p5
      by_cases e : id' = id
      · subst e
        rw [if_pos rfl] at p5
        rw [if_pos rfl]
        exact ⟨.normal, _, _, ⟨rfl, φ1, k1, k2, k3, k4⟩, p1, p2, p3, p4, p5⟩
      · rw [if_neg e] at p5
        rw [if_neg e]
        exact ⟨.exit id', _, _, ⟨rfl, φ1, k1, k2, k3, k4⟩, p1, p2, p3, p4, p5⟩
  | loop c ih =>
    intro x hx hwf env S Q hw hse hn h ro φ a w hro hs hB henv
    simp only [trCode, Option.map_eq_some_iff] at hx
    obtain ⟨x1, hx1, rfl⟩ := hx
    obtain ⟨I, μ, hI, hround⟩ := h
    refine wpIn_loop_rounds (μ (toF env) S + 1) ?_
    have key : ∀ (k : Nat) (env : Env) (S : St), μ (toF env) S < k → WS S → SE S.next env → m ≤ env.size → I (toF env) S → ∀ (φ : Emb) (a : Act) (w : World), InR ro φ S w → Sim B φ S w → B ≤ w.heap.size → EnvR φ env a → Code.roundsIn (fz ro) 0 P c (PostN B φ S w a env Q) k a w := by
      intro k
      induction k with
      | zero => intro env S h; omega
      | succ k ihk =>
        intro env S hlt hw hse hn hI φ a w hro hs hB henv
        rw [roundsIn_succ]
        refine wpIn_mono (ih x1 hx1 hwf env S _ hw hse hn (hround _ _ hI) ro φ a w hro hs hB henv) ?_
        rintro e a1 w1 ⟨ex, env1, S1, ⟨he, φ1, k1, k2, k3, k4⟩, p1, p2, p3, p4, p5⟩
        simp only at he k1 k2 k3
        cases ex with
        | normal =>
          subst he
          have := ihk env1 S1 (by have := p5.2; omega) p1 p3 (by rw [p4]; exact hn) p5.1 φ1 a1 w1 (hro.same k3) k2 (Nat.le_trans hB k3.size) k1
          exact rounds_mono (fun e a' w' hp => PostN.trans k3 k2 k4 p2 p4 hp) k a1 w1 this
        | exit id =>
          subst he
          exact ⟨_, _, _, ⟨rfl, φ1, k1, k2, k3, k4⟩, p1, p2, p3, p4, p5⟩
        | ret =>
          subst he
          exact ⟨_, _, _, ⟨rfl, φ1, k1, k2, k3, k4⟩, p1, p2, p3, p4, p5⟩
    exact key _ env S (Nat.lt_succ_self _) hw hse hn hI φ a w hro hs hB henv
  | scope c ih =>
    intro x hx hwf env S Q hw hse hn h ro φ a w hro hs hB henv
    refine wpIn_scope_straight (wpIn_mono (ih x hx hwf env S Q hw hse hn h ro φ a w hro hs hB henv) ?_)
    rintro e a1 w1 ⟨ex, env1, S1, ⟨he, rest⟩, p⟩
    subst he
    cases ex <;> exact ⟨_, env1, S1, ⟨rfl, rest⟩, p⟩
  | rangeFunc g ps assign body _ _ =>
    intro x hx hwf env S Q hw hse hn h ro φ a w hro hs hB henv
    simp only [trCode] at hx
    split at hx
    case isFalse => cases hx
    rename_i hok
    split at hx
    case h_2 => cases hx
    obtain rfl := Option.some.inj hx
    have hg := henv.ev hok
    obtain ⟨gf, fa, fb, e, h⟩ := h
    rw [← toF_ev] at e
    rw [e] at hg
    simp only [wfC, Bool.and_eq_true, beq_iff_eq] at hwf
    have hx := hse.ev g hwf.1
    rw [e] at hx
    obtain ⟨k1, k2⟩ := func_sc hx
    have hsc : ScL (S.alloc (.loop env ⟨ps, assign, body, N⟩ none)).next (fa ++ #[Value.func (.yield S.next) #[] #[]] ++ fb).toList := by
      rw [Array.toList_append, Array.toList_append]
      refine ((k1.mono (by simp)).append ?_).append (k2.mono (by simp))
      intro u hu
      simp only [List.mem_singleton] at hu
      subst hu
      exact .yield _ (by simp)
    obtain ⟨fa', fb', e', hfa, hfb⟩ : ∃ fa' fb', a.eval g = .func (.func gf) fa' fb' ∧ RelA φ fa fa' ∧ RelA φ fb fb' := by
      revert hg
      generalize a.eval g = u
      intro hg
      cases hg with
      | func _ _ _ a' b' ha hb h1 h2 => exact ⟨a', b', rfl, ⟨ha, h1⟩, ⟨hb, h2⟩⟩
    have hN : N = m := hwf.2
    exact range_soundN hw hse hsc (h env rfl (by show N ≤ env.size; omega)) e' hfa hfb hro hs hB henv
  | label l => intro x hx; cases hx
  | goto l => intro x hx; cases hx
  | refuse why => intro x hx; cases hx

/-- a call, by what its body does. -/
theorem NG_intro [Prim P] (hm : P.follows .mixedOrders = true) {f : FuncId} {xf : XFunc} (hf : XF0 P f = some xf) {args : Array Value} {S : St} {K : Value → St → Prop}
    (h : NW P B xf.body (fe0 args.toList) S (fun e fe S' => (∀ id, e ≠ .exit id) ∧ ∃ v, xrs xf.results fe S' = some v ∧ K v S')) : NG P B (.func f) args S K := by
  intro hw hargs
  obtain ⟨hwf, fn, h1, h2⟩ := XF0_wf hf
  unfold trFunc at h2
  split at h2
  case isFalse => cases h2
  rename_i hn
  split at h2
  case h_2 => cases h2
  rename_i c hc
  split at h2
  case h_2 => cases h2
  rename_i x r hx hr
  obtain rfl := Option.some.inj h2
  rw [← toF_args args (fn.ntmps - args.size)] at h
  refine ⟨⟨fn, h1, by simp [hc], hn⟩, fun φ w args' hargs' hs hB => ?_⟩
  refine (callsIn_wide (n := 0)).1 (callsIn_of_wp_marks h1 hc trivial (wpIn_mono (code_soundN (B := B) hm c x hx hwf (args ++ Array.replicate (fn.ntmps - args.size) undef) S _ hw (args_SE hargs _) (by simp; omega) h none φ { tmps := args' ++ Array.replicate (fn.ntmps - args'.size) undef, defers := [] } w (InR.none _ _ _) hs hB ?_) ?_))
  · rw [hargs'.1]
    exact hargs'.append ⟨rfl, fun i h1 h2 => by simpa using Rel.undef φ⟩
  · rintro e a1 w1 ⟨ex, env1, S1, ⟨he, φ1, k1, k2, k3, exs, k4, k5⟩, p1, p2, p3, p4, p5, v, p6, p7⟩
    simp only at he k1 k2 k3
    rw [List.append_nil] at k4
    have hxr : xres r env1 S1 = some v := by rw [xres_eq]; exact p6
    have hsv : Sc S1.next v := xres_sc p1 p3 hxr
    have fin : LeavesInM Fence.wide 0 P fn a1.tmps (NOut B φ S w K) a1.defers .returning w1 := by
      simp only [xres, Option.map_eq_some_iff] at hxr
      obtain ⟨vs, hvs, rfl⟩ := hxr
      rw [k4]
      refine leaves_marks exs w1 k2 k5 fun w' g1 g2 g3 g4 g5 g6 => ?_
      obtain ⟨vs', q1, q2⟩ := res_sound g6 k1 fn.results.toList r vs hr hvs
      have hk' : Keep B φ S w φ1 S1 w' := ⟨k3.le, k3.place, k3.new, by rw [← g2]; exact k3.size, k3.next, g3.trans k3.os, g4.trans k3.tape, g5.trans k3.output, fun b hb hno => by rw [g1 b hb]; exact k3.keep b hb hno, k3.mine⟩
      refine ⟨(if h : vs'.toArray.size = 1 then vs'.toArray[0] else .tuple vs'.toArray), ?_, _, S1, ⟨φ1, _, rfl, ?_, g6, hk'⟩, p1, p2, hsv, p7⟩
      · have hm : (fn.results.mapM (resSem a1.tmps)).run P w' = .ok vs'.toArray w' := by
          rw [← Array.toArray_toList (xs := fn.results), List.mapM_toArray, Sem.run_map, q1]
          rfl
        rw [results_eq, Sem.run_bind]
        rw [hm]
        rfl
      · have hl := q2.1
        match vs, vs', q2 with
        | [], [], q2 => simpa [pack] using Rel.tuple' q2.toA
        | [x], [y], q2 => simpa [pack] using q2.2 0 (by simp) (by simp)
        | x :: x2 :: xs, y :: y2 :: ys, q2 => simpa [pack] using Rel.tuple' q2.toA
        | [], _ :: _, q2 => exact absurd q2.1 (by simp)
        | _ :: _, [], q2 => exact absurd q2.1 (by simp)
        | [_], _ :: _ :: _, q2 => exact absurd q2.1 (by simp)
        | _ :: _ :: _, [_], q2 => exact absurd q2.1 (by simp)
    cases ex with
    | normal => subst he; exact fin
    | ret => subst he; exact fin
    | exit id => exact absurd rfl (p5 id)
end
end Go.Proofs.YtofjnhdgkhfgnaaDoor

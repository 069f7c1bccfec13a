/- The code of the abstract machine: branches, loops, calls. -/
import Derived.Test.YtedhbklmebebgaaMk
import Derived.LoopN
namespace Go.Proofs.Ytedhbklmebebgaa
open Go Go.RowKit

/-- a region that draws its order: its operations, at which stages of the others each may come up, and two marks for each. -/
structure XDraw where
  ops : List XOper
  stages : List (List Nat)
  flags : List ((Bool × Bool) × Bool)

inductive XCode where
  | skip
  | region (ops : List XOper)
  | draw (d : XDraw)
  | seq (a b : XCode)
  | cond (c : Operand) (thn els : XCode)
  | block (id : Nat) (body : XCode)
  | loop (body : XCode)
  | exit (id : Nat)
  | ret

inductive Ex where
  | normal
  | exit (id : Nat)
  | ret

inductive XRes where
  | tmp (t : Tmp)
  | cell (a : Tmp) (agg : Bool) (sz : Nat)

structure XFunc where
  ntmps : Nat
  body : XCode
  results : List XRes

abbrev Drawer := Caller → XDraw → Env → St → Option (Env × St)

def xloop (body : Env → St → Option (Ex × Env × St)) : Nat → Env → St → Option (Ex × Env × St)
  | 0, _, _ => none
  | n + 1, env, S => (body env S).bind fun r => match r.1 with
    | .normal => xloop body n r.2.1 r.2.2
    | e => some (e, r.2.1, r.2.2)

def xcode (dr : Drawer) (cl : Caller) (n : Nat) : XCode → Env → St → Option (Ex × Env × St)
  | .skip, env, S => some (.normal, env, S)
  | .region ops, env, S => (xops cl ops env S).map fun r => (.normal, r.1, r.2)
  | .draw d, env, S => (dr cl d env S).map fun r => (.normal, r.1, r.2)
  | .seq a b, env, S => (xcode dr cl n a env S).bind fun r => match r.1 with
    | .normal => xcode dr cl n b r.2.1 r.2.2
    | e => some (e, r.2.1, r.2.2)
  | .cond c x y, env, S => match Env.ev env c with
    | .bool true => xcode dr cl n x env S
    | .bool false => xcode dr cl n y env S
    | _ => none
  | .block id c, env, S => (xcode dr cl n c env S).map fun r => match r.1 with
    | .exit id' => if id' = id then (.normal, r.2.1, r.2.2) else r
    | _ => r
  | .loop c, env, S => xloop (xcode dr cl n c) n env S
  | .exit id, env, S => some (.exit id, env, S)
  | .ret, env, S => some (.ret, env, S)

def xres1 (env : Env) (S : St) : XRes → Option Value
  | .tmp t => some (env.getD t undef)
  | .cell a agg sz => match env.getD a undef with
    | .pointer (some ⟨id, o, none⟩) => (S.rd id o sz).bind fun c => part1 agg c
    | _ => none
def pack : List Value → Value
  | [v] => v
  | vs => .tuple vs.toArray
def xres (l : List XRes) (env : Env) (S : St) : Option Value := (l.mapM (xres1 env S)).map pack

/-- a call; what has no abstract form is asked of the base. -/
def xcall (dr : Drawer) (F : FuncId → Option XFunc) (base : Caller) : Nat → Caller
  | 0, f, args, S => match F f with
    | none => base f args S
    | some _ => none
  | n + 1, f, args, S => match F f with
    | none => base f args S
    | some fn => (xcode dr (xcall dr F base n) n fn.body (args ++ Array.replicate (fn.ntmps - args.size) undef) S).bind fun r => match r.1 with
      | .exit _ => none
      | _ => (xres fn.results r.2.1 r.2.2).map fun v => (v, r.2.2)

/-- how the model's code is read. -/
def trCode (P : Program) (td : Array Oper → Option XDraw) : Code → Option XCode
  | .skip => some .skip
  | .region _ ops false => (ops.toList.mapM (trOper P ops)).map .region
  | .region _ ops true => (td ops).map .draw
  | .seq a b => match trCode P td a, trCode P td b with
    | some x, some y => some (.seq x y)
    | _, _ => none
  | .cond c a b => if okOpd c then (match trCode P td a, trCode P td b with
    | some x, some y => some (.cond c x y)
    | _, _ => none) else none
  | .block id c => (trCode P td c).map (.block id)
  | .loop c => (trCode P td c).map .loop
  | .scope c => trCode P td c
  | .exit id => some (.exit id)
  | .ret => some .ret
  | _ => none

def trRes (P : Program) : ResultVar → Option XRes
  | .tmp t => some (.tmp t)
  | .cell a t => match P.underlying t, P.info? t with
    | some d, some i => some (.cell a (aggD d) (if aggD d then i.size else 1))
    | _, _ => none
def trFunc (P : Program) (td : Array Oper → Option XDraw) (fn : Func) : Option XFunc :=
  if (fn.name == "runtime.NumGoroutine") = false then
    match fn.body with
    | some c => match trCode P td c, fn.results.toList.mapM (trRes P) with
      | some x, some r => some ⟨fn.ntmps, x, r⟩
      | _, _ => none
    | none => none
  else none

/-- what a region that draws its order does in the model. -/
def DrawOK (P : Program) (B : Nat) (td : Array Oper → Option XDraw) (dr : Drawer) : Prop :=
  ∀ cl, CallOK P B cl → ∀ ops d, td ops = some d → ∀ env S env' S', dr cl d env S = some (env', S') → ∀ (id : Nat) φ a w (Q : Exit → Act → World → Prop), Sim B φ S w → B ≤ w.heap.size → EnvR φ env a →
    (∀ φ' a' w', EnvR φ' env' a' → Sim B φ' S' w' → Keep B φ S w φ' S' w' → a'.defers = a.defers → Q .normal a' w') → (Code.region id ops true).wp P Q a w

def toExit : Ex → Exit
  | .normal => .normal
  | .exit id => .exit id
  | .ret => .ret

section
variable {P : Program} {B : Nat}

theorem rounds_mono {c : Code} {Q Q' : Exit → Act → World → Prop} (h : ∀ e a w, Q e a w → Q' e a w) : ∀ n a w, Code.rounds P c Q n a w → Code.rounds P c Q' n a w := by
  intro n
  induction n with
  | zero => intro a w h; exact h.elim
  | succ n ih =>
    intro a w hh
    rw [rounds_succ] at hh ⊢
    refine wp_mono hh ?_
    intro e a' w' hq
    cases e <;> first | exact ih _ _ hq | exact h _ _ _ hq

def PostX (B : Nat) (φ : Emb) (S : St) (w : World) (a : Act) (r : Ex × Env × St) : Exit → Act → World → Prop := fun e a' w' =>
  e = toExit r.1 ∧ ∃ φ', EnvR φ' r.2.1 a' ∧ Sim B φ' r.2.2 w' ∧ Keep B φ S w φ' r.2.2 w' ∧ a'.defers = a.defers

theorem PostX.trans {φ φ1 : Emb} {S S1 : St} {w w1 : World} {a a1 : Act} {r : Ex × Env × St} (hk : Keep B φ S w φ1 S1 w1) (hd : a1.defers = a.defers) {e : Exit} {a' : Act} {w' : World} (h : PostX B φ1 S1 w1 a1 r e a' w') : PostX B φ S w a r e a' w' := by
  obtain ⟨h1, φ', h2, h3, h4, h5⟩ := h
  exact ⟨h1, φ', h2, h3, hk.trans h4, h5.trans hd⟩

theorem code_sound {td : Array Oper → Option XDraw} {dr : Drawer} {cl : Caller} (hdr : DrawOK P B td dr) (hcl : CallOK P B cl) (n : Nat) : ∀ (c : Code) (x : XCode), trCode P td c = some x → ∀ (env : Env) (S : St) (r : Ex × Env × St), xcode dr cl n x env S = some r →
    ∀ (φ : Emb) (a : Act) (w : World), Sim B φ S w → B ≤ w.heap.size → EnvR φ env a → c.wp P (PostX B φ S w a r) a w := by
  intro c
  induction c with
  | skip =>
    intro x hx env S r h φ a w hs hB henv
    obtain rfl := Option.some.inj hx
    obtain rfl := Option.some.inj h
    exact wp_skip ⟨rfl, φ, henv, hs, Keep.refl _ _ _ _, rfl⟩
  | region id ops draw =>
    intro x hx env S r h φ a w hs hB henv
    cases draw with
    | false =>
      simp only [trCode, Option.map_eq_some_iff] at hx
      obtain ⟨xs, hxs, rfl⟩ := hx
      simp only [xcode, Option.map_eq_some_iff] at h
      obtain ⟨⟨env', S'⟩, h, rfl⟩ := h
      refine wp_region ?_
      rw [List.range_eq_range']
      exact ops_sound hcl hxs ops.size 0 env S env' S' φ a w (by omega) (by simpa using h) hs hB henv fun φ' a' w' h1 h2 h3 h4 => ⟨rfl, φ', h1, h2, h3, h4⟩
    | true =>
      simp only [trCode, Option.map_eq_some_iff] at hx
      obtain ⟨d, hd, rfl⟩ := hx
      simp only [xcode, Option.map_eq_some_iff] at h
      obtain ⟨⟨env', S'⟩, h, rfl⟩ := h
      exact hdr cl hcl ops d hd env S env' S' h id φ a w _ hs hB henv fun φ' a' w' h1 h2 h3 h4 => ⟨rfl, φ', h1, h2, h3, h4⟩
  | seq c1 c2 ih1 ih2 =>
    intro x hx env S r h φ a w hs hB henv
    simp only [trCode] at hx
    split at hx
    case h_2 => cases hx
    rename_i x1 x2 hx1 hx2
    obtain rfl := Option.some.inj hx
    simp only [xcode, Option.bind_eq_some_iff] at h
    obtain ⟨⟨e1, env1, S1⟩, h1, h2⟩ := h
    refine wp_seq (wp_mono (ih1 x1 hx1 env S _ h1 φ a w hs hB henv) ?_)
    rintro e a1 w1 ⟨he, φ1, k1, k2, k3, k4⟩
    simp only at he k1 k2 k3
    cases e1 with
    | normal =>
      subst he
      simp only at h2
      exact wp_mono (ih2 x2 hx2 env1 S1 r h2 φ1 a1 w1 k2 (Nat.le_trans hB k3.size) k1) fun e a' w' hp => hp.trans k3 k4
    | exit id =>
      subst he
      obtain rfl := Option.some.inj h2
      exact ⟨rfl, φ1, k1, k2, k3, k4⟩
    | ret =>
      subst he
      obtain rfl := Option.some.inj h2
      exact ⟨rfl, φ1, k1, k2, k3, k4⟩
  | cond c c1 c2 ih1 ih2 =>
    intro x hx env S r h φ a w hs hB henv
    simp only [trCode] at hx
    split at hx
    case isFalse => cases hx
    rename_i hok
    split at hx
    case h_2 => cases hx
    rename_i x1 x2 hx1 hx2
    obtain rfl := Option.some.inj hx
    have hc := henv.ev hok
    simp only [xcode] at h
    split at h
    · rename_i e
      rw [e] at hc
      exact wp_cond_true (bool_inv hc) (ih1 x1 hx1 env S r h φ a w hs hB henv)
    · rename_i e
      rw [e] at hc
      exact wp_cond_false (bool_inv hc) (ih2 x2 hx2 env S r h φ a w hs hB henv)
    · cases h
  | block id c ih =>
    intro x hx env S r h φ a w hs hB henv
    simp only [trCode, Option.map_eq_some_iff] at hx
    obtain ⟨x1, hx1, rfl⟩ := hx
    simp only [xcode, Option.map_eq_some_iff] at h
    obtain ⟨⟨e1, env1, S1⟩, h1, rfl⟩ := h
    refine wp_block (wp_mono (ih x1 hx1 env S _ h1 φ a w hs hB henv) ?_)
    rintro e a1 w1 ⟨he, φ1, k1, k2, k3, k4⟩
    simp only at he k1 k2 k3
    cases e1 with
    | normal => subst he; exact ⟨rfl, φ1, k1, k2, k3, k4⟩
    | ret => subst he; exact ⟨rfl, φ1, k1, k2, k3, k4⟩
    | exit id' =>
      subst he
      simp only [toExit, Exit.inBlock]
      by_cases e : id' = id
      · subst e
        rw [if_pos rfl, if_pos rfl]
        exact ⟨rfl, φ1, k1, k2, k3, k4⟩
      · rw [if_neg e, if_neg e]
        exact ⟨rfl, φ1, k1, k2, k3, k4⟩
  | loop c ih =>
    intro x hx env S r h φ a w hs hB henv
    simp only [trCode, Option.map_eq_some_iff] at hx
    obtain ⟨x1, hx1, rfl⟩ := hx
    simp only [xcode] at h
    refine wp_loop_rounds n ?_
    have key : ∀ (m : Nat) (env : Env) (S : St) (r : Ex × Env × St), xloop (xcode dr cl n x1) m env S = some r → ∀ (φ : Emb) (a : Act) (w : World), Sim B φ S w → B ≤ w.heap.size → EnvR φ env a → Code.rounds P c (PostX B φ S w a r) m a w := by
      intro m
      induction m with
      | zero => intro env S r h; cases h
      | succ m ihm =>
        intro env S r h φ a w hs hB henv
        rw [rounds_succ]
        simp only [xloop, Option.bind_eq_some_iff] at h
        obtain ⟨⟨e1, env1, S1⟩, h1, h2⟩ := h
        refine wp_mono (ih x1 hx1 env S _ h1 φ a w hs hB henv) ?_
        rintro e a1 w1 ⟨he, φ1, k1, k2, k3, k4⟩
        simp only at he k1 k2 k3
        cases e1 with
        | normal =>
          subst he
          simp only at h2
          have := ihm env1 S1 r h2 φ1 a1 w1 k2 (Nat.le_trans hB k3.size) k1
          exact rounds_mono (fun e a' w' hp => PostX.trans k3 k4 hp) m a1 w1 this
        | exit id =>
          subst he
          obtain rfl := Option.some.inj h2
          exact ⟨rfl, φ1, k1, k2, k3, k4⟩
        | ret =>
          subst he
          obtain rfl := Option.some.inj h2
          exact ⟨rfl, φ1, k1, k2, k3, k4⟩
    exact key n env S r h φ a w hs hB henv
  | scope c ih =>
    intro x hx env S r h φ a w hs hB henv
    refine wp_scope_straight (wp_mono (ih x hx env S r h φ a w hs hB henv) ?_)
    rintro e a1 w1 ⟨he, rest⟩
    subst he
    obtain ⟨e1, env1, S1⟩ := r
    cases e1 <;> exact ⟨rfl, rest⟩
  | exit id =>
    intro x hx env S r h φ a w hs hB henv
    obtain rfl := Option.some.inj hx
    obtain rfl := Option.some.inj h
    exact wp_exit ⟨rfl, φ, henv, hs, Keep.refl _ _ _ _, rfl⟩
  | ret =>
    intro x hx env S r h φ a w hs hB henv
    obtain rfl := Option.some.inj hx
    obtain rfl := Option.some.inj h
    exact wp_ret ⟨rfl, φ, henv, hs, Keep.refl _ _ _ _, rfl⟩
  | rangeFunc f ps as b ih1 ih2 => intro x hx; cases hx
  | label l => intro x hx; cases hx
  | goto l => intro x hx; cases hx
  | refuse why => intro x hx; cases hx

def resSem (tmps : Array Value) : ResultVar → Sem Value
  | .tmp t => pure (tmps.getD t undef)
  | .cell p t => do loadVar t (← asAddr (tmps.getD p undef))
theorem results_eq (fn : Func) (tmps : Array Value) : results fn tmps = (do let vs ← fn.results.mapM (resSem tmps); pure (if h : vs.size = 1 then vs[0] else .tuple vs)) := by
  unfold results
  congr

theorem res1_sound {φ : Emb} {S : St} {w : World} {env : Env} {a : Act} (hs : Sim B φ S w) (henv : EnvR φ env a) {rv : ResultVar} {xr : XRes} (ht : trRes P rv = some xr) {v : Value} (h : xres1 env S xr = some v) :
    ∃ v', (resSem a.tmps rv).run P w = .ok v' w ∧ Rel φ v v' := by
  cases rv with
  | tmp t =>
    obtain rfl := Option.some.inj ht
    obtain rfl := Option.some.inj h
    exact ⟨_, rfl, henv.ev (x := .tmp t) rfl⟩
  | cell p t =>
    simp only [trRes] at ht
    split at ht
    case h_2 => cases ht
    rename_i d i hd hi
    obtain rfl := Option.some.inj ht
    simp only [xres1] at h
    split at h
    case h_2 => cases h
    rename_i id o e
    have hx : Rel φ (env.getD p undef) (a.tmps.getD p undef) := henv.ev (x := .tmp p) rfl
    rw [e] at hx
    simp only [Option.bind_eq_some_iff] at h
    obtain ⟨c, hc, hv⟩ := h
    obtain ⟨s, e1, e2⟩ := ptr_inv hx
    obtain ⟨v', h1, h2⟩ := loadVar_sound (P := P) hs hd hi e1 hc hv
    refine ⟨v', ?_, h2⟩
    simp only [resSem, e2, Sem.run_bind, asAddr, Sem.run_pure, Result.andThen_ok, h1]

theorem res_sound {φ : Emb} {S : St} {w : World} {env : Env} {a : Act} (hs : Sim B φ S w) (henv : EnvR φ env a) : ∀ (l : List ResultVar) (xs : List XRes) (vs : List Value), l.mapM (trRes P) = some xs → xs.mapM (xres1 env S) = some vs →
    ∃ vs', (l.mapM (resSem a.tmps)).run P w = .ok vs' w ∧ RelL φ vs vs' := by
  intro l
  induction l with
  | nil =>
    intro xs vs h1 h2
    simp at h1
    subst h1
    simp at h2
    subst h2
    exact ⟨[], by simp, RelL.nil φ⟩
  | cons rv l ih =>
    intro xs vs h1 h2
    simp only [List.mapM_cons, Option.bind_eq_bind, Option.bind_eq_some_iff] at h1
    obtain ⟨x, hx, xs', hxs, h1⟩ := h1
    simp at h1
    subst h1
    simp only [List.mapM_cons, Option.bind_eq_bind, Option.bind_eq_some_iff] at h2
    obtain ⟨v, hv, vs', hvs, h2⟩ := h2
    simp at h2
    subst h2
    obtain ⟨v', k1, k2⟩ := res1_sound hs henv hx hv
    obtain ⟨vs'', k3, k4⟩ := ih xs' vs' hxs hvs
    refine ⟨v' :: vs'', ?_, RelL.cons k2 k4⟩
    simp only [List.mapM_cons, Sem.run_bind, Sem.run_pure]
    rw [k1]
    simp only [Result.andThen_ok]
    rw [k3]
    rfl

theorem call_sound {td : Array Oper → Option XDraw} {dr : Drawer} (hdr : DrawOK P B td dr) {F : FuncId → Option XFunc} (hF : ∀ f xf, F f = some xf → ∃ fn, P.funcs[f]? = some fn ∧ trFunc P td fn = some xf) {base : Caller} (hbase : CallOK P B base) : ∀ n, CallOK P B (xcall dr F base n) := by
  intro n
  induction n with
  | zero =>
    intro f args S v S' h
    simp only [xcall] at h
    split at h
    · exact hbase _ _ _ _ _ h
    · cases h
  | succ n ih =>
    intro f args S v S' h
    simp only [xcall] at h
    split at h
    case h_1 => exact hbase _ _ _ _ _ h
    rename_i xf hf
    obtain ⟨fn, h1, h2⟩ := hF f xf hf
    unfold trFunc at h2
    split at h2
    case isFalse => cases h2
    rename_i hn
    split at h2
    case h_2 => cases h2
    rename_i c hc
    split at h2
    case h_2 => cases h2
    rename_i x r hx hr
    obtain rfl := Option.some.inj h2
    refine ⟨⟨fn, h1, by simp [hc], hn⟩, fun φ w args' hargs hs hB => ?_⟩
    simp only [Option.bind_eq_some_iff] at h
    obtain ⟨⟨e1, env1, S1⟩, hx1, h⟩ := h
    refine calls_of_wp h1 hc (wp_mono (code_sound hdr ih n c x hx _ S _ hx1 φ { tmps := args' ++ Array.replicate (fn.ntmps - args'.size) undef, defers := [] } w hs hB ?_) ?_)
    · rw [hargs.1]
      exact hargs.append ⟨rfl, fun i h1 h2 => by simpa using Rel.undef φ⟩
    · rintro e a1 w1 ⟨he, φ1, k1, k2, k3, k4⟩
      simp only at he k1 k2 k3 h
      have fin : (xres r env1 S1).map (fun v => (v, S1)) = some (v, S') → a1.defers = [] ∧ ∃ v', (results fn a1.tmps).run P w1 = .ok v' w1 ∧ ∃ φ' v'', Ending.returned v' = .returned v'' ∧ Rel φ' v v'' ∧ Sim B φ' S' w1 ∧ Keep B φ S w φ' S' w1 := by
        intro h
        simp only [xres, Option.map_eq_some_iff, Prod.mk.injEq] at h
        obtain ⟨v0, ⟨vs, hvs, rfl⟩, rfl, rfl⟩ := h
        obtain ⟨vs', q1, q2⟩ := res_sound k2 k1 fn.results.toList r vs hr hvs
        refine ⟨k4, (if h : vs'.toArray.size = 1 then vs'.toArray[0] else .tuple vs'.toArray), ?_, φ1, _, rfl, ?_, k2, k3⟩
        · have hm : (fn.results.mapM (resSem a1.tmps)).run P w1 = .ok vs'.toArray w1 := by
            rw [← Array.toArray_toList (xs := fn.results), List.mapM_toArray, Sem.run_map, q1]
            rfl
          rw [results_eq, Sem.run_bind]
          rw [hm]
          rfl
        · have hl := q2.1
          match vs, vs', q2 with
          | [], [], q2 => simpa [pack] using Rel.tuple' q2.toA
          | [x], [y], q2 => simpa [pack] using q2.2 0 (by simp) (by simp)
          | x :: x2 :: xs, y :: y2 :: ys, q2 => simpa [pack] using Rel.tuple' q2.toA
          | [], _ :: _, q2 => exact absurd q2.1 (by simp)
          | _ :: _, [], q2 => exact absurd q2.1 (by simp)
          | [_], _ :: _ :: _, q2 => exact absurd q2.1 (by simp)
          | _ :: _ :: _, [_], q2 => exact absurd q2.1 (by simp)
      cases e1 with
      | normal => subst he; exact fin h
      | ret => subst he; exact fin h
      | exit id => cases h
end
end Go.Proofs.Ytedhbklmebebgaa

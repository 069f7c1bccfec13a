/- The code of the abstract machine: branches, loops, calls. -/
import Derived.Test.YtofjnhdgkhfgnaaDoorMka
import Derived.LoopNIn
namespace Go.Proofs.YtofjnhdgkhfgnaaDoor
open Go Go.RowKit

inductive XRes where
  | tmp (t : Tmp)
  | cell (a : Tmp) (agg : Bool) (sz : Nat)

structure XFunc where
  ntmps : Nat
  body : XCode
  results : List XRes

abbrev Drawer := Caller → XDraw → Env → St → Option (Env × St)

def xloop (body : Env → St → Option (Ex × Env × St)) : Nat → Env → St → Option (Ex × Env × St)
  | 0, _, _ => none
  | n + 1, env, S => (body env S).bind fun r => match r.1 with
    | .normal => xloop body n r.2.1 r.2.2
    | e => some (e, r.2.1, r.2.2)

def xcode (dr : Drawer) (cl : Caller) (n : Nat) : XCode → Env → St → Option (Ex × Env × St)
  | .skip, env, S => some (.normal, env, S)
  | .region ops, env, S => (xops cl ops env S).map fun r => (.normal, r.1, r.2)
  | .draw d, env, S => (dr cl d env S).map fun r => (.normal, r.1, r.2)
  | .seq a b, env, S => (xcode dr cl n a env S).bind fun r => match r.1 with
    | .normal => xcode dr cl n b r.2.1 r.2.2
    | e => some (e, r.2.1, r.2.2)
  | .cond c x y, env, S => match Env.ev env c with
    | .bool true => xcode dr cl n x env S
    | .bool false => xcode dr cl n y env S
    | _ => none
  | .block id c, env, S => (xcode dr cl n c env S).map fun r => match r.1 with
    | .exit id' => if id' = id then (.normal, r.2.1, r.2.2) else r
    | _ => r
  | .loop c, env, S => xloop (xcode dr cl n c) n env S
  | .exit id, env, S => some (.exit id, env, S)
  | .ret, env, S => some (.ret, env, S)
  | .range x L, env, S => match Env.ev env x with
    | .func (.func g) a b => (cl (.func g) (a ++ #[.func (.yield S.next) #[] #[]] ++ b) (S.alloc (.loop env L none))).bind fun r => match r.2.get S.next with
      | .obj (.loop _ _ none) => some (.normal, env, r.2.put S.next .gone)
      | .obj (.loop _ _ (some e)) => some (e, env, r.2.put S.next .gone)
      | _ => none
    | _ => none

/-- one round of a loop over a function: what yield does. -/
def xround (dr : Drawer) (cl : Caller) (n : Nat) (LT : LoopC → Option (XCode × XCode)) (id : Nat) (args : Array Value) (S : St) : Option (Value × St) :=
  match S.get id with
  | .obj (.loop env L none) => if args.size = L.ps.size then (LT L).bind fun x =>
      (xcode dr cl n x.1 ((L.ps.zip args).foldl (fun t (p, v) => t.setIfInBounds p v) env) (S.put id .gone)).bind fun r1 => match r1.1 with
        | .normal => (xcode dr cl n x.2 r1.2.1 r1.2.2).map fun r2 => match r2.1 with
          | .normal => (.bool true, r2.2.2.put id (.loop env L none))
          | e => (.bool false, r2.2.2.put id (.loop env L (some e)))
        | _ => none
    else none
  | _ => none

def xres1 (env : Env) (S : St) : XRes → Option Value
  | .tmp t => some (env.getD t undef)
  | .cell a agg sz => match env.getD a undef with
    | .pointer (some ⟨id, o, none⟩) => (S.rd id o sz).bind fun c => part1 agg c
    | _ => none
def pack : List Value → Value
  | [v] => v
  | vs => .tuple vs.toArray
def xres (l : List XRes) (env : Env) (S : St) : Option Value := (l.mapM (xres1 env S)).map pack

abbrev Base := FuncId → Array Value → St → Option (Value × St)

/-- a call; what has no abstract form is asked of the base. -/
def xcall (dr : Drawer) (F : FuncId → Option XFunc) (LT : LoopC → Option (XCode × XCode)) (base : Base) : Nat → Caller
  | 0, .func f, args, S => match F f with
    | none => base f args S
    | some _ => none
  | n + 1, .func f, args, S => match F f with
    | none => base f args S
    | some fn => (xcode dr (xcall dr F LT base n) n fn.body (args ++ Array.replicate (fn.ntmps - args.size) undef) S).bind fun r => match r.1 with
      | .exit _ => none
      | _ => (xres fn.results r.2.1 r.2.2).map fun v => (v, r.2.2)
  | n + 1, .yield id, args, S => xround dr (xcall dr F LT base n) n LT id args S
  | _, _, _, _ => none

/-- how the model's code is read. -/
def trCode (P : Program) (td : Array Oper → Option XDraw) (N : Nat) : Code → Option XCode
  | .skip => some .skip
  | .region _ ops false => (ops.toList.mapM (trOper P ops)).map .region
  | .region _ ops true => (td ops).map .draw
  | .seq a b => match trCode P td N a, trCode P td N b with
    | some x, some y => some (.seq x y)
    | _, _ => none
  | .cond c a b => if okOpd c then (match trCode P td N a, trCode P td N b with
    | some x, some y => some (.cond c x y)
    | _, _ => none) else none
  | .block id c => (trCode P td N c).map (.block id)
  | .loop c => (trCode P td N c).map .loop
  | .scope c => trCode P td N c
  | .rangeFunc g ps assign body => if okOpd g then (match trCode P td N assign, trCode P td N body with
    | some _, some _ => some (.range g ⟨ps, assign, body, N⟩)
    | _, _ => none) else none
  | .exit id => some (.exit id)
  | .ret => some .ret
  | _ => none

def trRes (P : Program) : ResultVar → Option XRes
  | .tmp t => some (.tmp t)
  | .cell a t => match P.underlying t, P.info? t with
    | some d, some i => some (.cell a (aggD d) (if aggD d then i.size else 1))
    | _, _ => none
def trFunc (P : Program) (td : Array Oper → Option XDraw) (fn : Func) : Option XFunc :=
  if (fn.name == "runtime.NumGoroutine") = false then
    match fn.body with
    | some c => match trCode P td fn.ntmps c, fn.results.toList.mapM (trRes P) with
      | some x, some r => some ⟨fn.ntmps, x, r⟩
      | _, _ => none
    | none => none
  else none

/-- the parts of a loop over a function. -/
def trLoop (P : Program) (td : Array Oper → Option XDraw) (L : LoopC) : Option (XCode × XCode) := (trCode P td L.n L.assign).bind fun a => (trCode P td L.n L.body).map fun b => (a, b)

/-- what a region that draws its order does in the model. -/
def DrawOK (P : Program) (B : Nat) (td : Array Oper → Option XDraw) (dr : Drawer) : Prop :=
  ∀ cl, CallOK P B cl → ∀ ops d, td ops = some d → ∀ env S env' S', dr cl d env S = some (env', S') → ∀ (id : Nat) φ a w (Q : Exit → Act → World → Prop), Sim B φ S w → B ≤ w.heap.size → EnvR φ env a →
    (∀ φ' a' w', EnvR φ' env' a' → Sim B φ' S' w' → Keep B φ S w φ' S' w' → a'.defers = a.defers → Q .normal a' w') → ∀ r, (Code.region id ops true).wpIn (fz r) 0 P Q a w

def toExit : Ex → Exit
  | .normal => .normal
  | .exit id => .exit id
  | .ret => .ret

section
variable {P : Program} {B : Nat}

theorem rounds_mono {F : Fence} {c : Code} {Q Q' : Exit → Act → World → Prop} (h : ∀ e a w, Q e a w → Q' e a w) : ∀ n a w, Code.roundsIn F 0 P c Q n a w → Code.roundsIn F 0 P c Q' n a w := by
  intro n
  induction n with
  | zero => intro a w h; exact h.elim
  | succ n ih =>
    intro a w hh
    rw [roundsIn_succ] at hh ⊢
    refine wpIn_mono hh ?_
    intro e a' w' hq
    cases e <;> first | exact ih _ _ hq | exact h _ _ _ hq

def PostX (B : Nat) (φ : Emb) (S : St) (w : World) (a : Act) (r : Ex × Env × St) : Exit → Act → World → Prop := fun e a' w' =>
  e = toExit r.1 ∧ ∃ φ', EnvR φ' r.2.1 a' ∧ Sim B φ' r.2.2 w' ∧ Keep B φ S w φ' r.2.2 w' ∧ ∃ ex, a'.defers = ex ++ a.defers ∧ Marks w.heap.size w' ex

theorem PostX.trans {φ φ1 : Emb} {S S1 : St} {w w1 : World} {a a1 : Act} {r : Ex × Env × St} (hk : Keep B φ S w φ1 S1 w1) (hs1 : Sim B φ1 S1 w1) (hd : ∃ ex, a1.defers = ex ++ a.defers ∧ Marks w.heap.size w1 ex) {e : Exit} {a' : Act} {w' : World} (h : PostX B φ1 S1 w1 a1 r e a' w') : PostX B φ S w a r e a' w' := by
  obtain ⟨h1, φ', h2, h3, h4, ex, h5, h6⟩ := h
  obtain ⟨ex1, h7, h8⟩ := hd
  exact ⟨h1, φ', h2, h3, hk.trans h4, ex ++ ex1, by rw [h5, h7, List.append_assoc], Marks.append hk.size h6 (h8.keep hs1 h4) h8.lt⟩
theorem PostX.same {φ φ' : Emb} {S : St} {w : World} {a : Act} {r : Ex × Env × St} {e : Exit} {a' : Act} {w' : World} (h1 : e = toExit r.1) (h2 : EnvR φ' r.2.1 a') (h3 : Sim B φ' r.2.2 w') (h4 : Keep B φ S w φ' r.2.2 w') (h5 : a'.defers = a.defers) : PostX B φ S w a r e a' w' :=
  ⟨h1, φ', h2, h3, h4, [], by rw [h5]; rfl, trivial⟩

/-- entering a loop over a function. -/
theorem enter_sound {r : Option Nat} {φ : Emb} {S : St} {w : World} {env : Env} {a : Act} (hs : Sim B φ S w) (hB : B ≤ w.heap.size) (henv : EnvR φ env a) (hr : InR r φ S w) (fn : FuncId) (L : LoopC) :
    ∃ l mark w1 φ1, (Instr.enterLoop fn a.tmps L.ps L.assign L.body r).run P w = .ok (l, mark) w1 ∧ φ1 S.next = some ⟨l, 0, 0, 0⟩ ∧ Sim B φ1 (S.alloc (.loop env L none)) w1 ∧ Keep B φ S w φ1 (S.alloc (.loop env L none)) w1 ∧ Marks w.heap.size w1 mark ∧ (∀ d ∈ mark, d.target ≠ .collected l) ∧ w.heap.size ≤ l := by
  cases r with
  | none =>
    have hl : LoopR φ env L none { state := .ready, pending := none, fn, tmps := a.tmps, params := L.ps, assign := L.assign, body := L.body, defers := w.heap.size } := ⟨henv, rfl, rfl, rfl, rfl, rfl⟩
    obtain ⟨k1, k2⟩ := hs.allocOther (.deferred (some []))
    obtain ⟨k3, k4⟩ := k1.loopNew (by simp; omega) hl
    refine ⟨_, _, _, _, run_enterLoop_outer fn a.tmps L.ps L.assign L.body, by rw [Emb.add_same, World.size_alloc], k3, k2.trans k4, ⟨⟨w.heap.size, rfl, Nat.le_refl _, ?_, by simp⟩, trivial⟩, ?_, by omega⟩
    · rw [heap_alloc', if_neg (by simp), heap_alloc', if_pos rfl]
    · intro d hd
      simp only [List.mem_singleton] at hd
      subst hd
      intro e
      have := Go.Target.collected.inj e
      omega
  | some l0 =>
    obtain ⟨⟨r0, h0⟩, _⟩ := hr l0 rfl
    have hl : LoopR φ env L none { state := .ready, pending := none, fn, tmps := a.tmps, params := L.ps, assign := L.assign, body := L.body, defers := r0.defers } := ⟨henv, rfl, rfl, rfl, rfl, rfl⟩
    obtain ⟨k3, k4⟩ := hs.loopNew hB hl
    refine ⟨w.heap.size, [], _, _, ?_, Emb.add_same _ _ _, k3, k4, trivial, by simp, Nat.le_refl _⟩
    unfold Instr.enterLoop
    simp only [Sem.run_bind, run_getLoop h0, run_newObj_alloc, Result.andThen, Sem.run_pure]

theorem range_sound {cl : Caller} (hcl : CallOK P B cl) {g : Operand} {ps : Array Tmp} {assign body : Code} {N : Nat} {env : Env} {S S2 : St} {r : Ex × Env × St} {gf : FuncId} {fa fb fa' fb' : Array Value} {v : Value} {a : Act} {w : World} {φ : Emb} {ro : Option Nat}
    (hc : cl (.func gf) (fa ++ #[.func (.yield S.next) #[] #[]] ++ fb) (S.alloc (.loop env ⟨ps, assign, body, N⟩ none)) = some (v, S2))
    (h : (match S2.get S.next with
      | .obj (.loop _ _ none) => some (.normal, env, S2.put S.next .gone)
      | .obj (.loop _ _ (some e)) => some (e, env, S2.put S.next .gone)
      | _ => none) = some r)
    (e' : a.eval g = .func (.func gf) fa' fb') (hfa : RelA φ fa fa') (hfb : RelA φ fb fb') (hro : InR ro φ S w) (hs : Sim B φ S w) (hB : B ≤ w.heap.size) (henv : EnvR φ env a) :
    (Code.rangeFunc g ps assign body).wpIn (fz ro) 0 P (PostX B φ S w a r) a w := by
  refine wpIn_rangeFunc fun fn _ => ?_
  obtain ⟨l, mark, w1, φ1, q1, q2, q3, q4, q5, q6, q7⟩ := enter_sound (P := P) hs hB henv hro fn ⟨ps, assign, body, N⟩
  obtain ⟨⟨f0, c1, c2, c3⟩, hcall⟩ := hcl _ _ _ _ _ hc
  have hy : RelA φ1 #[.func (.yield S.next) #[] #[]] #[.func (.yield l) #[] #[]] := ⟨rfl, fun i h1 h2 => by
    have : i = 0 := by simp at h1; omega
    subst this
    exact Rel.yield S.next ⟨l, 0, 0, 0⟩ q2⟩
  have hcalls : Calls P gf (fa' ++ #[.func (.yield l) #[] #[]] ++ fb') w1 (rangePost (fz ro) 0 P l (PostX B φ S w a r) { a with defers := mark ++ a.defers }) := by
    have hargs : RelA φ1 (fa ++ #[.func (.yield S.next) #[] #[]] ++ fb) (fa' ++ #[.func (.yield l) #[] #[]] ++ fb') := RelA.append (RelA.append (hfa.mono q4.le) hy) (hfb.mono q4.le)
    have hB1 : B ≤ w1.heap.size := Nat.le_trans hB q4.size
    have hc1 : Calls P gf (fa' ++ #[.func (.yield l) #[] #[]] ++ fb') w1 (OutC B φ1 (S.alloc (.loop env ⟨ps, assign, body, N⟩ none)) w1 v S2) := hcall φ1 w1 _ hargs q3 hB1
    refine Calls.mono hc1 ?_
    intro ed w3 hout
    obtain ⟨φ2, v', hed, r1, r2, r3⟩ := hout
    subst hed
    have hid := r3.le _ _ q2
    -- what the record holds now
    obtain ⟨env2, L2, pe, hget, hres⟩ : ∃ env2 L2 pe, S2.get S.next = .loop env2 L2 pe ∧ r = ((pe.getD .normal), env, S2.put S.next .gone) := by
      split at h
      · rename_i e3
        exact ⟨_, _, _, e3, (Option.some.inj h).symm⟩
      · rename_i e3
        exact ⟨_, _, _, e3, (Option.some.inj h).symm⟩
      · cases h
    subst hres
    obtain ⟨hBl, rc, hrc, hlr⟩ := r2.loopAt hid hget
    obtain ⟨g1, g2, g3⟩ := r2.loopGone hid hget
    have hsim : Sim B φ2 (S2.put S.next .gone) (w3.putObj l (.loop { rc with state := .exhausted })) := g1.putOther _ hrc rfl g3 (.inl hBl.1)
    have hkeep : Keep B φ S w φ2 (S2.put S.next .gone) (w3.putObj l (.loop { rc with state := .exhausted })) := ((q4.trans r3).trans g2).putNew q7 _
    have hmk : Marks w.heap.size (w3.putObj l (.loop { rc with state := .exhausted })) mark := (q5.keep q3 r3).putObj _ q6
    have hpost : ∀ ex : Ex, PostX B φ S w a (ex, env, S2.put S.next .gone) (toExit ex) { a with defers := mark ++ a.defers } (w3.putObj l (.loop { rc with state := .exhausted })) := fun ex =>
      ⟨rfl, φ2, henv.mono (q4.le.trans r3.le), hsim, hkeep, mark, rfl, hmk⟩
    have hend := run_endLoop (P := P) hrc hlr.notBusy
    have hp := hlr.2.2.2.2.1
    generalize (w3.putObj l (.loop { rc with state := .exhausted })) = w4 at *
    generalize rc.pending = pend at *
    subst hp
    refine ⟨pe.map Ex.code, w4, hend, ?_⟩
    cases pe with
    | none => exact hpost .normal
    | some ex =>
      cases ex with
      | normal => exact wpIn_skip (hpost .normal)
      | exit id => exact wpIn_exit (hpost (.exit id))
      | ret => exact wpIn_ret (hpost .ret)
  have h1 : (resolve a.eval (rangeCall g l) 0).run P w1 = .ok { target := .fn (.func gf) fb', args := fa' ++ #[.func (.yield l) #[] #[]] } w1 := by
    simp only [resolve]
    rw [e']
    simp [Deferred.ofValue, Act.eval]
  have h2 : (invoke (.fn (.func gf) fb') (fa' ++ #[.func (.yield l) #[] #[]])).run P w1 = .ok (.enter gf (fa' ++ #[.func (.yield l) #[] #[]] ++ fb')) w1 := by
    simp [invoke, callFunc_run c1 c2 c3]
  have h3 : CallsIn (fz ro) (0 - 1) P gf (fa' ++ #[.func (.yield l) #[] #[]] ++ fb') w1 (rangePost (fz ro) 0 P l (PostX B φ S w a r) { a with defers := mark ++ a.defers }) := callsIn_fz.2 hcalls
  have h4 : (fz ro).depth.isSome = true → 1 ≤ 0 := fun hd => by simp [fz, Fence.wide] at hd
  have h5 : ∀ f', Target.leads P w1 (.fn (.func gf) fb') (fa' ++ #[.func (.yield l) #[] #[]]) = some f' → (fz ro).fn f' := fun _ _ => trivial
  generalize fa' ++ #[.func (.yield l) #[] #[]] ++ fb' = A at h2 h3
  generalize fa' ++ #[.func (.yield l) #[] #[]] = A1 at h1 h2 h5
  exact ⟨l, mark, w1, { target := .fn (.func gf) fb', args := A1 }, w1, gf, A, w1, q1, h1, h5, h2, h4, h3⟩

theorem code_sound {N : Nat} {td : Array Oper → Option XDraw} {dr : Drawer} {cl : Caller} (hdr : DrawOK P B td dr) (hcl : CallOK P B cl) (n : Nat) : ∀ (c : Code) (x : XCode), trCode P td N c = some x → ∀ (env : Env) (S : St) (r : Ex × Env × St), xcode dr cl n x env S = some r →
    ∀ (ro : Option Nat) (φ : Emb) (a : Act) (w : World), InR ro φ S w → Sim B φ S w → B ≤ w.heap.size → EnvR φ env a → c.wpIn (fz ro) 0 P (PostX B φ S w a r) a w := by
  intro c
  induction c with
  | skip =>
    intro x hx env S r h ro φ a w hro hs hB henv
    obtain rfl := Option.some.inj hx
    obtain rfl := Option.some.inj h
    exact wpIn_skip (PostX.same rfl henv hs (Keep.refl _ _ _ _) rfl)
  | region id ops draw =>
    intro x hx env S r h ro φ a w hro hs hB henv
    cases draw with
    | false =>
      simp only [trCode, Option.map_eq_some_iff] at hx
      obtain ⟨xs, hxs, rfl⟩ := hx
      simp only [xcode, Option.map_eq_some_iff] at h
      obtain ⟨⟨env', S'⟩, h, rfl⟩ := h
      refine wpIn_region ?_
      rw [List.range_eq_range']
      exact ops_sound hcl hxs ops.size 0 env S env' S' φ a w (by omega) (by simpa using h) hs hB henv fun φ' a' w' h1 h2 h3 h4 => PostX.same rfl h1 h2 h3 h4
    | true =>
      simp only [trCode, Option.map_eq_some_iff] at hx
      obtain ⟨d, hd, rfl⟩ := hx
      simp only [xcode, Option.map_eq_some_iff] at h
      obtain ⟨⟨env', S'⟩, h, rfl⟩ := h
      exact hdr cl hcl ops d hd env S env' S' h id φ a w _ hs hB henv (fun φ' a' w' h1 h2 h3 h4 => PostX.same rfl h1 h2 h3 h4) ro
  | seq c1 c2 ih1 ih2 =>
    intro x hx env S r h ro φ a w hro hs hB henv
    simp only [trCode] at hx
    split at hx
    case h_2 => cases hx
    rename_i x1 x2 hx1 hx2
    obtain rfl := Option.some.inj hx
    simp only [xcode, Option.bind_eq_some_iff] at h
    obtain ⟨⟨e1, env1, S1⟩, h1, h2⟩ := h
    refine wpIn_seq (wpIn_mono (ih1 x1 hx1 env S _ h1 ro φ a w hro hs hB henv) ?_)
    rintro e a1 w1 ⟨he, φ1, k1, k2, k3, k4⟩
    simp only at he k1 k2 k3
    cases e1 with
    | normal =>
      subst he
      simp only at h2
      exact wpIn_mono (ih2 x2 hx2 env1 S1 r h2 ro φ1 a1 w1 (hro.same k3) k2 (Nat.le_trans hB k3.size) k1) fun e a' w' hp => PostX.trans k3 k2 k4 hp
    | exit id =>
      subst he
      obtain rfl := Option.some.inj h2
      exact ⟨rfl, φ1, k1, k2, k3, k4⟩
    | ret =>
      subst he
      obtain rfl := Option.some.inj h2
      exact ⟨rfl, φ1, k1, k2, k3, k4⟩
  | cond c c1 c2 ih1 ih2 =>
    intro x hx env S r h ro φ a w hro hs hB henv
    simp only [trCode] at hx
    split at hx
    case isFalse => cases hx
    rename_i hok
    split at hx
    case h_2 => cases hx
    rename_i x1 x2 hx1 hx2
    obtain rfl := Option.some.inj hx
    have hc := henv.ev hok
    simp only [xcode] at h
    split at h
    · rename_i e
      rw [e] at hc
      exact wpIn_cond_true (bool_inv hc) (ih1 x1 hx1 env S r h ro φ a w hro hs hB henv)
    · rename_i e
      rw [e] at hc
      exact wpIn_cond_false (bool_inv hc) (ih2 x2 hx2 env S r h ro φ a w hro hs hB henv)
    · cases h
  | block id c ih =>
    intro x hx env S r h ro φ a w hro hs hB henv
    simp only [trCode, Option.map_eq_some_iff] at hx
    obtain ⟨x1, hx1, rfl⟩ := hx
    simp only [xcode, Option.map_eq_some_iff] at h
    obtain ⟨⟨e1, env1, S1⟩, h1, rfl⟩ := h
    refine wpIn_block (wpIn_mono (ih x1 hx1 env S _ h1 ro φ a w hro hs hB henv) ?_)
    rintro e a1 w1 ⟨he, φ1, k1, k2, k3, k4⟩
    simp only at he k1 k2 k3
    cases e1 with
    | normal => subst he; exact ⟨rfl, φ1, k1, k2, k3, k4⟩
    | ret => subst he; exact ⟨rfl, φ1, k1, k2, k3, k4⟩
    | exit id' =>
      subst he
      simp only [toExit, Exit.inBlock]
      by_cases e : id' = id
      · subst e
        rw [if_pos rfl, if_pos rfl]
        exact ⟨rfl, φ1, k1, k2, k3, k4⟩
      · rw [if_neg e, if_neg e]
        exact ⟨rfl, φ1, k1, k2, k3, k4⟩
  | loop c ih =>
    intro x hx env S r h ro φ a w hro hs hB henv
    simp only [trCode, Option.map_eq_some_iff] at hx
    obtain ⟨x1, hx1, rfl⟩ := hx
    simp only [xcode] at h
    refine wpIn_loop_rounds n ?_
    have key : ∀ (m : Nat) (env : Env) (S : St) (r : Ex × Env × St), xloop (xcode dr cl n x1) m env S = some r → ∀ (φ : Emb) (a : Act) (w : World), InR ro φ S w → Sim B φ S w → B ≤ w.heap.size → EnvR φ env a → Code.roundsIn (fz ro) 0 P c (PostX B φ S w a r) m a w := by
      intro m
      induction m with
      | zero => intro env S r h; cases h
      | succ m ihm =>
        intro env S r h φ a w hro hs hB henv
        rw [roundsIn_succ]
        simp only [xloop, Option.bind_eq_some_iff] at h
        obtain ⟨⟨e1, env1, S1⟩, h1, h2⟩ := h
        refine wpIn_mono (ih x1 hx1 env S _ h1 ro φ a w hro hs hB henv) ?_
        rintro e a1 w1 ⟨he, φ1, k1, k2, k3, k4⟩
        simp only at he k1 k2 k3
        cases e1 with
        | normal =>
          subst he
          simp only at h2
          have := ihm env1 S1 r h2 φ1 a1 w1 (hro.same k3) k2 (Nat.le_trans hB k3.size) k1
          exact rounds_mono (fun e a' w' hp => PostX.trans k3 k2 k4 hp) m a1 w1 this
        | exit id =>
          subst he
          obtain rfl := Option.some.inj h2
          exact ⟨rfl, φ1, k1, k2, k3, k4⟩
        | ret =>
          subst he
          obtain rfl := Option.some.inj h2
          exact ⟨rfl, φ1, k1, k2, k3, k4⟩
    exact key n env S r h φ a w hro hs hB henv
  | scope c ih =>
    intro x hx env S r h ro φ a w hro hs hB henv
    refine wpIn_scope_straight (wpIn_mono (ih x hx env S r h ro φ a w hro hs hB henv) ?_)
    rintro e a1 w1 ⟨he, rest⟩
    subst he
    obtain ⟨e1, env1, S1⟩ := r
    cases e1 <;> exact ⟨rfl, rest⟩
  | exit id =>
    intro x hx env S r h ro φ a w hro hs hB henv
    obtain rfl := Option.some.inj hx
    obtain rfl := Option.some.inj h
    exact wpIn_exit (PostX.same rfl henv hs (Keep.refl _ _ _ _) rfl)
  | ret =>
    intro x hx env S r h ro φ a w hro hs hB henv
    obtain rfl := Option.some.inj hx
    obtain rfl := Option.some.inj h
    exact wpIn_ret (PostX.same rfl henv hs (Keep.refl _ _ _ _) rfl)
  | rangeFunc g ps assign body _ _ =>
    intro x hx env S r h ro φ a w hro hs hB henv
    simp only [trCode] at hx
    split at hx
    case isFalse => cases hx
    rename_i hok
    split at hx
    case h_2 => cases hx
    obtain rfl := Option.some.inj hx
    have hg := henv.ev hok
    simp only [xcode] at h
    split at h
    case h_2 => cases h
    rename_i gf fa fb e
    rw [e] at hg
    obtain ⟨fa', fb', e', hfa, hfb⟩ : ∃ fa' fb', a.eval g = .func (.func gf) fa' fb' ∧ RelA φ fa fa' ∧ RelA φ fb fb' := by
      revert hg
      generalize a.eval g = u
      intro hg
      cases hg with
      | func _ _ _ a' b' ha hb h1 h2 => exact ⟨a', b', rfl, ⟨ha, h1⟩, ⟨hb, h2⟩⟩
    simp only [Option.bind_eq_some_iff] at h
    obtain ⟨⟨v, S2⟩, hc, h⟩ := h
    exact range_sound hcl hc h e' hfa hfb hro hs hB henv
  | label l => intro x hx; cases hx
  | goto l => intro x hx; cases hx
  | refuse why => intro x hx; cases hx

def resSem (tmps : Array Value) : ResultVar → Sem Value
  | .tmp t => pure (tmps.getD t undef)
  | .cell p t => do loadVar t (← asAddr (tmps.getD p undef))
theorem results_eq (fn : Func) (tmps : Array Value) : results fn tmps = (do let vs ← fn.results.mapM (resSem tmps); pure (if h : vs.size = 1 then vs[0] else .tuple vs)) := by
  unfold results
  congr

theorem res1_sound {φ : Emb} {S : St} {w : World} {env : Env} {a : Act} (hs : Sim B φ S w) (henv : EnvR φ env a) {rv : ResultVar} {xr : XRes} (ht : trRes P rv = some xr) {v : Value} (h : xres1 env S xr = some v) :
    ∃ v', (resSem a.tmps rv).run P w = .ok v' w ∧ Rel φ v v' := by
  cases rv with
  | tmp t =>
    obtain rfl := Option.some.inj ht
    obtain rfl := Option.some.inj h
    exact ⟨_, rfl, henv.ev (x := .tmp t) rfl⟩
  | cell p t =>
    simp only [trRes] at ht
    split at ht
    case h_2 => cases ht
    rename_i d i hd hi
    obtain rfl := Option.some.inj ht
    simp only [xres1] at h
    split at h
    case h_2 => cases h
    rename_i id o e
    have hx : Rel φ (env.getD p undef) (a.tmps.getD p undef) := henv.ev (x := .tmp p) rfl
    rw [e] at hx
    simp only [Option.bind_eq_some_iff] at h
    obtain ⟨c, hc, hv⟩ := h
    obtain ⟨s, e1, e2⟩ := ptr_inv hx
    obtain ⟨v', h1, h2⟩ := loadVar_sound (P := P) hs hd hi e1 hc hv
    refine ⟨v', ?_, h2⟩
    simp only [resSem, e2, Sem.run_bind, asAddr, Sem.run_pure, Result.andThen_ok, h1]

theorem res_sound {φ : Emb} {S : St} {w : World} {env : Env} {a : Act} (hs : Sim B φ S w) (henv : EnvR φ env a) : ∀ (l : List ResultVar) (xs : List XRes) (vs : List Value), l.mapM (trRes P) = some xs → xs.mapM (xres1 env S) = some vs →
    ∃ vs', (l.mapM (resSem a.tmps)).run P w = .ok vs' w ∧ RelL φ vs vs' := by
  intro l
  induction l with
  | nil =>
    intro xs vs h1 h2
    simp at h1
    subst h1
    simp at h2
    subst h2
    exact ⟨[], by simp, RelL.nil φ⟩
  | cons rv l ih =>
    intro xs vs h1 h2
    simp only [List.mapM_cons, Option.bind_eq_bind, Option.bind_eq_some_iff] at h1
    obtain ⟨x, hx, xs', hxs, h1⟩ := h1
    simp at h1
    subst h1
    simp only [List.mapM_cons, Option.bind_eq_bind, Option.bind_eq_some_iff] at h2
    obtain ⟨v, hv, vs', hvs, h2⟩ := h2
    simp at h2
    subst h2
    obtain ⟨v', k1, k2⟩ := res1_sound hs henv hx hv
    obtain ⟨vs'', k3, k4⟩ := ih xs' vs' hxs hvs
    refine ⟨v' :: vs'', ?_, RelL.cons k2 k4⟩
    simp only [List.mapM_cons, Sem.run_bind, Sem.run_pure]
    rw [k1]
    simp only [Result.andThen_ok]
    rw [k3]
    rfl

theorem foldl_rel {φ : Emb} : ∀ (ps : List Tmp) (xs xs' : List Value) (env : Env) (t' : Array Value), RelA φ env t' → RelL φ xs xs' →
    RelA φ ((ps.zip xs).foldl (fun t (p, v) => t.setIfInBounds p v) env) ((ps.zip xs').foldl (fun t (p, v) => t.setIfInBounds p v) t') := by
  intro ps
  induction ps with
  | nil => intro xs xs' env t' h _; simpa using h
  | cons p ps ih =>
    intro xs xs' env t' h hx
    cases xs with
    | nil =>
      obtain rfl : xs' = [] := List.eq_nil_of_length_eq_zero hx.1.symm
      simpa using h
    | cons x xs =>
      cases xs' with
      | nil => have := hx.1; simp at this
      | cons x' xs' =>
        simp only [List.zip_cons_cons, List.foldl_cons]
        refine ih xs xs' _ _ ?_ hx.tail
        exact EnvR.put (a := { tmps := t', defers := [] }) (show EnvR φ env { tmps := t', defers := [] } from h) (some p) (hx.2 0 (by simp) (by simp))

theorem zip_foldl (ps : Array Tmp) (args : Array Value) (t : Array Value) : (ps.zip args).foldl (fun t (p, v) => t.setIfInBounds p v) t = (ps.toList.zip args.toList).foldl (fun t (p, v) => t.setIfInBounds p v) t := by
  rw [← Array.foldl_toList, Array.toList_zip]

/-- one round. -/
theorem round_sound {td : Array Oper → Option XDraw} {dr : Drawer} {cl : Caller} (hdr : DrawOK P B td dr) (hcl : CallOK P B cl) (n : Nat) {LT : LoopC → Option (XCode × XCode)} (hLT : ∀ L x, LT L = some x → trLoop P td L = some x) {id : Nat} {args : Array Value} {S S' : St} {v : Value}
    (h : xround dr cl n LT id args S = some (v, S')) {φ : Emb} {w : World} {args' : Array Value} (hargs : RelA φ args args') (hs : Sim B φ S w) (hB : B ≤ w.heap.size) {s : Spot} (hid : φ id = some s) : Yields P s.b args' w (OutC B φ S w v S') := by
  unfold xround at h
  split at h
  case h_2 => cases h
  rename_i env L hget
  split at h
  case isFalse => cases h
  rename_i hsz
  generalize hE : (L.ps.zip args).foldl (fun t (p, v) => t.setIfInBounds p v) env = env0 at h
  simp only [Option.bind_eq_some_iff] at h
  obtain ⟨⟨xa, xb⟩, hL, ⟨e1, env1, S1⟩, h1, h2⟩ := h
  have hL := hLT L _ hL
  simp only [trLoop, Option.bind_eq_some_iff, Option.map_eq_some_iff, Prod.mk.injEq] at hL
  obtain ⟨xa', ha, xb', hb, e1', e2'⟩ := hL
  subst e1' e2'
  cases e1 with
  | exit _ => simp at h2
  | ret => simp at h2
  | normal =>
  simp only [Option.map_eq_some_iff] at h2
  obtain ⟨⟨e2, env2, S2⟩, h2, h3⟩ := h2
  obtain ⟨hBs, r, hr, hlr⟩ := hs.loopAt hid hget
  obtain ⟨q1, q2, q3, q4, q5, q6⟩ := hlr
  obtain ⟨g1, g2, g3⟩ := hs.loopGone hid hget
  have hlt : s.b < w.heap.size := (Array.getElem?_eq_some_iff.1 hr).1
  refine ⟨r.fn, _, r.assign, r.body, run_yield hr (by rw [q2, ← hargs.1]; exact hsz), roundIn_of_wpIn trivial ?_⟩
  have hin : InR (some s.b) φ (S.put id .gone) w := fun l e => by
    obtain rfl := Option.some.inj e
    exact ⟨⟨r, hr⟩, g3⟩
  have hwr : (S.get id).wr = true := wr_loop hget
  have hrel : RelA φ env0 ((r.params.zip args').foldl (fun t (p, v) => t.setIfInBounds p v) r.tmps) := by
    rw [← hE, q2, zip_foldl, zip_foldl]
    exact foldl_rel _ _ _ _ _ q1 hargs.toL
  have hass := code_sound hdr hcl n r.assign xa' (by rw [q3]; exact ha) _ _ _ h1 (some s.b) φ { tmps := (r.params.zip args').foldl (fun t (p, v) => t.setIfInBounds p v) r.tmps, defers := [] } w hin g1 hB hrel
  refine wpIn_mono hass ?_
  rintro e a1 w1 ⟨he, φ1, k1, k2, k3, ex, k4, k5⟩
  simp only [toExit] at he
  subst he
  simp only at k1 k2 k3
  -- the record is busy
  have hr1 : w1.heap[s.b]? = some (.loop r) := by rw [k3.keep s.b hlt g3]; exact hr
  have hn1 : NoWr φ1 S1 s.b := g3.keep hlt k3
  refine ⟨_, run_beginRound hr1 q6, ?_⟩
  have hs2 : Sim B φ1 S1 (w1.putObj s.b (.loop { r with state := .busy })) := k2.putOther _ hr1 rfl hn1 (.inl hBs.1)
  have hr2 : (w1.putObj s.b (.loop { r with state := .busy })).heap[s.b]? = some (.loop { r with state := .busy }) := World.putObj_heap_same (Array.getElem?_eq_some_iff.1 hr1).1
  have hin2 : InR (some s.b) φ1 S1 (w1.putObj s.b (.loop { r with state := .busy })) := fun l e => by
    obtain rfl := Option.some.inj e
    exact ⟨⟨_, hr2⟩, hn1⟩
  have hk1 : Keep B φ S w φ1 S1 (w1.putObj s.b (.loop { r with state := .busy })) := (g2.trans k3).putObj hid hwr _
  have hbody := code_sound hdr hcl n r.body xb' (by rw [q4]; exact hb) _ _ _ h2 (some s.b) φ1 a1 _ hin2 hs2 (by have := hk1.size; omega) k1
  refine wpIn_mono hbody ?_
  rintro e a3 w3 ⟨he, φ3, m1, m2, m3, ex3, m4, m5⟩
  simp only at he m1 m2 m3
  have hr3 : w3.heap[s.b]? = some (.loop { r with state := .busy }) := by
    rw [m3.keep s.b (by have := hk1.size; omega) hn1]; exact hr2
  have hn3 : NoWr φ3 S2 s.b := hn1.keep (by have := hk1.size; omega) m3
  have hk3 : Keep B φ S w φ3 S2 w3 := hk1.trans m3
  have fin : ∀ (pe : Option Ex), S' = S2.put id (.loop env L pe) → v = .bool (pe.map Ex.code).isNone → ∃ v' w', (Instr.endRound s.b (pe.map Ex.code)).run P w3 = .ok v' w' ∧ OutC B φ S w v S' (.returned v') w' := by
    intro pe hS' hv
    subst hS' hv
    have hend := run_endRound (P := P) (pe.map Ex.code) hr3
    refine ⟨_, _, hend, φ3, _, rfl, .bool _, ?_, ?_⟩
    · exact m2.loopBack (hk3.le _ _ hid) hr3 hn3 hBs ⟨q1.mono hk3.le, q2, q3, q4, rfl, by cases pe <;> rfl⟩
    · exact (hk3.putObj hid hwr _).setBlk hid hwr _
  cases e2 with
  | normal =>
    subst he
    simp only [Prod.mk.injEq] at h3
    exact fin none h3.2.symm h3.1.symm
  | exit j =>
    subst he
    simp only [Prod.mk.injEq] at h3
    exact fin (some (.exit j)) h3.2.symm h3.1.symm
  | ret =>
    subst he
    simp only [Prod.mk.injEq] at h3
    exact fin (some .ret) h3.2.symm h3.1.symm

theorem call_sound {td : Array Oper → Option XDraw} {dr : Drawer} (hdr : DrawOK P B td dr) {F : FuncId → Option XFunc} (hF : ∀ f xf, F f = some xf → ∃ fn, P.funcs[f]? = some fn ∧ trFunc P td fn = some xf) {LT : LoopC → Option (XCode × XCode)} (hLT : ∀ L x, LT L = some x → trLoop P td L = some x)
    {base : Base} (hbase : CallOK P B (fun g args S => match g with
      | .func f => base f args S
      | _ => none)) : ∀ n, CallOK P B (xcall dr F LT base n) := by
  intro n
  induction n with
  | zero =>
    intro g args S v S' h
    cases g with
    | func f =>
      simp only [xcall] at h
      split at h
      · exact hbase (.func f) _ _ _ _ h
      · cases h
    | yield id => simp [xcall] at h
    | method _ => simp [xcall] at h
    | methodOf _ _ => simp [xcall] at h
    | via _ _ _ _ => simp [xcall] at h
  | succ n ih =>
    intro g args S v S' h
    cases g with
    | method _ => simp [xcall] at h
    | methodOf _ _ => simp [xcall] at h
    | via _ _ _ _ => simp [xcall] at h
    | yield id =>
      simp only [xcall] at h
      exact fun φ w args' hargs hs hB s hid => round_sound hdr ih n hLT h hargs hs hB hid
    | func f =>
    simp only [xcall] at h
    split at h
    case h_1 => exact hbase (.func f) _ _ _ _ h
    rename_i xf hf
    obtain ⟨fn, h1, h2⟩ := hF f xf hf
    unfold trFunc at h2
    split at h2
    case isFalse => cases h2
    rename_i hn
    split at h2
    case h_2 => cases h2
    rename_i c hc
    split at h2
    case h_2 => cases h2
    rename_i x r hx hr
    obtain rfl := Option.some.inj h2
    refine ⟨⟨fn, h1, by simp [hc], hn⟩, fun φ w args' hargs hs hB => ?_⟩
    simp only [Option.bind_eq_some_iff] at h
    obtain ⟨⟨e1, env1, S1⟩, hx1, h⟩ := h
    refine (callsIn_wide (n := 0)).1 (callsIn_of_wp_marks h1 hc trivial (wpIn_mono (code_sound hdr ih n c x hx _ S _ hx1 none φ { tmps := args' ++ Array.replicate (fn.ntmps - args'.size) undef, defers := [] } w (InR.none _ _ _) hs hB ?_) ?_))
    · rw [hargs.1]
      exact hargs.append ⟨rfl, fun i h1 h2 => by simpa using Rel.undef φ⟩
    · rintro e a1 w1 ⟨he, φ1, k1, k2, k3, ex, k4, k5⟩
      simp only at he k1 k2 k3 h
      rw [List.append_nil] at k4
      have fin : (xres r env1 S1).map (fun v => (v, S1)) = some (v, S') → LeavesInM Fence.wide 0 P fn a1.tmps (OutC B φ S w v S') a1.defers .returning w1 := by
        intro h
        simp only [xres, Option.map_eq_some_iff, Prod.mk.injEq] at h
        obtain ⟨v0, ⟨vs, hvs, rfl⟩, rfl, rfl⟩ := h
        rw [k4]
        refine leaves_marks ex w1 k2 k5 fun w' g1 g2 g3 g4 g5 g6 => ?_
        obtain ⟨vs', q1, q2⟩ := res_sound g6 k1 fn.results.toList r vs hr hvs
        have hk' : Keep B φ S w φ1 S1 w' := ⟨k3.le, k3.place, k3.new, by rw [← g2]; exact k3.size, k3.next, g3.trans k3.os, g4.trans k3.tape, g5.trans k3.output, fun b hb hno => by rw [g1 b hb]; exact k3.keep b hb hno, k3.mine⟩
        refine ⟨(if h : vs'.toArray.size = 1 then vs'.toArray[0] else .tuple vs'.toArray), ?_, φ1, _, rfl, ?_, g6, hk'⟩
        · have hm : (fn.results.mapM (resSem a1.tmps)).run P w' = .ok vs'.toArray w' := by
            rw [← Array.toArray_toList (xs := fn.results), List.mapM_toArray, Sem.run_map, q1]
            rfl
          rw [results_eq, Sem.run_bind]
          rw [hm]
          rfl
        · have hl := q2.1
          match vs, vs', q2 with
          | [], [], q2 => simpa [pack] using Rel.tuple' q2.toA
          | [x], [y], q2 => simpa [pack] using q2.2 0 (by simp) (by simp)
          | x :: x2 :: xs, y :: y2 :: ys, q2 => simpa [pack] using Rel.tuple' q2.toA
          | [], _ :: _, q2 => exact absurd q2.1 (by simp)
          | _ :: _, [], q2 => exact absurd q2.1 (by simp)
          | [_], _ :: _ :: _, q2 => exact absurd q2.1 (by simp)
          | _ :: _ :: _, [_], q2 => exact absurd q2.1 (by simp)
      cases e1 with
      | normal => subst he; exact fin h
      | ret => subst he; exact fin h
      | exit id => cases h
end
end Go.Proofs.YtofjnhdgkhfgnaaDoor

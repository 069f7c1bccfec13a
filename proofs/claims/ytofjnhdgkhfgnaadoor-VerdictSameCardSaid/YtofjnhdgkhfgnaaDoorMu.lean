/- A logic for the abstract machine. -/
import Derived.Test.YtofjnhdgkhfgnaaDoorMt
namespace Go.Proofs.YtofjnhdgkhfgnaaDoor
open Go Go.RowKit

/-- every temporary that is written has a place, every operand is known. -/
def wfO (n : Nat) (l : List XOper) : Bool := l.all fun o => opdsOk o.op && match o.dst with | some t => decide (t < n) | none => true
def wfC (n : Nat) : XCode → Bool
  | .region ops => wfO n ops
  | .draw d => wfO n d.ops && d.flags == flagsOf d.ops d.stages
  | .seq a b => wfC n a && wfC n b
  | .cond _ a b => wfC n a && wfC n b
  | .block _ c => wfC n c
  | .loop c => wfC n c
  | .range x L => okOpd x && L.n == n
  | _ => true

/-- a function's form. -/
def XF0 (P : Program) (f : FuncId) : Option XFunc := (P.funcs[f]?).bind fun fn => (trFunc P (trDraw P) fn).bind fun xf => if wfC xf.ntmps xf.body then some xf else none
/-- functions whose run depends on a map's order, but not what they answer: their calls are shown by hand. -/
def skipNames : List String := ["simproof/simprooflaw26.lives", "simproof/simprooflaw28.lives", "simproof/simprooflaw30.lives", "simproof/simprooflaw31.lives", "simproof/simprooflaw35.lives", "simproof/simprooflaw36.lives", "simproof/simproofref08.Build", "slices.SortedFunc[simproof/api.Question]", "slices.Sorted[int]", "maps.Equal[map[simproof/api.Question]int,map[simproof/api.Question]int,simproof/api.Question,int]"]
def XF (P : Program) (f : FuncId) : Option XFunc := (P.funcs[f]?).bind fun fn => if skipNames.contains fn.name then none else XF0 P f

def skips (P : Program) (f : FuncId) : Bool := match P.funcs[f]? with
  | some fn => skipNames.contains fn.name
  | none => false

/-- a function's loop over a function, by the number of its body's block. -/
@[noinline] def findLoop (id N : Nat) : Code → Option LoopC
  | .seq a b => match findLoop id N a with
    | some L => some L
    | none => findLoop id N b
  | .cond _ a b => match findLoop id N a with
    | some L => some L
    | none => findLoop id N b
  | .block _ c => findLoop id N c
  | .loop c => findLoop id N c
  | .scope c => findLoop id N c
  | .rangeFunc _ ps as b => match b with
    | .block i c => if i == id then some ⟨ps, as, .block i c, N⟩ else findLoop id N c
    | _ => none
  | _ => none
@[noinline] def loopIn (P : Program) (f id : Nat) : LoopC := ((P.funcs[f]?).bind fun fn => fn.body.bind (findLoop id fn.ntmps)).getD ⟨#[], .skip, .skip, 0⟩

/-- the parts of a loop over a function. -/
def XL (P : Program) (L : LoopC) : Option (XCode × XCode) := (trLoop P (trDraw P) L).bind fun x => if wfC L.n x.1 && wfC L.n x.2 && L.ps.toList.all (fun t => decide (t < L.n)) then some x else none
theorem XL_wf {P : Program} {L : LoopC} {x : XCode × XCode} (h : XL P L = some x) : trLoop P (trDraw P) L = some x ∧ wfC L.n x.1 = true ∧ wfC L.n x.2 = true ∧ ∀ t ∈ L.ps.toList, t < L.n := by
  unfold XL at h
  simp only [Option.bind_eq_some_iff] at h
  obtain ⟨y, h1, h2⟩ := h
  split at h2
  · rename_i hc
    obtain rfl := Option.some.inj h2
    simp only [Bool.and_eq_true, List.all_eq_true, decide_eq_true_eq] at hc
    exact ⟨h1, hc.1.1, hc.1.2, hc.2⟩
  · cases h2

def SE (m : Nat) (env : Env) : Prop := ∀ t, Sc m (toF env t)
theorem SE.ev {m : Nat} {env : Env} (h : SE m env) : ∀ x, okOpd x = true → Sc m (env.ev x) := by
  intro x hx
  cases x with
  | tmp t => exact h t
  | const v => exact Sc.flatV hx
  | func f => exact .func f _ _ (fun i h => by simp at h) (fun i h => by simp at h)
  | global g => cases hx
theorem SE.mono {m m' : Nat} (hm : m ≤ m') {env : Env} (h : SE m env) : SE m' env := fun t => (h t).mono hm
theorem SE.put {m : Nat} {env : Env} (h : SE m env) (d : Option Tmp) {v : Value} (hv : Sc m v) : SE m (env.put d v) := by
  cases d with
  | none => exact h
  | some d =>
    intro t
    simp only [toF, Env.put]
    rw [Array.getD_eq_getD_getElem?, Array.getElem?_setIfInBounds]
    split
    · split
      · exact hv
      · exact Sc.undef m
    · have := h t
      simpa [toF, Array.getD_eq_getD_getElem?] using this
theorem put_size (env : Env) (d : Option Tmp) (v : Value) : (env.put d v).size = env.size := by cases d <;> simp [Env.put]

def CallerWS (cl : Caller) : Prop := ∀ f args S v S', cl f args S = some (v, S') → WS S → ScL S.next args.toList → WS S' ∧ S.next ≤ S'.next ∧ Sc S'.next v

theorem args_sc {m : Nat} {ρ : Operand → Value} (hρ : ∀ x, okOpd x = true → Sc m (ρ x)) {args : Array Operand} (h : args.all okOpd = true) : ScL m (args.map ρ).toList := by
  intro v hv
  simp only [Array.toList_map, List.mem_map, Array.mem_toList_iff] at hv
  obtain ⟨x, hx, rfl⟩ := hv
  obtain ⟨i, hi, rfl⟩ := Array.getElem_of_mem hx
  exact hρ _ (Array.all_eq_true.1 h i hi)

theorem func_sc {m : Nat} {f : Go.Fn} {a b : Array Value} (h : Sc m (.func f a b)) : ScL m a.toList ∧ ScL m b.toList := by
  cases h with
  | yield _ _ => exact ⟨fun v hv => by simp at hv, fun v hv => by simp at hv⟩
  | func _ _ _ h1 h2 =>
    constructor
    · intro v hv; obtain ⟨i, hi, rfl⟩ := List.getElem_of_mem hv; exact h1 i hi
    · intro v hv; obtain ⟨i, hi, rfl⟩ := List.getElem_of_mem hv; exact h2 i hi

theorem xstep_ws {cl : Caller} (hcl : CallerWS cl) {S S' : St} (hw : WS S) {o : XOp} {ρ : Operand → Value} (hok : opdsOk o = true) (hρ : ∀ x, okOpd x = true → Sc S.next (ρ x)) {v : Value} (h : xstep cl o ρ S = some (v, S')) : WS S' ∧ S.next ≤ S'.next ∧ Sc S'.next v := by
  unfold xstep at h
  split at h
  · exact hcl _ _ _ _ _ h hw (args_sc hρ hok)
  · rename_i x args
    simp only [opdsOk, Bool.and_eq_true] at hok
    split at h
    · rename_i f a b e
      have hx := hρ x hok.1
      rw [e] at hx
      obtain ⟨h1, h2⟩ := func_sc hx
      refine hcl _ _ _ _ _ h hw ?_
      rw [Array.toList_append, Array.toList_append]
      exact (h1.append (args_sc hρ hok.2)).append h2
    · cases h
  · exact xop_ws hw hok hρ h

theorem wfO_cons {n : Nat} {o : XOper} {l : List XOper} (h : wfO n (o :: l) = true) : opdsOk o.op = true ∧ (∀ t, o.dst = some t → t < n) ∧ wfO n l = true := by
  simp only [wfO, List.all_cons, Bool.and_eq_true] at h
  refine ⟨h.1.1, fun t e => ?_, h.2⟩
  have := h.1.2
  rw [e] at this
  simpa using this

theorem xops_ws {cl : Caller} (hcl : CallerWS cl) {n : Nat} : ∀ (l : List XOper), wfO n l = true → ∀ (env : Env) (S : St) (env' : Env) (S' : St), WS S → SE S.next env → xops cl l env S = some (env', S') → WS S' ∧ S.next ≤ S'.next ∧ SE S'.next env' ∧ env'.size = env.size := by
  intro l
  induction l with
  | nil =>
    intro _ env S env' S' hw hs h
    obtain ⟨rfl, rfl⟩ := Prod.mk.inj (Option.some.inj h)
    exact ⟨hw, Nat.le_refl _, hs, rfl⟩
  | cons o l ih =>
    intro hwf env S env' S' hw hs h
    obtain ⟨h1, h2, h3⟩ := wfO_cons hwf
    simp only [xops] at h
    split at h
    · simp only [Option.bind_eq_some_iff] at h
      obtain ⟨⟨v, S1⟩, h4, h5⟩ := h
      obtain ⟨k1, k2, k3⟩ := xstep_ws hcl hw h1 hs.ev h4
      obtain ⟨q1, q2, q3, q4⟩ := ih h3 _ _ _ _ k1 ((hs.mono k2).put _ k3) h5
      exact ⟨q1, Nat.le_trans k2 q2, q3, q4.trans (put_size _ _ _)⟩
    · obtain ⟨q1, q2, q3, q4⟩ := ih h3 _ _ _ _ hw (hs.put _ (Sc.undef _)) h
      exact ⟨q1, q2, q3, q4.trans (put_size _ _ _)⟩

theorem xrun_ws {cl : Caller} (hcl : CallerWS cl) {n : Nat} : ∀ (l : List XOper), wfO n l = true → ∀ (env : Env) (S : St) (R : List Rec) (env' : Env) (S' : St), WS S → SE S.next env → xrun cl l env S = some (R, env', S') →
    WS S' ∧ S.next ≤ S'.next ∧ SE S'.next env' ∧ env'.size = env.size ∧ (∀ (i : Nat) (r : Rec), R[i]? = some r → WS r.S ∧ SE r.S.next r.env) := by
  intro l
  induction l with
  | nil =>
    intro _ env S R env' S' hw hs h
    simp only [xrun, Option.some.injEq, Prod.mk.injEq] at h
    obtain ⟨rfl, rfl, rfl⟩ := h
    exact ⟨hw, Nat.le_refl _, hs, rfl, fun i r e => by simp at e⟩
  | cons o l ih =>
    intro hwf env S R env' S' hw hs h
    obtain ⟨h1, h2, h3⟩ := wfO_cons hwf
    simp only [xrun] at h
    split at h
    · simp only [Option.bind_eq_some_iff, Option.map_eq_some_iff] at h
      obtain ⟨⟨v, S1⟩, h4, ⟨R1, e1, s1⟩, h5, h6⟩ := h
      simp only [Prod.mk.injEq] at h6
      obtain ⟨rfl, rfl, rfl⟩ := h6
      obtain ⟨k1, k2, k3⟩ := xstep_ws hcl hw h1 hs.ev h4
      obtain ⟨q1, q2, q3, q4, q5⟩ := ih h3 _ _ _ _ _ k1 ((hs.mono k2).put _ k3) h5
      refine ⟨q1, Nat.le_trans k2 q2, q3, q4.trans (put_size _ _ _), fun i r e => ?_⟩
      cases i with
      | zero => simp at e; subst e; exact ⟨hw, hs⟩
      | succ i => exact q5 i r (by simpa using e)
    · simp only [Option.map_eq_some_iff] at h
      obtain ⟨⟨R1, e1, s1⟩, h5, h6⟩ := h
      simp only [Prod.mk.injEq] at h6
      obtain ⟨rfl, rfl, rfl⟩ := h6
      obtain ⟨q1, q2, q3, q4, q5⟩ := ih h3 _ _ _ _ _ hw (hs.put _ (Sc.undef _)) h5
      refine ⟨q1, q2, q3, q4.trans (put_size _ _ _), fun i r e => ?_⟩
      cases i with
      | zero => simp at e; subst e; exact ⟨hw, hs⟩
      | succ i => exact q5 i r (by simpa using e)

theorem xcode_range {cl : Caller} {n : Nat} {x : Operand} {L : LoopC} {env : Env} {S : St} {r : Ex × Env × St} (h : xcode xdraw cl n (.range x L) env S = some r) :
    ∃ g a b v S2 env2 L2 pe, env.ev x = .func (.func g) a b ∧ cl (.func g) (a ++ #[.func (.yield S.next) #[] #[]] ++ b) (S.alloc (.loop env L none)) = some (v, S2) ∧ S2.get S.next = .loop env2 L2 pe ∧ r = (pe.getD .normal, env, S2.put S.next .gone) := by
  simp only [xcode] at h
  split at h
  case h_2 => cases h
  rename_i g a b e
  simp only [Option.bind_eq_some_iff] at h
  obtain ⟨⟨v, S2⟩, h1, h2⟩ := h
  simp only at h2
  split at h2
  · rename_i e3
    exact ⟨g, a, b, v, S2, _, _, _, e, h1, e3, (Option.some.inj h2).symm⟩
  · rename_i e3
    exact ⟨g, a, b, v, S2, _, _, _, e, h1, e3, (Option.some.inj h2).symm⟩
  · cases h2

theorem SE.toL {m : Nat} {env : Env} (h : SE m env) : ScL m env.toList := by
  intro v hv
  obtain ⟨i, hi, rfl⟩ := List.getElem_of_mem hv
  have hi' : i < env.size := by simpa using hi
  have := h i
  simpa [toF, Array.getD_eq_getD_getElem?, hi'] using this
theorem SE.of {m : Nat} {env : Env} (h : ScL m env.toList) : SE m env := by
  intro t
  simp only [toF]
  rw [Array.getD_eq_getD_getElem?]
  cases e : env[t]? with
  | none => exact Sc.undef m
  | some v => exact h v (by simpa using Array.mem_of_getElem? e)

theorem xcode_ws {cl : Caller} (hcl : CallerWS cl) {m n : Nat} : ∀ (c : XCode), wfC m c = true → ∀ (env : Env) (S : St) (r : Ex × Env × St), WS S → SE S.next env → xcode xdraw cl n c env S = some r → WS r.2.2 ∧ S.next ≤ r.2.2.next ∧ SE r.2.2.next r.2.1 ∧ r.2.1.size = env.size := by
  intro c
  induction c with
  | skip => intro _ env S r hw hs h; obtain rfl := Option.some.inj h; exact ⟨hw, Nat.le_refl _, hs, rfl⟩
  | exit id => intro _ env S r hw hs h; obtain rfl := Option.some.inj h; exact ⟨hw, Nat.le_refl _, hs, rfl⟩
  | ret => intro _ env S r hw hs h; obtain rfl := Option.some.inj h; exact ⟨hw, Nat.le_refl _, hs, rfl⟩
  | region ops =>
    intro hwf env S r hw hs h
    simp only [xcode, Option.map_eq_some_iff] at h
    obtain ⟨⟨env', S'⟩, h1, rfl⟩ := h
    exact xops_ws hcl ops hwf env S env' S' hw hs h1
  | draw d =>
    intro hwf env S r hw hs h
    simp only [xcode, Option.map_eq_some_iff] at h
    obtain ⟨⟨env', S'⟩, h1, rfl⟩ := h
    unfold xdraw at h1
    simp only [Option.bind_eq_some_iff] at h1
    obtain ⟨⟨R, e1, s1⟩, h2, h3⟩ := h1
    simp only [wfC, Bool.and_eq_true] at hwf
    split at h3
    · obtain ⟨rfl, rfl⟩ := Prod.mk.inj (Option.some.inj h3)
      obtain ⟨q1, q2, q3, q4, _⟩ := xrun_ws hcl d.ops hwf.1 env S R _ _ hw hs h2
      exact ⟨q1, q2, q3, q4⟩
    · cases h3
  | seq a b iha ihb =>
    intro hwf env S r hw hs h
    simp only [wfC, Bool.and_eq_true] at hwf
    simp only [xcode, Option.bind_eq_some_iff] at h
    obtain ⟨⟨e, env1, S1⟩, h1, h2⟩ := h
    obtain ⟨q1, q2, q3, q4⟩ := iha hwf.1 env S _ hw hs h1
    cases e with
    | normal =>
      obtain ⟨p1, p2, p3, p4⟩ := ihb hwf.2 env1 S1 r q1 q3 h2
      exact ⟨p1, Nat.le_trans q2 p2, p3, p4.trans q4⟩
    | exit id => obtain rfl := Option.some.inj h2; exact ⟨q1, q2, q3, q4⟩
    | ret => obtain rfl := Option.some.inj h2; exact ⟨q1, q2, q3, q4⟩
  | cond c x y ihx ihy =>
    intro hwf env S r hw hs h
    simp only [wfC, Bool.and_eq_true] at hwf
    simp only [xcode] at h
    split at h
    · exact ihx hwf.1 env S r hw hs h
    · exact ihy hwf.2 env S r hw hs h
    · cases h
  | block id c ih =>
    intro hwf env S r hw hs h
    simp only [xcode, Option.map_eq_some_iff] at h
    obtain ⟨⟨e, env1, S1⟩, h1, rfl⟩ := h
    have := ih hwf env S _ hw hs h1
    cases e with
    | exit id' => simp only; split <;> exact this
    | normal => exact this
    | ret => exact this
  | loop c ih =>
    intro hwf env S r hw hs h
    simp only [xcode] at h
    have key : ∀ (k : Nat) (env : Env) (S : St) (r : Ex × Env × St), WS S → SE S.next env → xloop (xcode xdraw cl n c) k env S = some r → WS r.2.2 ∧ S.next ≤ r.2.2.next ∧ SE r.2.2.next r.2.1 ∧ r.2.1.size = env.size := by
      intro k
      induction k with
      | zero => intro env S r _ _ h; cases h
      | succ k ihk =>
        intro env S r hw hs h
        simp only [xloop, Option.bind_eq_some_iff] at h
        obtain ⟨⟨e, env1, S1⟩, h1, h2⟩ := h
        obtain ⟨q1, q2, q3, q4⟩ := ih hwf env S _ hw hs h1
        cases e with
        | normal =>
          obtain ⟨p1, p2, p3, p4⟩ := ihk env1 S1 r q1 q3 h2
          exact ⟨p1, Nat.le_trans q2 p2, p3, p4.trans q4⟩
        | exit id => obtain rfl := Option.some.inj h2; exact ⟨q1, q2, q3, q4⟩
        | ret => obtain rfl := Option.some.inj h2; exact ⟨q1, q2, q3, q4⟩
    exact key n env S r hw hs h
  | range x L =>
    intro hwf env S r hw hs h
    simp only [wfC, Bool.and_eq_true] at hwf
    obtain ⟨g, a, b, v, S2, env2, L2, pe, e, h1, h2, rfl⟩ := xcode_range h
    have hx := hs.ev x hwf.1
    rw [e] at hx
    obtain ⟨k1, k2⟩ := func_sc hx
    have hm : ScL (S.alloc (.loop env L none)).next (a ++ #[Value.func (.yield S.next) #[] #[]] ++ b).toList := by
      rw [Array.toList_append, Array.toList_append]
      refine ((k1.mono (by simp)).append ?_).append (k2.mono (by simp))
      intro u hu
      simp only [List.mem_singleton] at hu
      subst hu
      exact .yield _ (by simp)
    obtain ⟨q1, q2, q3⟩ := hcl _ _ _ _ _ h1 (hw.allocB (b := .loop env L none) hs.toL) hm
    simp only [St.next_alloc] at q2
    refine ⟨q1.putB (by omega) (b := .gone) trivial, by simp; omega, hs.mono (by simp; omega), rfl⟩

theorem XF0_wf {P : Program} {f : FuncId} {xf : XFunc} (h : XF0 P f = some xf) : wfC xf.ntmps xf.body = true ∧ ∃ fn, P.funcs[f]? = some fn ∧ trFunc P (trDraw P) fn = some xf := by
  unfold XF0 at h
  simp only [Option.bind_eq_some_iff] at h
  obtain ⟨fn, h1, xf', h2, h3⟩ := h
  split at h3
  · rename_i hw
    obtain rfl := Option.some.inj h3
    exact ⟨hw, fn, h1, h2⟩
  · cases h3
theorem XF_XF0 {P : Program} {f : FuncId} {xf : XFunc} (h : XF P f = some xf) : XF0 P f = some xf := by
  unfold XF at h
  simp only [Option.bind_eq_some_iff] at h
  obtain ⟨fn, _, h⟩ := h
  split at h
  · cases h
  · exact h
theorem XF_wf {P : Program} {f : FuncId} {xf : XFunc} (h : XF P f = some xf) : wfC xf.ntmps xf.body = true ∧ ∃ fn, P.funcs[f]? = some fn ∧ trFunc P (trDraw P) fn = some xf := XF0_wf (XF_XF0 h)


theorem args_SE {m : Nat} {args : Array Value} (h : ScL m args.toList) (k : Nat) : SE m (args ++ Array.replicate k undef) := by
  intro t
  simp only [toF]
  rw [Array.getD_eq_getD_getElem?]
  cases e : (args ++ Array.replicate k undef)[t]? with
  | none => exact Sc.undef m
  | some v =>
    have hm := Array.mem_of_getElem? e
    simp only [Array.mem_append, Array.mem_replicate] at hm
    rcases hm with hm | ⟨_, rfl⟩
    · exact h v (by simpa using hm)
    · exact Sc.undef m

theorem xres1_sc {S : St} {env : Env} (hw : WS S) (hs : SE S.next env) {x : XRes} {v : Value} (h : xres1 env S x = some v) : Sc S.next v := by
  cases x with
  | tmp t => obtain rfl := Option.some.inj h; exact hs t
  | cell a agg sz =>
    simp only [xres1] at h
    split at h
    · simp only [Option.bind_eq_some_iff] at h
      obtain ⟨c, hc, hv⟩ := h
      exact part1_sc hv (hw.rd hc)
    · cases h

/-- a base as a caller. -/
def baseC (b : Base) : Caller := fun g args S => match g with
  | .func f => b f args S
  | _ => none

/-- the functions whose calls are shown by hand. -/
class Prim (P : Program) where
  run : Base
  ws : ∀ f args S v S', run f args S = some (v, S') → WS S → ScL S.next args.toList → WS S' ∧ S.next ≤ S'.next ∧ Sc S'.next v
  ok : ∀ B, CallOK P B (baseC run)

theorem SE_fold {m : Nat} : ∀ (ps : List Tmp) (xs : List Value) (env : Env), SE m env → ScL m xs → SE m ((ps.zip xs).foldl (fun t (p, v) => t.setIfInBounds p v) env) ∧ ((ps.zip xs).foldl (fun t (p, v) => t.setIfInBounds p v) env).size = env.size := by
  intro ps
  induction ps with
  | nil => intro xs env h _; exact ⟨by simpa using h, by simp⟩
  | cons p ps ih =>
    intro xs env h hx
    cases xs with
    | nil => exact ⟨by simpa using h, by simp⟩
    | cons x xs =>
      simp only [List.zip_cons_cons, List.foldl_cons]
      have := ih xs (env.put (some p) x) (h.put (some p) (hx x (by simp))) (fun v hv => hx v (by simp [hv]))
      exact ⟨this.1, this.2.trans (put_size _ _ _)⟩

/-- what a round does. -/
theorem xround_inv {cl : Caller} {n : Nat} {LT : LoopC → Option (XCode × XCode)} {id : Nat} {args : Array Value} {S S' : St} {v : Value} (h : xround xdraw cl n LT id args S = some (v, S')) :
    ∃ env L xa xb env0 env1 S1 ex env2 S2, S.get id = .loop env L none ∧ args.size = L.ps.size ∧ LT L = some (xa, xb) ∧ env0 = (L.ps.toList.zip args.toList).foldl (fun t (p, v) => t.setIfInBounds p v) env ∧
      xcode xdraw cl n xa env0 (S.put id .gone) = some (.normal, env1, S1) ∧ xcode xdraw cl n xb env1 S1 = some (ex, env2, S2) ∧
      ((ex = .normal ∧ v = .bool true ∧ S' = S2.put id (.loop env L none)) ∨ (ex ≠ .normal ∧ v = .bool false ∧ S' = S2.put id (.loop env L (some ex)))) := by
  unfold xround at h
  split at h
  case h_2 => cases h
  rename_i env L hget
  split at h
  case isFalse => cases h
  rename_i hsz
  generalize hE : (L.ps.zip args).foldl (fun t (p, v) => t.setIfInBounds p v) env = env0 at h
  rw [zip_foldl] at hE
  simp only [Option.bind_eq_some_iff] at h
  obtain ⟨⟨xa, xb⟩, hL, ⟨e1, env1, S1⟩, h1, h2⟩ := h
  cases e1 with
  | exit _ => simp at h2
  | ret => simp at h2
  | normal =>
  simp only [Option.map_eq_some_iff] at h2
  obtain ⟨⟨ex, env2, S2⟩, h2, h3⟩ := h2
  refine ⟨env, L, xa, xb, env0, env1, S1, ex, env2, S2, hget, hsz, hL, hE.symm, h1, h2, ?_⟩
  cases ex with
  | normal =>
    simp only [Prod.mk.injEq] at h3
    exact .inl ⟨rfl, h3.1.symm, h3.2.symm⟩
  | exit j =>
    simp only [Prod.mk.injEq] at h3
    exact .inr ⟨by simp, h3.1.symm, h3.2.symm⟩
  | ret =>
    simp only [Prod.mk.injEq] at h3
    exact .inr ⟨by simp, h3.1.symm, h3.2.symm⟩

theorem xround_ws {P : Program} {cl : Caller} (hcl : CallerWS cl) {n : Nat} {id : Nat} {args : Array Value} {S S' : St} {v : Value} (h : xround xdraw cl n (XL P) id args S = some (v, S')) (hw : WS S) (hargs : ScL S.next args.toList) : WS S' ∧ S.next ≤ S'.next ∧ Sc S'.next v := by
  obtain ⟨env, L, xa, xb, env0, env1, S1, ex, env2, S2, h1, h2, h3, h4, h5, h6, h7⟩ := xround_inv h
  obtain ⟨_, w1, w2, _⟩ := XL_wf h3
  have hid := hw.alive (id := id) (by rw [h1]; simp)
  have henv := hw.loop id env L none h1
  have h0 : SE S.next env0 := by rw [h4]; exact (SE_fold _ _ _ (SE.of henv) hargs).1
  obtain ⟨q1, q2, q3, q4⟩ := xcode_ws hcl xa w1 env0 _ _ (hw.putB hid (b := .gone) trivial) (by simpa using h0) h5
  obtain ⟨p1, p2, p3, p4⟩ := xcode_ws hcl xb w2 env1 S1 _ q1 q3 h6
  simp only [St.next_put] at q2
  have hle : S.next ≤ S2.next := Nat.le_trans q2 p2
  rcases h7 with ⟨_, rfl, rfl⟩ | ⟨_, rfl, rfl⟩
  · exact ⟨p1.putB (by omega) (henv.mono hle), by simpa using hle, .bool _⟩
  · exact ⟨p1.putB (by omega) (henv.mono hle), by simpa using hle, .bool _⟩

theorem xcall_ws (P : Program) [Prim P] : ∀ n, CallerWS (xcall xdraw (XF P) (XL P) (Prim.run P) n) := by
  intro n
  induction n with
  | zero =>
    intro f args S v S' h
    cases f with
    | func f =>
      simp only [xcall] at h
      split at h
      · exact Prim.ws (P := P) _ _ _ _ _ h
      · cases h
    | yield id => simp [xcall] at h
    | method _ => simp [xcall] at h
    | methodOf _ _ => simp [xcall] at h
    | via _ _ _ _ => simp [xcall] at h
  | succ n ih =>
    intro f args S v S' h hw hargs
    cases f with
    | yield id => exact xround_ws ih h hw hargs
    | method _ => simp [xcall] at h
    | methodOf _ _ => simp [xcall] at h
    | via _ _ _ _ => simp [xcall] at h
    | func f =>
    simp only [xcall] at h
    split at h
    · exact Prim.ws (P := P) _ _ _ _ _ h hw hargs
    rename_i fn hf
    simp only [Option.bind_eq_some_iff] at h
    obtain ⟨⟨e, env1, S1⟩, h1, h2⟩ := h
    obtain ⟨q1, q2, q3, q4⟩ := xcode_ws ih fn.body (XF_wf hf).1 _ S _ hw (args_SE hargs _) h1
    have fin : (xres fn.results env1 S1).map (fun v => (v, S1)) = some (v, S') → WS S' ∧ S.next ≤ S'.next ∧ Sc S'.next v := by
      intro h
      simp only [xres, Option.map_eq_some_iff, Prod.mk.injEq] at h
      obtain ⟨v0, ⟨vs, hvs, rfl⟩, rfl, rfl⟩ := h
      refine ⟨q1, q2, ?_⟩
      have hall : ScL S1.next vs := by
        intro u hu
        obtain ⟨i, hi, rfl⟩ := List.getElem_of_mem hu
        have hl := List.length_mapM_option hvs
        exact xres1_sc q1 q3 (List.getElem_mapM_option hvs i (by omega) hi)
      unfold pack
      split
      · exact hall _ (by simp)
      · exact .tuple _ fun i hi => hall _ (by simp)
    cases e with
    | normal => exact fin h2
    | ret => exact fin h2
    | exit id => cases h2
end Go.Proofs.YtofjnhdgkhfgnaaDoor

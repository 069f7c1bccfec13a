/- The evaluator of closed computations: code, calls; closed computations hold wherever they stand. No program in sight. -/
import Derived.Test.YtofjnhdgkhfgnaaDoorKd
import Derived.Test.YtofjnhdgkhfgnaaDoorMst
set_option linter.unusedVariables false
set_option linter.unusedSimpArgs false
set_option linter.unusedSectionVars false
namespace Go.Proofs.YtofjnhdgkhfgnaaDoor
open Go Go.RowKit

noncomputable def kseq (a b : KCode) : KCode := fun env h nx k => a env h nx fun e env h nx => @Ex.rec (fun _ => Bool) (b env h nx k) (fun id => k (.exit id) env h nx) (k .ret env h nx) e
noncomputable def kcond (c : Operand) (x y : KCode) : KCode := fun env h nx k => qv env c fun v => asBool v fun b => @Bool.rec (fun _ => Bool) (y env h nx k) (x env h nx k) b
noncomputable def kblock (id : Nat) (c : KCode) : KCode := fun env h nx k => c env h nx fun e env h nx => @Ex.rec (fun _ => Bool) (k .normal env h nx) (fun i => @Bool.rec (fun _ => Bool) (k (.exit i) env h nx) (k .normal env h nx) (Nat.beq i id)) (k .ret env h nx) e
noncomputable def kloop (c : KCode) (n : Nat) : KCode := @Nat.rec (fun _ => KCode) (fun _ _ _ _ => false) (fun _ ih env h nx k => c env h nx fun e env h nx => @Ex.rec (fun _ => Bool) (ih env h nx k) (fun id => k (.exit id) env h nx) (k .ret env h nx) e) n
noncomputable def kregion (cl : KCall) (ops : List XOper) : KCode := fun env h nx k => kops cl ops env h nx (k .normal)
/-- the environment as the loop over a function keeps it; it is not looked at, unless a round begins. -/
noncomputable def mkEnv (n : Nat) (ke : T4) : Array Value := ((List.range n).map (toK ke)).toArray
theorem mkEnv_eq {n : Nat} {ke : T4} {env : Env} (he : toF env = toK ke) (hn : env.size = n) : mkEnv n ke = env := by
  apply Array.ext
  · simp [mkEnv, hn]
  · intro i h1 h2
    simp only [mkEnv, List.getElem_toArray, List.getElem_map, List.getElem_range, ← he, toF, Array.getD_eq_getD_getElem?]
    rw [Array.getElem?_eq_getElem h2]; rfl
/-- a loop over a function none of whose rounds begins. -/
noncomputable def krange (cl : KCall) (x : Operand) (L : LoopC) : KCode := fun env h nx k => qv env x fun v => match v with
  | .func (.func g) a b => kset (.obj (.loop (mkEnv L.n env) L none)) 40 h nx fun h => fN (Nat.succ nx) fun nx1 => cl (.func g) (a.toList ++ .func (.yield nx) #[] #[] :: b.toList) h nx1 fun _ h2 nx2 => match kblk h2 nx with
    | .obj (.loop _ _ none) => kset .gone 40 h2 nx fun h3 => k .normal env h3 nx2
    | .obj (.loop _ _ (some e)) => kset .gone 40 h2 nx fun h3 => k e env h3 nx2
    | _ => false
  | _ => false
noncomputable def kcode (cl : KCall) (n : Nat) (c : XCode) : KCode := @XCode.rec (fun _ => KCode) (fun env h nx k => k .normal env h nx) (fun ops => kregion cl ops) (fun d => kdraw cl d) (fun _ _ a b => kseq a b) (fun c _ _ x y => kcond c x y) (fun id _ c => kblock id c) (fun _ c => kloop c n)
  (fun id env h nx k => k (.exit id) env h nx) (fun env h nx k => k .ret env h nx) (fun x L => krange cl x L) c

section
variable {M : Nat → Caller} (hM : MachOK M)
include hM
omit hM in
def KCodeOK (M : Nat → Caller) (m : Nat) (c : XCode) (f : KCode) : Prop := ∀ (env : Env) (ke : T4) (S : St) (k : KX), toF env = toK ke → env.size = m → WS S → SE S.next env → f ke S.heap S.next k = true →
  ∃ n e env' S', xcode xdraw (M n) n c env S = some (e, env', S') ∧ KQ (k e) env' S'
theorem kloop_ok {m : Nat} {c : XCode} (hwf : wfC m c = true) {f : KCode} (hf : KCodeOK M m c f) : ∀ j, ∀ (env : Env) (ke : T4) (S : St) (k : KX), toF env = toK ke → env.size = m → WS S → SE S.next env → kloop f j ke S.heap S.next k = true →
    ∃ n e env' S', xloop (xcode xdraw (M n) n c) j env S = some (e, env', S') ∧ KQ (k e) env' S' := by
  intro j
  induction j with
  | zero => intro env ke S k _ _ _ _ hk; cases hk
  | succ j ih =>
    intro env ke S k he hm hw hs hk
    obtain ⟨n, e, env1, S1, h1, ke1, h2, h3⟩ := hf env ke S _ he hm hw hs hk
    obtain ⟨q1, q2, q3, q4⟩ := xcode_ws (hM.ws n) c hwf env S _ hw hs h1
    cases e with
    | normal =>
      obtain ⟨n2, e2, env2, S2, h4, h5⟩ := ih env1 ke1 S1 k h2 (by rw [q4]; exact hm) q1 q3 h3
      refine ⟨max n n2, e2, env2, S2, ?_, h5⟩
      simp only [xloop]
      rw [xcode_mono (hM.mono n (max n n2) (Nat.le_max_left _ _)) (Nat.le_max_left _ _) _ _ _ _ h1]
      exact xloop_mono (fun env S r h => xcode_mono (hM.mono n2 (max n n2) (Nat.le_max_right _ _)) (Nat.le_max_right _ _) _ _ _ _ h) j j (Nat.le_refl _) _ _ _ h4
    | exit id => exact ⟨n, .exit id, env1, S1, by simp [xloop, h1], ke1, h2, h3⟩
    | ret => exact ⟨n, .ret, env1, S1, by simp [xloop, h1], ke1, h2, h3⟩
theorem kcode_ok {cl : KCall} (hcl : KCallOK M cl) (j : Nat) {m : Nat} : ∀ c : XCode, wfC m c = true → KCodeOK M m c (kcode cl j c) := by
  intro c
  induction c with
  | skip => intro _ env ke S k he hm hw hs hk; exact ⟨0, _, _, _, rfl, ke, he, hk⟩
  | exit id => intro _ env ke S k he hm hw hs hk; exact ⟨0, _, _, _, rfl, ke, he, hk⟩
  | ret => intro _ env ke S k he hm hw hs hk; exact ⟨0, _, _, _, rfl, ke, he, hk⟩
  | region ops =>
    intro hwf env ke S k he hm hw hs hk
    obtain ⟨n, env', S', h1, h2⟩ := kops_ok hM hcl ops hwf env ke S (k .normal) he (Nat.le_of_eq hm.symm) hw hs hk
    exact ⟨n, .normal, env', S', by simp [xcode, h1], h2⟩
  | draw d =>
    intro hwf env ke S k he hm hw hs hk
    simp only [wfC, Bool.and_eq_true] at hwf
    obtain ⟨n, env', S', h1, h2⟩ := kdraw_ok hM hcl hwf.1 he (Nat.le_of_eq hm.symm) hw hs hk
    exact ⟨n, .normal, env', S', by simp [xcode, h1], h2⟩
  | seq a b iha ihb =>
    intro hwf env ke S k he hm hw hs hk
    simp only [wfC, Bool.and_eq_true] at hwf
    obtain ⟨n, e, env1, S1, h1, ke1, h2, h3⟩ := iha hwf.1 env ke S _ he hm hw hs hk
    obtain ⟨q1, q2, q3, q4⟩ := xcode_ws (hM.ws n) a hwf.1 env S _ hw hs h1
    cases e with
    | normal =>
      obtain ⟨n2, e2, env2, S2, h4, h5⟩ := ihb hwf.2 env1 ke1 S1 k h2 (by rw [q4]; exact hm) q1 q3 h3
      refine ⟨max n n2, e2, env2, S2, ?_, h5⟩
      simp only [xcode]
      rw [xcode_mono (hM.mono n (max n n2) (Nat.le_max_left _ _)) (Nat.le_max_left _ _) _ _ _ _ h1]
      exact xcode_mono (hM.mono n2 (max n n2) (Nat.le_max_right _ _)) (Nat.le_max_right _ _) _ _ _ _ h4
    | exit id => exact ⟨n, .exit id, env1, S1, by simp [xcode, h1], ke1, h2, h3⟩
    | ret => exact ⟨n, .ret, env1, S1, by simp [xcode, h1], ke1, h2, h3⟩
  | cond c x y ihx ihy =>
    intro hwf env ke S k he hm hw hs hk
    simp only [wfC, Bool.and_eq_true] at hwf
    have hk : (qv ke c fun v => asBool v fun b => @Bool.rec (fun _ => Bool) (kcode cl j y ke S.heap S.next k) (kcode cl j x ke S.heap S.next k) b) = true := hk
    rw [qv_eq] at hk
    obtain ⟨b, hb, hk'⟩ := asBool_ok hk
    rw [qval_eq, ← he, ← toF_ev] at hb
    cases b with
    | true =>
      obtain ⟨n, e2, env2, S2, h3, h4⟩ := ihx hwf.1 env ke S k he hm hw hs hk'
      exact ⟨n, e2, env2, S2, by simp [xcode, hb, h3], h4⟩
    | false =>
      obtain ⟨n, e2, env2, S2, h3, h4⟩ := ihy hwf.2 env ke S k he hm hw hs hk'
      exact ⟨n, e2, env2, S2, by simp [xcode, hb, h3], h4⟩
  | block id c ih =>
    intro hwf env ke S k he hm hw hs hk
    obtain ⟨n, e, env1, S1, h1, ke1, h2, h3⟩ := ih hwf env ke S _ he hm hw hs hk
    cases e with
    | normal => exact ⟨n, .normal, env1, S1, by simp [xcode, h1], ke1, h2, h3⟩
    | ret => exact ⟨n, .ret, env1, S1, by simp [xcode, h1], ke1, h2, h3⟩
    | exit i =>
      have h3 : @Bool.rec (fun _ => Bool) (k (.exit i) ke1 S1.heap S1.next) (k .normal ke1 S1.heap S1.next) (Nat.beq i id) = true := h3
      by_cases e : i = id
      · rw [beq_t e] at h3
        exact ⟨n, .normal, env1, S1, by simp [xcode, h1, e], ke1, h2, h3⟩
      · rw [beq_f e] at h3
        exact ⟨n, .exit i, env1, S1, by simp [xcode, h1, e], ke1, h2, h3⟩
  | loop c ih =>
    intro hwf env ke S k he hm hw hs hk
    obtain ⟨n, e, env', S', h1, h2⟩ := kloop_ok hM (c := c) hwf (ih hwf) j env ke S k he hm hw hs hk
    refine ⟨max n j, e, env', S', ?_, h2⟩
    simp only [xcode]
    exact xloop_mono (fun env S r h => xcode_mono (hM.mono n (max n j) (Nat.le_max_left _ _)) (Nat.le_max_left _ _) _ _ _ _ h) j (max n j) (Nat.le_max_right _ _) _ _ _ h1
  | range x L =>
    intro hwf env ke S k he hm hw hs hk
    simp only [wfC, Bool.and_eq_true, beq_iff_eq] at hwf
    have hk : krange cl x L ke S.heap S.next k = true := hk
    unfold krange at hk
    rw [qv_eq, qval_eq, ← he, ← toF_ev] at hk
    split at hk
    case h_2 => cases hk
    rename_i g a b hx
    have hk := kset_eq _ _ _ _ _ hk
    rw [fN_eq, mkEnv_eq he (hm.trans hwf.2.symm)] at hk
    have hsx := hs.ev x hwf.1
    rw [hx] at hsx
    obtain ⟨k1, k2⟩ := func_sc hsx
    have e2 : (a.toList ++ Value.func (.yield S.next) #[] #[] :: b.toList).toArray = a ++ #[Value.func (.yield S.next) #[] #[]] ++ b := by simp
    have hc := hcl _ _ _ _ _ hk
    rw [e2] at hc
    obtain ⟨n, v, S2, h1, h2⟩ := hc (hw.allocB (b := .loop env L none) hs.toL) (by
      rw [Array.toList_append, Array.toList_append]
      refine ((k1.mono (Nat.le_succ _)).append ?_).append (k2.mono (Nat.le_succ _))
      intro u hu
      simp at hu
      subst hu
      exact .yield _ (Nat.lt_succ_self _))
    have h1 : M n (.func g) (a ++ #[Value.func (.yield S.next) #[] #[]] ++ b) (S.alloc (.loop env L none)) = some (v, S2) := h1
    have h2 : (match kblk S2.heap S.next with
      | .obj (.loop _ _ none) => kset .gone 40 S2.heap S.next fun h3 => k .normal ke h3 S2.next
      | .obj (.loop _ _ (some e)) => kset .gone 40 S2.heap S.next fun h3 => k e ke h3 S2.next
      | _ => false) = true := h2
    rw [kblk_eq S2.heap S2.next] at h2
    have h2 : (match S2.get S.next with
      | .obj (.loop _ _ none) => kset .gone 40 S2.heap S.next fun h3 => k .normal ke h3 S2.next
      | .obj (.loop _ _ (some e)) => kset .gone 40 S2.heap S.next fun h3 => k e ke h3 S2.next
      | _ => false) = true := h2
    split at h2
    · rename_i e3
      exact ⟨n, .normal, env, S2.put S.next .gone, by simp only [xcode, hx, h1, Option.bind_some, e3], ke, he, kset_eq _ _ _ _ _ h2⟩
    · rename_i e e3
      exact ⟨n, e, env, S2.put S.next .gone, by simp only [xcode, hx, h1, Option.bind_some, e3], ke, he, kset_eq _ _ _ _ _ h2⟩
    · cases h2

omit hM
/-- the results of a function. -/
noncomputable def kres1 (env : T4) (S : St) : XRes → Option Value
  | .tmp t => some (qval env (.tmp t))
  | .cell a agg sz => match qval env (.tmp a) with
    | .pointer (some ⟨id, o, none⟩) => (S.rd id o sz).bind fun c => part1 agg c
    | _ => none
noncomputable def kres (l : List XRes) (env : T4) (S : St) : Option Value := (l.mapM (kres1 env S)).map pack
theorem kres_eq (l : List XRes) (env : T4) (S : St) : kres l env S = xrs l (toK env) S := by
  unfold kres xrs
  have : kres1 env S = xr1 (toK env) S := by
    funext x
    cases x with
    | tmp t => simp only [kres1, xr1, qval_eq]; rfl
    | cell a agg sz => simp only [kres1, xr1, qval_eq]; rfl
  rw [this]
/-- the arguments are laid. -/
noncomputable def kargs (l : List Value) (k : T4 → Bool) : Nat → T4 → Bool := @List.rec Value (fun _ => Nat → T4 → Bool) (fun _ t => k t) (fun v _ ih i t => set4 v (pt i) t fun t => fN (Nat.succ i) fun i => ih i t) l
theorem kargs_ok : ∀ {l : List Value} {k : T4 → Bool} {i : Nat} {t : T4}, kargs l k i t = true → ∃ t', (∀ j : Nat, toK t' j = if i ≤ j ∧ j < i + l.length then l.getD (j - i) undef else toK t j) ∧ k t' = true := by
  intro l
  induction l with
  | nil => intro k i t h; exact ⟨t, fun j => by rw [if_neg (by simp only [List.length_nil]; omega)], h⟩
  | cons v l ih =>
    intro k i t h
    have h : set4 v (pt i) t (fun t => fN (Nat.succ i) fun i => kargs l k i t) = true := h
    obtain ⟨t1, g1, h1⟩ := set4_ok _ _ _ _ h
    simp only [fN_eq] at h1
    obtain ⟨t', e1, e2⟩ := ih h1
    refine ⟨t', fun j => ?_, e2⟩
    have g2 : toK t1 j = if j = i then v else toK t j := by
      simp only [toK, g1]
      by_cases e : j = i
      · subst e; simp
      · rw [if_neg (fun h => e (pt_inj h)), if_neg e]
    rw [e1, g2]
    simp only [List.length_cons, Nat.succ_eq_add_one]
    by_cases hj : j = i
    · subst hj
      rw [if_neg (by omega), if_pos rfl, if_pos (by omega)]
      simp
    · by_cases hj2 : i + 1 ≤ j ∧ j < i + 1 + l.length
      · rw [if_pos hj2, if_pos (by omega)]
        obtain ⟨m, rfl⟩ : ∃ m, j = i + 1 + m := ⟨j - (i + 1), by omega⟩
        have e3 : i + 1 + m - i = m + 1 := by omega
        have e4 : i + 1 + m - (i + 1) = m := by omega
        rw [e3, e4]; simp
      · rw [if_neg hj2, if_neg hj, if_neg (by omega)]
/-- a function's body is run. -/
noncomputable def kresC (env : T4) (S : St) (l : List XRes) : (List Value → Bool) → Bool := @List.rec XRes (fun _ => (List Value → Bool) → Bool) (fun k => k []) (fun x _ ih k => @Option.rec Value (fun _ => Bool) false (fun v => fV v fun v => ih fun r => k (v :: r)) (kres1 env S x)) l
theorem kresC_ok {env : T4} {S : St} : ∀ {l : List XRes} {k : List Value → Bool}, kresC env S l k = true → ∃ vs, l.mapM (kres1 env S) = some vs ∧ k vs = true := by
  intro l
  induction l with
  | nil => intro k h; exact ⟨[], rfl, h⟩
  | cons x l ih =>
    intro k h
    have h : @Option.rec Value (fun _ => Bool) false (fun v => fV v fun v => kresC env S l fun r => k (v :: r)) (kres1 env S x) = true := h
    cases e : kres1 env S x with
    | none => rw [e] at h; cases h
    | some v =>
      rw [e] at h
      have h := (fV_eq v _).symm.trans h
      obtain ⟨vs, h1, h2⟩ := ih h
      exact ⟨v :: vs, by rw [List.mapM_cons, e, h1]; rfl, h2⟩
noncomputable def packC (l : List Value) (k : Value → Bool) : Bool := @List.rec Value (fun _ => Bool) (k (.tuple ⟨[]⟩)) (fun x t _ => @List.rec Value (fun _ => Bool) (k x) (fun _ _ _ => k (.tuple ⟨l⟩)) t) l
theorem packC_eq (l : List Value) (k : Value → Bool) : packC l k = k (pack l) := by
  rcases l with _ | ⟨x, _ | ⟨y, t⟩⟩ <;> rfl
noncomputable def kfin (xf : XFunc) (env : T4) (h : Tr Blk) (nx : Nat) (k : KV) : Bool := kresC env ⟨h, nx⟩ xf.results fun vs => packC vs fun v => k v h nx
theorem kfin_ok {xf : XFunc} {env : T4} {h : Tr Blk} {nx : Nat} {k : KV} (hk : kfin xf env h nx k = true) : ∃ v, kres xf.results env ⟨h, nx⟩ = some v ∧ k v h nx = true := by
  obtain ⟨vs, h1, h2⟩ := kresC_ok hk
  rw [packC_eq] at h2
  exact ⟨pack vs, by unfold kres; rw [h1]; rfl, h2⟩
noncomputable def kbody (cl : KCall) (n : Nat) (xf : XFunc) (args : List Value) (h : Tr Blk) (nx : Nat) (k : KV) : Bool := @Bool.rec (fun _ => Bool) false (kargs args (fun env => kcode cl n xf.body env h nx fun e env h nx =>
  @Ex.rec (fun _ => Bool) (kfin xf env h nx k) (fun _ => false) (kfin xf env h nx k) e) 0 .leaf) (Nat.ble args.length xf.ntmps)
/-- a call: of a function that stands in the table, or else of one that is known otherwise. -/
noncomputable def kcall (tab : Tr XFunc) (pr : FuncId → List Value → Tr Blk → Nat → KV → Bool) (n : Nat) (fuel : Nat) : KCall := @Nat.rec (fun _ => KCall) (fun _ _ _ _ _ => false)
  (fun _ ih g args h nx k => match g with
    | .func f => match kget tab f with
      | some xf => kbody ih n xf args h nx k
      | none => pr f args h nx k
    | _ => false) fuel
end

section
variable {P : Program} [Prim P]
/-- the machine of a table. -/
noncomputable def tabM (P : Program) [Prim P] (tab : Tr XFunc) (n : Nat) : Caller := xcall xdraw tab.get (XL P) (Prim.run P) n
def TabOK (P : Program) (tab : Tr XFunc) : Prop := ∀ f xf, tab.get f = some xf → XF0 P f = some xf
theorem tabM_ok {tab : Tr XFunc} (ht : TabOK P tab) : MachOK (tabM P tab) := by
  refine ⟨fun n n' h => xcall_mono _ _ _ n n' h, fun n => ?_⟩
  unfold tabM
  induction n with
  | zero =>
    intro f args S v S' h
    cases f with
    | func f =>
      simp only [xcall] at h
      split at h
      · exact Prim.ws (P := P) _ _ _ _ _ h
      · cases h
    | yield id => simp [xcall] at h
    | method _ => simp [xcall] at h
    | methodOf _ _ => simp [xcall] at h
    | via _ _ _ _ => simp [xcall] at h
  | succ n ih =>
    intro f args S v S' h hw hargs
    cases f with
    | yield id => exact xround_ws ih h hw hargs
    | method _ => simp [xcall] at h
    | methodOf _ _ => simp [xcall] at h
    | via _ _ _ _ => simp [xcall] at h
    | func f =>
    simp only [xcall] at h
    split at h
    · exact Prim.ws (P := P) _ _ _ _ _ h hw hargs
    rename_i fn hf
    simp only [Option.bind_eq_some_iff] at h
    obtain ⟨⟨e, env1, S1⟩, h1, h2⟩ := h
    obtain ⟨q1, q2, q3, q4⟩ := xcode_ws ih fn.body (XF0_wf (ht _ _ hf)).1 _ S _ hw (args_SE hargs _) h1
    have fin : (xres fn.results env1 S1).map (fun v => (v, S1)) = some (v, S') → WS S' ∧ S.next ≤ S'.next ∧ Sc S'.next v := by
      intro h
      simp only [xres, Option.map_eq_some_iff, Prod.mk.injEq] at h
      obtain ⟨v0, ⟨vs, hvs, rfl⟩, rfl, rfl⟩ := h
      refine ⟨q1, q2, ?_⟩
      have hall : ScL S1.next vs := by
        intro u hu
        obtain ⟨i, hi, rfl⟩ := List.getElem_of_mem hu
        have hl := List.length_mapM_option hvs
        exact xres1_sc q1 q3 (List.getElem_mapM_option hvs i (by omega) hi)
      unfold pack
      split
      · exact hall _ (by simp)
      · exact .tuple _ fun i hi => hall _ (by simp)
    cases e with
    | normal => exact fin h2
    | ret => exact fin h2
    | exit id => cases h2
theorem kbody_ok {tab : Tr XFunc} (ht : TabOK P tab) {cl : KCall} (hcl : KCallOK (tabM P tab) cl) {n : Nat} {f : FuncId} {xf : XFunc} (hf : tab.get f = some xf) {args : List Value} {h : Tr Blk} {nx : Nat} {k : KV} (hk : kbody cl n xf args h nx k = true) :
    KG (tabM P tab) (.func f) args.toArray ⟨h, nx⟩ (KP k) := by
  intro hw hargs
  have hk : @Bool.rec (fun _ => Bool) false (kargs args (fun env => kcode cl n xf.body env h nx fun e env h nx =>
    @Ex.rec (fun _ => Bool) (kfin xf env h nx k) (fun _ => false) (kfin xf env h nx k) e) 0 .leaf) (Nat.ble args.length xf.ntmps) = true := hk
  have hle : args.length ≤ xf.ntmps := by
    cases hb : Nat.ble args.length xf.ntmps with
    | true => exact Nat.le_of_ble_eq_true hb
    | false => rw [hb] at hk; cases hk
  rw [Nat.ble_eq_true_of_le hle] at hk
  obtain ⟨env, e1, e2⟩ := kargs_ok hk
  have hwf := (XF0_wf (ht f xf hf)).1
  have he : toF (args.toArray ++ Array.replicate (xf.ntmps - args.toArray.size) undef) = toK env := by
    rw [toF_args]
    funext t
    rw [e1 t]
    simp only [fe0, Nat.zero_le, true_and, Nat.zero_add, Nat.sub_zero]
    split
    · rfl
    · rename_i ht
      rw [List.getD_eq_getElem?_getD, List.getElem?_eq_none (Nat.le_of_not_lt ht)]
      simp only [toK, get4_leaf]
  obtain ⟨N, e, env', S', h1, ke', h2, h3⟩ := kcode_ok (tabM_ok ht) hcl n xf.body hwf _ env ⟨h, nx⟩ _ he (by simp only [Array.size_append, Array.size_replicate, List.size_toArray]; omega) hw (args_SE hargs _) e2
  have fin : kfin xf ke' S'.heap S'.next k = true → ∃ v, xres xf.results env' S' = some v ∧ KP k v S' := by
    intro hm
    obtain ⟨v, hv, hm⟩ := kfin_ok hm
    rw [kres_eq, ← h2, ← xres_eq] at hv
    exact ⟨v, hv, hm⟩
  cases e with
  | normal =>
    obtain ⟨v, hv, hq⟩ := fin h3
    refine ⟨N + 1, v, S', ?_, hq⟩
    simp only [tabM, xcall, hf]
    rw [show xcode xdraw (xcall xdraw tab.get (XL P) (Prim.run P) N) N xf.body _ _ = _ from h1]
    simp [hv]
  | ret =>
    obtain ⟨v, hv, hq⟩ := fin h3
    refine ⟨N + 1, v, S', ?_, hq⟩
    simp only [tabM, xcall, hf]
    rw [show xcode xdraw (xcall xdraw tab.get (XL P) (Prim.run P) N) N xf.body _ _ = _ from h1]
    simp [hv]
  | exit id => cases h3
/-- what the evaluator may use of functions that do not stand in the table. -/
def KPrimOK (P : Program) [Prim P] (tab : Tr XFunc) (pr : FuncId → List Value → Tr Blk → Nat → KV → Bool) : Prop := ∀ f l h nx k, tab.get f = none → pr f l h nx k = true → WS ⟨h, nx⟩ → ScL nx l → ∃ v S', Prim.run P f l.toArray ⟨h, nx⟩ = some (v, S') ∧ KP k v S'
theorem kcall_ok {tab : Tr XFunc} (ht : TabOK P tab) {pr : FuncId → List Value → Tr Blk → Nat → KV → Bool} (hp : KPrimOK P tab pr) (n : Nat) : ∀ fuel, KCallOK (tabM P tab) (kcall tab pr n fuel) := by
  intro fuel
  induction fuel with
  | zero => intro g l h nx k hk; cases hk
  | succ fuel ih =>
    intro g l h nx k hk
    cases g with
    | func f =>
      have hk : (match kget tab f with
        | some xf => kbody (kcall tab pr n fuel) n xf l h nx k
        | none => pr f l h nx k) = true := hk
      rw [kget_eq] at hk
      split at hk
      · rename_i xf hf
        exact kbody_ok ht ih hf hk
      · rename_i hf
        intro hw hs
        obtain ⟨v, S', h1, h2⟩ := hp f l h nx k hf hk hw (by simpa using hs)
        exact ⟨0, v, S', by simp only [tabM, xcall, hf]; exact h1, h2⟩
    | _ => cases hk
end
theorem WS.zero : WS St.zero := ⟨fun id _ => rfl, fun id c t z mi an h => (by rw [get_zero] at h; cases h), fun id o h => (by rw [get_zero] at h; cases h)⟩

/-- a table of functions is right. -/
inductive TrOk (P : Program) : Nat → Nat → Tr XFunc → Prop where
  | leaf (a d : Nat) (t : Tr XFunc) (h : t = .leaf) : TrOk P a d t
  | nd (a d : Nat) (o : Option XFunc) (l r : Tr XFunc) (h : ∀ v, o = some v → XF0 P a = some v) (hl : TrOk P (a + d) (2 * d) l) (hr : TrOk P (a + 2 * d) (2 * d) r) : TrOk P a d (.node o l r)
theorem TrOk.node {P : Program} (a d : Nat) {v : XFunc} (h : XF0 P a = some v) {a1 a2 d2 : Nat} {l r : Tr XFunc} (e1 : a + d = a1) (e2 : a + 2 * d = a2) (e3 : 2 * d = d2) (hl : TrOk P a1 d2 l) (hr : TrOk P a2 d2 r) : TrOk P a d (.node (some v) l r) := by
  subst e1 e2 e3
  exact .nd a d _ l r (fun w e => by rw [← Option.some.inj e]; exact h) hl hr
theorem TrOk.gap {P : Program} (a d : Nat) {a1 a2 d2 : Nat} {l r : Tr XFunc} (e1 : a + d = a1) (e2 : a + 2 * d = a2) (e3 : 2 * d = d2) (hl : TrOk P a1 d2 l) (hr : TrOk P a2 d2 r) : TrOk P a d (.node none l r) := by
  subst e1 e2 e3
  exact .nd a d _ l r (fun w e => by cases e) hl hr
theorem TrOk.at {P : Program} {a d : Nat} {t : Tr XFunc} (h : TrOk P a d t) : ∀ n v, t.get n = some v → XF0 P (a + d * n) = some v := by
  induction h with
  | leaf a d t h => intro n v hv; rw [h] at hv; cases hv
  | nd a d o l r h _ _ ihl ihr =>
    intro n v hv
    rw [Tr.get] at hv
    split at hv
    · rename_i h0; subst h0; simpa using h v hv
    · split at hv
      · rename_i h0 h1
        have := ihl _ _ hv
        have e : a + d + 2 * d * (n / 2) = a + d * n := by
          have : n = 2 * (n / 2) + 1 := by omega
          generalize n / 2 = m at *
          subst this
          rw [Nat.mul_add, Nat.mul_one, Nat.mul_comm 2 d, Nat.mul_assoc]; omega
        rwa [e] at this
      · rename_i h0 h1
        have := ihr _ _ hv
        have e : a + 2 * d + 2 * d * (n / 2 - 1) = a + d * n := by
          obtain ⟨m, rfl⟩ : ∃ m, n = 2 * m + 2 := ⟨n / 2 - 1, by omega⟩
          have : (2 * m + 2) / 2 - 1 = m := by omega
          rw [this, Nat.mul_add, Nat.mul_comm 2 d, Nat.mul_assoc]; omega
        rwa [e] at this
theorem TrOk.get {P : Program} {t : Tr XFunc} (h : TrOk P 0 1 t) {f : FuncId} {xf : XFunc} (e : t.get f = some xf) : XF0 P f = some xf := by
  have := h.at f xf e
  simpa using this

/-- a value of one cell without addresses is the same on both sides. -/
theorem Rel.one {φ : Emb} {v v' : Value} (hf : flat1 v = true) (h : Rel φ v v') (ψ : Emb) : Rel ψ v v' := by
  cases h <;> first | (simp [flat1] at hf; done) | constructor

section
variable {B : Nat} {φ φ2 : Emb} {S S2 : St} {w w2 : World}
theorem Keep.zero_heap (hk : Keep w.heap.size (Emb.zero φ.tab) St.zero w φ2 S2 w2) : ∀ b, b < w.heap.size → w2.heap[b]? = w.heap[b]? := fun b hb => hk.keep b hb fun id s h => (Emb.zero_at h).elim
theorem Sim.later (hs : Sim B φ S w) (hsz : w.heap.size ≤ w2.heap.size) (hh : ∀ b, b < w.heap.size → w2.heap[b]? = w.heap[b]?) : Sim B φ S w2 := by
  have hb : ∀ {id s}, φ id = some s → w2.heap[s.b]? = w.heap[s.b]? := fun h => hh _ (hs.dom _ _ h).2
  refine ⟨fun id s h => ⟨(hs.dom id s h).1, Nat.lt_of_lt_of_le (hs.dom id s h).2 hsz⟩, hs.gone, fun id s c t sz m an h hg => ?_, hs.apart, hs.loops.1.of (Nat.le_refl _) rfl (fun b o _ _ e => by rw [hh b (Array.getElem?_eq_some_iff.1 e).1]; exact e), fun id s o h hg => ?_⟩
  · obtain ⟨a1, a2, a3, cs, t', a4, a5, a6⟩ := hs.blk id s c t sz m an h hg
    exact ⟨a1, a2, a3, cs, t', a4.same (hb h), a5, a6⟩
  · obtain ⟨a1, ⟨r, a2, a3⟩, a4⟩ := hs.loops.2 id s o h hg
    exact ⟨a1, ⟨r, by rw [hb h]; exact a2, a3⟩, a4⟩
/-- nothing of a closed computation is kept. -/
theorem attach0 (hs : Sim B φ S w) (hs2 : Sim w.heap.size φ2 S2 w2) (hk : Keep w.heap.size (Emb.zero φ.tab) St.zero w φ2 S2 w2) : Sim B φ S w2 ∧ Keep B φ S w φ S w2 :=
  ⟨hs.later hk.size hk.zero_heap, ⟨Emb.le.refl _, fun _ _ h h' => (Option.some_ne_none _ (h.symm.trans h')).elim, fun _ _ h h' => (Option.some_ne_none _ (h.symm.trans h')).elim, hk.size, Nat.le_refl _, hk.os, hk.tape, hk.output, fun b hb _ => hk.zero_heap b hb, fun id s h1 h2 _ => ⟨id, s, h1, rfl, h2⟩⟩⟩
/-- a row of it is kept. -/
theorem attach1 (hB : B ≤ w.heap.size) (hs : Sim B φ S w) (hs2 : Sim w.heap.size φ2 S2 w2) (hk : Keep w.heap.size (Emb.zero φ.tab) St.zero w φ2 S2 w2) {k : Nat} {s0 : Spot} {c0 : List Value} {t0 : TypeId} {z0 : Nat} {an0 : List Nat} (hks : φ2 k = some s0)
    (hkg : S2.get k = .cells c0 t0 z0 true an0) (hc : flatL c0 = true) (t1 : TypeId) :
    Sim B (φ.add S.next s0) (S.alloc (.cells c0 t1 z0 true [])) w2 ∧ Keep B φ S w (φ.add S.next s0) (S.alloc (.cells c0 t1 z0 true [])) w2 := by
  obtain ⟨b0, _⟩ := attach0 hs hs2 hk
  have hnone : φ S.next = none := hs.fresh
  have hnew0 : w.heap.size ≤ s0.b := (hs2.blk k s0 c0 t0 z0 true an0 hks hkg).2.2.1 rfl
  have hle := Emb.le_add φ S.next s0 hnone
  have hold : ∀ {id s}, (φ.add S.next s0) id = some s → id ≠ S.next → φ id = some s := fun h hne => by
    rw [Emb.add_other _ _ hne] at h; exact h
  have hnew : ∀ {s}, (φ.add S.next s0) S.next = some s → s = s0 := fun h => by
    rw [Emb.add_same] at h; exact (Option.some.inj h).symm
  have hga : ∀ id, id ≠ S.next → (S.alloc (.cells c0 t1 z0 true [])).get id = S.get id := fun id h => by rw [St.get_alloc, if_neg h]
  have hgs : (S.alloc (.cells c0 t1 z0 true [])).get S.next = .cells c0 t1 z0 true [] := by rw [St.get_alloc, if_pos rfl]
  have hkd := hs2.dom k s0 hks
  have hob : ∀ {id s}, φ id = some s → s.b < w.heap.size := fun h => (hs.dom _ _ h).2
  refine ⟨⟨fun id s h => ?_, fun id h => ?_, fun id s c t sz m an h hg => ?_, fun id s c t sz an h hg j sj cj tj zj mj aj hj hj1 hj2 hb => ?_, b0.loops.1, fun id s o h hg => ?_⟩,
    ⟨hle, fun id s h h' => ?_, fun id s h h' => ?_, hk.size, by simp, hk.os, hk.tape, hk.output, fun b hb _ => hk.zero_heap b hb, fun id s h1 h2 h3 => ?_⟩⟩
  · by_cases e : id = S.next
    · subst e; obtain rfl := hnew h; exact ⟨by simp, hkd.2⟩
    · have := b0.dom id s (hold h e); exact ⟨by simp; omega, this.2⟩
  · rw [hga id (by simp at h; omega)]; exact hs.gone id (by simp at h; omega)
  · by_cases e : id = S.next
    · subst e
      obtain rfl := hnew h
      rw [hgs] at hg
      injection hg with e1 e2 e3 e4 e5
      subst e1 e2 e3 e4 e5
      obtain ⟨a1, a2, a3, cs, t', a4, a5, a6⟩ := hs2.blk k s _ _ _ _ _ hks hkg
      refine ⟨a1, a2, fun h => Nat.le_trans hB (a3 h), cs, t', a4, a5, fun i v hv => ?_⟩
      obtain ⟨q1, v', q2, q3⟩ := a6 i v hv
      have hf : flat1 v = true := by simp only [flatL, List.all_eq_true] at hc; exact hc v (List.mem_of_getElem? hv)
      exact ⟨q1, v', q2, Rel.one hf q3 _⟩
    · rw [hga id e] at hg
      obtain ⟨a1, a2, a3, cs, t', a4, a5, a6⟩ := b0.blk id s c t sz m an (hold h e) hg
      refine ⟨a1, a2, a3, cs, t', a4, a5, fun i v hv => ?_⟩
      obtain ⟨q1, v', q2, q3⟩ := a6 i v hv
      exact ⟨q1, v', q2, q3.mono hle⟩
  · by_cases e : id = S.next
    · subst e
      obtain rfl := hnew h
      have h1 := hob (hold hj1 hj)
      omega
    · rw [hga id e] at hg
      have h1 := hold h e
      by_cases e' : j = S.next
      · subst e'
        obtain rfl := hnew hj1
        have := hob h1
        omega
      · rw [hga j e'] at hj2
        exact b0.apart id s c t sz an h1 hg j sj cj tj zj mj aj hj (hold hj1 e') hj2 hb
  · by_cases e : id = S.next
    · subst e; rw [hgs] at hg; cases hg
    · rw [hga id e] at hg
      obtain ⟨a1, ⟨r, a2, a3⟩, a4⟩ := b0.loops.2 id s o (hold h e) hg
      refine ⟨a1, ⟨r, a2, a3.mono hle⟩, fun j sj o' hj ej ej2 => ?_⟩
      by_cases e' : j = S.next
      · subst e'; rw [hgs] at ej2; cases ej2
      · rw [hga j e'] at ej2
        exact a4 j sj o' hj (hold ej e') ej2
  · by_cases e : id = S.next
    · subst e
      obtain rfl := hnew h
      exact .inl hnew0
    · rw [hold h e] at h'; cases h'
  · by_cases e : id = S.next
    · omega
    · rw [hold h e] at h'; cases h'
  · by_cases e : id = S.next
    · subst e
      obtain rfl := hnew h1
      omega
    · rw [hga id e] at h2
      exact ⟨id, s, hold h1 e, rfl, h2⟩
end

section
variable {P : Program} [Prim P]
noncomputable def isTrue (v : Value) : Bool := match v with
  | .bool b => b
  | _ => false
/-- what a closed computation says of the model. -/
theorem closed_calls (hm : P.follows .mixedOrders = true) {tab : Tr XFunc} (ht : TabOK P tab) {pr : FuncId → List Value → Tr Blk → Nat → KV → Bool} (hp : KPrimOK P tab pr) {n fuel : Nat} {f : FuncId} {args : List Value} (hfl : flatL args = true) {k : KV} (hk : kcall tab pr n fuel (.func f) args .leaf 0 k = true) :
    (∃ fn, P.funcs[f]? = some fn ∧ fn.body.isSome = true ∧ (fn.name == "runtime.NumGoroutine") = false) ∧ ∀ w t, GlobOK w.heap.size (Emb.zero t) w → ∃ v S', k v S'.heap S'.next = true ∧ Calls P f args.toArray w (OutC w.heap.size (Emb.zero t) St.zero w v S') := by
  obtain ⟨N, v, S', h1, h2⟩ := kcall_ok ht hp n fuel (.func f) args .leaf 0 k hk WS.zero (ScL.flat (by simpa using hfl))
  have hs : ∀ B, CallOK P B (tabM P tab N) := fun B => call_sound (draw_ok hm) (fun f xf h => (XF0_wf (ht f xf h)).2) (fun L x h => (XL_wf h).1) (Prim.ok (P := P) B) N
  refine ⟨(hs 0 (.func f) _ _ _ _ h1).1, fun w t htab => ⟨v, S', h2, ?_⟩⟩
  have hr : RelA (Emb.zero t) args.toArray args.toArray := RelL.toA (flatL_rel hfl _)
  exact (hs w.heap.size (.func f) _ _ _ _ h1).2 (Emb.zero t) w _ hr (Begin.tab htab).sim (Nat.le_refl _)
/-- a function that answers true, whatever stands. -/
theorem closed_true (hm : P.follows .mixedOrders = true) {tab : Tr XFunc} (ht : TabOK P tab) {pr : FuncId → List Value → Tr Blk → Nat → KV → Bool} (hp : KPrimOK P tab pr) {n fuel : Nat} {f : FuncId} (hk : kcall tab pr n fuel (.func f) [] .leaf 0 (fun v _ _ => isTrue v) = true) :
    (∃ fn, P.funcs[f]? = some fn ∧ fn.body.isSome = true ∧ (fn.name == "runtime.NumGoroutine") = false) ∧ ∀ B φ S w, Sim B φ S w → B ≤ w.heap.size → Calls P f #[] w (OutC B φ S w (.bool true) S) := by
  obtain ⟨h1, h2⟩ := closed_calls hm ht hp (args := []) rfl hk
  refine ⟨h1, fun B φ S w hs hB => ?_⟩
  obtain ⟨v, S2, h3, h4⟩ := h2 w φ.tab (hs.loops.1.of hB rfl fun _ _ _ _ e => e)
  refine h4.mono ?_
  rintro e w' ⟨φ2, v', rfl, p1, p2, p3⟩
  have hv : v = .bool true := by
    have h3 : isTrue v = true := h3
    unfold isTrue at h3
    split at h3
    · subst h3; rfl
    · cases h3
  subst hv
  obtain ⟨c1, c2⟩ := attach0 hs p2 p3
  exact ⟨φ, v', rfl, by cases p1; exact .bool _, c1, c2⟩
end
end Go.Proofs.YtofjnhdgkhfgnaaDoor

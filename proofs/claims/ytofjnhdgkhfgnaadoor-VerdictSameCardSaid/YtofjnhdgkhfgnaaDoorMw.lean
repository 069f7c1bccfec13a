/- A logic for the abstract machine: from what is said of the code to the call. -/
import Derived.Test.YtofjnhdgkhfgnaaDoorMv
namespace Go.Proofs.YtofjnhdgkhfgnaaDoor
open Go Go.RowKit

section
variable {P : Program} [Prim P]

theorem float_ext {cl : Caller} {o : XOp} (ha : anch o = false) {ρ : Operand → Value} {S S' : St} {v : Value} (h : xstep cl o ρ S = some (v, S')) : Ext S S' := by
  rw [xstep_xop ha] at h
  cases h1 : heapy o with
  | true => rw [heapy_same h1 h]; exact Ext.refl S
  | false =>
    cases h2 : isAlloc o with
    | false => rw [(pure_any ha h1 h2 h S).1]; exact Ext.refl S
    | true =>
      obtain ⟨b, _, rfl, _⟩ := alloc_any h2 h
      exact Ext.alloc S _

theorem ext_chain {T : Nat → St} {lo hi : Nat} (h : ∀ k, lo ≤ k → k < hi → Ext (T k) (T (k + 1))) (hle : lo ≤ hi) : Ext (T lo) (T hi) := by
  induction hi with
  | zero => obtain rfl : lo = 0 := by omega
            exact Ext.refl _
  | succ hi ih =>
    by_cases e : lo = hi + 1
    · subst e; exact Ext.refl _
    · exact (ih (fun k h1 h2 => h k h1 (by omega)) (by omega)).trans (h hi (by omega) (by omega))

theorem ext_chainL {T : Nat → St} {lo hi : Nat} (h : ∀ k, lo ≤ k → k < hi → ExtL (T k) (T (k + 1))) (hle : lo ≤ hi) : ExtL (T lo) (T hi) := by
  induction hi with
  | zero => obtain rfl : lo = 0 := by omega
            exact ExtL.refl _
  | succ hi ih =>
    by_cases e : lo = hi + 1
    · subst e; exact ExtL.refl _
    · exact (ih (fun k h1 h2 => h k h1 (by omega)) (by omega)).trans (h hi (by omega) (by omega))

theorem XW_run {m : Nat} : ∀ (c : XCode), wfC m c = true → ∀ (env : Env) (S : St) (Q : Ex → FEnv → St → Prop), WS S → SE S.next env → m ≤ env.size → XW P c (toF env) S Q → ∃ n e env' S', xcode xdraw (xcall xdraw (XF P) (XL P) (Prim.run P) n) n c env S = some (e, env', S') ∧ Q e (toF env') S' := by
  intro c
  induction c with
  | skip => intro _ env S Q hw hs hm h; exact ⟨0, _, _, _, rfl, h⟩
  | exit id => intro _ env S Q hw hs hm h; exact ⟨0, _, _, _, rfl, h⟩
  | ret => intro _ env S Q hw hs hm h; exact ⟨0, _, _, _, rfl, h⟩
  | region ops =>
    intro hwf env S Q hw hs hm h
    obtain ⟨n, env', S', h1, h2⟩ := XO_run ops hwf env S _ hw hs hm h
    exact ⟨n, .normal, env', S', by simp [xcode, h1], h2⟩
  | draw d =>
    intro hwf env S Q hw hs hm h
    simp only [wfC, Bool.and_eq_true, beq_iff_eq] at hwf
    obtain ⟨hwf, hfl⟩ := hwf
    have h : XM P S (d.ops.zip (flagsOf d.ops d.stages)) (toF env) S (Q .normal) := by rw [← hfl]; exact h
    have hlen : (flagsOf d.ops d.stages).length = d.ops.length := by simp [flagsOf]
    have hmap : (d.ops.zip (flagsOf d.ops d.stages)).map (·.1) = d.ops := by rw [List.map_fst_zip (by omega)]
    obtain ⟨n, R, env', S', h1, h2, h3⟩ := XM_run S (d.ops.zip (flagsOf d.ops d.stages)) (by rw [hmap]; exact hwf) env S _ hw hs hm h
    rw [hmap] at h1
    refine ⟨n, .normal, env', S', ?_, h2⟩
    have hfacts := xrun_facts _ _ _ _ _ _ h1
    have hws := xrun_ws (xcall_ws P n) d.ops hwf env S R env' S' hw hs h1
    have hop : ∀ i (hi : i < d.ops.length), opdsOk d.ops[i].op = true := by
      intro i hi
      have hwf' : wfO m d.ops = true := hwf
      simp only [wfO, List.all_eq_true, Bool.and_eq_true] at hwf'
      exact (hwf' _ (List.getElem_mem hi)).1
    -- what each operation keeps
    have hstep : ∀ i (hi : i < d.ops.length), ∃ r, R[i]? = some r ∧ r.S = recT R S' i ∧ (anch d.ops[i].op = false → Ext (recT R S' i) (recT R S' (i + 1))) ∧ (r.w = true → xstep (xcall xdraw (XF P) (XL P) (Prim.run P) n) d.ops[i].op r.env.ev (recT R S' i) = some (r.v, recT R S' (i + 1))) ∧ (r.w = false → recT R S' (i + 1) = recT R S' i) := by
      intro i hi
      obtain ⟨r, a1, a2, a3, a4, a5, a6, a7⟩ := hfacts.2.2.2 i hi
      refine ⟨r, a1, a3, fun ha => ?_, fun hw => by rw [a2]; exact a5 hw, fun hw => (a6 hw).2⟩
      cases hw : r.w with
      | false => rw [(a6 hw).2]; exact Ext.refl _
      | true => exact float_ext ha (a5 hw)
    have hkeepL : ∀ i k (hi : i < d.ops.length) (hk : k < d.ops.length), heapy d.ops[i].op = true → ∀ q, q ∈ (d.stages[i]?).getD [] → (i ≤ k ∧ k < q) ∨ (q ≤ k ∧ k < i) → ExtL (recT R S' k) (recT R S' (k + 1)) := by
      intro i k hi hk hio q hq hbt
      by_cases ha : anch d.ops[k].op = false
      · obtain ⟨r, _, _, h4, _⟩ := hstep k hk
        exact (h4 ha).toL
      · have ha' : anch d.ops[k].op = true := by simpa using ha
        obtain ⟨r, b1, b2⟩ := h3 k (by simp [flagsOf]; exact hk)
        obtain ⟨r', c1, c2, _, _, c5⟩ := hstep k hk
        rw [b1] at c1
        obtain rfl := Option.some.inj c1
        cases hw : r.w with
        | false => rw [c5 hw]; exact ExtL.refl _
        | true =>
          refine (b2 hw).1.1 ?_
          simp only [List.getElem_zip, flagsOf, List.getElem_map, List.getElem_range]
          rw [List.getElem?_eq_getElem hk]
          simp only [ha', Bool.true_and, List.any_eq_true, List.mem_range]
          refine ⟨i, hi, ?_⟩
          rw [List.getElem?_eq_getElem hi]
          simp only [Bool.and_eq_true, Bool.or_eq_true, List.any_eq_true, decide_eq_true_eq]
          exact ⟨hio, q, hq, hbt⟩
    have hkeepA : ∀ i k (hi : i < d.ops.length) (hk : k < d.ops.length), isAlloc d.ops[i].op = true → ∀ q, q ∈ (d.stages[i]?).getD [] → (i ≤ k ∧ k < q) ∨ (q ≤ k ∧ k < i) → Ext (recT R S' k) (recT R S' (k + 1)) := by
      intro i k hi hk hio q hq hbt
      by_cases ha : anch d.ops[k].op = false
      · obtain ⟨r, _, _, h4, _⟩ := hstep k hk
        exact h4 ha
      · have ha' : anch d.ops[k].op = true := by simpa using ha
        obtain ⟨r, b1, b2⟩ := h3 k (by simp [flagsOf]; exact hk)
        obtain ⟨r', c1, c2, _, _, c5⟩ := hstep k hk
        rw [b1] at c1
        obtain rfl := Option.some.inj c1
        cases hw : r.w with
        | false => rw [c5 hw]; exact Ext.refl _
        | true =>
          refine (b2 hw).1.2 ?_
          simp only [List.getElem_zip, flagsOf, List.getElem_map, List.getElem_range]
          rw [List.getElem?_eq_getElem hk]
          simp only [ha', Bool.true_and, List.any_eq_true, List.mem_range]
          refine ⟨i, hi, ?_⟩
          rw [List.getElem?_eq_getElem hi]
          simp only [Bool.and_eq_true, Bool.or_eq_true, List.any_eq_true, decide_eq_true_eq]
          exact ⟨hio, q, hq, hbt⟩
    have hchk : ChkP d R S' := by
      refine ⟨fun i hi => ?_, fun i r o e1 e2 hw ha q hq => ?_⟩
      · have hi' : i < d.ops.length := by rw [← hfacts.1]; exact hi
        obtain ⟨r, a1, a2, a3, a4, a5⟩ := hstep i hi'
        cases hw : r.w with
        | false => rw [a5 hw]; exact Nat.le_refl _
        | true =>
          have hws' := hws.2.2.2.2 i r a1
          rw [a2] at hws'
          exact (xstep_ws (xcall_ws P n) hws'.1 (hop i hi') hws'.2.ev (a4 hw)).2.1
      · have hi : i < d.ops.length := (List.getElem?_eq_some_iff.1 e2).1
        have hoi : d.ops[i] = o := (List.getElem?_eq_some_iff.1 e2).2
        obtain ⟨r', a1, a2, a3, a4, a5⟩ := hstep i hi
        rw [e1] at a1
        obtain rfl := Option.some.inj a1
        have hx := a4 hw
        rw [hoi] at hx
        have hx' := hx
        rw [xstep_xop ha] at hx'
        have hws' := hws.2.2.2.2 i r e1
        rw [a2] at hws'
        have hwx := xop_ws hws'.1 (by rw [← hoi]; exact hop i hi) hws'.2.ev hx'
        -- a stage beyond the last operation is the region's end
        have hcap : ∀ q, d.ops.length ≤ q → recT R S' q = recT R S' d.ops.length := fun q hq => by
          simp [recT, List.getElem?_eq_none (show R.length ≤ q by rw [hfacts.1]; exact hq), List.getElem?_eq_none (show R.length ≤ d.ops.length by rw [hfacts.1]; exact Nat.le_refl _)]
        have hextL : heapy d.ops[i].op = true → (i ≤ q → ExtL (recT R S' i) (recT R S' q)) ∧ (q ≤ i → ExtL (recT R S' q) (recT R S' i)) := fun hio => by
          have hk : ∀ k, (i ≤ k ∧ k < q) ∨ (q ≤ k ∧ k < i) → ExtL (recT R S' k) (recT R S' (k + 1)) := fun k hbt => by
            by_cases hkl : k < d.ops.length
            · exact hkeepL i k hi hkl hio q hq hbt
            · rw [hcap k (by omega), hcap (k + 1) (by omega)]; exact ExtL.refl _
          exact ⟨fun hle => ext_chainL (T := recT R S') (fun k h1 h2 => hk k (.inl ⟨h1, h2⟩)) hle, fun hle => ext_chainL (T := recT R S') (fun k h1 h2 => hk k (.inr ⟨h1, h2⟩)) hle⟩
        refine ⟨fun hh => ?_, fun hal hlt => ?_⟩
        · have hT := heapy_same hh hx'
          obtain ⟨k1, k2⟩ := hextL (by rw [hoi]; exact hh)
          refine ⟨heapy_at hh hx' fun id hid => ?_, fun _ => ?_⟩
          · have hidlt := readsAt_sc (by rw [← hoi]; exact hop i hi) hws'.2.ev hid
            rcases Nat.le_total i q with h | h
            · exact (k1 h).look id hidlt
            · by_cases e : q = i
              · rw [e]
              · obtain ⟨r2, b1, b2⟩ := h3 i (by simp [flagsOf]; exact hi)
                rw [e1] at b1
                obtain rfl := Option.some.inj b1
                have hq0 : id < S.next := by
                  refine (b2 hw).2 ?_ id ?_
                  · simp only [List.getElem_zip, flagsOf, List.getElem_map, List.getElem_range]
                    rw [e2]
                    simp only [hh, Bool.true_and, List.any_eq_true, decide_eq_true_eq]
                    exact ⟨q, hq, by omega⟩
                  · simp only [List.getElem_zip, hoi]; exact hid
                have hmono : S.next ≤ (recT R S' q).next := by
                  have : ∀ j, j ≤ d.ops.length → S.next ≤ (recT R S' j).next := by
                    intro j
                    induction j with
                    | zero => intro _; rw [hfacts.2.2.1]; exact Nat.le_refl _
                    | succ j ihj =>
                      intro hj
                      refine Nat.le_trans (ihj (by omega)) ?_
                      obtain ⟨r3, p1, p2, p3, p4, p5⟩ := hstep j (by omega)
                      cases hw3 : r3.w with
                      | false => rw [p5 hw3]; exact Nat.le_refl _
                      | true =>
                        have hws3 := hws.2.2.2.2 j r3 p1
                        rw [p2] at hws3
                        exact (xstep_ws (xcall_ws P n) hws3.1 (hop j (by omega)) hws3.2.ev (p4 hw3)).2.1
                  exact this q (by omega)
                exact ((k2 h).look id (Nat.lt_of_lt_of_le hq0 hmono)).symm
          · rw [a2]
            have := hwx.2.2
            rw [hT] at this
            exact this.toScoped
        · obtain ⟨b, _, hT, _, _⟩ := alloc_any hal hx'
          -- from behind the operation on
          have hlate : Ext (recT R S' (i + 1)) (recT R S' q) := ext_chain (T := recT R S') (fun k h1 h2 => by
            by_cases hkl : k < d.ops.length
            · exact hkeepA i k hi hkl (by rw [hoi]; exact hal) q hq (.inl ⟨by omega, h2⟩)
            · rw [hcap k (by omega), hcap (k + 1) (by omega)]; exact Ext.refl _) (by omega)
          refine hlate.get _ ?_
          rw [hT, a2]
          simp
    simp only [xcode, xdraw, h1, Option.bind_some, if_pos hchk, Option.map_some]
  | seq a b iha ihb =>
    intro hwf env S Q hw hs hm h
    simp only [wfC, Bool.and_eq_true] at hwf
    obtain ⟨n, e, env1, S1, h1, h2⟩ := iha hwf.1 env S _ hw hs hm h
    obtain ⟨q1, q2, q3, q4⟩ := xcode_ws (xcall_ws P n) a hwf.1 env S _ hw hs h1
    cases e with
    | normal =>
      obtain ⟨n2, e2, env2, S2, h3, h4⟩ := ihb hwf.2 env1 S1 Q q1 q3 (by rw [q4]; exact hm) h2
      refine ⟨max n n2, e2, env2, S2, ?_, h4⟩
      simp only [xcode]
      rw [xcode_mono (xcall_mono (XF P) (XL P) (Prim.run P) n (max n n2) (Nat.le_max_left _ _)) (Nat.le_max_left _ _) _ _ _ _ h1]
      exact xcode_mono (xcall_mono (XF P) (XL P) (Prim.run P) n2 (max n n2) (Nat.le_max_right _ _)) (Nat.le_max_right _ _) _ _ _ _ h3
    | exit id => exact ⟨n, .exit id, env1, S1, by simp [xcode, h1], h2⟩
    | ret => exact ⟨n, .ret, env1, S1, by simp [xcode, h1], h2⟩
  | cond c x y ihx ihy =>
    intro hwf env S Q hw hs hm h
    simp only [wfC, Bool.and_eq_true] at hwf
    obtain ⟨b, e, hx, hy⟩ := h
    rw [← toF_ev] at e
    cases b with
    | true =>
      obtain ⟨n, e2, env2, S2, h3, h4⟩ := ihx hwf.1 env S Q hw hs hm (hx rfl)
      exact ⟨n, e2, env2, S2, by simp [xcode, e, h3], h4⟩
    | false =>
      obtain ⟨n, e2, env2, S2, h3, h4⟩ := ihy hwf.2 env S Q hw hs hm (hy rfl)
      exact ⟨n, e2, env2, S2, by simp [xcode, e, h3], h4⟩
  | block id c ih =>
    intro hwf env S Q hw hs hm h
    obtain ⟨n, e, env1, S1, h1, h2⟩ := ih hwf env S _ hw hs hm h
    cases e with
    | normal => exact ⟨n, .normal, env1, S1, by simp [xcode, h1], h2⟩
    | ret => exact ⟨n, .ret, env1, S1, by simp [xcode, h1], h2⟩
    | exit id' =>
      simp only at h2
      by_cases e : id' = id
      · rw [if_pos e] at h2
        exact ⟨n, .normal, env1, S1, by simp [xcode, h1, e], h2⟩
      · rw [if_neg e] at h2
        exact ⟨n, .exit id', env1, S1, by simp [xcode, h1, e], h2⟩
  | loop c ih =>
    intro hwf env S Q hw hs hm h
    obtain ⟨I, μ, hI, hround⟩ := h
    have key : ∀ (k : Nat) (env : Env) (S : St), μ (toF env) S = k → WS S → SE S.next env → m ≤ env.size → I (toF env) S → ∃ n j e env' S', xloop (xcode xdraw (xcall xdraw (XF P) (XL P) (Prim.run P) n) n c) j env S = some (e, env', S') ∧ Q e (toF env') S' := by
      intro k
      induction k using Nat.strongRecOn with
      | _ k ihk =>
        intro env S hk hw hs hm hI
        obtain ⟨n, e, env1, S1, h1, h2⟩ := ih hwf env S _ hw hs hm (hround _ _ hI)
        obtain ⟨q1, q2, q3, q4⟩ := xcode_ws (xcall_ws P n) c hwf env S _ hw hs h1
        cases e with
        | normal =>
          obtain ⟨hI1, hlt⟩ := h2
          obtain ⟨n2, j, e2, env2, S2, h3, h4⟩ := ihk _ (by rw [← hk]; exact hlt) env1 S1 rfl q1 q3 (by rw [q4]; exact hm) hI1
          refine ⟨max n n2, j + 1, e2, env2, S2, ?_, h4⟩
          simp only [xloop]
          rw [xcode_mono (xcall_mono (XF P) (XL P) (Prim.run P) n (max n n2) (Nat.le_max_left _ _)) (Nat.le_max_left _ _) _ _ _ _ h1]
          exact xloop_mono (fun env S r h => xcode_mono (xcall_mono (XF P) (XL P) (Prim.run P) n2 (max n n2) (Nat.le_max_right _ _)) (Nat.le_max_right _ _) _ _ _ _ h) j j (Nat.le_refl _) _ _ _ h3
        | exit id => exact ⟨n, 1, .exit id, env1, S1, by simp [xloop, h1], h2⟩
        | ret => exact ⟨n, 1, .ret, env1, S1, by simp [xloop, h1], h2⟩
    obtain ⟨n, j, e, env', S', h1, h2⟩ := key _ env S rfl hw hs hm hI
    refine ⟨max n j, e, env', S', ?_, h2⟩
    simp only [xcode]
    exact xloop_mono (fun env S r h => xcode_mono (xcall_mono (XF P) (XL P) (Prim.run P) n (max n j) (Nat.le_max_left _ _)) (Nat.le_max_left _ _) _ _ _ _ h) j (max n j) (Nat.le_max_right _ _) _ _ _ h1

  | range x L =>
    intro hwf env S Q hw hs hm h
    simp only [wfC, Bool.and_eq_true, beq_iff_eq] at hwf
    obtain ⟨g, a, b, e, h⟩ := h
    rw [← toF_ev] at e
    have hx := hs.ev x hwf.1
    rw [e] at hx
    obtain ⟨k1, k2⟩ := func_sc hx
    have hsc : ScL (S.alloc (.loop env L none)).next (a ++ #[Value.func (.yield S.next) #[] #[]] ++ b).toList := by
      rw [Array.toList_append, Array.toList_append]
      refine ((k1.mono (by simp)).append ?_).append (k2.mono (by simp))
      intro u hu
      simp only [List.mem_singleton] at hu
      subst hu
      exact .yield _ (by simp)
    obtain ⟨n, v, S2, h1, env2, L2, pe, h2, h3⟩ := h env rfl (by omega) (hw.allocB (b := .loop env L none) hs.toL) hsc
    refine ⟨n, pe.getD .normal, env, S2.put S.next .gone, ?_, h3⟩
    simp only [xcode, e, h1, Option.bind_some, h2]
    cases pe <;> rfl

/-- the results of a function. -/
def xr1 (fe : FEnv) (S : St) : XRes → Option Value
  | .tmp t => some (fe t)
  | .cell a agg sz => match fe a with
    | .pointer (some ⟨id, o, none⟩) => (S.rd id o sz).bind fun c => part1 agg c
    | _ => none
def xrs (l : List XRes) (fe : FEnv) (S : St) : Option Value :=
  (l.mapM (xr1 fe S)).map pack
theorem xres_eq (l : List XRes) (env : Env) (S : St) : xres l env S = xrs l (toF env) S := by
  unfold xres xrs
  have : xres1 env S = xr1 (toF env) S := by
    funext x
    cases x <;> rfl
  rw [this]

/-- the temporaries at a function's start. -/
def fe0 (args : List Value) : FEnv := fun t => args.getD t undef
theorem toF_args (args : Array Value) (k : Nat) : toF (args ++ Array.replicate k undef) = fe0 args.toList := by
  funext t
  simp only [toF, fe0]
  rw [Array.getD_eq_getD_getElem?, List.getD_eq_getElem?_getD, Array.getElem?_append]
  split
  · simp
  · rename_i h
    rw [Array.getElem?_replicate, List.getElem?_eq_none (by simpa using h)]
    split <;> rfl

/-- a call, by what its body does. -/
theorem XC_intro {f : FuncId} {xf : XFunc} (hf : XF P f = some xf) {args : Array Value} {S : St} {Q : Value → St → Prop}
    (h : XW P xf.body (fe0 args.toList) S (fun e fe S' => (∀ id, e ≠ .exit id) ∧ ∃ v, xrs xf.results fe S' = some v ∧ Q v S')) : XC P f args S Q := by
  intro hw hargs
  have hwf := (XF_wf hf).1
  rw [← toF_args args (xf.ntmps - args.size)] at h
  obtain ⟨n, e, env', S', h1, h2, v, h3, h4⟩ := XW_run xf.body hwf _ S _ hw (args_SE hargs _) (by simp; omega) h
  refine ⟨n + 1, v, S', ?_, h4⟩
  simp only [xcall, hf, h1, Option.bind_some]
  rw [← xres_eq] at h3
  cases e with
  | normal => simp [h3]
  | ret => simp [h3]
  | exit id => exact absurd rfl (h2 id)

/-- the variables of a round. -/
def updL (fe : FEnv) (l : List (Tmp × Value)) : FEnv := l.foldl (fun fe p => upd fe p.1 p.2) fe
theorem toF_fold : ∀ (ps : List Tmp) (xs : List Value) (env : Env), (∀ t ∈ ps, t < env.size) → toF ((ps.zip xs).foldl (fun t (p, v) => t.setIfInBounds p v) env) = updL (toF env) (ps.zip xs) := by
  intro ps
  induction ps with
  | nil => intro xs env _; rfl
  | cons p ps ih =>
    intro xs env h
    cases xs with
    | nil => rfl
    | cons x xs =>
      have h1 := toF_put env (some p) x (fun t e => by obtain rfl := Option.some.inj e; exact h p (by simp))
      have h2 := ih xs (env.put (some p) x) (fun t ht => by rw [put_size]; exact h t (by simp [ht]))
      simp only [List.zip_cons_cons, List.foldl_cons, updL] at h2 ⊢
      refine h2.trans ?_
      rw [h1]
      rfl

/-- a call of yield, by what its round does. -/
theorem XY_round {id : Nat} {env : Array Value} {L : LoopC} {xa xb : XCode} {args : Array Value} {S : St} {Q : Value → St → Prop} (hget : S.get id = .loop env L none) (hL : XL P L = some (xa, xb)) (hn : L.n ≤ env.size) (hsz : args.size = L.ps.size)
    (h : XW P xa (updL (toF env) (L.ps.toList.zip args.toList)) (S.put id .gone) (fun e fe1 S1 => e = .normal ∧ XW P xb fe1 S1 (fun ex _ S2 => match ex with
      | .normal => Q (.bool true) (S2.put id (.loop env L none))
      | ex => Q (.bool false) (S2.put id (.loop env L (some ex)))))) : XG P (.yield id) args S Q := by
  intro hw hargs
  obtain ⟨_, w1, w2, w3⟩ := XL_wf hL
  have hid := hw.alive (id := id) (by rw [hget]; simp)
  have henv := hw.loop id env L none hget
  have hfold := SE_fold L.ps.toList args.toList env (SE.of henv) hargs
  rw [← toF_fold L.ps.toList args.toList env (fun t ht => Nat.lt_of_lt_of_le (w3 t ht) hn)] at h
  have hwp : WS (S.put id .gone) := hw.putB hid (b := .gone) trivial
  obtain ⟨n1, e1, env1, S1, h1, rfl, h2⟩ := XW_run xa w1 _ (S.put id .gone) _ hwp (by simpa using hfold.1) (by rw [hfold.2]; exact hn) h
  obtain ⟨q1, q2, q3, q4⟩ := xcode_ws (xcall_ws P n1) xa w1 _ _ _ hwp (by simpa using hfold.1) h1
  obtain ⟨n2, e2, env2, S2, h3, h4⟩ := XW_run xb w2 env1 S1 _ q1 q3 (by rw [q4, hfold.2]; exact hn) h2
  have k1 := xcode_mono (xcall_mono (XF P) (XL P) (Prim.run P) n1 (max n1 n2) (Nat.le_max_left _ _)) (Nat.le_max_left n1 n2) _ _ _ _ h1
  have k2 := xcode_mono (xcall_mono (XF P) (XL P) (Prim.run P) n2 (max n1 n2) (Nat.le_max_right _ _)) (Nat.le_max_right n1 n2) _ _ _ _ h3
  have hz := zip_foldl L.ps args env
  cases e2 with
  | normal =>
    refine ⟨max n1 n2 + 1, _, _, ?_, h4⟩
    simp only [xcall, xround, hget, if_pos hsz, hL, Option.bind_some]
    rw [hz, k1]
    simp only [Option.bind_some, k2, Option.map_some]
  | exit j =>
    refine ⟨max n1 n2 + 1, _, _, ?_, h4⟩
    simp only [xcall, xround, hget, if_pos hsz, hL, Option.bind_some]
    rw [hz, k1]
    simp only [Option.bind_some, k2, Option.map_some]
  | ret =>
    refine ⟨max n1 n2 + 1, _, _, ?_, h4⟩
    simp only [xcall, xround, hget, if_pos hsz, hL, Option.bind_some]
    rw [hz, k1]
    simp only [Option.bind_some, k2, Option.map_some]

/-- what the model does at a call. -/
theorem XC.calls (hm : P.follows .mixedOrders = true) {f : FuncId} {args : Array Value} {S : St} {Q : Value → St → Prop} (h : XC P f args S Q) {B : Nat} {φ : Emb} {w : World} {args' : Array Value} (hS : WS S) (ha : ScL S.next args.toList) (hargs : RelA φ args args') (hs : Sim B φ S w) (hB : B ≤ w.heap.size) :
    Calls P f args' w fun e w' => ∃ φ' v v' S', e = .returned v' ∧ Rel φ' v v' ∧ Sim B φ' S' w' ∧ Keep B φ S w φ' S' w' ∧ Q v S' := by
  obtain ⟨n, v, S', h1, h2⟩ := h hS ha
  have := call_sound (P := P) (B := B) (draw_ok hm) (F := XF P) (fun f xf hf => (XF_wf hf).2) (LT := XL P) (fun L x h => (XL_wf h).1) (base := Prim.run P) (Prim.ok B) n (.func f) args S v S' h1
  refine (this.2 φ w args' hargs hs hB).mono ?_
  rintro e w' ⟨φ', v', k1, k2, k3, k4⟩
  exact ⟨φ', v, v', S', k1, k2, k3, k4, h2⟩
end
end Go.Proofs.YtofjnhdgkhfgnaaDoor

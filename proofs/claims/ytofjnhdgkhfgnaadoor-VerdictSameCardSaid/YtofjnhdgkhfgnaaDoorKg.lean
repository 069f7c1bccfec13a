/- The evaluator of closed computations: regions. No program in sight. -/
import Derived.Test.YtofjnhdgkhfgnaaDoorKh
set_option linter.unusedVariables false
set_option linter.unusedSimpArgs false
set_option linter.unusedSectionVars false
namespace Go.Proofs.YtofjnhdgkhfgnaaDoor
open Go Go.RowKit

section
variable {M : Nat → Caller} (hM : MachOK M)
include hM

omit hM in
/-- what a piece of code hands on: the temporaries, and the memory. -/
def KQ (k : KR) (env' : Env) (S' : St) : Prop := ∃ ke, toF env' = toK ke ∧ k ke S'.heap S'.next = true
noncomputable def kstep (cl : KCall) (o : XOper) (next : KR) : KR := fun env h nx =>
  @Bool.rec (fun _ => Bool) (kput env o.dst undef fun env => next env h nx)
    (kfast o.op cl env h nx fun v h nx => kput env o.dst v fun env => next env h nx) (kwant env o.guard)
noncomputable def kops (cl : KCall) (l : List XOper) : T4 → Tr Blk → Nat → KR → Bool := @List.rec XOper (fun _ => T4 → Tr Blk → Nat → KR → Bool) (fun env h nx k => k env h nx)
  (fun o _ ih env h nx k => kstep cl o (fun env h nx => ih env h nx k) env h nx) l
theorem kops_ok {cl : KCall} (hcl : KCallOK M cl) {m : Nat} : ∀ (l : List XOper), wfO m l = true → ∀ (env : Env) (ke : T4) (S : St) (k : KR), toF env = toK ke → m ≤ env.size → WS S → SE S.next env → kops cl l ke S.heap S.next k = true →
    ∃ n env' S', xops (M n) l env S = some (env', S') ∧ KQ k env' S' := by
  intro l
  induction l with
  | nil => intro _ env ke S k he hm hw hs hk; exact ⟨0, env, S, rfl, ke, he, hk⟩
  | cons o l ih =>
    intro hwf env ke S k he hm hw hs hk
    have hk : kstep cl o (fun env h nx => kops cl l env h nx k) ke S.heap S.next = true := hk
    obtain ⟨h1, h2, h3⟩ := wfO_cons hwf
    unfold kstep at hk
    rw [kwant_eq, ← he, ← toF_want] at hk
    have hq : qval ke = env.ev := by rw [toF_ev, he]; exact funext (qval_eq ke)
    cases hwn : xwanted o env with
    | false =>
      rw [hwn] at hk
      obtain ⟨ke', e1, e2⟩ := kput_ok hk
      obtain ⟨n, env', S', q1, q2⟩ := ih h3 (env.put o.dst undef) ke' S k (by rw [e1, toF_put _ _ _ (fun t e => Nat.lt_of_lt_of_le (h2 t e) hm), he]) (by rw [put_size]; exact hm) hw (hs.put _ (Sc.undef _)) e2
      exact ⟨n, env', S', by simp only [xops, hwn, Bool.false_eq_true, if_false]; exact q1, q2⟩
    | true =>
      rw [hwn] at hk
      obtain ⟨n1, v, S1, q1, q2⟩ := kfast_ok hM hcl h1 (by rw [hq]; exact hs.ev) hw hk
      rw [hq] at q1
      · skip
        obtain ⟨ke', e1, e2⟩ := kput_ok q2
        obtain ⟨k1, k2, k3⟩ := xstep_ws (hM.ws n1) hw h1 hs.ev q1
        obtain ⟨n2, env', S', p1, p2⟩ := ih h3 (env.put o.dst v) ke' S1 k (by rw [e1, toF_put _ _ _ (fun t e => Nat.lt_of_lt_of_le (h2 t e) hm), he]) (by rw [put_size]; exact hm) k1 ((hs.mono k2).put _ k3) e2
        refine ⟨max n1 n2, env', S', ?_, p2⟩
        simp only [xops, hwn, if_true]
        have q1' : xstep (M n1) o.op env.ev S = some (v, S1) := q1
        rw [xstep_mono (hM.mono n1 (max n1 n2) (Nat.le_max_left _ _)) q1']
        exact xops_mono (hM.mono n2 (max n1 n2) (Nat.le_max_right _ _)) _ _ _ _ p1

/-- what a region that draws its order has done. -/
structure KRec where
  env : T4
  h : Tr Blk
  nx : Nat
  w : Bool
  v : Value
abbrev KRs := List KRec → KR
noncomputable def krstep (cl : KCall) (o : XOper) (next : T4 → Tr Blk → Nat → KRs → Bool) : T4 → Tr Blk → Nat → KRs → Bool := fun env h nx k =>
  @Bool.rec (fun _ => Bool) (kput env o.dst undef fun env' => next env' h nx fun R => k (⟨env, h, nx, false, undef⟩ :: R))
    (kfast o.op cl env h nx fun v h' nx' => kput env o.dst v fun env' => next env' h' nx' fun R => k (⟨env, h, nx, true, v⟩ :: R)) (kwant env o.guard)
noncomputable def krun (cl : KCall) (l : List XOper) : T4 → Tr Blk → Nat → KRs → Bool := @List.rec XOper (fun _ => T4 → Tr Blk → Nat → KRs → Bool) (fun env h nx k => k [] env h nx)
  (fun o _ ih => krstep cl o ih) l
omit hM in
def RecRel (kr : KRec) (r : Rec) : Prop := toF r.env = toK kr.env ∧ r.S = ⟨kr.h, kr.nx⟩ ∧ r.w = kr.w ∧ r.v = kr.v
omit hM in
def RecsRel : List KRec → List Rec → Prop
  | [], [] => True
  | a :: l, b :: m => RecRel a b ∧ RecsRel l m
  | _, _ => False
theorem krun_ok {cl : KCall} (hcl : KCallOK M cl) {m : Nat} : ∀ (l : List XOper), wfO m l = true → ∀ (env : Env) (ke : T4) (S : St) (k : KRs), toF env = toK ke → m ≤ env.size → WS S → SE S.next env → krun cl l ke S.heap S.next k = true →
    ∃ n R env' S' KR', xrun (M n) l env S = some (R, env', S') ∧ RecsRel KR' R ∧ KQ (k KR') env' S' := by
  intro l
  induction l with
  | nil => intro _ env ke S k he hm hw hs hk; exact ⟨0, [], env, S, [], rfl, trivial, ke, he, hk⟩
  | cons o l ih =>
    intro hwf env ke S k he hm hw hs hk
    have hk : krstep cl o (krun cl l) ke S.heap S.next k = true := hk
    obtain ⟨h1, h2, h3⟩ := wfO_cons hwf
    unfold krstep at hk
    rw [kwant_eq, ← he, ← toF_want] at hk
    have hq : qval ke = env.ev := by rw [toF_ev, he]; exact funext (qval_eq ke)
    cases hwn : xwanted o env with
    | false =>
      rw [hwn] at hk
      obtain ⟨ke', e1, e2⟩ := kput_ok hk
      obtain ⟨n, R, env', S', KR', q1, q2, q3⟩ := ih h3 (env.put o.dst undef) ke' S _ (by rw [e1, toF_put _ _ _ (fun t e => Nat.lt_of_lt_of_le (h2 t e) hm), he]) (by rw [put_size]; exact hm) hw (hs.put _ (Sc.undef _)) e2
      exact ⟨n, ⟨env, S, false, undef⟩ :: R, env', S', ⟨ke, S.heap, S.next, false, undef⟩ :: KR', by simp only [xrun, hwn, Bool.false_eq_true, if_false, q1, Option.map_some], ⟨⟨he, rfl, rfl, rfl⟩, q2⟩, q3⟩
    | true =>
      rw [hwn] at hk
      obtain ⟨n1, v, S1, q1, q2⟩ := kfast_ok hM hcl h1 (by rw [hq]; exact hs.ev) hw hk
      rw [hq] at q1
      · skip
        obtain ⟨ke', e1, e2⟩ := kput_ok q2
        obtain ⟨k1, k2, k3⟩ := xstep_ws (hM.ws n1) hw h1 hs.ev q1
        obtain ⟨n2, R, env', S', KR', p1, p2, p3⟩ := ih h3 (env.put o.dst v) ke' S1 _ (by rw [e1, toF_put _ _ _ (fun t e => Nat.lt_of_lt_of_le (h2 t e) hm), he]) (by rw [put_size]; exact hm) k1 ((hs.mono k2).put _ k3) e2
        refine ⟨max n1 n2, ⟨env, S, true, v⟩ :: R, env', S', ⟨ke, S.heap, S.next, true, v⟩ :: KR', ?_, ⟨⟨he, rfl, rfl, rfl⟩, p2⟩, p3⟩
        have q1' : xstep (M n1) o.op env.ev S = some (v, S1) := q1
        simp only [xrun, hwn, if_true, xstep_mono (hM.mono n1 (max n1 n2) (Nat.le_max_left _ _)) q1', Option.bind_some, xrun_mono (hM.mono n2 (max n1 n2) (Nat.le_max_right _ _)) _ _ _ _ p1, Option.map_some]
end
end Go.Proofs.YtofjnhdgkhfgnaaDoor

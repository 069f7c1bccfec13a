/- The evaluator of closed computations: regions that draw their order, code, calls. No program in sight. -/
import Derived.Test.YtofjnhdgkhfgnaaDoorKg
set_option linter.unusedVariables false
set_option linter.unusedSimpArgs false
set_option linter.unusedSectionVars false
namespace Go.Proofs.YtofjnhdgkhfgnaaDoor
open Go Go.RowKit

def eqV0 : Value → Value → Bool
  | .bool a, .bool b => a == b
  | .int i a, .int j b => decide (i = j) && a == b
  | .string s, .string t => eqBytes s.data.toList t.data.toList
  | .pointer a, .pointer b => eqA a b
  | .slice a n c, .slice b m d => eqA a b && Nat.beq n m && Nat.beq c d
  | .map (some a), .map (some b) => Nat.beq a b
  | .map none, .map none => true
  | .nilFunc, .nilFunc => true
  | .nilIface, .nilIface => true
  | _, _ => false
theorem eqV0_ok {a b : Value} (h : eqV0 a b = true) : a = b := by
  unfold eqV0 at h
  split at h
  · simpa using h
  · simp only [Bool.and_eq_true, decide_eq_true_eq, beq_iff_eq] at h; rw [h.1, h.2]
  · rename_i s t
    have := eqBytes_ok h
    rcases s with ⟨⟨s⟩⟩
    rcases t with ⟨⟨t⟩⟩
    simp only at this
    rw [this]
  · rw [eqA_ok h]
  · simp only [Bool.and_eq_true] at h; rw [eqA_ok h.1.1, Nat.eq_of_beq_eq_true h.1.2, Nat.eq_of_beq_eq_true h.2]
  · rw [Nat.eq_of_beq_eq_true h]
  · rfl
  · rfl
  · rfl
  · cases h
def eqLs (f : Value → Value → Bool) : List Value → List Value → Bool
  | [], [] => true
  | a :: l, b :: m => f a b && eqLs f l m
  | _, _ => false
theorem eqLs_ok {f : Value → Value → Bool} (hf : ∀ a b, f a b = true → a = b) : ∀ {l m : List Value}, eqLs f l m = true → l = m := by
  intro l
  induction l with
  | nil => intro m h; cases m <;> simp [eqLs] at h ⊢
  | cons a l ih =>
    intro m h
    cases m with
    | nil => simp [eqLs] at h
    | cons b m =>
      simp only [eqLs, Bool.and_eq_true] at h
      rw [ih h.2, hf _ _ h.1]
def eqV1 : Value → Value → Bool
  | .func (.func f) a b, .func (.func g) c d => Nat.beq f g && eqLs eqV0 a.toList c.toList && eqLs eqV0 b.toList d.toList
  | a, b => eqV0 a b
theorem eqV1_ok {a b : Value} (h : eqV1 a b = true) : a = b := by
  unfold eqV1 at h
  split at h
  · rename_i f a b g c d
    simp only [Bool.and_eq_true] at h
    have h1 := Nat.eq_of_beq_eq_true h.1.1
    have h2 := Array.toList_inj.1 (eqLs_ok (fun _ _ => eqV0_ok) h.1.2)
    have h3 := Array.toList_inj.1 (eqLs_ok (fun _ _ => eqV0_ok) h.2)
    rw [h2, h3]
    have h1 : f = g := h1
    rw [h1]
  · exact eqV0_ok h
def eqV : Value → Value → Bool
  | .agg a, .agg b => eqLs eqV1 a.toList b.toList
  | a, b => eqV1 a b
theorem eqV_ok {a b : Value} (h : eqV a b = true) : a = b := by
  unfold eqV at h
  split at h
  · rw [Array.toList_inj.1 (eqLs_ok (fun _ _ => eqV1_ok) h)]
  · exact eqV1_ok h
def eqNs : List Nat → List Nat → Bool
  | [], [] => true
  | a :: l, b :: m => Nat.beq a b && eqNs l m
  | _, _ => false
theorem eqNs_ok : ∀ {l m : List Nat}, eqNs l m = true → l = m := by
  intro l
  induction l with
  | nil => intro m h; cases m <;> simp [eqNs] at h ⊢
  | cons a l ih =>
    intro m h
    cases m with
    | nil => simp [eqNs] at h
    | cons b m =>
      simp only [eqNs, Bool.and_eq_true] at h
      rw [ih h.2, Nat.eq_of_beq_eq_true h.1]
def eqBlk : Blk → Blk → Bool
  | .gone, .gone => true
  | .cells c t z m an, .cells c' t' z' m' an' => eqLs eqV1 c c' && Nat.beq t t' && Nat.beq z z' && (m == m') && eqNs an an'
  | .obj (.map [] n), .obj (.map [] n') => Nat.beq n n'
  | _, _ => false
theorem eqBlk_ok {a b : Blk} (h : eqBlk a b = true) : a = b := by
  unfold eqBlk at h
  split at h
  · rfl
  · simp only [Bool.and_eq_true, beq_iff_eq] at h
    obtain ⟨⟨⟨⟨h1, h2⟩, h3⟩, h4⟩, h5⟩ := h
    rw [eqLs_ok (fun _ _ => eqV1_ok) h1, eqNs_ok h5, h4, Nat.eq_of_beq_eq_true h3]
    have := Nat.eq_of_beq_eq_true h2
    rw [show _ = _ from this]
  · rw [Nat.eq_of_beq_eq_true h]
  · cases h

/-- the memory at a stage. -/
noncomputable def krT (R : List KRec) (h : Tr Blk) (nx : Nat) (q : Nat) : St := match ldrop R q with
  | r :: _ => ⟨r.h, r.nx⟩
  | [] => ⟨h, nx⟩
noncomputable def kchk1 (o : XOp) (r : KRec) (i : Nat) (full : List KRec) (h : Tr Blk) (nx : Nat) (q : Nat) : Bool :=
  @Bool.rec (fun _ => Bool) (and
    (@Bool.rec (fun _ => Bool) true (match kop o (qval r.env) (krT full h nx q) with
      | some (.old v) => eqV v r.v
      | some (.val v) => eqV v r.v
      | _ => false) (heapy o))
    (@Bool.rec (fun _ => Bool) true (@Bool.rec (fun _ => Bool) true (eqBlk ((krT full h nx q).get r.nx) ((krT full h nx (i + 1)).get r.nx)) (Nat.ble (Nat.succ i) q)) (isAlloc o))) true (Nat.beq q i)
noncomputable def kchk (full : List KRec) (h : Tr Blk) (nx : Nat) : List KRec → List XOper → List (List Nat) → Nat → Bool
  | r :: R, o :: ops, st :: sts, i => and (@Bool.rec (fun _ => Bool) true (st.all (kchk1 o.op r i full h nx)) (and r.w (or (heapy o.op) (isAlloc o.op)))) (kchk full h nx R ops sts (i + 1))
  | _, _, _, _ => true
theorem kchk_get {full : List KRec} {h : Tr Blk} {nx : Nat} : ∀ {R : List KRec} {ops : List XOper} {sts : List (List Nat)} {i : Nat}, kchk full h nx R ops sts i = true → ∀ j r o, R[j]? = some r → ops[j]? = some o → r.w = true → (heapy o.op || isAlloc o.op) = true → ∀ q ∈ (sts[j]?).getD [], kchk1 o.op r (i + j) full h nx q = true := by
  intro R
  induction R with
  | nil => intro ops sts i _ j r o h1; simp at h1
  | cons r0 R ih =>
    intro ops sts i hk j r o h1 h2 hw ha q hq
    cases ops with
    | nil => simp at h2
    | cons o0 ops =>
      cases sts with
      | nil => simp at hq
      | cons st sts =>
        simp only [kchk, Bool.and_eq_true] at hk
        cases j with
        | zero =>
          simp only [List.getElem?_cons_zero, Option.some.injEq] at h1 h2
          subst h1 h2
          have h3 := hk.1
          rw [hw, ha] at h3
          have h3 : st.all (kchk1 o0.op r0 i full h nx) = true := h3
          rw [List.all_eq_true] at h3
          simpa using h3 q (by simpa using hq)
        | succ j =>
          have := ih hk.2 j r o (by simpa using h1) (by simpa using h2) hw ha q (by simpa using hq)
          rwa [show i + 1 + j = i + (j + 1) by omega] at this
theorem RecsRel.at {l : List KRec} {m : List Rec} (h : RecsRel l m) : l.length = m.length ∧ ∀ i (h1 : i < l.length) (h2 : i < m.length), RecRel l[i] m[i] := by
  induction l generalizing m with
  | nil => cases m with
    | nil => exact ⟨rfl, fun i h => by simp at h⟩
    | cons b m => cases h
  | cons a l ih =>
    cases m with
    | nil => cases h
    | cons b m =>
      obtain ⟨h1, h2⟩ := ih h.2
      refine ⟨by simp [h1], fun i h3 h4 => ?_⟩
      cases i with
      | zero => exact h.1
      | succ i => exact h2 i (by simpa using h3) (by simpa using h4)
theorem krT_eq {l : List KRec} {m : List Rec} (hr : RecsRel l m) (S' : St) (q : Nat) : krT l S'.heap S'.next q = recT m S' q := by
  obtain ⟨h1, h2⟩ := hr.at
  unfold krT recT
  rw [ldrop_eq]
  by_cases hq : q < l.length
  · rw [List.drop_eq_getElem_cons hq, List.getElem?_eq_getElem (by omega)]
    exact (h2 q hq (by omega)).2.1.symm
  · rw [List.drop_eq_nil_of_le (by omega), List.getElem?_eq_none (by omega)]

section
variable {M : Nat → Caller} (hM : MachOK M)
include hM
noncomputable def kdraw (cl : KCall) (d : XDraw) : KCode := fun env h nx k => krun cl d.ops env h nx fun R env' h' nx' => @Bool.rec (fun _ => Bool) false (k .normal env' h' nx') (kchk R h' nx' R d.ops d.stages 0)
theorem kdraw_ok {cl : KCall} (hcl : KCallOK M cl) {m : Nat} {d : XDraw} (hwf : wfO m d.ops = true) {env : Env} {ke : T4} {S : St} {k : KX} (he : toF env = toK ke) (hm : m ≤ env.size) (hw : WS S) (hs : SE S.next env) (hk : kdraw cl d ke S.heap S.next k = true) :
    ∃ n env' S', xdraw (M n) d env S = some (env', S') ∧ KQ (k .normal) env' S' := by
  obtain ⟨n, R, env', S', KR', h1, h2, ke', h3, h4⟩ := krun_ok hM hcl d.ops hwf env ke S _ he hm hw hs hk
  have h4 : @Bool.rec (fun _ => Bool) false (k .normal ke' S'.heap S'.next) (kchk KR' S'.heap S'.next KR' d.ops d.stages 0) = true := h4
  cases hc : kchk KR' S'.heap S'.next KR' d.ops d.stages 0 with
  | false => rw [hc] at h4; cases h4
  | true =>
  rw [hc] at h4
  have hfacts := xrun_facts _ _ _ _ _ _ h1
  have hws := xrun_ws (hM.ws n) d.ops hwf env S R env' S' hw hs h1
  obtain ⟨hlen, hrel⟩ := h2.at
  have hop : ∀ i (hi : i < d.ops.length), opdsOk d.ops[i].op = true := by
    intro i hi
    have hwf' : wfO m d.ops = true := hwf
    simp only [wfO, List.all_eq_true, Bool.and_eq_true] at hwf'
    exact (hwf' _ (List.getElem_mem hi)).1
  have hchk : ChkP d R S' := by
    refine ⟨fun i hi => ?_, fun i r o e1 e2 hwr ha q hq => ?_⟩
    · have hi' : i < d.ops.length := by rw [← hfacts.1]; exact hi
      obtain ⟨r, a1, a2, a3, a4, a5, a6, a7⟩ := hfacts.2.2.2 i hi'
      have hws' := hws.2.2.2.2 i r a1
      rw [a3, a2] at hws'
      cases hw : r.w with
      | false => rw [(a6 hw).2]; exact Nat.le_refl _
      | true => exact (xstep_ws (hM.ws n) hws'.1 (hop i hi') hws'.2.ev (a5 hw)).2.1
    · have hi : i < d.ops.length := (List.getElem?_eq_some_iff.1 e2).1
      have hoi : d.ops[i] = o := (List.getElem?_eq_some_iff.1 e2).2
      obtain ⟨r', a1, a2, a3, a4, a5, a6, a7⟩ := hfacts.2.2.2 i hi
      rw [e1] at a1
      obtain rfl := Option.some.inj a1
      have hx := a5 hwr
      rw [hoi, xstep_xop ha, ← a2, ← a3] at hx
      have hws' := hws.2.2.2.2 i r e1
      have hlt : i < R.length := (List.getElem?_eq_some_iff.1 e1).1
      have hkr : i < KR'.length := by omega
      have hrr := hrel i hkr hlt
      have hri : R[i] = r := (List.getElem?_eq_some_iff.1 e1).2
      rw [hri] at hrr
      obtain ⟨r1, r2, r3, r4⟩ := hrr
      have hk1' := fun hha => kchk_get hc i KR'[i] o (List.getElem?_eq_getElem hkr) e2 (by rw [← r3]; exact hwr) hha q hq
      rw [Nat.zero_add] at hk1'
      by_cases hha : (heapy o.op || isAlloc o.op) = true
      case neg =>
        simp only [Bool.or_eq_true, not_or, Bool.not_eq_true] at hha
        exact ⟨fun hh => (by rw [hha.1] at hh; cases hh), fun hal => (by rw [hha.2] at hal; cases hal)⟩
      have hk1 := hk1' hha
      have hev : qval KR'[i].env = r.env.ev := by rw [toF_ev, r1]; exact funext (qval_eq _)
      have hnx : r.S.next = KR'[i].nx := by rw [r2]
      unfold kchk1 at hk1
      rw [krT_eq h2, krT_eq h2, hev] at hk1
      by_cases hqi : q = i
      · subst hqi
        refine ⟨fun hh => ⟨⟨_, by rw [← a3]; exact hx⟩, fun h => absurd h (Nat.lt_irrefl _)⟩, fun _ h => absurd h (Nat.lt_irrefl _)⟩
      · rw [beq_f hqi] at hk1
        have hk1 := hk1
        simp only [Bool.and_eq_true] at hk1
        obtain ⟨k1, k2⟩ := hk1
        refine ⟨fun hh => ?_, fun hal hlt2 => ?_⟩
        · rw [hh] at k1
          have hT := heapy_same hh hx
          have hsc : Sc r.S.next r.v := by
            have := (xop_ws hws'.1 (by rw [← hoi]; exact hop i hi) hws'.2.ev hx).2.2
            rw [hT] at this
            exact this
          refine ⟨?_, fun _ => hsc.toScoped⟩
          have k1 : (match kop o.op r.env.ev (recT R S' q) with
            | some (.old v) => eqV v KR'[i].v
            | some (.val v) => eqV v KR'[i].v
            | _ => false) = true := k1
          split at k1
          · rename_i v hv
            have hev2 := eqV_ok k1
            have := kop_ok (fun f args e => by rw [e] at ha; cases ha) (fun x args e => by rw [e] at ha; cases ha) hv
            rw [this.1, r4, ← hev2]
            exact ⟨_, rfl⟩
          · rename_i v hv
            have hev2 := eqV_ok k1
            have := kop_ok (fun f args e => by rw [e] at ha; cases ha) (fun x args e => by rw [e] at ha; cases ha) hv
            rw [this.1, r4, ← hev2]
            exact ⟨_, rfl⟩
          · cases k1
        · rw [hal] at k2
          have hb : Nat.ble (Nat.succ i) q = true := by rw [Nat.ble_eq]; exact hlt2
          rw [hb] at k2
          have k2 : eqBlk ((recT R S' q).get KR'[i].nx) ((recT R S' (i + 1)).get KR'[i].nx) = true := k2
          rw [hnx]
          exact eqBlk_ok k2
  exact ⟨n, env', S', by simp only [xdraw, h1, Option.bind_some, if_pos hchk], ke', h3, h4⟩
end
end Go.Proofs.YtofjnhdgkhfgnaaDoor

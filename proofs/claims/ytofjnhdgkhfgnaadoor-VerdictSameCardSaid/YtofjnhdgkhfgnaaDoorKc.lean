/- The evaluator of closed computations: regions, code, calls; what it says holds of the abstract machine. No program in sight. -/
import Derived.Test.YtofjnhdgkhfgnaaDoorKb
set_option linter.unusedVariables false
set_option linter.unusedSimpArgs false
set_option linter.unusedSectionVars false
namespace Go.Proofs.YtofjnhdgkhfgnaaDoor
open Go Go.RowKit

abbrev KV := Value → Tr Blk → Nat → Bool
abbrev KR := T4 → Tr Blk → Nat → Bool
abbrev KX := Ex → T4 → Tr Blk → Nat → Bool
abbrev KCode := T4 → Tr Blk → Nat → KX → Bool
abbrev KCall := Go.Fn → List Value → Tr Blk → Nat → KV → Bool

noncomputable def qval (env : T4) (x : Operand) : Value := match x with
  | .tmp t => match get4 (pt t) env with
    | some v => v
    | none => undef
  | .const v => v
  | .global g => .pointer (some ⟨g, 0, none⟩)
  | .func f => .func (.func f) #[] #[]
noncomputable def toK (env : T4) : FEnv := fun t => (get4 (pt t) env).getD undef
theorem qval_eq (env : T4) (x : Operand) : qval env x = fev (toK env) x := by
  cases x <;> simp only [qval, fev, toK]
  cases get4 (pt _) env <;> rfl
noncomputable def kput (env : T4) (d : Option Tmp) (v : Value) (k : T4 → Bool) : Bool := @Option.rec Tmp (fun _ => Bool) (k env) (fun d => set4 v (pt d) env k) d
theorem kput_ok {env : T4} {d : Option Tmp} {v : Value} {k : T4 → Bool} (h : kput env d v k = true) : ∃ env', toK env' = updO (toK env) d v ∧ k env' = true := by
  cases d with
  | none => exact ⟨env, rfl, h⟩
  | some d =>
    obtain ⟨env', h1, h2⟩ := set4_ok v (pt d) env k h
    refine ⟨env', ?_, h2⟩
    funext t
    simp only [toK, updO, upd, h1]
    by_cases e : t = d
    · subst e; simp
    · rw [if_neg (fun h => e (pt_inj h)), if_neg e]
noncomputable def isB (v : Value) (want : Bool) : Bool := @Value.rec (fun _ => Bool) (fun _ => Unit) (fun _ => Unit) (fun b => @Bool.rec (fun _ => Bool) (@Bool.rec (fun _ => Bool) true false want) want b) (fun _ _ => false) (fun _ _ => false) (fun _ _ _ => false) (fun _ => false) (fun _ => false) (fun _ _ _ => false) (fun _ => false) (fun _ => false) (fun _ _ _ _ _ => false) false (fun _ _ _ => false) false (fun _ _ => false) (fun _ _ => false) (fun _ _ => ()) () (fun _ _ _ _ => ()) v
noncomputable def kwant (env : T4) (g : Option (Tmp × Bool)) : Bool := @Option.rec (Tmp × Bool) (fun _ => Bool) true (fun p => @Prod.rec Tmp Bool (fun _ => Bool) (fun t want => @Option.rec Value (fun _ => Bool) false (fun v => isB v want) (get4 (pt t) env)) p) g
theorem kwant_eq (env : T4) (g : Option (Tmp × Bool)) : kwant env g = fwant (toK env) g := by
  rcases g with _ | ⟨t, w⟩
  · rfl
  · simp only [kwant, fwant, toK]
    cases get4 (pt t) env with
    | none => rfl
    | some v =>
      cases v with
      | bool b => cases b <;> cases w <;> rfl
      | _ => rfl
noncomputable def kkill (l : List Nat) (k : Tr Blk → Bool) : Tr Blk → Bool := @List.rec Nat (fun _ => Tr Blk → Bool) (fun h => k h) (fun j _ ih h => kset .gone 40 h j fun h => ih h) l
theorem kkill_ok {l : List Nat} {k : Tr Blk → Bool} : ∀ {h : Tr Blk} {nx : Nat}, kkill l k h = true → ∃ h', (St.mk h nx).kill l = St.mk h' nx ∧ k h' = true := by
  induction l with
  | nil => intro h nx hk; exact ⟨h, rfl, hk⟩
  | cons j l ih =>
    intro h nx hk
    have hk : kset Blk.gone 40 h j (fun h => kkill l k h) = true := hk
    obtain ⟨h', e1, e3⟩ := ih (nx := nx) (kset_eq _ _ _ _ _ hk)
    exact ⟨h', by rw [← e1]; rfl, e3⟩

/-- an act is done. -/
noncomputable def kact (cl : KCall) (a : KAct) (h : Tr Blk) (nx : Nat) (k : KV) : Bool := match a with
  | .old v => fT v fun v => k v h nx
  | .val v => fV v fun v => k v h nx
  | .new v b => fV v fun v => fBk b fun b => kset b 40 h nx fun h => fN (Nat.succ nx) fun nx => k v h nx
  | .put v id an b => fV v fun v => fBk b fun b => kkill an (fun h => kset b 40 h id fun h => k v h nx) h
  | .grow v id b1 b2 => fV v fun v => fBk b1 fun b1 => fBk b2 fun b2 => kset b1 40 h id fun h => kset b2 40 h nx fun h => fN (Nat.succ nx) fun nx => k v h nx
  | .call g l => fTs l fun l => cl g l h nx k

section
/-- a machine: more fuel changes nothing, and it is well-scoped. -/
structure MachOK (M : Nat → Caller) : Prop where
  mono : ∀ n n', n ≤ n' → CallerLe (M n) (M n')
  ws : ∀ n, CallerWS (M n)
/-- what a call does. -/
def KG (M : Nat → Caller) (g : Go.Fn) (args : Array Value) (S : St) (Q : Value → St → Prop) : Prop := WS S → ScL S.next args.toList → ∃ n v S', M n g args S = some (v, S') ∧ Q v S'
/-- what is handed on. -/
def KP (k : KV) (v : Value) (S' : St) : Prop := k v S'.heap S'.next = true
/-- the callers that are right. -/
def KCallOK (M : Nat → Caller) (cl : KCall) : Prop := ∀ g l h nx k, cl g l h nx k = true → KG M g l.toArray ⟨h, nx⟩ (KP k)

variable {M : Nat → Caller} (hM : MachOK M)
include hM

theorem kact_ok {cl : KCall} (hcl : KCallOK M cl) {o : XOp} {ρ : Operand → Value} {h : Tr Blk} {nx : Nat} {a : KAct} {k : KV} (hok : opdsOk o = true) (hρ : ∀ x, okOpd x = true → Sc nx (ρ x)) (hw : WS ⟨h, nx⟩)
    (ha : kop o ρ ⟨h, nx⟩ = some a) (hk : kact cl a h nx k = true) : ∃ n v S', xstep (M n) o ρ ⟨h, nx⟩ = some (v, S') ∧ k v S'.heap S'.next = true := by
  by_cases hc : (∃ f args, o = .call f args) ∨ ∃ x args, o = .callv x args
  · rcases hc with ⟨f, args, rfl⟩ | ⟨x, args, rfl⟩
    · obtain rfl := Option.some.inj ha
      simp only [kact, fTs_eq] at hk
      have hs := hcl _ _ _ _ _ hk
      have e : (args.toList.map ρ).toArray = args.map ρ := by rw [← Array.toList_map]
      rw [e] at hs
      exact hs hw (args_sc hρ hok)
    · have h' : k_callv x args ρ ⟨h, nx⟩ = some a := ha
      unfold k_callv at h'
      split at h'
      · rename_i g b c e
        obtain rfl := Option.some.inj h'
        simp only [kact, fTs_eq] at hk
        have hs := hcl _ _ _ _ _ hk
        have e2 : (b.toList ++ args.toList.map ρ ++ c.toList).toArray = b ++ args.map ρ ++ c := by simp
        rw [e2] at hs
        simp only [opdsOk, Bool.and_eq_true] at hok
        have hx := hρ x hok.1
        rw [e] at hx
        obtain ⟨k1, k2⟩ := func_sc hx
        obtain ⟨n, v, S', h1, h2⟩ := hs hw (by
          rw [Array.toList_append, Array.toList_append]
          exact (k1.append (args_sc hρ hok.2)).append k2)
        exact ⟨n, v, S', by simp only [xstep, e]; exact h1, h2⟩
      · cases h'
  · have n1 : ∀ f args, o ≠ .call f args := fun f args e => hc (.inl ⟨f, args, e⟩)
    have n2 : ∀ x args, o ≠ .callv x args := fun x args e => hc (.inr ⟨x, args, e⟩)
    obtain ⟨h1, h2⟩ := kop_ok n1 n2 ha
    have hst : xstep (M 0) o ρ ⟨h, nx⟩ = xop o ρ ⟨h, nx⟩ := by
      unfold xstep
      split
      · exact (n1 _ _ rfl).elim
      · exact (n2 _ _ rfl).elim
      · rfl
    refine ⟨0, (a.run ⟨h, nx⟩).1, (a.run ⟨h, nx⟩).2, by rw [hst, h1], ?_⟩
    cases a with
    | call g l => exact absurd rfl (h2 g l)
    | old v =>
      simp only [kact, fT_eq] at hk
      exact hk
    | val v =>
      simp only [kact, fV_eq] at hk
      exact hk
    | new v b =>
      simp only [kact, fV_eq, fBk_eq] at hk
      have h1 := kset_eq _ _ _ _ _ hk
      simp only [fN_eq] at h1
      exact h1
    | put v id an b =>
      simp only [kact, fV_eq, fBk_eq] at hk
      obtain ⟨h1, e1, e3⟩ := kkill_ok (nx := nx) hk
      have h2 := kset_eq _ _ _ _ _ e3
      show k v (((St.mk h nx).kill an).put id b).heap (((St.mk h nx).kill an).put id b).next = true
      rw [e1]
      exact h2
    | grow v id b1 b2 =>
      simp only [kact, fV_eq, fBk_eq] at hk
      have h1 := kset_eq _ _ _ _ _ hk
      have h2 := kset_eq _ _ _ _ _ h1
      simp only [fN_eq] at h2
      exact h2

end
end Go.Proofs.YtofjnhdgkhfgnaaDoor

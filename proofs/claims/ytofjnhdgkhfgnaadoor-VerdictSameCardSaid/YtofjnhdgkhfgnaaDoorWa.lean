/- The example of the section answers true: computed by the kernel. -/
import Derived.Test.YtofjnhdgkhfgnaaDoorKt
set_option maxRecDepth 1000000
set_option linter.unusedVariables false
namespace Go.Proofs.YtofjnhdgkhfgnaaDoor
open Go Go.RowKit

noncomputable def noPr : FuncId → List Value → Tr Blk → Nat → KV → Bool := fun _ _ _ _ _ => false
@[reducible] noncomputable def noPrim0 : Prim Tryd.prog := ⟨fun _ _ _ => none, fun _ _ _ _ _ h => by simp at h, fun _ g _ _ _ _ h => by cases g <;> simp [baseC] at h⟩
theorem lives_k : kcall kTab noPr 100000 1000 (.func 6) [] .leaf 0 (fun v _ _ => isTrue v) = true := by kernel_rfl
theorem lives_true : (∃ fn, Tryd.prog.funcs[6]? = some fn ∧ fn.body.isSome = true ∧ (fn.name == "runtime.NumGoroutine") = false) ∧ ∀ B φ S w, Sim B φ S w → B ≤ w.heap.size → Calls Tryd.prog 6 #[] w (OutC B φ S w (.bool true) S) :=
  @closed_true Tryd.prog noPrim0 (by kernel_rfl) kTab kTab_ok noPr (fun _ _ _ _ _ _ h => by cases h) 100000 1000 6 lives_k

def runL : Base := fun f args S => if f = 6 ∧ args = #[] then some (.bool true, S) else none
theorem runL_inv {f : FuncId} {args : Array Value} {S : St} {v : Value} {S' : St} (h : runL f args S = some (v, S')) : f = 6 ∧ args = #[] ∧ v = .bool true ∧ S' = S := by
  unfold runL at h
  split at h
  · rename_i hc
    obtain ⟨rfl, rfl⟩ := Prod.mk.inj (Option.some.inj h)
    exact ⟨hc.1, hc.2, rfl, rfl⟩
  · cases h
instance livesPrim : Prim Tryd.prog := ⟨runL, fun f args S v S' h hw _ => by
  obtain ⟨_, _, rfl, rfl⟩ := runL_inv h
  exact ⟨hw, Nat.le_refl _, .bool _⟩, fun B g args S v S' h => by
  cases g with
  | func f =>
    obtain ⟨rfl, rfl, rfl, rfl⟩ := runL_inv h
    refine ⟨lives_true.1, fun φ w args' hr hs hB => ?_⟩
    have : args' = #[] := Array.eq_empty_of_size_eq_zero hr.1.symm
    subst this
    exact lives_true.2 B φ S' w hs hB
  | _ => cases h⟩
end Go.Proofs.YtofjnhdgkhfgnaaDoor

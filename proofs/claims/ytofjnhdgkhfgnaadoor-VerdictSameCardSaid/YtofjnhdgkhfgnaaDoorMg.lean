/- The model's operations do what the abstract machine's do: equality of values without addresses. -/
import Derived.Test.YtofjnhdgkhfgnaaDoorMf
import Derived.Laws.StructEq
namespace Go.Proofs.YtofjnhdgkhfgnaaDoor
open Go Go.RowKit

def flatFs (g : TypeId → Option (List Nat)) (sz : TypeId → Option Nat) : List Field → Nat → Option (List Nat)
  | [], _ => some []
  | f :: r, off => if f.name ≠ "_" ∧ f.offset = off then (g f.type).bind fun k => if sz f.type = some k.length then (flatFs g sz r (off + k.length)).map fun l => k ++ l else none else none

/-- the kinds of the places of a value of a type, if it bears no addresses. -/
def flatT (P : Program) : Nat → TypeId → Option (List Nat)
  | 0, _ => none
  | d + 1, t => match P.underlying t with
    | some .bool => some [0]
    | some (.int _) => some [1]
    | some .string => some [2]
    | some (.struct fs) => if P.stoodInHeld t then none else flatFs (flatT P d) (fun t => (P.info? t).map (·.size)) fs.toList 0
    | some (.array n e) => (flatT P d e).bind fun k => if (P.info? e).map (·.size) = some k.length then some (List.replicate n k).flatten else none
    | _ => none

def shapeV (agg : Bool) (l : List Value) : Value := if agg then .agg l.toArray else l.headD undef

theorem eqL_length : ∀ {ks : List Nat} {a b : List Value} {r : Bool}, eqL ks a b = some r → a.length = ks.length ∧ b.length = ks.length
  | [], [], [], _, _ => ⟨rfl, rfl⟩
  | [], [], _ :: _, _, h => by simp [eqL] at h
  | [], _ :: _, _, _, h => by simp [eqL] at h
  | _ :: _, [], _, _, h => by simp [eqL] at h
  | _ :: _, _ :: _, [], _, h => by simp [eqL] at h
  | k :: ks, x :: a, y :: b, r, h => by
    simp only [eqL, Option.bind_eq_some_iff, Option.map_eq_some_iff] at h
    obtain ⟨_, _, q, hq, _⟩ := h
    have := eqL_length hq
    simp [this]
theorem eqL_split : ∀ (k1 : List Nat) {k2 : List Nat} {a b : List Value} {r : Bool}, eqL (k1 ++ k2) a b = some r →
    ∃ r1 r2, eqL k1 (a.take k1.length) (b.take k1.length) = some r1 ∧ eqL k2 (a.drop k1.length) (b.drop k1.length) = some r2 ∧ r = (r1 && r2)
  | [], k2, a, b, r, h => ⟨true, r, by simp [eqL], by simpa using h, by simp⟩
  | k :: k1, k2, [], b, r, h => by simp [eqL] at h
  | k :: k1, k2, x :: a, [], r, h => by simp [eqL] at h
  | k :: k1, k2, x :: a, y :: b, r, h => by
    simp only [List.cons_append, eqL, Option.bind_eq_some_iff, Option.map_eq_some_iff] at h
    obtain ⟨r0, h0, q, hq, rfl⟩ := h
    obtain ⟨r1, r2, h1, h2, rfl⟩ := eqL_split k1 hq
    refine ⟨r0 && r1, r2, ?_, by simpa using h2, by rw [Bool.and_assoc]⟩
    simp [eqL, h0, h1]

section
variable {P : Program} {w : World}

theorem run_part (t : TypeId) (d : TypeDesc) (i : TypeInfo) (hd : P.underlying t = some d) (hi : P.info? t = some i) (cs : Array Value) (off k : Nat) (hk : k = if aggD d then i.size else 1) (h : off + k ≤ cs.size) :
    (part t cs off).run P w = .ok (shapeV (aggD d) ((cs.toList.drop off).take k)) w := by
  have ha := run_isAgg (w := w) t d hd
  have hz := run_sizeOf' (w := w) t i hi
  by_cases hagg : aggD d = true
  · rw [if_pos hagg] at hk
    subst hk
    rw [hagg] at ha
    simp [part, ha, hz, shapeV, hagg]
    apply Array.ext'
    simp [Array.toList_extract]
  · rw [if_neg hagg] at hk
    subst hk
    rw [Bool.eq_false_iff.2 hagg] at ha
    have hlt : off < cs.size := by omega
    simp [part, ha, shapeV, hagg, hlt]
    rw [List.drop_eq_getElem_cons (by simpa using hlt)]
    simp

theorem eqFields_run (D : Nat) (g : TypeId → Option (List Nat)) (hg : ∀ t k, g t = some k → (P.info? t).map (·.size) = some k.length → ∀ a b r, eqL k a b = some r → ∃ dsc, P.underlying t = some dsc ∧ (aggD dsc = false → k.length = 1) ∧ (Op.equalIn D t (shapeV (aggD dsc) a) (shapeV (aggD dsc) b)).run P w = .ok r w) :
    ∀ (fs : List Field) (off : Nat) (ks : List Nat), flatFs g (fun t => (P.info? t).map (·.size)) fs off = some ks → ∀ (xs ys : Array Value) (r : Bool), off ≤ xs.size → eqL ks (xs.toList.drop off) (ys.toList.drop off) = some r → off ≤ ys.size →
      (Op.eqFields D xs ys fs).run P w = .ok r w := by
  intro fs
  induction fs with
  | nil =>
    intro off ks h xs ys r _ he _
    obtain rfl : [] = ks := Option.some.inj h
    obtain ⟨h1, h2⟩ := eqL_length he
    have e1 : xs.toList.drop off = [] := List.eq_nil_of_length_eq_zero h1
    have e2 : ys.toList.drop off = [] := List.eq_nil_of_length_eq_zero h2
    rw [e1, e2] at he
    simp only [eqL, Option.some.injEq] at he
    subst he
    simp [Op.eqFields]
  | cons f fs ih =>
    intro off ks h xs ys r hox he hoy
    simp only [flatFs] at h
    split at h
    case isFalse => cases h
    rename_i hc
    obtain ⟨hname, rfl⟩ := hc
    simp only [Option.bind_eq_some_iff] at h
    obtain ⟨k, hk, h⟩ := h
    split at h
    case isFalse => cases h
    rename_i hsz
    simp only [Option.map_eq_some_iff] at h
    obtain ⟨l, hl, rfl⟩ := h
    obtain ⟨hxl, hyl⟩ := eqL_length he
    simp only [List.length_drop, Array.length_toList, List.length_append] at hxl hyl
    obtain ⟨r1, r2, he1, he2, rfl⟩ := eqL_split k he
    obtain ⟨dsc, hd, h1, hrun⟩ := hg f.type k hk hsz _ _ r1 he1
    obtain ⟨i, hi, hisz⟩ := Option.map_eq_some_iff.1 hsz
    have hkk : k.length = if aggD dsc then i.size else 1 := by
      split
      · exact hisz.symm
      · rename_i hn; exact h1 (Bool.eq_false_iff.2 hn)
    have hp1 := run_part (w := w) f.type dsc i hd hi xs f.offset k.length hkk (by omega)
    have hp2 := run_part (w := w) f.type dsc i hd hi ys f.offset k.length hkk (by omega)
    rw [Op.eqFields, if_pos hname]
    simp only [Sem.run_bind, hp1, hp2, hrun, Result.andThen_ok]
    cases r1 with
    | false => simp
    | true =>
      simp only [Bool.not_true, Bool.false_eq_true, if_false, Bool.true_and]
      refine ih (f.offset + k.length) l hl xs ys r2 (by omega) ?_ (by omega)
      simpa [List.drop_drop] using he2

def eqElems (D : Nat) (e : TypeId) (n : Nat) (xs ys : Array Value) : List Nat → Sem Bool
  | [] => pure true
  | j :: js => do
    let a ← part e xs (j * n)
    let b ← part e ys (j * n)
    let r ← Op.equalIn D e a b
    if (!r) = true then pure false else eqElems D e n xs ys js

theorem run_equalIn_elems (d : Nat) (t : TypeId) (n : Nat) (e : TypeId) (i : TypeInfo) (xs ys : Array Value) (ht : P.underlying t = some (.array n e)) (hi : P.info? e = some i) :
    (Op.equalIn (d + 1) t (.agg xs) (.agg ys)).run P w = (eqElems d e i.size xs ys (List.range' 0 n)).run P w := by
  have hz := run_sizeOf' (w := w) e i hi
  simp only [Op.equalIn, Sem.run_bind, run_underlying ht, Result.andThen_ok, hz]
  rw [Std.Legacy.Range.forIn_eq_forIn_range']
  simp only [Std.Legacy.Range.size, Nat.sub_zero, Nat.add_sub_cancel, Nat.div_one]
  generalize List.range' 0 n = js
  clear hz
  induction js generalizing w with
  | nil => simp [eqElems]
  | cons j js ih =>
    simp only [List.forIn_cons, eqElems, Sem.run_bind, Sem.run_ite]
    generalize (part e xs (j * i.size)).run P w = r1
    cases r1 with
    | ok a w1 =>
      simp only [Result.andThen_ok]
      generalize (part e ys (j * i.size)).run P w1 = r2
      cases r2 with
      | ok b w2 =>
        simp only [Result.andThen_ok]
        generalize (Op.equalIn d e a b).run P w2 = r3
        cases r3 with
        | ok r w3 =>
          cases r
          · simp only [Result.andThen_ok, Bool.not_false, if_true, Sem.run_pure]
          · simp only [Result.andThen_ok, Bool.not_true, Bool.false_eq_true, if_false, Sem.run_pure]
            exact ih
        | halt x w3 => simp [Result.andThen]
      | halt x w2 => simp [Result.andThen]
    | halt x w1 => simp [Result.andThen]

theorem eqElems_run (D : Nat) (e : TypeId) (i : TypeInfo) (hi : P.info? e = some i) (xs ys : Array Value) (k : List Nat) (hk : i.size = k.length) (de : TypeDesc) (hde : P.underlying e = some de) (h1 : aggD de = false → k.length = 1)
    (hrun : ∀ a b r, eqL k a b = some r → (Op.equalIn D e (shapeV (aggD de) a) (shapeV (aggD de) b)).run P w = .ok r w) :
    ∀ (m j : Nat) (r : Bool), j * k.length ≤ xs.size → j * k.length ≤ ys.size → eqL (List.replicate m k).flatten (xs.toList.drop (j * k.length)) (ys.toList.drop (j * k.length)) = some r → (eqElems D e i.size xs ys (List.range' j m)).run P w = .ok r w := by
  have hkk : k.length = if aggD de then i.size else 1 := by
    split
    · exact hk.symm
    · rename_i hn; exact h1 (Bool.eq_false_iff.2 hn)
  intro m
  induction m with
  | zero =>
    intro j r _ _ h
    obtain ⟨h1, h2⟩ := eqL_length h
    have e1 : xs.toList.drop (j * k.length) = [] := List.eq_nil_of_length_eq_zero (by simpa using h1)
    have e2 : ys.toList.drop (j * k.length) = [] := List.eq_nil_of_length_eq_zero (by simpa using h2)
    rw [e1, e2] at h
    simp [eqL] at h
    subst h
    simp [eqElems]
  | succ m ih =>
    intro j r hx hy h
    rw [List.replicate_succ, List.flatten_cons] at h
    obtain ⟨hxl, hyl⟩ := eqL_length h
    simp only [List.length_drop, Array.length_toList, List.length_append] at hxl hyl
    obtain ⟨r1, r2, he1, he2, rfl⟩ := eqL_split k h
    have hp1 := run_part (w := w) e de i hde hi xs (j * k.length) k.length hkk (by omega)
    have hp2 := run_part (w := w) e de i hde hi ys (j * k.length) k.length hkk (by omega)
    rw [List.range'_succ, eqElems]
    rw [← hk] at hp1 hp2
    rw [← hk] at he1
    simp only [Sem.run_bind, hp1, hp2, hrun _ _ _ he1, Result.andThen_ok]
    cases r1 with
    | false => simp
    | true =>
      simp only [Bool.not_true, Bool.false_eq_true, if_false, Bool.true_and]
      refine ih (j + 1) r2 (by rw [Nat.add_mul]; omega) (by rw [Nat.add_mul]; omega) ?_
      rw [Nat.add_mul, Nat.one_mul]
      simpa [List.drop_drop] using he2

/-- Go's equality of two values without addresses. -/
theorem flat_eq : ∀ (d : Nat) (t : TypeId) (ks : List Nat), flatT P d t = some ks → ∀ (D : Nat), d ≤ D → ∀ a b r, eqL ks a b = some r →
    ∃ dsc, P.underlying t = some dsc ∧ (aggD dsc = false → ks.length = 1) ∧ (Op.equalIn D t (shapeV (aggD dsc) a) (shapeV (aggD dsc) b)).run P w = .ok r w := by
  intro d
  induction d with
  | zero => intro t ks h; cases h
  | succ d ih =>
    intro t ks h D hD a b r he
    obtain ⟨D, rfl⟩ : ∃ D', D = D' + 1 := ⟨D - 1, by omega⟩
    rw [flatT] at h
    split at h
    · rename_i hu
      obtain rfl := Option.some.inj h
      refine ⟨_, hu, fun _ => rfl, ?_⟩
      obtain ⟨hl1, hl2⟩ := eqL_length he
      obtain ⟨x, rfl⟩ := List.length_eq_one_iff.1 hl1
      obtain ⟨y, rfl⟩ := List.length_eq_one_iff.1 hl2
      simp only [eqL, Option.bind_eq_some_iff, Option.map_some, Option.some.injEq] at he
      obtain ⟨q, hq, rfl⟩ := he
      unfold eq1 at hq
      split at hq <;> simp at *
      subst hq
      simpa [shapeV, aggD] using run_equalIn_bool' w D t _ _ hu
    · rename_i k0 hu
      obtain rfl := Option.some.inj h
      refine ⟨_, hu, fun _ => rfl, ?_⟩
      obtain ⟨hl1, hl2⟩ := eqL_length he
      obtain ⟨x, rfl⟩ := List.length_eq_one_iff.1 hl1
      obtain ⟨y, rfl⟩ := List.length_eq_one_iff.1 hl2
      simp only [eqL, Option.bind_eq_some_iff, Option.map_some, Option.some.injEq] at he
      obtain ⟨q, hq, rfl⟩ := he
      unfold eq1 at hq
      split at hq <;> simp at *
      obtain ⟨rfl, rfl⟩ := hq
      simpa [shapeV, aggD] using run_equalIn_int w D t _ _ _ _ hu
    · rename_i hu
      obtain rfl := Option.some.inj h
      refine ⟨_, hu, fun _ => rfl, ?_⟩
      obtain ⟨hl1, hl2⟩ := eqL_length he
      obtain ⟨x, rfl⟩ := List.length_eq_one_iff.1 hl1
      obtain ⟨y, rfl⟩ := List.length_eq_one_iff.1 hl2
      simp only [eqL, Option.bind_eq_some_iff, Option.map_some, Option.some.injEq] at he
      obtain ⟨q, hq, rfl⟩ := he
      unfold eq1 at hq
      split at hq <;> simp at *
      subst hq
      simpa [shapeV, aggD] using run_equalIn_string w D t _ _ hu
    · rename_i fs hu
      split at h
      · cases h
      rename_i hst
      refine ⟨_, hu, (fun x => by cases x), ?_⟩
      have hfo : P.fieldsOf t = fs := by simp [Program.fieldsOf, hu]
      have hs := run_equalIn_struct w D t a.toArray b.toArray (by rw [hfo]; exact hu) (by simpa using hst)
      simp only [shapeV, aggD, if_true]
      rw [hs, hfo]
      exact eqFields_run D (flatT P d) (fun t k hk _ a b r he => ih t k hk D (by omega) a b r he) fs.toList 0 ks h a.toArray b.toArray r (Nat.zero_le _) (by simpa using he) (Nat.zero_le _)
    · rename_i n e hu
      simp only [Option.bind_eq_some_iff] at h
      obtain ⟨k, hk, h⟩ := h
      split at h
      case isFalse => cases h
      rename_i hsz
      obtain rfl := Option.some.inj h
      refine ⟨_, hu, (fun x => by cases x), ?_⟩
      obtain ⟨i, hi, hisz⟩ := Option.map_eq_some_iff.1 hsz
      simp only [shapeV, aggD, if_true]
      rw [run_equalIn_elems D t n e i _ _ hu hi]
      cases n with
      | zero =>
        simp only [List.replicate_zero, List.flatten_nil] at he
        obtain ⟨h1, h2⟩ := eqL_length he
        obtain rfl : a = [] := List.eq_nil_of_length_eq_zero (by simpa using h1)
        obtain rfl : b = [] := List.eq_nil_of_length_eq_zero (by simpa using h2)
        simp [eqL] at he
        subst he
        simp [eqElems]
      | succ n =>
        have he0 := he
        rw [List.replicate_succ, List.flatten_cons] at he0
        obtain ⟨r1, _, h1, _, _⟩ := eqL_split k he0
        obtain ⟨de, hde, hone, _⟩ := ih e k hk D (by omega) _ _ _ h1
        refine eqElems_run D e i hi a.toArray b.toArray k hisz de hde hone (fun a b r hab => ?_) (n + 1) 0 r (by simp) (by simp) (by simpa using he)
        obtain ⟨de', hde', _, hrun⟩ := ih e k hk D (by omega) a b r hab
        rw [hde] at hde'
        obtain rfl := Option.some.inj hde'
        exact hrun
    · cases h
end
end Go.Proofs.YtofjnhdgkhfgnaaDoor

/- Maps and walks through strings: the model's operations do what the abstract machine's do. -/
import Derived.Test.YtofjnhdgkhfgnaaDoorMi
import Derived.MapKept
import Derived.WideKeyRuns
set_option linter.unusedVariables false
namespace Go.Proofs.YtofjnhdgkhfgnaaDoor
open Go Go.RowKit

section
variable {P : Program} {B : Nat} {φ : Emb} {S : St} {w : World}

theorem flatFs_le {g g' : TypeId → Option (List Nat)} {sz : TypeId → Option Nat} (hg : ∀ t k, g t = some k → g' t = some k) : ∀ (fs : List Field) (off : Nat) (ks : List Nat), flatFs g sz fs off = some ks → flatFs g' sz fs off = some ks := by
  intro fs
  induction fs with
  | nil => intro off ks h; exact h
  | cons f fs ih =>
    intro off ks h
    simp only [flatFs] at h ⊢
    split at h
    · rename_i hc
      rw [if_pos hc]
      simp only [Option.bind_eq_some_iff] at h ⊢
      obtain ⟨k, hk, h⟩ := h
      refine ⟨k, hg _ _ hk, ?_⟩
      split at h
      · rename_i hs
        rw [if_pos hs]
        simp only [Option.map_eq_some_iff] at h ⊢
        obtain ⟨l, hl, rfl⟩ := h
        exact ⟨l, ih _ _ hl, rfl⟩
      · cases h
    · cases h
theorem keyT_flat : ∀ (d : Nat) (t : TypeId) (ks : List Nat), keyT P d t = some ks → flatT P d t = some ks := by
  intro d
  induction d with
  | zero => intro t ks h; cases h
  | succ d ih =>
    intro t ks h
    rw [keyT] at h
    rw [flatT]
    split at h
    · rename_i hu; simp only [hu]; exact h
    · rename_i hu; simp only [hu]; exact h
    · rename_i hu; simp only [hu]; exact h
    · rename_i fs hu
      simp only [hu]
      split at h
      · cases h
      · rename_i hst
        rw [if_neg hst]
        exact flatFs_le ih _ _ _ h
    · cases h

/-- the test of a struct's fields as keys, field by field. -/
def chkFields (em : Bool) (n : Nat) (xs : Array Value) : List Field → Sem Unit
  | [] => pure ()
  | f :: fs => do
    if f.name ≠ "_" then
      Instr.checkKey em n f.type (← part f.type xs f.offset)
    chkFields em n xs fs
theorem run_checkKey_struct (em : Bool) (n : Nat) (t : TypeId) (fs : Array Field) (xs : Array Value) (ht : P.underlying t = some (.struct fs)) :
    (Instr.checkKey em (n + 1) t (.agg xs)).run P w = (chkFields em n xs fs.toList).run P w := by
  simp only [Instr.checkKey, Sem.run_bind, run_underlying ht, Result.andThen_ok]
  rw [← Array.forIn_toList]
  generalize fs.toList = l
  clear ht
  induction l generalizing w with
  | nil => simp [chkFields]
  | cons f l ih =>
    simp only [List.forIn_cons, chkFields, Sem.run_bind, Sem.run_ite]
    split
    · generalize (part f.type xs f.offset).run P w = r1
      cases r1 with
      | ok a w1 =>
        simp only [Result.andThen_ok]
        generalize (Instr.checkKey em n f.type a).run P w1 = r2
        cases r2 with
        | ok b w2 =>
          simp only [Result.andThen_ok, Sem.run_pure]
          exact ih
        | halt x w2 => simp [Result.andThen]
      | halt x w1 => simp [Result.andThen]
    · simp only [Sem.run_pure, Result.andThen_ok]
      exact ih
theorem chkFields_run (em : Bool) (n : Nat) (g : TypeId → Option (List Nat)) (hg : ∀ t k, g t = some k → ∀ a : List Value, a.length = k.length → ∃ dsc, P.underlying t = some dsc ∧ (aggD dsc = false → k.length = 1) ∧ (Instr.checkKey em n t (shapeV (aggD dsc) a)).run P w = .ok () w) :
    ∀ (fs : List Field) (off : Nat) (ks : List Nat), flatFs g (fun t => (P.info? t).map (·.size)) fs off = some ks → ∀ (xs : Array Value), off + ks.length = xs.size → (chkFields em n xs fs).run P w = .ok () w := by
  intro fs
  induction fs with
  | nil => intro off ks h xs _; simp [chkFields]
  | cons f fs ih =>
    intro off ks h xs hx
    simp only [flatFs] at h
    split at h
    case isFalse => cases h
    rename_i hc
    obtain ⟨hname, rfl⟩ := hc
    simp only [Option.bind_eq_some_iff] at h
    obtain ⟨k, hk, h⟩ := h
    split at h
    case isFalse => cases h
    rename_i hsz
    simp only [Option.map_eq_some_iff] at h
    obtain ⟨l, hl, rfl⟩ := h
    rw [List.length_append] at hx
    obtain ⟨dsc, hd, h1, hrun⟩ := hg f.type k hk ((xs.toList.drop f.offset).take k.length) (by simp; omega)
    obtain ⟨i, hi, hisz⟩ := Option.map_eq_some_iff.1 hsz
    have hkk : k.length = if aggD dsc then i.size else 1 := by
      split
      · exact hisz.symm
      · rename_i hn; exact h1 (Bool.eq_false_iff.2 hn)
    have hp1 := run_part (w := w) f.type dsc i hd hi xs f.offset k.length hkk (by omega)
    rw [chkFields, if_pos hname]
    simp only [Sem.run_bind, hp1, hrun, Result.andThen_ok]
    exact ih (f.offset + k.length) l hl xs (by omega)
theorem checkKey_run (em : Bool) : ∀ (d : Nat) (t : TypeId) (ks : List Nat), keyT P d t = some ks → ∀ (D : Nat), d ≤ D → ∀ a : List Value, a.length = ks.length → ∃ dsc, P.underlying t = some dsc ∧ (aggD dsc = false → ks.length = 1) ∧ (Instr.checkKey em D t (shapeV (aggD dsc) a)).run P w = .ok () w := by
  intro d
  induction d with
  | zero => intro t ks h; cases h
  | succ d ih =>
    intro t ks h D hD a ha
    obtain ⟨D, rfl⟩ : ∃ D', D = D' + 1 := ⟨D - 1, by omega⟩
    rw [keyT] at h
    split at h
    · rename_i hu
      refine ⟨_, hu, fun _ => by rw [← Option.some.inj h]; rfl, ?_⟩
      simp [Instr.checkKey, run_underlying hu]
    · rename_i k0 hu
      refine ⟨_, hu, fun _ => by rw [← Option.some.inj h]; rfl, ?_⟩
      simp [Instr.checkKey, run_underlying hu]
    · rename_i hu
      refine ⟨_, hu, fun _ => by rw [← Option.some.inj h]; rfl, ?_⟩
      simp [Instr.checkKey, run_underlying hu]
    · rename_i fs hu
      split at h
      · cases h
      refine ⟨_, hu, (fun x => by cases x), ?_⟩
      simp only [shapeV, aggD, if_true]
      rw [run_checkKey_struct em D t fs a.toArray hu]
      exact chkFields_run em D (keyT P d) (fun t k hk a ha => ih t k hk D (by omega) a ha) fs.toList 0 ks h a.toArray (by simp [ha])
    · cases h

/-- a key on both sides. -/
theorem keyC_rel {agg : Bool} {k k' : Value} {c : List Value} (h : keyC agg k = some c) (hr : Rel φ k k') : ∃ c', RelL φ c c' ∧ k' = shapeV agg c' := by
  unfold keyC at h
  split at h
  · rename_i a
    obtain rfl := Option.some.inj h
    cases hr with
    | agg a a' ha h1 => exact ⟨a'.toList, (show RelA φ a a' from ⟨ha, h1⟩).toL, by simp [shapeV]⟩
  · cases h
  · cases h
  · obtain rfl := Option.some.inj h
    exact ⟨[k'], RelL.cons hr (RelL.nil φ), by simp [shapeV]⟩
theorem keyC_one {agg : Bool} {k : Value} {c : List Value} (h : keyC agg k = some c) : k = shapeV agg c := by
  unfold keyC at h
  split at h
  · obtain rfl := Option.some.inj h; simp [shapeV]
  · cases h
  · cases h
  · obtain rfl := Option.some.inj h; simp [shapeV]

theorem eq1_same {k : Nat} {a b : Value} (h : eq1 k a b = some true) (n : Nat) : Instr.sameBits n a b = true := by
  unfold eq1 at h
  split at h
  · simp at h; subst h; cases n <;> simp [Instr.sameBits]
  · split at h
    · rename_i e; subst e; simp at h; subst h; cases n <;> simp [Instr.sameBits]
    · cases h
  · rename_i x y
    simp only [Option.some.injEq] at h
    rw [← beq_toListBytes] at h
    cases n <;> simpa [Instr.sameBits] using h
  · cases h
theorem eqL_same {ks : List Nat} : ∀ {a b : List Value}, eqL ks a b = some true → ∀ n, (a.zip b).all (fun p => Instr.sameBits n p.1 p.2) = true := by
  induction ks with
  | nil =>
    intro a b h n
    cases a <;> cases b <;> simp [eqL] at h ⊢
  | cons k ks ih =>
    intro a b h n
    cases a with
    | nil => simp
    | cons x a =>
      cases b with
      | nil => simp
      | cons y b =>
        simp only [eqL, Option.bind_eq_some_iff, Option.map_eq_some_iff, Bool.and_eq_true] at h
        obtain ⟨r, hr, q, hq, rfl, rfl⟩ := h
        simp only [List.zip_cons_cons, List.all_cons, Bool.and_eq_true]
        exact ⟨eq1_same hr n, ih hq n⟩
theorem same_key {ks : List Nat} {agg : Bool} {a b : List Value} (h : eqL ks a b = some true) (h1 : agg = false → ks.length = 1) (n : Nat) : Instr.sameBits (n + 1) (shapeV agg a) (shapeV agg b) = true := by
  obtain ⟨l1, l2⟩ := eqL_length h
  cases agg with
  | true =>
    simp only [shapeV, if_true, Instr.sameBits, Bool.and_eq_true]
    refine ⟨by simp [l1, l2], ?_⟩
    have := eqL_same h n
    simpa using this
  | false =>
    obtain ⟨x, rfl⟩ := List.length_eq_one_iff.1 (l1.trans (h1 rfl))
    obtain ⟨y, rfl⟩ := List.length_eq_one_iff.1 (l2.trans (h1 rfl))
    have := eqL_same h (n + 1)
    simpa [shapeV] using this

/-- what a search finds on both sides. -/
def FindR (φ : Emb) : Option (Nat × Value) → Option (Nat × Value) → Prop
  | none, none => True
  | some (i, v), some (j, v') => i = j ∧ Rel φ v v'
  | _, _ => False
theorem EntsR.tail {e : Value × Value × Nat} {e' : MapEntry} {es : List (Value × Value × Nat)} {es' : List MapEntry} (h : EntsR φ (e :: es) (e' :: es')) : EntR φ e e' ∧ EntsR φ es es' :=
  ⟨h.2 0 (by simp) (by simp), by simpa using h.1, fun i h1 h2 => by
    have := h.2 (i + 1) (by simpa using h1) (by simpa using h2)
    simp only [List.getElem_cons_succ] at this
    exact this⟩
theorem findAsking_run {t : TypeId} {ks : List Nat} {dsc : TypeDesc} (hk : keyT P 20 t = some ks) (hd : P.underlying t = some dsc) {c c' : List Value} (hc : RelL φ c c') :
    ∀ (es : List (Value × Value × Nat)) (es' : List MapEntry) (i : Nat) (r : Option (Nat × Value)), EntsR φ es es' → xfind ks (aggD dsc) c es i = some r → ∃ r', (Instr.findAsking t (shapeV (aggD dsc) c') es' i).run P w = .ok r' w ∧ FindR φ r r' := by
  intro es
  induction es with
  | nil =>
    intro es' i r he h
    obtain rfl : es' = [] := List.eq_nil_of_length_eq_zero he.1.symm
    obtain rfl := Option.some.inj h
    exact ⟨none, by simp [Instr.findAsking], trivial⟩
  | cons e es ih =>
    intro es' i r he h
    cases es' with
    | nil => have := he.1; simp at this
    | cons e' es' =>
      obtain ⟨h1, h2⟩ := he.tail
      simp only [xfind, Option.bind_eq_some_iff] at h
      obtain ⟨ce, hce, q, hq, h⟩ := h
      obtain ⟨ce', hr, hke⟩ := keyC_rel hce h1.1
      obtain ⟨rfl, rfl⟩ := eqL_flat hq φ hc hr
      obtain ⟨dsc', hd', _, hrun⟩ := flat_eq (w := w) 20 t ks (keyT_flat 20 t ks hk) 10000 (by decide) _ _ q hq
      rw [hd] at hd'
      obtain rfl := Option.some.inj hd'
      have hrun' : (Op.equal t (shapeV (aggD dsc) c') e'.key).run P w = .ok q w := by rw [hke]; exact hrun
      simp only [Instr.findAsking, Sem.run_bind, hrun', Result.andThen_ok, Sem.run_ite]
      cases q with
      | true =>
        simp only [if_true] at h ⊢
        obtain rfl := Option.some.inj h
        exact ⟨some (i, e'.val), by simp, rfl, h1.2.1⟩
      | false =>
        simp only [Bool.false_eq_true, if_false] at h ⊢
        exact ih es' (i + 1) r h2 h
theorem findNow_run {ks : List Nat} {dsc : TypeDesc} (hd : (dsc = .bool ∧ ks = [0]) ∨ (∃ k, dsc = .int k ∧ ks = [1]) ∨ (dsc = .string ∧ ks = [2])) {c c' : List Value} (hc : RelL φ c c') :
    ∀ (es : List (Value × Value × Nat)) (es' : List MapEntry) (i : Nat) (r : Option (Nat × Value)), EntsR φ es es' → xfind ks false c es i = some r → ∃ r', Instr.findNow dsc (shapeV false c') es' i = some r' ∧ FindR φ r r' := by
  intro es
  induction es with
  | nil =>
    intro es' i r he h
    obtain rfl : es' = [] := List.eq_nil_of_length_eq_zero he.1.symm
    obtain rfl := Option.some.inj h
    exact ⟨none, by simp [Instr.findNow], trivial⟩
  | cons e es ih =>
    intro es' i r he h
    cases es' with
    | nil => have := he.1; simp at this
    | cons e' es' =>
      obtain ⟨h1, h2⟩ := he.tail
      simp only [xfind, Option.bind_eq_some_iff] at h
      obtain ⟨ce, hce, q, hq, h⟩ := h
      obtain ⟨ce', hr, hke⟩ := keyC_rel hce h1.1
      obtain ⟨rfl, rfl⟩ := eqL_flat hq φ hc hr
      have hnow : Instr.sameNow dsc (shapeV false c') e'.key = some q := by
        rw [hke]
        obtain ⟨l1, l2⟩ := eqL_length hq
        rcases hd with ⟨rfl, rfl⟩ | ⟨k, rfl, rfl⟩ | ⟨rfl, rfl⟩
        all_goals
          obtain ⟨x, rfl⟩ := List.length_eq_one_iff.1 l1
          obtain ⟨y, rfl⟩ := List.length_eq_one_iff.1 l2
          simp only [eqL, Option.bind_eq_some_iff, Option.map_some, Option.some.injEq, Bool.and_true, exists_eq_right] at hq
          unfold eq1 at hq
          split at hq <;> simp_all [shapeV, Instr.sameNow, beq_toListBytes]
      simp only [Instr.findNow, hnow]
      cases q with
      | true =>
        simp only [if_true] at h
        obtain rfl := Option.some.inj h
        exact ⟨some (i, e'.val), rfl, rfl, h1.2.1⟩
      | false =>
        simp only [Bool.false_eq_true, if_false] at h
        exact ih es' (i + 1) r h2 h
theorem findKey_run {t : TypeId} {ks : List Nat} {dsc : TypeDesc} (hk : keyT P 20 t = some ks) (hd : P.underlying t = some dsc) {c c' : List Value} (hc : RelL φ c c')
    {es : List (Value × Value × Nat)} {es' : List MapEntry} {r : Option (Nat × Value)} (he : EntsR φ es es') (h : xfind ks (aggD dsc) c es 0 = some r) : ∃ r', (Instr.findKey t (shapeV (aggD dsc) c') es').run P w = .ok r' w ∧ FindR φ r r' := by
  have hk0 := hk
  rw [keyT] at hk
  split at hk
  · rename_i hu
    rw [hd] at hu
    obtain rfl := Option.some.inj hu
    obtain ⟨r', h1, h2⟩ := findNow_run (.inl ⟨rfl, (Option.some.inj hk).symm⟩) hc es es' 0 r he h
    exact ⟨r', MapKept.run_findKey hd h1, h2⟩
  · rename_i hu
    rw [hd] at hu
    obtain rfl := Option.some.inj hu
    obtain ⟨r', h1, h2⟩ := findNow_run (.inr (.inl ⟨_, rfl, (Option.some.inj hk).symm⟩)) hc es es' 0 r he h
    exact ⟨r', MapKept.run_findKey hd h1, h2⟩
  · rename_i hu
    rw [hd] at hu
    obtain rfl := Option.some.inj hu
    obtain ⟨r', h1, h2⟩ := findNow_run (.inr (.inr ⟨rfl, (Option.some.inj hk).symm⟩)) hc es es' 0 r he h
    exact ⟨r', MapKept.run_findKey hd h1, h2⟩
  · rename_i hu
    obtain ⟨r', h1, h2⟩ := findAsking_run (w := w) hk0 hd hc es es' 0 r he h
    exact ⟨r', by rw [run_findKey_eq w (by rw [hu])]; exact h1, h2⟩
  · cases hk

theorem eq1_eq {k : Nat} {a b : Value} (h : eq1 k a b = some true) : a = b := by
  unfold eq1 at h
  split at h
  · simp at h; subst h; rfl
  · split at h
    · rename_i e; subst e; simp at h; subst h; rfl
    · cases h
  · rename_i x y
    simp only [Option.some.injEq] at h
    rw [← beq_toListBytes] at h
    obtain ⟨x⟩ := x
    obtain ⟨y⟩ := y
    have h2 : (x == y) = true := h
    rw [eq_of_beq h2]
  · cases h
theorem eqL_eq {ks : List Nat} : ∀ {a b : List Value}, eqL ks a b = some true → a = b := by
  induction ks with
  | nil =>
    intro a b h
    cases a <;> cases b <;> simp [eqL] at h ⊢
  | cons k ks ih =>
    intro a b h
    cases a with
    | nil => simp [eqL] at h
    | cons x a =>
      cases b with
      | nil => simp [eqL] at h
      | cons y b =>
        simp only [eqL, Option.bind_eq_some_iff, Option.map_eq_some_iff, Bool.and_eq_true] at h
        obtain ⟨r, hr, q, hq, rfl, rfl⟩ := h
        rw [eq1_eq hr, ih hq]
theorem xfind_at {ks : List Nat} {agg : Bool} {c : List Value} : ∀ {es : List (Value × Value × Nat)} {i0 i : Nat} {v : Value}, xfind ks agg c es i0 = some (some (i, v)) → i0 ≤ i ∧ ∃ (h : i - i0 < es.length) (ce : List Value), keyC agg es[i - i0].1 = some ce ∧ eqL ks c ce = some true ∧ es[i - i0].2.1 = v := by
  intro es
  induction es with
  | nil => intro i0 i v h; simp [xfind] at h
  | cons e es ih =>
    intro i0 i v h
    simp only [xfind, Option.bind_eq_some_iff] at h
    obtain ⟨ce, hce, q, hq, h⟩ := h
    cases q with
    | true =>
      simp only [if_true, Option.some.injEq, Prod.mk.injEq] at h
      obtain ⟨rfl, rfl⟩ := h
      exact ⟨Nat.le_refl _, by simp, ce, by simpa using hce, hq, by simp⟩
    | false =>
      simp only [Bool.false_eq_true, if_false] at h
      obtain ⟨h1, h2, ce2, h3, h4, h5⟩ := ih h
      have e1 : i - i0 = (i - (i0 + 1)) + 1 := by omega
      exact ⟨by omega, by simp; omega, ce2, by simpa only [e1, List.getElem_cons_succ] using h3, h4, by simpa only [e1, List.getElem_cons_succ] using h5⟩

theorem Tr.set_set {α : Type} (a b : α) : ∀ (f n : Nat) (t : Tr α), Tr.set f (Tr.set f t n a) n b = Tr.set f t n b := by
  intro f
  induction f with
  | zero => intro n t; simp [Tr.set, Tr.left, Tr.right]
  | succ f ih =>
    intro n t
    simp only [Tr.set]
    split
    · rename_i h; simp [Tr.left, Tr.right]
    · split
      · simp [Tr.left, Tr.right, Tr.top, ih]
      · simp [Tr.left, Tr.right, Tr.top, ih]
theorem St.put_put (S : St) (id : Nat) (a b : Blk) : (S.put id a).put id b = S.put id b := by
  unfold St.put
  simp only [Tr.set_set]

/-- an object is turned in its place. -/
theorem Sim.objPut (hs : Sim B φ S w) {id : Nat} {s : Spot} {o o' : AObj} {r' : Obj} (e : φ id = some s) (e2 : S.get id = .obj o) (hr : ObjR φ o' r') : Sim B φ (S.put id (.obj o')) (w.putObj s.b r') ∧ Keep B φ S w φ (S.put id (.obj o')) (w.putObj s.b r') := by
  obtain ⟨a1, ⟨r, a2, a3⟩, _⟩ := hs.loops.2 id s o e e2
  obtain ⟨g1, g2, g3⟩ := hs.objGone e e2
  have k1 := g1.objBack e a2 a3.noRow g3 a1 hr
  have k2 := (g2.setBlk e (wr_obj e2) (.obj o')).putObj e (wr_obj e2) r'
  rw [St.put_put] at k1 k2
  exact ⟨k1, k2⟩

theorem EntsR.get? {es : List (Value × Value × Nat)} {es' : List MapEntry} (h : EntsR φ es es') (i : Nat) (hi : i < es.length) : ∃ hi' : i < es'.length, EntR φ es[i] es'[i] := ⟨by rw [← h.1]; exact hi, h.2 i hi (by rw [← h.1]; exact hi)⟩
theorem EntsR.modify {es : List (Value × Value × Nat)} {es' : List MapEntry} (h : EntsR φ es es') (i : Nat) {fa : Value × Value × Nat → Value × Value × Nat} {fb : MapEntry → MapEntry} (hf : ∀ e e', EntR φ e e' → EntR φ (fa e) (fb e')) : EntsR φ (es.modify i fa) (es'.modify i fb) := by
  refine ⟨by simp [h.1], fun j h1 h2 => ?_⟩
  rw [List.getElem_modify, List.getElem_modify]
  have := h.2 j (by simpa using h1) (by simpa using h2)
  split
  · exact hf _ _ this
  · exact this
theorem EntsR.push {es : List (Value × Value × Nat)} {es' : List MapEntry} (h : EntsR φ es es') {e : Value × Value × Nat} {e' : MapEntry} (he : EntR φ e e') : EntsR φ (es ++ [e]) (es' ++ [e']) := by
  have hl := h.1
  refine ⟨by simp [h.1], fun j h1 h2 => ?_⟩
  by_cases hj : j < es.length
  · rw [List.getElem_append_left hj, List.getElem_append_left (by omega)]
    exact h.2 j _ _
  · rw [List.getElem_append_right (by omega), List.getElem_append_right (by omega)]
    have e1 : j - es.length = 0 := by simp at h1; omega
    have e2 : j - es'.length = 0 := by omega
    simp only [e1, e2, List.getElem_cons_zero]
    exact he
theorem EntsR.eraseIdx {es : List (Value × Value × Nat)} {es' : List MapEntry} (h : EntsR φ es es') (i : Nat) : EntsR φ (es.eraseIdx i) (es'.eraseIdx i) := by
  have hl := h.1
  refine ⟨by simp [List.length_eraseIdx, hl], fun j h1 h2 => ?_⟩
  rw [List.getElem_eraseIdx, List.getElem_eraseIdx]
  have g1 := List.length_eraseIdx_le es i
  have g2 : j + 1 < es.length ∨ j < i := by
    rw [List.length_eraseIdx] at h1
    split at h1 <;> omega
  split
  · exact h.2 j (by omega) (by omega)
  · exact h.2 (j + 1) (by omega) (by omega)

theorem trMapT_inv {t e : TypeId} {ks : List Nat} {agg : Bool} (h : trMapT P t = some (ks, agg, e)) : ∃ k d, P.underlying t = some (.map k e) ∧ keyT P 20 k = some ks ∧ P.underlying k = some d ∧ agg = aggD d := by
  unfold trMapT at h
  split at h
  · rename_i k e' hu
    simp only [Option.bind_eq_some_iff, Option.map_eq_some_iff, Prod.mk.injEq] at h
    obtain ⟨ks', h1, d, h2, rfl, rfl, rfl⟩ := h
    exact ⟨k, d, hu, h1, h2, rfl⟩
  · cases h
theorem trZero_inv {e : TypeId} {z : Value} (h : trZero P e = some z) : flatV z = true ∧ ∀ w, (zeroValue e).run P w = .ok z w := by
  unfold trZero at h
  simp only [Option.bind_eq_some_iff] at h
  obtain ⟨i, hi, z', hz, h⟩ := h
  split at h
  · rename_i hf
    obtain rfl := Option.some.inj h
    exact ⟨hf, fun w => by simp [zeroValue, typeInfo, hi, hz]⟩
  · cases h
theorem keyOf_inv {ks : List Nat} {agg : Bool} {k : Value} {c : List Value} (h : keyOf ks agg k = some c) : keyC agg k = some c ∧ c.length = ks.length := by
  unfold keyOf at h
  simp only [Option.bind_eq_some_iff] at h
  obtain ⟨c', h1, h2⟩ := h
  split at h2
  · rename_i hl
    obtain rfl := Option.some.inj h2
    exact ⟨h1, hl⟩
  · cases h2
theorem map_inv {id : Nat} {v' : Value} (h : Rel φ (.map (some id)) v') : ∃ s, φ id = some s ∧ v' = .map (some s.b) := by
  cases h with
  | map _ s hs => exact ⟨s, hs, rfl⟩
theorem mapNil_inv {v' : Value} (h : Rel φ (.map none) v') : v' = .map none := by cases h; rfl
/-- a map on both sides. -/
theorem Sim.mapAt (hs : Sim B φ S w) {id : Nat} {s : Spot} {es : List (Value × Value × Nat)} {cl : Nat} (e : φ id = some s) (e2 : S.get id = .obj (.map es cl)) : ∃ es' : Array MapEntry, w.heap[s.b]? = some (.map es' cl) ∧ EntsR φ es es'.toList := by
  obtain ⟨_, ⟨r, a2, es', rfl, a3⟩, _⟩ := hs.loops.2 id s _ e e2
  exact ⟨es', a2, a3⟩
theorem run_keyThatStays {a b : Value} (h : Instr.sameBits 10000 a b = true) : (Instr.keyThatStays a b).run P w = .ok b w := by simp [Instr.keyThatStays, h]

/-- a key is looked for on both sides. -/
theorem key_both (em : Bool) {k : TypeId} {d : TypeDesc} {ks : List Nat} (hk : keyT P 20 k = some ks) (hd : P.underlying k = some d) {x x' : Value} {c : List Value} (hc : keyOf ks (aggD d) x = some c) (hx : Rel φ x x') :
    ∃ c', RelL φ c c' ∧ x' = shapeV (aggD d) c' ∧ (aggD d = false → ks.length = 1) ∧ (Instr.checkKey em 10000 k x').run P w = .ok () w := by
  obtain ⟨h1, h2⟩ := keyOf_inv hc
  obtain ⟨c', h3, rfl⟩ := keyC_rel h1 hx
  obtain ⟨d', hd', h5, h4⟩ := checkKey_run (w := w) em 20 k ks hk 10000 (by decide) c' (by rw [← h3.1, h2])
  rw [hd] at hd'
  obtain rfl := Option.some.inj hd'
  exact ⟨c', h3, rfl, h5, h4⟩
/-- the key that stood there and the one that is looked for are alike. -/
theorem key_stays {d : TypeDesc} {ks : List Nat} {x x' : Value} {c c' : List Value} (hc : keyC (aggD d) x = some c) (hcl : RelL φ c c') (hx' : x' = shapeV (aggD d) c') (h1 : aggD d = false → ks.length = 1)
    {es : List (Value × Value × Nat)} {es' : List MapEntry} (he : EntsR φ es es') {i : Nat} {v : Value} (h : xfind ks (aggD d) c es 0 = some (some (i, v))) : ∃ hi : i < es'.length, Instr.sameBits 10000 es'[i].key x' = true ∧ ∃ hi2 : i < es.length, es[i].2.2 = es'[i].born ∧ EntR φ es[i] es'[i] := by
  obtain ⟨_, h2, ce, h3, h4, h5⟩ := xfind_at h
  simp only [Nat.sub_zero] at h2 h3 h5
  obtain ⟨hi', h6⟩ := he.get? i h2
  obtain ⟨ce', h7, h8⟩ := keyC_rel h3 h6.1
  obtain ⟨e1, e2⟩ := eqL_flat h4 φ hcl h7
  have h9 := eqL_eq h4
  subst e1 e2
  subst h9
  refine ⟨hi', ?_, h2, h6.2.2, h6⟩
  rw [h8, hx']
  exact same_key h4 h1 9999

theorem FindR.none_inv {r' : Option (Nat × Value)} (h : FindR φ none r') : r' = none := by
  cases r' with
  | none => rfl
  | some p => exact h.elim
theorem FindR.some_inv {i : Nat} {v : Value} {r' : Option (Nat × Value)} (h : FindR φ (some (i, v)) r') : ∃ v', r' = some (i, v') ∧ Rel φ v v' := by
  cases r' with
  | none => exact h.elim
  | some p => obtain ⟨rfl, h2⟩ := h; exact ⟨p.2, rfl, h2⟩
theorem lookRes_rel {z : Value} (hz : flatV z = true) (ok : Bool) {r r' : Option (Nat × Value)} (h : FindR φ r r') : Rel φ (lookRes z ok r) (lookRes z ok r') := by
  cases r with
  | none =>
    rw [h.none_inv]
    cases ok with
    | true => exact .tuple' ⟨rfl, fun i h1 h2 => by
        rcases i with _ | _ | i
        · exact flatV_rel hz φ
        · exact .bool _
        · simp at h1; omega⟩
    | false => exact flatV_rel hz φ
  | some p =>
    obtain ⟨v', rfl, hv⟩ := h.some_inv
    cases ok with
    | true => exact .tuple' ⟨rfl, fun i h1 h2 => by
        rcases i with _ | _ | i
        · exact hv
        · exact .bool _
        · simp at h1; omega⟩
    | false => exact hv

theorem lookup_sound (hs : Sim B φ S w) {t : TypeId} {ks : List Nat} {agg : Bool} {e : TypeId} {z : Value} (ht : trMapT P t = some (ks, agg, e)) (hz : trZero P e = some z) {ok : Bool} {x x' k k' v : Value} {S' : St} (hx : Rel φ x x') (hk : Rel φ k k') (h : xextra (.lookup ks agg z ok) [x, k] S = some (v, S')) :
    OutV P B φ S w (Instr.lookup t x' k' ok) v S' := by
  obtain ⟨kt, d, hu, h1, h2, rfl⟩ := trMapT_inv ht
  obtain ⟨hzf, hzr⟩ := trZero_inv hz
  simp only [xextra, Option.bind_eq_some_iff] at h
  obtain ⟨c, hc, h⟩ := h
  split at h
  · obtain ⟨rfl, rfl⟩ := Prod.mk.inj (Option.some.inj h)
    obtain rfl := mapNil_inv hx
    obtain ⟨c', _, _, _, h4⟩ := key_both (w := w) true h1 h2 hc hk
    refine OutV.same hs ?_ (lookRes_rel hzf ok (r := none) (r' := none) trivial)
    have hf : (Instr.findKey kt k' []).run P w = .ok none w := by
      cases d <;> simp [Instr.findKey, run_underlying h2, Instr.findNow]
    have h4' : (Instr.checkKey true 10000 kt k').run P w = .ok () w := h4
    simp [Instr.lookup, run_underlying hu, h4', hf, hzr, lookRes]
  · rename_i id
    obtain ⟨s, hs1, rfl⟩ := map_inv hx
    split at h
    case h_2 => cases h
    rename_i es cl hg
    simp only [Option.map_eq_some_iff, Prod.mk.injEq] at h
    obtain ⟨r, hr, rfl, rfl⟩ := h
    obtain ⟨es', g1, g2⟩ := hs.mapAt hs1 hg
    obtain ⟨c', h3, h4, _, h5⟩ := key_both (w := w) es'.isEmpty h1 h2 hc hk
    obtain ⟨r', h6, h7⟩ := findKey_run (w := w) h1 h2 h3 g2 hr
    rw [← h4] at h6
    refine OutV.same hs ?_ (lookRes_rel hzf ok h7)
    simp only [Instr.lookup, Sem.run_bind, run_underlying hu, Result.andThen_ok, MapKept.run_getObj_map g1, Sem.run_pure, h5, h6]
    cases r' with
    | none => cases ok <;> simp [hzr, lookRes]
    | some p => cases ok <;> simp [lookRes]
  · cases h

theorem xfind_tab {es : List MapEntry} {n : Int} (h : ∀ x ∈ es, ∃ n f, x.key = .int .i64 n ∧ x.val = .func (.func f) #[] #[] ∧ gTab.lookup n = some f) : ∀ i, (∃ j f, xfind [1] false [.int .i64 n] (es.map fun x => (x.key, x.val, x.born)) i = some (some (j, .func (.func f) #[] #[])) ∧ gTab.lookup n = some f) ∨ (xfind [1] false [.int .i64 n] (es.map fun x => (x.key, x.val, x.born)) i = some none ∧ ∀ x ∈ es, x.key ≠ .int .i64 n) := by
  induction es with
  | nil => exact fun i => .inr ⟨rfl, fun x hx => by simp at hx⟩
  | cons e es ih =>
    intro i
    obtain ⟨m, f, h1, h2, h3⟩ := h e (by simp)
    by_cases hm : n = m
    · subst hm
      exact .inl ⟨i, f, by simp [xfind, h1, h2, keyC, eqL, eq1], h3⟩
    · have hx : xfind [1] false [.int .i64 n] ((e :: es).map fun x => (x.key, x.val, x.born)) i = xfind [1] false [.int .i64 n] (es.map fun x => (x.key, x.val, x.born)) (i + 1) := by
        simp [xfind, h1, keyC, eqL, eq1, hm]
      rw [hx]
      rcases ih (fun x hx => h x (by simp [hx])) (i + 1) with g | ⟨g1, g2⟩
      · exact .inl g
      · refine .inr ⟨g1, fun x hx => ?_⟩
        rcases List.mem_cons.1 hx with rfl | hx
        · rw [h1]; intro e; injection e with _ e; exact hm e.symm
        · exact g2 x hx
theorem lookG_sound (hs : Sim B φ S w) {t : TypeId} {z : Value} (ht : trLookG P t = some z) {ok : Bool} {x x' k k' v : Value} {S' : St} (hx : Rel φ x x') (hk : Rel φ k k') (h : xextra (.lookG z ok) [x, k] S = some (v, S')) :
    OutV P B φ S w (Instr.lookup t x' k' ok) v S' := by
  unfold trLookG at ht
  split at ht
  case h_2 => cases ht
  rename_i kt e hu
  split at ht
  case h_2 => cases ht
  rename_i hki
  obtain ⟨hzf, hzr⟩ := trZero_inv ht
  have hinv : ∃ n, x = .chan (some 0) ∧ k = .int .i64 n ∧ gOn = true ∧ v = lookRes z ok ((gTab.lookup n).map fun f => (0, .func (.func f) #[] #[])) ∧ S' = S := by
    simp only [xextra] at h
    split at h
    all_goals first | (cases h; done) | contradiction | skip
    rename_i n e1 e2
    obtain ⟨rfl, rfl⟩ := EOp.lookG.inj e1
    simp only [List.cons.injEq, and_true] at e2
    obtain ⟨rfl, rfl⟩ := e2
    split at h
    · rename_i hg
      obtain ⟨rfl, rfl⟩ := Prod.mk.inj (Option.some.inj h)
      exact ⟨_, rfl, rfl, hg, rfl, rfl⟩
    · cases h
  obtain ⟨n, rfl, rfl, hg, rfl, rfl⟩ := hinv
  obtain ⟨b, hb, rfl⟩ : ∃ b, φ.tab = some b ∧ x' = .map (some b) := by
    cases hx with
    | tab b h => exact ⟨b, h, rfl⟩
  obtain ⟨b', t1, t2, t3, _, es', cl, t5, t6, t7⟩ := hs.loops.1 hg
  rw [hb] at t1
  obtain rfl := Option.some.inj t1
  have hkT : keyT P 20 kt = some [1] := by simp [keyT, hki]
  have hkO : keyOf [1] (aggD (.int .i64)) (.int .i64 n) = some [.int .i64 n] := by simp [keyOf, keyC, aggD]
  obtain ⟨c', h3, h4, _, h5⟩ := key_both (w := w) es'.isEmpty hkT hki hkO hk
  have hE : EntsR φ (es'.toList.map fun x => (x.key, x.val, x.born)) es'.toList := by
    refine ⟨by simp, fun i h1 h2 => ?_⟩
    obtain ⟨m, f, g1, g2, _⟩ := t6 es'.toList[i] (List.getElem_mem h2)
    rw [List.getElem_map]
    refine ⟨?_, ?_, rfl⟩
    · rw [g1]; exact .int _ _
    · rw [g2]; exact .func' ⟨rfl, fun i h => by simp at h⟩ ⟨rfl, fun i h => by simp at h⟩
  have hfin : ∀ r, xfind [1] (aggD (.int .i64)) [.int .i64 n] (es'.toList.map fun x => (x.key, x.val, x.born)) 0 = some r → r.map (·.2) = (gTab.lookup n).map (fun f => .func (.func f) #[] #[]) →
      OutV P B φ S' w (Instr.lookup t (.map (some b)) k' ok) (lookRes z ok ((gTab.lookup n).map fun f => (0, .func (.func f) #[] #[]))) S' := by
    intro r hr hrv
    obtain ⟨r', h6, h7⟩ := findKey_run (w := w) hkT hki h3 hE hr
    rw [← h4] at h6
    have hlook : lookRes z ok ((gTab.lookup n).map fun f => ((0 : Nat), (.func (.func f) #[] #[] : Value))) = lookRes z ok r := by
      unfold lookRes
      have e1 : ((gTab.lookup n).map fun f => ((0 : Nat), (.func (.func f) #[] #[] : Value))).map (·.2) = r.map (·.2) := by rw [hrv, Option.map_map]; rfl
      have e2 : ((gTab.lookup n).map fun f => ((0 : Nat), (.func (.func f) #[] #[] : Value))).isSome = r.isSome := by
        have := congrArg Option.isSome e1
        simpa using this
      rw [e1, e2]
    rw [hlook]
    refine OutV.same hs ?_ (lookRes_rel hzf ok h7)
    simp only [Instr.lookup, Sem.run_bind, run_underlying hu, Result.andThen_ok, MapKept.run_getObj_map t5, Sem.run_pure, h5, h6]
    cases r' with
    | none => cases ok <;> simp [hzr, lookRes]
    | some p => cases ok <;> simp [lookRes]
  rcases xfind_tab t6 (n := n) 0 with ⟨j, f, g1, g2⟩ | ⟨g1, g2⟩
  · exact hfin _ g1 (by rw [g2]; rfl)
  · refine hfin _ g1 ?_
    cases hl : gTab.lookup n with
    | none => rfl
    | some f => obtain ⟨x, hx1, hx2⟩ := t7 n f hl; exact absurd hx2 (g2 x hx1)

theorem mapSet_sound (hs : Sim B φ S w) {t : TypeId} {ks : List Nat} {agg : Bool} {e : TypeId} (ht : trMapT P t = some (ks, agg, e)) {x x' k k' u u' v : Value} {S' : St} (hx : Rel φ x x') (hk : Rel φ k k') (hu' : Rel φ u u') (h : xextra (.mapSet ks agg) [x, k, u] S = some (v, S')) :
    v = undef ∧ ∃ w', (Instr.mapUpdate t x' k' u').run P w = .ok () w' ∧ Sim B φ S' w' ∧ Keep B φ S w φ S' w' := by
  obtain ⟨kt, d, hu, h1, h2, rfl⟩ := trMapT_inv ht
  simp only [xextra, Option.bind_eq_some_iff] at h
  obtain ⟨c, hc, h⟩ := h
  split at h
  case h_2 => cases h
  rename_i id
  obtain ⟨s, hs1, rfl⟩ := map_inv hx
  split at h
  case h_2 => cases h
  rename_i es cl hg
  obtain ⟨es', g1, g2⟩ := hs.mapAt hs1 hg
  obtain ⟨c', h3, h4, h40, h5⟩ := key_both (w := w) false h1 h2 hc hk
  simp only [Option.map_eq_some_iff] at h
  obtain ⟨r, hr, h⟩ := h
  obtain ⟨r', h6, h7⟩ := findKey_run (w := w) h1 h2 h3 g2 hr
  rw [← h4] at h6
  cases r with
  | none =>
    obtain ⟨rfl, rfl⟩ := Prod.mk.inj h
    obtain rfl := h7.none_inv
    obtain ⟨k1, k2⟩ := hs.objPut (o' := .map (es ++ [(k, u, cl)]) (cl + 1)) (r' := .map (es'.push { key := k', val := u', born := cl }) (cl + 1)) hs1 hg ⟨_, rfl, by rw [Array.toList_push]; exact g2.push ⟨hk, hu', rfl⟩⟩
    refine ⟨rfl, _, ?_, k1, k2⟩
    simp only [Instr.mapUpdate, Sem.run_bind, run_underlying hu, Result.andThen_ok, MapKept.run_getObj_map g1, h5, h6, MapKept.run_setObj_map _ g1]
    rfl
  | some p =>
    obtain ⟨i, v0⟩ := p
    obtain ⟨rfl, rfl⟩ := Prod.mk.inj h
    obtain ⟨v1, rfl, _⟩ := h7.some_inv
    obtain ⟨hi, hsame, hi2, hborn, hent⟩ := key_stays (keyOf_inv hc).1 h3 h4 h40 g2 hr
    have hi' : i < es'.size := by simpa using hi
    obtain ⟨k1, k2⟩ := hs.objPut (o' := .map (es.modify i fun e => (k, u, e.2.2)) cl) (r' := .map (es'.modify i fun e => { e with key := k', val := u' }) cl) hs1 hg ⟨_, rfl, by
      rw [Array.toList_modify]
      exact g2.modify i fun e e' he => ⟨hk, hu', he.2.2⟩⟩
    refine ⟨rfl, _, ?_, k1, k2⟩
    have hold : ((es'[i]?).map (·.key)).getD k' = es'.toList[i].key := by rw [Array.getElem?_eq_getElem hi']; rfl
    simp only [Instr.mapUpdate, Sem.run_bind, run_underlying hu, Result.andThen_ok, MapKept.run_getObj_map g1, h5, h6, hold, run_keyThatStays hsame, MapKept.run_setObj_map _ g1]
    rfl

theorem mapEnt_sound (hs : Sim B φ S w) {t : TypeId} {ks : List Nat} {agg : Bool} {e : TypeId} {z : Value} (ht : trMapT P t = some (ks, agg, e)) (hz : trZero P e = some z) {x x' k k' v : Value} {S' : St} (hx : Rel φ x x') (hk : Rel φ k k') (h : xextra (.mapEnt ks agg z) [x, k] S = some (v, S')) :
    OutV P B φ S w (Instr.mapEntry t x' k') v S' := by
  obtain ⟨kt, d, hu, h1, h2, rfl⟩ := trMapT_inv ht
  obtain ⟨hzf, hzr⟩ := trZero_inv hz
  simp only [xextra, Option.bind_eq_some_iff] at h
  obtain ⟨c, hc, h⟩ := h
  split at h
  case h_2 => cases h
  rename_i id
  obtain ⟨s, hs1, rfl⟩ := map_inv hx
  split at h
  case h_2 => cases h
  rename_i es cl hg
  obtain ⟨es', g1, g2⟩ := hs.mapAt hs1 hg
  obtain ⟨c', h3, h4, h40, h5⟩ := key_both (w := w) false h1 h2 hc hk
  simp only [Option.map_eq_some_iff] at h
  obtain ⟨r, hr, h⟩ := h
  obtain ⟨r', h6, h7⟩ := findKey_run (w := w) h1 h2 h3 g2 hr
  rw [← h4] at h6
  have hpair : ∀ {a a' : Value} (n : Int), Rel φ a a' → Rel φ (.tuple #[a, .int .i64 n]) (.tuple #[a', .int .i64 n]) := fun n ha => .tuple' ⟨rfl, fun i h1 h2 => by
    rcases i with _ | _ | i
    · exact ha
    · exact .int _ _
    · simp at h1; omega⟩
  cases r with
  | none =>
    obtain ⟨rfl, rfl⟩ := Prod.mk.inj h
    obtain rfl := h7.none_inv
    obtain ⟨k1, k2⟩ := hs.objPut (o' := .map (es ++ [(k, z, cl)]) (cl + 1)) (r' := .map (es'.push { key := k', val := z, born := cl }) (cl + 1)) hs1 hg ⟨_, rfl, by rw [Array.toList_push]; exact g2.push ⟨hk, flatV_rel hzf φ, rfl⟩⟩
    refine ⟨φ, .tuple #[z, goInt cl], _, ?_, hpair _ (flatV_rel hzf φ), k1, k2⟩
    simp only [Instr.mapEntry, Sem.run_bind, run_underlying hu, Result.andThen_ok, MapKept.run_getObj_map g1, h5, h6, hzr, MapKept.run_setObj_map _ g1, Sem.run_pure]
    rfl
  | some p =>
    obtain ⟨i, v0⟩ := p
    obtain ⟨rfl, rfl⟩ := Prod.mk.inj h
    obtain ⟨v1, rfl, hv⟩ := h7.some_inv
    obtain ⟨hi, hsame, hi2, hborn, hent⟩ := key_stays (keyOf_inv hc).1 h3 h4 h40 g2 hr
    have hi' : i < es'.size := by simpa using hi
    obtain ⟨k1, k2⟩ := hs.objPut (o' := .map (es.modify i fun e => (k, e.2.1, e.2.2)) cl) (r' := .map (es'.modify i fun e => { e with key := k' }) cl) hs1 hg ⟨_, rfl, by
      rw [Array.toList_modify]
      exact g2.modify i fun e e' he => ⟨hk, he.2.1, he.2.2⟩⟩
    have hold : ((es'[i]?).map (·.key)).getD k' = es'.toList[i].key := by rw [Array.getElem?_eq_getElem hi']; rfl
    have hb : ((es'[i]?).map fun x => (x.born : Int)).getD 0 = ((((es[i]?).map (·.2.2)).getD 0 : Nat) : Int) := by
      rw [Array.getElem?_eq_getElem hi', List.getElem?_eq_getElem hi2]
      simpa using congrArg (fun n : Nat => (n : Int)) hborn.symm
    refine ⟨φ, .tuple #[v1, goInt (((es[i]?).map (·.2.2)).getD 0 : Nat)], _, ?_, hpair _ hv, k1, k2⟩
    simp only [Instr.mapEntry, Sem.run_bind, run_underlying hu, Result.andThen_ok, MapKept.run_getObj_map g1, h5, h6, hold, run_keyThatStays hsame, MapKept.run_setObj_map _ g1, Sem.run_pure, hb]
    rfl

theorem findIdx_ents {es : List (Value × Value × Nat)} {es' : Array MapEntry} (h : EntsR φ es es'.toList) (b : Int) : es'.findIdx? (fun e => (e.born : Int) == b) = es.findIdx? (fun e => ((e.2.2 : Nat) : Int) == b) := by
  obtain ⟨l⟩ := es'
  rw [List.findIdx?_toArray]
  simp only at h
  induction es generalizing l with
  | nil =>
    obtain rfl : l = [] := List.eq_nil_of_length_eq_zero h.1.symm
    rfl
  | cons e es ih =>
    cases l with
    | nil => have := h.1; simp at this
    | cons e' l =>
      obtain ⟨h1, h2⟩ := h.tail
      simp only [List.findIdx?_cons, ih l h2, h1.2.2]

theorem entSet_sound (hs : Sim B φ S w) {t : TypeId} {x x' k k' u u' v : Value} {S' : St} (hx : Rel φ x x') (hk : Rel φ k k') (hu' : Rel φ u u') (h : xextra .entSet [x, k, u] S = some (v, S')) :
    v = undef ∧ ∃ w', (Instr.entryStore t x' k' u').run P w = .ok () w' ∧ Sim B φ S' w' ∧ Keep B φ S w φ S' w' := by
  cases hx
  case map id s hs1 =>
    cases hk
    case int kk b =>
      cases kk
      case i64 =>
        simp only [xextra] at h
        split at h
        case h_2 => cases h
        rename_i es cl hg
        obtain ⟨es', g1, g2⟩ := hs.mapAt hs1 hg
        split at h
        case h_2 => cases h
        rename_i i hi
        obtain ⟨rfl, rfl⟩ := Prod.mk.inj (Option.some.inj h)
        obtain ⟨k1, k2⟩ := hs.objPut (o' := .map (es.modify i fun e => (e.1, u, e.2.2)) cl) (r' := .map (es'.modify i fun e => { e with val := u' }) cl) hs1 hg ⟨_, rfl, by
          rw [Array.toList_modify]
          exact g2.modify i fun e e' he => ⟨he.1, hu', he.2.2⟩⟩
        refine ⟨rfl, _, ?_, k1, k2⟩
        have hint : (asInt (.int .i64 b)).run P w = .ok b w := rfl
        simp only [Instr.entryStore, Sem.run_bind, MapKept.run_getObj_map g1, Result.andThen_ok, hint, findIdx_ents g2, hi, MapKept.run_setObj_map _ g1]
        rfl
      all_goals (simp [xextra] at h; done)
    all_goals (simp [xextra] at h; done)
  all_goals (simp [xextra] at h; done)

theorem mapDel_sound (hs : Sim B φ S w) {t u ty : TypeId} {ks : List Nat} {agg : Bool} {e : TypeId} (ht : trMapT P t = some (ks, agg, e)) {x x' k k' v : Value} {S' : St} (hx : Rel φ x x') (hk : Rel φ k k') (h : xextra (.mapDel ks agg) [x, k] S = some (v, S')) :
    OutV P B φ S w (Builtin.delete_ #[t, u] ty #[x', k']) v S' := by
  obtain ⟨kt, d, hu, h1, h2, rfl⟩ := trMapT_inv ht
  have hnil : Rel φ (.tuple #[]) (.tuple #[]) := Rel.undef φ
  simp only [xextra, Option.bind_eq_some_iff] at h
  obtain ⟨c, hc, h⟩ := h
  split at h
  · obtain ⟨rfl, rfl⟩ := Prod.mk.inj (Option.some.inj h)
    obtain rfl := mapNil_inv hx
    obtain ⟨c', _, _, _, h4⟩ := key_both (w := w) true h1 h2 hc hk
    refine OutV.same hs (v' := .tuple #[]) ?_ hnil
    have h4' : (Instr.checkKey true 10000 kt k').run P w = .ok () w := h4
    simp [Builtin.delete_, run_underlying hu, h4']
  · rename_i id
    obtain ⟨s, hs1, rfl⟩ := map_inv hx
    split at h
    case h_2 => cases h
    rename_i es cl hg
    obtain ⟨es', g1, g2⟩ := hs.mapAt hs1 hg
    obtain ⟨c', h3, h4, h40, h5⟩ := key_both (w := w) es'.isEmpty h1 h2 hc hk
    simp only [Option.map_eq_some_iff] at h
    obtain ⟨r, hr, h⟩ := h
    obtain ⟨r', h6, h7⟩ := findKey_run (w := w) h1 h2 h3 g2 hr
    rw [← h4] at h6
    cases r with
    | none =>
      obtain ⟨rfl, rfl⟩ := Prod.mk.inj h
      obtain rfl := h7.none_inv
      obtain ⟨k1, k2⟩ := hs.objPut (o' := .map es cl) (r' := .map es' cl) hs1 hg ⟨_, rfl, g2⟩
      refine ⟨φ, .tuple #[], _, ?_, hnil, k1, k2⟩
      simp only [Builtin.delete_, List.getElem?_toArray, List.getElem?_cons_zero, List.getElem?_cons_succ, Sem.run_bind, run_underlying hu, Result.andThen_ok, MapKept.run_getObj_map g1, h5, h6, MapKept.run_setObj_map _ g1, Sem.run_pure]
      rfl
    | some p =>
      obtain ⟨i, v0⟩ := p
      obtain ⟨rfl, rfl⟩ := Prod.mk.inj h
      obtain ⟨v1, rfl, hv⟩ := h7.some_inv
      obtain ⟨k1, k2⟩ := hs.objPut (o' := .map (es.eraseIdx i) cl) (r' := .map (es'.eraseIdxIfInBounds i) cl) hs1 hg ⟨_, rfl, by
        rw [Array.toList_eraseIdxIfInBounds]
        exact g2.eraseIdx i⟩
      refine ⟨φ, .tuple #[], _, ?_, hnil, k1, k2⟩
      simp only [Builtin.delete_, List.getElem?_toArray, List.getElem?_cons_zero, List.getElem?_cons_succ, Sem.run_bind, run_underlying hu, Result.andThen_ok, MapKept.run_getObj_map g1, h5, h6, MapKept.run_setObj_map _ g1, Sem.run_pure]
      rfl
  · cases h

theorem mapLen_sound (hs : Sim B φ S w) {t kt et ty : TypeId} (hu : P.underlying t = some (.map kt et)) {x x' v : Value} {S' : St} (hx : Rel φ x x') (h : xextra .mapLen [x] S = some (v, S')) :
    OutV P B φ S w (Builtin.len_ #[t] ty #[x']) v S' := by
  cases hx
  case mapNil =>
    obtain ⟨rfl, rfl⟩ := Prod.mk.inj (Option.some.inj h)
    exact OutV.same hs (v' := .int .i64 0) (by simp [Builtin.len_, run_underlying hu, goInt]) (.int _ _)
  case map id s hs1 =>
    simp only [xextra] at h
    split at h
    case h_2 => cases h
    rename_i es cl hg
    obtain ⟨es', g1, g2⟩ := hs.mapAt hs1 hg
    obtain ⟨rfl, rfl⟩ := Prod.mk.inj (Option.some.inj h)
    have hl : es'.size = es.length := by rw [g2.1]; simp
    exact OutV.same hs (v' := .int .i64 es.length) (by simp [Builtin.len_, run_underlying hu, MapKept.run_getObj_map g1, goInt, hl]) (.int _ _)
  all_goals (simp [xextra] at h; done)

theorem capNil_sound (hs : Sim B φ S w) {t et ty : TypeId} (hu : P.underlying t = some (.slice et)) {x x' v : Value} {S' : St} (hx : Rel φ x x') (h : xextra .capNil [x] S = some (v, S')) :
    OutV P B φ S w (Builtin.cap_ #[t] ty #[x']) v S' := by
  cases hx
  case sliceNil =>
    obtain ⟨rfl, rfl⟩ := Prod.mk.inj (Option.some.inj h)
    exact OutV.same hs (v' := .int .i64 0) (by simp [Builtin.cap_, run_underlying hu, goInt]) (.int _ _)
  all_goals (simp [xextra] at h; done)

theorem run_getObj_iter {r : Nat} {s : ByteArray} {p : Nat} (hb : w.heap[r]? = some (.stringIter s p)) : (getObj r).run P w = .ok (.stringIter s p) w := by
  simp [getObj, Sem.run, hb]
theorem run_setObj_iter {r : Nat} {s : ByteArray} {p : Nat} (o : Obj) (hb : w.heap[r]? = some (.stringIter s p)) : (setObj r o).run P w = .ok () (w.putObj r o) := by
  simp [setObj, Sem.run, hb, World.putObj]
theorem iterStr_sound (hs : Sim B φ S w) (hB : B ≤ w.heap.size) {t : TypeId} (hu : P.underlying t = some .string) {x x' v : Value} {S' : St} (hx : Rel φ x x') (h : xextra .iterStr [x] S = some (v, S')) :
    OutV P B φ S w (Instr.range t x') v S' := by
  cases hx
  case string s0 =>
    obtain ⟨rfl, rfl⟩ := Prod.mk.inj (Option.some.inj h)
    obtain ⟨k1, k2⟩ := hs.objNew hB (o := .iter s0 0) (r := .stringIter s0 0) rfl
    refine ⟨_, .pointer (some ⟨w.heap.size, 0, none⟩), _, ?_, ?_, k1, k2⟩
    · simp [Instr.range, run_underlying hu]
    · have := Rel.ptr (φ := φ.add S.next ⟨w.heap.size, 0, 0, 0⟩) S.next 0 _ (Emb.add_same _ _ _)
      simpa using this
  all_goals (simp [xextra] at h; done)
theorem nextStr_sound (hs : Sim B φ S w) {t : TypeId} {x x' v : Value} {S' : St} (hx : Rel φ x x') (h : xextra .nextStr [x] S = some (v, S')) :
    OutV P B φ S w (Instr.next x' true t) v S' := by
  cases hx
  case ptr id o s hs1 =>
    cases o with
    | succ o => simp [xextra] at h
    | zero =>
      simp only [xextra] at h
      split at h
      case h_2 => cases h
      rename_i s0 p hg
      obtain ⟨⟨_, hb0⟩, ⟨r, g1, g2⟩, _⟩ := hs.loops.2 id s _ hs1 hg
      have g2 : r = .stringIter s0 p := g2
      subst g2
      rw [hb0, Nat.zero_add]
      split at h
      · rename_i hp
        obtain ⟨rfl, rfl⟩ := Prod.mk.inj (Option.some.inj h)
        obtain ⟨k1, k2⟩ := hs.objPut (o' := .iter s0 (p + (Utf8.decode s0 p).2)) (r' := .stringIter s0 (p + (Utf8.decode s0 p).2)) hs1 hg rfl
        refine ⟨φ, .tuple #[.bool true, .int .i64 p, .int .i32 (Utf8.decode s0 p).1], _, ?_, .tuple' ⟨rfl, fun i h1 h2 => ?_⟩, k1, k2⟩
        · simp [Instr.next, run_getObj_iter g1, run_setObj_iter _ g1, hp, goInt]
        · rcases i with _ | _ | _ | i
          · exact .bool _
          · exact .int _ _
          · exact .int _ _
          · simp at h1; omega
      · rename_i hp
        obtain ⟨rfl, rfl⟩ := Prod.mk.inj (Option.some.inj h)
        refine OutV.same hs (v' := .tuple #[.bool false]) ?_ (.tuple' ⟨rfl, fun i h1 h2 => ?_⟩)
        · simp [Instr.next, run_getObj_iter g1, hp]
        · rcases i with _ | i
          · exact .bool _
          · simp at h1
  all_goals (simp [xextra] at h; done)

theorem find_ents {φ : Emb} (s : Nat) : ∀ {es : List (Value × Value × Nat)} {l : List MapEntry}, EntsR φ es l → ∀ {e}, es.find? (fun e => e.2.2 == s) = some e → ∃ e', l.find? (fun e => e.born == s) = some e' ∧ EntR φ e e' := by
  intro es
  induction es with
  | nil => intro l _ e h; simp at h
  | cons x es ih =>
    intro l hr e h
    cases l with
    | nil => have := hr.1; simp at this
    | cons y l =>
      have h1 : EntR φ x y := hr.2 0 (by simp) (by simp)
      have h2 : EntsR φ es l := ⟨by simpa using hr.1, fun i a b => hr.2 (i + 1) (by simpa using a) (by simpa using b)⟩
      simp only [List.find?_cons] at h ⊢
      rw [← h1.2.2]
      split at h
      · obtain rfl := Option.some.inj h
        exact ⟨y, rfl, h1⟩
      · exact ih h2 h

theorem iterMap_sound (hs : Sim B φ S w) (hB : B ≤ w.heap.size) {t kt et : TypeId} (hu : P.underlying t = some (.map kt et)) {x x' v : Value} {S' : St} (hx : Rel φ x x') (h : xextra .iterMap [x] S = some (v, S')) :
    OutV P B φ S w (Instr.range t x') v S' := by
  have fin : ∀ (m m' : Option Nat) (c : Nat), Rel φ (.map m) (.map m') → (Instr.range t x').run P w = .ok (.pointer (some ⟨w.heap.size, 0, none⟩)) (w.alloc (.mapIter m' c #[] c)) → OutV P B φ S w (Instr.range t x') (.pointer (some ⟨S.next, 0, none⟩)) (S.alloc (.mapIter m c [] c)) := by
    intro m m' c hm hr
    obtain ⟨k1, k2⟩ := hs.objNew hB (o := .mapIter m c [] c) (r := .mapIter m' c #[] c) ⟨m', rfl, hm⟩
    refine ⟨_, .pointer (some ⟨w.heap.size, 0, none⟩), _, hr, ?_, k1, k2⟩
    have := Rel.ptr (φ := φ.add S.next ⟨w.heap.size, 0, 0, 0⟩) S.next 0 _ (Emb.add_same _ _ _)
    simpa using this
  cases hx
  case mapNil =>
    obtain ⟨rfl, rfl⟩ := Prod.mk.inj (Option.some.inj h)
    exact fin none none 0 .mapNil (by simp [Instr.range, run_underlying hu])
  case map id s hs1 =>
    simp only [xextra] at h
    split at h
    case h_2 => cases h
    rename_i es cl hg
    obtain ⟨es', g1, g2⟩ := hs.mapAt hs1 hg
    obtain ⟨rfl, rfl⟩ := Prod.mk.inj (Option.some.inj h)
    exact fin (some id) (some s.b) cl (.map id s hs1) (by simp [Instr.range, run_underlying hu, MapKept.run_getObj_map g1])
  all_goals (simp [xextra] at h; done)

theorem run_getObj_mapIter {r : Nat} {m : Option Nat} {s c : Nat} {seen : Array Nat} (hb : w.heap[r]? = some (.mapIter m s seen c)) : (getObj r).run P w = .ok (.mapIter m s seen c) w := by
  simp [getObj, Sem.run, hb]

theorem entMap_sound (hs : Sim B φ S w) {x x' v : Value} {S' : St} (hx : Rel φ x x') (h : xextra .entMap [x] S = some (v, S')) :
    OutV P B φ S w (Instr.entry x') v S' := by
  cases hx
  case ptr id o s hs1 =>
    cases o with
    | succ o => simp [xextra] at h
    | zero =>
      simp only [xextra] at h
      split at h
      case h_2 => cases h
      rename_i m since seen last hg
      split at h
      case h_2 => cases h
      rename_i es cl hg2
      split at h
      case isFalse => cases h
      rename_i hcl
      simp only [Option.bind_eq_some_iff, Option.map_eq_some_iff] at h
      obtain ⟨st, hst, e, he, h⟩ := h
      obtain ⟨rfl, rfl⟩ := Prod.mk.inj h
      obtain ⟨⟨_, hb0⟩, ⟨r, g1, g2⟩, _⟩ := hs.loops.2 id s _ hs1 hg
      obtain ⟨m', rfl, hm⟩ := g2
      obtain ⟨s2, hs2, e2⟩ := map_inv hm
      obtain rfl : m' = some s2.b := by injection e2
      obtain ⟨es', q1, q2⟩ := hs.mapAt hs2 hg2
      obtain ⟨e', p1, p2⟩ := find_ents st q2 he
      rw [hb0, Nat.zero_add]
      refine OutV.same hs (v' := .tuple #[e'.key, e'.val]) ?_ (.tuple' ⟨rfl, fun i h1 h2 => ?_⟩)
      · have hbk : seen.toArray.back? = some st := by rw [List.back?_toArray]; exact hst
        have hfd : es'.find? (fun e => e.born == st) = some e' := by rw [← Array.find?_toList]; exact p1
        simp [Instr.entry, run_getObj_mapIter g1, MapKept.run_getObj_map q1, hbk, hcl, hfd]
      · rcases i with _ | _ | i
        · exact p2.1
        · exact p2.2.1
        · simp at h1; omega
  all_goals (simp [xextra] at h; done)

theorem outU' {s : Sem Unit} {v : Value} {S' : St} {w' : World} (hr : s.run P w = .ok () w') (hv : v = undef) (h1 : Sim B φ S' w') (h2 : Keep B φ S w φ S' w') : OutE P B φ S w (do s; pure .skip) v S' :=
  ⟨φ, undef, w', .inr ⟨by simp [hr], rfl⟩, by rw [hv]; exact Rel.undef φ, h1, h2⟩

theorem extra_sound (hs : Sim B φ S w) (hB : B ≤ w.heap.size) {o : Oper} {e : EOp} {l : List Operand} (ht : trExtra P o.op = some (e, l)) {ρa ρc : Operand → Value} (hρ : ∀ x ∈ o.op.operands, Rel φ (ρa x) (ρc x)) {v : Value} {S' : St} (h : xextra e (l.map ρa) S = some (v, S')) :
    OutE P B φ S w (execOp ρc o) v S' := by
  unfold trExtra at ht
  split at ht
  case h_1 t ho =>
    obtain ⟨rfl, rfl⟩ := Prod.mk.inj (Option.some.inj ht)
    obtain ⟨rfl, rfl⟩ := Prod.mk.inj (Option.some.inj h)
    obtain ⟨k1, k2⟩ := hs.objNew hB (o := .map [] 0) (r := .map #[] 0) ⟨#[], rfl, rfl, fun i h => by simp at h⟩
    have : OutV P B φ S w (Instr.makeMap t none) (.map (some S.next)) (S.alloc (.map [] 0)) := ⟨_, .map (some w.heap.size), _, by simp [Instr.makeMap], .map S.next _ (Emb.add_same _ _ _), k1, k2⟩
    simpa [execOp, ho] using OutE.ofV this
  case h_2 t x k ok ho =>
    split at ht
    · simp only [Option.map_eq_some_iff] at ht
      obtain ⟨z, h1, h3⟩ := ht
      obtain ⟨rfl, rfl⟩ := Prod.mk.inj h3
      have := OutE.ofV (lookG_sound (P := P) hs h1 (hρ x (by simp [ho, Op.operands])) (hρ k (by simp [ho, Op.operands])) h)
      simpa [execOp, ho] using this
    simp only [Option.bind_eq_some_iff, Option.map_eq_some_iff] at ht
    obtain ⟨⟨ks, agg, et⟩, h1, z, h2, h3⟩ := ht
    obtain ⟨rfl, rfl⟩ := Prod.mk.inj h3
    have := OutE.ofV (lookup_sound (P := P) hs h1 h2 (hρ x (by simp [ho, Op.operands])) (hρ k (by simp [ho, Op.operands])) h)
    simpa [execOp, ho] using this
  case h_3 t m k x ho =>
    simp only [Option.map_eq_some_iff] at ht
    obtain ⟨⟨ks, agg, et⟩, h1, h3⟩ := ht
    obtain ⟨rfl, rfl⟩ := Prod.mk.inj h3
    obtain ⟨hv, w', hr, k1, k2⟩ := mapSet_sound (P := P) hs h1 (hρ m (by simp [ho, Op.operands])) (hρ k (by simp [ho, Op.operands])) (hρ x (by simp [ho, Op.operands])) h
    simpa [execOp, ho] using outU' hr hv k1 k2
  case h_4 t m k x ho =>
    simp only [Option.map_eq_some_iff] at ht
    obtain ⟨⟨ks, agg, et⟩, h1, h3⟩ := ht
    obtain ⟨rfl, rfl⟩ := Prod.mk.inj h3
    obtain ⟨hv, w', hr, k1, k2⟩ := mapSet_sound (P := P) hs h1 (hρ m (by simp [ho, Op.operands])) (hρ k (by simp [ho, Op.operands])) (hρ x (by simp [ho, Op.operands])) h
    simpa [execOp, ho] using outU' hr hv k1 k2
  case h_5 t m k ho =>
    simp only [Option.bind_eq_some_iff, Option.map_eq_some_iff] at ht
    obtain ⟨⟨ks, agg, et⟩, h1, z, h2, h3⟩ := ht
    obtain ⟨rfl, rfl⟩ := Prod.mk.inj h3
    have := OutE.ofV (mapEnt_sound (P := P) hs h1 h2 (hρ m (by simp [ho, Op.operands])) (hρ k (by simp [ho, Op.operands])) h)
    simpa [execOp, ho] using this
  case h_6 t m k x ho =>
    obtain ⟨rfl, rfl⟩ := Prod.mk.inj (Option.some.inj ht)
    obtain ⟨hv, w', hr, k1, k2⟩ := entSet_sound (P := P) (t := t) hs (hρ m (by simp [ho, Op.operands])) (hρ k (by simp [ho, Op.operands])) (hρ x (by simp [ho, Op.operands])) h
    simpa [execOp, ho] using outU' hr hv k1 k2
  case h_7 t x ho =>
    split at ht
    case h_3 => cases ht
    · rename_i hu
      obtain ⟨rfl, rfl⟩ := Prod.mk.inj (Option.some.inj ht)
      have := OutE.ofV (iterStr_sound (P := P) hs hB hu (hρ x (by simp [ho, Op.operands])) h)
      simpa [execOp, ho] using this
    · rename_i hu
      obtain ⟨rfl, rfl⟩ := Prod.mk.inj (Option.some.inj ht)
      have := OutE.ofV (iterMap_sound (P := P) hs hB hu (hρ x (by simp [ho, Op.operands])) h)
      simpa [execOp, ho] using this
  case h_8 x ho =>
    obtain ⟨rfl, rfl⟩ := Prod.mk.inj (Option.some.inj ht)
    have := OutE.ofV (nextStr_sound (P := P) (t := o.type) hs (hρ x (by simp [ho, Op.operands])) h)
    simpa [execOp, ho] using this
  case h_9 x ho =>
    obtain ⟨rfl, rfl⟩ := Prod.mk.inj (Option.some.inj ht)
    simp [xextra] at h
  case h_10 x ho =>
    obtain ⟨rfl, rfl⟩ := Prod.mk.inj (Option.some.inj ht)
    have := OutE.ofV (entMap_sound (P := P) hs (hρ x (by simp [ho, Op.operands])) h)
    simpa [execOp, ho] using this
  case h_11 c ho =>
    obtain ⟨callee, args, argTypes⟩ := c
    have hargs : ∀ x ∈ args, Rel φ (ρa x) (ρc x) := fun x hx => hρ x (by simp [ho, Op.operands, Call.operands, hx])
    have hexec : ∀ b, callee = .builtin b → execOp ρc o = builtin b argTypes o.type (args.map fun | .const _ => true | _ => false) (args.map ρc) := by
      intro b hb
      subst hb
      unfold execOp
      simp only [ho, resolve]
      rfl
    simp only at ht
    split at ht
    · rename_i x t hx1 hx2
      rw [hexec _ rfl]
      have ha : args = #[x] := by apply Array.ext'; simpa using hx1
      have hb : argTypes = #[t] := by apply Array.ext'; simpa using hx2
      subst ha; subst hb
      split at ht
      case h_2 => cases ht
      rename_i kt et hu
      obtain ⟨rfl, rfl⟩ := Prod.mk.inj (Option.some.inj ht)
      have := OutE.ofV (mapLen_sound (P := P) (ty := o.type) hs hu (hargs x (by simp)) h)
      simpa [builtin] using this
    · rename_i x t hx1 hx2
      rw [hexec _ rfl]
      have ha : args = #[x] := by apply Array.ext'; simpa using hx1
      have hb : argTypes = #[t] := by apply Array.ext'; simpa using hx2
      subst ha; subst hb
      split at ht
      case h_2 => cases ht
      rename_i et hu
      obtain ⟨rfl, rfl⟩ := Prod.mk.inj (Option.some.inj ht)
      have := OutE.ofV (capNil_sound (P := P) (ty := o.type) hs hu (hargs x (by simp)) h)
      simpa [builtin] using this
    · rename_i m k t u hx1 hx2
      rw [hexec _ rfl]
      have ha : args = #[m, k] := by apply Array.ext'; simpa using hx1
      have hb : argTypes = #[t, u] := by apply Array.ext'; simpa using hx2
      subst ha; subst hb
      simp only [Option.map_eq_some_iff] at ht
      obtain ⟨⟨ks, agg, et⟩, h1, h3⟩ := ht
      obtain ⟨rfl, rfl⟩ := Prod.mk.inj h3
      have := OutE.ofV (mapDel_sound (P := P) (u := u) (ty := o.type) hs h1 (hargs m (by simp)) (hargs k (by simp)) h)
      simpa [builtin] using this
    · cases ht
  case h_12 => cases ht
end
end Go.Proofs.YtofjnhdgkhfgnaaDoor

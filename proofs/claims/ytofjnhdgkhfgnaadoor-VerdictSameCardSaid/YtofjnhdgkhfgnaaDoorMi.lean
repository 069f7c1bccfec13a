/- What is read as an operation of the abstract machine does the same. -/
import Derived.Test.YtofjnhdgkhfgnaaDoorMh
namespace Go.Proofs.YtofjnhdgkhfgnaaDoor
open Go Go.RowKit

section
variable {P : Program} {B : Nat} {φ : Emb} {S : St} {w : World}

theorem RelL.tail {x x' : Value} {a a' : List Value} (h : RelL φ (x :: a) (x' :: a')) : RelL φ a a' :=
  ⟨by simpa using h.1, fun i h1 h2 => by
    have := h.2 (i + 1) (by simpa using h1) (by simpa using h2)
    simp only [List.getElem_cons_succ] at this
    exact this⟩

theorem eqL_flat : ∀ {ks : List Nat} {a b : List Value} {r : Bool}, eqL ks a b = some r → ∀ φ, ∀ {a' b' : List Value}, RelL φ a a' → RelL φ b b' → a' = a ∧ b' = b
  | [], [], [], _, _, φ, a', b', ha, hb => ⟨List.eq_nil_of_length_eq_zero ha.1.symm, List.eq_nil_of_length_eq_zero hb.1.symm⟩
  | [], [], _ :: _, _, h, _, _, _, _, _ => by simp [eqL] at h
  | [], _ :: _, _, _, h, _, _, _, _, _ => by simp [eqL] at h
  | _ :: _, [], _, _, h, _, _, _, _, _ => by simp [eqL] at h
  | _ :: _, _ :: _, [], _, h, _, _, _, _, _ => by simp [eqL] at h
  | k :: ks, x :: a, y :: b, r, h, φ, a', b', ha, hb => by
    simp only [eqL, Option.bind_eq_some_iff, Option.map_eq_some_iff] at h
    obtain ⟨r0, h0, q, hq, _⟩ := h
    cases a' with
    | nil => have := ha.1; simp at this
    | cons x' a' =>
      cases b' with
      | nil => have := hb.1; simp at this
      | cons y' b' =>
        have hx := ha.2 0 (by simp) (by simp)
        have hy := hb.2 0 (by simp) (by simp)
        simp only [List.getElem_cons_zero] at hx hy
        obtain ⟨rfl, rfl⟩ := eqL_flat hq φ (a' := a') (b' := b') ha.tail hb.tail
        unfold eq1 at h0
        split at h0
        · cases hx; cases hy; exact ⟨rfl, rfl⟩
        · cases hx; cases hy; exact ⟨rfl, rfl⟩
        · cases hx; cases hy; exact ⟨rfl, rfl⟩
        · cases h0

theorem eqf_sound (hs : Sim B φ S w) {neg : Bool} {t : TypeId} {x y : Operand} {ρa ρc : Operand → Value} (hx : Rel φ (ρa x) (ρc x)) (hy : Rel φ (ρa y) (ρc y)) (hg : P.eqGuardType P.depth t = false) {ks : List Nat} (hf : flatT P 20 t = some ks)
    (hagg : ∀ d, P.underlying t = some d → aggD d = true) {a b : Array Value} (ea : ρa x = .agg a) (eb : ρa y = .agg b) {r : Bool} (h : eqL ks a.toList b.toList = some r) :
    OutE P B φ S w (do pure (.value (← do eqGuard (if neg then .neq else .eql) t x y (ρc x) (ρc y); binOp (if neg then .neq else .eql) t (ρc x) (ρc y)))) (.bool (notIf neg r)) S := by
  rw [ea] at hx
  rw [eb] at hy
  obtain ⟨a', e1, ha⟩ := agg_inv hx
  obtain ⟨b', e2, hb⟩ := agg_inv hy
  obtain ⟨e3, e4⟩ := eqL_flat h φ ha.toL hb.toL
  have e3 : a' = a := Array.ext' e3
  have e4 : b' = b := Array.ext' e4
  subst e3
  subst e4
  rw [e1, e2]
  obtain ⟨dsc, hd, _, hrun⟩ := flat_eq (P := P) (w := w) 20 t ks hf 10000 (by omega) a'.toList b'.toList r h
  rw [hagg dsc hd] at hrun
  simp only [shapeV, if_true, Array.toArray_toList] at hrun
  refine OutE.same hs (v' := .bool (notIf neg r)) ?_ (.bool _)
  have hgu := fun op => run_eqGuard_agg (P := P) w op t x y a' b' hg
  cases neg with
  | false =>
    have := run_eql_struct (P := P) w t a' b'
    rw [hrun] at this
    simp [hgu, this, notIf]
  | true =>
    have := run_neq_struct (P := P) w t a' b'
    rw [hrun] at this
    simp [hgu, this, notIf]

theorem eqb_sound (hs : Sim B φ S w) {neg : Bool} {t : TypeId} {x y : Operand} {ρa ρc : Operand → Value} (hx : Rel φ (ρa x) (ρc x)) (hy : Rel φ (ρa y) (ρc y)) (hu : P.underlying t = some .bool) {a b : Bool} (ea : ρa x = .bool a) (eb : ρa y = .bool b) :
    OutE P B φ S w (do pure (.value (← do eqGuard (if neg then .neq else .eql) t x y (ρc x) (ρc y); binOp (if neg then .neq else .eql) t (ρc x) (ρc y)))) (.bool (notIf neg (a == b))) S := by
  rw [ea] at hx
  rw [eb] at hy
  rw [bool_inv hx, bool_inv hy]
  refine OutE.same hs (v' := .bool (notIf neg (a == b))) ?_ (.bool _)
  have hg := fun op => eqGuard_plain (P := P) (w := w) op t x y (.bool a) (.bool b) rfl
  have hr := run_equalIn_bool' (P := P) w 9999 t a b hu
  cases neg <;> simp [hg, binOp, Op.equal, Op.maxDepth, hr, notIf]

theorem eqp_sound (hs : Sim B φ S w) {neg : Bool} {t e : TypeId} {x y : Operand} {ρa ρc : Operand → Value} (hx : Rel φ (ρa x) (ρc x)) (hy : Rel φ (ρa y) (ρc y)) (hu : P.underlying t = some (.pointer e)) {p : Option Addr} (ea : ρa x = .pointer p) (eb : ρa y = .pointer none) :
    OutE P B φ S w (do pure (.value (← do eqGuard (if neg then .neq else .eql) t x y (ρc x) (ρc y); binOp (if neg then .neq else .eql) t (ρc x) (ρc y)))) (.bool (notIf neg p.isNone)) S := by
  rw [ea] at hx
  rw [eb] at hy
  have ey : ρc y = .pointer none := by revert hy; generalize ρc y = q; intro hy; cases hy; rfl
  obtain ⟨p', ex, hp⟩ : ∃ p', ρc x = .pointer p' ∧ p'.isNone = p.isNone := by
    revert hx
    generalize ρc x = q
    intro hx
    cases hx with
    | ptrNil => exact ⟨none, rfl, rfl⟩
    | ptr id o s h => exact ⟨_, rfl, rfl⟩
  rw [ex, ey, ← hp]
  refine OutE.same hs (v' := .bool (notIf neg p'.isNone)) ?_ (.bool _)
  have hg := fun op => eqGuard_plain (P := P) (w := w) op t x y (.pointer p') (.pointer none) rfl
  have hr0 : ∀ D, (Op.equalIn (D + 1) t (.pointer p') (.pointer none)).run P w = .ok p'.isNone w := by
    intro D
    cases p' <;> simp [Op.equalIn, run_underlying hu]
  have hr := hr0 9999
  cases neg <;> simp [hg, binOp, Op.equal, Op.maxDepth, hr, notIf]

theorem eqs_sound (hs : Sim B φ S w) {neg : Bool} {t e : TypeId} {x y : Operand} {ρa ρc : Operand → Value} (hx : Rel φ (ρa x) (ρc x)) (hy : Rel φ (ρa y) (ρc y)) (hu : P.underlying t = some (.slice e)) {p : Option Addr} {n c n' c' : Nat} (ea : ρa x = .slice p n c) (eb : ρa y = .slice none n' c') :
    OutE P B φ S w (do pure (.value (← do eqGuard (if neg then .neq else .eql) t x y (ρc x) (ρc y); binOp (if neg then .neq else .eql) t (ρc x) (ρc y)))) (.bool (notIf neg p.isNone)) S := by
  rw [ea] at hx
  rw [eb] at hy
  have ey : ρc y = .slice none 0 0 := by revert hy; generalize ρc y = q; intro hy; cases hy; rfl
  obtain ⟨p', n1, c1, ex, hp⟩ : ∃ p' n1 c1, ρc x = .slice p' n1 c1 ∧ p'.isNone = p.isNone := by
    revert hx
    generalize ρc x = q
    intro hx
    cases hx with
    | sliceNil => exact ⟨none, _, _, rfl, rfl⟩
    | slice id o n c c' s h hn hc he => exact ⟨_, _, _, rfl, rfl⟩
    | sliceEnd id o x s h => exact ⟨_, _, _, rfl, rfl⟩
  rw [ex, ey, ← hp]
  refine OutE.same hs (v' := .bool (notIf neg p'.isNone)) ?_ (.bool _)
  have hg := fun op => eqGuard_plain (P := P) (w := w) op t x y (.slice p' n1 c1) (.slice none 0 0) rfl
  have hr0 : ∀ D, (Op.equalIn (D + 1) t (.slice p' n1 c1) (.slice none 0 0)).run P w = .ok p'.isNone w := by
    intro D
    cases p' <;> simp [Op.equalIn, run_underlying hu]
  have hr := hr0 9999
  cases neg <;> simp [hg, binOp, Op.equal, Op.maxDepth, hr, notIf]

theorem nilF_inv {neg : Bool} {l : List Value} {v : Value} {S' : St} (h : xextra (.nilF neg) l S = some (v, S')) : ∃ x b, l = [x, .nilFunc] ∧ isNilF x = some b ∧ v = .bool (notIf neg b) ∧ S' = S := by
  unfold xextra at h
  split at h
  all_goals first | contradiction | skip
  rename_i x e1
  obtain rfl := EOp.nilF.inj e1
  simp only [Option.map_eq_some_iff, Prod.mk.injEq] at h
  obtain ⟨b, hb, rfl, rfl⟩ := h
  exact ⟨x, b, rfl, hb, rfl, rfl⟩
theorem eqfn_sound (hs : Sim B φ S w) {neg : Bool} {t : TypeId} {ps rs : Array TypeId} {va : Bool} {x y : Operand} {ρa ρc : Operand → Value} (hx : Rel φ (ρa x) (ρc x)) (hy : Rel φ (ρa y) (ρc y)) (hu : P.underlying t = some (.func ps rs va)) {b : Bool} (ea : isNilF (ρa x) = some b) (eb : ρa y = .nilFunc) :
    OutE P B φ S w (do pure (.value (← do eqGuard (if neg then .neq else .eql) t x y (ρc x) (ρc y); binOp (if neg then .neq else .eql) t (ρc x) (ρc y)))) (.bool (notIf neg b)) S := by
  rw [eb] at hy
  have ey : ρc y = .nilFunc := by revert hy; generalize ρc y = q; intro hy; cases hy; rfl
  have ex : (ρc x = .nilFunc ∧ b = true) ∨ ∃ f fa fb, ρc x = .func f fa fb ∧ b = false := by
    revert hx ea
    generalize ρc x = q
    generalize ρa x = q0
    intro hx ea
    unfold isNilF at ea
    split at ea
    · cases hx; exact .inl ⟨rfl, (Option.some.inj ea).symm⟩
    · cases hx; exact .inr ⟨_, _, _, rfl, (Option.some.inj ea).symm⟩
    · cases ea
  rw [ey]
  refine OutE.same hs (v' := .bool (notIf neg b)) ?_ (.bool _)
  rcases ex with ⟨e, rfl⟩ | ⟨f, fa, fb, e, rfl⟩
  · rw [e]
    have hg := fun op => eqGuard_plain (P := P) (w := w) op t x y .nilFunc .nilFunc rfl
    have hr0 : ∀ D, (Op.equalIn (D + 1) t .nilFunc .nilFunc).run P w = .ok true w := by
      intro D
      simp [Op.equalIn, run_underlying hu]
    have hr := hr0 9999
    cases neg <;> simp [hg, binOp, Op.equal, Op.maxDepth, hr, notIf]
  · rw [e]
    have hg := fun op => eqGuard_plain (P := P) (w := w) op t x y (.func f fa fb) .nilFunc rfl
    have hr0 : ∀ D, (Op.equalIn (D + 1) t (.func f fa fb) .nilFunc).run P w = .ok false w := by
      intro D
      simp [Op.equalIn, run_underlying hu]
    have hr := hr0 9999
    cases neg <;> simp [hg, binOp, Op.equal, Op.maxDepth, hr, notIf]

theorem trEq_sound (hs : Sim B φ S w) {neg : Bool} {t : TypeId} {x y : Operand} {xo : XOp} (ht : trEq P neg t x y = some xo) {ρa ρc : Operand → Value} (hx : Rel φ (ρa x) (ρc x)) (hy : Rel φ (ρa y) (ρc y)) {v : Value} {S' : St} (h : xop xo ρa S = some (v, S')) :
    OutE P B φ S w (do pure (.value (← do eqGuard (if neg then .neq else .eql) t x y (ρc x) (ρc y); binOp (if neg then .neq else .eql) t (ρc x) (ρc y)))) v S' := by
  unfold trEq at ht
  split at ht
  · rename_i hu
    obtain rfl := Option.some.inj ht
    simp only [xop, Option.map_eq_some_iff, Prod.mk.injEq] at h
    obtain ⟨v0, h, rfl, rfl⟩ := h
    exact bin_sound hs hx hy h
  · rename_i hu
    obtain rfl := Option.some.inj ht
    simp only [xop, Option.map_eq_some_iff, Prod.mk.injEq] at h
    obtain ⟨v0, h, rfl, rfl⟩ := h
    exact bin_sound hs hx hy h
  · rename_i hu
    obtain rfl := Option.some.inj ht
    simp only [xop] at h
    split at h
    · rename_i a b ea eb
      obtain ⟨rfl, rfl⟩ := Prod.mk.inj (Option.some.inj h)
      exact eqb_sound hs hx hy hu ea eb
    · cases h
  · rename_i hu
    obtain rfl := Option.some.inj ht
    simp only [xop] at h
    split at h
    · rename_i a ea eb
      obtain ⟨rfl, rfl⟩ := Prod.mk.inj (Option.some.inj h)
      exact eqp_sound hs hx hy hu ea eb
    · cases h
  · rename_i hu
    obtain rfl := Option.some.inj ht
    simp only [xop] at h
    split at h
    · rename_i a _ _ _ _ ea eb
      obtain ⟨rfl, rfl⟩ := Prod.mk.inj (Option.some.inj h)
      exact eqs_sound hs hx hy hu ea eb
    · cases h
  · rename_i hu
    obtain rfl := Option.some.inj ht
    simp only [xop, List.map_cons, List.map_nil] at h
    obtain ⟨q, b, e1, e2, rfl, rfl⟩ := nilF_inv h
    simp only [List.cons.injEq, and_true] at e1
    exact eqfn_sound hs hx hy hu (by rw [e1.1]; exact e2) e1.2
  · rename_i hu
    split at ht
    · cases ht
    rename_i hg
    simp only [Option.map_eq_some_iff] at ht
    obtain ⟨ks, hks, rfl⟩ := ht
    simp only [xop] at h
    split at h
    · rename_i a b ea eb
      simp only [Option.map_eq_some_iff, Prod.mk.injEq] at h
      obtain ⟨r, h, rfl, rfl⟩ := h
      exact eqf_sound hs hx hy (by simpa using hg) hks (fun d hd => by rw [hu] at hd; rw [← Option.some.inj hd]; rfl) ea eb h
    · cases h
  · rename_i hu
    split at ht
    · cases ht
    rename_i hg
    simp only [Option.map_eq_some_iff] at ht
    obtain ⟨ks, hks, rfl⟩ := ht
    simp only [xop] at h
    split at h
    · rename_i a b ea eb
      simp only [Option.map_eq_some_iff, Prod.mk.injEq] at h
      obtain ⟨r, h, rfl, rfl⟩ := h
      exact eqf_sound hs hx hy (by simpa using hg) hks (fun d hd => by rw [hu] at hd; rw [← Option.some.inj hd]; rfl) ea eb h
    · cases h
  · cases ht

theorem part1_rel {agg : Bool} {l l' : List Value} {v : Value} (h : part1 agg l = some v) (hr : RelL φ l l') : part1 agg l' = some (shapeV agg l') ∧ Rel φ v (shapeV agg l') := by
  unfold part1 at *
  unfold shapeV
  cases agg with
  | true =>
    simp only [if_true, Option.some.injEq] at h ⊢
    subst h
    exact ⟨trivial, .agg' hr.toA⟩
  | false =>
    simp only [Bool.false_eq_true, if_false] at h ⊢
    obtain rfl := one_inv h
    obtain ⟨v', rfl⟩ := List.length_eq_one_iff.1 hr.1.symm
    exact ⟨rfl, by simpa using hr.2 0 (by simp) (by simp)⟩

theorem fld_sound (hs : Sim B φ S w) {t : TypeId} {f off sz : Nat} {agg : Bool} (ht : trStruct P t f = some (off, agg, sz)) {a : Array Value} {x' v : Value} (hx : Rel φ (.agg a) x') (hle : off + sz ≤ a.size) (h : part1 agg ((a.toList.drop off).take sz) = some v) :
    OutV P B φ S w (Instr.field t x' f) v S := by
  unfold trStruct at ht
  split at ht
  case h_2 => cases ht
  rename_i fs hu
  split at ht
  case h_2 => cases ht
  rename_i fd hfd
  split at ht
  case h_2 => cases ht
  rename_i d i hd hi
  split at ht
  case isFalse => cases ht
  simp only [Option.some.injEq, Prod.mk.injEq] at ht
  obtain ⟨rfl, rfl, rfl⟩ := ht
  obtain ⟨a', rfl, ha⟩ := agg_inv hx
  have hp := run_part (w := w) fd.type d i hd hi a' fd.offset _ rfl (by rw [← ha.1]; exact hle)
  obtain ⟨h1, h2⟩ := part1_rel h ((ha.toL.drop fd.offset).take _)
  refine OutV.same hs ?_ h2
  simp [Instr.field, run_underlying hu, hfd, asAgg, hp]

theorem fa_sound (hs : Sim B φ S w) {t : TypeId} {f off sz : Nat} {agg : Bool} (ht : trStruct P t f = some (off, agg, sz)) {id o : Nat} {x' : Value} (hx : Rel φ (.pointer (some ⟨id, o, none⟩)) x') :
    OutV P B φ S w (Instr.fieldAt t x' f) (.pointer (some ⟨id, o + off, none⟩)) S := by
  unfold trStruct at ht
  split at ht
  case h_2 => cases ht
  rename_i fs hu
  split at ht
  case h_2 => cases ht
  rename_i fd hfd
  split at ht
  case h_2 => cases ht
  rename_i d i hd hi
  split at ht
  case isFalse => cases ht
  rename_i hne
  simp only [Option.some.injEq, Prod.mk.injEq] at ht
  obtain ⟨rfl, rfl, rfl⟩ := ht
  obtain ⟨s, e, rfl⟩ := ptr_inv hx
  have hz := run_sizeOf' (w := w) fd.type i hi
  refine OutV.same hs (v' := .pointer (some ⟨s.b, s.base + (o + fd.offset), none⟩)) ?_ (.ptr id (o + fd.offset) s e)
  simp [Instr.fieldAt, run_underlying hu, hfd, Instr.sureAddr, fieldPlace, hz, hne, Addr.add_lit, Nat.add_assoc]

theorem ia_sound (hs : Sim B φ S w) {t e : TypeId} {j : TypeInfo} (hu : P.underlying t = some (.slice e)) (hj : P.info? e = some j) {id o n c : Nat} {x' : Value} (hx : Rel φ (.slice (some ⟨id, o, none⟩) n c) x') {k : IntKind} {i : Int} (h0 : 0 ≤ i) (h1 : i < n) :
    OutV P B φ S w (Instr.indexAt t x' (.int k i)) (.pointer (some ⟨id, o + i.toNat * j.size, none⟩)) S := by
  obtain ⟨s, x, c', e1, rfl, hn, hcc, hnc, hor⟩ := slice_inv hx
  have hpos : x = s.base + o := by
    rcases hor with h | ⟨h1, h2, h3⟩
    · exact h.1
    · omega
  subst hpos
  have hz := run_sizeOf' (w := w) e j hj
  refine OutV.same hs (v' := .pointer (some ⟨s.b, s.base + (o + i.toNat * j.size), none⟩)) ?_ (.ptr id _ s e1)
  simp [Instr.indexAt, asIntOf, run_underlying hu, h0, h1, hz, Addr.add_lit, Nat.add_assoc]

theorem iaArr_sound (hs : Sim B φ S w) {t e : TypeId} {j : TypeInfo} {n : Nat} (hu : P.underlying t = some (.array n e)) (hj : P.info? e = some j) {id o : Nat} {x' : Value} (hx : Rel φ (.pointer (some ⟨id, o, none⟩)) x') {k : IntKind} {i : Int} (h0 : 0 ≤ i) (h1 : i < n) :
    OutV P B φ S w (Instr.indexAt t x' (.int k i)) (.pointer (some ⟨id, o + i.toNat * j.size, none⟩)) S := by
  obtain ⟨s, e1, rfl⟩ := ptr_inv hx
  have hz := run_sizeOf' (w := w) e j hj
  refine OutV.same hs (v' := .pointer (some ⟨s.b, s.base + (o + i.toNat * j.size), none⟩)) ?_ (.ptr id _ s e1)
  simp [Instr.indexAt, asIntOf, run_underlying hu, h0, h1, hz, Instr.sureAddr, Addr.add_lit, Nat.add_assoc]

theorem idx_sound (hs : Sim B φ S w) {t e : TypeId} {d : TypeDesc} {j : TypeInfo} {n : Nat} (hu : P.underlying t = some (.array n e)) (hd : P.underlying e = some d) (hj : P.info? e = some j) (hone : aggD d = true ∨ j.size = 1) {a : Array Value} {x' v : Value} (hx : Rel φ (.agg a) x') {k : IntKind} {i : Int} (h0 : 0 ≤ i) (h1 : i < n)
    (hle : i.toNat * j.size + j.size ≤ a.size) (h : part1 (aggD d) ((a.toList.drop (i.toNat * j.size)).take j.size) = some v) : OutV P B φ S w (Instr.index t x' (.int k i)) v S := by
  obtain ⟨a', rfl, ha⟩ := agg_inv hx
  have hz := run_sizeOf' (w := w) e j hj
  have hk : j.size = if aggD d then j.size else 1 := by
    split
    · rfl
    · rename_i hn; exact hone.resolve_left hn
  have hp := run_part (w := w) e d j hd hj a' (i.toNat * j.size) j.size hk (by rw [← ha.1]; exact hle)
  obtain ⟨h2, h3⟩ := part1_rel h ((ha.toL.drop (i.toNat * j.size)).take _)
  refine OutV.same hs ?_ h3
  simp [Instr.index, asIntOf, run_underlying hu, h0, h1, hz, hp]

theorem bound_run {v : Option Value} {d l y : Nat} (h : bound v d = some l) (hle : l ≤ y) (code : BoundsCode) : ∀ u, v = some u → (Instr.sliceBound u y code).run P w = .ok l w := by
  intro u hu
  subst hu
  unfold bound at h
  split at h
  · rename_i e; cases e
  · rename_i k i e
    obtain rfl := Option.some.inj e
    split at h
    case isFalse => cases h
    rename_i h0
    obtain rfl := Option.some.inj h
    have : i ≤ (y : Int) := by omega
    simp [Instr.sliceBound, asIntOf, h0, this]
  · cases h

theorem bounds_run {lo hi : Option Value} {l h n c : Nat} (isS : Bool) (hl : bound lo 0 = some l) (hh : bound hi n = some h) (h1 : l ≤ h) (h2 : h ≤ c) : (Instr.sliceBounds isS n c lo hi none).run P w = .ok (l, h, c) w := by
  cases lo with
  | none =>
    cases hi with
    | none =>
      simp [bound] at hl hh
      subst hl; subst hh
      simp [Instr.sliceBounds]
    | some u =>
      simp [bound] at hl
      subst hl
      have := fun code => bound_run (P := P) (w := w) hh h2 code u rfl
      simp [Instr.sliceBounds, this]
  | some u =>
    cases hi with
    | none =>
      simp [bound] at hh
      subst hh
      have := fun code => bound_run (P := P) (w := w) hl h1 code u rfl
      simp [Instr.sliceBounds, this]
    | some u2 =>
      have h3 := fun code => bound_run (P := P) (w := w) hl h1 code u rfl
      have h4 := fun code => bound_run (P := P) (w := w) hh h2 code u2 rfl
      simp [Instr.sliceBounds, h3, h4]

theorem bound_rel {v v' : Option Value} {d l : Nat} (h : bound v d = some l) (hr : ∀ u, v = some u → ∃ u', v' = some u' ∧ Rel φ u u') (hn : v = none → v' = none) : bound v' d = some l := by
  cases v with
  | none => rw [hn rfl]; exact h
  | some u =>
    obtain ⟨u', rfl, hu⟩ := hr u rfl
    unfold bound at h ⊢
    split at h
    · rename_i e; cases e
    · rename_i k i e
      obtain rfl := Option.some.inj e
      rw [int_inv hu]
      exact h
    · cases h
theorem bound_opd {o : Option Operand} {ρa ρc : Operand → Value} {d l : Nat} (h : bound (o.map ρa) d = some l) (hr : ∀ x, o = some x → Rel φ (ρa x) (ρc x)) : bound (o.map ρc) d = some l := by
  cases o with
  | none => exact h
  | some x => exact bound_rel (φ := φ) h (fun u hu => ⟨ρc x, rfl, by simp at hu; rw [← hu]; exact hr x rfl⟩) (fun e => by simp at e)

theorem sl_exact (hs : Sim B φ S w) {t e : TypeId} {j : TypeInfo} (hu : P.underlying t = some (.slice e)) (hj : P.info? e = some j) {x x' : Value} (hx : Rel φ x x') {lo' hi' : Option Value} {a : Option Addr} {n c l h : Nat} (ex : x = .slice a n c)
    (hl : bound lo' 0 = some l) (hh : bound hi' n = some h) (h1 : l ≤ h) (h2 : h ≤ c) {v : Value}
    (hv : slRes S j.size l h c a = some (v, S)) : ∃ v', (Instr.sliceAt t x' lo' hi' none).run P w = .ok v' w ∧ Rel φ v v' := by
  subst ex
  have hz := run_sizeOf' (w := w) e j hj
  cases a with
  | none =>
    cases hx
    simp [slRes] at hv
    subst hv
    have hb := bounds_run (P := P) (w := w) true hl hh h1 h2
    have : l = 0 := by omega
    have : h = 0 := by omega
    subst l; subst h
    refine ⟨.slice none 0 0, ?_, .sliceNil⟩
    simp [Instr.sliceAt, Instr.slice, run_underlying hu, hb, hz]
  | some ad =>
    obtain ⟨id, o, sp⟩ := ad
    cases sp with
    | some q => simp [slRes] at hv
    | none =>
      simp [slRes] at hv
      obtain ⟨hwd, rfl⟩ := hv
      obtain ⟨s, x, c', e1, rfl, hn, hcc, hnc, hor⟩ := slice_inv hx
      have hsj : l * j.size = l * s.sz := by
        obtain ⟨z1, hwd, hz1⟩ := slFit_inv hwd
        unfold St.width at hwd
        split at hwd
        · rename_i cc t2 z m an hget
          rw [hz1, ← Option.some.inj hwd, (hs.blk id s cc t2 z m an e1 hget).1]
        · cases hwd
      have hb := bounds_run (P := P) (w := w) true hl hh h1 (by omega : h ≤ c')
      by_cases hend : c' = l
      · -- at the very end
        subst hend
        have hc0 : c - c' = 0 := by omega
        have hh0 : h - c' = 0 := by omega
        refine ⟨.slice (some ⟨s.b, x, none⟩) 0 0, ?_, (by rw [hc0, hh0]; exact .sliceEnd id _ x s e1)⟩
        simp [Instr.sliceAt, Instr.slice, run_underlying hu, hb, hz, hh0]
      · rcases hor with ⟨rfl, hext⟩ | ⟨r1, r2, r3⟩
        · have hsz : (c' - l) * s.sz + l * s.sz = c' * s.sz := by rw [← Nat.add_mul]; congr 1; omega
          refine ⟨.slice (some ⟨s.b, s.base + (o + l * j.size), none⟩) (h - l) (c' - l), ?_, (.slice id (o + l * j.size) (h - l) (c - l) (c' - l) s e1 (by omega) (by omega) (by rw [hsj]; omega))⟩
          simp [Instr.sliceAt, Instr.slice, run_underlying hu, hb, hz, hend, Addr.add_lit, Nat.add_assoc]
        · omega
theorem sl_sound (hs : Sim B φ S w) {t e : TypeId} {j : TypeInfo} (hu : P.underlying t = some (.slice e)) (hj : P.info? e = some j) {x x' : Value} (hx : Rel φ x x') {lo' hi' : Option Value} {a : Option Addr} {n c l h : Nat} (ex : x = .slice a n c)
    (hl : bound lo' 0 = some l) (hh : bound hi' n = some h) (h1 : l ≤ h) (h2 : h ≤ c) {v : Value}
    (hv : slRes S j.size l h c a = some (v, S)) : OutV P B φ S w (Instr.sliceAt t x' lo' hi' none) v S := by
  obtain ⟨v', q1, q2⟩ := sl_exact (P := P) hs hu hj hx ex hl hh h1 h2 hv
  exact OutV.same hs q1 q2
end
end Go.Proofs.YtofjnhdgkhfgnaaDoor

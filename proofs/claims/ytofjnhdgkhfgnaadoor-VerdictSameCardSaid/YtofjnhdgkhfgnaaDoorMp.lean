/- A region that draws its order: one operation, whichever comes up. -/
import Derived.Test.YtofjnhdgkhfgnaaDoorMo
namespace Go.Proofs.YtofjnhdgkhfgnaaDoor
open Go Go.RowKit

section
variable {P : Program} {B : Nat} {cl : Caller} {ops : Array Oper} {d : XDraw} {R : List Rec} {env0 : Env} {S0 : St} {env' : Env} {S' : St} {pt : Nat → Nat → Prop}
variable {φ0 φ : Emb} {w0 w : World} {df : List Deferred} {listed : Array Bool} {a : Act} {q : Nat}

theorem listed_set {i j : Nat} (hsz : i < listed.size) : (listed.setIfInBounds i true).getD j true = true ↔ j = i ∨ listed.getD j true = true := by
  rw [Array.getD_eq_getD_getElem?, Array.getD_eq_getD_getElem?, Array.getElem?_setIfInBounds]
  by_cases e : i = j
  · subst e; simp [hsz]
  · simp [e, Ne.symm e]

theorem put_get_ne {a : Act} {dst : Option Tmp} (v' : Value) {t : Tmp} (hd : dst ≠ some t) (hlt : t < a.tmps.size) (h : t < (a.put dst v').tmps.size) : (a.put dst v').tmps[t] = a.tmps[t] := by
  cases dst with
  | none => rfl
  | some u => simp only [Act.put]; rw [Array.getElem_setIfInBounds_ne hlt (by intro x; subst x; exact hd rfl)]

/-- the temporaries behind an operation. -/
theorem env_step (C : DC P B cl ops d R env0 S0 env' S' pt) (I : Inv ops d R env0 S0 S' B φ0 w0 df listed φ a w q) {i : Nat} (hi : i < ops.size) (hni : listed.getD i true = false) {φ' : Emb} (hle : Emb.le φ φ') {v' : Value} {o : Oper} (hdst : dstF d.ops i = o.dst)
    (hv : Rel (φ'.below (recT R S' (i + 1)).next) (valF R i) v') :
    ∀ t (h : t < (a.put o.dst v').tmps.size), Rel (φ'.below (FW d R env0 S0 S' (fun j => (listed.setIfInBounds i true).getD j true) ops.size t).2) (FW d R env0 S0 S' (fun j => (listed.setIfInBounds i true).getD j true) ops.size t).1 (a.put o.dst v').tmps[t] := by
  intro t h
  have hsz : (a.put o.dst v').tmps.size = a.tmps.size := by cases o.dst <;> simp [Act.put]
  have hlt : t < a.tmps.size := by omega
  have hw := fold_write (dst := dstF d.ops) (val := valF R) (bd := fun k => (recT R S' (k + 1)).next) (v0 := fun t => env0.getD t undef) (b0 := S0.next) (dn := fun j => listed.getD j true) (dn' := fun j => (listed.setIfInBounds i true).getD j true) (i := i) (t := t)
    (fun j => listed_set (by rw [I.size]; exact hi)) hni (fun j hj h1 h2 => by
      by_cases hjn : j < ops.size
      · have hp := C.c3 i j hj hjn (.inl ⟨t, h1, .inr h2⟩)
        cases hl : listed.getD j true with
        | false => rfl
        | true =>
          have := C.closed I.closed j hjn (I.closed j hjn hl) i hp
          rw [hni] at this; cases this
      · have : dstF d.ops j = none := by simp [dstF, List.getElem?_eq_none (show d.ops.length ≤ j by have := C.len.1; omega)]
        rw [this] at h2; cases h2) ops.size hi
  unfold FW
  rw [hw]
  by_cases hd : dstF d.ops i = some t
  · rw [if_pos hd]
    have hd' : o.dst = some t := by rw [← hdst]; exact hd
    have : (a.put o.dst v').tmps[t] = v' := by simp [hd', Act.put]
    rw [this]
    exact hv
  · rw [if_neg hd]
    have hd' : o.dst ≠ some t := by rw [← hdst]; exact hd
    rw [put_get_ne v' hd' hlt h]
    exact (I.env t hlt).mono (below_mono hle (Nat.le_refl _))

theorem wanted_at (C : DC P B cl ops d R env0 S0 env' S' pt) (I : Inv ops d R env0 S0 S' B φ0 w0 df listed φ a w q) {i : Nat} (hi : i < ops.size) (hni : listed.getD i true = false) (hpt : ∀ j, pt i j → listed.getD j true = true) {o : Oper} {xo : XOper} (ho : ops[i]? = some o) (ht : trOper P ops o = some xo) :
    Region.wanted o (yielded ops a.tmps) = xwanted xo (recE R env' i) := by
  unfold trOper at ht
  split at ht
  · rename_i x hx hg
    obtain rfl := Option.some.inj ht
    simp [Region.wanted, xwanted, hg]
  · rename_i x j want hx hg
    split at ht
    case h_2 => cases ht
    rename_i t hj
    obtain rfl := Option.some.inj ht
    simp only [Region.wanted, xwanted, hg, yielded, hj, Option.bind_some]
    have htl : t ∈ looksF ops i := by
      simp only [looksF, ho, Oper.looksAt, hg, hj]
      simp
    have hsz := (C.envs i (by omega)).1
    by_cases hlt : t < a.tmps.size
    · have hr := I.sees C hi hni hpt htl hlt
      have hlt' : t < (recE R env' i).size := by rw [hsz, ← I.esize]; exact hlt
      rw [Array.getD_eq_getD_getElem?, Array.getElem?_eq_getElem hlt'] at hr
      rw [Array.getElem?_eq_getElem hlt, Array.getElem?_eq_getElem hlt']
      simp only [Option.getD_some] at hr
      revert hr
      generalize (recE R env' i)[t] = u
      generalize a.tmps[t] = u'
      intro hr
      cases hr <;> simp
    · have hlt' : ¬ t < (recE R env' i).size := by rw [hsz, ← I.esize]; exact hlt
      rw [Array.getElem?_eq_none (Nat.not_lt.1 hlt), Array.getElem?_eq_none (Nat.not_lt.1 hlt')]
      simp
  · cases ht

theorem closed_set (I : Inv ops d R env0 S0 S' B φ0 w0 df listed φ a w q) {i : Nat} (hi : i < ops.size) (hr : ∀ j ∈ aftF ops i, listed.getD j true = true) :
    ∀ k, k < ops.size → (listed.setIfInBounds i true).getD k true = true → ∀ j ∈ aftF ops k, (listed.setIfInBounds i true).getD j true = true := by
  intro k hk h j hj
  have hsz : i < listed.size := by rw [I.size]; exact hi
  rw [listed_set hsz] at h ⊢
  rcases h with rfl | h
  · exact .inr (hr j hj)
  · exact .inr (I.closed k hk h j hj)

/-- an anchored operation that is ready is the stage's own. -/
theorem anch_stage (C : DC P B cl ops d R env0 S0 env' S' pt) (I : Inv ops d R env0 S0 S' B φ0 w0 df listed φ a w q) {i : Nat} (hi : i < ops.size) (hni : listed.getD i true = false) (hpt : ∀ j, pt i j → listed.getD j true = true) (ha : anF d.ops i = true) : i = q := by
  have h1 : ¬ i < q := fun h => by
    have := ((I.stage.2 i hi ha).1 h)
    rw [hni] at this; cases this
  rcases I.stage.1 with h | ⟨h2, h3⟩
  · omega
  · by_cases e : i = q
    · exact e
    · have hp := hpt q (C.c4 q i (by omega) hi h3 ha)
      have := (I.stage.2 q h2 h3).2 (Nat.le_refl _)
      rw [this] at hp; cases hp

theorem stage_set (I : Inv ops d R env0 S0 S' B φ0 w0 df listed φ a w q) {i : Nat} (hi : i < ops.size) (ha : anF d.ops i = false) :
    (q = ops.size ∨ (q < ops.size ∧ anF d.ops q = true)) ∧ ∀ k, k < ops.size → anF d.ops k = true → (k < q → (listed.setIfInBounds i true).getD k true = true) ∧ (q ≤ k → (listed.setIfInBounds i true).getD k true = false) := by
  have hsz : i < listed.size := by rw [I.size]; exact hi
  refine ⟨I.stage.1, fun k hk hka => ⟨fun h => (listed_set hsz).2 (.inr ((I.stage.2 k hk hka).1 h)), fun h => ?_⟩⟩
  rw [Bool.eq_false_iff]
  intro h1
  rw [listed_set hsz] at h1
  rcases h1 with rfl | h1
  · rw [ha] at hka; cases hka
  · have := (I.stage.2 k hk hka).2 h
    rw [this] at h1; cases h1

/-- an operation that floats and makes no block has come up. -/
theorem inv_float (C : DC P B cl ops d R env0 S0 env' S' pt) (I : Inv ops d R env0 S0 S' B φ0 w0 df listed φ a w q) {i : Nat} (hi : i < ops.size) (hni : listed.getD i true = false) (hr : ∀ j ∈ aftF ops i, listed.getD j true = true) (ha : anF d.ops i = false)
    {o : Oper} (hdst : dstF d.ops i = o.dst) {v' : Value} {w' : World} (hm : More w w') (hv : Rel (φ.below (recT R S' (i + 1)).next) (valF R i) v') :
    Inv ops d R env0 S0 S' B φ0 w0 df (listed.setIfInBounds i true) φ (a.put o.dst v') w' q := by
  have hsz : i < listed.size := by rw [I.size]; exact hi
  refine ⟨by simp [I.size], closed_set I hi hr, stage_set I hi ha, ?_, env_step C I hi hni (Emb.le.refl _) hdst hv, I.mem.more hm, fun id s e hge => ?_, fun j hj hnj b hb haj => ?_, ?_⟩
  · rw [← I.esize]; cases o.dst <;> simp [Act.put]
  · obtain ⟨k, i1, i2, i3, b', i4, i5, i8, iB, i12, i13⟩ := I.early id s e hge
    exact ⟨k, i1, i2, (listed_set hsz).2 (.inr i3), b', i4, i5, i8, iB.same (hm.block s.b iB.lt), i12, i13⟩
  · refine I.late j hj ?_ b hb haj
    rw [Bool.eq_false_iff] at hnj ⊢
    intro h; exact hnj ((listed_set hsz).2 (.inr h))
  · rw [← I.defers]; cases o.dst <;> rfl

/-- an operation that floats and makes a block has come up, ahead of the text's order or behind it. -/
theorem inv_alloc (C : DC P B cl ops d R env0 S0 env' S' pt) (h0 : ∀ id s, φ0 id = some s → id < S0.next) (I : Inv ops d R env0 S0 S' B φ0 w0 df listed φ a w q) {i : Nat} (hi : i < ops.size) (hni : listed.getD i true = false) (hr : ∀ j ∈ aftF ops i, listed.getD j true = true) (ha : anF d.ops i = false)
    {b0 : Blk} (hT : recT R S' (i + 1) = (recT R S' i).alloc b0) (hlate : i < q → (recT R S' q).get (recT R S' i).next = b0) {o : Oper} (hdst : dstF d.ops i = o.dst)
    {v' : Value} {w' : World} (hm : More w w') {s : Spot} (hsb : w.heap.size ≤ s.b) (hBb : B ≤ s.b) (hborn : Born ((φ.add (recT R S' i).next s).below ((recT R S' i).next + 1)) w' s b0) (hv : Rel ((φ.add (recT R S' i).next s).below (recT R S' (i + 1)).next) (valF R i) v') :
    Inv ops d R env0 S0 S' B φ0 w0 df (listed.setIfInBounds i true) (φ.add (recT R S' i).next s) (a.put o.dst v') w' q := by
  have hsz : i < listed.size := by rw [I.size]; exact hi
  have hnone := I.late i hi hni _ hT ha
  have hle := Emb.le_add φ (recT R S' i).next s hnone
  have hn1 : (recT R S' (i + 1)).next = (recT R S' i).next + 1 := by rw [hT]; rfl
  have hS0 : S0.next ≤ (recT R S' i).next := by
    have := C.mono' (i := 0) (j := i) (by omega)
    rwa [C.T0] at this
  have hw0 : w0.heap.size ≤ s.b := Nat.le_trans I.mem.2.size hsb
  have hold : ∀ j sj, φ j = some sj → sj.b < w.heap.size := by
    intro j sj hj
    by_cases h : j < (recT R S' q).next
    · exact (I.mem.1.dom j sj (by rw [below_get h]; exact hj)).2
    · obtain ⟨k, i1, i2, i3, b', i4, i5, i8, iB, i12, i13⟩ := I.early j sj hj (by omega)
      exact iB.lt
  refine ⟨by simp [I.size], closed_set I hi hr, stage_set I hi ha, ?_, env_step C I hi hni hle hdst hv, ?_, fun id s2 e hge => ?_, fun j hj hnj b hb haj => ?_, ?_⟩
  · rw [← I.esize]; cases o.dst <;> simp [Act.put]
  · -- the memory of the stage
    by_cases hlt : (recT R S' i).next < (recT R S' q).next
    · have hiq : i < q := by
        rcases Nat.lt_or_ge i q with h | h
        · exact h
        · have := C.mono' (i := q) (j := i) h; omega
      have heq : (φ.add (recT R S' i).next s).below (recT R S' q).next = (φ.below (recT R S' q).next).add (recT R S' i).next s := by
        refine Emb.ext' (fun id => ?_) rfl
        rw [below_at, Emb.add_at, Emb.add_at, below_at]
        by_cases e : id = (recT R S' i).next
        · subst e; simp [hlt]
        · simp [e]
      rw [heq]
      refine (I.mem.more hm).insert (by rw [below_get hlt]; exact hnone) ?_ hlt hS0 (hlate hiq) hBb ?_ hw0 (fun j sj hj => ?_)
      · cases h3 : φ0 (recT R S' i).next with
        | none => rfl
        | some s3 => have := h0 _ s3 h3; omega
      · rw [← heq]
        exact hborn.mono (below_mono (Emb.le.refl _) (by omega))
      · have := hold j sj (below_some hj).2
        omega
    · have heq : (φ.add (recT R S' i).next s).below (recT R S' q).next = φ.below (recT R S' q).next := by
        refine Emb.ext' (fun id => ?_) rfl
        rw [below_at, below_at, Emb.add_at]
        by_cases e : id < (recT R S' q).next
        · rw [if_pos e, if_pos e, if_neg (by omega)]
        · rw [if_neg e, if_neg e]
      rw [heq]
      exact I.mem.more hm
  · by_cases e2 : id = (recT R S' i).next
    · subst e2
      rw [Emb.add_same] at e
      obtain rfl := Option.some.inj e
      refine ⟨i, hi, ?_, (listed_set hsz).2 (.inl rfl), b0, hT, rfl, hBb, hborn, hw0, fun j sj hj hjs => ?_⟩
      · rcases Nat.lt_or_ge i q with h | h
        · have := C.mono' (i := i + 1) (j := q) (by omega); omega
        · exact h
      · rw [Emb.add_other _ _ hj] at hjs
        have := hold j sj hjs
        omega
    · rw [Emb.add_other _ _ e2] at e
      obtain ⟨k, i1, i2, i3, b', i4, i5, i8, iB, i12, i13⟩ := I.early id s2 e hge
      refine ⟨k, i1, i2, (listed_set hsz).2 (.inr i3), b', i4, i5, i8, (iB.same (hm.block s2.b iB.lt)).mono (below_mono hle (Nat.le_refl _)), i12, fun j sj hj hjs => ?_⟩
      · by_cases e3 : j = (recT R S' i).next
        · subst e3
          rw [Emb.add_same] at hjs
          obtain rfl := Option.some.inj hjs
          have := iB.lt
          omega
        · rw [Emb.add_other _ _ e3] at hjs
          exact i13 j sj hj hjs
  · have hnj' : listed.getD j true = false := by
      rw [Bool.eq_false_iff] at hnj ⊢
      intro h; exact hnj ((listed_set hsz).2 (.inr h))
    have hji : j ≠ i := fun e => by
      subst e
      have := (listed_set (i := j) (j := j) hsz).2 (.inl rfl)
      rw [this] at hnj; cases hnj
    rw [Emb.add_other _ _ ?_]
    · exact I.late j hj hnj' b hb haj
    · intro e
      have hn2 : (recT R S' (j + 1)).next = (recT R S' j).next + 1 := by rw [hb]; rfl
      rcases Nat.lt_or_ge i j with h | h
      · have := C.mono' (i := i + 1) (j := j) (by omega); omega
      · have := C.mono' (i := j + 1) (j := i) (by omega); omega
  · rw [← I.defers]; cases o.dst <;> rfl

/-- the stage's own operation has come up. -/
theorem inv_anch (C : DC P B cl ops d R env0 S0 env' S' pt) (h0 : ∀ id s, φ0 id = some s → id < S0.next) (I : Inv ops d R env0 S0 S' B φ0 w0 df listed φ a w q) (hi : q < ops.size) (hni : listed.getD q true = false) (hr : ∀ j ∈ aftF ops q, listed.getD j true = true) (ha : anF d.ops q = true)
    {o : Oper} (hdst : dstF d.ops q = o.dst) {ψ : Emb} {v' : Value} {w' : World} (hv : Rel ψ (valF R q) v') (hs : Sim B ψ (recT R S' (q + 1)) w') (hk : Keep B (φ.below (recT R S' q).next) (recT R S' q) w ψ (recT R S' (q + 1)) w') :
    ∃ φ' q', Inv ops d R env0 S0 S' B φ0 w0 df (listed.setIfInBounds q true) φ' (a.put o.dst v') w' q' := by
  have hsz : q < listed.size := by rw [I.size]; exact hi
  let φ' : Emb := ⟨fun id => if id < (recT R S' (q + 1)).next then ψ id else φ id, φ.tab⟩
  have htab : ψ.tab = φ.tab := hk.le.tab
  have hmono := C.mono q
  -- the blocks made early are numbered behind what the operation makes
  have hearly : ∀ id s, φ id = some s → (recT R S' q).next ≤ id → (recT R S' (q + 1)).next ≤ id := by
    intro id s e hge
    obtain ⟨k, i1, i2, i3, b', i4, i5, i6⟩ := I.early id s e hge
    have hqk : q ≠ k := by
      intro e2
      subst e2
      rw [i3] at hni; cases hni
    rw [i5]
    exact C.mono' (by omega)
  have hle : Emb.le φ φ' := by
    refine ⟨fun id s e => ?_, rfl⟩
    show (if id < (recT R S' (q + 1)).next then ψ id else φ id) = some s
    by_cases h1 : id < (recT R S' q).next
    · rw [if_pos (by omega)]
      exact hk.le id s (by rw [below_get h1]; exact e)
    · have := hearly id s e (by omega)
      rw [if_neg (by omega)]; exact e
  have hψ : φ'.below (recT R S' (q + 1)).next = ψ := by
    refine Emb.ext' (fun id => ?_) htab.symm
    rw [below_at]
    by_cases h1 : id < (recT R S' (q + 1)).next
    · rw [if_pos h1]; exact if_pos h1
    · rw [if_neg h1]
      cases e : ψ id with
      | none => rfl
      | some s => exact absurd (hs.dom id s e).1 h1
  have hsk : SK B φ0 S0 w0 (φ'.below (recT R S' (q + 1)).next) (recT R S' (q + 1)) w' := by
    rw [hψ]
    exact ⟨hs, I.mem.2.trans hk⟩
  -- the early blocks are as they were
  have hE : Early ops R S' B w0 (listed.setIfInBounds q true) φ' w' (q + 1) := by
    intro id s e hge
    have e' : φ id = some s := by
      have : φ' id = φ id := if_neg (by omega)
      rw [← this]; exact e
    obtain ⟨k, i1, i2, i3, b', i4, i5, i8, iB, i12, i13⟩ := I.early id s e' (by omega)
    have hqk : q ≠ k := by
      intro e2
      subst e2
      rw [i3] at hni; cases hni
    have hsbl := iB.lt
    refine ⟨k, i1, by omega, (listed_set hsz).2 (.inr i3), b', i4, i5, i8, (iB.same ?_).mono (below_mono hle (Nat.le_refl _)), i12, fun j sj hj hjs => ?_⟩
    · rw [hk.keep s.b hsbl (fun id2 s2 h1 h2 => ?_)]
      have hb := below_some h1
      exact absurd h2 (i13 id2 s2 (by omega) hb.2)
    · by_cases h1 : j < (recT R S' (q + 1)).next
      · have hjs' : ψ j = some sj := by
          have : φ' j = ψ j := if_pos h1
          rw [← this]; exact hjs
        cases h2 : (φ.below (recT R S' q).next) j with
        | some s3 =>
          have := hk.le j s3 h2
          rw [hjs'] at this
          obtain rfl := Option.some.inj this
          exact i13 j sj hj (below_some h2).2
        | none =>
          rcases hk.place j sj hjs' h2 with h3 | ⟨id0, s0, h3, h4, h5⟩
          · omega
          · have hb := below_some h3
            have := i13 id0 s0 (by omega) hb.2
            rw [← h4]; exact this
      · have : φ' j = φ j := if_neg h1
        rw [this] at hjs
        exact i13 j sj hj hjs
  obtain ⟨q', k1, k2, k3, k4, k5⟩ := advance C h0 (ops.size - (q + 1)) (q + 1) (by omega) hsk hE
  refine ⟨φ', q', by simp [I.size], closed_set I hi hr, ⟨k2, fun k hk2 hka => ⟨fun h => ?_, fun h => ?_⟩⟩, ?_, env_step C I hi hni hle hdst (by rw [hψ]; exact hv), k4, k5, fun j hj hnj b hb haj => ?_, ?_⟩
  · rw [listed_set hsz]
    by_cases e : k = q
    · exact .inl e
    · right
      by_cases h2 : k < q
      · exact (I.stage.2 k hk2 hka).1 h2
      · have := k3 k (by omega) h
        rw [this] at hka; cases hka
  · rw [Bool.eq_false_iff]
    intro h1
    rw [listed_set hsz] at h1
    rcases h1 with rfl | h1
    · omega
    · have := (I.stage.2 k hk2 hka).2 (by omega)
      rw [this] at h1; cases h1
  · rw [← I.esize]; cases o.dst <;> simp [Act.put]
  · have hnj' : listed.getD j true = false := by
      rw [Bool.eq_false_iff] at hnj ⊢
      intro h; exact hnj ((listed_set hsz).2 (.inr h))
    have hjq : j ≠ q := fun e => by subst e; rw [ha] at haj; cases haj
    have hold := I.late j hj hnj' b hb haj
    have hn2 : (recT R S' (j + 1)).next = (recT R S' j).next + 1 := by rw [hb]; rfl
    show (if (recT R S' j).next < (recT R S' (q + 1)).next then ψ (recT R S' j).next else φ (recT R S' j).next) = none
    split
    · rename_i hlt
      have hjlt : j < q := by
        rcases Nat.lt_or_ge j q with h | h
        · exact h
        · have := C.mono' (i := q + 1) (j := j) (by omega); omega
      have hlt2 : (recT R S' j).next < (recT R S' q).next := by
        have := C.mono' (i := j + 1) (j := q) (by omega); omega
      cases e : ψ (recT R S' j).next with
      | none => rfl
      | some s =>
        have := hk.new _ s e (by rw [below_get hlt2]; exact hold)
        omega
    · exact hold
  · rw [← I.defers]; cases o.dst <;> rfl
end
end Go.Proofs.YtofjnhdgkhfgnaaDoor

/- A region that draws its order: whatever comes up, the two machines fit. -/
import Derived.Test.YtofjnhdgkhfgnaaDoorMn
namespace Go.Proofs.YtofjnhdgkhfgnaaDoor
open Go Go.RowKit

def aft (o : Oper) : List Nat := (o.after.toList.filter fun e => Region.binds .any e).map (·.on)

def dstF (xs : List XOper) (i : Nat) : Option Tmp := (xs[i]?).bind (·.dst)
def anF (xs : List XOper) (i : Nat) : Bool := match xs[i]? with | some o => anch o.op | none => false
def aftF (ops : Array Oper) (i : Nat) : List Nat := match ops[i]? with | some o => aft o | none => []
def looksF (ops : Array Oper) (i : Nat) : List Tmp := match ops[i]? with | some o => o.looksAt ops | none => []
def valF (R : List Rec) (i : Nat) : Value := match R[i]? with | some r => r.v | none => undef

/-- what is known of a region that draws its order. -/
structure DC (P : Program) (B : Nat) (cl : Caller) (ops : Array Oper) (d : XDraw) (R : List Rec) (env0 : Env) (S0 : St) (env' : Env) (S' : St) (pt : Nat → Nat → Prop) : Prop where
  hcl : CallOK P B cl
  hxs : ops.toList.mapM (trOper P ops) = some d.ops
  hrun : xrun cl d.ops env0 S0 = some (R, env', S')
  hchk : ChkP d R S'
  c1 : ∀ i, i < ops.size → ∀ j ∈ aftF ops i, j < i
  c2 : ∀ i, i < ops.size → ∀ j, pt i j → j ∈ aftF ops i ∨ ∃ k ∈ aftF ops i, pt k j
  c3 : ∀ i k, i < k → k < ops.size → ((∃ t, dstF d.ops i = some t ∧ (t ∈ looksF ops k ∨ dstF d.ops k = some t)) ∨ (∃ t, dstF d.ops k = some t ∧ t ∈ looksF ops i)) → pt k i
  c4 : ∀ i k, i < k → k < ops.size → anF d.ops i = true → anF d.ops k = true → pt k i
  c5 : ∀ i, i < ops.size → anF d.ops i = false → ∀ q, (q = ops.size ∨ (q < ops.size ∧ anF d.ops q = true)) → (∀ k, k < ops.size → anF d.ops k = true → k < q → ¬ pt k i) → (∀ k, k < ops.size → anF d.ops k = true → q ≤ k → ¬ pt i k) → q ∈ (d.stages[i]?).getD []

section
variable {P : Program} {B : Nat} {cl : Caller} {ops : Array Oper} {d : XDraw} {R : List Rec} {env0 : Env} {S0 : St} {env' : Env} {S' : St} {pt : Nat → Nat → Prop}

theorem DC.len (C : DC P B cl ops d R env0 S0 env' S' pt) : d.ops.length = ops.size ∧ R.length = ops.size := by
  have h1 := List.length_mapM_option C.hxs
  have h2 := (xrun_facts _ _ _ _ _ _ C.hrun).1
  simp at h1
  omega

theorem DC.mono (C : DC P B cl ops d R env0 S0 env' S' pt) : ∀ i, (recT R S' i).next ≤ (recT R S' (i + 1)).next := by
  intro i
  by_cases h : i < R.length
  · exact C.hchk.1 i h
  · simp [recT, List.getElem?_eq_none (show R.length ≤ i by omega), List.getElem?_eq_none (show R.length ≤ i + 1 by omega)]
theorem DC.mono' (C : DC P B cl ops d R env0 S0 env' S' pt) {i j : Nat} (h : i ≤ j) : (recT R S' i).next ≤ (recT R S' j).next := by
  induction h with
  | refl => exact Nat.le_refl _
  | step h ih => exact Nat.le_trans ih (C.mono _)

theorem DC.T0 (C : DC P B cl ops d R env0 S0 env' S' pt) : recT R S' 0 = S0 := (xrun_facts _ _ _ _ _ _ C.hrun).2.2.1
theorem DC.Tn (C : DC P B cl ops d R env0 S0 env' S' pt) : recT R S' ops.size = S' := by
  have := C.len.2
  simp [recT, List.getElem?_eq_none (show R.length ≤ ops.size by omega)]
theorem DC.En (C : DC P B cl ops d R env0 S0 env' S' pt) : recE R env' ops.size = env' := by
  have := C.len.2
  simp [recE, List.getElem?_eq_none (show R.length ≤ ops.size by omega)]

/-- one operation of the text's run. -/
theorem DC.at (C : DC P B cl ops d R env0 S0 env' S' pt) {i : Nat} (h : i < ops.size) : ∃ r xo o, R[i]? = some r ∧ d.ops[i]? = some xo ∧ ops[i]? = some o ∧ trOper P ops o = some xo ∧ r.env = recE R env' i ∧ r.S = recT R S' i ∧ r.w = xwanted xo (recE R env' i) ∧
    (r.w = true → xstep cl xo.op (recE R env' i).ev (recT R S' i) = some (r.v, recT R S' (i + 1))) ∧ (r.w = false → r.v = undef ∧ recT R S' (i + 1) = recT R S' i) ∧ recE R env' (i + 1) = (recE R env' i).put xo.dst r.v ∧
    dstF d.ops i = xo.dst ∧ anF d.ops i = anch xo.op ∧ valF R i = r.v ∧ looksF ops i = o.looksAt ops ∧ xo.dst = o.dst := by
  have hl := C.len.1
  have hx : i < d.ops.length := by omega
  obtain ⟨r, h1, h2, h3, h4, h5, h6, h7⟩ := (xrun_facts _ _ _ _ _ _ C.hrun).2.2.2 i hx
  have ht := List.getElem_mapM_option C.hxs i (by simpa using h) hx
  simp only [Array.getElem_toList] at ht
  refine ⟨r, d.ops[i], ops[i], h1, List.getElem?_eq_getElem hx, Array.getElem?_eq_getElem h, ht, h2, h3, h4, h5, h6, h7, ?_, ?_, ?_, ?_, trOper_dst ht⟩
  · simp [dstF, List.getElem?_eq_getElem hx]
  · simp [anF, List.getElem?_eq_getElem hx]
  · simp [valF, h1]
  · simp [looksF, Array.getElem?_eq_getElem h]

/-- what stands in the temporaries. -/
abbrev FW (d : XDraw) (R : List Rec) (env0 : Env) (S0 S' : St) (dn : Nat → Bool) : Nat → Tmp → Value × Nat :=
  fold (dstF d.ops) (valF R) (fun k => (recT R S' (k + 1)).next) (fun t => env0.getD t undef) S0.next dn

theorem DC.envs (C : DC P B cl ops d R env0 S0 env' S' pt) : ∀ k, k ≤ ops.size → (recE R env' k).size = env0.size ∧ ∀ t, t < env0.size → (recE R env' k).getD t undef = (FW d R env0 S0 S' (fun _ => true) k t).1 := by
  intro k
  induction k with
  | zero =>
    intro _
    have := (xrun_facts _ _ _ _ _ _ C.hrun).2.1
    rw [this]
    exact ⟨rfl, fun t _ => rfl⟩
  | succ k ih =>
    intro hk
    obtain ⟨i1, i2⟩ := ih (by omega)
    obtain ⟨r, xo, o, h1, h2, h3, h4, h5, h6, h7, h8, h9, h10, h11, h12, h13, h14, h15⟩ := C.at (i := k) (by omega)
    rw [h10]
    refine ⟨by cases xo.dst <;> simp [Env.put, i1], fun t ht => ?_⟩
    simp only [FW, fold, h11, h13, true_and]
    cases hd : xo.dst with
    | none => simp only [Env.put]; rw [if_neg (by simp)]; exact i2 t ht
    | some u =>
      by_cases e : u = t
      · subst e
        rw [if_pos rfl]
        simp only [Env.put, Array.getD_eq_getD_getElem?]
        rw [Array.getElem?_setIfInBounds_self_of_lt (by omega)]
        rfl
      · rw [if_neg (by simpa using e)]
        simp only [Env.put]
        rw [Array.getD_eq_getD_getElem?, Array.getElem?_setIfInBounds_ne e, ← Array.getD_eq_getD_getElem?]
        exact i2 t ht

/-- whatever is done closed under what goes before. -/
theorem DC.closed (C : DC P B cl ops d R env0 S0 env' S' pt) {dn : Nat → Bool} (hcl : ∀ i, i < ops.size → dn i = true → ∀ j ∈ aftF ops i, dn j = true) : ∀ i, i < ops.size → (∀ j ∈ aftF ops i, dn j = true) → ∀ j, pt i j → dn j = true := by
  intro i
  induction i using Nat.strongRecOn with
  | _ i ih =>
    intro hi hr j hj
    rcases C.c2 i hi j hj with h | ⟨k, hk, hkj⟩
    · exact hr j h
    · have hki := C.c1 i hi k hk
      exact ih k hki (by omega) (hcl k (by omega) (hr k hk)) j hkj

/-- the blocks that were made ahead of the text's order. -/
def Early (ops : Array Oper) (R : List Rec) (S' : St) (B : Nat) (w0 : World) (listed : Array Bool) (φ : Emb) (w : World) (q : Nat) : Prop :=
  ∀ id s, φ id = some s → (recT R S' q).next ≤ id → ∃ i, i < ops.size ∧ q ≤ i ∧ listed.getD i true = true ∧ ∃ b, recT R S' (i + 1) = (recT R S' i).alloc b ∧ id = (recT R S' i).next ∧ B ≤ s.b ∧ Born (φ.below (id + 1)) w s b ∧ w0.heap.size ≤ s.b ∧ ∀ j sj, j ≠ id → φ j = some sj → sj.b ≠ s.b

/-- the two machines in the middle of a region. -/
structure Inv (ops : Array Oper) (d : XDraw) (R : List Rec) (env0 : Env) (S0 S' : St) (B : Nat) (φ0 : Emb) (w0 : World) (df : List Deferred) (listed : Array Bool) (φ : Emb) (a : Act) (w : World) (q : Nat) : Prop where
  size : listed.size = ops.size
  closed : ∀ i, i < ops.size → listed.getD i true = true → ∀ j ∈ aftF ops i, listed.getD j true = true
  stage : (q = ops.size ∨ (q < ops.size ∧ anF d.ops q = true)) ∧ ∀ k, k < ops.size → anF d.ops k = true → (k < q → listed.getD k true = true) ∧ (q ≤ k → listed.getD k true = false)
  esize : a.tmps.size = env0.size
  env : ∀ t (h : t < a.tmps.size), Rel (φ.below (FW d R env0 S0 S' (fun j => listed.getD j true) ops.size t).2) (FW d R env0 S0 S' (fun j => listed.getD j true) ops.size t).1 a.tmps[t]
  mem : SK B φ0 S0 w0 (φ.below (recT R S' q).next) (recT R S' q) w
  early : Early ops R S' B w0 listed φ w q
  late : ∀ i, i < ops.size → listed.getD i true = false → ∀ b, recT R S' (i + 1) = (recT R S' i).alloc b → anF d.ops i = false → φ (recT R S' i).next = none
  defers : a.defers = df

theorem looks_opd {o : Oper} {x : Operand} (hx : x ∈ o.op.operands) : ∀ t, x = .tmp t → t ∈ o.looksAt ops := by
  intro t e
  subst e
  exact List.mem_append_left _ (List.mem_filterMap.2 ⟨.tmp t, by simpa using hx, rfl⟩)

/-- what a ready operation sees. -/
theorem Inv.sees (C : DC P B cl ops d R env0 S0 env' S' pt) {φ0 φ : Emb} {w0 w : World} {df : List Deferred} {listed : Array Bool} {a : Act} {q : Nat} (I : Inv ops d R env0 S0 S' B φ0 w0 df listed φ a w q) {i : Nat} (hi : i < ops.size)
    (hni : listed.getD i true = false) (hpt : ∀ j, pt i j → listed.getD j true = true) {t : Tmp} (ht : t ∈ looksF ops i) (hlt : t < a.tmps.size) :
    Rel (φ.below (recT R S' i).next) ((recE R env' i).getD t undef) a.tmps[t] := by
  have h1 : ∀ j, j < i → dstF d.ops j = some t → listed.getD j true = true := fun j hj hd => hpt j (C.c3 j i hj hi (.inl ⟨t, hd, .inl ht⟩))
  have h2 : ∀ j, i ≤ j → dstF d.ops j = some t → listed.getD j true = false := by
    intro j hj hd
    by_cases e : i = j
    · subst e; exact hni
    · by_cases hjn : j < ops.size
      · have hp := C.c3 i j (by omega) hjn (.inr ⟨t, hd, ht⟩)
        cases hl : listed.getD j true with
        | false => rfl
        | true =>
          have := C.closed I.closed j hjn (I.closed j hjn hl) i hp
          rw [hni] at this; cases this
      · have : dstF d.ops j = none := by simp [dstF, List.getElem?_eq_none (show d.ops.length ≤ j by have := C.len.1; omega)]
        rw [this] at hd; cases hd
  have hf := fold_read (val := valF R) (bd := fun k => (recT R S' (k + 1)).next) (v0 := fun t => env0.getD t undef) (b0 := S0.next) h1 h2 ops.size (by omega)
  have he := I.env t hlt
  have hEn := (C.envs i (by omega)).2 t (by rw [← I.esize]; exact hlt)
  rw [hEn]
  unfold FW at he ⊢
  rw [hf] at he
  exact he.mono (below_mono (Emb.le.refl _) (fold_bound (m := fun k => (recT R S' k).next) (by rw [C.T0]; exact Nat.le_refl _) (fun k => Nat.le_refl _) C.mono t i))

theorem Inv.opd (C : DC P B cl ops d R env0 S0 env' S' pt) {φ0 φ : Emb} {w0 w : World} {df : List Deferred} {listed : Array Bool} {a : Act} {q : Nat} (I : Inv ops d R env0 S0 S' B φ0 w0 df listed φ a w q) {i : Nat} (hi : i < ops.size)
    (hni : listed.getD i true = false) (hpt : ∀ j, pt i j → listed.getD j true = true) {o : Oper} (ho : ops[i]? = some o) {x : Operand} (hx : x ∈ o.op.operands) (hok : okOpd x = true) : Rel (φ.below (recT R S' i).next) ((recE R env' i).ev x) (a.eval x) := by
  cases x with
  | tmp t =>
    have ht : t ∈ looksF ops i := by
      simp only [looksF, ho]
      exact looks_opd hx t rfl
    simp only [Env.ev, Act.eval]
    by_cases hlt : t < a.tmps.size
    · have := I.sees C hi hni hpt ht hlt
      rw [Array.getD_eq_getD_getElem? (xs := a.tmps), Array.getElem?_eq_getElem hlt]
      exact this
    · have h2 : ¬ t < (recE R env' i).size := by rw [(C.envs i (by omega)).1, ← I.esize]; exact hlt
      rw [Array.getD_eq_getD_getElem?, Array.getD_eq_getD_getElem?, Array.getElem?_eq_none (Nat.not_lt.1 h2), Array.getElem?_eq_none (Nat.not_lt.1 hlt)]
      exact Rel.undef _
  | const v => exact flatV_rel hok _
  | func f => exact .func' ⟨rfl, fun i h => by simp at h⟩ ⟨rfl, fun i h => by simp at h⟩
  | global g => cases hok

theorem xstep_xop {cl : Caller} {o : XOp} (h : anch o = false) (ρ : Operand → Value) (S : St) : xstep cl o ρ S = xop o ρ S := by
  cases o <;> first | rfl | (simp [anch] at h; done)
theorem heapy_same {o : XOp} (h : heapy o = true) {ρ : Operand → Value} {S S' : St} {v : Value} (hx : xop o ρ S = some (v, S')) : S' = S := by
  cases o
  all_goals (first | (simp [heapy] at h; done) | skip)
  case load agg sz x =>
    simp only [xop] at hx
    split at hx
    · simp only [Option.bind_eq_some_iff, Option.map_eq_some_iff, Prod.mk.injEq] at hx
      obtain ⟨c, _, v0, _, _, rfl⟩ := hx
      rfl
    · cases hx
  case sl esz x lo hi =>
    simp only [xop] at hx
    split at hx
    case h_2 => cases hx
    split at hx
    case h_2 => cases hx
    split at hx
    case isFalse => cases hx
    unfold slRes at hx
    split at hx
    · split at hx
      · exact (Prod.mk.inj (Option.some.inj hx)).2.symm
      · cases hx
    · split at hx
      · exact (Prod.mk.inj (Option.some.inj hx)).2.symm
      · cases hx
    · cases hx

/-- an operation that floats leaves the text's memory, or makes one block. -/
theorem DC.float (C : DC P B cl ops d R env0 S0 env' S' pt) {i : Nat} (hi : i < ops.size) (ha : anF d.ops i = false) :
    recT R S' (i + 1) = recT R S' i ∨ ∃ b, recT R S' (i + 1) = (recT R S' i).alloc b := by
  obtain ⟨r, xo, o, e1, e2, e3, e4, e5, e6, e7, e8, e9, e10, e11, e12, e13, e14, e15⟩ := C.at hi
  cases hw : r.w with
  | false => exact .inl (e9 hw).2
  | true =>
    have h := e8 hw
    rw [e12] at ha
    rw [xstep_xop ha] at h
    cases h1 : heapy xo.op with
    | true => exact .inl (heapy_same h1 h)
    | false =>
      cases h2 : isAlloc xo.op with
      | false => exact .inl (pure_any ha h1 h2 h S0).1
      | true =>
        obtain ⟨b, _, h3, _⟩ := alloc_any h2 h
        exact .inr ⟨b, h3⟩

theorem below_succ_none {φ : Emb} {m : Nat} (h : φ m = none) : φ.below (m + 1) = φ.below m := by
  refine Emb.ext' (fun id => ?_) rfl
  rw [below_at, below_at]
  by_cases h1 : id < m
  · rw [if_pos h1, if_pos (by omega)]
  · by_cases h2 : id = m
    · subst h2; rw [if_pos (by omega), if_neg (by omega)]; exact h
    · rw [if_neg h1, if_neg (by omega)]
theorem below_succ_some {φ : Emb} {m : Nat} {s : Spot} (h : φ m = some s) : φ.below (m + 1) = (φ.below m).add m s := by
  refine Emb.ext' (fun id => ?_) rfl
  rw [below_at, Emb.add_at, below_at]
  by_cases h2 : id = m
  · subst h2; rw [if_pos (by omega), if_pos rfl]; exact h
  · rw [if_neg h2]
    by_cases h1 : id < m
    · rw [if_pos h1, if_pos (by omega)]
    · rw [if_neg h1, if_neg (by omega)]

/-- from one stage to the next: the blocks that were made early come in. -/
theorem advance (C : DC P B cl ops d R env0 S0 env' S' pt) {φ0 φ : Emb} {w0 w : World} {listed : Array Bool} (h0 : ∀ id s, φ0 id = some s → id < S0.next) :
    ∀ (m p : Nat), p + m = ops.size → SK B φ0 S0 w0 (φ.below (recT R S' p).next) (recT R S' p) w → Early ops R S' B w0 listed φ w p →
      ∃ q, p ≤ q ∧ (q = ops.size ∨ (q < ops.size ∧ anF d.ops q = true)) ∧ (∀ k, p ≤ k → k < q → anF d.ops k = false) ∧ SK B φ0 S0 w0 (φ.below (recT R S' q).next) (recT R S' q) w ∧ Early ops R S' B w0 listed φ w q := by
  intro m
  induction m with
  | zero =>
    intro p hp h1 h2
    exact ⟨p, Nat.le_refl _, .inl (by omega), fun k h3 h4 => by omega, h1, h2⟩
  | succ m ih =>
    intro p hp h1 h2
    by_cases ha : anF d.ops p = true
    · exact ⟨p, Nat.le_refl _, .inr ⟨by omega, ha⟩, fun k h3 h4 => by omega, h1, h2⟩
    · have ha' : anF d.ops p = false := Bool.eq_false_iff.2 ha
      have key : SK B φ0 S0 w0 (φ.below (recT R S' (p + 1)).next) (recT R S' (p + 1)) w ∧ Early ops R S' B w0 listed φ w (p + 1) := by
        rcases C.float (i := p) (by omega) ha' with hT | ⟨b0, hT⟩
        · rw [hT]
          refine ⟨h1, fun id s e hge => ?_⟩
          rw [hT] at hge
          obtain ⟨i, i1, i2, i3, b, i4, i5⟩ := h2 id s e hge
          refine ⟨i, i1, ?_, i3, b, i4, i5⟩
          by_cases ei : i = p
          · subst ei
            rw [hT] at i4
            have := congrArg St.next i4
            simp at this
          · omega
        · have hn : (recT R S' (p + 1)).next = (recT R S' p).next + 1 := by rw [hT]; rfl
          refine ⟨?_, fun id s e hge => ?_⟩
          · rw [hn]
            have hsk := h1.skip b0
            rw [← hT] at hsk
            cases hm : φ (recT R S' p).next with
            | none => rw [below_succ_none hm]; exact hsk
            | some s =>
              rw [below_succ_some hm]
              obtain ⟨i, i1, i2, i3, b1, i4, i5, i8, iB, i12, i13⟩ := h2 _ s hm (Nat.le_refl _)
              have hip : i = p := by
                rcases Nat.lt_or_ge p i with hlt | hge2
                · have a1 := C.mono' (i := p + 1) (j := i) (by omega)
                  omega
                · omega
              subst hip
              rw [hT] at i4
              have hb : b0 = b1 := by
                have e1 : ((recT R S' i).alloc b0).get (recT R S' i).next = b0 := by rw [St.get_alloc, if_pos rfl]
                have e2 : ((recT R S' i).alloc b1).get (recT R S' i).next = b1 := by rw [St.get_alloc, if_pos rfl]
                rw [← e1, ← e2, i4]
              subst hb
              refine hsk.insert (b := b0) ?_ ?_ (by rw [hn]; omega) ?_ ?_ i8 (by rw [← below_succ_some hm]; exact iB) i12 ?_
              · rw [below_at, if_neg (by omega)]
              · cases h3 : φ0 (recT R S' i).next with
                | none => rfl
                | some s3 =>
                  have a1 := h0 _ s3 h3
                  have a2 := C.mono' (i := 0) (j := i) (by omega)
                  rw [C.T0] at a2
                  omega
              · have a2 := C.mono' (i := 0) (j := i) (by omega)
                rw [C.T0] at a2
                exact a2
              · rw [hT, St.get_alloc, if_pos rfl]
              · intro j sj hj
                have := below_some hj
                exact i13 j sj (by omega) this.2
          · rw [hn] at hge
            obtain ⟨i, i1, i2, i3, b', i4, i5, i6⟩ := h2 id s e (by omega)
            refine ⟨i, i1, ?_, i3, b', i4, i5, i6⟩
            by_cases ei : i = p
            · subst ei; omega
            · omega
      obtain ⟨q, k1, k2, k3, k4, k5⟩ := ih (p + 1) (by omega) key.1 key.2
      exact ⟨q, by omega, k2, fun k g1 g2 => by
        by_cases e : k = p
        · rw [e]; exact ha'
        · exact k3 k (by omega) g2, k4, k5⟩
end
end Go.Proofs.YtofjnhdgkhfgnaaDoor

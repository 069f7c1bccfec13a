/- The evaluator of closed computations: quick forms of the operations on memory. No program in sight. -/
import Derived.Test.YtofjnhdgkhfgnaaDoorKf
set_option linter.unusedVariables false
set_option linter.unusedSimpArgs false
set_option linter.unusedSectionVars false
namespace Go.Proofs.YtofjnhdgkhfgnaaDoor
open Go Go.RowKit

/-- a part of a list, handed on. -/
noncomputable def takeC (n : Nat) : List Value → (List Value → Bool) → Bool := @Nat.rec (fun _ => List Value → (List Value → Bool) → Bool) (fun _ k => k []) (fun _ ih l k => @List.rec Value (fun _ => Bool) false (fun x t _ => ih t fun r => k (x :: r)) l) n
theorem takeC_ok : ∀ {n : Nat} {l : List Value} {k : List Value → Bool}, takeC n l k = true → n ≤ l.length ∧ k (l.take n) = true := by
  intro n
  induction n with
  | zero => intro l k h; exact ⟨Nat.zero_le _, h⟩
  | succ n ih =>
    intro l k h
    cases l with
    | nil => cases h
    | cons x t =>
      obtain ⟨h1, h2⟩ := ih (l := t) (k := fun r => k (x :: r)) h
      exact ⟨Nat.succ_le_succ h1, h2⟩
noncomputable def stoR (vs : List Value) : List Value → (List Value → Bool) → Bool := @List.rec Value (fun _ => List Value → (List Value → Bool) → Bool) (fun c k => k c)
  (fun v _ ih c k => @List.rec Value (fun _ => Bool) false (fun _ t _ => @Bool.rec (fun _ => Bool) false (ih t fun r => k (v :: r)) v.oneCell') c) vs
theorem stoR_ok : ∀ {vs c : List Value} {k : List Value → Bool}, stoR vs c k = true → vs.length ≤ c.length ∧ allOne vs = true ∧ k (vs ++ c.drop vs.length) = true := by
  intro vs
  induction vs with
  | nil => intro c k h; exact ⟨Nat.zero_le _, rfl, h⟩
  | cons v vs ih =>
    intro c k h
    cases c with
    | nil => cases h
    | cons x t =>
      have h : @Bool.rec (fun _ => Bool) false (stoR vs t fun r => k (v :: r)) v.oneCell' = true := h
      cases hv : v.oneCell' with
      | false => rw [hv] at h; cases h
      | true =>
        rw [hv] at h
        obtain ⟨h1, h2, h3⟩ := ih (c := t) (k := fun r => k (v :: r)) h
        refine ⟨Nat.succ_le_succ h1, ?_, h3⟩
        unfold allOne at h2 ⊢
        rw [List.all_cons, hv, h2]; rfl
noncomputable def sto (vs : List Value) (o : Nat) : List Value → (List Value → Bool) → Bool := @Nat.rec (fun _ => List Value → (List Value → Bool) → Bool) (stoR vs) (fun _ ih c k => @List.rec Value (fun _ => Bool) false (fun x t _ => ih t fun r => k (x :: r)) c) o
theorem sto_ok {vs : List Value} : ∀ {o : Nat} {c : List Value} {k : List Value → Bool}, sto vs o c k = true → o + vs.length ≤ c.length ∧ allOne vs = true ∧ k (splice c o vs) = true := by
  intro o
  induction o with
  | zero =>
    intro c k h
    obtain ⟨h1, h2, h3⟩ := stoR_ok h
    refine ⟨by omega, h2, ?_⟩
    unfold splice
    rw [List.take_zero, List.nil_append, Nat.zero_add]
    exact h3
  | succ o ih =>
    intro c k h
    cases c with
    | nil => cases h
    | cons x t =>
      obtain ⟨h1, h2, h3⟩ := ih (c := t) (k := fun r => k (x :: r)) h
      refine ⟨by simp only [List.length_cons]; omega, h2, ?_⟩
      unfold splice at h3 ⊢
      rw [show o + 1 + vs.length = (o + vs.length) + 1 by omega, List.take_succ_cons, List.drop_succ_cons]
      exact h3
/-- what is behind a list is put there. -/
noncomputable def capp (news : List Value) (n : Nat) : List Value → (List Value → Bool) → Bool := @Nat.rec (fun _ => List Value → (List Value → Bool) → Bool) (fun l k => @List.rec Value (fun _ => Bool) (k news) (fun _ _ _ => false) l) (fun _ ih l k => @List.rec Value (fun _ => Bool) false (fun x t _ => ih t fun r => k (x :: r)) l) n
theorem capp_ok {news : List Value} : ∀ {n : Nat} {l : List Value} {k : List Value → Bool}, capp news n l k = true → l.length = n ∧ k (l ++ news) = true := by
  intro n
  induction n with
  | zero =>
    intro l k h
    cases l with
    | nil => exact ⟨rfl, h⟩
    | cons x t => cases h
  | succ n ih =>
    intro l k h
    cases l with
    | nil => cases h
    | cons x t =>
      obtain ⟨h1, h2⟩ := ih (l := t) (k := fun r => k (x :: r)) h
      exact ⟨by rw [List.length_cons, h1], h2⟩
/-- a row of the memory. -/
noncomputable def asRow (h : Tr Blk) (id : Nat) (k : List Value → TypeId → Nat → Bool → List Nat → Bool) : Bool := @Option.rec Blk (fun _ => Bool) false (fun b => @Blk.rec (fun _ => Bool) false (fun c t z m an => k c t z m an) (fun _ => false) b) (kget h id)
theorem asRow_ok {h : Tr Blk} {id : Nat} {k : List Value → TypeId → Nat → Bool → List Nat → Bool} (hk : asRow h id k = true) (nx : Nat) : ∃ c t z m an, (St.mk h nx).get id = .cells c t z m an ∧ k c t z m an = true := by
  unfold asRow at hk
  rw [kget_eq] at hk
  unfold St.get
  cases e : h.get id with
  | none => rw [e] at hk; cases hk
  | some b =>
    rw [e] at hk
    cases b with
    | gone => cases hk
    | obj o => cases hk
    | cells c t z m an => exact ⟨c, t, z, m, an, rfl, hk⟩

abbrev KOp := KCall → T4 → Tr Blk → Nat → KV → Bool
/-- any operation. -/
noncomputable def cgen (o : XOp) : KOp := fun cl env h nx k => match kop o (qval env) ⟨h, nx⟩ with
  | some a => kact cl a h nx k
  | none => false
noncomputable def c_mv (x : Operand) : KOp := fun cl env h nx k => qv env x fun v => k v h nx
noncomputable def c_pick (c a b : Operand) : KOp := fun cl env h nx k => qv env c fun v => asBool v fun q => @Bool.rec (fun _ => Bool) (qv env b fun v => k v h nx) (qv env a fun v => k v h nx) q
noncomputable def c_box (t : TypeId) (x : Operand) : KOp := fun cl env h nx k => qv env x fun v => @Bool.rec (fun _ => Bool) false (fN (vcells v).length fun n => kset (.cells (vcells v) t n true []) 40 h nx fun h => fN (Nat.succ nx) fun nx' => k (.pointer (some ⟨nx, 0, none⟩)) h nx') (allOne (vcells v))
noncomputable def c_zero (t : TypeId) (z : Value) : KOp := fun cl env h nx k => fN (vcells z).length fun n => kset (.cells (vcells z) t n true []) 40 h nx fun h => fN (Nat.succ nx) fun nx' => k (.pointer (some ⟨nx, 0, none⟩)) h nx'
noncomputable def c_load (agg : Bool) (sz : Nat) (x : Operand) : KOp := fun cl env h nx k => @Nat.rec (fun _ => Bool) (cgen (.load agg 0 x) cl env h nx k) (fun n _ => qv env x fun p => asPtr p fun id o => asRow h id fun c _ _ _ _ =>
  @Bool.rec (fun _ => Bool) (@Bool.rec (fun _ => Bool) false (@List.rec Value (fun _ => Bool) false (fun x _ _ => k x h nx) (ldrop c o)) (Nat.beq n 0)) (takeC (Nat.succ n) (ldrop c o) fun l => k (.agg ⟨l⟩) h nx) agg) sz
noncomputable def c_store (sz : Nat) (a x : Operand) : KOp := fun cl env h nx k => qv env a fun p => asPtr p fun id o => qv env x fun v => asRow h id fun c t z m an => @Bool.rec (fun _ => Bool) false (@Bool.rec (fun _ => Bool) false
  (sto (vcells v) o c fun c => kkill an (fun h => kset (.cells c t z true []) 40 h id fun h => k undef h nx) h) (Nat.beq (vcells v).length sz)) m
noncomputable def c_nilck (x : Operand) : KOp := fun cl env h nx k => qv env x fun v => @Bool.rec (fun _ => Bool) (cgen (.nilck x) cl env h nx k) (k v h nx) (asPtr v fun _ _ => true)
noncomputable def c_bin (op : BinOp) (x y : Operand) : KOp := fun cl env h nx k => qv env x fun a => qv env y fun b => kbin op a b fun v => k v h nx
noncomputable def c_fa (off : Nat) (x : Operand) : KOp := fun cl env h nx k => qv env x fun p => asPtr p fun id o => fN (Nat.add o off) fun o => k (.pointer (some ⟨id, o, none⟩)) h nx
noncomputable def c_ia (esz : Nat) (x i : Operand) : KOp := fun cl env h nx k => qv env x fun s => asSlice s fun a n c => asAddr a fun id o => qv env i fun i => asInt i fun _ i => @Int.rec (fun _ => Bool) (fun m => @Bool.rec (fun _ => Bool) false (fN (Nat.add o (Nat.mul m esz)) fun o => k (.pointer (some ⟨id, o, none⟩)) h nx) (Nat.ble (Nat.succ m) n)) (fun _ => false) i
noncomputable def c_ext (x : Operand) (i : Nat) : KOp := fun cl env h nx k => qv env x fun t => asTup t fun l => @List.rec Value (fun _ => Bool) false (fun x _ _ => k x h nx) (ldrop l i)
noncomputable def fillC (env : T4) (ps : List (Nat × Nat × Operand)) : List Value → (List Value → Bool) → Bool := @List.rec (Nat × Nat × Operand) (fun _ => List Value → (List Value → Bool) → Bool) (fun l k => k l)
  (fun p _ ih l k => qv env p.2.2 fun v => @Bool.rec (fun _ => Bool) false (sto (vcells v) p.1 l fun l => ih l k) (Nat.beq (vcells v).length p.2.1)) ps
noncomputable def c_build (z : List Value) (parts : List (Nat × Nat × Operand)) : KOp := fun cl env h nx k => fillC env parts z fun l => k (.agg ⟨l⟩) h nx
noncomputable def c_buildSlice (e : TypeId) (esz n : Nat) (z : List Value) (parts : List (Nat × Nat × Operand)) : KOp := fun cl env h nx k => @Bool.rec (fun _ => Bool) false (fS (rep n z) fun l => fillC env parts l fun l => @Bool.rec (fun _ => Bool) false
  (kset (.cells l e esz true []) 40 h nx fun h => fN (Nat.succ nx) fun nx' => k (.slice (some ⟨nx, 0, none⟩) n n) h nx') (allOne l)) (Nat.beq z.length esz)
noncomputable def c_len (x : Operand) : KOp := fun cl env h nx k => qv env x fun s => asSlice s fun a n c => k (.int .i64 (.ofNat n)) h nx
noncomputable def c_lenStr (x : Operand) : KOp := fun cl env h nx k => qv env x fun s => asStr s fun s => fN s.data.toList.length fun n => k (.int .i64 (.ofNat n)) h nx
noncomputable def c_idxStr (x i : Operand) : KOp := fun cl env h nx k => qv env x fun s => asStr s fun s => qv env i fun i => asInt i fun _ i => @Int.rec (fun _ => Bool) (fun m => @List.rec UInt8 (fun _ => Bool) false (fun b _ _ => fN b.toNat fun n => k (.int .u8 (.ofNat n)) h nx) (ldrop s.data.toList m)) (fun _ => false) i
noncomputable def kargL (env : T4) (l : List Operand) : (List Value → Bool) → Bool := @List.rec Operand (fun _ => (List Value → Bool) → Bool) (fun k => k []) (fun x _ ih k => qv env x fun v => ih fun r => k (v :: r)) l
noncomputable def c_call (f : FuncId) (args : Array Operand) : KOp := fun cl env h nx k => kargL env args.toList fun l => cl (.func f) l h nx k
noncomputable def c_append (e : TypeId) (esz bytes : Nat) (s x : Operand) : KOp := fun cl env h nx k => qv env x fun xv => asSlice xv fun a m _ => @Nat.rec (fun _ => Bool) (cgen (.append e esz bytes s x) cl env h nx k) (fun _ _ => asAddr a fun id2 o2 => asRow h id2 fun cc2 _ _ _ _ =>
  takeC (Nat.mul m esz) (ldrop cc2 o2) fun news => @Bool.rec (fun _ => Bool) false (qv env s fun sv => asSlice sv fun b n cap => @Option.rec Addr (fun _ => Bool)
    (@Bool.rec (fun _ => Bool) false (kset (.cells news e esz true []) 40 h nx fun h => fN (Nat.succ nx) fun nx' => k (.slice (some ⟨nx, 0, none⟩) m m) h nx') (and (and (Nat.beq n 0) (Nat.beq cap 0)) (Nat.ble (Nat.mul m bytes) reach)))
    (fun b => @Bool.rec (fun _ => Bool) (cgen (.append e esz bytes s x) cl env h nx k) (asAddr (some b) fun id o => asRow h id fun cc t z mine an => @Bool.rec (fun _ => Bool) false
      (capp news (Nat.mul n esz) (ldrop cc o) fun c2 => fN (Nat.add n m) fun n2 => kset (.cells cc t z false an) 40 h id fun h => kset (.cells c2 e z true (id :: an)) 40 h nx fun h => fN (Nat.succ nx) fun nx' => k (.slice (some ⟨nx, 0, none⟩) n2 n2) h nx')
      (and (and mine (Nat.beq z esz)) (and (Nat.ble o cc.length) (Nat.ble (Nat.mul (Nat.add n m) bytes) reach)))) (Nat.beq n cap)) b)
    (and (allOne news) (and (Nat.ble 1 esz) (Nat.ble 1 bytes)))) m

/-- what a quick form says is what the machine does. -/
def KFit (o : XOp) (env : T4) (h : Tr Blk) (nx : Nat) (k : KV) : Prop := ∃ v S', xop o (qval env) ⟨h, nx⟩ = some (v, S') ∧ k v S'.heap S'.next = true
section
variable {cl : KCall} {env : T4} {h : Tr Blk} {nx : Nat} {k : KV}
theorem c_mv_ok {x : Operand} (hk : c_mv x cl env h nx k = true) : KFit (.mv x) env h nx k := by
  unfold c_mv at hk
  rw [qv_eq] at hk
  exact ⟨_, _, rfl, hk⟩
theorem c_pick_ok {c a b : Operand} (hk : c_pick c a b cl env h nx k = true) : KFit (.pick c a b) env h nx k := by
  unfold c_pick at hk
  rw [qv_eq, qv_eq, qv_eq] at hk
  obtain ⟨q, hq, hk⟩ := asBool_ok hk
  unfold KFit
  simp only [xop, hq]
  cases q <;> exact ⟨_, _, rfl, hk⟩
theorem alloc_eq (h : Tr Blk) (nx : Nat) (b : Blk) : (St.mk h nx).alloc b = ⟨Tr.set nx h nx b, nx + 1⟩ := rfl
theorem c_box_ok {t : TypeId} {x : Operand} (hk : c_box t x cl env h nx k = true) : KFit (.box t x) env h nx k := by
  unfold c_box at hk
  rw [qv_eq, vcells_eq] at hk
  unfold KFit
  simp only [xop]
  cases ha : allOne (qval env x).cells.toList with
  | false => rw [ha] at hk; cases hk
  | true =>
    rw [ha] at hk
    simp only [fN_eq] at hk
    exact ⟨_, _, rfl, kset_eq _ _ _ _ _ hk⟩
theorem c_zero_ok {t : TypeId} {z : Value} (hk : c_zero t z cl env h nx k = true) : KFit (.zero t z) env h nx k := by
  unfold c_zero at hk
  rw [vcells_eq] at hk
  simp only [fN_eq] at hk
  exact ⟨_, _, rfl, kset_eq _ _ _ _ _ hk⟩
theorem c_load_ok {agg : Bool} {sz : Nat} {x : Operand} (hg : cgen (.load agg 0 x) cl env h nx k = true → KFit (.load agg 0 x) env h nx k) (hk : c_load agg sz x cl env h nx k = true) : KFit (.load agg sz x) env h nx k := by
  cases sz with
  | zero => exact hg hk
  | succ n =>
    have hk : (qv env x fun p => asPtr p fun id o => asRow h id fun c _ _ _ _ =>
      @Bool.rec (fun _ => Bool) (@Bool.rec (fun _ => Bool) false (@List.rec Value (fun _ => Bool) false (fun x _ _ => k x h nx) (ldrop c o)) (Nat.beq n 0)) (takeC (Nat.succ n) (ldrop c o) fun l => k (.agg ⟨l⟩) h nx) agg) = true := hk
    rw [qv_eq] at hk
    obtain ⟨id, o, hp, hk⟩ := asPtr_ok hk
    obtain ⟨c, t, z, m, an, hb, hk⟩ := asRow_ok hk nx
    unfold KFit
    simp only [xop, hp, St.rd, hb]
    cases agg with
    | true =>
      obtain ⟨h1, h2⟩ := takeC_ok hk
      rw [ldrop_eq, List.length_drop] at h1
      rw [ldrop_eq] at h2
      rw [if_pos (by omega)]
      exact ⟨_, _, rfl, h2⟩
    | false =>
      have hk : @Bool.rec (fun _ => Bool) false (@List.rec Value (fun _ => Bool) false (fun x _ _ => k x h nx) (ldrop c o)) (Nat.beq n 0) = true := hk
      by_cases hn : n = 0
      · subst hn
        have hk : @List.rec Value (fun _ => Bool) false (fun x _ _ => k x h nx) (ldrop c o) = true := hk
        rw [ldrop_eq] at hk
        cases e : c.drop o with
        | nil => rw [e] at hk; cases hk
        | cons y l =>
          rw [e] at hk
          have hl : (c.drop o).length = l.length + 1 := by rw [e]; rfl
          rw [List.length_drop] at hl
          rw [if_pos (by omega)]
          exact ⟨y, _, rfl, hk⟩
      · rw [beq_f hn] at hk; cases hk
theorem c_store_ok {sz : Nat} {a x : Operand} (hk : c_store sz a x cl env h nx k = true) : KFit (.store sz a x) env h nx k := by
  unfold c_store at hk
  rw [qv_eq] at hk
  obtain ⟨id, o, hp, hk⟩ := asPtr_ok hk
  rw [qv_eq] at hk
  obtain ⟨c, t, z, m, an, hb, hk⟩ := asRow_ok hk nx
  cases m with
  | false => cases hk
  | true =>
    have hk : @Bool.rec (fun _ => Bool) false (sto (vcells (qval env x)) o c fun c => kkill an (fun h => kset (.cells c t z true []) 40 h id fun h => k undef h nx) h) (Nat.beq (vcells (qval env x)).length sz) = true := hk
    rw [vcells_eq] at hk
    by_cases hs : (qval env x).cells.toList.length = sz
    · rw [beq_t hs] at hk
      obtain ⟨h1, h2, h3⟩ := sto_ok hk
      obtain ⟨h', e1, e2⟩ := kkill_ok (nx := nx) h3
      have e3 := kset_eq _ _ _ _ _ e2
      unfold KFit
      simp only [xop, hp, hb]
      have hs' : (qval env x).cells.size = sz := by rw [← Array.length_toList]; exact hs
      rw [if_pos ⟨hs', by omega, h2⟩]
      refine ⟨_, _, rfl, ?_⟩
      unfold St.write
      rw [e1]
      exact e3
    · rw [beq_f hs] at hk; cases hk
theorem c_nilck_ok {x : Operand} (hg : cgen (.nilck x) cl env h nx k = true → KFit (.nilck x) env h nx k) (hk : c_nilck x cl env h nx k = true) : KFit (.nilck x) env h nx k := by
  unfold c_nilck at hk
  rw [qv_eq] at hk
  cases ha : asPtr (qval env x) fun _ _ => true with
  | false => rw [ha] at hk; exact hg hk
  | true =>
    rw [ha] at hk
    obtain ⟨b, o, hp, _⟩ := asPtr_ok ha
    unfold KFit
    simp only [xop, hp]
    rw [hp] at hk
    exact ⟨_, _, rfl, hk⟩
theorem c_bin_ok {op : BinOp} {x y : Operand} (hk : c_bin op x y cl env h nx k = true) : KFit (.bin op x y) env h nx k := by
  unfold c_bin at hk
  rw [qv_eq, qv_eq] at hk
  obtain ⟨v, h1, h2⟩ := kbin_ok hk
  exact ⟨v, ⟨h, nx⟩, by simp only [xop, h1, Option.map_some], h2⟩
theorem c_fa_ok {off : Nat} {x : Operand} (hk : c_fa off x cl env h nx k = true) : KFit (.fa off x) env h nx k := by
  unfold c_fa at hk
  rw [qv_eq] at hk
  obtain ⟨b, o, hp, hk⟩ := asPtr_ok hk
  rw [fN_eq] at hk
  unfold KFit
  simp only [xop, hp]
  exact ⟨_, _, rfl, hk⟩
theorem c_ia_ok {esz : Nat} {x i : Operand} (hk : c_ia esz x i cl env h nx k = true) : KFit (.ia esz x i) env h nx k := by
  unfold c_ia at hk
  rw [qv_eq] at hk
  obtain ⟨a, n, c, hs, hk⟩ := asSlice_ok hk
  obtain ⟨id, o, rfl, hk2⟩ := asAddr_ok hk
  clear hk
  rw [qv_eq] at hk2
  obtain ⟨j, i', hi, hk⟩ := asInt_ok hk2
  clear hk2
  cases i' with
  | negSucc m => cases hk
  | ofNat m =>
    have hk : @Bool.rec (fun _ => Bool) false (fN (Nat.add o (Nat.mul m esz)) fun o => k (.pointer (some ⟨id, o, none⟩)) h nx) (Nat.ble (Nat.succ m) n) = true := hk
    by_cases hm : Nat.succ m ≤ n
    · rw [ble_t hm] at hk
      have hk : (fN (Nat.add o (Nat.mul m esz)) fun o => k (.pointer (some ⟨id, o, none⟩)) h nx) = true := hk
      rw [fN_eq] at hk
      unfold KFit
      simp only [xop, hs, hi]
      rw [if_pos ⟨by simp only [Int.ofNat_eq_natCast]; omega, by simp only [Int.ofNat_eq_natCast]; omega⟩]
      exact ⟨_, _, rfl, hk⟩
    · rw [ble_f hm] at hk; cases hk
theorem c_ext_ok {x : Operand} {i : Nat} (hk : c_ext x i cl env h nx k = true) : KFit (.ext x i) env h nx k := by
  unfold c_ext at hk
  rw [qv_eq] at hk
  obtain ⟨a, ha, hk⟩ := asTup_ok hk
  rw [ldrop_eq] at hk
  unfold KFit
  simp only [xop, ha]
  cases e : a.toList.drop i with
  | nil => rw [e] at hk; cases hk
  | cons y l =>
    rw [e] at hk
    have h2 : a[i]? = some y := by
      rw [← Array.getElem?_toList, ← List.head?_drop, e]; rfl
    rw [h2]
    exact ⟨_, _, rfl, hk⟩
theorem fillC_ok : ∀ {ps : List (Nat × Nat × Operand)} {l : List Value} {k : List Value → Bool}, fillC env ps l k = true → ∃ r, fillL l (ps.map fun p => (p.1, p.2.1, qval env p.2.2)) = some r ∧ k r = true := by
  intro ps
  induction ps with
  | nil => intro l k hk; exact ⟨l, rfl, hk⟩
  | cons p ps ih =>
    intro l k hk
    have hk : (qv env p.2.2 fun v => @Bool.rec (fun _ => Bool) false (sto (vcells v) p.1 l fun l => fillC env ps l k) (Nat.beq (vcells v).length p.2.1)) = true := hk
    rw [qv_eq, vcells_eq] at hk
    by_cases hs : (qval env p.2.2).cells.toList.length = p.2.1
    · rw [beq_t hs] at hk
      obtain ⟨h1, h2, h3⟩ := sto_ok hk
      obtain ⟨r, h4, h5⟩ := ih h3
      refine ⟨r, ?_, h5⟩
      simp only [List.map_cons, fillL]
      have hs' : (qval env p.2.2).cells.size = p.2.1 := by rw [← Array.length_toList]; exact hs
      rw [if_pos ⟨hs', by omega⟩]
      exact h4
    · rw [beq_f hs] at hk; cases hk
theorem c_build_ok {z : List Value} {parts : List (Nat × Nat × Operand)} (hk : c_build z parts cl env h nx k = true) : KFit (.build z parts) env h nx k := by
  obtain ⟨r, h1, h2⟩ := fillC_ok hk
  exact ⟨_, ⟨h, nx⟩, by simp only [xop, h1, Option.map_some], h2⟩
theorem c_buildSlice_ok {e : TypeId} {esz n : Nat} {z : List Value} {parts : List (Nat × Nat × Operand)} (hk : c_buildSlice e esz n z parts cl env h nx k = true) : KFit (.buildSlice e esz n z parts) env h nx k := by
  unfold c_buildSlice at hk
  by_cases hz : z.length = esz
  · rw [beq_t hz] at hk
    have hk := (fS_eq (rep n z) _).symm.trans hk
    obtain ⟨r, h1, h2⟩ := fillC_ok hk
    unfold KFit
    simp only [xop, if_pos hz, h1, Option.bind_some]
    cases ha : allOne r with
    | false => rw [ha] at h2; cases h2
    | true =>
      rw [ha] at h2
      have h3 := kset_eq _ _ _ _ _ h2
      rw [fN_eq] at h3
      exact ⟨_, _, rfl, h3⟩
  · rw [beq_f hz] at hk; cases hk
theorem c_len_ok {x : Operand} (hk : c_len x cl env h nx k = true) : KFit (.len x) env h nx k := by
  unfold c_len at hk
  rw [qv_eq] at hk
  obtain ⟨a, n, c, hs, hk⟩ := asSlice_ok hk
  unfold KFit
  simp only [xop, hs]
  exact ⟨_, _, rfl, hk⟩
theorem c_lenStr_ok {x : Operand} (hk : c_lenStr x cl env h nx k = true) : KFit (.lenStr x) env h nx k := by
  unfold c_lenStr at hk
  rw [qv_eq] at hk
  obtain ⟨s, hs, hk⟩ := asStr_ok hk
  rw [fN_eq] at hk
  unfold KFit
  simp only [xop, hs]
  exact ⟨_, _, rfl, hk⟩
theorem c_idxStr_ok {x i : Operand} (hk : c_idxStr x i cl env h nx k = true) : KFit (.idxStr x i) env h nx k := by
  unfold c_idxStr at hk
  rw [qv_eq] at hk
  obtain ⟨s, hs, hk⟩ := asStr_ok hk
  rw [qv_eq] at hk
  obtain ⟨j, i', hi, hk⟩ := asInt_ok hk
  cases i' with
  | negSucc m => cases hk
  | ofNat m =>
    have hk : @List.rec UInt8 (fun _ => Bool) false (fun b _ _ => fN b.toNat fun n => k (.int .u8 (.ofNat n)) h nx) (ldrop s.data.toList m) = true := hk
    rw [ldrop_eq] at hk
    unfold KFit
    simp only [xop, hs, hi]
    rw [if_pos (by simp only [Int.ofNat_eq_natCast]; omega)]
    cases e : s.data.toList.drop m with
    | nil => rw [e] at hk; cases hk
    | cons y l =>
      rw [e] at hk
      have hk : (fN y.toNat fun n => k (.int .u8 (.ofNat n)) h nx) = true := hk
      rw [fN_eq] at hk
      have h2 : s[(Int.ofNat m).toNat]? = some y := by
        have e2 : s[m]? = s.data.toList[m]? := by rw [Array.getElem?_toList]; rfl
        show s[m]? = some y
        rw [e2, ← List.head?_drop, e]; rfl
      rw [h2]
      exact ⟨_, _, rfl, hk⟩
theorem c_append_ok {e : TypeId} {esz bytes : Nat} {s x : Operand} (hg : cgen (.append e esz bytes s x) cl env h nx k = true → KFit (.append e esz bytes s x) env h nx k) (hk : c_append e esz bytes s x cl env h nx k = true) : KFit (.append e esz bytes s x) env h nx k := by
  unfold c_append at hk
  rw [qv_eq] at hk
  obtain ⟨a, m, cm, hx, hk⟩ := asSlice_ok hk
  cases m with
  | zero => exact hg hk
  | succ m =>
  obtain ⟨id2, o2, ha, hk⟩ := asAddr_ok hk
  obtain ⟨cc2, t2, z2, m2, an2, hb2, hk⟩ := asRow_ok hk nx
  obtain ⟨hl, hk⟩ := takeC_ok hk
  rw [ldrop_eq] at hk hl
  rw [List.length_drop] at hl
  have hml : Nat.mul (m + 1) esz = (m + 1) * esz := rfl
  rw [hml] at hk hl
  generalize hnews : List.take ((m + 1) * esz) (List.drop o2 cc2) = news at hk
  cases hal : (allOne news && (Nat.ble 1 esz && Nat.ble 1 bytes)) with
  | false => rw [hal] at hk; cases hk
  | true =>
  rw [hal] at hk
  simp only [Bool.and_eq_true, Nat.ble_eq] at hal
  obtain ⟨hal, hez, hby⟩ := hal
  have hk := (qv_eq env s _).symm.trans hk
  obtain ⟨b, n, cap, hsv, hk⟩ := asSlice_ok hk
  have hcond : o2 + (m + 1) * esz ≤ cc2.length := by
    have : 1 ≤ (m + 1) * esz := Nat.le_trans hez (Nat.le_mul_of_pos_left _ (by omega))
    omega
  have hel : St.elems ⟨h, nx⟩ esz (.slice (some ⟨id2, o2, none⟩) (m + 1) cm) = some news := by
    have : St.rd ⟨h, nx⟩ id2 o2 ((m + 1) * esz) = some news := by
      simp only [St.rd, hb2]
      rw [if_pos hcond, hnews]
    exact this
  have hc2 : (allOne news && decide (0 < esz) && decide (0 < bytes)) = true := by
    rw [hal, decide_eq_true (show 0 < esz by omega), decide_eq_true (show 0 < bytes by omega)]; rfl
  rw [ha] at hx
  cases b with
  | none =>
    have hk : @Bool.rec (fun _ => Bool) false (kset (.cells news e esz true []) 40 h nx fun h => fN (Nat.succ nx) fun nx' => k (.slice (some ⟨nx, 0, none⟩) (m + 1) (m + 1)) h nx') (Nat.beq n 0 && Nat.beq cap 0 && Nat.ble (Nat.mul (m + 1) bytes) reach) = true := hk
    cases hq : (Nat.beq n 0 && Nat.beq cap 0 && Nat.ble (Nat.mul (m + 1) bytes) reach) with
    | false => rw [hq] at hk; cases hk
    | true =>
      rw [hq] at hk
      simp only [Bool.and_eq_true, Nat.ble_eq] at hq
      have hn := Nat.eq_of_beq_eq_true hq.1.1
      have hcp := Nat.eq_of_beq_eq_true hq.1.2
      have h3 := kset_eq _ _ _ _ _ hk
      rw [fN_eq] at h3
      have hr : (m + 1) * bytes ≤ reach := hq.2
      rw [hn, hcp] at hsv
      refine ⟨.slice (some ⟨nx, 0, none⟩) (m + 1) (m + 1), (St.mk h nx).alloc (.cells news e esz true []), ?_, h3⟩
      simp only [xop, hx, hsv, xappend, hel, vlen]
      rw [if_neg (Nat.succ_ne_zero m), if_pos hc2, if_pos hr]
  | some b =>
    have hk : @Bool.rec (fun _ => Bool) (cgen (.append e esz bytes s x) cl env h nx k) (asAddr (some b) fun id o => asRow h id fun cc t z mine an => @Bool.rec (fun _ => Bool) false
      (capp news (Nat.mul n esz) (ldrop cc o) fun c2 => fN (Nat.add n (m + 1)) fun n2 => kset (.cells cc t z false an) 40 h id fun h => kset (.cells c2 e z true (id :: an)) 40 h nx fun h => fN (Nat.succ nx) fun nx' => k (.slice (some ⟨nx, 0, none⟩) n2 n2) h nx')
      (and (and mine (Nat.beq z esz)) (and (Nat.ble o cc.length) (Nat.ble (Nat.mul (Nat.add n (m + 1)) bytes) reach)))) (Nat.beq n cap) = true := hk
    by_cases hnc : n = cap
    · rw [beq_t hnc] at hk
      obtain ⟨id, o, hb, hk⟩ := asAddr_ok hk
      obtain ⟨cc, t, z, mine, an, hrow, hk⟩ := asRow_ok hk nx
      cases hq : (and (and mine (Nat.beq z esz)) (and (Nat.ble o cc.length) (Nat.ble (Nat.mul (Nat.add n (m + 1)) bytes) reach))) with
      | false => rw [hq] at hk; cases hk
      | true =>
        rw [hq] at hk
        simp only [Bool.and_eq_true, Nat.ble_eq] at hq
        obtain ⟨⟨hmine, hz⟩, ho, hr⟩ := hq
        have hz := Nat.eq_of_beq_eq_true hz
        obtain ⟨hc, hk⟩ := capp_ok hk
        rw [ldrop_eq] at hk hc
        rw [List.length_drop] at hc
        have hc : cc.length - o = n * esz := hc
        rw [fN_eq] at hk
        have h3 := kset_eq _ _ _ _ _ hk
        have h4 := kset_eq _ _ _ _ _ h3
        rw [fN_eq] at h4
        have hr : (n + (m + 1)) * bytes ≤ reach := hr
        rw [hb, ← hnc] at hsv
        rw [hmine] at hrow
        refine ⟨.slice (some ⟨nx, 0, none⟩) (n + (m + 1)) (n + (m + 1)), (St.mk h nx).grow id cc t z an (cc.drop o ++ news) e, ?_, h4⟩
        simp only [xop, hx, hsv, xappend, hel, vlen]
        rw [if_neg (Nat.succ_ne_zero m), if_pos hc2]
        simp only [hrow]
        rw [if_pos ⟨hz, trivial, by omega⟩, if_pos hr]
    · rw [beq_f hnc] at hk
      exact hg hk
theorem kargL_eq : ∀ (l : List Operand) (k : List Value → Bool), kargL env l k = k (l.map (qval env)) := by
  intro l
  induction l with
  | nil => intro k; rfl
  | cons x l ih =>
    intro k
    have : kargL env (x :: l) k = qv env x fun v => kargL env l fun r => k (v :: r) := rfl
    rw [this, qv_eq, ih]; rfl
end

/-- an operation. -/
noncomputable def kfast (o : XOp) : KOp := @XOp.rec (fun _ => KOp) c_mv c_pick c_box c_zero c_load c_store c_nilck c_bin (fun a b c => cgen (.eqb a b c)) (fun a b c d => cgen (.eqf a b c d)) (fun a b c => cgen (.eqp a b c)) (fun a b c => cgen (.eqs a b c)) (fun a b => cgen (.un a b)) (fun a b => cgen (.cvi a b)) (fun a => cgen (.cvs a)) (fun a b => cgen (.mkIface a b)) (fun a b c => cgen (.mkFunc a b c))
  (fun a b c d e f => cgen (.mkSlice a b c d e f)) (fun a b c d => cgen (.sl a b c d)) (fun a b c => cgen (.slStr a b c)) c_fa (fun a b c d => cgen (.fld a b c d)) c_ia (fun a b c d => cgen (.iaArr a b c d)) (fun a b c d e => cgen (.idx a b c d e)) c_idxStr c_ext c_build c_buildSlice c_len c_lenStr c_append (fun a b c => cgen (.copy a b c)) (fun a b c => cgen (.clr a b c)) (fun a b c => cgen (.minmax a b c)) c_call (fun a b => cgen (.callv a b)) (fun a b => cgen (.extra a b)) o

section
variable {M : Nat → Caller} (hM : MachOK M)
include hM
theorem cgen_ok {cl : KCall} (hcl : KCallOK M cl) {o : XOp} {env : T4} {h : Tr Blk} {nx : Nat} {k : KV} (hok : opdsOk o = true) (hρ : ∀ x, okOpd x = true → Sc nx (qval env x)) (hw : WS ⟨h, nx⟩)
    (hk : cgen o cl env h nx k = true) : ∃ n v S', xstep (M n) o (qval env) ⟨h, nx⟩ = some (v, S') ∧ k v S'.heap S'.next = true := by
  unfold cgen at hk
  split at hk
  · rename_i a ha
    exact kact_ok hM hcl hok hρ hw ha hk
  · cases hk
theorem kfast_ok {cl : KCall} (hcl : KCallOK M cl) {o : XOp} {env : T4} {h : Tr Blk} {nx : Nat} {k : KV} (hok : opdsOk o = true) (hρ : ∀ x, okOpd x = true → Sc nx (qval env x)) (hw : WS ⟨h, nx⟩)
    (hk : kfast o cl env h nx k = true) : ∃ n v S', xstep (M n) o (qval env) ⟨h, nx⟩ = some (v, S') ∧ k v S'.heap S'.next = true := by
  have lift : ∀ o : XOp, (∀ f a, o ≠ .call f a) → (∀ x a, o ≠ .callv x a) → KFit o env h nx k → ∃ n v S', xstep (M n) o (qval env) ⟨h, nx⟩ = some (v, S') ∧ k v S'.heap S'.next = true := by
    rintro o n1 n2 ⟨v, S', h1, h2⟩
    refine ⟨0, v, S', ?_, h2⟩
    rw [← h1]
    unfold xstep
    split
    · exact (n1 _ _ rfl).elim
    · exact (n2 _ _ rfl).elim
    · rfl
  have back : ∀ o : XOp, (∀ f a, o ≠ .call f a) → (∀ x a, o ≠ .callv x a) → opdsOk o = true → cgen o cl env h nx k = true → KFit o env h nx k := by
    intro o n1 n2 ho hg
    obtain ⟨n, v, S', h1, h2⟩ := cgen_ok hM hcl ho hρ hw hg
    refine ⟨v, S', ?_, h2⟩
    rw [← h1]
    unfold xstep
    split
    · exact (n1 _ _ rfl).elim
    · exact (n2 _ _ rfl).elim
    · rfl
  cases o
  case mv x => exact lift _ (fun _ _ e => by cases e) (fun _ _ e => by cases e) (c_mv_ok (cl := cl) hk)
  case pick c a b => exact lift _ (fun _ _ e => by cases e) (fun _ _ e => by cases e) (c_pick_ok (cl := cl) hk)
  case box t x => exact lift _ (fun _ _ e => by cases e) (fun _ _ e => by cases e) (c_box_ok (cl := cl) hk)
  case zero t z => exact lift _ (fun _ _ e => by cases e) (fun _ _ e => by cases e) (c_zero_ok (cl := cl) hk)
  case load agg sz x => exact lift _ (fun _ _ e => by cases e) (fun _ _ e => by cases e) (c_load_ok (cl := cl) (back _ (fun _ _ e => by cases e) (fun _ _ e => by cases e) hok) hk)
  case store sz a x => exact lift _ (fun _ _ e => by cases e) (fun _ _ e => by cases e) (c_store_ok (cl := cl) hk)
  case nilck x => exact lift _ (fun _ _ e => by cases e) (fun _ _ e => by cases e) (c_nilck_ok (cl := cl) (back _ (fun _ _ e => by cases e) (fun _ _ e => by cases e) hok) hk)
  case bin op x y => exact lift _ (fun _ _ e => by cases e) (fun _ _ e => by cases e) (c_bin_ok (cl := cl) hk)
  case fa off x => exact lift _ (fun _ _ e => by cases e) (fun _ _ e => by cases e) (c_fa_ok (cl := cl) hk)
  case ia esz x i => exact lift _ (fun _ _ e => by cases e) (fun _ _ e => by cases e) (c_ia_ok (cl := cl) hk)
  case ext x i => exact lift _ (fun _ _ e => by cases e) (fun _ _ e => by cases e) (c_ext_ok (cl := cl) hk)
  case build z parts => exact lift _ (fun _ _ e => by cases e) (fun _ _ e => by cases e) (c_build_ok (cl := cl) hk)
  case buildSlice e esz n z parts => exact lift _ (fun _ _ e => by cases e) (fun _ _ e => by cases e) (c_buildSlice_ok (cl := cl) hk)
  case len x => exact lift _ (fun _ _ e => by cases e) (fun _ _ e => by cases e) (c_len_ok (cl := cl) hk)
  case lenStr x => exact lift _ (fun _ _ e => by cases e) (fun _ _ e => by cases e) (c_lenStr_ok (cl := cl) hk)
  case idxStr x i => exact lift _ (fun _ _ e => by cases e) (fun _ _ e => by cases e) (c_idxStr_ok (cl := cl) hk)
  case append e esz bytes s x => exact lift _ (fun _ _ e => by cases e) (fun _ _ e => by cases e) (c_append_ok (cl := cl) (back _ (fun _ _ e => by cases e) (fun _ _ e => by cases e) hok) hk)
  case call f args =>
    have hk : (kargL env args.toList fun l => cl (.func f) l h nx k) = true := hk
    rw [kargL_eq] at hk
    have hs := hcl _ _ _ _ _ hk
    have e : (args.toList.map (qval env)).toArray = args.map (qval env) := by rw [← Array.toList_map]
    rw [e] at hs
    exact hs hw (args_sc hρ hok)
  all_goals exact cgen_ok hM hcl hok hρ hw hk
end
end Go.Proofs.YtofjnhdgkhfgnaaDoor

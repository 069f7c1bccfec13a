/- The abstract machine without fuel: more fuel changes nothing; a way to say what a piece of code does. -/
import Derived.Test.YtofjnhdgkhfgnaaDoorMr
namespace Go.Proofs.YtofjnhdgkhfgnaaDoor
open Go Go.RowKit

def CallerLe (cl cl' : Caller) : Prop := ∀ f a S r, cl f a S = some r → cl' f a S = some r

theorem xstep_mono {cl cl' : Caller} (h : CallerLe cl cl') {o : XOp} {ρ : Operand → Value} {S : St} {r : Value × St} (hx : xstep cl o ρ S = some r) : xstep cl' o ρ S = some r := by
  unfold xstep at *
  split at hx
  · exact h _ _ _ _ hx
  · split at hx
    · exact h _ _ _ _ hx
    · cases hx
  · exact hx
theorem xops_mono {cl cl' : Caller} (h : CallerLe cl cl') : ∀ (l : List XOper) (env : Env) (S : St) (r : Env × St), xops cl l env S = some r → xops cl' l env S = some r := by
  intro l
  induction l with
  | nil => intro env S r hx; exact hx
  | cons o l ih =>
    intro env S r hx
    simp only [xops] at hx ⊢
    split at hx
    · rename_i hw
      rw [if_pos hw]
      simp only [Option.bind_eq_some_iff] at hx ⊢
      obtain ⟨p, h1, h2⟩ := hx
      exact ⟨p, xstep_mono h h1, ih _ _ _ h2⟩
    · rename_i hw
      rw [if_neg hw]
      exact ih _ _ _ hx
theorem xrun_mono {cl cl' : Caller} (h : CallerLe cl cl') : ∀ (l : List XOper) (env : Env) (S : St) (r : List Rec × Env × St), xrun cl l env S = some r → xrun cl' l env S = some r := by
  intro l
  induction l with
  | nil => intro env S r hx; exact hx
  | cons o l ih =>
    intro env S r hx
    simp only [xrun] at hx ⊢
    split at hx
    · rename_i hw
      rw [if_pos hw]
      simp only [Option.bind_eq_some_iff, Option.map_eq_some_iff] at hx ⊢
      obtain ⟨p, h1, q, h2, h3⟩ := hx
      exact ⟨p, xstep_mono h h1, q, ih _ _ _ h2, h3⟩
    · rename_i hw
      rw [if_neg hw]
      simp only [Option.map_eq_some_iff] at hx ⊢
      obtain ⟨q, h2, h3⟩ := hx
      exact ⟨q, ih _ _ _ h2, h3⟩
theorem xdraw_mono {cl cl' : Caller} (h : CallerLe cl cl') {d : XDraw} {env : Env} {S : St} {r : Env × St} (hx : xdraw cl d env S = some r) : xdraw cl' d env S = some r := by
  unfold xdraw at *
  simp only [Option.bind_eq_some_iff] at hx ⊢
  obtain ⟨q, h1, h2⟩ := hx
  exact ⟨q, xrun_mono h _ _ _ _ h1, h2⟩
theorem xloop_mono {body body' : Env → St → Option (Ex × Env × St)} (h : ∀ env S r, body env S = some r → body' env S = some r) : ∀ (n n' : Nat), n ≤ n' → ∀ (env : Env) (S : St) (r : Ex × Env × St), xloop body n env S = some r → xloop body' n' env S = some r := by
  intro n
  induction n with
  | zero => intro n' _ env S r hx; cases hx
  | succ n ih =>
    intro n' hn env S r hx
    obtain ⟨n', rfl⟩ : ∃ m, n' = m + 1 := ⟨n' - 1, by omega⟩
    simp only [xloop, Option.bind_eq_some_iff] at hx ⊢
    obtain ⟨q, h1, h2⟩ := hx
    refine ⟨q, h _ _ _ h1, ?_⟩
    obtain ⟨e, env1, S1⟩ := q
    cases e with
    | normal => exact ih n' (by omega) _ _ _ h2
    | exit id => exact h2
    | ret => exact h2
theorem xcode_mono {cl cl' : Caller} (h : CallerLe cl cl') {n n' : Nat} (hn : n ≤ n') : ∀ (c : XCode) (env : Env) (S : St) (r : Ex × Env × St), xcode xdraw cl n c env S = some r → xcode xdraw cl' n' c env S = some r := by
  intro c
  induction c with
  | skip => intro env S r hx; exact hx
  | region ops =>
    intro env S r hx
    simp only [xcode, Option.map_eq_some_iff] at hx ⊢
    obtain ⟨q, h1, h2⟩ := hx
    exact ⟨q, xops_mono h _ _ _ _ h1, h2⟩
  | draw d =>
    intro env S r hx
    simp only [xcode, Option.map_eq_some_iff] at hx ⊢
    obtain ⟨q, h1, h2⟩ := hx
    exact ⟨q, xdraw_mono h h1, h2⟩
  | seq a b iha ihb =>
    intro env S r hx
    simp only [xcode, Option.bind_eq_some_iff] at hx ⊢
    obtain ⟨q, h1, h2⟩ := hx
    refine ⟨q, iha _ _ _ h1, ?_⟩
    obtain ⟨e, env1, S1⟩ := q
    cases e with
    | normal => exact ihb _ _ _ h2
    | exit id => exact h2
    | ret => exact h2
  | cond c x y ihx ihy =>
    intro env S r hx
    simp only [xcode] at hx ⊢
    split at hx
    · exact ihx _ _ _ hx
    · exact ihy _ _ _ hx
    · cases hx
  | block id c ih =>
    intro env S r hx
    simp only [xcode, Option.map_eq_some_iff] at hx ⊢
    obtain ⟨q, h1, h2⟩ := hx
    exact ⟨q, ih _ _ _ h1, h2⟩
  | loop c ih =>
    intro env S r hx
    simp only [xcode] at hx ⊢
    exact xloop_mono ih n n' hn _ _ _ hx
  | exit id => intro env S r hx; exact hx
  | ret => intro env S r hx; exact hx
  | range x L =>
    intro env S r hx
    simp only [xcode] at hx ⊢
    split at hx
    · simp only [Option.bind_eq_some_iff] at hx ⊢
      obtain ⟨q, h1, h2⟩ := hx
      exact ⟨q, h _ _ _ _ h1, h2⟩
    · cases hx

theorem xround_mono {cl cl' : Caller} (h : CallerLe cl cl') {n n' : Nat} (hn : n ≤ n') {LT : LoopC → Option (XCode × XCode)} {id : Nat} {args : Array Value} {S : St} {r : Value × St} (hx : xround xdraw cl n LT id args S = some r) : xround xdraw cl' n' LT id args S = some r := by
  unfold xround at *
  split at hx
  · split at hx
    · rename_i hc
      rw [if_pos hc]
      generalize (Array.foldl _ _ _ : Env) = env0 at hx ⊢
      simp only [Option.bind_eq_some_iff] at hx ⊢
      obtain ⟨x, h1, ⟨e1, env1, S1⟩, h2, h3⟩ := hx
      refine ⟨x, h1, ⟨e1, env1, S1⟩, xcode_mono h hn _ _ _ _ h2, ?_⟩
      cases e1 with
      | normal =>
        simp only [Option.map_eq_some_iff] at h3 ⊢
        obtain ⟨q, h4, h5⟩ := h3
        exact ⟨q, xcode_mono h hn _ _ _ _ h4, h5⟩
      | exit id => exact h3
      | ret => exact h3
    · cases hx
  · cases hx

theorem xcall_mono (F : FuncId → Option XFunc) (LT : LoopC → Option (XCode × XCode)) (base : Base) : ∀ (n n' : Nat), n ≤ n' → CallerLe (xcall xdraw F LT base n) (xcall xdraw F LT base n') := by
  intro n
  induction n with
  | zero =>
    intro n' _ f a S r hx
    cases f with
    | func f =>
      simp only [xcall] at hx
      cases e : F f with
      | none =>
        rw [e] at hx
        cases n' <;> simp only [xcall, e] <;> exact hx
      | some fn => rw [e] at hx; cases hx
    | yield id => simp [xcall] at hx
    | method _ => simp [xcall] at hx
    | methodOf _ _ => simp [xcall] at hx
    | via _ _ _ _ => simp [xcall] at hx
  | succ n ih =>
    intro n' hn f a S r hx
    obtain ⟨n', rfl⟩ : ∃ m, n' = m + 1 := ⟨n' - 1, by omega⟩
    cases f with
    | func f =>
      simp only [xcall] at hx ⊢
      split at hx
      · exact hx
      · rename_i fn hf
        simp only [Option.bind_eq_some_iff] at hx ⊢
        obtain ⟨q, h1, h2⟩ := hx
        exact ⟨q, xcode_mono (ih n' (by omega)) (by omega) _ _ _ _ h1, h2⟩
    | yield id =>
      simp only [xcall] at hx ⊢
      exact xround_mono (ih n' (by omega)) (by omega) hx
    | method _ => simp [xcall] at hx
    | methodOf _ _ => simp [xcall] at hx
    | via _ _ _ _ => simp [xcall] at hx

abbrev FEnv := Tmp → Value
def toF (env : Env) : FEnv := fun t => env.getD t undef
def upd (fe : FEnv) (d : Tmp) (v : Value) : FEnv := fun t => if t = d then v else fe t
def updO (fe : FEnv) : Option Tmp → Value → FEnv
  | some d, v => upd fe d v
  | none, _ => fe
def fev (fe : FEnv) : Operand → Value
  | .tmp t => fe t
  | .const v => v
  | .global g => .pointer (some ⟨g, 0, none⟩)
  | .func f => .func (.func f) #[] #[]
def fwant (fe : FEnv) : Option (Tmp × Bool) → Bool
  | none => true
  | some (t, want) => match fe t with
    | .bool b => b == want
    | _ => false

theorem toF_put (env : Env) (d : Option Tmp) (v : Value) (h : ∀ t, d = some t → t < env.size) : toF (env.put d v) = updO (toF env) d v := by
  cases d with
  | none => rfl
  | some d =>
    funext t
    have hd := h d rfl
    simp only [toF, Env.put, updO, upd]
    rw [Array.getD_eq_getD_getElem?]
    by_cases e : t = d
    · subst e
      rw [Array.getElem?_setIfInBounds_self_of_lt hd, if_pos rfl]; rfl
    · rw [Array.getElem?_setIfInBounds_ne (Ne.symm e), if_neg e, Array.getD_eq_getD_getElem?]
theorem toF_ev (env : Env) : env.ev = fev (toF env) := by
  funext x
  cases x <;> rfl
theorem toF_want (o : XOper) (env : Env) : xwanted o env = fwant (toF env) o.guard := by
  unfold xwanted fwant toF
  cases o.guard with
  | none => rfl
  | some p =>
    obtain ⟨t, want⟩ := p
    simp only
    rw [Array.getD_eq_getD_getElem?]
    cases h : env[t]? with
    | none => simp [undef]
    | some v => cases v <;> rfl

/-- every address in it is of a block below m. -/
inductive Sc (m : Nat) : Value → Prop where
  | bool (b : Bool) : Sc m (.bool b)
  | int (k : IntKind) (n : Int) : Sc m (.int k n)
  | string (s : ByteArray) : Sc m (.string s)
  | ptrNil : Sc m (.pointer none)
  | ptr (id o : Nat) (h : id < m) : Sc m (.pointer (some ⟨id, o, none⟩))
  | sliceNil (n c : Nat) : Sc m (.slice none n c)
  | slice (id o n c : Nat) (h : id < m) : Sc m (.slice (some ⟨id, o, none⟩) n c)
  | nilFunc : Sc m .nilFunc
  | nilIface : Sc m .nilIface
  | func (f : FuncId) (a b : Array Value) (h1 : ∀ i (h : i < a.size), Sc m a[i]) (h2 : ∀ i (h : i < b.size), Sc m b[i]) : Sc m (.func (.func f) a b)
  | yield (id : Nat) (h : id < m) : Sc m (.func (.yield id) #[] #[])
  | mapNil : Sc m (.map none)
  | map (id : Nat) (h : id < m) : Sc m (.map (some id))
  | tab : Sc m (.chan (some 0))
  | iface (t : TypeId) (v : Value) (h : Sc m v) : Sc m (.iface t v)
  | agg (a : Array Value) (h1 : ∀ i (h : i < a.size), Sc m a[i]) : Sc m (.agg a)
  | tuple (a : Array Value) (h1 : ∀ i (h : i < a.size), Sc m a[i]) : Sc m (.tuple a)

theorem Sc.mono {m m' : Nat} (hm : m ≤ m') {v : Value} (h : Sc m v) : Sc m' v := by
  induction h with
  | bool b => exact .bool b
  | int k n => exact .int k n
  | string s => exact .string s
  | ptrNil => exact .ptrNil
  | ptr id o h => exact .ptr id o (by omega)
  | sliceNil n c => exact .sliceNil n c
  | slice id o n c h => exact .slice id o n c (by omega)
  | nilFunc => exact .nilFunc
  | nilIface => exact .nilIface
  | func f a b h1 h2 i1 i2 => exact .func f a b i1 i2
  | yield id h => exact .yield id (by omega)
  | mapNil => exact .mapNil
  | map id h => exact .map id (by omega)
  | tab => exact .tab
  | iface t v h ih => exact .iface t v ih
  | agg a h1 i1 => exact .agg a i1
  | tuple a h1 i1 => exact .tuple a i1

theorem Sc.toScoped {m : Nat} {v : Value} (h : Sc m v) : Scoped m v := by
  intro φ v' hr
  induction hr with
  | bool b => exact .bool b
  | int k n => exact .int k n
  | string s => exact .string s
  | ptrNil => exact .ptrNil
  | ptr id o s hs =>
    cases h with
    | ptr _ _ h => exact .ptr id o s (by rw [below_get h]; exact hs)
  | sliceNil => exact .sliceNil
  | slice id o n c c' s hs hn hc he =>
    cases h with
    | slice _ _ _ _ h => exact .slice id o n c c' s (by rw [below_get h]; exact hs) hn hc he
  | sliceEnd id o x s hs =>
    cases h with
    | slice _ _ _ _ h => exact .sliceEnd id o x s (by rw [below_get h]; exact hs)
  | nilFunc => exact .nilFunc
  | nilIface => exact .nilIface
  | func f a b a' b' ha hb h1 h2 i1 i2 =>
    cases h with
    | func _ _ _ k1 k2 => exact .func f a b a' b' ha hb (fun i h h' => i1 i h h' (k1 i h)) (fun i h h' => i2 i h h' (k2 i h))
  | yield id s hs =>
    cases h with
    | yield _ h => exact .yield id s (by rw [below_get h]; exact hs)
  | mapNil => exact .mapNil
  | map id s hs =>
    cases h with
    | map _ h => exact .map id s (by rw [below_get h]; exact hs)
  | tab b hb => exact .tab b hb
  | iface t v v' hr ih =>
    cases h with
    | iface _ _ h => exact .iface t v v' (ih h)
  | agg a a' ha h1 i1 =>
    cases h with
    | agg _ k1 => exact .agg a a' ha (fun i h h' => i1 i h h' (k1 i h))
  | tuple a a' ha h1 i1 =>
    cases h with
    | tuple _ k1 => exact .tuple a a' ha (fun i h h' => i1 i h h' (k1 i h))

theorem Sc.flat1 {m : Nat} {v : Value} (h : flat1 v = true) : Sc m v := by
  unfold YtofjnhdgkhfgnaaDoor.flat1 at h
  split at h <;> first | constructor | cases h
def ScL (m : Nat) (l : List Value) : Prop := ∀ v ∈ l, Sc m v
theorem ScL.flat {m : Nat} {l : List Value} (h : flatL l = true) : ScL m l := fun v hv => Sc.flat1 (by simp [flatL] at h; exact h v hv)
theorem Sc.flatV {m : Nat} {v : Value} (h : flatV v = true) : Sc m v := by
  unfold YtofjnhdgkhfgnaaDoor.flatV at h
  split at h
  · exact .agg _ fun i hi => ScL.flat h _ (by simp)
  · exact .tuple _ fun i hi => ScL.flat h _ (by simp)
  · exact Sc.flat1 h
theorem Sc.undef (m : Nat) : Sc m undef := .tuple _ fun i h => by simp at h
theorem ScL.agg {m : Nat} {l : List Value} (h : ScL m l) : Sc m (.agg l.toArray) := .agg _ fun i hi => h _ (by simp)
theorem ScL.take {m : Nat} {l : List Value} (h : ScL m l) (n : Nat) : ScL m (l.take n) := fun v hv => h v (List.mem_of_mem_take hv)
theorem ScL.drop {m : Nat} {l : List Value} (h : ScL m l) (n : Nat) : ScL m (l.drop n) := fun v hv => h v (List.mem_of_mem_drop hv)
theorem ScL.append {m : Nat} {l r : List Value} (h : ScL m l) (k : ScL m r) : ScL m (l ++ r) := fun v hv => (List.mem_append.1 hv).elim (h v) (k v)
theorem ScL.splice {m : Nat} {l r : List Value} (h : ScL m l) (k : ScL m r) (o : Nat) : ScL m (splice l o r) := fun v hv => (splice_mem l o r hv).elim (h v) (k v)
theorem ScL.mono {m m' : Nat} (hm : m ≤ m') {l : List Value} (h : ScL m l) : ScL m' l := fun v hv => (h v hv).mono hm
theorem Sc.cells {m : Nat} {v : Value} (h : Sc m v) : ScL m v.cells.toList := by
  have h0 := h
  cases h with
  | agg a h1 =>
    intro v hv
    obtain ⟨i, hi, rfl⟩ := List.getElem_of_mem hv
    have hi' : i < a.size := hi
    exact h1 i hi'
  | _ => intro v hv; simp [Value.cells] at hv; subst hv; exact h0
theorem Sc.aggL {m : Nat} {a : Array Value} (h : Sc m (.agg a)) : ScL m a.toList := h.cells

/-- what is asked of what is no row. -/
def ScO (m0 : Nat) : AObj → Prop
  | .loop env _ _ => ScL m0 env.toList
  | .map es _ => ∀ e ∈ es, Sc m0 e.1 ∧ Sc m0 e.2.1
  | .iter _ _ => True
  | .mapIter m _ _ _ => Sc m0 (.map m)
theorem ScO.mono {m m' : Nat} (hm : m ≤ m') {o : AObj} (h : ScO m o) : ScO m' o := by
  cases o with
  | loop env L pe => exact fun v hv => (h v hv).mono hm
  | map es c => exact fun e he => ⟨(h e he).1.mono hm, (h e he).2.mono hm⟩
  | iter s p => trivial
  | mapIter m s l c => exact Sc.mono hm h
/-- the abstract memory holds no address of a block that it has not made. -/
structure WS (S : St) : Prop where
  gone : ∀ id, S.next ≤ id → S.get id = .gone
  cell : ∀ id c t z mi an, S.get id = .cells c t z mi an → ScL S.next c
  obj : ∀ id o, S.get id = .obj o → ScO S.next o
theorem WS.loop {S : St} (h : WS S) (id : Nat) (env : Array Value) (L : LoopC) (pe : Option Ex) (e : S.get id = .loop env L pe) : ScL S.next env.toList := h.obj id _ e

theorem WS.alive {S : St} (h : WS S) {id : Nat} (hg : S.get id ≠ .gone) : id < S.next := by
  rcases Nat.lt_or_ge id S.next with h1 | h1
  · exact h1
  · exact absurd (h.gone id h1) hg
/-- what is asked of a block. -/
def ScB (m : Nat) : Blk → Prop
  | .gone => True
  | .cells c _ _ _ _ => ScL m c
  | .obj o => ScO m o
theorem ScB.mono {m m' : Nat} (hm : m ≤ m') {b : Blk} (h : ScB m b) : ScB m' b := by
  cases b with
  | gone => trivial
  | cells c t z mi an => exact fun v hv => (h v hv).mono hm
  | obj o => exact ScO.mono hm h
theorem WS.blk {S : St} (h : WS S) (id : Nat) : ScB S.next (S.get id) := by
  cases e : S.get id with
  | gone => trivial
  | cells c t z mi an => exact h.cell id c t z mi an e
  | obj o => exact h.obj id o e
theorem WS.mk' {S : St} (h : ∀ id, S.next ≤ id → S.get id = .gone) (k : ∀ id, ScB S.next (S.get id)) : WS S :=
  ⟨h, fun id c t z mi an e => by have := k id; rw [e] at this; exact this, fun id o e => by have := k id; rw [e] at this; exact this⟩
theorem WS.allocB {S : St} (h : WS S) {b : Blk} (hb : ScB S.next b) : WS (S.alloc b) := by
  refine WS.mk' (fun id hi => ?_) fun id => ?_
  · simp only [St.next_alloc] at hi
    rw [St.get_alloc, if_neg (by omega)]; exact h.gone id (by omega)
  · rw [St.get_alloc]
    split
    · exact hb.mono (by simp)
    · exact (h.blk id).mono (by simp)
theorem WS.putB {S : St} (h : WS S) {id : Nat} (hid : id < S.next) {b : Blk} (hb : ScB S.next b) : WS (S.put id b) := by
  refine WS.mk' (fun j hi => ?_) fun j => ?_
  · simp only [St.next_put] at hi
    rw [St.get_put, if_neg (by omega)]; exact h.gone j hi
  · rw [St.get_put]
    split
    · exact hb
    · exact h.blk j
theorem WS.alloc {S : St} (h : WS S) {c : List Value} (hc : ScL S.next c) (t : TypeId) (z : Nat) (m : Bool) (an : List Nat) : WS (S.alloc (.cells c t z m an)) := h.allocB hc
theorem WS.put {S : St} (h : WS S) {id : Nat} (hid : id < S.next) {c : List Value} (hc : ScL S.next c) (t : TypeId) (z : Nat) (m : Bool) (an : List Nat) : WS (S.put id (.cells c t z m an)) := h.putB hid hc
theorem WS.write {S : St} (h : WS S) {id : Nat} (hid : id < S.next) {c : List Value} (hc : ScL S.next c) (t : TypeId) (z : Nat) (an : List Nat) : WS (S.write id c t z an) := by
  refine WS.mk' (fun j hi => ?_) fun j => ?_
  · simp only [St.next_write] at hi
    rw [St.get_write, if_neg (by omega)]
    split
    · rfl
    · exact h.gone j hi
  · rw [St.get_write]
    split
    · simpa [ScB] using hc
    · split
      · trivial
      · simpa using h.blk j
theorem WS.rd {S : St} (h : WS S) {id o n : Nat} {c : List Value} (e : S.rd id o n = some c) : ScL S.next c := by
  unfold St.rd at e
  split at e
  · rename_i cc t z m an hg
    split at e
    · obtain rfl := Option.some.inj e
      exact ((h.cell id cc t z m an hg).drop o).take n
    · cases e
  · cases e
theorem WS.elems {S : St} (h : WS S) {esz : Nat} {v : Value} {c : List Value} (e : S.elems esz v = some c) : ScL S.next c := by
  unfold St.elems at e
  split at e
  · obtain rfl := Option.some.inj e; intro v hv; cases hv
  · exact h.rd e
  · cases e
theorem ScL.rep {m : Nat} {l : List Value} (h : ScL m l) (n : Nat) : ScL m (rep n l) := by
  intro v hv
  simp only [YtofjnhdgkhfgnaaDoor.rep, List.mem_flatten, List.mem_replicate] at hv
  obtain ⟨l', ⟨_, rfl⟩, hv⟩ := hv
  exact h v hv
theorem ScL.fill {m : Nat} : ∀ (ps : List (Nat × Nat × Value)) (z l : List Value), ScL m z → (∀ p ∈ ps, Sc m p.2.2) → fillL z ps = some l → ScL m l := by
  intro ps
  induction ps with
  | nil => intro z l hz _ h; simp only [fillL, Option.some.injEq] at h; subst h; exact hz
  | cons p ps ih =>
    intro z l hz hp h
    obtain ⟨off, sz, v⟩ := p
    simp only [fillL] at h
    split at h
    · exact ih _ _ (hz.splice (hp _ List.mem_cons_self).cells off) (fun q hq => hp q (List.mem_cons_of_mem _ hq)) h
    · cases h
theorem part1_sc {m : Nat} {agg : Bool} {l : List Value} {v : Value} (h : part1 agg l = some v) (hl : ScL m l) : Sc m v := by
  unfold part1 at h
  split at h
  · obtain rfl := Option.some.inj h; exact hl.agg
  · obtain rfl := one_inv h; exact hl v (by simp)
end Go.Proofs.YtofjnhdgkhfgnaaDoor

/- How the model's operations are read as the abstract machine's; what is read so does the same. -/
import Derived.Test.YtofjnhdgkhfgnaaDoorMg
namespace Go.Proofs.YtofjnhdgkhfgnaaDoor
open Go Go.RowKit

def trStruct (P : Program) (t : TypeId) (f : Nat) : Option (Nat × Bool × Nat) :=
  match P.underlying t with
  | some (.struct fs) => match fs[f]? with
    | some fd => match P.underlying fd.type, P.info? fd.type with
      | some d, some i => if i.size ≠ 0 then some (fd.offset, aggD d, if aggD d then i.size else 1) else none
      | _, _ => none
    | none => none
  | _ => none
def trElem (P : Program) (t : TypeId) : Option (TypeId × TypeInfo × Value) :=
  match P.underlying t with
  | some (.slice e) => match P.info? e with
    | some i => match i.zero with
      | some z => if z.cells.size = i.size ∧ flatL z.cells.toList = true then some (e, i, z) else none
      | none => none
    | none => none
  | _ => none
def trParts (P : Program) (t : TypeId) (parts : List (Nat × Operand)) : Option (List (Nat × Nat × Operand)) :=
  match P.underlying t with
  | some (.struct fs) => (fs.toList.mapM fun f => (P.info? f.type).map fun i => (f.offset, i.size)).bind fun zs => parts.mapM fun p => (zs[p.1]?).map fun q => (q.1, q.2, p.2)
  | some (.array _ e) => (P.info? e).map fun i => parts.map fun p => (p.1 * i.size, i.size, p.2)
  | _ => none
def trEq (P : Program) (neg : Bool) (t : TypeId) (x y : Operand) : Option XOp :=
  match P.underlying t with
  | some (.int _) => some (.bin (if neg then .neq else .eql) x y)
  | some .string => some (.bin (if neg then .neq else .eql) x y)
  | some .bool => some (.eqb neg x y)
  | some (.pointer _) => some (.eqp neg x y)
  | some (.slice _) => some (.eqs neg x y)
  | some (.func _ _ _) => some (.extra (.nilF neg) [x, y])
  | some (.struct _) | some (.array _ _) => if P.eqGuardType P.depth t then none else (flatT P 20 t).map fun ks => .eqf ks neg x y
  | _ => none
def trCall (P : Program) (c : Call) : Option XOp :=
  match c.callee, c.args.toList, c.argTypes.toList with
  | .builtin .len, [x], [t] => match P.underlying t with
    | some (.slice _) => some (.len x)
    | some .string => some (.lenStr x)
    | _ => none
  | .builtin .append, [s, x], [t, u] => if t = u then (trElem P t).map fun (e, i, _) => .append e i.size i.bytes s x else none
  | .builtin .copy, [d, s], [t, _] => (trElem P t).map fun (_, i, _) => .copy i.size d s
  | .builtin .clear, [x], [t] => (trElem P t).map fun (_, i, z) => .clr i.size z.cells.toList x
  | .builtin .min, x :: l, _ => some (.minmax false x l)
  | .builtin .max, x :: l, _ => some (.minmax true x l)
  | .value (.func f), _, _ => match P.funcs[f]? with
    | some fn => if fn.body.isSome ∧ (fn.name == "runtime.NumGoroutine") = false then some (.call f c.args) else none
    | none => none
  | .value (.tmp t), _, _ => some (.callv (.tmp t) c.args)
  | _, _, _ => none

/-- the kinds of a key's places. -/
def keyT (P : Program) : Nat → TypeId → Option (List Nat)
  | 0, _ => none
  | d + 1, t => match P.underlying t with
    | some .bool => some [0]
    | some (.int _) => some [1]
    | some .string => some [2]
    | some (.struct fs) => if P.stoodInHeld t then none else flatFs (keyT P d) (fun t => (P.info? t).map (·.size)) fs.toList 0
    | _ => none
/-- a map's type: the kinds of its keys, whether they are structs, and the type of what belongs to them. -/
def trMapT (P : Program) (t : TypeId) : Option (List Nat × Bool × TypeId) :=
  match P.underlying t with
  | some (.map k e) => (keyT P 20 k).bind fun ks => (P.underlying k).map fun d => (ks, aggD d, e)
  | _ => none
def trZero (P : Program) (e : TypeId) : Option Value := (P.info? e).bind fun i => i.zero.bind fun z => if flatV z = true then some z else none
/-- the constant table's type: numbers are its keys; what a key that is not there gives. -/
def trLookG (P : Program) (t : TypeId) : Option Value :=
  match P.underlying t with
  | some (.map k e) => match P.underlying k with
    | some (.int .i64) => trZero P e
    | _ => none
  | _ => none
def trExtra (P : Program) (o : Op) : Option (EOp × List Operand) :=
  match o with
  | .makeMap _ none => some (.mkMap, [])
  | .lookup t x k ok => if (gOn && t == gTyp) = true then (trLookG P t).map fun z => (.lookG z ok, [x, k]) else (trMapT P t).bind fun (ks, agg, e) => (trZero P e).map fun z => (.lookup ks agg z ok, [x, k])
  | .mapUpdate t m k x => (trMapT P t).map fun (ks, agg, _) => (.mapSet ks agg, [m, k, x])
  | .insert t m k x => (trMapT P t).map fun (ks, agg, _) => (.mapSet ks agg, [m, k, x])
  | .mapEntry t m k => (trMapT P t).bind fun (ks, agg, e) => (trZero P e).map fun z => (.mapEnt ks agg z, [m, k])
  | .entryStore _ m s x => some (.entSet, [m, s, x])
  | .range t x => match P.underlying t with
    | some .string => some (.iterStr, [x])
    | some (.map _ _) => some (.iterMap, [x])
    | _ => none
  | .next it true => some (.nextStr, [it])
  | .next it false => some (.nextMap, [it])
  | .entry it => some (.entMap, [it])
  | .call c => match c.callee, c.args.toList, c.argTypes.toList with
    | .builtin .len, [x], [t] => match P.underlying t with
      | some (.map _ _) => some (.mapLen, [x])
      | _ => none
    | .builtin .cap, [x], [t] => match P.underlying t with
      | some (.slice _) => some (.capNil, [x])
      | _ => none
    | .builtin .delete, [m, k], [t, _] => (trMapT P t).map fun (ks, agg, _) => (.mapDel ks agg, [m, k])
    | _, _, _ => none
  | _ => none

def tr (P : Program) (o : Oper) : Option XOp :=
  match o.op with
  | .move x | .assign x => some (.mv x)
  | .pick c a b => some (.pick c a b)
  | .box t x => some (.box t x)
  | .alloc t => match P.info? t with
    | some i => match i.zero with
      | some z => if flatL z.cells.toList = true then some (.zero t z) else none
      | none => none
    | none => none
  | .load t x => match P.underlying t, P.info? t with
    | some d, some i => some (.load (aggD d) (if aggD d then i.size else 1) x)
    | _, _ => none
  | .store t a x => (P.info? t).map fun i => .store i.size a x
  | .nilCheck x => some (.nilck x)
  | .binOp .eql t x y _ => trEq P false t x y
  | .binOp .neq t x y _ => trEq P true t x y
  | .binOp op t x y _ => match P.underlying t with
    | some (.int _) | some .string => some (.bin op x y)
    | _ => none
  | .unOp op _ x => some (.un op x)
  | .convert src dst x => match P.underlying src, P.underlying dst with
    | some (.int _), some (.int k) => some (.cvi k x)
    | some .string, some .string => some (.cvs x)
    | _, _ => none
  | .makeInterface t x => match P.underlying t with
    | some (.interface _) => none
    | some _ => some (.mkIface t x)
    | none => none
  | .makeFunc (.func f) a b => some (.mkFunc f a b)
  | .makeSlice t l c => (trElem P t).map fun (e, i, z) => .mkSlice e i.size i.bytes z.cells.toList l c
  | .slice t x lo hi none => match P.underlying t with
    | some (.slice e) => (P.info? e).map fun i => .sl i.size x lo hi
    | some .string => some (.slStr x lo hi)
    | _ => none
  | .fieldAddr t x f => (trStruct P t f).map fun (off, _, _) => .fa off x
  | .field t x f => (trStruct P t f).map fun (off, agg, sz) => .fld agg sz off x
  | .indexAddr t x i => match P.underlying t with
    | some (.slice e) => (P.info? e).map fun j => .ia j.size x i
    | some (.array n e) => (P.info? e).map fun j => .iaArr n j.size x i
    | _ => none
  | .index t x i => match P.underlying t with
    | some .string => some (.idxStr x i)
    | some (.array n e) => match P.underlying e, P.info? e with
      | some d, some j => if aggD d = true ∨ j.size = 1 then some (.idx n (aggD d) j.size x i) else none
      | _, _ => none
    | _ => none
  | .extract x i => some (.ext x i)
  | .build t parts => match P.info? t with
    | some i => match i.zero with
      | some z => if flatL z.cells.toList = true then (trParts P t parts.toList).map fun ps => .build z.cells.toList ps else none
      | none => none
    | none => none
  | .buildSlice t n parts => (trElem P t).bind fun (e, i, z) => if n * i.size ≤ 16777216 ∧ 0 < i.size then some (.buildSlice e i.size n z.cells.toList (parts.toList.map fun p => (p.1 * i.size, i.size, p.2))) else none
  | .call c => match trCall P c with
    | some x => some x
    | none => (trExtra P (.call c)).map fun (e, l) => .extra e l
  | op => (trExtra P op).map fun (e, l) => .extra e l

def OutE (P : Program) (B : Nat) (φ : Emb) (S : St) (w : World) (s : Sem Next) (v : Value) (S' : St) : Prop :=
  ∃ φ' v' w', (s.run P w = .ok (.value v') w' ∨ (s.run P w = .ok .skip w' ∧ v' = undef)) ∧ Rel φ' v v' ∧ Sim B φ' S' w' ∧ Keep B φ S w φ' S' w'

section
variable {P : Program} {B : Nat} {φ : Emb} {S : St} {w : World}

theorem OutE.ofV {s : Sem Value} {v : Value} {S' : St} (h : OutV P B φ S w s v S') : OutE P B φ S w (do pure (.value (← s))) v S' := by
  obtain ⟨φ', v', w', h1, h2, h3, h4⟩ := h
  exact ⟨φ', v', w', .inl (by simp [h1]), h2, h3, h4⟩
theorem OutE.same {s : Sem Next} {v v' : Value} (hs : Sim B φ S w) (h : s.run P w = .ok (.value v') w) (hr : Rel φ v v') : OutE P B φ S w s v S := ⟨φ, v', w, .inl h, hr, hs, Keep.refl _ _ _ _⟩

theorem int_inv {k : IntKind} {n : Int} {v' : Value} (h : Rel φ (.int k n) v') : v' = .int k n := by cases h; rfl
theorem bool_inv {b : Bool} {v' : Value} (h : Rel φ (.bool b) v') : v' = .bool b := by cases h; rfl
theorem string_inv {b : ByteArray} {v' : Value} (h : Rel φ (.string b) v') : v' = .string b := by cases h; rfl
theorem agg_inv {a : Array Value} {v' : Value} (h : Rel φ (.agg a) v') : ∃ a', v' = .agg a' ∧ RelA φ a a' := by
  cases h with
  | agg a a' ha h1 => exact ⟨a', rfl, ha, h1⟩
theorem tuple_inv {a : Array Value} {v' : Value} (h : Rel φ (.tuple a) v') : ∃ a', v' = .tuple a' ∧ RelA φ a a' := by
  cases h with
  | tuple a a' ha h1 => exact ⟨a', rfl, ha, h1⟩

theorem xbinI_run {op : BinOp} {k yk : IntKind} {a b : Int} {v : Value} (t : TypeId) (h : xbinI op k yk a b = some v) : (binOp op t (.int k a) (.int yk b)).run P w = .ok v w := by
  unfold xbinI at h
  cases op <;> simp only at h
  case shl => split at h <;> simp at h; rename_i hb; subst h; simp [binOp, Op.shift, hb]
  case shr => split at h <;> simp at h; rename_i hb; subst h; simp [binOp, Op.shift, hb]
  case quo => split at h <;> simp at h; rename_i hb; obtain ⟨rfl, hb⟩ := hb; subst h; simp [binOp, Op.intDiv, hb]
  case rem => split at h <;> simp at h; rename_i hb; obtain ⟨rfl, hb⟩ := hb; subst h; simp [binOp, Op.intDiv, hb]
  all_goals (split at h <;> simp at h; rename_i hb; subst hb; subst h; simp [binOp, Op.intArith, Op.intBits, Op.intCmp])

theorem xbinS_run {op : BinOp} {a b : ByteArray} {v : Value} (t : TypeId) (h : xbinS op a b = some v) : (binOp op t (.string a) (.string b)).run P w = .ok v w := by
  unfold xbinS at h
  cases op <;> simp only at h
  case add =>
    split at h <;> simp at h
    rename_i hb
    subst h
    have : ¬ (9223372036854775807 < ((a.size : Int) + (b.size : Int))) := by omega
    simp [binOp, Op.stringOp, this]
  all_goals first
    | (cases h; done)
    | (obtain rfl := Option.some.inj h; simp [binOp, Op.stringOp])

theorem xbin_inv {op : BinOp} {x y v : Value} (h : xbin op x y = some v) : (∃ k yk a b, x = .int k a ∧ y = .int yk b ∧ xbinI op k yk a b = some v) ∨ (∃ a b, x = .string a ∧ y = .string b ∧ xbinS op a b = some v) := by
  unfold xbin at h
  split at h
  · exact .inl ⟨_, _, _, _, rfl, rfl, h⟩
  · exact .inr ⟨_, _, rfl, rfl, h⟩
  · cases h
theorem xbinI_flat {op : BinOp} {k yk : IntKind} {a b : Int} {v : Value} (h : xbinI op k yk a b = some v) (φ : Emb) : Rel φ v v := by
  unfold xbinI at h
  cases op <;> simp only at h <;> (split at h <;> first | (cases h; done) | (obtain rfl := Option.some.inj h; constructor))
theorem xbinS_flat {op : BinOp} {a b : ByteArray} {v : Value} (h : xbinS op a b = some v) (φ : Emb) : Rel φ v v := by
  unfold xbinS at h
  cases op <;> simp only at h <;> first
    | (cases h; done)
    | (obtain rfl := Option.some.inj h; constructor)
    | (split at h <;> first | (cases h; done) | (obtain rfl := Option.some.inj h; constructor))

theorem eqGuard_plain (op : BinOp) (t : TypeId) (x y : Operand) (a b : Value) (h : (match a, b with | .nilIface, .nilIface => false | .agg _, .agg _ => false | _, _ => true) = true) : (eqGuard op t x y a b).run P w = .ok () w := by
  unfold eqGuard
  cases op <;> simp
  all_goals (split <;> first | rfl | (simp at h; done) | simp_all)

theorem bin_sound (hs : Sim B φ S w) {op : BinOp} {t : TypeId} {x y : Operand} {ρa ρc : Operand → Value} (hx : Rel φ (ρa x) (ρc x)) (hy : Rel φ (ρa y) (ρc y)) {v : Value} (h : xbin op (ρa x) (ρa y) = some v) :
    OutE P B φ S w (do pure (.value (← do eqGuard op t x y (ρc x) (ρc y); binOp op t (ρc x) (ρc y)))) v S := by
  rcases xbin_inv h with ⟨k, yk, a, b, e1, e2, e3⟩ | ⟨a, b, e1, e2, e3⟩
  · rw [e1] at hx
    rw [e2] at hy
    rw [int_inv hx, int_inv hy]
    refine OutE.same hs (v' := v) ?_ (xbinI_flat e3 φ)
    have hg := eqGuard_plain (P := P) (w := w) op t x y (.int k a) (.int yk b) rfl
    simp [hg, xbinI_run t e3]
  · rw [e1] at hx
    rw [e2] at hy
    rw [string_inv hx, string_inv hy]
    refine OutE.same hs (v' := v) ?_ (xbinS_flat e3 φ)
    have hg := eqGuard_plain (P := P) (w := w) op t x y (.string a) (.string b) rfl
    simp [hg, xbinS_run t e3]
end
end Go.Proofs.YtofjnhdgkhfgnaaDoor

/- The operations of the abstract machine, and how the model's operations are read as such. No program in sight. -/
import Derived.Test.YtofjnhdgkhfgnaaDoorMbo
namespace Go.Proofs.YtofjnhdgkhfgnaaDoor
open Go Go.RowKit

/-- how wide the elements of a block are. -/
def St.width (S : St) (id : Nat) : Option Nat :=
  match S.get id with
  | .cells _ _ z _ _ => some z
  | _ => none

/-- what the places from o on hold. -/
def St.rd (S : St) (id o n : Nat) : Option (List Value) :=
  match S.get id with
  | .cells c _ _ _ _ => if o + n ≤ c.length then some ((c.drop o).take n) else none
  | _ => none

def xbinI (op : BinOp) (k yk : IntKind) (a b : Int) : Option Value :=
  match op with
  | .shl => if b < 0 then none else some (.int k (k.wrap (a * 2 ^ min b.toNat k.bits)))
  | .shr => if b < 0 then none else some (.int k (a.fdiv (2 ^ min b.toNat k.bits)))
  | .add => if k = yk then some (.int k (k.wrap (a + b))) else none
  | .sub => if k = yk then some (.int k (k.wrap (a - b))) else none
  | .mul => if k = yk then some (.int k (k.wrap (a * b))) else none
  | .quo => if k = yk ∧ b ≠ 0 then some (.int k (k.wrap (a.tdiv b))) else none
  | .rem => if k = yk ∧ b ≠ 0 then some (.int k (a.tmod b)) else none
  | .and => if k = yk then some (.int k (k.wrap (BitVec.ofInt k.bits a &&& BitVec.ofInt k.bits b).toNat)) else none
  | .or => if k = yk then some (.int k (k.wrap (BitVec.ofInt k.bits a ||| BitVec.ofInt k.bits b).toNat)) else none
  | .xor => if k = yk then some (.int k (k.wrap (BitVec.ofInt k.bits a ^^^ BitVec.ofInt k.bits b).toNat)) else none
  | .andNot => if k = yk then some (.int k (k.wrap (BitVec.ofInt k.bits a &&& ~~~ BitVec.ofInt k.bits b).toNat)) else none
  | .eql => if k = yk then some (.bool (a == b)) else none
  | .neq => if k = yk then some (.bool (a != b)) else none
  | .lss => if k = yk then some (.bool (decide (a < b))) else none
  | .leq => if k = yk then some (.bool (decide (a ≤ b))) else none
  | .gtr => if k = yk then some (.bool (decide (a > b))) else none
  | .geq => if k = yk then some (.bool (decide (a ≥ b))) else none

def xbinS (op : BinOp) (a b : ByteArray) : Option Value :=
  match op with
  | .add => if a.size + b.size ≤ 9223372036854775807 then some (.string (a ++ b)) else none
  | .eql => some (.bool (a.toList == b.toList))
  | .neq => some (.bool !(a.toList == b.toList))
  | .lss => some (.bool (Op.bytesLess a.toList b.toList))
  | .leq => some (.bool (Op.bytesLess a.toList b.toList || a.toList == b.toList))
  | .gtr => some (.bool !(Op.bytesLess a.toList b.toList || a.toList == b.toList))
  | .geq => some (.bool !(Op.bytesLess a.toList b.toList))
  | _ => none

def xbin (op : BinOp) (x y : Value) : Option Value :=
  match x, y with
  | .int k a, .int yk b => xbinI op k yk a b
  | .string a, .string b => xbinS op a b
  | _, _ => none

/-- equality of two values without addresses; the kinds (a bool, a number, a string) are given. -/
def eq1 : Nat → Value → Value → Option Bool
  | 0, .bool a, .bool b => some (a == b)
  | 1, .int j a, .int k b => if j = k then some (a == b) else none
  | 2, .string a, .string b => some (a.toList == b.toList)
  | _, _, _ => none
def eqL : List Nat → List Value → List Value → Option Bool
  | [], [], [] => some true
  | k :: ks, a :: x, b :: y => (eq1 k a b).bind fun r => (eqL ks x y).map fun q => r && q
  | _, _, _ => none
def notIf (neg b : Bool) : Bool := if neg then !b else b

def bound (v : Option Value) (d : Nat) : Option Nat :=
  match v with
  | none => some d
  | some (.int _ i) => if 0 ≤ i then some i.toNat else none
  | _ => none

/-- a list with a part of it written over. -/
def splice (l : List Value) (o : Nat) (r : List Value) : List Value := l.take o ++ r ++ l.drop (o + r.length)

def fillL : List Value → List (Nat × Nat × Value) → Option (List Value)
  | l, [] => some l
  | l, (off, sz, v) :: r => if v.cells.size = sz ∧ off + sz ≤ l.length then fillL (splice l off v.cells.toList) r else none

def one (l : List Value) : Option Value :=
  match l with
  | [v] => some v
  | _ => none

def part1 (agg : Bool) (l : List Value) : Option Value := if agg then some (.agg l.toArray) else one l

def allOne (l : List Value) : Bool := l.all (·.oneCell')

/-- what a slice holds. -/
def St.elems (S : St) (esz : Nat) : Value → Option (List Value)
  | .slice none 0 0 => some []
  | .slice (some ⟨id, o, none⟩) n _ => S.rd id o (n * esz)
  | _ => none

def vlen : Value → Option Nat
  | .slice _ n _ => some n
  | .string s => some s.size
  | _ => none

def reach : Nat := 70368744177664

def xappend (e : TypeId) (esz bytes : Nat) (s x : Value) (S : St) : Option (Value × St) :=
  match S.elems esz x, vlen x with
  | some news, some m =>
    if m = 0 then (match s with
      | .slice _ _ _ => some (s, S)
      | _ => none) else
    if allOne news && decide (0 < esz) && decide (0 < bytes) then
      match s with
      | .slice none 0 0 => if m * bytes ≤ reach then some (.slice (some ⟨S.next, 0, none⟩) m m, S.alloc (.cells news e esz true [])) else none
      | .slice (some ⟨id, o, none⟩) n c =>
        match S.get id with
        | .cells cc t z true an =>
          if z = esz ∧ n = c ∧ o + n * esz = cc.length then
            (if (n + m) * bytes ≤ reach then some (.slice (some ⟨S.next, 0, none⟩) (n + m) (n + m), S.grow id cc t z an (cc.drop o ++ news) e) else none)
          else if z = esz ∧ n + m ≤ c ∧ o + (n + m) * esz ≤ cc.length then some (.slice (some ⟨id, o, none⟩) (n + m) c, S.write id (splice cc (o + n * esz) news) t z an)
          else none
        | _ => none
      | _ => none
    else none
  | _, _ => none

def xcopy (esz : Nat) (d s : Value) (S : St) : Option (Value × St) :=
  match d, vlen s, S.elems esz s with
  | .slice a n _, some m, some src =>
    if min m n = 0 then some (.int .i64 0, S) else
    match a with
    | some ⟨id, o, none⟩ =>
      match S.get id with
      | .cells cc t z true an =>
        if o + (min m n) * esz ≤ cc.length ∧ allOne src = true then some (.int .i64 (min m n : Nat), S.write id (splice cc o (src.take ((min m n) * esz))) t z an) else none
      | _ => none
    | _ => none
  | _, _, _ => none

def rep (n : Nat) (z : List Value) : List Value := (List.replicate n z).flatten

def xclr (esz : Nat) (z : List Value) (x : Value) (S : St) : Option (Value × St) :=
  match x with
  | .slice none 0 0 => some (.tuple #[], S)
  | .slice (some ⟨id, o, none⟩) n _ =>
    if n = 0 then some (.tuple #[], S) else
    match S.get id with
    | .cells cc t zz true an => if z.length = esz ∧ o + n * esz ≤ cc.length ∧ allOne z = true then some (.tuple #[], S.write id (splice cc o (rep n z)) t zz an) else none
    | _ => none
  | _ => none

def xminmax (mx : Bool) : Int → IntKind → List Value → Option Value
  | a, k, [] => some (.int k a)
  | a, k, .int j b :: r => if j = k then xminmax mx (if mx then (if b > a then b else a) else (if b < a then b else a)) k r else none
  | _, _, _ => none

abbrev Env := Array Value

def Env.ev (env : Env) : Operand → Value
  | .tmp t => env.getD t undef
  | .const v => v
  | .global g => .pointer (some ⟨g, 0, none⟩)
  | .func f => .func (.func f) #[] #[]

/-- a part may be taken: the elements are as wide as they are said to be, or it starts at the start. -/
def slFit (w : Option Nat) (esz l : Nat) : Bool := match w with
  | some z => l == 0 || z == esz
  | none => false
theorem slFit_inv {w : Option Nat} {esz l : Nat} (h : slFit w esz l = true) : ∃ z, w = some z ∧ l * esz = l * z := by
  unfold slFit at h
  split at h
  · rename_i z
    refine ⟨z, rfl, ?_⟩
    simp only [Bool.or_eq_true, beq_iff_eq] at h
    rcases h with rfl | rfl <;> simp
  · cases h
theorem slFit_self (z l : Nat) : slFit (some z) z l = true := by simp [slFit]
theorem slFit_zero (z esz : Nat) : slFit (some z) esz 0 = true := by simp [slFit]
def slRes (S : St) (esz l h c : Nat) : Option Addr → Option (Value × St)
  | none => if c = 0 then some (.slice none 0 0, S) else none
  | some ⟨id, o, none⟩ => if slFit (S.width id) esz l = true then some (.slice (some ⟨id, o + l * esz, none⟩) (h - l) (c - l), S) else none
  | _ => none

/-- the places of a key. -/
def keyC (agg : Bool) (v : Value) : Option (List Value) :=
  match agg, v with
  | true, .agg a => some a.toList
  | true, _ => none
  | false, .agg _ => none
  | false, v => some [v]
/-- where a key stands in a map, and what belongs to it. -/
def xfind (ks : List Nat) (agg : Bool) (k : List Value) : List (Value × Value × Nat) → Nat → Option (Option (Nat × Value))
  | [], _ => some none
  | e :: r, i => (keyC agg e.1).bind fun c => (eqL ks k c).bind fun q => if q then some (some (i, e.2.1)) else xfind ks agg k r (i + 1)
def lookRes (z : Value) (ok : Bool) (r : Option (Nat × Value)) : Value := if ok then .tuple #[(r.map (·.2)).getD z, .bool r.isSome] else (r.map (·.2)).getD z
/-- a key of the given kinds. -/
def keyOf (ks : List Nat) (agg : Bool) (k : Value) : Option (List Value) := (keyC agg k).bind fun c => if c.length = ks.length then some c else none

/-- is it the function that is none? -/
def isNilF : Value → Option Bool
  | .nilFunc => some true
  | .func (.func _) _ _ => some false
  | _ => none
def xextra (e : EOp) (l : List Value) (S : St) : Option (Value × St) :=
  match e, l with
  | .mkMap, _ => some (.map (some S.next), S.alloc (.map [] 0))
  | .lookup ks agg z ok, [x, k] => (keyOf ks agg k).bind fun c => match x with
    | .map none => some (lookRes z ok none, S)
    | .map (some id) => match S.get id with
      | .obj (.map es _) => (xfind ks agg c es 0).map fun r => (lookRes z ok r, S)
      | _ => none
    | _ => none
  | .mapSet ks agg, [x, k, v] => (keyOf ks agg k).bind fun c => match x with
    | .map (some id) => match S.get id with
      | .obj (.map es cl) => (xfind ks agg c es 0).map fun r => match r with
        | some (i, _) => (undef, S.put id (.map (es.modify i fun e => (k, v, e.2.2)) cl))
        | none => (undef, S.put id (.map (es ++ [(k, v, cl)]) (cl + 1)))
      | _ => none
    | _ => none
  | .mapEnt ks agg z, [x, k] => (keyOf ks agg k).bind fun c => match x with
    | .map (some id) => match S.get id with
      | .obj (.map es cl) => (xfind ks agg c es 0).map fun r => match r with
        | some (i, v) => (.tuple #[v, .int .i64 (((es[i]?).map (·.2.2)).getD 0 : Nat)], S.put id (.map (es.modify i fun e => (k, e.2.1, e.2.2)) cl))
        | none => (.tuple #[z, .int .i64 (cl : Nat)], S.put id (.map (es ++ [(k, z, cl)]) (cl + 1)))
      | _ => none
    | _ => none
  | .entSet, [.map (some id), .int .i64 b, v] => match S.get id with
    | .obj (.map es cl) => match es.findIdx? fun e => ((e.2.2 : Nat) : Int) == b with
      | some i => some (undef, S.put id (.map (es.modify i fun e => (e.1, v, e.2.2)) cl))
      | none => none
    | _ => none
  | .mapDel ks agg, [x, k] => (keyOf ks agg k).bind fun c => match x with
    | .map none => some (.tuple #[], S)
    | .map (some id) => match S.get id with
      | .obj (.map es cl) => (xfind ks agg c es 0).map fun r => match r with
        | some (i, _) => (.tuple #[], S.put id (.map (es.eraseIdx i) cl))
        | none => (.tuple #[], S.put id (.map es cl))
      | _ => none
    | _ => none
  | .mapLen, [.map none] => some (.int .i64 0, S)
  | .mapLen, [.map (some id)] => match S.get id with
    | .obj (.map es _) => some (.int .i64 es.length, S)
    | _ => none
  | .iterStr, [.string s] => some (.pointer (some ⟨S.next, 0, none⟩), S.alloc (.iter s 0))
  | .nextStr, [.pointer (some ⟨id, 0, none⟩)] => match S.get id with
    | .obj (.iter s p) => if p < s.size then some (.tuple #[.bool true, .int .i64 p, .int .i32 (Utf8.decode s p).1], S.put id (.iter s (p + (Utf8.decode s p).2)))
      else some (.tuple #[.bool false], S)
    | _ => none
  | .iterMap, [.map none] => some (.pointer (some ⟨S.next, 0, none⟩), S.alloc (.mapIter none 0 [] 0))
  | .iterMap, [.map (some id)] => match S.get id with
    | .obj (.map _ cl) => some (.pointer (some ⟨S.next, 0, none⟩), S.alloc (.mapIter (some id) cl [] cl))
    | _ => none
  | .entMap, [.pointer (some ⟨id, 0, none⟩)] => match S.get id with
    | .obj (.mapIter (some m) _ seen last) => match S.get m with
      | .obj (.map es cl) => if cl = last then seen.getLast?.bind fun s => (es.find? fun e => e.2.2 == s).map fun e => (.tuple #[e.1, e.2.1], S) else none
      | _ => none
    | _ => none
  | .capNil, [.slice none 0 0] => some (.int .i64 0, S)
  | .nilF neg, [x, .nilFunc] => (isNilF x).map fun b => (.bool (notIf neg b), S)
  | .gload, [] => if gOn then some (.chan (some 0), S) else none
  | .lookG z ok, [.chan (some 0), .int .i64 n] => if gOn then some (lookRes z ok ((gTab.lookup n).map fun f => (0, .func (.func f) #[] #[])), S) else none
  | _, _ => none

def xop (o : XOp) (ρ : Operand → Value) (S : St) : Option (Value × St) :=
  match o with
  | .mv x => some (ρ x, S)
  | .pick c a b => match ρ c with
    | .bool q => some (if q then ρ a else ρ b, S)
    | _ => none
  | .box t x => if allOne (ρ x).cells.toList then some (.pointer (some ⟨S.next, 0, none⟩), S.alloc (.cells (ρ x).cells.toList t (ρ x).cells.size true [])) else none
  | .zero t z => some (.pointer (some ⟨S.next, 0, none⟩), S.alloc (.cells z.cells.toList t z.cells.size true []))
  | .load agg sz x => match ρ x with
    | .pointer (some ⟨id, o, none⟩) => (S.rd id o sz).bind fun c => (part1 agg c).map fun v => (v, S)
    | _ => none
  | .store sz a x => match ρ a with
    | .pointer (some ⟨id, o, none⟩) => match S.get id with
      | .cells c t z true an => if (ρ x).cells.size = sz ∧ o + sz ≤ c.length ∧ allOne (ρ x).cells.toList = true then some (undef, S.write id (splice c o (ρ x).cells.toList) t z an) else none
      | _ => none
    | _ => none
  | .nilck x => match ρ x with
    | .pointer (some ⟨id, o, none⟩) => some (.pointer (some ⟨id, o, none⟩), S)
    | .func (.func f) a b => some (.func (.func f) a b, S)
    | .iface t v => some (.iface t v, S)
    | _ => none
  | .bin op x y => (xbin op (ρ x) (ρ y)).map fun v => (v, S)
  | .eqb neg x y => match ρ x, ρ y with
    | .bool a, .bool b => some (.bool (notIf neg (a == b)), S)
    | _, _ => none
  | .eqf ks neg x y => match ρ x, ρ y with
    | .agg a, .agg b => (eqL ks a.toList b.toList).map fun r => (.bool (notIf neg r), S)
    | _, _ => none
  | .eqp neg x y => match ρ x, ρ y with
    | .pointer p, .pointer none => some (.bool (notIf neg p.isNone), S)
    | _, _ => none
  | .eqs neg x y => match ρ x, ρ y with
    | .slice p _ _, .slice none _ _ => some (.bool (notIf neg p.isNone), S)
    | _, _ => none
  | .un op x => match op, ρ x with
    | .neg, .int k n => some (.int k (k.wrap (0 - n)), S)
    | .not, .bool b => some (.bool !b, S)
    | _, _ => none
  | .cvi k x => match ρ x with
    | .int _ n => some (.int k (k.wrap n), S)
    | _ => none
  | .cvs x => match ρ x with
    | .string s => some (.string s, S)
    | _ => none
  | .mkIface t x => some (.iface t (ρ x), S)
  | .mkFunc f a b => some (.func (.func f) (a.map ρ) (b.map ρ), S)
  | .mkSlice e esz bytes z l c => match ρ l, ρ c with
    | .int _ l, .int _ c => if 0 ≤ l ∧ l ≤ c ∧ bytes * c.toNat ≤ reach ∧ 0 < bytes ∧ z.length = esz ∧ allOne z = true then
        some (.slice (some ⟨S.next, 0, none⟩) l.toNat c.toNat, S.alloc (.cells (rep c.toNat z) e esz true [])) else none
    | _, _ => none
  | .sl esz x lo hi => match ρ x with
    | .slice a n c => match bound (lo.map ρ) 0, bound (hi.map ρ) n with
      | some l, some h => if l ≤ h ∧ h ≤ c then
          slRes S esz l h c a else none
      | _, _ => none
    | _ => none
  | .slStr x lo hi => match ρ x with
    | .string s => match bound (lo.map ρ) 0, bound (hi.map ρ) s.size with
      | some l, some h => if l ≤ h ∧ h ≤ s.size then some (.string (s.extract l h), S) else none
      | _, _ => none
    | _ => none
  | .fa off x => match ρ x with
    | .pointer (some ⟨id, o, none⟩) => some (.pointer (some ⟨id, o + off, none⟩), S)
    | _ => none
  | .fld agg sz off x => match ρ x with
    | .agg a => if off + sz ≤ a.size then (part1 agg ((a.toList.drop off).take sz)).map fun v => (v, S) else none
    | _ => none
  | .ia esz x i => match ρ x, ρ i with
    | .slice (some ⟨id, o, none⟩) n _, .int _ i => if 0 ≤ i ∧ i < n then some (.pointer (some ⟨id, o + i.toNat * esz, none⟩), S) else none
    | _, _ => none
  | .iaArr n esz x i => match ρ x, ρ i with
    | .pointer (some ⟨id, o, none⟩), .int _ i => if 0 ≤ i ∧ i < n then some (.pointer (some ⟨id, o + i.toNat * esz, none⟩), S) else none
    | _, _ => none
  | .idx n agg esz x i => match ρ x, ρ i with
    | .agg a, .int _ i => if 0 ≤ i ∧ i < n ∧ i.toNat * esz + esz ≤ a.size then (part1 agg ((a.toList.drop (i.toNat * esz)).take esz)).map fun v => (v, S) else none
    | _, _ => none
  | .idxStr x i => match ρ x, ρ i with
    | .string s, .int _ i => if 0 ≤ i then (s[i.toNat]?).map fun b => (.int .u8 b.toNat, S) else none
    | _, _ => none
  | .ext x i => match ρ x with
    | .tuple a => (a[i]?).map fun v => (v, S)
    | _ => none
  | .build z parts => (fillL z (parts.map fun p => (p.1, p.2.1, ρ p.2.2))).map fun l => (.agg l.toArray, S)
  | .buildSlice e esz n z parts => if z.length = esz then (fillL (rep n z) (parts.map fun p => (p.1, p.2.1, ρ p.2.2))).bind fun l => if allOne l then some (.slice (some ⟨S.next, 0, none⟩) n n, S.alloc (.cells l e esz true [])) else none else none
  | .len x => match ρ x with
    | .slice _ n _ => some (.int .i64 n, S)
    | _ => none
  | .lenStr x => match ρ x with
    | .string s => some (.int .i64 s.size, S)
    | _ => none
  | .append e esz bytes s x => xappend e esz bytes (ρ s) (ρ x) S
  | .copy esz d s => xcopy esz (ρ d) (ρ s) S
  | .clr esz z x => xclr esz z (ρ x) S
  | .minmax mx x l => match ρ x with
    | .int k a => (xminmax mx a k (l.map ρ)).map fun v => (v, S)
    | _ => none
  | .call _ _ => none
  | .callv _ _ => none
  | .extra e l => xextra e (l.map ρ) S
end Go.Proofs.YtofjnhdgkhfgnaaDoor

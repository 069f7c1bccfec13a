/- The operations of the evaluator. No program in sight. -/
import Derived.Test.YtofjnhdgkhfgnaaDoorKa
set_option linter.unusedVariables false
set_option linter.unusedSimpArgs false
set_option linter.unusedSectionVars false
namespace Go.Proofs.YtofjnhdgkhfgnaaDoor
open Go Go.RowKit

/-- a list without its first elements. -/
noncomputable def ldrop {α : Type} (l : List α) : Nat → List α := @List.rec α (fun _ => Nat → List α) (fun _ => []) (fun x t ih n => @Bool.rec (fun _ => List α) (ih (Nat.sub n 1)) (x :: t) (Nat.beq n 0)) l
theorem ldrop_eq {α : Type} (l : List α) : ∀ n, ldrop l n = l.drop n := by
  induction l with
  | nil => intro n; simp [ldrop]
  | cons x t ih =>
    intro n
    cases n with
    | zero => rfl
    | succ n => show ldrop t (n + 1 - 1) = _; rw [ih]; rfl
/-- its first n elements, if there are so many; handed on. -/
noncomputable def ltake {α β : Type} (n : Nat) : List α → (List α → Option β) → Option β := @Nat.rec (fun _ => List α → (List α → Option β) → Option β) (fun _ k => k []) (fun _ ih l k => @List.rec α (fun _ => Option β) none (fun x t _ => ih t fun r => k (x :: r)) l) n
theorem ltake_eq {α β : Type} (n : Nat) : ∀ (l : List α) (k : List α → Option β), ltake n l k = if n ≤ l.length then k (l.take n) else none := by
  induction n with
  | zero => intro l k; exact (if_pos (Nat.zero_le _)).symm
  | succ n ih =>
    intro l k
    cases l with
    | nil => simp [ltake]
    | cons x t => show ltake n t _ = _; rw [ih]; simp
/-- what places hold. -/
noncomputable def krd (S : St) (id o n : Nat) (k : List Value → Option KAct) : Option KAct := match kblk S.heap id with
  | .cells c _ _ _ _ => match n with
    | 0 => if o ≤ c.length then k [] else none
    | n => ltake n (ldrop c o) k
  | _ => none
theorem krd_eq (S : St) (id o n : Nat) (k : List Value → Option KAct) : krd S id o n k = (S.rd id o n).bind k := by
  unfold krd St.rd
  rw [kblk_eq S.heap S.next]
  show (match S.get id with | .cells c _ _ _ _ => _ | _ => none) = _
  cases S.get id with
  | gone => rfl
  | obj o => rfl
  | cells c t z m an =>
    simp only []
    split
    · simp only [Nat.add_zero, List.take_zero]
      split <;> rfl
    · rename_i hn
      rw [ltake_eq, ldrop_eq, List.length_drop]
      have hn' : n ≠ 0 := fun e => hn e
      by_cases h : o + n ≤ c.length
      · rw [if_pos h, if_pos (by omega)]; rfl
      · rw [if_neg h, if_neg (by omega)]; rfl
noncomputable def kpart1 (agg : Bool) (l : List Value) : Option KAct := (part1 agg l).map .old


noncomputable def kappend (e : TypeId) (esz bytes : Nat) (s x : Value) (S : St) : Option KAct :=
  match S.elems esz x, vlen x with
  | some news, some m =>
    if m = 0 then (match s with
      | .slice _ _ _ => some (.val s)
      | _ => none) else
    if allOne news && decide (0 < esz) && decide (0 < bytes) then
      match s with
      | .slice none 0 0 => if m * bytes ≤ reach then some (.new (.slice (some ⟨S.next, 0, none⟩) m m) (.cells news e esz true [])) else none
      | .slice (some ⟨id, o, none⟩) n c =>
        match S.get id with
        | .cells cc t z true an =>
          if z = esz ∧ n = c ∧ o + n * esz = cc.length then
            (if (n + m) * bytes ≤ reach then some (.grow (.slice (some ⟨S.next, 0, none⟩) (n + m) (n + m)) id (.cells cc t z false an) (.cells (cc.drop o ++ news) e z true (id :: an))) else none)
          else if z = esz ∧ n + m ≤ c ∧ o + (n + m) * esz ≤ cc.length then some (.put (.slice (some ⟨id, o, none⟩) (n + m) c) id an (.cells (splice cc (o + n * esz) news) t z true []))
          else none
        | _ => none
      | _ => none
    else none
  | _, _ => none
noncomputable def kcopy (esz : Nat) (d s : Value) (S : St) : Option KAct :=
  match d, vlen s, S.elems esz s with
  | .slice a n _, some m, some src =>
    if min m n = 0 then some (.val (.int .i64 0)) else
    match a with
    | some ⟨id, o, none⟩ =>
      match S.get id with
      | .cells cc t z true an =>
        if o + (min m n) * esz ≤ cc.length ∧ allOne src = true then some (.put (.int .i64 (min m n : Nat)) id an (.cells (splice cc o (src.take ((min m n) * esz))) t z true [])) else none
      | _ => none
    | _ => none
  | _, _, _ => none
noncomputable def kclr (esz : Nat) (z : List Value) (x : Value) (S : St) : Option KAct :=
  match x with
  | .slice none 0 0 => some (.val (.tuple #[]))
  | .slice (some ⟨id, o, none⟩) n _ =>
    if n = 0 then some (.val (.tuple #[])) else
    match S.get id with
    | .cells cc t zz true an => if z.length = esz ∧ o + n * esz ≤ cc.length ∧ allOne z = true then some (.put (.tuple #[]) id an (.cells (splice cc o (rep n z)) t zz true [])) else none
    | _ => none
  | _ => none
noncomputable def kextra (e : EOp) (l : List Value) (S : St) : Option KAct :=
  match e, l with
  | .mkMap, _ => some (.new (.map (some S.next)) (.map [] 0))
  | .lookup ks agg z ok, [x, k] => (keyOf ks agg k).bind fun c => match x with
    | .map none => some (.val (lookRes z ok none))
    | .map (some id) => match S.get id with
      | .obj (.map es _) => (xfind ks agg c es 0).map fun r => .val (lookRes z ok r)
      | _ => none
    | _ => none
  | .mapSet ks agg, [x, k, v] => (keyOf ks agg k).bind fun c => match x with
    | .map (some id) => match S.get id with
      | .obj (.map es cl) => (xfind ks agg c es 0).map fun r => match r with
        | some (i, _) => .put undef id [] (.map (es.modify i fun e => (k, v, e.2.2)) cl)
        | none => .put undef id [] (.map (es ++ [(k, v, cl)]) (cl + 1))
      | _ => none
    | _ => none
  | .mapEnt ks agg z, [x, k] => (keyOf ks agg k).bind fun c => match x with
    | .map (some id) => match S.get id with
      | .obj (.map es cl) => (xfind ks agg c es 0).map fun r => match r with
        | some (i, v) => .put (.tuple #[v, .int .i64 (((es[i]?).map (·.2.2)).getD 0 : Nat)]) id [] (.map (es.modify i fun e => (k, e.2.1, e.2.2)) cl)
        | none => .put (.tuple #[z, .int .i64 (cl : Nat)]) id [] (.map (es ++ [(k, z, cl)]) (cl + 1))
      | _ => none
    | _ => none
  | .entSet, [.map (some id), .int .i64 b, v] => match S.get id with
    | .obj (.map es cl) => match es.findIdx? fun e => ((e.2.2 : Nat) : Int) == b with
      | some i => some (.put undef id [] (.map (es.modify i fun e => (e.1, v, e.2.2)) cl))
      | none => none
    | _ => none
  | .mapDel ks agg, [x, k] => (keyOf ks agg k).bind fun c => match x with
    | .map none => some (.val (.tuple #[]))
    | .map (some id) => match S.get id with
      | .obj (.map es cl) => (xfind ks agg c es 0).map fun r => match r with
        | some (i, _) => .put (.tuple #[]) id [] (.map (es.eraseIdx i) cl)
        | none => .put (.tuple #[]) id [] (.map es cl)
      | _ => none
    | _ => none
  | .mapLen, [.map none] => some (.val (.int .i64 0))
  | .mapLen, [.map (some id)] => match S.get id with
    | .obj (.map es _) => some (.val (.int .i64 es.length))
    | _ => none
  | .iterStr, [.string s] => some (.new (.pointer (some ⟨S.next, 0, none⟩)) (.iter s 0))
  | .nextStr, [.pointer (some ⟨id, 0, none⟩)] => match S.get id with
    | .obj (.iter s p) => if p < s.size then some (.put (.tuple #[.bool true, .int .i64 p, .int .i32 (Utf8.decode s p).1]) id [] (.iter s (p + (Utf8.decode s p).2)))
      else some (.val (.tuple #[.bool false]))
    | _ => none
  | .iterMap, [.map none] => some (.new (.pointer (some ⟨S.next, 0, none⟩)) (.mapIter none 0 [] 0))
  | .iterMap, [.map (some id)] => match S.get id with
    | .obj (.map _ cl) => some (.new (.pointer (some ⟨S.next, 0, none⟩)) (.mapIter (some id) cl [] cl))
    | _ => none
  | .entMap, [.pointer (some ⟨id, 0, none⟩)] => match S.get id with
    | .obj (.mapIter (some m) _ seen last) => match S.get m with
      | .obj (.map es cl) => if cl = last then seen.getLast?.bind fun s => (es.find? fun e => e.2.2 == s).map fun e => .val (.tuple #[e.1, e.2.1]) else none
      | _ => none
    | _ => none
  | .capNil, [.slice none 0 0] => some (.val (.int .i64 0))
  | .nilF neg, [x, .nilFunc] => (isNilF x).map fun b => .val (.bool (notIf neg b))
  | .gload, [] => if gOn then some (.val (.chan (some 0))) else none
  | .lookG z ok, [.chan (some 0), .int .i64 n] => if gOn then some (.val (lookRes z ok ((gTab.lookup n).map fun f => (0, .func (.func f) #[] #[])))) else none
  | _, _ => none

noncomputable def k_mv (x : Operand) (ρ : Operand → Value) (S : St) : Option KAct :=
  some (.old (ρ x))
noncomputable def k_pick (c : Operand) (a : Operand) (b : Operand) (ρ : Operand → Value) (S : St) : Option KAct :=
  match ρ c with
    | .bool q => @Bool.rec (fun _ => Option KAct) (some (.old (ρ b))) (some (.old (ρ a))) q
    | _ => none
noncomputable def k_box (t : TypeId) (x : Operand) (ρ : Operand → Value) (S : St) : Option KAct :=
  if allOne (ρ x).cells.toList then some (.new (.pointer (some ⟨S.next, 0, none⟩)) (.cells (ρ x).cells.toList t (ρ x).cells.size true [])) else none
noncomputable def k_zero (t : TypeId) (z : Value) (ρ : Operand → Value) (S : St) : Option KAct :=
  some (.new (.pointer (some ⟨S.next, 0, none⟩)) (.cells z.cells.toList t z.cells.size true []))
noncomputable def k_load (agg : Bool) (sz : Nat) (x : Operand) (ρ : Operand → Value) (S : St) : Option KAct :=
  match ρ x with
    | .pointer (some ⟨id, o, none⟩) => krd S id o sz (kpart1 agg)
    | _ => none
noncomputable def k_store (sz : Nat) (a : Operand) (x : Operand) (ρ : Operand → Value) (S : St) : Option KAct :=
  match ρ a with
    | .pointer (some ⟨id, o, none⟩) => match kblk S.heap id with
      | .cells c t z true an => if (ρ x).cells.size = sz ∧ o + sz ≤ c.length ∧ allOne (ρ x).cells.toList = true then some (.put undef id an (.cells (splice c o (ρ x).cells.toList) t z true [])) else none
      | _ => none
    | _ => none
noncomputable def k_nilck (x : Operand) (ρ : Operand → Value) (S : St) : Option KAct :=
  match ρ x with
    | .pointer (some ⟨id, o, none⟩) => some (.val (.pointer (some ⟨id, o, none⟩)))
    | .func (.func f) a b => some (.val (.func (.func f) a b))
    | .iface t v => some (.val (.iface t v))
    | _ => none
noncomputable def k_bin (op : BinOp) (x : Operand) (y : Operand) (ρ : Operand → Value) (S : St) : Option KAct :=
  (xbin op (ρ x) (ρ y)).map .val
noncomputable def k_eqb (neg : Bool) (x : Operand) (y : Operand) (ρ : Operand → Value) (S : St) : Option KAct :=
  match ρ x, ρ y with
    | .bool a, .bool b => some (.val (.bool (notIf neg (a == b))))
    | _, _ => none
noncomputable def k_eqf (ks : List Nat) (neg : Bool) (x : Operand) (y : Operand) (ρ : Operand → Value) (S : St) : Option KAct :=
  match ρ x, ρ y with
    | .agg a, .agg b => (eqL ks a.toList b.toList).map fun r => .val (.bool (notIf neg r))
    | _, _ => none
noncomputable def k_eqp (neg : Bool) (x : Operand) (y : Operand) (ρ : Operand → Value) (S : St) : Option KAct :=
  match ρ x, ρ y with
    | .pointer p, .pointer none => some (.val (.bool (notIf neg p.isNone)))
    | _, _ => none
noncomputable def k_eqs (neg : Bool) (x : Operand) (y : Operand) (ρ : Operand → Value) (S : St) : Option KAct :=
  match ρ x, ρ y with
    | .slice p _ _, .slice none _ _ => some (.val (.bool (notIf neg p.isNone)))
    | _, _ => none
noncomputable def k_un (op : UnOp) (x : Operand) (ρ : Operand → Value) (S : St) : Option KAct :=
  match op, ρ x with
    | .neg, .int k n => some (.val (.int k (k.wrap (0 - n))))
    | .not, .bool b => some (.val (.bool !b))
    | _, _ => none
noncomputable def k_cvi (k : IntKind) (x : Operand) (ρ : Operand → Value) (S : St) : Option KAct :=
  match ρ x with
    | .int _ n => some (.val (.int k (k.wrap n)))
    | _ => none
noncomputable def k_cvs (x : Operand) (ρ : Operand → Value) (S : St) : Option KAct :=
  match ρ x with
    | .string s => some (.val (.string s))
    | _ => none
noncomputable def k_mkIface (t : TypeId) (x : Operand) (ρ : Operand → Value) (S : St) : Option KAct :=
  some (.val (.iface t (ρ x)))
noncomputable def k_mkFunc (f : FuncId) (a : Array Operand) (b : Array Operand) (ρ : Operand → Value) (S : St) : Option KAct :=
  some (.val (.func (.func f) (a.map ρ) (b.map ρ)))
noncomputable def k_mkSlice (e : TypeId) (esz : Nat) (bytes : Nat) (z : List Value) (l : Operand) (c : Operand) (ρ : Operand → Value) (S : St) : Option KAct :=
  match ρ l, ρ c with
    | .int _ l, .int _ c => if 0 ≤ l ∧ l ≤ c ∧ bytes * c.toNat ≤ reach ∧ 0 < bytes ∧ z.length = esz ∧ allOne z = true then
        some (.new (.slice (some ⟨S.next, 0, none⟩) l.toNat c.toNat) (.cells (rep c.toNat z) e esz true [])) else none
    | _, _ => none
noncomputable def k_sl (esz : Nat) (x : Operand) (lo : Option Operand) (hi : Option Operand) (ρ : Operand → Value) (S : St) : Option KAct :=
  match ρ x with
    | .slice a n c => match bound (lo.map ρ) 0, bound (hi.map ρ) n with
      | some l, some h => if l ≤ h ∧ h ≤ c then (slRes S esz l h c a).map fun r => .val r.1 else none
      | _, _ => none
    | _ => none
noncomputable def k_slStr (x : Operand) (lo : Option Operand) (hi : Option Operand) (ρ : Operand → Value) (S : St) : Option KAct :=
  match ρ x with
    | .string s => match bound (lo.map ρ) 0, bound (hi.map ρ) s.size with
      | some l, some h => if l ≤ h ∧ h ≤ s.size then some (.val (.string ⟨⟨(s.data.toList.drop l).take (h - l)⟩⟩)) else none
      | _, _ => none
    | _ => none
noncomputable def k_fa (off : Nat) (x : Operand) (ρ : Operand → Value) (S : St) : Option KAct :=
  match ρ x with
    | .pointer (some ⟨id, o, none⟩) => some (.val (.pointer (some ⟨id, o + off, none⟩)))
    | _ => none
noncomputable def k_fld (agg : Bool) (sz : Nat) (off : Nat) (x : Operand) (ρ : Operand → Value) (S : St) : Option KAct :=
  match ρ x with
    | .agg a => if off + sz ≤ a.size then kpart1 agg ((a.toList.drop off).take sz) else none
    | _ => none
noncomputable def k_ia (esz : Nat) (x : Operand) (i : Operand) (ρ : Operand → Value) (S : St) : Option KAct :=
  match ρ x, ρ i with
    | .slice (some ⟨id, o, none⟩) n _, .int _ i => if 0 ≤ i ∧ i < n then some (.val (.pointer (some ⟨id, o + i.toNat * esz, none⟩))) else none
    | _, _ => none
noncomputable def k_iaArr (n : Nat) (esz : Nat) (x : Operand) (i : Operand) (ρ : Operand → Value) (S : St) : Option KAct :=
  match ρ x, ρ i with
    | .pointer (some ⟨id, o, none⟩), .int _ i => if 0 ≤ i ∧ i < n then some (.val (.pointer (some ⟨id, o + i.toNat * esz, none⟩))) else none
    | _, _ => none
noncomputable def k_idx (n : Nat) (agg : Bool) (esz : Nat) (x : Operand) (i : Operand) (ρ : Operand → Value) (S : St) : Option KAct :=
  match ρ x, ρ i with
    | .agg a, .int _ i => if 0 ≤ i ∧ i < n ∧ i.toNat * esz + esz ≤ a.size then kpart1 agg ((a.toList.drop (i.toNat * esz)).take esz) else none
    | _, _ => none
noncomputable def k_idxStr (x : Operand) (i : Operand) (ρ : Operand → Value) (S : St) : Option KAct :=
  match ρ x, ρ i with
    | .string s, .int _ i => if 0 ≤ i then (match ldrop s.data.toList i.toNat with
      | [] => none
      | b :: _ => some (.val (.int .u8 b.toNat))) else none
    | _, _ => none
noncomputable def k_ext (x : Operand) (i : Nat) (ρ : Operand → Value) (S : St) : Option KAct :=
  match ρ x with
    | .tuple a => (a.toList[i]?).map .old
    | _ => none
noncomputable def k_build (z : List Value) (parts : List (Nat × Nat × Operand)) (ρ : Operand → Value) (S : St) : Option KAct :=
  (fillL z (parts.map fun p => (p.1, p.2.1, ρ p.2.2))).map fun l => .val (.agg ⟨l⟩)
noncomputable def k_buildSlice (e : TypeId) (esz : Nat) (n : Nat) (z : List Value) (parts : List (Nat × Nat × Operand)) (ρ : Operand → Value) (S : St) : Option KAct :=
  if z.length = esz then (fillL (rep n z) (parts.map fun p => (p.1, p.2.1, ρ p.2.2))).bind fun l => if allOne l then some (.new (.slice (some ⟨S.next, 0, none⟩) n n) (.cells l e esz true [])) else none else none
noncomputable def k_len (x : Operand) (ρ : Operand → Value) (S : St) : Option KAct :=
  match ρ x with
    | .slice _ n _ => some (.val (.int .i64 n))
    | _ => none
noncomputable def k_lenStr (x : Operand) (ρ : Operand → Value) (S : St) : Option KAct :=
  match ρ x with
    | .string s => some (.val (.int .i64 s.size))
    | _ => none
noncomputable def k_append (e : TypeId) (esz : Nat) (bytes : Nat) (s : Operand) (x : Operand) (ρ : Operand → Value) (S : St) : Option KAct :=
  kappend e esz bytes (ρ s) (ρ x) S
noncomputable def k_copy (esz : Nat) (d : Operand) (s : Operand) (ρ : Operand → Value) (S : St) : Option KAct :=
  kcopy esz (ρ d) (ρ s) S
noncomputable def k_clr (esz : Nat) (z : List Value) (x : Operand) (ρ : Operand → Value) (S : St) : Option KAct :=
  kclr esz z (ρ x) S
noncomputable def k_minmax (mx : Bool) (x : Operand) (l : List Operand) (ρ : Operand → Value) (S : St) : Option KAct :=
  match ρ x with
    | .int k a => (xminmax mx a k (l.map ρ)).map .val
    | _ => none
noncomputable def k_call (f : FuncId) (args : Array Operand) (ρ : Operand → Value) (S : St) : Option KAct :=
  some (.call (.func f) (args.toList.map ρ))
noncomputable def k_callv (x : Operand) (args : Array Operand) (ρ : Operand → Value) (S : St) : Option KAct :=
  match ρ x with
    | .func g a b => some (.call g (a.toList ++ args.toList.map ρ ++ b.toList))
    | _ => none
noncomputable def k_extra (e : EOp) (l : List Operand) (ρ : Operand → Value) (S : St) : Option KAct :=
  kextra e (l.map ρ) S

/-- what the evaluator does is what the machine does; and it is no call. -/
noncomputable def kfit (S : St) (r : Option KAct) (x : Option (Value × St)) : Prop := x = r.map (KAct.run S) ∧ ∀ g l, r ≠ some (.call g l)
section
variable {S : St}
theorem kfit_none : kfit S none none := ⟨rfl, fun _ _ h => by cases h⟩
theorem kfit_val (v : Value) : kfit S (some (.val v)) (some (v, S)) := ⟨rfl, fun _ _ h => by cases h⟩
theorem kfit_old (v : Value) : kfit S (some (.old v)) (some (v, S)) := ⟨rfl, fun _ _ h => by cases h⟩
theorem kfit_mapo (o : Option Value) : kfit S (o.map .old) (o.map fun x => (x, S)) := by cases o <;> first | exact kfit_none | exact kfit_old _
theorem kfit_new (v : Value) (b : Blk) : kfit S (some (.new v b)) (some (v, S.alloc b)) := ⟨rfl, fun _ _ h => by cases h⟩
theorem kfit_write (v : Value) (id : Nat) (an : List Nat) (c : List Value) (t : TypeId) (z : Nat) : kfit S (some (.put v id an (.cells c t z true []))) (some (v, S.write id c t z an)) := ⟨rfl, fun _ _ h => by cases h⟩
theorem kfit_put (v : Value) (id : Nat) (b : Blk) : kfit S (some (.put v id [] b)) (some (v, S.put id b)) := ⟨rfl, fun _ _ h => by cases h⟩
theorem kfit_grow (v : Value) (id : Nat) (c : List Value) (t : TypeId) (z : Nat) (an : List Nat) (c2 : List Value) (t2 : TypeId) : kfit S (some (.grow v id (.cells c t z false an) (.cells c2 t2 z true (id :: an)))) (some (v, S.grow id c t z an c2 t2)) := ⟨rfl, fun _ _ h => by cases h⟩
theorem kfit_map {α : Type} (o : Option α) (f : α → Value) : kfit S (o.map fun x => .val (f x)) (o.map fun x => (f x, S)) := by cases o <;> first | exact kfit_none | exact kfit_val _
theorem kfit_mapv (o : Option Value) : kfit S (o.map .val) (o.map fun x => (x, S)) := by cases o <;> first | exact kfit_none | exact kfit_val _
theorem kfit_bind {α : Type} (o : Option α) {f : α → Option KAct} {g : α → Option (Value × St)} (h : ∀ x, kfit S (f x) (g x)) : kfit S (o.bind f) (o.bind g) := by cases o <;> first | exact kfit_none | exact h _
theorem kfit_mapA {α : Type} (o : Option α) {f : α → KAct} {g : α → Value × St} (h : ∀ x, kfit S (some (f x)) (some (g x))) : kfit S (o.map f) (o.map g) := by cases o <;> first | exact kfit_none | exact h _
theorem kfit_part (agg : Bool) (c : List Value) : kfit S (kpart1 agg c) ((part1 agg c).map fun v => (v, S)) := kfit_mapo _
theorem kfit_rd (agg : Bool) (id o sz : Nat) : kfit S (krd S id o sz (kpart1 agg)) ((S.rd id o sz).bind fun c => (part1 agg c).map fun v => (v, S)) := by
  rw [krd_eq]; exact kfit_bind _ fun c => kfit_part agg c
end


theorem kblk_get (S : St) (id : Nat) : kblk S.heap id = S.get id := kblk_eq S.heap S.next id
theorem extract_list (s : ByteArray) (l h : Nat) (h1 : l ≤ h) (h2 : h ≤ s.size) : s.extract l h = ⟨⟨(s.data.toList.drop l).take (h - l)⟩⟩ := by
  apply ByteArray.ext
  apply Array.ext'
  rw [ByteArray.data_extract]
  simp
theorem kextra_ok (e : EOp) (l : List Value) (S : St) : kfit S (kextra e l S) (xextra e l S) := by
  cases e with
  | mkMap => exact kfit_new _ _
  | lookup ks agg z ok =>
    rcases l with _ | ⟨x, _ | ⟨k, _ | ⟨_, _⟩⟩⟩ <;> try exact kfit_none
    refine kfit_bind _ fun c => ?_
    cases x with
    | map r =>
      cases r with
      | none => exact kfit_val _
      | some id =>
        show kfit S (match S.get id with | .obj (.map es _) => _ | _ => none) (match S.get id with | .obj (.map es _) => _ | _ => none)
        generalize S.get id = b
        rcases b with _ | _ | o <;> try exact kfit_none
        cases o <;> first | exact kfit_none | exact kfit_map _ _
    | _ => exact kfit_none
  | mapSet ks agg =>
    rcases l with _ | ⟨x, _ | ⟨k, _ | ⟨v, _ | ⟨_, _⟩⟩⟩⟩ <;> try exact kfit_none
    refine kfit_bind _ fun c => ?_
    cases x with
    | map r =>
      cases r with
      | none => exact kfit_none
      | some id =>
        show kfit S (match S.get id with | .obj (.map es _) => _ | _ => none) (match S.get id with | .obj (.map es _) => _ | _ => none)
        generalize S.get id = b
        rcases b with _ | _ | o <;> try exact kfit_none
        cases o <;> try exact kfit_none
        refine kfit_mapA _ fun r => ?_
        rcases r with _ | ⟨i, v⟩ <;> exact kfit_put _ _ _
    | _ => exact kfit_none
  | mapEnt ks agg z =>
    rcases l with _ | ⟨x, _ | ⟨k, _ | ⟨_, _⟩⟩⟩ <;> try exact kfit_none
    refine kfit_bind _ fun c => ?_
    cases x with
    | map r =>
      cases r with
      | none => exact kfit_none
      | some id =>
        show kfit S (match S.get id with | .obj (.map es _) => _ | _ => none) (match S.get id with | .obj (.map es _) => _ | _ => none)
        generalize S.get id = b
        rcases b with _ | _ | o <;> try exact kfit_none
        cases o <;> try exact kfit_none
        refine kfit_mapA _ fun r => ?_
        rcases r with _ | ⟨i, v⟩ <;> exact kfit_put _ _ _
    | _ => exact kfit_none
  | entSet =>
    rcases l with _ | ⟨x, _ | ⟨k, _ | ⟨v, _ | ⟨_, _⟩⟩⟩⟩
    · exact kfit_none
    · cases x <;> try exact kfit_none
      rename_i r
      cases r <;> exact kfit_none
    · cases x <;> try exact kfit_none
      rename_i r
      cases r <;> try exact kfit_none
      cases k <;> try exact kfit_none
      rename_i ik b
      cases ik <;> exact kfit_none
    · cases x <;> try exact kfit_none
      rename_i r
      cases r with
      | none => exact kfit_none
      | some id =>
        cases k <;> try exact kfit_none
        rename_i ik b
        cases ik <;> try exact kfit_none
        show kfit S (match S.get id with | .obj (.map es cl) => _ | _ => none) (match S.get id with | .obj (.map es cl) => _ | _ => none)
        generalize S.get id = bb
        rcases bb with _ | _ | o <;> try exact kfit_none
        cases o <;> try exact kfit_none
        rename_i es cl
        show kfit S (match es.findIdx? fun e => ((e.2.2 : Nat) : Int) == b with | some i => _ | none => none) (match es.findIdx? fun e => ((e.2.2 : Nat) : Int) == b with | some i => _ | none => none)
        cases es.findIdx? fun e => ((e.2.2 : Nat) : Int) == b <;> first | exact kfit_none | exact kfit_put _ _ _
    · cases x <;> try exact kfit_none
      rename_i r
      cases r <;> try exact kfit_none
      cases k <;> try exact kfit_none
      rename_i ik b
      cases ik <;> exact kfit_none
  | mapDel ks agg =>
    rcases l with _ | ⟨x, _ | ⟨k, _ | ⟨_, _⟩⟩⟩ <;> try exact kfit_none
    refine kfit_bind _ fun c => ?_
    cases x with
    | map r =>
      cases r with
      | none => exact kfit_val _
      | some id =>
        show kfit S (match S.get id with | .obj (.map es _) => _ | _ => none) (match S.get id with | .obj (.map es _) => _ | _ => none)
        generalize S.get id = b
        rcases b with _ | _ | o <;> try exact kfit_none
        cases o <;> try exact kfit_none
        refine kfit_mapA _ fun r => ?_
        rcases r with _ | ⟨i, v⟩ <;> exact kfit_put _ _ _
    | _ => exact kfit_none
  | mapLen =>
    rcases l with _ | ⟨x, _ | ⟨_, _⟩⟩
    · exact kfit_none
    · cases x with
      | map r =>
        cases r with
        | none => exact kfit_val _
        | some id =>
          show kfit S (match S.get id with | .obj (.map es _) => _ | _ => none) (match S.get id with | .obj (.map es _) => _ | _ => none)
          generalize S.get id = b
          rcases b with _ | _ | o <;> try exact kfit_none
          cases o <;> first | exact kfit_none | exact kfit_val _
      | _ => exact kfit_none
    · cases x with
      | map r => cases r <;> exact kfit_none
      | _ => exact kfit_none
  | iterStr =>
    rcases l with _ | ⟨x, _ | ⟨_, _⟩⟩
    · exact kfit_none
    · cases x <;> first | exact kfit_none | exact kfit_new _ _
    · cases x <;> exact kfit_none
  | nextStr =>
    rcases l with _ | ⟨x, _ | ⟨_, _⟩⟩
    · exact kfit_none
    · cases x with
      | pointer p =>
        rcases p with _ | ⟨id, _ | o, _ | q⟩ <;> try exact kfit_none
        show kfit S (match S.get id with | .obj (.iter s p) => _ | _ => none) (match S.get id with | .obj (.iter s p) => _ | _ => none)
        generalize S.get id = b
        rcases b with _ | _ | o <;> try exact kfit_none
        cases o <;> try exact kfit_none
        show kfit S (if _ then _ else _) (if _ then _ else _)
        split <;> first | exact kfit_put _ _ _ | exact kfit_val _
      | _ => exact kfit_none
    · cases x with
      | pointer p => rcases p with _ | ⟨id, _ | o, _ | q⟩ <;> exact kfit_none
      | _ => exact kfit_none
  | iterMap =>
    rcases l with _ | ⟨x, _ | ⟨_, _⟩⟩
    · exact kfit_none
    · cases x with
      | map r =>
        cases r with
        | none => exact kfit_new _ _
        | some id =>
          show kfit S (match S.get id with | .obj (.map _ cl) => _ | _ => none) (match S.get id with | .obj (.map _ cl) => _ | _ => none)
          generalize S.get id = b
          rcases b with _ | _ | o <;> try exact kfit_none
          cases o <;> first | exact kfit_none | exact kfit_new _ _
      | _ => exact kfit_none
    · cases x with
      | map r => cases r <;> exact kfit_none
      | _ => exact kfit_none
  | nextMap => exact kfit_none
  | nilF neg =>
    rcases l with _ | ⟨x, _ | ⟨y, _ | ⟨_, _⟩⟩⟩
    · exact kfit_none
    · exact kfit_none
    · cases y <;> try exact kfit_none
      show kfit S ((isNilF x).map fun b => .val (.bool (notIf neg b))) ((isNilF x).map fun b => (.bool (notIf neg b), S))
      cases isNilF x <;> first | exact kfit_none | exact kfit_val _
    · cases y <;> exact kfit_none
  | gload =>
    rcases l with _ | ⟨x, l⟩
    · show kfit S (if gOn = true then some (.val (.chan (some 0))) else none) (if gOn = true then some (.chan (some 0), S) else none)
      split <;> first | exact kfit_val _ | exact kfit_none
    · exact kfit_none
  | lookG z ok =>
    rcases l with _ | ⟨x, _ | ⟨k, _ | ⟨_, _⟩⟩⟩
    · exact kfit_none
    · cases x with
      | chan r => rcases r with _ | r <;> first | exact kfit_none | (rcases r with _ | r <;> exact kfit_none)
      | _ => exact kfit_none
    · cases x with
      | chan r =>
        rcases r with _ | r
        · exact kfit_none
        · rcases r with _ | r
          · cases k with
            | int ik n =>
              cases ik <;> first
                | exact kfit_none
                | (show kfit S (if gOn = true then some (.val (lookRes z ok ((gTab.lookup n).map fun f => (0, .func (.func f) #[] #[])))) else none) (if gOn = true then some (lookRes z ok ((gTab.lookup n).map fun f => (0, .func (.func f) #[] #[])), S) else none); split <;> first | exact kfit_val _ | exact kfit_none)
            | _ => exact kfit_none
          · exact kfit_none
      | _ => exact kfit_none
    · cases x with
      | chan r =>
        rcases r with _ | r
        · exact kfit_none
        · rcases r with _ | r
          · cases k with
            | int ik n => cases ik <;> exact kfit_none
            | _ => exact kfit_none
          · exact kfit_none
      | _ => exact kfit_none
  | capNil =>
    rcases l with _ | ⟨x, _ | ⟨_, _⟩⟩
    · exact kfit_none
    · cases x with
      | slice a n c => rcases a with _ | a <;> rcases n with _ | n <;> rcases c with _ | c <;> first | exact kfit_none | exact kfit_val _
      | _ => exact kfit_none
    · cases x with
      | slice a n c => rcases a with _ | a <;> rcases n with _ | n <;> rcases c with _ | c <;> exact kfit_none
      | _ => exact kfit_none
  | entMap =>
    rcases l with _ | ⟨x, _ | ⟨_, _⟩⟩
    · exact kfit_none
    · cases x with
      | pointer p =>
        rcases p with _ | ⟨id, _ | o, _ | q⟩ <;> try exact kfit_none
        show kfit S (match S.get id with | .obj (.mapIter (some m) _ seen last) => _ | _ => none) (match S.get id with | .obj (.mapIter (some m) _ seen last) => _ | _ => none)
        generalize S.get id = b
        rcases b with _ | _ | o <;> try exact kfit_none
        rcases o with _ | _ | _ | ⟨_ | m, since, seen, last⟩ <;> try exact kfit_none
        show kfit S (match S.get m with | .obj (.map es cl) => _ | _ => none) (match S.get m with | .obj (.map es cl) => _ | _ => none)
        generalize S.get m = b
        rcases b with _ | _ | o <;> try exact kfit_none
        cases o <;> try exact kfit_none
        show kfit S (if _ then _ else _) (if _ then _ else _)
        split <;> try exact kfit_none
        exact kfit_bind _ fun s => kfit_map _ _
      | _ => exact kfit_none
    · cases x with
      | pointer p => rcases p with _ | ⟨id, _ | o, _ | q⟩ <;> exact kfit_none
      | _ => exact kfit_none

theorem k_mv_ok (x : Operand) (ρ : Operand → Value) (S : St) : kfit S (k_mv x ρ S) (xop (.mv x) ρ S) := by
  unfold k_mv
  simp only [xop]
  (repeat' split) <;> first | exact kfit_none | exact kfit_old _ | exact kfit_val _ | exact kfit_new _ _ | exact kfit_write _ _ _ _ _ _ | exact kfit_mapv _ | exact kfit_map _ _ | exact kfit_part _ _ | exact kfit_rd _ _ _ _ | (simp_all; done)
theorem k_pick_ok (c : Operand) (a : Operand) (b : Operand) (ρ : Operand → Value) (S : St) : kfit S (k_pick c a b ρ S) (xop (.pick c a b) ρ S) := by
  unfold k_pick
  simp only [xop]
  generalize ρ c = v
  cases v with
  | bool q => cases q <;> exact kfit_old _
  | _ => exact kfit_none
theorem k_box_ok (t : TypeId) (x : Operand) (ρ : Operand → Value) (S : St) : kfit S (k_box t x ρ S) (xop (.box t x) ρ S) := by
  unfold k_box
  simp only [xop]
  split <;> first | exact kfit_none | exact kfit_new _ _
theorem k_zero_ok (t : TypeId) (z : Value) (ρ : Operand → Value) (S : St) : kfit S (k_zero t z ρ S) (xop (.zero t z) ρ S) := by
  unfold k_zero
  simp only [xop]
  (repeat' split) <;> first | exact kfit_none | exact kfit_old _ | exact kfit_val _ | exact kfit_new _ _ | exact kfit_write _ _ _ _ _ _ | exact kfit_mapv _ | exact kfit_map _ _ | exact kfit_part _ _ | exact kfit_rd _ _ _ _ | (simp_all; done)
theorem k_load_ok (agg : Bool) (sz : Nat) (x : Operand) (ρ : Operand → Value) (S : St) : kfit S (k_load agg sz x ρ S) (xop (.load agg sz x) ρ S) := by
  unfold k_load
  simp only [xop]
  generalize ρ x = v
  cases v with
  | pointer p => rcases p with _ | ⟨id, o, _ | p⟩ <;> first | exact kfit_none | exact kfit_rd _ _ _ _
  | _ => exact kfit_none
theorem k_store_ok (sz : Nat) (a : Operand) (x : Operand) (ρ : Operand → Value) (S : St) : kfit S (k_store sz a x ρ S) (xop (.store sz a x) ρ S) := by
  unfold k_store
  simp only [xop, kblk_get]
  generalize ρ a = v
  cases v with
  | pointer p =>
    rcases p with _ | ⟨id, o, _ | p⟩ <;> try exact kfit_none
    show kfit S (match S.get id with | .cells c t z true an => _ | _ => none) (match S.get id with | .cells c t z true an => _ | _ => none)
    generalize S.get id = b
    rcases b with _ | ⟨c, t, z, _ | _, an⟩ | _ <;> first | exact kfit_none | skip
    show kfit S (if _ then _ else _) (if _ then _ else _)
    split <;> first | exact kfit_none | exact kfit_write _ _ _ _ _ _
  | _ => exact kfit_none
theorem k_nilck_ok (x : Operand) (ρ : Operand → Value) (S : St) : kfit S (k_nilck x ρ S) (xop (.nilck x) ρ S) := by
  unfold k_nilck
  simp only [xop]
  generalize ρ x = v
  cases v with
  | pointer p => rcases p with _ | ⟨id, o, _ | p⟩ <;> first | exact kfit_none | exact kfit_val _
  | func f a b => cases f <;> first | exact kfit_none | exact kfit_val _
  | iface t v => exact kfit_val _
  | _ => exact kfit_none
theorem k_bin_ok (op : BinOp) (x : Operand) (y : Operand) (ρ : Operand → Value) (S : St) : kfit S (k_bin op x y ρ S) (xop (.bin op x y) ρ S) := by
  exact kfit_mapv _
theorem k_eqb_ok (neg : Bool) (x : Operand) (y : Operand) (ρ : Operand → Value) (S : St) : kfit S (k_eqb neg x y ρ S) (xop (.eqb neg x y) ρ S) := by
  unfold k_eqb
  simp only [xop]
  generalize ρ x = v
  generalize ρ y = w
  cases v <;> try exact kfit_none
  cases w <;> first | exact kfit_none | exact kfit_val _
theorem k_eqf_ok (ks : List Nat) (neg : Bool) (x : Operand) (y : Operand) (ρ : Operand → Value) (S : St) : kfit S (k_eqf ks neg x y ρ S) (xop (.eqf ks neg x y) ρ S) := by
  unfold k_eqf
  simp only [xop]
  generalize ρ x = v
  generalize ρ y = w
  cases v <;> try exact kfit_none
  cases w <;> first | exact kfit_none | exact kfit_map _ _
theorem k_eqp_ok (neg : Bool) (x : Operand) (y : Operand) (ρ : Operand → Value) (S : St) : kfit S (k_eqp neg x y ρ S) (xop (.eqp neg x y) ρ S) := by
  unfold k_eqp
  simp only [xop]
  generalize ρ x = v
  generalize ρ y = w
  cases v <;> try exact kfit_none
  cases w with
  | pointer p => cases p <;> first | exact kfit_none | exact kfit_val _
  | _ => exact kfit_none
theorem k_eqs_ok (neg : Bool) (x : Operand) (y : Operand) (ρ : Operand → Value) (S : St) : kfit S (k_eqs neg x y ρ S) (xop (.eqs neg x y) ρ S) := by
  unfold k_eqs
  simp only [xop]
  generalize ρ x = v
  generalize ρ y = w
  cases v <;> try exact kfit_none
  cases w with
  | slice p n c => cases p <;> first | exact kfit_none | exact kfit_val _
  | _ => exact kfit_none
theorem k_un_ok (op : UnOp) (x : Operand) (ρ : Operand → Value) (S : St) : kfit S (k_un op x ρ S) (xop (.un op x) ρ S) := by
  unfold k_un
  simp only [xop]
  generalize ρ x = v
  cases op <;> cases v <;> first | exact kfit_none | exact kfit_val _
theorem k_cvi_ok (k : IntKind) (x : Operand) (ρ : Operand → Value) (S : St) : kfit S (k_cvi k x ρ S) (xop (.cvi k x) ρ S) := by
  unfold k_cvi
  simp only [xop]
  generalize ρ x = v
  cases v <;> first | exact kfit_none | exact kfit_val _
theorem k_cvs_ok (x : Operand) (ρ : Operand → Value) (S : St) : kfit S (k_cvs x ρ S) (xop (.cvs x) ρ S) := by
  unfold k_cvs
  simp only [xop]
  generalize ρ x = v
  cases v <;> first | exact kfit_none | exact kfit_val _
theorem k_mkIface_ok (t : TypeId) (x : Operand) (ρ : Operand → Value) (S : St) : kfit S (k_mkIface t x ρ S) (xop (.mkIface t x) ρ S) := by
  unfold k_mkIface
  simp only [xop]
  (repeat' split) <;> first | exact kfit_none | exact kfit_old _ | exact kfit_val _ | exact kfit_new _ _ | exact kfit_write _ _ _ _ _ _ | exact kfit_mapv _ | exact kfit_map _ _ | exact kfit_part _ _ | exact kfit_rd _ _ _ _ | (simp_all; done)
theorem k_mkFunc_ok (f : FuncId) (a : Array Operand) (b : Array Operand) (ρ : Operand → Value) (S : St) : kfit S (k_mkFunc f a b ρ S) (xop (.mkFunc f a b) ρ S) := by
  unfold k_mkFunc
  simp only [xop]
  (repeat' split) <;> first | exact kfit_none | exact kfit_old _ | exact kfit_val _ | exact kfit_new _ _ | exact kfit_write _ _ _ _ _ _ | exact kfit_mapv _ | exact kfit_map _ _ | exact kfit_part _ _ | exact kfit_rd _ _ _ _ | (simp_all; done)
theorem k_mkSlice_ok (e : TypeId) (esz : Nat) (bytes : Nat) (z : List Value) (l : Operand) (c : Operand) (ρ : Operand → Value) (S : St) : kfit S (k_mkSlice e esz bytes z l c ρ S) (xop (.mkSlice e esz bytes z l c) ρ S) := by
  unfold k_mkSlice
  simp only [xop]
  generalize ρ l = v
  generalize ρ c = w
  cases v <;> try exact kfit_none
  cases w <;> try exact kfit_none
  show kfit S (if _ then _ else _) (if _ then _ else _)
  split <;> first | exact kfit_none | exact kfit_new _ _
theorem k_sl_ok (esz : Nat) (x : Operand) (lo : Option Operand) (hi : Option Operand) (ρ : Operand → Value) (S : St) : kfit S (k_sl esz x lo hi ρ S) (xop (.sl esz x lo hi) ρ S) := by
  unfold k_sl
  simp only [xop]
  generalize ρ x = v
  cases v with
  | slice a n c =>
    show kfit S (match bound (lo.map ρ) 0, bound (hi.map ρ) n with | some l, some h => _ | _, _ => none) (match bound (lo.map ρ) 0, bound (hi.map ρ) n with | some l, some h => _ | _, _ => none)
    generalize bound (lo.map ρ) 0 = p
    generalize bound (hi.map ρ) n = q
    cases p <;> try exact kfit_none
    cases q <;> try exact kfit_none
    show kfit S (if _ then _ else _) (if _ then _ else _)
    split <;> try exact kfit_none
    rcases a with _ | ⟨id, o, _ | p⟩
    · show kfit S (Option.map _ (if _ then _ else _)) (if _ then _ else _)
      split <;> first | exact kfit_none | exact kfit_val _
    · show kfit S (Option.map _ (if _ then _ else _)) (if _ then _ else _)
      split <;> first | exact kfit_none | exact kfit_val _
    · exact kfit_none
  | _ => exact kfit_none
theorem k_slStr_ok (x : Operand) (lo : Option Operand) (hi : Option Operand) (ρ : Operand → Value) (S : St) : kfit S (k_slStr x lo hi ρ S) (xop (.slStr x lo hi) ρ S) := by
  unfold k_slStr
  simp only [xop]
  generalize ρ x = v
  cases v with
  | string s =>
    show kfit S (match bound (lo.map ρ) 0, bound (hi.map ρ) s.size with | some l, some h => _ | _, _ => none) (match bound (lo.map ρ) 0, bound (hi.map ρ) s.size with | some l, some h => _ | _, _ => none)
    generalize bound (lo.map ρ) 0 = p
    generalize bound (hi.map ρ) s.size = q
    cases p <;> try exact kfit_none
    cases q <;> try exact kfit_none
    rename_i l h
    show kfit S (if _ then _ else _) (if _ then _ else _)
    split <;> try exact kfit_none
    rename_i hh
    rw [extract_list s l h hh.1 hh.2]
    exact kfit_val _
  | _ => exact kfit_none
theorem k_fa_ok (off : Nat) (x : Operand) (ρ : Operand → Value) (S : St) : kfit S (k_fa off x ρ S) (xop (.fa off x) ρ S) := by
  unfold k_fa
  simp only [xop]
  generalize ρ x = v
  cases v with
  | pointer p => rcases p with _ | ⟨id, o, _ | p⟩ <;> first | exact kfit_none | exact kfit_val _
  | _ => exact kfit_none
theorem k_fld_ok (agg : Bool) (sz : Nat) (off : Nat) (x : Operand) (ρ : Operand → Value) (S : St) : kfit S (k_fld agg sz off x ρ S) (xop (.fld agg sz off x) ρ S) := by
  unfold k_fld
  simp only [xop]
  generalize ρ x = v
  cases v with
  | agg a =>
    show kfit S (if _ then _ else _) (if _ then _ else _)
    split <;> first | exact kfit_none | exact kfit_part _ _
  | _ => exact kfit_none
theorem k_ia_ok (esz : Nat) (x : Operand) (i : Operand) (ρ : Operand → Value) (S : St) : kfit S (k_ia esz x i ρ S) (xop (.ia esz x i) ρ S) := by
  unfold k_ia
  simp only [xop]
  generalize ρ x = v
  generalize ρ i = w
  cases v with
  | slice p n c =>
    rcases p with _ | ⟨id, o, _ | p⟩ <;> try exact kfit_none
    cases w <;> try exact kfit_none
    show kfit S (if _ then _ else _) (if _ then _ else _)
    split <;> first | exact kfit_none | exact kfit_val _
  | _ => exact kfit_none
theorem k_iaArr_ok (n : Nat) (esz : Nat) (x : Operand) (i : Operand) (ρ : Operand → Value) (S : St) : kfit S (k_iaArr n esz x i ρ S) (xop (.iaArr n esz x i) ρ S) := by
  unfold k_iaArr
  simp only [xop]
  generalize ρ x = v
  generalize ρ i = w
  cases v with
  | pointer p =>
    rcases p with _ | ⟨id, o, _ | p⟩ <;> try exact kfit_none
    cases w <;> try exact kfit_none
    show kfit S (if _ then _ else _) (if _ then _ else _)
    split <;> first | exact kfit_none | exact kfit_val _
  | _ => exact kfit_none
theorem k_idx_ok (n : Nat) (agg : Bool) (esz : Nat) (x : Operand) (i : Operand) (ρ : Operand → Value) (S : St) : kfit S (k_idx n agg esz x i ρ S) (xop (.idx n agg esz x i) ρ S) := by
  unfold k_idx
  simp only [xop]
  generalize ρ x = v
  generalize ρ i = w
  cases v with
  | agg a =>
    cases w <;> try exact kfit_none
    show kfit S (if _ then _ else _) (if _ then _ else _)
    split <;> first | exact kfit_none | exact kfit_part _ _
  | _ => exact kfit_none
theorem k_idxStr_ok (x : Operand) (i : Operand) (ρ : Operand → Value) (S : St) : kfit S (k_idxStr x i ρ S) (xop (.idxStr x i) ρ S) := by
  unfold k_idxStr
  simp only [xop]
  generalize ρ x = v
  generalize ρ i = w
  cases v with
  | string s =>
    cases w with
    | int k i =>
      show kfit S (if _ then _ else _) (if _ then _ else _)
      split <;> try exact kfit_none
      rw [ldrop_eq]
      have e : (s[i.toNat]?) = s.data.toList[i.toNat]? := by
        rw [Array.getElem?_toList]
        rfl
      rw [e]
      have e2 : s.data.toList[i.toNat]? = (s.data.toList.drop i.toNat).head? := by rw [List.head?_drop]
      rw [e2]
      cases s.data.toList.drop i.toNat <;> first | exact kfit_none | exact kfit_val _
    | _ => exact kfit_none
  | _ => exact kfit_none
theorem k_ext_ok (x : Operand) (i : Nat) (ρ : Operand → Value) (S : St) : kfit S (k_ext x i ρ S) (xop (.ext x i) ρ S) := by
  unfold k_ext
  simp only [xop]
  generalize ρ x = v
  cases v with
  | tuple a =>
    show kfit S ((a.toList[i]?).map .old) ((a[i]?).map fun v => (v, S))
    rw [Array.getElem?_toList]
    exact kfit_mapo _
  | _ => exact kfit_none
theorem k_build_ok (z : List Value) (parts : List (Nat × Nat × Operand)) (ρ : Operand → Value) (S : St) : kfit S (k_build z parts ρ S) (xop (.build z parts) ρ S) := by
  unfold k_build
  simp only [xop]
  exact kfit_map _ _
theorem k_buildSlice_ok (e : TypeId) (esz : Nat) (n : Nat) (z : List Value) (parts : List (Nat × Nat × Operand)) (ρ : Operand → Value) (S : St) : kfit S (k_buildSlice e esz n z parts ρ S) (xop (.buildSlice e esz n z parts) ρ S) := by
  unfold k_buildSlice
  simp only [xop]
  split <;> try exact kfit_none
  refine kfit_bind _ fun l => ?_
  split <;> first | exact kfit_none | exact kfit_new _ _
theorem k_len_ok (x : Operand) (ρ : Operand → Value) (S : St) : kfit S (k_len x ρ S) (xop (.len x) ρ S) := by
  unfold k_len
  simp only [xop]
  generalize ρ x = v
  cases v <;> first | exact kfit_none | exact kfit_val _
theorem k_lenStr_ok (x : Operand) (ρ : Operand → Value) (S : St) : kfit S (k_lenStr x ρ S) (xop (.lenStr x) ρ S) := by
  unfold k_lenStr
  simp only [xop]
  generalize ρ x = v
  cases v <;> first | exact kfit_none | exact kfit_val _
theorem k_append_ok (e : TypeId) (esz : Nat) (bytes : Nat) (s : Operand) (x : Operand) (ρ : Operand → Value) (S : St) : kfit S (k_append e esz bytes s x ρ S) (xop (.append e esz bytes s x) ρ S) := by
  unfold k_append kappend
  simp only [xop, xappend]
  generalize ρ s = v
  generalize ρ x = w
  cases S.elems esz w <;> try exact kfit_none
  cases vlen w <;> try exact kfit_none
  show kfit S (if _ then _ else _) (if _ then _ else _)
  split
  · cases v <;> first | exact kfit_none | exact kfit_val _
  · show kfit S (if _ then _ else _) (if _ then _ else _)
    split <;> try exact kfit_none
    cases v with
    | slice a n c =>
      rcases a with _ | ⟨id, o, _ | p⟩
      · rcases n with _ | n <;> rcases c with _ | c <;> try exact kfit_none
        show kfit S (if _ then _ else _) (if _ then _ else _)
        split <;> first | exact kfit_none | exact kfit_new _ _
      · show kfit S (match S.get id with | .cells c t z true an => _ | _ => none) (match S.get id with | .cells c t z true an => _ | _ => none)
        generalize S.get id = b
        rcases b with _ | ⟨cc, t, z, _ | _, an⟩ | _ <;> first | exact kfit_none | skip
        show kfit S (if _ then (if _ then _ else _) else if _ then _ else _) (if _ then (if _ then _ else _) else if _ then _ else _)
        split
        · split
          · rename_i e _
            obtain ⟨rfl, _⟩ := e
            exact kfit_grow _ _ _ _ _ _ _ _
          · exact kfit_none
        · split <;> first | exact kfit_none | exact kfit_write _ _ _ _ _ _
      · exact kfit_none
    | _ => exact kfit_none
theorem k_copy_ok (esz : Nat) (d : Operand) (s : Operand) (ρ : Operand → Value) (S : St) : kfit S (k_copy esz d s ρ S) (xop (.copy esz d s) ρ S) := by
  unfold k_copy kcopy
  simp only [xop, xcopy]
  generalize ρ d = v
  generalize ρ s = w
  cases v with
  | slice a n c =>
    cases vlen w <;> try exact kfit_none
    cases S.elems esz w <;> try exact kfit_none
    show kfit S (if _ then _ else _) (if _ then _ else _)
    split <;> try exact kfit_val _
    rcases a with _ | ⟨id, o, _ | p⟩ <;> try exact kfit_none
    show kfit S (match S.get id with | .cells c t z true an => _ | _ => none) (match S.get id with | .cells c t z true an => _ | _ => none)
    generalize S.get id = b
    rcases b with _ | ⟨cc, t, z, _ | _, an⟩ | _ <;> first | exact kfit_none | skip
    show kfit S (if _ then _ else _) (if _ then _ else _)
    split <;> first | exact kfit_none | exact kfit_write _ _ _ _ _ _
  | _ => exact kfit_none
theorem k_clr_ok (esz : Nat) (z : List Value) (x : Operand) (ρ : Operand → Value) (S : St) : kfit S (k_clr esz z x ρ S) (xop (.clr esz z x) ρ S) := by
  unfold k_clr kclr
  simp only [xop, xclr]
  generalize ρ x = v
  cases v with
  | slice a n c =>
    rcases a with _ | ⟨id, o, _ | p⟩
    · rcases n with _ | n <;> rcases c with _ | c <;> first | exact kfit_none | exact kfit_val _
    · show kfit S (if _ then _ else _) (if _ then _ else _)
      split <;> try exact kfit_val _
      show kfit S (match S.get id with | .cells c t z true an => _ | _ => none) (match S.get id with | .cells c t z true an => _ | _ => none)
      generalize S.get id = b
      rcases b with _ | ⟨cc, t, z, _ | _, an⟩ | _ <;> first | exact kfit_none | skip
      show kfit S (if _ then _ else _) (if _ then _ else _)
      split <;> first | exact kfit_none | exact kfit_write _ _ _ _ _ _
    · exact kfit_none
  | _ => exact kfit_none
theorem k_minmax_ok (mx : Bool) (x : Operand) (l : List Operand) (ρ : Operand → Value) (S : St) : kfit S (k_minmax mx x l ρ S) (xop (.minmax mx x l) ρ S) := by
  unfold k_minmax
  simp only [xop]
  generalize ρ x = v
  cases v <;> first | exact kfit_none | exact kfit_mapv _
theorem k_extra_ok (e : EOp) (l : List Operand) (ρ : Operand → Value) (S : St) : kfit S (k_extra e l ρ S) (xop (.extra e l) ρ S) := by
  unfold k_extra
  simp only [xop]
  exact kextra_ok e _ S
/-- what an operation does. -/

noncomputable def kop (o : XOp) : (Operand → Value) → St → Option KAct := @XOp.rec (fun _ => (Operand → Value) → St → Option KAct) k_mv k_pick k_box k_zero k_load k_store k_nilck k_bin k_eqb k_eqf k_eqp k_eqs k_un k_cvi k_cvs k_mkIface k_mkFunc k_mkSlice k_sl k_slStr k_fa k_fld k_ia k_iaArr k_idx k_idxStr k_ext k_build k_buildSlice k_len k_lenStr k_append k_copy k_clr k_minmax k_call k_callv k_extra o
theorem kop_fit {o : XOp} (h1 : ∀ f args, o ≠ .call f args) (h2 : ∀ x args, o ≠ .callv x args) (ρ : Operand → Value) (S : St) : kfit S (kop o ρ S) (xop o ρ S) := by
  cases o with
  | mv x => exact k_mv_ok x ρ S
  | pick c a b => exact k_pick_ok c a b ρ S
  | box t x => exact k_box_ok t x ρ S
  | zero t z => exact k_zero_ok t z ρ S
  | load agg sz x => exact k_load_ok agg sz x ρ S
  | store sz a x => exact k_store_ok sz a x ρ S
  | nilck x => exact k_nilck_ok x ρ S
  | bin op x y => exact k_bin_ok op x y ρ S
  | eqb neg x y => exact k_eqb_ok neg x y ρ S
  | eqf ks neg x y => exact k_eqf_ok ks neg x y ρ S
  | eqp neg x y => exact k_eqp_ok neg x y ρ S
  | eqs neg x y => exact k_eqs_ok neg x y ρ S
  | un op x => exact k_un_ok op x ρ S
  | cvi k x => exact k_cvi_ok k x ρ S
  | cvs x => exact k_cvs_ok x ρ S
  | mkIface t x => exact k_mkIface_ok t x ρ S
  | mkFunc f a b => exact k_mkFunc_ok f a b ρ S
  | mkSlice e esz bytes z l c => exact k_mkSlice_ok e esz bytes z l c ρ S
  | sl esz x lo hi => exact k_sl_ok esz x lo hi ρ S
  | slStr x lo hi => exact k_slStr_ok x lo hi ρ S
  | fa off x => exact k_fa_ok off x ρ S
  | fld agg sz off x => exact k_fld_ok agg sz off x ρ S
  | ia esz x i => exact k_ia_ok esz x i ρ S
  | iaArr n esz x i => exact k_iaArr_ok n esz x i ρ S
  | idx n agg esz x i => exact k_idx_ok n agg esz x i ρ S
  | idxStr x i => exact k_idxStr_ok x i ρ S
  | ext x i => exact k_ext_ok x i ρ S
  | build z parts => exact k_build_ok z parts ρ S
  | buildSlice e esz n z parts => exact k_buildSlice_ok e esz n z parts ρ S
  | len x => exact k_len_ok x ρ S
  | lenStr x => exact k_lenStr_ok x ρ S
  | append e esz bytes s x => exact k_append_ok e esz bytes s x ρ S
  | copy esz d s => exact k_copy_ok esz d s ρ S
  | clr esz z x => exact k_clr_ok esz z x ρ S
  | minmax mx x l => exact k_minmax_ok mx x l ρ S
  | call f args => exact absurd rfl (h1 f args)
  | callv x args => exact absurd rfl (h2 x args)
  | extra e l => exact k_extra_ok e l ρ S
theorem kop_ok {o : XOp} (h1 : ∀ f args, o ≠ .call f args) (h2 : ∀ x args, o ≠ .callv x args) {ρ : Operand → Value} {S : St} {a : KAct} (h : kop o ρ S = some a) : xop o ρ S = some (a.run S) ∧ ∀ g l, a ≠ .call g l := by
  obtain ⟨k1, k2⟩ := kop_fit h1 h2 ρ S
  rw [h] at k1 k2
  exact ⟨k1, fun g l e => k2 g l (by rw [e])⟩
end Go.Proofs.YtofjnhdgkhfgnaaDoor

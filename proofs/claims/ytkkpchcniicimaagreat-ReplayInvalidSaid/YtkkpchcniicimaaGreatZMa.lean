/- The constant table of the seat, if there is one. The memory of the abstract machine, and what it stands for in the model's memory. No program in sight. Writes into the abstract memory, and what they s -/
import GoSem.Claim
import Derived.WalkKit
import Derived.KernelRfl
import Derived.WalkSpells
import Derived.Laws.AppendOwnNone
import Derived.WalkLawsBesides
import Derived.Orders
import Derived.Below
import Derived.RangeFuncRecord
import Derived.Laws.StructEq
import Derived.MapKept
import Derived.WideKeyRuns
import Derived.Maps.RangeRun
import Derived.Scope
import Derived.Eval
import Derived.ControlIn
import Derived.CallsIn
import Derived.OrdersIn
import Derived.OwnWalkIn
import Derived.LoopNIn
set_option linter.all false
namespace Go.Proofs.YtkkpchcniicimaaGreat
open Go Go.RowKit
section
open Go
def Z3:Bool:=false
def kN:Nat:=0
def Adj:Nat:=0
def Ny:List (Int × Nat):=[]
def kO:List String:=["simproof/compile.Verify", "simproof/simprooflaw30.lives"]
end
theorem dO{p:Prop}(h:p:=by omega):p:=h
theorem iF{p:Prop}(h:p:=by decide):p:=h
theorem iN{p:Prop}(h:p:=by simp):p:=h
theorem IF{p:Prop}(h:p:=by assumption):p:=h
theorem IN{p:Prop}(h:p:=by grind):p:=h
theorem aa0{p:Prop}(h:p:=by simp;omega):p:=h
theorem ab0{p:Prop}(h:p:=by dsimp only;omega):p:=h
theorem ac0{p:Prop}(h:p:=by simpa using h1):p:=h
theorem ad0{p:Prop}(h:p:=by simpa using h2):p:=h
theorem ae0{p:Prop}(h:p:=by simpa using h):p:=h
theorem af0{p:Prop}(h:p:=by kernel_rfl):p:=h
theorem ag0{p:Prop}(h:p:=by simp[ho,Op.operands]):p:=h
def Aa:=@Option.some.inj
def Ab:=@Option.map_eq_some_iff
def Ac:=@And.intro
def Ad:=@List.length_append
def Ae:=@Option.bind_eq_some_iff
def Af:=@Nat.le_refl
def Ag:=@List.length_cons
def Ah:=@List.getElem?_eq_getElem
def Ai:=@Prod.mk.inj
def Aj:=@List.take_of_length_le
def Ak:=@List.eq_nil_of_length_eq_zero
def Al:=@Bool.and_eq_true
def Am:=@List.getElem?_eq_some_iff
def An:=@Nat.le_trans
def Ao:=@List.getElem_mem
def Ap:=@List.length_nil
def Aq:=@List.mem_cons
def Ar:=@Nat.lt_of_lt_of_le
def As:=@List.length_take
def At:=@List.all_eq_true
def Au:=@List.map_cons
def Av:=@Eq.trans
def Aw:=@List.mem_append
def Ax:=@Array.getElem?_eq_getElem
def Ay:=@Array.getD_eq_getD_getElem?
def Az:=@Option.bind_some
def AA:=@Prod.mk.injEq
def AB:=@Nat.eq_of_beq_eq_true
def AD:=@List.map_nil
def AE:=@Option.some.injEq
def AF:=@List.mem_of_getElem?
def AG:=@List.mem_singleton
def AH:=@Option.map_some
def AI:=@List.length_drop
def AJ:=@List.length_map
def AK:=@List.not_mem_nil
def AL:=@Nat.mul_le_mul_right
def AM:=@Nat.zero_le
def AN:=@List.getElem_of_mem
def AO:=@List.getElem?_eq_none
def AP:=@List.append_nil
def AQ:=@Nat.le_add_right
def AR:=@Array.getElem?_eq_some_iff
def AS:=@List.length_replicate
def AT:=@List.mem_map
def AU:=@List.append_assoc
def AW:=@Bool.false_eq_true
def AX:=@List.map_append
def AY:=@List.getD_eq_getElem?_getD
def AZ:=@List.getElem_map
def A0:=@Option.some_ne_none
def A2:=@Int.tmod_lt_of_pos
def A3:=@List.drop_eq_getElem_cons
def A4:=@Array.toList_append
def A5:=@List.length_eq_one_iff
def A6:=@List.take_zero
def A7:=@List.length_set
def A8:=@Nat.zero_add
def A9:=@List.take_append_of_le_length
def Ba:=@List.nil_append
def Bb:=@List.drop_eq_nil_of_le
def Bc:=@Nat.le_succ_of_le
def Bd:=@Nat.add_mul
def Be:=@Int.ofNat_eq_natCast
def Bf:=@Int.tmod_nonneg
def Bg:=@List.foldl_cons
def Bh:=@List.length_filter_le
def Bi:=@Nat.le_max_left
def Bj:=@List.drop_of_length_le
def Bk:=@Nat.le_max_right
def Bl:=@Nat.min_eq_left
def Bm:=@List.mem_of_mem_take
def Bn:=@List.take_add_one
def Bo:=@List.mem_cons_of_mem
def Bp:=@List.mem_range
def Bq:=@Bool.eq_false_iff
def Br:=@List.length_singleton
def Bs:=@List.mem_of_find?_eq_some
def Bt:=@List.takeWhile_append_dropWhile
def Bu:=@List.drop_zero
def Bv:=@Nat.add_assoc
def Bw:=@Int.eq_ofNat_of_zero_le
def By:=@List.drop_append_of_le_length
def Bz:=@List.mem_filter
def BA:=@Array.ext'
def BB:=@List.getElem_cons_zero
def BC:=@List.getElem_append_left
def BD:=@Nat.lt_succ_iff_lt_or_eq
def BE:=@List.take_succ_eq_append_getElem
def BF:=@List.mapM_cons
def BG:=@List.drop_append
def BH:=@List.getElem?_cons_zero
def BI:=@List.getElem?_map
def BJ:=@Array.getElem?_eq_none
def BK:=@List.take_length
def BL:=@List.replicate_succ
def BM:=@List.map_congr_left
def BN:=@List.map_map
def BO:=@List.length_range
def BP:=@List.mem_cons_self
def BQ:=@List.getElem?_cons_succ
def BR:=@Ne.symm
def BS:=@List.take_succ_cons
def BT:=@Option.bind_eq_bind
def BU:=@List.getElem_append_right
def BV:=@List.drop_drop
def BW:=@Array.getElem?_toList
def BX:=@List.getElem?_toArray
def BY:=@Nat.min_le_left
def BZ:=@List.getElem?_take
def B0:=@List.ext_getElem
def B1:=@List.any_eq_true
def B2:=@Option.getD_some
def B3:=@List.getElem_zip
def B4:=@List.take_append
def B5:=@List.mem_of_mem_drop
def B6:=@List.mem_append_left
def B7:=@Bool.not_eq_true'
def B8:=@Int.toNat_natCast
def B9:=@List.nodup_append
def Ca:=@Array.length_toList
def Cb:=@Nat.mul_one
def Cc:=@List.filter_append
def Cd:=@Nat.lt_or_ge
def Ce:=@List.getElem_range
def Cf:=@List.set_eq_take_append_cons_drop
def Cg:=@Option.isNone_some
def Ch:=@Option.isNone_none
def Ci:=@List.mem_append_right
def Cj:=@List.replicate_succ'
def Ck:=@Array.getElem_toList
def Cl:=@Bool.or_eq_true
def Cm:=@List.foldl_append
def Cn:=@Nat.not_lt_zero
def Co:=@List.nodup_cons
def Cp:=@List.getElem_take
def Cq:=@List.getElem_drop
def Cr:=@Array.eq_empty_of_size_eq_zero
def Cs:=@Bool.and_true
def Ct:=@Int.toNat_of_nonneg
def Cu:=@List.drop_succ_cons
def Cv:=@List.cons_append
def Cw:=@Nat.lt_of_not_le
def Cx:=@List.getElem_cons_succ
def Cy:=@List.mem_filterMap
def Cz:=@List.contains_iff_mem
def CA:=@List.ext_getElem?
def CB:=@Nat.ble_eq
def CC:=@Bool.true_and
def CD:=@Int.tdiv_eq_ediv_of_nonneg
def CF:=@List.Pairwise.filter
def CG:=@Bool.and_assoc
def CH:=@List.mem_or_eq_of_mem_set
def CI:=@List.getElem?_append_left
def CJ:=@List.drop_take
def CK:=@List.take_take
def CL:=@List.foldl_nil
def CM:=@Bool.not_eq_true
def CN:=@Array.toList_inj
def CO:=@Nat.le_of_not_lt
def CP:=@List.take_append_getElem
def CQ:=@List.eq_of_mem_replicate
def CR:=@List.find?_eq_none
def CS:=@List.find?_some
def CT:=@List.all_cons
def CU:=@List.getElem?_drop
def CV:=@List.mem_replicate
def CW:=@List.range_succ
def CX:=@List.findIdx?_eq_some_iff_getElem
def CY:=@Nat.one_mul
def CZ:=@List.size_toArray
def C0:=@Nat.not_lt
def C1:=@Array.getElem?_setIfInBounds_ne
def C2:=@Array.all_eq_true
def C3:=@List.find?_eq_some_iff_getElem
def C4:=@Classical.em
def C5:=@Array.toList_map
def C6:=@Array.toArray_toList
def C7:=@List.mem_zipIdx_iff_getElem?
def C8:=@Array.getElem?_setIfInBounds
def C9:=@List.takeWhile_cons
def Da:=@List.dropWhile_cons
def Db:=@Int.le_refl
def Dc:=@List.getElem?_range
def Dd:=@Array.getElem_setIfInBounds
def De:=@Array.toList_modify
def Df:=@List.flatMap_append
def Dg:=@List.getElem?_append_right
def Dh:=@Nat.add_zero
def Di:=@Nat.le_of_eq
def Dj:=@Array.foldl_toList
def Dk:=@Option.isSome_some
def Dl:=@List.findIdx?_eq_none_iff
def Dm:=@Nat.eq_of_mul_eq_mul_left
def Dn:=@List.getElem?_eq_none_iff
def Dp:=@Int.lt_trichotomy
def Dq:=@Array.size_append
def Dr:=@List.flatten_cons
def Ds:=@List.flatMap_cons
def Dt:=@List.mapM_nil
def Du:=@List.mem_flatMap
def Dv:=@List.nodup_range
def Dw:=@Nat.not_lt_of_le
def Dx:=@Option.getD_none
def Dy:=@List.takeWhile_sublist
def Dz:=@List.getElem_replicate
def DA:=@Int.tdiv_nonneg
def DB:=@Nat.min_self
def DD:=@List.all_append
def DE:=@List.takeWhile_subset
def DF:=@List.dropWhile_subset
def DG:=@List.take_left'
def DH:=@List.singleton_append
def DI:=@List.head?_drop
def DJ:=@Nat.le_of_ble_eq_true
def DK:=@Array.getElem?_append
def DL:=@List.cons.injEq
def DM:=@List.getElem_eraseIdx
def DN:=@Option.map_none
def DO:=@List.map_const'
def DP:=@List.filterMap_append
def DQ:=@Bool.false_and
def DR:=@Nat.le_succ
def DS:=@Nat.lt_irrefl
def DT:=@Array.ext
def DU:=@Bool.not_true
def DV:=@Int.add_zero
def DW:=@Nat.sub_zero
def DX:=@Or.inl
inductive Tr(α:Type) where
 | leaf
 | node (v:Option α) (l r:Tr α)
def Tr.get{α}:Tr α->Nat->Option α
 | .leaf,_=>none
 | .node v l r,n=>if n=0 then v else if n % 2=1 then l.get (n / 2) else r.get (n / 2 - 1)
def Tr.top{α}:Tr α->Option α
 | .leaf=>none
 | .node v _ _=>v
def Tr.left{α}:Tr α->Tr α
 | .leaf=>.leaf
 | .node _ l _=>l
def Tr.right{α}:Tr α->Tr α
 | .leaf=>.leaf
 | .node _ _ r=>r
def Tr.get_eq{α}(t:Tr α)(n):t.get n=if n=0 then t.top else if n % 2=1 then t.left.get (n / 2) else t.right.get (n / 2 - 1):=by
 cases t with
 | leaf=>simp[Tr.get,Tr.top,Tr.left,Tr.right]
 | node v l r=>rfl
def Tr.set{α}:Nat->Tr α->Nat->α->Tr α
 | 0,t,_,a=>.node (some a) t.left t.right
 | f+1,t,n,a=>if n=0 then .node (some a) t.left t.right else if n % 2=1 then .node t.top (Tr.set f t.left (n / 2) a) t.right else .node t.top t.left (Tr.set f t.right (n / 2 - 1) a)
def Tr.jc{α}(a):∀ f n m (t:Tr α),n<=f->(Tr.set f t n a).get m=if m=n then some a else t.get m:=by
 intro f
 induction f with
 | zero=>
  intro n m t h;obtain rfl:n=0:=dO
  rw[Tr.set,Tr.get_eq,Tr.get_eq t];by_cases hm:m=0
  ·simp[hm,Tr.top]
  ·simp[hm,Tr.left,Tr.right]
 | succ f ih=>
  intro n m t h;rw[Tr.set,Tr.get_eq t];by_cases hn:n=0
  ·subst hn
   rw[if_pos rfl,Tr.get_eq];by_cases hm:m=0
   ·simp[hm,Tr.top]
   ·simp[hm,Tr.left,Tr.right]
  ·rw[if_neg hn]
   by_cases h2:n % 2=1
   ·rw[if_pos h2,Tr.get_eq]
    by_cases hm:m=0
    ·have:=dO
     subst hm;simp[Tr.top,BR hn]
    ·simp only[hm,if_false,Tr.left,Tr.right]
     by_cases h3:m % 2=1
     ·simp only[h3,if_true]
      rw[ih _ _ _ dO];by_cases e:m=n
      ·simp[e]
      ·have:m / 2≠n / 2:=dO
       simp[e,this]
     ·have:m≠n:=dO
      simp[h3,this]
   ·rw[if_neg h2,Tr.get_eq]
    by_cases hm:m=0
    ·have:=dO
     subst hm;simp[Tr.top,BR hn]
    ·simp only[hm,if_false,Tr.left,Tr.right]
     by_cases h3:m % 2=1
     ·have:m≠n:=dO
      simp[h3,this]
     ·simp only[h3,if_false]
      rw[ih _ _ _ dO];by_cases e:m=n
      ·simp[e]
      ·have:m / 2 - 1≠n / 2 - 1:=dO
       simp[e,this]
inductive iG where
 | mkMap
 | lookup (ks:List Nat) (agg:Bool) (z:Value) (ok:Bool)
 | mapSet (ks:List Nat) (agg:Bool)
 | mapEnt (ks:List Nat) (agg:Bool) (z:Value)
 | entSet
 | mapDel (ks:List Nat) (agg:Bool)
 | mapLen
 | iterStr
 | nextStr
 | iterMap
 | nextMap
 | entMap
 | capNil
 | gload
 | lookG (z:Value) (ok:Bool)
 | nilF (neg:Bool)
inductive Gk where
 | mv (x:Operand)
 | pick (c a b:Operand)
 | box (t:TypeId) (x:Operand)
 | zero (t:TypeId) (z:Value)
 | load (agg:Bool) (sz:Nat) (x:Operand)
 | store (sz:Nat) (a x:Operand)
 | nilck (x:Operand)
 | bin (op:BinOp) (x y:Operand)
 | eqb (neg:Bool) (x y:Operand)
 | eqf (ks:List Nat) (neg:Bool) (x y:Operand)
 | eqp (neg:Bool) (x y:Operand)
 | eqs (neg:Bool) (x y:Operand)
 | un (op:UnOp) (x:Operand)
 | cvi (k:IntKind) (x:Operand)
 | EX (x:Operand)
 | mkIface (t:TypeId) (x:Operand)
 | mkFunc (f:FuncId) (first captured:Array Operand)
 | mkSlice (e:TypeId) (esz bytes:Nat) (z:List Value) (len cap:Operand)
 | sl (esz:Nat) (x:Operand) (lo hi:Option Operand)
 | slStr (x:Operand) (lo hi:Option Operand)
 | fa (off:Nat) (x:Operand)
 | fld (agg:Bool) (sz off:Nat) (x:Operand)
 | ia (esz:Nat) (x i:Operand)
 | iaArr (n esz:Nat) (x i:Operand)
 | idx (n:Nat) (agg:Bool) (esz:Nat) (x i:Operand)
 | idxStr (x i:Operand)
 | ext (x:Operand) (i:Nat)
 | build (z:List Value) (parts:List (Nat × Nat × Operand))
 | buildSlice (e:TypeId) (esz n:Nat) (z:List Value) (parts:List (Nat × Nat × Operand))
 | len (x:Operand)
 | lenStr (x:Operand)
 | append (e:TypeId) (esz bytes:Nat) (s x:Operand)
 | copy (esz:Nat) (d s:Operand)
 | clr (esz:Nat) (z:List Value) (x:Operand)
 | minmax (mx:Bool) (x:Operand) (l:List Operand)
 | call (f:FuncId) (args:Array Operand)
 | callv (x:Operand) (args:Array Operand)
 | extra (e:iG) (l:List Operand)
structure EW where
 dst:Option Tmp
 op:Gk
 guard:Option (Tmp × Bool)
structure I0 where
 ops:List EW
 stages:List (List Nat)
 flags:List ((Bool × Bool) × Bool)
structure Kj where
 ps:Array Tmp
 assign:Code
 body:Code
 n:Nat
inductive Fh where
 | skip
 | region (ops:List EW)
 | draw (d:I0)
 | seq (a b:Fh)
 | cond (c:Operand) (thn els:Fh)
 | block (id:Nat) (body:Fh)
 | loop (body:Fh)
 | exit (id:Nat)
 | ret
 | range (x:Operand) (L:Kj)
inductive Ex where
 | normal
 | exit (id:Nat)
 | ret
inductive V8 where
 | loop (env:Array Value) (L:Kj) (pe:Option Ex)
 | map (es:List (Value × Value × Nat)) (clock:Nat)
 | iter (s:ByteArray) (pos:Nat)
 | mapIter (m:Option Nat) (since:Nat) (seen:List Nat) (last:Nat)
inductive FH where
 | gone
 | cells (c:List Value) (t:TypeId) (sz:Nat) (Jz:Bool) (anc:List Nat)
 | obj (o:V8)
abbrev FH.loop(env:Array Value)(L:Kj)(pe:Option Ex):FH:=.obj (.loop env L pe)
abbrev FH.map(es:List (Value × Value × Nat))(clock:Nat):FH:=.obj (.map es clock)
abbrev FH.iter(s:ByteArray)(pos:Nat):FH:=.obj (.iter s pos)
abbrev FH.mapIter(m:Option Nat)(since:Nat)(seen:List Nat)(last:Nat):FH:=.obj (.mapIter m since seen last)
def FH.wr:FH->Bool
 | .gone=>false
 | .cells _ _ _ m _=>m
 | .obj _=>true
structure St where
 heap:Tr FH
 next:Nat
def St.get(S:St)(id:Nat):=(S.heap.get id).getD .gone
def St.put(S:St)(id:Nat)(b:FH):={ S with heap:=S.heap.set id id b }
def St.alloc(S:St)(b:FH):St:={ heap:=S.heap.set S.next S.next b,next:=S.next+1 }
def St.kill(S:St)(l:List Nat):=l.foldl (λS j=>S.put j .gone) S
def St.Gd(S:St)(id b j):(S.put id b).get j=if j=id then b else S.get j:=by
 unfold St.get St.put;simp only[Tr.jc _ _ _ _ _ (Af _)]
 grind
def St.D6(S:St)(b j):(S.alloc b).get j=if j=S.next then b else S.get j:=by
 unfold St.get St.alloc;simp only[Tr.jc _ _ _ _ _ (Af _)]
 grind
@[simp] theorem St.Lj (S:St) (id b):(S.put id b).next=S.next:=rfl
@[simp] theorem St.LQ (S:St) (b):(S.alloc b).next=S.next+1:=rfl
def St.kP(l):∀ S:St,(S.kill l).next=S.next:=by
 induction l with
 | nil=>intro S;rfl
 | cons j l ih=>intro S;exact ih _
def St.pR(l):∀ (S:St) j,(S.kill l).get j=if j∈l then .gone else S.get j:=by
 induction l with
 | nil=>simp[St.kill]
 | cons i l ih=>
  intro S j;have:=ih (S.put i .gone) j;unfold St.kill at this |-;rw[Bg,this,St.Gd]
  grind
structure MK where
 b:Nat
 base:Nat
 ext:Nat
 sz:Nat
structure Es where
 f:Nat->Option MK
 Fy:Option Nat
instance:CoeFun Es (λ_=>Nat->Option MK):=⟨Es.f⟩
def Es.ext'{φ ψ:Es}(h:∀ id,φ id=ψ id)(ht:φ.Fy=ψ.Fy):φ=ψ:=by
 cases φ;obtain rfl:=show _=_ from ht
 obtain rfl:=show _=_ from funext h
 rfl
inductive Rel(φ:Es):Value->Value->Prop where
 | bool (b):Rel _ (.bool b) (.bool b)
 | int (k) (n):Rel _ (.int k n) (.int k n)
 | string (s):Rel _ (.string s) (.string s)
 | ptrNil:Rel _ (.pointer none) (.pointer none)
 | ptr (id o) (s) (h:φ id=some s):Rel _ (.pointer (some ⟨id,o,none⟩)) (.pointer (some ⟨s.b,s.base+o,none⟩))
 | sliceNil:Rel _ (.slice none 0 0) (.slice none 0 0)
 | slice (id o n c c') (s) (h:φ id=some s) (hn:n<=c) (hc:c<=c') (he:o+c' * s.sz<=s.ext):Rel _ (.slice (some ⟨id,o,none⟩) n c) (.slice (some ⟨s.b,s.base+o,none⟩) n c')
 | sliceEnd (id o x) (s) (h:φ id=some s):Rel _ (.slice (some ⟨id,o,none⟩) 0 0) (.slice (some ⟨s.b,x,none⟩) 0 0)
 | nilFunc:Rel _ .nilFunc .nilFunc
 | nilIface:Rel _ .nilIface .nilIface
 | func (f) (a b a' b') (ha:a.size=a'.size) (hb:b.size=b'.size) (h1:∀ i h (h':i < a'.size),Rel φ a[i] a'[i]) (h2:∀ i h (h':i < b'.size),Rel φ b[i] b'[i]) :
   Rel _ (.func (.func f) a b) (.func (.func f) a' b')
 | yield (id) (s) (h:φ id=some s):Rel _ (.func (.yield id) #[] #[]) (.func (.yield s.b) #[] #[])
 | mapNil:Rel _ (.map none) (.map none)
 | map (id) (s) (h:φ id=some s):Rel _ (.map (some id)) (.map (some s.b))
 | Fy (b) (h:φ.Fy=some b):Rel _ (.chan (some 0)) (.map (some b))
 | iface (t) (v v') (h:Rel φ v v'):Rel _ (.iface t v) (.iface t v')
 | agg (a a') (ha:a.size=a'.size) (h1:∀ i h (h':i < a'.size),Rel φ a[i] a'[i]):Rel _ (.agg a) (.agg a')
 | tuple (a a') (ha:a.size=a'.size) (h1:∀ i h (h':i < a'.size),Rel φ a[i] a'[i]):Rel _ (.tuple a) (.tuple a')
def Gb(φ:Es)(a b:Array Value):=a.size=b.size/\∀ i h (h':i < b.size),Rel φ a[i] b[i]
def FX(φ:Es)(a b:List Value):=a.length=b.length/\∀ i h (h':i < b.length),Rel φ a[i] b[i]
structure Es.le(φ ψ:Es)  where
 at':∀ id s,φ id=some s->ψ id=some s
 Fy:ψ.Fy=φ.Fy
instance(φ ψ):CoeFun (Es.le φ ψ) (λ_=>∀ id s,φ id=some s->ψ id=some s):=⟨Es.le.at'⟩
def Es.le.refl(φ):Es.le φ φ:=⟨λ_ _ h=>h,rfl⟩
def Es.le.trans{φ ψ χ}(h:Es.le φ ψ)(k:Es.le ψ χ):Es.le φ χ:=⟨λid s e=>k _ s (h _ s e),k.Fy.trans h.Fy⟩
def Rel.mono{φ ψ}(hle:Es.le φ ψ){v v'}(h:Rel φ v v'):Rel ψ v v':=by
 induction h with
 | bool b=>exact .bool b
 | int k n=>exact .int k n
 | string s=>exact .string s
 | ptrNil=>exact .ptrNil
 | ptr id o s h=>exact .ptr _ o s (hle _ _ h)
 | sliceNil=>exact .sliceNil
 | slice id o n c c' s h hn hc he=>exact .slice _ o n c _ s (hle _ _ h) hn hc he
 | sliceEnd id o x s h=>exact .sliceEnd _ o x s (hle _ _ h)
 | nilFunc=>exact .nilFunc
 | nilIface=>exact .nilIface
 | func f a b a' b' ha hb h1 h2 i1 i2=>exact .func f a b _ _ ha hb i1 i2
 | yield id s h=>exact .yield _ s (hle _ _ h)
 | mapNil=>exact .mapNil
 | map id s h=>exact .map _ s (hle _ _ h)
 | Fy b h=>exact .Fy b (hle.Fy.trans h)
 | iface t v v' h ih=>exact .iface t v _ ih
 | agg a a' ha h1 i1=>exact .agg a _ ha i1
 | tuple a a' ha h1 i1=>exact .tuple a _ ha i1
def Gb.mono{φ ψ}(hle:Es.le φ ψ){a b}(h:Gb φ a b):Gb ψ a b:=⟨h.1,λi h1 h2=>(h.2 i _ _).mono hle⟩
def FX.mono{φ ψ}(hle:Es.le φ ψ){a b}(h:FX φ a b):FX ψ a b:=⟨h.1,λi h1 h2=>(h.2 i _ _).mono hle⟩
def Gb.PB{φ a b}(h:Gb φ a b):FX φ a.toList b.toList:=⟨by simpa using h.1,λi h1 h2=>by simpa using h.2 i _ _⟩
def FX.tc{φ a b}(h:FX φ a b):Gb φ a.toArray b.toArray:=⟨by simpa using h.1,λi h1 h2=>by simpa using h.2 i _ _⟩
def FX.nil(φ):FX φ [] []:=⟨rfl,λi h=>IN⟩
def FX.append{φ a b a' b'}(h:FX φ a a')(k:FX φ b b'):FX φ (a++b) (a'++b'):=by
 refine⟨by simp[h.1,k.1],λi h1 h2=>?_⟩;by_cases hi:i < a.length
 ·rw[BC hi,BC (by rw[<- h.1];omega)]
  exact h.2 i _ _
 ·have hl:=h.1
  rw[BU dO,BU dO];have e:i - a.length=i - a'.length:=dO
  have:=k.2 (i - a.length) IN IN
  grind
def FX.cons{φ x y a b}(h:Rel φ x y)(k:FX φ a b):FX φ (x::a) (y::b):=by
 refine⟨by simp[k.1],λi h1 h2=>?_⟩;cases i with
 | zero=>exact h
 | succ i=>exact k.2 i _ _
def FX.take{φ a b}(h:FX φ a b)(n):FX φ (a.take n) (b.take n):=
 ⟨by simp[h.1],λi h1 h2=>by simpa using h.2 i _ _⟩
def FX.drop{φ a b}(h:FX φ a b)(n):FX φ (a.drop n) (b.drop n):=
 ⟨by simp[h.1],λi h1 h2=>by simpa using h.2 _ _ _⟩
def Rel.pS{φ a a'}(h:Gb φ a a'):Rel φ (.agg a) (.agg a'):=.agg a _ h.1 h.2
def Rel.tuple'{φ a a'}(h:Gb φ a a'):Rel φ (.tuple a) (.tuple a'):=.tuple a _ h.1 h.2
def Rel.jd{φ f a a' b b'}(h:Gb φ a a')(k:Gb φ b b'):Rel φ (.func (.func f) a b) (.func (.func f) a' b'):=.func f a b _ _ h.1 k.1 h.2 k.2
def Rel.undef(φ):Rel φ undef undef:=.tuple' ⟨rfl,λi h=>IN⟩
def Rel.V9{φ v v'}(h:Rel φ v v'):v'.oneCell'=v.oneCell':=by cases h<;>rfl
def Rel.cells{φ v v'}(h:Rel φ v v'):Gb φ v.cells v'.cells:=by
 have h0:=h;cases h with
 | agg a a' ha h1=>exact⟨ha,h1⟩
 | _=>exact⟨rfl,λi h1 h2=>by
   have:=by simp[Value.cells] at h1;omega
   subst this;exact h0⟩
def Row(w:World)(b:Nat)(m:Bool)(cs:Array Value)(t:TypeId):=∃ fz,w.heap[b]? = some (.cells cs t fz)/\(m=true->fz=(0,0))
def Row.Jz{w b cs t}(h:Row w b true cs t):w.heap[b]? = some (.cells cs t (0,0)):=by
 obtain⟨fz,h1,h2⟩:=h
 grind
def Row.of{w b m cs t}(h:w.heap[b]? = some (.cells cs t (0,0))):Row w b m cs t:=⟨_,h,λ_=>rfl⟩
def Row.same{w w' b m cs t}(h:Row w b m cs t)(e:w'.heap[b]? = w.heap[b]?):Row w' b m cs t:=by
 obtain⟨fz,h1,h2⟩:=h;exact⟨fz,e.trans h1,h2⟩
def Row.still{w b m cs t}(h:Row w b m cs t):Row w b false cs t:=by
 obtain⟨fz,h1,h2⟩:=h;exact⟨fz,h1,λx=>by cases x⟩
def Ex.code:Ex->Code
 | .normal=>.skip
 | .exit id=>.exit id
 | .ret=>.ret
def MN(φ:Es)(env:Array Value)(L:Kj)(pe:Option Ex)(r:Loop):=
 Gb φ env r.tmps/\r.params=L.ps/\r.assign=L.assign/\r.body=L.body/\r.pending=pe.map Ex.code/\r.state=match pe with
  | none=>LoopState.ready
  | some _=>LoopState.done
def MN.mono{φ ψ}(hle:Es.le φ ψ){env L pe r}(h:MN φ env L pe r):MN ψ env L pe r:=⟨h.1.mono hle,h.2⟩
def MN.vt{φ env L pe r}(h:MN φ env L pe r):r.state≠.busy:=by
 rw[h.2.2.2.2.2];grind
def TW(φ:Es)(x:Value × Value × Nat)(e:MapEntry):=Rel φ x.1 e.key/\Rel φ x.2.1 e.val/\x.2.2=e.born
def G4(φ:Es)(es:List (Value × Value × Nat))(es':List MapEntry):=es.length=es'.length/\∀ i h (h':i < es'.length),TW φ es[i] es'[i]
def G4.mono{φ ψ}(hle:Es.le φ ψ){es es'}(h:G4 φ es es'):G4 ψ es es':=
 ⟨h.1,λi h1 h2=>⟨(h.2 i _ _).1.mono hle,(h.2 i _ _).2.1.mono hle,(h.2 i _ _).2.2⟩⟩
def Sm(φ:Es):V8->Obj->Prop
 | .loop env L pe,r=>∃ q,r=.loop q/\MN φ env L pe q
 | .map es c,r=>∃ es',r=.map es' c/\G4 φ es es'.toList
 | .iter s p,r=>r=.stringIter s p
 | .mapIter m since seen last,r=>∃ m',r=.mapIter m' since seen.toArray last/\Rel φ (.map m) (.map m')
def Sm.mono{φ ψ}(hle:Es.le φ ψ){o r}(h:Sm φ o r):Sm ψ o r:=by
 cases o with
 | loop env L pe=>obtain⟨q,rfl,h⟩:=h;exact⟨q,rfl,h.mono hle⟩
 | map es c=>obtain⟨q,rfl,h⟩:=h;exact⟨q,rfl,h.mono hle⟩
 | iter s p=>exact h
 | mapIter m s l c=>obtain⟨q,rfl,h⟩:=h;exact⟨q,rfl,h.mono hle⟩
def UG:Obj->Bool
 | .cells _ _ _=>true
 | _=>false
def isObj:Obj->Bool
 | .loop _=>true
 | .map _ _=>true
 | .stringIter _ _=>true
 | .mapIter _ _ _ _=>true
 | _=>false
def Sm.isObj{φ o r}(h:Sm φ o r):Go.Proofs.YtkkpchcniicimaaGreat.isObj r=true:=by
 cases o with
 | loop env L pe=>obtain⟨q,rfl,h⟩:=h;rfl
 | map es c=>obtain⟨q,rfl,h⟩:=h;rfl
 | iter s p=>rw[h];rfl
 | mapIter m s l c=>obtain⟨q,rfl,h⟩:=h;rfl
def Sm.pT{φ o r}(h:Sm φ o r):UG r=false:=by
 cases o with
 | loop env L pe=>obtain⟨q,rfl,h⟩:=h;rfl
 | map es c=>obtain⟨q,rfl,h⟩:=h;rfl
 | iter s p=>rw[h];rfl
 | mapIter m s l c=>obtain⟨q,rfl,h⟩:=h;rfl
def Adk(es:List MapEntry):=(∀ x∈es,∃ n f,x.key=.int .i64 n/\x.val=.func (.func f) #[] #[]/\Ny.lookup n=some f)/\∀ n f,Ny.lookup n=some f->∃ x∈es,x.key=.int .i64 n
def Oi(B:Nat)(φ:Es)(w:World):=Z3=true->∃ b,φ.Fy=some b/\kN < B/\b < B/\(∃ t fz,w.heap[kN]? = some (.cells #[.map (some b)] t fz))/\∃ es' c,w.heap[b]? = some (.map es' c)/\Adk es'.toList
def Oi.of{B B' φ φ' w w'}(h:Oi B φ w)(hB:B<=B')(ht:φ'.Fy=φ.Fy)(hw:∀ b o,b < B->(UG o=true\/isObj o=true)->w.heap[b]? = some o->w'.heap[b]? = some o):Oi B' φ' w':=by
 intro hg;obtain⟨b,h1,h2,h3,⟨t,fz,h4⟩,es',c,h5,h6⟩:=h hg;exact⟨b,ht.trans h1,Ar h2 hB,Ar h3 hB,⟨t,fz,hw _ _ h2 (.inl rfl) h4⟩,es',c,hw _ _ h3 (.inr rfl) h5,h6⟩
def Sn(B:Nat)(φ:Es)(S:St)(w:World):=
 Oi B φ w/\∀ id s o,φ id=some s->S.get id=.obj o->(B<=s.b/\s.base=0)/\(∃ r,w.heap[s.b]? = some r/\Sm φ o r)/\
  ∀ j sj o',j≠id->φ j=some sj->S.get j=.obj o'->sj.b≠s.b
def Sn.of{B φ φ' S S' w w'}(h:Sn B φ S w)(hle:Es.le φ φ')(hS:∀ id o,S'.get id=.obj o->S.get id=.obj o)
  (hφ:∀ id s o,φ' id=some s->S'.get id=.obj o->φ id=some s) (hw:∀ (b:Nat) r,UG r=false->w.heap[b]? = some r->w'.heap[b]? = some r) (hlow:∀ b o,b < B->w.heap[b]? = some o->w'.heap[b]? = some o):Sn B φ' S' w':=by
 refine⟨h.1.of (Af _) hle.Fy (λb o h1 _ h2=>hlow b o h1 h2),?_⟩;intro id s o e e2;obtain⟨h1,⟨r,h2,h3⟩,h4⟩:=h.2 _ s o (hφ _ s o e e2) (hS _ o e2);exact⟨h1,⟨r,hw _ r h3.pT h2,h3.mono hle⟩,λj sj o' hj ej ej2=>h4 j _ _ hj (hφ j _ _ ej ej2) (hS j _ ej2)⟩
structure E0(B)(φ:Es)(S:St)(w:World)  where
 dom:∀ id s,φ id=some s->id < S.next/\s.b < w.heap.size
 gone:∀ id,S.next<=id->S.get id=.gone
 IM:∀ id s c t sz m an,φ id=some s->S.get id=.cells c t sz m an->s.sz=sz/\c.length<=s.ext/\(m=true->B<=s.b)/\
  ∃ cs t',Row w s.b m cs t'/\s.base+s.ext<=cs.size/\∀ i v,c[i]? = some v->v.oneCell'=true/\∃ v',cs[s.base+i]? = some v'/\Rel φ v v'
 apart:∀ id s c t sz an,φ id=some s->S.get id=.cells c t sz true an->∀ j sj cj tj zj mj aj,j≠id->φ j=some sj->S.get j=.cells cj tj zj mj aj->sj.b=s.b->
  (j∈an/\mj=false)/\sj.base+cj.length<=s.base+c.length
 loops:Sn B φ S w
structure E6(B:Nat)(φ)(S:St)(w:World)(φ')(S':St)(w':World)  where
 le:Es.le φ φ'
 place:∀ id s,φ' id=some s->φ id=none->w.heap.size<=s.b\/∃ id0 s0,φ id0=some s0/\s0.b=s.b/\(S.get id0).wr=true
 new:∀ id s,φ' id=some s->φ id=none->S.next<=id
 size:w.heap.size<=w'.heap.size
 next:S.next<=S'.next
 os:w'.os=w.os
 tape:w'.tape=w.tape
 output:w'.output=w.output
 D8:∀ b,b < w.heap.size->(∀ id s,φ id=some s->s.b=b->(S.get id).wr=false)->w'.heap[b]? = w.heap[b]?
 Jz:∀ id s,φ' id=some s->(S'.get id).wr=true->s.b < w.heap.size->∃ id0 s0,φ id0=some s0/\s0.b=s.b/\(S.get id0).wr=true
def Lk{S:St}{id c t sz an}(h:S.get id=.cells c t sz true an):(S.get id).wr=true:=by rw[h];rfl
def vu{S:St}{id env L pe}(h:S.get id=.loop env L pe):(S.get id).wr=true:=by rw[h];rfl
def So{S:St}{id o}(h:S.get id=.obj o):(S.get id).wr=true:=by rw[h];rfl
def eS{b:FH}(h:b.wr=true):(∃ c t sz an,b=.cells c t sz true an)\/∃ o,b=.obj o:=by
 cases b with
 | gone=>cases h
 | cells c t sz m an=>cases m with
  | true=>grind
  | false=>cases h
 | obj o=>grind
def E6.refl(B φ S w):E6 B φ S w φ S w:=
 ⟨Es.le.refl _,λ_ _ h h'=>(A0 _ (h.symm.trans h')).elim,λ_ _ h h'=>(A0 _ (h.symm.trans h')).elim,Af _,Af _,rfl,rfl,rfl,λ_ _ _=>rfl,λid s h1 h2 _=>⟨id,s,h1,rfl,h2⟩⟩
def E6.trans{B φ φ' φ'' S S' S'' w w' w''}(h:E6 B φ S w φ' S' w')(k:E6 B φ' S' w' φ'' S'' w''):E6 B φ S w φ'' S'' w'':=by
 refine⟨h.le.trans k.le,λid s h1 h2=>?_,λid s h1 h2=>?_,An h.size k.size,An h.next k.next,k.os.trans h.os,k.tape.trans h.tape,k.output.trans h.output,λb hb hno=>?_,λid s h1 h2 h3=>?_⟩
 ·cases h3:φ' _ with
  | none=>
   rcases k.place _ s h1 h3 with h4 | ⟨id0,s0,h4,h5,h6⟩
   ·exact .inl (An h.size h4)
   ·by_cases hlt:s0.b < w.heap.size
    ·obtain⟨id1,s1,h7,h8,h9⟩:=h.Jz _ _ h4 h6 hlt
     grind
    omega
  | some s'=>
   have:=k.le _ _ h3;rw[h1] at this;obtain rfl:=Aa this;exact h.place _ s h3 h2
 ·cases h3:φ' _ with
  | none=>exact An h.next (k.new _ s h1 h3)
  | some s'=>exact h.new _ _ h3 h2
 ·rw[k.D8 b (Ar hb h.size) ?_,h.D8 b hb hno]
  intro id s h1 h2;cases h3:(S'.get _).wr with
  | false=>rfl
  | true=>
   obtain⟨id0,s0,h4,h5,h6⟩:=h.Jz _ s h1 h3 dO
   grind
 ·obtain⟨id0,s0,h4,h5,h6⟩:=k.Jz _ s h1 h2 (Ar h3 h.size)
  obtain⟨id1,s1,h7,h8,h9⟩:=h.Jz _ _ h4 h6 dO
  grind
def E0.AbL{B φ S w}(hs:E0 B φ S w){id s}(h1:φ id=some s)(h2:(S.get id).wr=true):B<=s.b:=by
 rcases eS h2 with ⟨c,t,sz,an,e⟩ | ⟨o,e⟩
 ·exact (hs.IM _ s c t _ _ _ h1 e).2.2.1 rfl
 ·exact (hs.loops.2 _ s o h1 e).1.1
def E0.pU{B φ S w}(hs:E0 B φ S w){id s env L pe}(h1:φ id=some s)(h2:S.get id=.loop env L pe):(B<=s.b/\s.base=0)/\∃ r,w.heap[s.b]? = some (.loop r)/\MN φ env L pe r:=by
 obtain⟨a1,⟨r,a2,q,rfl,a3⟩,_⟩:=hs.loops.2 _ s _ h1 h2
 grind
def E6.below{B φ φ' S S' w w'}(h:E6 B φ S w φ' S' w')(hs:E0 B φ S w)(hB:B<=w.heap.size):Below B w w':=
 ⟨h.os,h.tape,h.output,h.size,λk hk=>h.D8 k dO λid s h1 h2=>by
  cases h3:(S.get _).wr with
  | false=>rfl
  | true=>have:=hs.AbL h1 h3;omega⟩
def E0.drew{B φ S w}(h:E0 B φ S w):E0 B φ S w.drew:=⟨h.dom,h.gone,h.IM,h.apart,h.loops⟩
def E6.drew(B φ S w):E6 B φ S w φ S w.drew:=
 ⟨Es.le.refl _,λ_ _ h h'=>(A0 _ (h.symm.trans h')).elim,λ_ _ h h'=>(A0 _ (h.symm.trans h')).elim,Af _,Af _,rfl,rfl,rfl,λ_ _ _=>rfl,λid s h1 h2 _=>⟨id,s,h1,rfl,h2⟩⟩
def Es.add(φ:Es)(id:Nat)(s:MK):Es:=⟨λj=>if j=id then some s else φ j,φ.Fy⟩
def Es.PV(φ:Es)(id s j):(φ.add id s) j=if j=id then some s else φ j:=rfl
def Es.add_same(φ:Es)(id s):φ.add id s id=some s:=if_pos rfl
def Es.Ep(φ:Es){id j}(s)(h:j≠id):φ.add id s j=φ j:=if_neg h
def Es.Og(φ id s)(h:φ id=none):Es.le φ (φ.add id s):=⟨λj s' e=>by
 rw[Es.Ep _ _ (λe'=>by grind)];exact e,rfl⟩
def E0.fresh{B φ S w}(h:E0 B φ S w):φ S.next=none:=by
 cases e:φ _ with
 | none=>rfl
 | some s=>have:=(h.dom _ s e).1;omega
def GM(w:World)(o k):(w.alloc o).heap[k]? = if k=w.heap.size then some o else w.heap[k]?:=by
 show (w.heap.push o)[k]? = _
 grind
def E0.alloc{B φ S w}(h:E0 B φ S w)(hB:B<=w.heap.size)(c cs t t' sz)
  (h1:∀ v∈c,v.oneCell'=true) (hlen:c.length<=cs.size) (hr:∀ (i:Nat) v,c[i]? = some v->∃ v',cs[i]? = some v'/\Rel φ v v') (an) :
  E0 B (φ.add S.next ⟨w.heap.size,0,cs.size,sz⟩) (S.alloc (.cells c t sz true an)) (w.alloc (.cells cs t'))/\
  E6 B φ S w (φ.add S.next ⟨w.heap.size,0,cs.size,sz⟩) (S.alloc (.cells c t sz true an)) (w.alloc (.cells cs t')):=by
 have hf:=h.fresh;have hle:=Es.Og _ _ ⟨w.heap.size,0,cs.size,sz⟩ hf;constructor
 ·refine⟨λid s e=>?_,(λid hi=>by rw[St.D6,if_neg (by simp at hi;omega)];exact h.gone _ (by simp at hi;omega)),λid s c' t1 sz1 m an' e e2=>?_,λid s c' t1 sz1 an' e e2 j sj cj tj zj mj aj hj e3 e4 e5=>?_,h.loops.of hle (λid o e=>?_) (λid s o e e2=>?_) (λb r _ e=>?_) λb o hb e=>by have:b < w.heap.size:=(AR.1 e).1;rw[GM,if_neg dO];exact e⟩
  ·by_cases hi:id=S.next
   ·subst hi
    rw[Es.add_same] at e;obtain rfl:=Aa e;simp
   ·rw[Es.Ep _ _ hi] at e
    have:=h.dom _ s e;simp;omega
  ·by_cases hi:id=S.next
   ·subst hi
    rw[Es.add_same] at e;obtain rfl:=Aa e;rw[St.D6,if_pos rfl] at e2;obtain⟨rfl,rfl,rfl,rfl,rfl⟩:=FH.cells.inj e2;refine⟨rfl,hlen,λ_=>hB,cs,t',Row.of (by rw[GM,if_pos rfl]),iN,λi v hv=>⟨h1 v (AF hv),?_⟩⟩;obtain⟨v',hv',hrel⟩:=hr i v hv;exact⟨v',by simpa using hv',hrel.mono hle⟩
   ·rw[Es.Ep _ _ hi] at e
    rw[St.D6,if_neg hi] at e2;obtain⟨a1,a2,a3,cs',t2,a4,a5,a6⟩:=h.IM _ s _ _ _ m _ e e2;have:=(h.dom _ s e).2;refine⟨a1,a2,a3,cs',t2,a4.same (by rw[GM,if_neg dO]),a5,λi v hv=>?_⟩;obtain⟨b1,v',b2,b3⟩:=a6 i v hv;exact⟨b1,v',b2,b3.mono hle⟩
  ·by_cases hi:id=S.next
   ·subst hi
    rw[Es.add_same] at e;obtain rfl:=Aa e;rw[Es.Ep _ _ hj] at e3;have:=(h.dom j _ e3).2;simp at e5;omega
   ·rw[Es.Ep _ _ hi] at e
    rw[St.D6,if_neg hi] at e2;by_cases hj2:j=S.next
    ·subst hj2
     rw[Es.add_same] at e3;obtain rfl:=Aa e3;have:=(h.dom _ s e).2;simp at e5;omega
    ·rw[Es.Ep _ _ hj2] at e3
     rw[St.D6,if_neg hj2] at e4;exact h.apart _ s _ _ _ _ e e2 j _ _ _ _ _ _ hj e3 e4 e5
  ·rw[St.D6] at e
   split at e
   ·cases e
   ·exact e
  ·rw[St.D6] at e2
   split at e2
   ·cases e2
   ·rename_i hi
    rwa [Es.Ep _ _ hi] at e
  ·have:b < w.heap.size:=(AR.1 e).1
   rw[GM,if_neg dO];exact e
 ·refine⟨hle,λid s e e2=>?_,λid s e e2=>?_,iN,iN,rfl,rfl,rfl,λb hb _=>by rw[GM,if_neg dO],λid s e e2 hlt=>?_⟩
  ·by_cases hi:id=S.next
   ·subst hi
    rw[Es.add_same] at e;obtain rfl:=Aa e;exact .inl (Af _)
   ·rw[Es.Ep _ _ hi,e2] at e;cases e
  ·by_cases hi:id=S.next
   ·omega
   ·rw[Es.Ep _ _ hi,e2] at e;cases e
  ·by_cases hi:id=S.next
   ·subst hi
    rw[Es.add_same] at e;obtain rfl:=Aa e;simp at hlt
   ·rw[Es.Ep _ _ hi] at e
    rw[St.D6,if_neg hi] at e2;exact⟨id,s,e,rfl,e2⟩
def St.write(S:St)(id:Nat)(c:List Value)(t:TypeId)(sz:Nat)(an:List Nat):=(S.kill an).put id (.cells c t sz true [])
def St.F5(S:St)(id c t sz an j) :
  (S.write id c t sz an).get j=if j=id then .cells c t sz true [] else if j∈an then .gone else S.get j:=by
 unfold St.write;rw[St.Gd,St.pR]
@[simp] theorem St.HR (S:St) (id c t sz an):(S.write id c t sz an).next=S.next:=by
 unfold St.write;rw[St.Lj,St.kP]
def E0.write{B φ S w}(h:E0 B φ S w){id s c c2 t sz an}
  (e:φ id=some s) (e2:S.get id=.cells c t sz true an) (cs cs2) (t') (hg:w.heap[s.b]? = some (.cells cs t' (0,0)))
  (hl:c2.length=c.length) (hl2:cs2.size=cs.size) (h1:∀ v∈c2,v.oneCell'=true) (hr:∀ i v,c2[i]? = some v->∃ v',cs2[s.base+i]? = some v'/\Rel φ v v') :
  E0 B φ (S.write id c2 t sz an) (w.setRow s.b cs2)/\E6 B φ S w φ (S.write id c2 t sz an) (w.setRow s.b cs2):=by
 obtain⟨a1,a2,a3,cs0,t0,a4,a5,a6⟩:=h.IM _ s c t _ _ _ e e2;have a4:=a4.Jz;rw[hg] at a4;simp only[AE,Obj.cells.injEq] at a4;obtain⟨rfl,rfl,-⟩:=a4;constructor
 ·refine⟨λj sj ej=>?_,(λj hj=>by
   rw[St.F5];have h1:=h.gone j (by simpa using hj);by_cases e3:j=id
   ·subst e3;rw[e2] at h1;cases h1
   ·rw[if_neg e3];split
    ·rfl
    ·exact h1),λj sj cj tj zj mj aj ej e3=>?_,λj sj cj tj zj aj ej e3 k sk ck tk zk mk ak hk ek e4 e5=>?_,h.loops.of (Es.le.refl _) (λj o e3=>?_) (λ_ _ _ ej _=>ej) (λb r hnr hb=>?_) λb o hb ho=>by rw[setRow_other w s.b b cs2 (λeb=>by have:=a3 rfl;omega)];exact ho⟩
  ·have:=h.dom j _ ej
   simp;exact this
  ·rw[St.F5] at e3
   by_cases hj:j=id
   ·subst hj
    rw[if_pos rfl] at e3;obtain⟨rfl,rfl,rfl,rfl,rfl⟩:=FH.cells.inj e3;rw[e] at ej;obtain rfl:=Aa ej;refine⟨a1,dO,a3,cs2,t',Row.of (setRow_heap w s.b cs cs2 t' (0,0) hg),dO,λi v hv=>⟨h1 v (AF hv),hr i v hv⟩⟩
   ·rw[if_neg hj] at e3
    by_cases hja:j∈an
    ·rw[if_pos hja] at e3;cases e3
    ·rw[if_neg hja] at e3
     obtain⟨b1,b2,b3,csj,tj',b4,b5,b6⟩:=h.IM j _ _ _ _ _ _ ej e3;have hne:sj.b≠s.b:=λeb=>hja (h.apart id s c t sz an e e2 j sj cj tj zj mj aj hj ej e3 eb).1.1
     exact⟨b1,b2,b3,csj,tj',b4.same (setRow_other w s.b sj.b cs2 hne),b5,b6⟩
  ·rw[St.F5] at e3 e4
   by_cases hj:j=id
   ·subst hj
    rw[e] at ej;obtain rfl:=Aa ej;rw[if_neg hk] at e4;by_cases hka:k∈an
    ·rw[if_pos hka] at e4;cases e4
    ·rw[if_neg hka] at e4
     exact absurd (h.apart j s c t sz an e e2 k sk ck tk zk mk ak hk ek e4 e5).1.1 hka
   ·rw[if_neg hj] at e3
    by_cases hja:j∈an
    ·rw[if_pos hja] at e3;cases e3
    ·rw[if_neg hja] at e3
     by_cases hki:k=id
     ·subst hki
      rw[e] at ek;obtain rfl:=Aa ek;exact absurd (h.apart k s c t sz an e e2 j sj cj tj zj true aj hj ej e3 e5.symm).1.1 hja
     ·rw[if_neg hki] at e4
      by_cases hka:k∈an
      ·rw[if_pos hka] at e4;cases e4
      ·rw[if_neg hka] at e4
       exact h.apart j _ _ _ _ _ ej e3 k _ _ _ _ _ _ hk ek e4 e5
  ·rw[St.F5] at e3
   split at e3
   ·cases e3
   ·split at e3
    ·cases e3
    ·exact e3
  ·rw[setRow_other w _ b _ (λeb=>by rw[eb,hg] at hb;rw[<- Aa hb] at hnr;cases hnr)];exact hb
 ·refine⟨Es.le.refl _,λ_ _ h h'=>(A0 _ (h.symm.trans h')).elim,λ_ _ h h'=>(A0 _ (h.symm.trans h')).elim,iN,iN,rfl,rfl,rfl,λb hb hno=>?_,λj sj ej e3 hlt=>?_⟩
  ·refine setRow_other w _ b _ (λeb=>?_)
   have:=hno _ s e eb.symm;rw[Lk e2] at this;cases this
  ·rw[St.F5] at e3
   by_cases hj:j=id
   ·subst hj
    rw[e] at ej;obtain rfl:=Aa ej;exact⟨j,s,e,rfl,Lk e2⟩
   ·rw[if_neg hj] at e3
    by_cases hja:j∈an
    ·rw[if_pos hja] at e3;cases e3
    ·rw[if_neg hja] at e3
     exact⟨j,sj,ej,rfl,e3⟩
def E0.still{B φ S w}(h:E0 B φ S w){id c t sz m an}(e2:S.get id=.cells c t sz m an)(an') :
  E0 B φ (S.put id (.cells c t sz false an')) w/\E6 B φ S w φ (S.put id (.cells c t sz false an')) w:=by
 constructor
 ·refine⟨λj sj ej=>by simpa using h.dom j _ ej,(λj hj=>by
   rw[St.Gd];have h1:=h.gone j (by simp_all);by_cases e3:j=id
   ·simp_all
   simp_all),λj sj cj tj zj mj aj ej e3=>?_,λj sj cj tj zj aj ej e3 k sk ck tk zk mk ak hk ek e4 e5=>?_,h.loops.of (Es.le.refl _) (λj o e3=>by
    rw[St.Gd] at e3;split at e3
    ·cases e3
    omega) (λ_ _ _ ej _=>ej) (λ_ _ _ hb=>hb) λ_ _ _ hb=>hb⟩
  ·rw[St.Gd] at e3
   by_cases hj:j=id
   ·subst hj
    rw[if_pos rfl] at e3;obtain⟨rfl,rfl,rfl,rfl,rfl⟩:=FH.cells.inj e3;obtain⟨b1,b2,b3,cr,tr,r1,r2⟩:=h.IM j _ c t _ m _ ej e2;exact⟨b1,b2,λx=>(Bool.noConfusion x),cr,tr,r1.still,r2⟩
   ·rw[if_neg hj] at e3
    exact h.IM j _ _ _ _ _ _ ej e3
  ·rw[St.Gd] at e3 e4
   by_cases hj:j=id
   ·subst hj
    rw[if_pos rfl] at e3;cases e3
   ·rw[if_neg hj] at e3
    by_cases hki:k=id
    ·subst hki
     rw[if_pos rfl] at e4;obtain⟨rfl,rfl,rfl,rfl,rfl⟩:=FH.cells.inj e4;exact⟨⟨(h.apart j _ _ _ _ _ ej e3 k _ c t _ m _ hk ek e2 e5).1.1,rfl⟩,(h.apart j _ _ _ _ _ ej e3 k _ c t _ m _ hk ek e2 e5).2⟩
    ·rw[if_neg hki] at e4
     exact h.apart j _ _ _ _ _ ej e3 k _ _ _ _ _ _ hk ek e4 e5
 ·refine⟨Es.le.refl _,λ_ _ h h'=>(A0 _ (h.symm.trans h')).elim,λ_ _ h h'=>(A0 _ (h.symm.trans h')).elim,Af _,Af _,rfl,rfl,rfl,λb hb hno=>rfl,λj sj ej e3 hlt=>?_⟩
  rw[St.Gd] at e3;by_cases hj:j=id
  ·subst hj
   rw[if_pos rfl] at e3;cases e3
  ·rw[if_neg hj] at e3
   exact⟨j,sj,ej,rfl,e3⟩
def St.grow(S:St)(id:Nat)(c:List Value)(t:TypeId)(sz:Nat)(an:List Nat)(c2:List Value)(t2:TypeId):=(S.put id (.cells c t sz false an)).alloc (.cells c2 t2 sz true (id::an))
def E0.vx{B φ S w}(h:E0 B φ S w)(hB:B<=w.heap.size){id c t sz m an}
  (e2:S.get id=.cells c t sz m an) (c2) (t2 t') (cs)
  (h1:∀ v∈c2,v.oneCell'=true) (hlen:c2.length<=cs.size) (hr:∀ (i:Nat) v,c2[i]? = some v->∃ v',cs[i]? = some v'/\Rel φ v v') :
  E0 B (φ.add S.next ⟨w.heap.size,0,cs.size,sz⟩) (S.grow id c t sz an c2 t2) (w.alloc (.cells cs t'))/\
  E6 B φ S w (φ.add S.next ⟨w.heap.size,0,cs.size,sz⟩) (S.grow id c t sz an c2 t2) (w.alloc (.cells cs t')):=by
 obtain⟨k1,k2⟩:=h.still e2 _;obtain⟨k3,k4⟩:=k1.alloc hB _ _ _ _ _ h1 hlen hr _;exact⟨k3,k2.trans k4⟩
def E0.zY{B φ S w}(h:E0 B φ S w){id s c news t sz an}(o)(ho:o<=c.length)
  (e:φ id=some s) (e2:S.get id=.cells c t sz true an) (cs cs2) (t2 t') (hg:w.heap[s.b]? = some (.cells cs t' (0,0)))
  (hl2:cs2.size=cs.size) (hfit:c.length+news.length<=s.ext) (h1:∀ v∈news,v.oneCell'=true)
  (hold:∀ i,i < s.base+c.length->cs2[i]? = cs[i]?) (hr:∀ i v,news[i]? = some v->∃ v',cs2[s.base+(c.length+i)]? = some v'/\Rel φ v v') :
  E0 B (φ.add S.next ⟨s.b,s.base+o,s.ext - o,sz⟩) (S.grow id c t sz an (c.drop o++news) t2) (w.setRow s.b cs2)/\
  E6 B φ S w (φ.add S.next ⟨s.b,s.base+o,s.ext - o,sz⟩) (S.grow id c t sz an (c.drop o++news) t2) (w.setRow s.b cs2):=by
 have hf:=h.fresh;have hle:=Es.Og _ S.next ⟨s.b,s.base+o,s.ext - o,sz⟩ hf;obtain⟨hid,hsb⟩:=h.dom id s e;have hne:id≠S.next:=dO
 have hget:∀ j,(S.grow id c t sz an (c.drop o++news) t2).get j=if j=S.next then .cells (c.drop o++news) t2 sz true (id::an) else if j=id then .cells c t sz false an else S.get j:=by
  intro j;unfold St.grow;rw[St.D6,St.Gd];rfl
 have hnx:(S.grow id c t sz an (c.drop o++news) t2).next=S.next+1:=rfl;obtain⟨a1,a2,a3,cs0,t0,a4,a5,a6⟩:=h.IM id s c t sz true an e e2;have a4:=a4.Jz;rw[hg] at a4;simp only[AE,Obj.cells.injEq] at a4;obtain⟨rfl,rfl,-⟩:=a4;have hcell:∀ j sj cj tj zj mj aj,j≠id->φ j=some sj->S.get j=.cells cj tj zj mj aj->
   ∃ cs' t'',Row (w.setRow s.b cs2) sj.b mj cs' t''/\sj.base+sj.ext<=cs'.size/\∀ i v,cj[i]? = some v->v.oneCell'=true/\∃ v',cs'[sj.base+i]? = some v'/\Rel φ v v':=by
  intro j sj cj tj zj mj aj hj ej e3;obtain⟨b1,b2,b3,csj,tj',b4,b5,b6⟩:=h.IM j sj cj tj zj mj aj ej e3;by_cases hb:sj.b=s.b
  ·have hap:=(h.apart id s c t sz an e e2 j sj cj tj zj mj aj hj ej e3 hb).2
   obtain⟨fz,b4,-⟩:=b4;rw[hb,hg] at b4;simp only[AE,Obj.cells.injEq] at b4;obtain⟨rfl,rfl,-⟩:=b4;refine⟨cs2,t',by rw[hb];exact Row.of (setRow_heap w s.b cs cs2 t' (0,0) hg),dO,λi v hv=>?_⟩;obtain⟨c1,v',c2,c3⟩:=b6 i v hv;have hi:i < cj.length:=(Am.1 hv).1;exact⟨c1,v',by rw[hold _ dO];exact c2,c3⟩
  ·exact⟨csj,tj',b4.same (setRow_other w s.b sj.b cs2 hb),b5,b6⟩
 have hself:∀ i v,c[i]? = some v->v.oneCell'=true/\∃ v',cs2[s.base+i]? = some v'/\Rel φ v v':=by
  intro i v hv;obtain⟨c1,v',c2,c3⟩:=a6 i v hv;have hi:i < c.length:=(Am.1 hv).1;exact⟨c1,v',by rw[hold _ dO];exact c2,c3⟩
 constructor
 ·refine⟨λj sj ej=>?_,(λj hj=>by
   rw[hnx] at hj;rw[hget,if_neg dO];have h1:=h.gone j dO;by_cases e3:j=id
   ·subst e3;rw[e2] at h1;cases h1
   ·rw[if_neg e3];exact h1),λj sj cj tj zj mj aj ej e3=>?_,λj sj cj tj zj aj ej e3 k sk ck tk zk mk ak hk ek e4 e5=>?_,h.loops.of hle (λj o e3=>by
    rw[hget] at e3;split at e3
    ·cases e3
    ·split at e3
     ·cases e3
     ·exact e3) (λj sj o ej e3=>by
    rw[hget] at e3;split at e3
    ·cases e3
    ·rename_i hj
     rwa [Es.Ep _ _ hj] at ej) (λb r hnr hb=>by rw[setRow_other w s.b b cs2 (λeb=>by rw[eb,hg] at hb;rw[<- Aa hb] at hnr;cases hnr)];exact hb) λb o2 hb ho=>by rw[setRow_other w s.b b cs2 (λeb=>by have:=a3 rfl;omega)];exact ho⟩
  ·rw[hnx]
   by_cases hj:j=S.next
   ·subst hj
    rw[Es.add_same] at ej;obtain rfl:=Aa ej;simpa using hsb
   ·rw[Es.Ep _ _ hj] at ej
    have:=h.dom j sj ej;simp;omega
  ·rw[hget] at e3
   by_cases hj:j=S.next
   ·subst hj
    rw[if_pos rfl] at e3;rw[Es.add_same] at ej;obtain rfl:=Aa ej;obtain⟨rfl,rfl,rfl,rfl,rfl⟩:=FH.cells.inj e3;refine⟨rfl,aa0,λ_=>a3 rfl,cs2,t',Row.of (setRow_heap w s.b cs cs2 t' (0,0) hg),aa0,λi v hv=>?_⟩;by_cases hi:i < (c.drop o).length
    ·rw[CI hi,CU] at hv
     obtain⟨c1,v',c2,c3⟩:=hself _ v hv;exact⟨c1,v',by simpa [Bv] using c2,c3.mono hle⟩
    ·rw[Dg dO] at hv
     refine⟨h1 v (AF hv),?_⟩;obtain⟨v',c2,c3⟩:=hr _ v hv;refine⟨v',?_,c3.mono hle⟩;rw[<- c2]
     congr 1
     simp only[AI] at hi |-;omega
   ·rw[if_neg hj] at e3
    rw[Es.Ep _ _ hj] at ej;by_cases hji:j=id
    ·subst hji
     rw[if_pos rfl] at e3;obtain⟨rfl,rfl,rfl,rfl,rfl⟩:=FH.cells.inj e3;rw[e] at ej;obtain rfl:=Aa ej;refine⟨a1,a2,λx=>(Bool.noConfusion x),cs2,t',Row.of (setRow_heap w s.b cs cs2 t' (0,0) hg),dO,λi v hv=>?_⟩;obtain⟨c1,v',c2,c3⟩:=hself i v hv;exact⟨c1,v',c2,c3.mono hle⟩
    ·rw[if_neg hji] at e3
     obtain⟨b1,b2,b3,-⟩:=h.IM j sj cj tj zj mj aj ej e3;obtain⟨cs',t'',d1,d2,d3⟩:=hcell j sj cj tj zj mj aj hji ej e3;refine⟨b1,b2,b3,cs',t'',d1,d2,λi v hv=>?_⟩;obtain⟨c1,v',c2,c3⟩:=d3 i v hv;exact⟨c1,v',c2,c3.mono hle⟩
  ·rw[hget] at e3 e4
   by_cases hj:j=S.next
   ·subst hj
    rw[if_pos rfl] at e3;rw[Es.add_same] at ej;obtain rfl:=Aa ej;obtain⟨rfl,rfl,rfl,-,rfl⟩:=FH.cells.inj e3;rw[if_neg hk] at e4;rw[Es.Ep _ _ hk] at ek;by_cases hki:k=id
    ·subst hki
     rw[if_pos rfl] at e4;obtain⟨rfl,rfl,rfl,rfl,rfl⟩:=FH.cells.inj e4;rw[e] at ek;obtain rfl:=Aa ek;exact⟨⟨BP,rfl⟩,aa0⟩
    ·rw[if_neg hki] at e4
     have:=h.apart id s c t sz an e e2 k sk ck tk zk mk ak hki ek e4 e5;exact⟨⟨Bo _ this.1.1,this.1.2⟩,aa0⟩
   ·rw[if_neg hj] at e3
    rw[Es.Ep _ _ hj] at ej;by_cases hji:j=id
    ·subst hji
     rw[if_pos rfl] at e3;cases e3
    ·rw[if_neg hji] at e3
     by_cases hkn:k=S.next
     ·subst hkn
      rw[Es.add_same] at ek;obtain rfl:=Aa ek;exact absurd (h.apart id s c t sz an e e2 j sj cj tj zj true aj hji ej e3 e5.symm).1.2 iN
     ·rw[if_neg hkn] at e4
      rw[Es.Ep _ _ hkn] at ek;by_cases hki:k=id
      ·subst hki
       rw[if_pos rfl] at e4;obtain⟨rfl,rfl,rfl,rfl,rfl⟩:=FH.cells.inj e4;exact⟨⟨(h.apart j sj cj tj zj aj ej e3 k sk c t sz true an hk ek e2 e5).1.1,rfl⟩,(h.apart j sj cj tj zj aj ej e3 k sk c t sz true an hk ek e2 e5).2⟩
      ·rw[if_neg hki] at e4
       exact h.apart j sj cj tj zj aj ej e3 k sk ck tk zk mk ak hk ek e4 e5
 ·refine⟨hle,λj sj ej e3=>?_,λj sj ej e3=>?_,iN,by rw[hnx];omega,rfl,rfl,rfl,λb hb hno=>?_,λj sj ej e3 hlt=>?_⟩
  ·by_cases hj:j=S.next
   ·subst hj
    rw[Es.add_same] at ej;obtain rfl:=Aa ej;exact .inr ⟨id,s,e,rfl,Lk e2⟩
   ·rw[Es.Ep _ _ hj,e3] at ej;cases ej
  ·by_cases hj:j=S.next
   ·omega
   ·rw[Es.Ep _ _ hj,e3] at ej;cases ej
  ·refine setRow_other w s.b b cs2 (λeb=>?_)
   have:=hno id s e eb.symm;rw[Lk e2] at this;cases this
  ·rw[hget] at e3
   by_cases hj:j=S.next
   ·subst hj
    rw[Es.add_same] at ej;obtain rfl:=Aa ej;exact⟨id,s,e,rfl,Lk e2⟩
   ·rw[if_neg hj] at e3
    rw[Es.Ep _ _ hj] at ej;by_cases hji:j=id
    ·subst hji
     rw[if_pos rfl] at e3;cases e3
    ·rw[if_neg hji] at e3
     exact⟨j,sj,ej,rfl,e3⟩
section
variable {B:Nat}{φ:Es}{S:St}{w:World}
def E0.eT(h:E0 B φ S w)(o):E0 B φ S (w.alloc o)/\E6 B φ S w φ S (w.alloc o):=by
 have hk:∀ k,k < w.heap.size->(w.alloc o).heap[k]? = w.heap[k]?:=λk hk=>by rw[GM,if_neg dO]
 constructor
 ·refine⟨λid s e=>⟨(h.dom _ s e).1,by have:=(h.dom _ s e).2;grind⟩,h.gone,λid s c t sz m an e e2=>?_,h.apart,h.loops.of (Es.le.refl _) (λ_ _ e=>e) (λ_ _ _ e _=>e) (λb r _ e=>by grind) λb o2 _ e=>IN⟩
  obtain⟨a1,a2,a3,cs,t',a4,a5⟩:=h.IM _ s c t _ m _ e e2;exact⟨a1,a2,a3,cs,t',a4.same (hk _ (h.dom _ s e).2),a5⟩
 ·exact⟨Es.le.refl _,λ_ _ h h'=>(A0 _ (h.symm.trans h')).elim,λ_ _ h h'=>(A0 _ (h.symm.trans h')).elim,iN,Af _,rfl,rfl,rfl,λb hb _=>hk b hb,λid s h1 h2 _=>⟨id,s,h1,rfl,h2⟩⟩
def E0.Wa(h:E0 B φ S w)(hB:B<=w.heap.size){o r}(hr:Sm φ o r) :
  E0 B (φ.add S.next ⟨w.heap.size,0,0,0⟩) (S.alloc (.obj o)) (w.alloc r)/\E6 B φ S w (φ.add S.next ⟨w.heap.size,0,0,0⟩) (S.alloc (.obj o)) (w.alloc r):=by
 have hf:=h.fresh;have hle:=Es.Og _ _ ⟨w.heap.size,0,0,0⟩ hf;have hk:∀ k,k < w.heap.size->(w.alloc r).heap[k]? = w.heap[k]?:=λk hk=>by rw[GM,if_neg dO]
 have hdom:∀ id s,(φ.add S.next ⟨w.heap.size,0,0,0⟩) id=some s->(id=S.next/\s=⟨w.heap.size,0,0,0⟩)\/(id≠S.next/\φ id=some s):=by
  intro id s e;by_cases hi:id=S.next
  ·subst hi
   rw[Es.add_same] at e;exact .inl ⟨rfl,(Aa e).symm⟩
  ·rw[Es.Ep _ _ hi] at e
   exact .inr ⟨hi,e⟩
 constructor
 ·refine⟨λid s e=>?_,λid hi=>?_,λid s c t sz m an e e2=>?_,λid s c t sz an e e2 j sj cj tj zj mj aj hj ej e3 e4=>?_,h.loops.1.of (Af _) hle.Fy (λb o2 _ _ e=>by rw[hk b (AR.1 e).1];exact e),λid s o2 e e2=>?_⟩
  ·rcases hdom _ s e with ⟨rfl,rfl⟩ | ⟨hi,e⟩
   ·simp
   ·have:=h.dom _ s e
    simp;omega
  ·simp only[St.LQ] at hi
   rw[St.D6,if_neg dO];exact h.gone _ dO
  ·rw[St.D6] at e2
   rcases hdom _ s e with ⟨rfl,rfl⟩ | ⟨hi,e⟩
   ·rw[if_pos rfl] at e2;cases e2
   ·rw[if_neg hi] at e2
    obtain⟨a1,a2,a3,cs,t',a4,a5,a6⟩:=h.IM _ s c t _ m _ e e2;refine⟨a1,a2,a3,cs,t',a4.same (hk _ (h.dom _ s e).2),a5,λi v hv=>?_⟩;obtain⟨b1,v',b2,b3⟩:=a6 i v hv;exact⟨b1,v',b2,b3.mono hle⟩
  ·rw[St.D6] at e2 e3
   rcases hdom _ s e with ⟨rfl,rfl⟩ | ⟨hi,e⟩
   ·rw[if_pos rfl] at e2;cases e2
   ·rcases hdom j _ ej with ⟨rfl,rfl⟩ | ⟨hj2,ej⟩
    ·rw[if_pos rfl] at e3;cases e3
    ·rw[if_neg hi] at e2
     rw[if_neg hj2] at e3;exact h.apart _ s c t _ _ e e2 j _ _ _ _ _ _ hj ej e3 e4
  ·rw[St.D6] at e2
   rcases hdom _ s e with ⟨rfl,rfl⟩ | ⟨hi,e⟩
   ·rw[if_pos rfl] at e2
    obtain rfl:=FH.obj.inj e2;refine⟨⟨hB,rfl⟩,⟨r,by rw[GM,if_pos rfl],hr.mono hle⟩,λj sj o3 hj ej e3=>?_⟩;rcases hdom j _ ej with ⟨rfl,_⟩ | ⟨hj2,ej⟩
    ·exact absurd rfl hj
    ·have:=(h.dom j _ ej).2
     simp;omega
   ·rw[if_neg hi] at e2
    obtain⟨a1,⟨r',a2,a3⟩,a4⟩:=h.loops.2 _ s _ e e2;refine⟨a1,⟨r',by rw[hk _ (h.dom id s e).2];exact a2,a3.mono hle⟩,λj sj o3 hj ej e3=>?_⟩;rw[St.D6] at e3;rcases hdom j _ ej with ⟨rfl,rfl⟩ | ⟨hj2,ej⟩
    ·have:=(h.dom _ s e).2
     simp;omega
    ·rw[if_neg hj2] at e3
     exact a4 j _ _ hj ej e3
 ·refine⟨hle,λid s e e2=>?_,λid s e e2=>?_,iN,iN,rfl,rfl,rfl,λb hb _=>hk b hb,λid s e e2 hlt=>?_⟩
  ·rcases hdom _ s e with ⟨rfl,rfl⟩ | ⟨hi,e⟩
   ·exact .inl (Af _)
   ·rw[e2] at e;cases e
  ·rcases hdom _ s e with ⟨rfl,rfl⟩ | ⟨hi,e⟩
   ·exact Af _
   ·rw[e2] at e;cases e
  ·rcases hdom _ s e with ⟨rfl,rfl⟩ | ⟨hi,e⟩
   ·simp at hlt
   ·rw[St.D6,if_neg hi] at e2
    exact⟨id,s,e,rfl,e2⟩
def E0.je(h:E0 B φ S w)(hB:B<=w.heap.size){env L r}(hr:MN φ env L none r) :
  E0 B (φ.add S.next ⟨w.heap.size,0,0,0⟩) (S.alloc (.loop env L none)) (w.alloc (.loop r))/\E6 B φ S w (φ.add S.next ⟨w.heap.size,0,0,0⟩) (S.alloc (.loop env L none)) (w.alloc (.loop r)):=
 h.Wa hB (o:=.loop _ L _) ⟨r,rfl,hr⟩
def Rg(φ:Es)(S:St)(l:Nat):=∀ id s,φ id=some s->s.b=l->(S.get id).wr=false
def Rg.D8{φ' S' w' l}(h:Rg φ S l)(hl:l < w.heap.size)(hk:E6 B φ S w φ' S' w'):Rg φ' S' l:=by
 intro id s e e2;cases h3:(S'.get _).wr with
 | false=>rfl
 | true=>
  obtain⟨id0,s0,h4,h5,h6⟩:=hk.Jz _ s e h3 dO;rw[h _ _ h4 (h5.trans e2)] at h6
  grind
def E0.O0(h:E0 B φ S w){l o}(o')(hl:w.heap[l]? = some o)(hc:UG o=false)(hn:Rg φ S l)(hlB:B<=l\/isObj o=false):E0 B φ S (w.putObj l o'):=by
 refine⟨λid s e=>by have:=h.dom _ s e;simp_all,h.gone,λid s c t sz m an e e2=>?_,h.apart,h.loops.1.of (Af _) rfl (λb o2 hb hk e=>by
   rw[World.putObj_heap_other]
   ·exact e
   grind),λid s o2 e e2=>?_⟩
 ·obtain⟨a1,a2,a3,cs,t',⟨fr,a4,a5⟩,a6⟩:=h.IM _ s c t _ m _ e e2
  refine⟨a1,a2,a3,cs,t',⟨fr,?_,a5⟩,a6⟩;rw[World.putObj_heap_other]
  ·omega
  ·intro eb
   rw[eb,hl] at a4;rw[Aa a4] at hc;cases hc
 ·obtain⟨a1,⟨r,a2,a3⟩,a4⟩:=h.loops.2 _ s _ e e2
  refine⟨a1,⟨r,?_,a3⟩,a4⟩;rw[World.putObj_heap_other]
  ·omega
  ·intro eb
   have:=hn _ s e eb;rw[So e2] at this
   grind
def E0.jf(h:E0 B φ S w){id s o}(e:φ id=some s)(e2:S.get id=.obj o) :
  E0 B φ (S.put id .gone) w/\E6 B φ S w φ (S.put id .gone) w/\Rg φ (S.put id .gone) s.b:=by
 have hS:∀ j,(S.put _ _).get j=if j=id then .gone else S.get j:=λj=>St.Gd S _ _ j
 have hwr:∀ j,((S.put id .gone).get j).wr=true->(S.get j).wr=true:=by
  intro j hj;rw[hS] at hj;split at hj
  ·cases hj
  omega
 obtain⟨a1,⟨r,a2,a3⟩,a4⟩:=h.loops.2 _ s o e e2;refine⟨⟨λj sj ej=>by simpa using h.dom j _ ej,λj hj=>?_,λj sj c t sz m an ej e3=>?_,λj sj c t sz an ej e3 i si ci ti zi mi ai hi ei e4 e5=>?_,h.loops.of (Es.le.refl _) (λj o e3=>?_) (λ_ _ _ ej _=>ej) (λ_ _ _ hb=>hb) λ_ _ _ hb=>hb⟩,
  ⟨Es.le.refl _,λ_ _ h h'=>(A0 _ (h.symm.trans h')).elim,λ_ _ h h'=>(A0 _ (h.symm.trans h')).elim,Af _,Af _,rfl,rfl,rfl,λb hb hno=>rfl,λj sj ej e3 hlt=>⟨j,sj,ej,rfl,hwr j e3⟩⟩,λj sj ej eb=>?_⟩
 ·rw[hS];split
  ·rfl
  ·exact h.gone j (by simp_all)
 ·rw[hS] at e3
  split at e3
  ·grind
  ·exact h.IM j _ c t _ m _ ej e3
 ·rw[hS] at e3 e4
  split at e3
  ·grind
  ·split at e4
   ·grind
   ·exact h.apart j _ c t _ _ ej e3 i _ _ _ _ _ _ hi ei e4 e5
 ·grind
 ·rw[hS]
  split
  ·rfl
  ·rename_i hji
   cases hw:(S.get j).wr with
   | false=>rfl
   | true=>
    rcases eS hw with ⟨c,t,sz,an,e3⟩ | ⟨o',e3⟩
    ·obtain⟨_,_,_,cs,t',⟨fr,b4,_⟩,_⟩:=h.IM j _ c t _ _ _ ej e3
     rw[eb,a2] at b4;have hnr:=a3.pT;rw[Aa b4] at hnr;cases hnr
    grind
def E0.X8(h:E0 B φ S w){id s env L pe}(e:φ id=some s)(e2:S.get id=.loop env L pe) :
  E0 B φ (S.put id .gone) w/\E6 B φ S w φ (S.put id .gone) w/\Rg φ (S.put id .gone) s.b:=h.jf e e2
def E0.jg(h:E0 B φ S w){id s o r r'}(e:φ id=some s)(hl:w.heap[s.b]? = some r)(hc:UG r=false)(hn:Rg φ S s.b)(hB:B<=s.b/\s.base=0)(hr:Sm φ o r') :
  E0 B φ (S.put id (.obj o)) (w.putObj s.b r'):=by
 have hS:∀ j,(S.put _ _).get j=if j=id then .obj o else S.get j:=λj=>St.Gd S _ _ j
 have h1:=h.O0 r' hl hc hn (.inl hB.1);have hlt:=(AR.1 hl).1;refine⟨λj sj ej=>by simpa using h1.dom j _ ej,λj hj=>?_,λj sj c t sz m an ej e3=>?_,λj sj c t sz an ej e3 i si ci ti zi mi ai hi ei e4 e5=>?_,h1.loops.1,λj sj o2 ej e3=>?_⟩
 ·rw[hS]
  have:=(h.dom _ s e).1;rw[if_neg (by simp at hj;omega)];exact h.gone j (by simp_all)
 ·rw[hS] at e3
  split at e3
  ·cases e3
  ·exact h1.IM j _ c t _ m _ ej e3
 ·rw[hS] at e3 e4
  split at e3
  ·cases e3
  ·split at e4
   ·cases e4
   ·exact h1.apart j _ c t _ _ ej e3 i _ _ _ _ _ _ hi ei e4 e5
 ·have hother:∀ i si o3,φ i=some si->S.get i=.obj o3->si.b≠s.b:=by
   intro i si o3 ei e4 eb;have:=hn i _ ei eb;rw[So e4] at this;cases this
  rw[hS] at e3;split at e3
  ·rename_i hj
   subst hj;rw[e] at ej;obtain rfl:=Aa ej;obtain rfl:=FH.obj.inj e3;refine⟨hB,⟨r',World.putObj_heap_same hlt,hr⟩,λi si o3 hi ei e4=>?_⟩;rw[hS,if_neg hi] at e4;exact hother i _ _ ei e4
  ·obtain⟨b1,b2,b3⟩:=h1.loops.2 j _ _ ej e3
   refine⟨b1,b2,λi si o3 hi ei e4=>?_⟩;rw[hS] at e4;split at e4
   ·rename_i hii
    subst hii;rw[e] at ei;obtain rfl:=Aa ei;exact (hother j _ _ ej e3).symm
   ·exact b3 i _ _ hi ei e4
def E0.pV(h:E0 B φ S w){id s env L pe r r'}(e:φ id=some s)(hl:w.heap[s.b]? = some (.loop r))(hn:Rg φ S s.b)(hB:B<=s.b/\s.base=0)(hr:MN φ env L pe r') :
  E0 B φ (S.put id (.loop env L pe)) (w.putObj s.b (.loop r')):=h.jg e hl rfl hn hB ⟨r',rfl,hr⟩
def E6.putObj{φ' S' w'}(h:E6 B φ S w φ' S' w'){id0 s0}(e:φ id0=some s0)(hw:(S.get id0).wr=true)(o):E6 B φ S w φ' S' (w'.putObj s0.b o):=
 ⟨h.le,h.place,h.new,by simpa using h.size,h.next,h.os,h.tape,h.output,(λb hb hno=>by
  rw[World.putObj_heap_other]
  ·exact h.D8 b hb hno
  grind),h.Jz⟩
def E6.zZ{φ' S' w'}(h:E6 B φ S w φ' S' w'){D}(hD:w.heap.size<=D)(o):E6 B φ S w φ' S' (w'.putObj D o):=
 ⟨h.le,h.place,h.new,by simpa using h.size,h.next,h.os,h.tape,h.output,(λb hb hno=>by
  rw[World.putObj_heap_other dO];exact h.D8 b hb hno),h.Jz⟩
def E6.pW{φ' S' w'}(h:E6 B φ S w φ' S' w'){id s}(e:φ id=some s)(hw:(S.get id).wr=true)(b):E6 B φ S w φ' (S'.put id b) w':=
 ⟨h.le,h.place,h.new,h.size,h.next,h.os,h.tape,h.output,h.D8,λj sj ej e2 hlt=>by
  by_cases hj:j=id
  ·subst hj
   have:=h.le _ _ e
   grind
  ·rw[St.Gd,if_neg hj] at e2
   exact h.Jz j _ ej e2 hlt⟩
end
def St.width(S:St)(id:Nat):Option Nat:=
 match S.get id with
 | .cells _ _ z _ _=>some z
 | _=>none
def St.rd(S:St)(id o n:Nat):Option (List Value):=
 match S.get id with
 | .cells c _ _ _ _=>if o+n<=c.length then some ((c.drop o).take n) else none
 | _=>none
def Mh(op:BinOp)(k yk:IntKind)(a b:Int):Option Value:=
 match op with
 | .shl=>if b < 0 then none else some (.int k (k.wrap (a * 2 ^ min b.toNat k.bits)))
 | .shr=>if b < 0 then none else some (.int k (a.fdiv (2 ^ min b.toNat k.bits)))
 | .add=>if k=yk then some (.int k (k.wrap (a+b))) else none
 | .sub=>if k=yk then some (.int k (k.wrap (a - b))) else none
 | .mul=>if k=yk then some (.int k (k.wrap (a * b))) else none
 | .quo=>if k=yk/\b≠0 then some (.int k (k.wrap (a.tdiv b))) else none
 | .rem=>if k=yk/\b≠0 then some (.int k (a.tmod b)) else none
 | .and=>if k=yk then some (.int k (k.wrap (BitVec.ofInt _ a &&& BitVec.ofInt k.bits b).toNat)) else none
 | .or=>if k=yk then some (.int k (k.wrap (BitVec.ofInt _ a ||| BitVec.ofInt k.bits b).toNat)) else none
 | .xor=>if k=yk then some (.int k (k.wrap (BitVec.ofInt k.bits a ^^^ BitVec.ofInt _ b).toNat)) else none
 | .andNot=>if k=yk then some (.int k (k.wrap (BitVec.ofInt k.bits a &&& ~~~ BitVec.ofInt _ b).toNat)) else none
 | .eql=>if k=yk then some (.bool (a == b)) else none
 | .neq=>if k=yk then some (.bool (a != b)) else none
 | .lss=>if k=yk then some (.bool (decide (a < b))) else none
 | .leq=>if k=yk then some (.bool (decide (a<=b))) else none
 | .gtr=>if k=yk then some (.bool (decide (a > b))) else none
 | .geq=>if k=yk then some (.bool (decide (a >= b))) else none
def QF(op:BinOp)(a b:ByteArray):Option Value:=
 match op with
 | .add=>if a.size+b.size<=9223372036854775807 then some (.string (a++b)) else none
 | .eql=>some (.bool (a.toList == b.toList))
 | .neq=>some (.bool !(a.toList == b.toList))
 | .lss=>some (.bool (Op.bytesLess a.toList b.toList))
 | .leq=>some (.bool (Op.bytesLess a.toList b.toList || a.toList == b.toList))
 | .gtr=>some (.bool !(Op.bytesLess a.toList b.toList || a.toList == b.toList))
 | .geq=>some (.bool !(Op.bytesLess a.toList b.toList))
 | _=>none
def KE(op:BinOp)(x y:Value):=
 match x,y with
 | .int k a,.int yk b=>Mh op k yk a b
 | .string a,.string b=>QF op a b
 | _,_=>none
def X9:Nat->Value->Value->Option Bool
 | 0,.bool a,.bool b=>some (a == b)
 | 1,.int j a,.int k b=>if j=k then some (a == b) else none
 | 2,.string a,.string b=>some (a.toList == b.toList)
 | _,_,_=>none
def I7:List Nat->List Value->List Value->Option Bool
 | [],[],[]=>some true
 | k::ks,a::x,b::y=>(X9 k a b).bind λr=>(I7 ks x y).map λq=>r && q
 | _,_,_=>none
def EU(neg b:Bool):=if neg then !b else b
def bound(v:Option Value)(d:Nat):=
 match v with
 | none=>some d
 | some (.int _ i)=>if 0<=i then some i.toNat else none
 | _=>none
def EO(l:List Value)(o:Nat)(r:List Value):=l.take o++r++l.drop (o+r.length)
def Hk:List Value->List (Nat × Nat × Value)->Option (List Value)
 | l,[]=>some l
 | l,(off,sz,v)::r=>if v.cells.size=sz/\off+sz<=l.length then Hk (EO l off v.cells.toList) r else none
def one(l:List Value):=
 match l with
 | [v]=>some v
 | _=>none
def Hj(agg:Bool)(l:List Value):=if agg then some (.agg l.toArray) else one l
def E5(l:List Value):=l.all (·.oneCell')
def St.elems(S:St)(esz:Nat):Value->Option (List Value)
 | .slice none 0 0=>some []
 | .slice (some ⟨id,o,none⟩) n _=>S.rd id o (n * esz)
 | _=>none
def MH:Value->Option Nat
 | .slice _ n _=>some n
 | .string s=>some s.size
 | _=>none
def reach:=70368744177664
def G2(e:TypeId)(esz bytes:Nat)(s x:Value)(S:St):Option (Value × St):=
 match S.elems esz x,MH x with
 | some news,some m=>
  if m=0 then (match s with
   | .slice _ _ _=>some (s,S)
   | _=>none) else
  if E5 news && decide (0 < esz) && decide (0 < bytes) then
   match s with
   | .slice none 0 0=>if m * bytes<=reach then some (.slice (some ⟨S.next,0,none⟩) m m,S.alloc (.cells news e esz true [])) else none
   | .slice (some ⟨id,o,none⟩) n c=>
    match S.get id with
    | .cells cc t z true an=>
     if z=esz/\n=c/\o+n * esz=cc.length then
      (if (n+m) * bytes<=reach then some (.slice (some ⟨S.next,0,none⟩) (n+m) (n+m),S.grow id cc t z an (cc.drop o++news) e) else none)
     else if z=esz/\n+m<=c/\o+(n+m) * esz<=cc.length then some (.slice (some ⟨id,o,none⟩) (n+m) c,S.write id (EO cc (o+n * esz) news) t z an)
     else none
    | _=>none
   | _=>none
  else none
 | _,_=>none
def QC(esz:Nat)(d s:Value)(S:St):Option (Value × St):=
 match d,MH s,S.elems esz s with
 | .slice a n _,some m,some src=>
  if min m n=0 then some (.int .i64 0,S) else
  match a with
  | some ⟨id,o,none⟩=>
   match S.get id with
   | .cells cc t z true an=>
    if o+(min m n) * esz<=cc.length/\E5 src=true then some (.int .i64 (min m n:Nat),S.write id (EO cc o (src.take ((min m n) * esz))) t z an) else none
   | _=>none
  | _=>none
 | _,_,_=>none
def rep(n:Nat)(z:List Value):=(List.replicate n z).flatten
def XA(esz:Nat)(z:List Value)(x:Value)(S:St):Option (Value × St):=
 match x with
 | .slice none 0 0=>some (.tuple #[],S)
 | .slice (some ⟨id,o,none⟩) n _=>
  if n=0 then some (.tuple #[],S) else
  match S.get id with
  | .cells cc t zz true an=>if z.length=esz/\o+n * esz<=cc.length/\E5 z=true then some (.tuple #[],S.write id (EO cc o (rep n z)) t zz an) else none
  | _=>none
 | _=>none
def H0(mx:Bool):Int->IntKind->List Value->Option Value
 | a,k,[]=>some (.int k a)
 | a,k,.int j b::r=>if j=k then H0 mx (if mx then (if b > a then b else a) else (if b < a then b else a)) k r else none
 | _,_,_=>none
abbrev Env:=Array Value
def Env.ev(env:Env):Operand->Value
 | .tmp t=>env.getD t undef
 | .const v=>v
 | .global g=>.pointer (some ⟨g,0,none⟩)
 | .func f=>.func (.func f) #[] #[]
def Mi(w:Option Nat)(esz l:Nat):=match w with
 | some z=>l == 0 || z == esz
 | none=>false
def PX{w esz l}(h:Mi w esz l=true):∃ z,w=some z/\l * esz=l * z:=by
 unfold Mi at h
 grind
def Sp(z l):Mi (some z) z l=true:=by simp[Mi]
def eU(z esz):Mi (some z) esz 0=true:=by simp[Mi]
def H8(S:St)(esz l h c:Nat):Option Addr->Option (Value × St)
 | none=>if c=0 then some (.slice none 0 0,S) else none
 | some ⟨id,o,none⟩=>if Mi (S.width id) esz l=true then some (.slice (some ⟨id,o+l * esz,none⟩) (h - l) (c - l),S) else none
 | _=>none
def TX(agg:Bool)(v:Value):=
 match agg,v with
 | true,.agg a=>some a.toList
 | true,_=>none
 | false,.agg _=>none
 | false,v=>some [v]
def GU(ks:List Nat)(agg:Bool)(k:List Value):List (Value × Value × Nat)->Nat->Option (Option (Nat × Value))
 | [],_=>some none
 | e::r,i=>(TX agg e.1).bind λc=>(I7 ks k c).bind λq=>if q then some (some (i,e.2.1)) else GU ks agg k r (i+1)
def FC(z:Value)(ok:Bool)(r:Option (Nat × Value)):=if ok then .tuple #[(r.map (·.2)).getD z,.bool r.isSome] else (r.map (·.2)).getD z
def keyOf(ks:List Nat)(agg:Bool)(k:Value):=(TX agg k).bind λc=>if c.length=ks.length then some c else none
def MI:Value->Option Bool
 | .nilFunc=>some true
 | .func (.func _) _ _=>some false
 | _=>none
def Ei(e:iG)(l:List Value)(S:St):Option (Value × St):=
 match e,l with
 | .mkMap,_=>some (.map (some S.next),S.alloc (.map [] 0))
 | .lookup ks agg z ok,[x,k]=>(keyOf ks agg k).bind λc=>match x with
  | .map none=>some (FC z ok none,S)
  | .map (some id)=>match S.get id with
   | .obj (.map es _)=>(GU ks agg c es 0).map λr=>(FC z ok r,S)
   | _=>none
  | _=>none
 | .mapSet ks agg,[x,k,v]=>(keyOf ks agg k).bind λc=>match x with
  | .map (some id)=>match S.get id with
   | .obj (.map es cl)=>(GU ks agg c es 0).map λr=>match r with
    | some (i,_)=>(undef,S.put id (.map (es.modify i λe=>(k,v,e.2.2)) cl))
    | none=>(undef,S.put id (.map (es++[(k,v,cl)]) (cl+1)))
   | _=>none
  | _=>none
 | .mapEnt ks agg z,[x,k]=>(keyOf ks agg k).bind λc=>match x with
  | .map (some id)=>match S.get id with
   | .obj (.map es cl)=>(GU ks agg c es 0).map λr=>match r with
    | some (i,v)=>(.tuple #[v,.int .i64 (((es[i]?).map (·.2.2)).getD 0:Nat)],S.put id (.map (es.modify i λe=>(k,e.2.1,e.2.2)) cl))
    | none=>(.tuple #[z,.int .i64 cl],S.put id (.map (es++[(k,z,cl)]) (cl+1)))
   | _=>none
  | _=>none
 | .entSet,[.map (some id),.int .i64 b,v]=>match S.get id with
  | .obj (.map es cl)=>match es.findIdx? λe=>((e.2.2):Int) == b with
   | some i=>some (undef,S.put id (.map (es.modify i λe=>(e.1,v,e.2.2)) cl))
   | none=>none
  | _=>none
 | .mapDel ks agg,[x,k]=>(keyOf ks agg k).bind λc=>match x with
  | .map none=>some (.tuple #[],S)
  | .map (some id)=>match S.get id with
   | .obj (.map es cl)=>(GU ks agg c es 0).map λr=>match r with
    | some (i,_)=>(.tuple #[],S.put id (.map (es.eraseIdx i) cl))
    | none=>(.tuple #[],S.put id (.map es cl))
   | _=>none
  | _=>none
 | .mapLen,[.map none]=>some (.int .i64 0,S)
 | .mapLen,[.map (some id)]=>match S.get id with
  | .obj (.map es _)=>some (.int .i64 es.length,S)
  | _=>none
 | .iterStr,[.string s]=>some (.pointer (some ⟨S.next,0,none⟩),S.alloc (.iter s 0))
 | .nextStr,[.pointer (some ⟨id,0,none⟩)]=>match S.get id with
  | .obj (.iter s p)=>if p < s.size then some (.tuple #[.bool true,.int .i64 p,.int .i32 (Utf8.decode s p).1],S.put id (.iter s (p+(Utf8.decode s p).2)))
   else some (.tuple #[.bool false],S)
  | _=>none
 | .iterMap,[.map none]=>some (.pointer (some ⟨S.next,0,none⟩),S.alloc (.mapIter none 0 [] 0))
 | .iterMap,[.map (some id)]=>match S.get id with
  | .obj (.map _ cl)=>some (.pointer (some ⟨S.next,0,none⟩),S.alloc (.mapIter (some id) cl [] cl))
  | _=>none
 | .entMap,[.pointer (some ⟨id,0,none⟩)]=>match S.get id with
  | .obj (.mapIter (some m) _ seen last)=>match S.get m with
   | .obj (.map es cl)=>if cl=last then seen.getLast?.bind λs=>(es.find? λe=>e.2.2 == s).map λe=>(.tuple #[e.1,e.2.1],S) else none
   | _=>none
  | _=>none
 | .capNil,[.slice none 0 0]=>some (.int .i64 0,S)
 | .nilF neg,[x,.nilFunc]=>(MI x).map λb=>(.bool (EU neg b),S)
 | .gload,[]=>if Z3 then some (.chan (some 0),S) else none
 | .lookG z ok,[.chan (some 0),.int .i64 n]=>if Z3 then some (FC z ok ((Ny.lookup n).map λf=>(0,.func (.func f) #[] #[])),S) else none
 | .nextMap,[.pointer (some ⟨id,0,none⟩)]=>match S.get id with
  | .obj (.mapIter none _ _ _)=>some (.tuple #[.bool false],S)
  | .obj (.mapIter (some m) c _ l)=>match S.get m with
   | .obj (.map [] cl)=>if c=cl/\l=cl then some (.tuple #[.bool false],S) else none
   | _=>none
  | _=>none
 | _,_=>none
def EF(o:Gk)(ρ:Operand->Value)(S:St):Option (Value × St):=
 match o with
 | .mv x=>some (ρ x,S)
 | .pick c a b=>match ρ c with
  | .bool q=>some (if q then ρ a else ρ b,S)
  | _=>none
 | .box t x=>if E5 (ρ x).cells.toList then some (.pointer (some ⟨S.next,0,none⟩),S.alloc (.cells (ρ x).cells.toList t (ρ x).cells.size true [])) else none
 | .zero t z=>some (.pointer (some ⟨S.next,0,none⟩),S.alloc (.cells z.cells.toList t z.cells.size true []))
 | .load agg sz x=>match ρ x with
  | .pointer (some ⟨id,o,none⟩)=>(S.rd id o sz).bind λc=>(Hj agg c).map λv=>(v,S)
  | _=>none
 | .store sz a x=>match ρ a with
  | .pointer (some ⟨id,o,none⟩)=>match S.get id with
   | .cells c t z true an=>if (ρ x).cells.size=sz/\o+sz<=c.length/\E5 (ρ x).cells.toList=true then some (undef,S.write id (EO c o (ρ x).cells.toList) t z an) else none
   | _=>none
  | _=>none
 | .nilck x=>match ρ x with
  | .pointer (some ⟨id,o,none⟩)=>some (.pointer (some ⟨id,o,none⟩),S)
  | .func (.func f) a b=>some (.func (.func f) a b,S)
  | .iface t v=>some (.iface t v,S)
  | _=>none
 | .bin op x y=>(KE op (ρ x) (ρ y)).map λv=>(v,S)
 | .eqb neg x y=>match ρ x,ρ y with
  | .bool a,.bool b=>some (.bool (EU neg (a == b)),S)
  | _,_=>none
 | .eqf ks neg x y=>match ρ x,ρ y with
  | .agg a,.agg b=>(I7 ks a.toList b.toList).map λr=>(.bool (EU neg r),S)
  | _,_=>none
 | .eqp neg x y=>match ρ x,ρ y with
  | .pointer p,.pointer none=>some (.bool (EU neg p.isNone),S)
  | _,_=>none
 | .eqs neg x y=>match ρ x,ρ y with
  | .slice p _ _,.slice none _ _=>some (.bool (EU neg p.isNone),S)
  | _,_=>none
 | .un op x=>match op,ρ x with
  | .neg,.int k n=>some (.int k (k.wrap (0 - n)),S)
  | .not,.bool b=>some (.bool !b,S)
  | _,_=>none
 | .cvi k x=>match ρ x with
  | .int _ n=>some (.int k (k.wrap n),S)
  | _=>none
 | .EX x=>match ρ x with
  | .string s=>some (.string s,S)
  | _=>none
 | .mkIface t x=>some (.iface t (ρ x),S)
 | .mkFunc f a b=>some (.func (.func f) (a.map ρ) (b.map ρ),S)
 | .mkSlice e esz bytes z l c=>match ρ l,ρ c with
  | .int _ l,.int _ c=>if 0<=l/\l<=c/\bytes * c.toNat<=reach/\0 < bytes/\z.length=esz/\E5 z=true then
    some (.slice (some ⟨S.next,0,none⟩) l.toNat c.toNat,S.alloc (.cells (rep c.toNat z) e esz true [])) else none
  | _,_=>none
 | .sl esz x lo hi=>match ρ x with
  | .slice a n c=>match bound (lo.map ρ) 0,bound (hi.map ρ) n with
   | some l,some h=>if l<=h/\h<=c then
     H8 S esz l h c a else none
   | _,_=>none
  | _=>none
 | .slStr x lo hi=>match ρ x with
  | .string s=>match bound (lo.map ρ) 0,bound (hi.map ρ) s.size with
   | some l,some h=>if l<=h/\h<=s.size then some (.string (s.extract l h),S) else none
   | _,_=>none
  | _=>none
 | .fa off x=>match ρ x with
  | .pointer (some ⟨id,o,none⟩)=>some (.pointer (some ⟨id,o+off,none⟩),S)
  | _=>none
 | .fld agg sz off x=>match ρ x with
  | .agg a=>if off+sz<=a.size then (Hj agg ((a.toList.drop off).take sz)).map λv=>(v,S) else none
  | _=>none
 | .ia esz x i=>match ρ x,ρ i with
  | .slice (some ⟨id,o,none⟩) n _,.int _ i=>if 0<=i/\i < n then some (.pointer (some ⟨id,o+i.toNat * esz,none⟩),S) else none
  | _,_=>none
 | .iaArr n esz x i=>match ρ x,ρ i with
  | .pointer (some ⟨id,o,none⟩),.int _ i=>if 0<=i/\i < n then some (.pointer (some ⟨id,o+i.toNat * esz,none⟩),S) else none
  | _,_=>none
 | .idx n agg esz x i=>match ρ x,ρ i with
  | .agg a,.int _ i=>if 0<=i/\i < n/\i.toNat * esz+esz<=a.size then (Hj agg ((a.toList.drop (i.toNat * esz)).take esz)).map λv=>(v,S) else none
  | _,_=>none
 | .idxStr x i=>match ρ x,ρ i with
  | .string s,.int _ i=>if 0<=i then (s[i.toNat]?).map λb=>(.int .u8 b.toNat,S) else none
  | _,_=>none
 | .ext x i=>match ρ x with
  | .tuple a=>(a[i]?).map λv=>(v,S)
  | _=>none
 | .build z parts=>(Hk z (parts.map λp=>(p.1,p.2.1,ρ p.2.2))).map λl=>(.agg l.toArray,S)
 | .buildSlice e esz n z parts=>if z.length=esz then (Hk (rep n z) (parts.map λp=>(p.1,p.2.1,ρ p.2.2))).bind λl=>if E5 l then some (.slice (some ⟨S.next,0,none⟩) n n,S.alloc (.cells l e esz true [])) else none else none
 | .len x=>match ρ x with
  | .slice _ n _=>some (.int .i64 n,S)
  | _=>none
 | .lenStr x=>match ρ x with
  | .string s=>some (.int .i64 s.size,S)
  | _=>none
 | .append e esz bytes s x=>G2 e esz bytes (ρ s) (ρ x) S
 | .copy esz d s=>QC esz (ρ d) (ρ s) S
 | .clr esz z x=>XA esz z (ρ x) S
 | .minmax mx x l=>match ρ x with
  | .int k a=>(H0 mx a k (l.map ρ)).map λv=>(v,S)
  | _=>none
 | .call _ _=>none
 | .callv _ _=>none
 | .extra e l=>Ei e (l.map ρ) S
def FI:TypeDesc->Bool
 | .struct _=>true
 | .array _ _=>true
 | _=>false
def HS{l}:E5 l=true↔∀ v∈l,v.oneCell'=true:=by simp[E5]
def FY(P:Program)(B:Nat)(φ:Es)(S:St)(w:World)(s:Sem Value)(v:Value)(S':St):=
 ∃ φ' v' w',s.run P w=.ok v' w'/\Rel φ' v v'/\E0 B φ' S' w'/\E6 B φ S w φ' S' w'
section
variable {P:Program}{B:Nat}{φ:Es}{S:St}{w:World}
def FY.same{s v v'}(hs:E0 B φ S w)(h:s.run P w=.ok v' w)(hr:Rel φ v v'):FY P B φ S w s v S:=
 ⟨φ,v',w,h,hr,hs,E6.refl _ _ _ _⟩
def Ss(hs:E0 B φ S w){id o n s c}(e:φ id=some s)(h:S.rd id o n=some c) :
  c.length=n/\∃ c',FX φ c c'/\(∀ v∈c',v.oneCell'=true)/\(∀ v∈c,v.oneCell'=true)/\∀ j v,c'[j]? = some v->w.cell? ⟨s.b,s.base+o+j,none⟩=some v:=by
 unfold St.rd at h;cases hb:S.get _ with
 | gone=>rw[hb] at h;cases h
 | obj o=>rw[hb] at h;cases h
 | cells cc t z m an=>
  rw[hb] at h;simp only at h;split at h
  case isFalse=>cases h
  case isTrue hle=>
   obtain rfl:=Aa h;obtain⟨a1,a2,a3,cs,t',⟨fz,a4,-⟩,a5,a6⟩:=hs.IM _ s _ t z m _ e hb;have hsz:=dO
   have hl1:(List.take n (List.drop o cc)).length=n:=aa0
   have hl2:(List.take n (List.drop (s.base+o) cs.toList)).length=n:=aa0
   have hget:∀ i,i < n->∃ (h1:o+i < cc.length) (h2:s.base+o+i < cs.size),cc[o+i].oneCell'=true/\Rel φ cc[o+i] cs[s.base+o+i]:=by
    intro i hi;have h1:o+i < cc.length:=dO
    obtain⟨b1,v',b2,b3⟩:=a6 _ _ (Ah _);have h2:s.base+o+i < cs.size:=dO
    refine⟨h1,h2,b1,?_⟩;rw[show s.base+(o+i)=s.base+o+i by omega,Ax h2] at b2;rw[Aa b2];exact b3
   refine⟨hl1,_,⟨hl1.trans hl2.symm,λi h1 h2=>?_⟩,λv hv=>?_,λv hv=>?_,λj v hv=>?_⟩
   ·obtain⟨_,_,_,hr⟩:=hget i dO
    simpa using hr
   ·obtain⟨i,hi,rfl⟩:=AN hv
    obtain⟨_,_,h1,hr⟩:=hget i dO;rw[<- hr.V9] at h1;simpa using h1
   ·obtain⟨i,hi,rfl⟩:=AN hv
    obtain⟨_,_,h1,hr⟩:=hget i dO;simpa using h1
   ·have hj:j < n:=by have:=(Am.1 hv).1;omega
    simp only[BZ,hj,if_true] at hv;unfold World.cell?;simp only[a4];simpa using hv
def LR{id o v'}(h:Rel φ (.pointer (some ⟨id,o,none⟩)) v'):∃ s,φ id=some s/\v'=.pointer (some ⟨s.b,s.base+o,none⟩):=by
 cases h with
 | ptr _ _ s h=>grind
def P0(t d)(h:P.underlying t=some d):(isAgg t).run P w=.ok (FI d) w:=by
 cases d<;>simp[isAgg,run_underlying h,FI]
def Ga(t i)(h:P.info? t=some i):(sizeOf t).run P w=.ok i.size w:=by simp[sizeOf,typeInfo,h]
def Wc{l v}(h:one l=some v):l=[v]:=by
 match l,h with
 | [x],h=>rw[one] at h;grind
def K5(hs:E0 B φ S w){t d i}(hd:P.underlying t=some d)(hi:P.info? t=some i)
  {id o s c v} (e:φ id=some s)
  (hc:S.rd id o (if FI d then i.size else 1)=some c) (hv:Hj (FI d) c=some v):∃ v',(loadVar t ⟨s.b,s.base+o,none⟩).run P w=.ok v' w/\Rel φ v v':=by
 obtain⟨hl,c',hrel,_,_,hcell⟩:=Ss hs e hc;have hload:=run_loadCells_list (P:=P) w _ _ (λj v h=>by rw[Addr.add_lit];exact hcell j v h);have hl':=hrel.1.symm.trans hl;rw[hl'] at hload;have ha:=P0 (w:=w) t d hd;have hz:=Ga (w:=w) t i hi;by_cases hagg:FI d=true
 ·rw[if_pos hagg] at hload
  rw[hagg] at ha;unfold Hj at hv;rw[if_pos hagg] at hv;obtain rfl:=Aa hv;refine⟨.agg _,?_,.pS hrel.tc⟩;simp[loadVar,ha,hz,hload]
 ·rw[if_neg hagg] at hl'
  rw[Bq.2 hagg] at ha;unfold Hj at hv;rw[if_neg hagg] at hv;obtain rfl:=Wc hv;obtain⟨v',rfl⟩:∃ v',c'=[v']:=A5.1 hl';have h0:=hcell 0 _ rfl;refine⟨v',?_,hrel.2 0 iN iN⟩;simp[loadVar,ha,run_load]
  grind
def eW(hs:E0 B φ S w){t d i}(hd:P.underlying t=some d)(hi:P.info? t=some i)
  {id o x' c v} (hx:Rel φ (.pointer (some ⟨id,o,none⟩)) x')
  (hc:S.rd id o (if FI d then i.size else 1)=some c) (hv:Hj (FI d) c=some v):FY P B φ S w (Instr.loadAt t x') v S:=by
 obtain⟨s,e,rfl⟩:=LR hx;obtain⟨v',h1,h2⟩:=K5 (P:=P) hs hd hi e hc hv;refine FY.same hs (v':=v') ?_ h2;simp[Instr.loadAt,Instr.sureAddr,h1]
def K6(l o r)(h:o+r.length<=l.length):(EO l o r).length=l.length:=by
 unfold EO;grind
def Jc(l o r)(h:o+r.length<=l.length)(i):(EO l o r)[i]? = if o<=i/\i < o+r.length then r[i - o]? else l[i]?:=by
 unfold EO;by_cases h1:i < o
 ·grind
 grind
def Su(l o r){v}(h:v∈EO l o r):v∈l\/v∈r:=by
 unfold EO at h
 grind
def KT(hs:E0 B φ S w){id o s c t z an}(e:φ id=some s)(e2:S.get id=.cells c t z true an)
  {r r'} (hr:FX φ r r') (h1:E5 r=true) (hfit:o+r.length<=c.length) :
  ∃ w',(∀ i,i=0->(storeCells ⟨s.b,s.base+o,none⟩ r' i).run P w=.ok () w')/\E0 B φ (S.write id (EO c o r) t z an) w'/\E6 B φ S w φ (S.write id (EO c o r) t z an) w':=by
 obtain⟨a1,a2,a3,cs,t',a4,a5,a6⟩:=hs.IM _ s c t z _ _ e e2;have a4:=a4.Jz;have h1':∀ v∈r,v.oneCell'=true:=HS.1 h1;have h1r:∀ v∈r',v.oneCell'=true:=by
  intro v hv;obtain⟨i,hi,rfl⟩:=AN hv;have:=hr.2 i (by rw[hr.1];exact hi) hi;rw[this.V9];exact h1' _ (Ao _)
 have hlen:r.length=r'.length:=hr.1;have hst:=run_storeCells_at P _ (s.base+o) _ _ 0 _ w a4 dO h1r;refine⟨_,λi hi=>by subst hi;exact hst,?_⟩;refine hs.write e e2 _ _ _ a4 (K6 c o r hfit) ?_ (λv hv=>?_) (λi v hv=>?_)
 ·simp;omega
 ·rcases Su c o r hv with h | h
  ·obtain⟨i,hi,rfl⟩:=AN h
   exact (a6 i _ (Ah hi)).1
  ·exact h1' v h
 ·rw[Jc c o r hfit] at hv
  have hsp:(cs.toList.take (s.base+o+0)++r'++cs.toList.drop (s.base+o+0+r'.length))=EO cs.toList (s.base+o) r':=by unfold EO;simp
  rw[hsp];have hg:=Jc cs.toList (s.base+o) r' aa0 (s.base+i);rw[BX,hg];by_cases hi:o<=i/\i < o+r.length
  ·rw[if_pos hi] at hv
   rw[if_pos dO];have hlt:i - o < r.length:=dO
   rw[Ah hlt] at hv;obtain rfl:=Aa hv;refine⟨r'[i - o],?_,hr.2 (i - o) hlt dO⟩;rw[show s.base+i - (s.base+o)=i - o by omega,Ah]
  ·rw[if_neg hi] at hv
   rw[if_neg dO];obtain⟨b1,v',b2,b3⟩:=a6 i v hv;exact⟨v',by simpa using b2,b3⟩
def Yb(hs:E0 B φ S w){t i}(hi:P.info? t=some i){id o x' v v' c t2 z an}
  (hx:Rel φ (.pointer (some ⟨id,o,none⟩)) x') (hv:Rel φ v v') (e2:S.get id=.cells c t2 z true an) (h0:v.cells.size=i.size) (h2:o+i.size<=c.length) (h1:E5 v.cells.toList=true) :
  ∃ w',(Instr.storeAt t x' v').run P w=.ok () w'/\E0 B φ (S.write id (EO c o v.cells.toList) t2 z an) w'/\E6 B φ S w φ (S.write id (EO c o v.cells.toList) t2 z an) w':=by
 obtain⟨s,e,rfl⟩:=LR hx;have hc:=hv.cells;obtain⟨w',hst,k1,k2⟩:=KT (P:=P) hs e e2 (o:=o) hc.PB h1 IN;refine⟨w',?_,k1,k2⟩;have hz:=Ga (w:=w) t i hi;have h3:=hst 0 rfl;have hsz:=hc.1.symm.trans h0;simp[Instr.storeAt,Instr.sureAddr,storeVar,hz,hsz,h3]
def kR(hs:E0 B φ S w)(hB:B<=w.heap.size){t v v'}(hv:Rel φ v v')(h1:E5 v.cells.toList=true) :
  FY P B φ S w (Instr.box t v') (.pointer (some ⟨S.next,0,none⟩)) (S.alloc (.cells v.cells.toList t v.cells.size true [])):=by
 have hc:=hv.cells;obtain⟨k1,k2⟩:=hs.alloc hB _ v'.cells t t _ (HS.1 h1) (by simp[hc.1]) (λi u hu=>by
  have hi:=by simpa using (Am.1 hu).1
  have hi':i < v'.cells.size:=by rw[<- hc.1];omega
  refine⟨v'.cells[i],Ax _,?_⟩;have:=by simpa [hi] using hu.symm
  subst this;exact hc.2 i _ _) _
 refine⟨_,.pointer (some ⟨w.heap.size,0,none⟩),_,?_,?_,k1,k2⟩
 ·simp[Instr.box,newVar,newRow]
 ·have:=Rel.ptr (φ:=φ.add S.next ⟨w.heap.size,0,v'.cells.size,v.cells.size⟩) _ 0 _ (Es.add_same _ _ _)
  omega
end
section
variable {P:Program}{B:Nat}{φ:Es}{S:St}{w:World}
def Jd{id o n c v'}(h:Rel φ (.slice (some ⟨id,o,none⟩) n c) v') :
  ∃ s x c',φ id=some s/\v'=.slice (some ⟨s.b,x,none⟩) n c'/\n<=c'/\c<=c'/\n<=c/\((x=s.base+o/\o+c' * s.sz<=s.ext)\/(n=0/\c=0/\c'=0)):=by
 cases h with
 | slice _ _ _ _ c' s h hn hc he=>grind
 | sliceEnd _ _ x s h=>grind
def QG(hs:E0 B φ S w){esz x x' l}(hx:Rel φ x x')(h:S.elems esz x=some l) :
  ∃ a m c l',x'=.slice a m c/\MH x=some m/\FX φ l l'/\l.length=m * esz/\(∀ v∈l',v.oneCell'=true)/\(∀ v∈l,v.oneCell'=true)/\∀ W ,W.heap=w.heap->(Builtin.firstCells esz m x').run P W=.ok l'.toArray W:=by
 unfold St.elems at h;split at h
 ·cases hx
  obtain rfl:=Aa h;exact⟨none,0,0,[],rfl,rfl,FX.nil _,iN,iN,iN,λW _=>by simp[Builtin.firstCells]⟩
 ·rename_i id o n c
  obtain⟨s,x,c',e,rfl,hn,_,_,hor⟩:=Jd hx;obtain⟨hl,l',hrel,h1,h2,hcell⟩:=Ss hs e h;refine⟨_,n,c',l',rfl,rfl,hrel,hl,h1,h2,λW hW=>?_⟩;rcases hor with ⟨rfl,_⟩ | ⟨rfl,_,_⟩
  ·exact run_firstCells_some W _ n _ n _ _ (hrel.1.symm.trans hl) (λj v hv=>by rw[Addr.add_lit];unfold World.cell?; rw[hW];exact hcell j v hv)
  ·have:=Ak (by rw[<- hrel.1,hl];simp)
   subst this;simp[Builtin.firstCells,loadCells,loadCellsFrom]
 grind
def K7(t ty e:TypeId)(i:TypeInfo)(ht:P.underlying t=some (.slice e))(hi:P.info? e=some i)
  (b:Option Addr) (n c m:Nat) (x':Value) (a2:Option Addr) (c2:Nat) (hx:x'=.slice a2 m c2) (news:List Value) (hf:(Builtin.firstCells i.size m x').run P w=.ok news.toArray w) (hroom:n+m<=c)
  (w':World) (hst:(match b with | some a=>storeCells (a.add (n * i.size)) news | none=>pure ()).run P w=.ok () w') :
  (Builtin.append_ #[t,t] ty #[.slice b n c,x']).run P w=.ok (.slice b (n+m) c) w':=by
 subst hx;cases b with
 | none=>
  simp at hst;subst hst;simp[Builtin.append_,run_underlying ht,sizeOf,typeInfo,hi,Builtin.lenOf,hroom,hf]
 | some a=>
  simp only at hst;simp[Builtin.append_,run_underlying ht,sizeOf,typeInfo,hi,Builtin.lenOf,hroom,hf,hst]
def MO(t ty e i z)(ht:P.underlying t=some (.slice e))(hi:P.info? e=some i)(hz:i.zero=some z)
  (b) (n c m) (x') (a2) (c2) (hx:x'=.slice a2 m c2) (news olds:List Value) (hf:(Builtin.firstCells i.size m x').run P w.drew=.ok news.toArray w.drew)
  (ho:(Builtin.firstCells i.size n (.slice b n c)).run P w.drew=.ok olds.toArray w.drew) (hg:c < n+m) (hby:(n+m) * i.bytes<=reach) (h0:0 < i.bytes) :
  (Builtin.append_ #[t,t] ty #[.slice b n c,x']).run P w=.ok (.slice (some ⟨w.heap.size,0,none⟩) (n+m) (grownCap w (n+m) c e))
   (w.drew.alloc (.cells (olds.toArray++news.toArray++Builtin.zeroCells z.cells (grownCap w (n+m) c e - (n+m))) e)):=by
 subst hx;have hr:(n+m) * 1<=(n+m) * i.bytes:=Nat.mul_le_mul_left _ h0;unfold reach at hby;have hfit:=growslice_fits hg (by omega:(n+m) * i.bytes<=140737488355328);have hn:¬ (n+m<=c):=dO
 have h63':¬ (9223372036854775807 < (n+(m:Int))):=dO
 have h48':¬ (281474976710656 < Builtin.nextslicecap (n+m) c * i.bytes):=dO
 simp[Builtin.append_,run_underlying ht,sizeOf,typeInfo,zeroValue,hi,hz,Builtin.lenOf,hn,h63',h48',Question.forced,hf,ho,newRow,grownCap]
 congr 2
 apply BA;simp[AU]
def Wd(hs:E0 B φ S w)(hB:B<=w.heap.size){t e ty i z}(ht:P.underlying t=some (.slice e))(hi:P.info? e=some i)(hz:i.zero=some z)(hzs:z.cells.size=i.size)
  {s s' x x' v S'} (hsr:Rel φ s s') (hx:Rel φ x x') (h:G2 e i.size i.bytes s x S=some (v,S')) :
  FY P B φ S w (Builtin.append_ #[t,t] ty #[s',x']) v S':=by
 unfold G2 at h;split at h
 case h_2=>cases h
 rename_i news m hel hvl;obtain⟨a2,m',c2,news',hx',hvl',hrel,hnl,h1,h1a,hf⟩:=QG (P:=P) hs hx hel;rw[hvl] at hvl';obtain rfl:=Aa hvl';by_cases hm:m=0
 ·
  subst hm;rw[if_pos rfl] at h;split at h
  case h_2=>cases h
  rename_i a n c;obtain⟨rfl,rfl⟩:=Ai (Aa h);have hnil:news'=[]:=Ak (by rw[<- hrel.1,hnl];simp);subst hnil;obtain⟨a',c',rfl,hn⟩:∃ a' c',s'=.slice a' n c'/\n<=c':=by
   cases hsr with
   | sliceNil=>exact⟨none,0,rfl,Af _⟩
   | slice _ _ _ _ c' s h hn hc he=>exact⟨_,c',rfl,dO⟩
   | sliceEnd _ _ x s h=>exact⟨_,0,rfl,Af _⟩
  have hr:=K7 (P:=P) (w:=w) t ty e i ht hi a' n c' 0 x' a2 c2 hx' [] (hf w rfl) dO w (by cases a'<;>simp[storeCells]);exact FY.same hs hr hsr
 ·rw[if_neg hm] at h
  split at h
  case isFalse=>cases h
  rename_i hcond;simp only[Al,decide_eq_true_eq] at hcond;obtain⟨⟨hone,hsz⟩,hby0⟩:=hcond;split at h
  case h_3=>cases h
  case h_1=>
   split at h
   case isFalse=>cases h
   rename_i hby;obtain⟨rfl,rfl⟩:=Ai (Aa h);cases hsr;have hr:=MO (P:=P) (w:=w) t ty e i z ht hi hz none 0 0 m x' a2 c2 hx' news' [] (hf w.drew rfl) (by simp[Builtin.firstCells]) dO (by simpa using hby) hby0;have hcap:=grownCap_ge w (0+m) 0 e;obtain⟨k1,k2⟩:=hs.drew.alloc hB news (#[]++news'.toArray++Builtin.zeroCells z.cells (grownCap w (0+m) 0 e - (0+m))) e e i.size h1a (by simp[hrel.1]) (λj u hu=>by
    have hj:j < news.length:=(Am.1 hu).1;have hj':j < news'.length:=by rw[<- hrel.1];exact hj
    refine⟨news'[j],?_,?_⟩
    ·simp[DK,hj']
    ·have:=hrel.2 j hj hj'
     rw[Ah hj] at hu;rw[<- Aa hu];exact this) []
   refine⟨_,_,_,by simpa using hr,?_,k1,(E6.drew B φ S w).trans k2⟩;have hrr:=Rel.slice (φ:=φ.add S.next ⟨w.drew.heap.size,0,(#[]++news'.toArray++Builtin.zeroCells z.cells (grownCap w (0+m) 0 e - (0+m))).size,i.size⟩) S.next 0 m m (grownCap w m 0 e) _ (Es.add_same _ _ _) (Af _) (by simpa using hcap) ?_
   ·simpa using hrr
   have hl:news'.length=m * i.size:=by rw[<- hrel.1,hnl]
   simp only[A8] at hcap;have he:grownCap w m 0 e * i.size=m * i.size+(grownCap w m 0 e - m) * i.size:=by rw[<- Bd];congr 1;omega
   simp only[Dq,CZ,size_zeroCells,hzs,hl,A8];omega
  case h_2=>
   rename_i id o n c;split at h
   case h_2=>cases h
   rename_i cc t2 z2 an hget;obtain⟨sp,xo,c',hid,rfl,hn,hcc,hnc,hor⟩:=Jd hsr;obtain⟨d1,d2,d3,cs,t',d4,d5,d6⟩:=hs.IM id sp cc t2 z2 true an hid hget;have d4:=d4.Jz;split at h
   case isTrue hgrow=>
    obtain⟨rfl,rfl,hend⟩:=hgrow;split at h
    case isFalse=>cases h
    rename_i hby;obtain⟨rfl,rfl⟩:=Ai (Aa h);have holds:S.elems i.size (.slice (some ⟨id,o,none⟩) n n)=some (cc.drop o):=by
     simp only[St.elems,St.rd,hget];rw[if_pos dO,Aj aa0]
    obtain⟨_,_,_,olds',hso,hvo,hro,hol,h1o,h1oa,hfo⟩:=QG (P:=P) hs hsr holds;obtain⟨rfl,rfl,rfl⟩:=Value.slice.inj hso;have hlo:olds'.length=n * i.size:=by rw[<- hro.1,hol]
    have hln:news'.length=m * i.size:=by rw[<- hrel.1,hnl]
    have hall:∀ v∈cc.drop o++news,v.oneCell'=true:=by
     intro v hv;rcases Aw.1 hv with h | h
     ·exact h1oa v h
     ·exact h1a v h
    by_cases hroom:n+m<=c'
    ·
     have hpos:xo=sp.base+o/\o+c' * sp.sz<=sp.ext:=by
      rcases hor with h | ⟨h1,h2,h3⟩
      ·exact h
      ·omega
     obtain⟨rfl,hext⟩:=hpos;have hmul:(n+m) * i.size<=c' * i.size:=AL _ hroom;rw[d1] at hext;have hfit:cc.length+news.length<=sp.ext:=by rw[hnl,<- hend];rw[Bd] at hmul;omega
     have h1r:∀ v∈news',v.oneCell'=true:=h1;have hat:(⟨sp.b,sp.base+o,none⟩:Addr).add (n * i.size)=⟨sp.b,sp.base+cc.length,none⟩:=by rw[Addr.add_lit,<- hend,Bv]
     have hst:=run_storeCells_at P sp.b (sp.base+cc.length) t' news' 0 cs w d4 (by rw[<- hrel.1];omega) h1r;have hr:=K7 (P:=P) (w:=w) t ty e i ht hi (some ⟨sp.b,sp.base+o,none⟩) n c' m x' a2 c2 hx' news' (hf w rfl) hroom _ (by simp only[hat];exact hst);have hsp:(cs.toList.take (sp.base+cc.length+0)++news'++cs.toList.drop (sp.base+cc.length+0+news'.length))=EO cs.toList (sp.base+cc.length) news':=by unfold EO;simp
     rw[hsp] at hr;have hfit2:sp.base+cc.length+news'.length<=cs.toList.length:=by rw[<- hrel.1];simp;omega
     obtain⟨k1,k2⟩:=hs.zY (news:=news) o dO hid hget cs (EO cs.toList (sp.base+cc.length) news').toArray e t' d4 (by simp[K6 _ _ _ hfit2]) hfit h1a (λj hj=>by
      rw[BX,Jc _ _ _ hfit2,if_neg dO];simp) (λj u hu=>by
      have hj:j < news.length:=(Am.1 hu).1;have hj':j < news'.length:=by rw[<- hrel.1];exact hj
      refine⟨news'[j],?_,?_⟩
      ·rw[BX,Jc _ _ _ hfit2,if_pos dO,show sp.base+(cc.length+j) - (sp.base+cc.length)=j by omega,Ah hj']
      ·have:=hrel.2 j hj hj'
       rw[Ah hj] at hu;rw[<- Aa hu];exact this)
     refine⟨_,_,_,hr,?_,k1,k2⟩;have:=Rel.slice (φ:=φ.add S.next ⟨sp.b,sp.base+o,sp.ext - o,i.size⟩) S.next 0 (n+m) (n+m) c' _ (Es.add_same _ _ _) (Af _) hroom (by simp only;omega);simpa using this
    ·
     have hr:=MO (P:=P) (w:=w) t ty e i z ht hi hz (some ⟨sp.b,xo,none⟩) n c' m x' a2 c2 hx' news' olds' (hf w.drew rfl) (hfo w.drew rfl) dO hby hby0;have hcap:=grownCap_ge w (n+m) c' e;obtain⟨k1,k2⟩:=hs.drew.vx hB hget (cc.drop o++news) e e (olds'.toArray++news'.toArray++Builtin.zeroCells z.cells (grownCap w (n+m) c' e - (n+m))) hall (by simp[hlo,hln];rw[hnl];omega) (λj u hu=>by
      have hrr:=hro.append hrel;have hj:j < (cc.drop o++news).length:=(Am.1 hu).1;have hj':j < (olds'++news').length:=by rw[<- hrr.1];exact hj
      refine⟨(olds'++news')[j],?_,?_⟩
      ·have:olds'.toArray++news'.toArray++Builtin.zeroCells z.cells (grownCap w (n+m) c' e - (n+m))=(olds'++news'++(Builtin.zeroCells z.cells (grownCap w (n+m) c' e - (n+m))).toList).toArray:=by
        apply BA;simp
       rw[this,BX,CI hj',Ah hj']
      ·have:=hrr.2 j hj hj'
       rw[Ah hj] at hu;rw[<- Aa hu];exact this)
     refine⟨_,_,_,hr,?_,k1,(E6.drew B φ S w).trans k2⟩;refine (Rel.slice (φ:=φ.add S.next ⟨w.drew.heap.size,0,_,i.size⟩) S.next 0 (n+m) (n+m) (grownCap w (n+m) c' e) _ (Es.add_same _ _ _) (Af _) dO ?_);simp only[Dq,CZ,size_zeroCells,hzs,hlo,hln,A8,<- Bd];refine Di ?_
     congr 1
     omega
   case isFalse hgrow=>
    split at h
    case isFalse=>cases h
    rename_i hin;obtain⟨rfl,hroom,hfit⟩:=hin;obtain⟨rfl,rfl⟩:=Ai (Aa h);have hpos:xo=sp.base+o/\o+c' * sp.sz<=sp.ext:=by
     rcases hor with h | ⟨h1,h2,h3⟩
     ·exact h
     ·omega
    obtain⟨rfl,hext⟩:=hpos;obtain⟨w',hst,k1,k2⟩:=KT (P:=P) hs hid hget (o:=o+n * i.size) hrel hone (by rw[hnl];rw[Bd] at hfit;omega);have hat:(⟨sp.b,sp.base+o,none⟩:Addr).add (n * i.size)=⟨sp.b,sp.base+(o+n * i.size),none⟩:=by rw[Addr.add_lit,Bv]
    have hr:=K7 (P:=P) (w:=w) t ty e i ht hi (some ⟨sp.b,sp.base+o,none⟩) n c' m x' a2 c2 hx' news' (hf w rfl) dO w' (by simp only[hat];exact hst 0 rfl);exact⟨φ,_,w',hr,.slice id o (n+m) c c' sp hid hroom hcc hext,k1,k2⟩
end
section
variable {P:Program}{B:Nat}{φ:Es}{S:St}{w:World}
def vy{id o n k l}(h:S.rd id o n=some l)(hk:k<=n):S.rd id o k=some (l.take k):=by
 unfold St.rd at *;split at h
 ·grind
 grind
def Yc(hs:E0 B φ S w){esz x x' l m}(hx:Rel φ x x')(h:S.elems esz x=some l)(hm:MH x=some m)(k)(hk:k<=m) :
  ∃ a c l',x'=.slice a m c/\FX φ (l.take (k * esz)) l'/\(l.take (k * esz)).length=k * esz/\(Builtin.firstCells esz k x').run P w=.ok l'.toArray w:=by
 unfold St.elems at h;split at h
 ·cases hx
  obtain rfl:0=m:=Aa hm;obtain rfl:k=0:=dO
  exact⟨none,0,[],rfl,by simpa using FX.nil _,iN,by simp[Builtin.firstCells]⟩
 ·rename_i id o n c
  obtain rfl:n=m:=Aa hm;obtain⟨s,x,c',e,rfl,hn,_,_,hor⟩:=Jd hx;obtain⟨hl,l',hrel,h1,h2,hcell⟩:=Ss hs e (vy h (AL _ hk));refine⟨_,c',l',rfl,hrel,hl,?_⟩;rcases hor with ⟨rfl,_⟩ | ⟨rfl,_,_⟩
  ·exact run_firstCells_some w _ k _ n _ _ (hrel.1.symm.trans hl) (λj v hv=>by rw[Addr.add_lit];grind)
  ·obtain rfl:k=0:=dO
   have:=Ak (by rw[<- hrel.1,hl];simp);subst this;simp[Builtin.firstCells,loadCells,loadCellsFrom]
 grind
def O2(dT sT ty e i)(ht:P.underlying dT=some (.slice e))(hi:P.info? e=some i)(b n c m a2 c2)(cells:List _)
  (hf:(Builtin.firstCells i.size (min m n) (.slice a2 m c2)).run P w=.ok cells.toArray w) (w') (hst:(match b with | some a=>storeCells a cells | none=>pure ()).run P w=.ok () w') :
  (Builtin.copy_ #[dT,sT] ty #[.slice b n c,.slice a2 m c2]).run P w=.ok (.int .i64 (min m n:Nat)) w':=by
 cases b with
 | none=>
  simp at hst;subst hst;simp[Builtin.copy_,run_underlying ht,sizeOf,typeInfo,hi,Builtin.lenOf,hf,goInt]
 | some a=>
  simp[Builtin.copy_,run_underlying ht,sizeOf,typeInfo,hi,Builtin.lenOf,hf,hst,goInt]
def eX(hs:E0 B φ S w){dT sT ty e i}(ht:P.underlying dT=some (.slice e))(hi:P.info? e=some i)
  {d d' x x' v S'} (hd:Rel φ d d') (hx:Rel φ x x') (h:QC i.size d x S=some (v,S')) :
  FY P B φ S w (Builtin.copy_ #[dT,sT] ty #[d',x']) v S':=by
 unfold QC at h;split at h
 case h_2=>cases h
 rename_i a n c m src hm hsrc;obtain⟨a2,c2,l',rfl,hrel,hlen,hf⟩:=Yc (P:=P) hs hx hsrc hm _ (BY _ _);by_cases h0:min m n=0
 ·rw[if_pos h0] at h
  obtain⟨rfl,rfl⟩:=Ai (Aa h);have hnil:l'=[]:=Ak (by rw[<- hrel.1,hlen,h0];simp);subst hnil;obtain⟨a',c',rfl⟩:∃ a' c',d'=.slice a' n c':=by
   cases hd with
   | sliceNil=>exact⟨none,0,rfl⟩
   | slice _ _ _ _ c' s h hn hc he=>exact⟨_,c',rfl⟩
   | sliceEnd _ _ x s h=>exact⟨_,0,rfl⟩
  have hr:=O2 _ sT ty e i ht hi a' n c' m _ _ _ hf w (by cases a'<;>simp[storeCells]);rw[h0] at hr;exact FY.same hs hr (.int _ _)
 ·rw[if_neg h0] at h
  split at h
  case h_2=>cases h
  rename_i id o;split at h
  case h_2=>cases h
  rename_i cc t z an hget;split at h
  case isFalse=>cases h
  rename_i hfit;obtain⟨hfit,hone⟩:=hfit;obtain⟨rfl,rfl⟩:=Ai (Aa h);obtain⟨sp,xo,c',hid,rfl,hn,hcc,hnc,hor⟩:=Jd hd;have hpos:xo=sp.base+o:=by
   rcases hor with h | ⟨h1,h2,h3⟩
   ·exact h.1
   ·omega
  subst hpos;obtain⟨w',hst,k1,k2⟩:=KT (P:=P) hs hid hget (o:=o) hrel (HS.2 λv hv=>HS.1 hone v (Bm hv)) (by rw[hlen];exact hfit);have hr:=O2 _ sT ty e i ht hi (some ⟨sp.b,sp.base+o,none⟩) n c' m _ _ _ hf _ (hst 0 rfl);exact⟨φ,_,w',hr,.int _ _,k1,k2⟩
def LS(n z):(rep n z).length=n * z.length:=by simp[rep]
def vz(n z):∀ i,i < n * z.length->(rep n z)[i]? = z[i % z.length]?:=by
 induction n with
 | zero=>omega
 | succ n ih=>
  intro i hi;have e:rep (n+1) z=z++rep n z:=by simp[rep,BL]
  rw[e];by_cases h:i < z.length
  ·rw[CI h,Nat.mod_eq_of_lt h]
  ·rw[Dg dO,ih _ IN,<- Nat.mod_eq_sub_mod dO]
def NQ(z n):(Builtin.zeroCells z n).toList=rep n z.toList:=by
 apply CA;intro i;by_cases hi:i < n * z.size
 ·have hz:0 < z.size:=by
   grind
  rw[vz n _ i dO];have hm:i % z.size < z.size:=Nat.mod_lt _ hz;simp[Builtin.zeroCells,hi,hm]
 ·rw[AO (by rw[Ca,size_zeroCells];omega),AO (by rw[LS];grind)]
def NR(z n):(madeCells z (n * z.size)).toList=rep n z.toList:=by
 rw[<- NQ];rfl
def GN:Value->Bool
 | .bool _=>true
 | .int _ _=>true
 | .string _=>true
 | .pointer none=>true
 | .slice none 0 0=>true
 | .nilFunc=>true
 | .nilIface=>true
 | .map none=>true
 | _=>false
def H4{v}(h:GN v=true)(φ):Rel φ v v:=by
 unfold GN at h;split at h<;>first | constructor | cases h
def P1{v}(h:GN v=true):v.oneCell'=true:=by
 unfold GN at h;split at h<;>first | rfl | cases h
def EC(l:List Value):=l.all GN
def Nh{l}(h:EC l=true)(φ):FX φ l l:=⟨rfl,λi h1 h2=>H4 (by simp[EC] at h;grind) _⟩
def Ll{l}(h:EC l=true):E5 l=true:=HS.2 λv hv=>P1 (by simp[EC] at h;grind)
def Je{l}(h:EC l=true)(n):EC (rep n l)=true:=by
 simp only[EC,At] at *;intro v hv;simp only[rep,List.mem_flatten,CV] at hv
 grind
def FB:Value->Bool
 | .agg a=>EC a.toList
 | .tuple a=>EC a.toList
 | v=>GN v
def HE{v}(h:FB v=true)(φ):Rel φ v v:=by
 unfold FB at h;split at h
 ·have:=(Nh h φ).tc
  exact .pS this
 ·have:=(Nh h φ).tc
  exact .tuple' this
 ·exact H4 h _
def kS(hs:E0 B φ S w){t e ty i z}(ht:P.underlying t=some (.slice e))(hi:P.info? e=some i)(hz:i.zero=some z)(hzf:EC z.cells.toList=true)
  {x x' v S'} (hx:Rel φ x x') (h:XA i.size z.cells.toList x S=some (v,S')) :
  FY P B φ S w (Builtin.clear_ #[t] ty #[x']) v S':=by
 unfold XA at h;split at h
 case h_3=>cases h
 case h_1=>
  obtain⟨rfl,rfl⟩:=Ai (Aa h);cases hx;refine FY.same hs (v':=.tuple #[]) ?_ (Rel.undef φ);simp[Builtin.clear_,run_underlying ht]
 case h_2=>
  rename_i id o n c;obtain⟨sp,xo,c',hid,rfl,hn,hcc,hnc,hor⟩:=Jd hx;split at h
  ·rename_i h0
   subst h0;obtain⟨rfl,rfl⟩:=Ai (Aa h);refine FY.same hs (v':=.tuple #[]) ?_ (Rel.undef φ);simp[Builtin.clear_,run_underlying ht]
  ·rename_i h0
   split at h
   case h_2=>cases h
   rename_i cc t2 zz an hget;split at h
   case isFalse=>cases h
   rename_i hfit;obtain⟨hzl,hfit,hone⟩:=hfit;obtain⟨rfl,rfl⟩:=Ai (Aa h);have hpos:xo=sp.base+o:=by
    rcases hor with h | ⟨h1,h2,h3⟩
    ·exact h.1
    ·omega
   subst hpos;have hrf:=Je hzf n;obtain⟨w',hst,k1,k2⟩:=KT (P:=P) hs hid hget (o:=o) (Nh hrf φ) (Ll hrf) (by rw[LS,hzl];exact hfit);refine⟨φ,.tuple _,w',?_,Rel.undef _,k1,k2⟩;have h3:=hst 0 rfl;have hzc:=NQ z.cells n;cases n with
   | zero=>omega
   | succ n=>simp[Builtin.clear_,run_underlying ht,zeroValue,typeInfo,hi,hz,hzc,h3]
def TZ(hs:E0 B φ S w)(hB:B<=w.heap.size){t e i z}(ht:P.underlying t=some (.slice e))(hi:P.info? e=some i)(hz:i.zero=some z)(hzs:z.cells.size=i.size)(hzf:EC z.cells.toList=true)
  (kl kc) (l c) (h0:0<=l) (hlc:l<=c) (hby:i.bytes * c.toNat<=reach) (hb0:0 < i.bytes) :
  FY P B φ S w (Instr.makeSlice t (.int kl l) (.int kc c)) (.slice (some ⟨S.next,0,none⟩) l.toNat c.toNat) (S.alloc (.cells (rep c.toNat z.cells.toList) e i.size true [])):=by
 unfold reach at hby;have hcb:1 * c.toNat<=i.bytes * c.toNat:=AL _ hb0;have hb':(i.bytes) * c<=281474976710656:=by
  have:((i.bytes * c.toNat:Nat):Int)=(i.bytes) * c:=by rw[Int.natCast_mul,Ct dO]
  omega
 have hr:=run_make (P:=P) w t e i z ht hi hz kl kc l c h0 hlc hb' dO;have hcells:(madeCells z.cells (c.toNat * i.size)).toList=rep c.toNat z.cells.toList:=by rw[<- hzs];exact NR _ _
 have hrf:=Je hzf c.toNat;have hsize:(madeCells z.cells _).size=c.toNat * i.size:=size_madeCells _ _;obtain⟨k1,k2⟩:=hs.alloc hB _ _ e e _ (HS.1 (Ll hrf)) (by rw[hsize,LS];simp[hzs]) (λj v hv=>⟨v,by rw[<- BW,hcells];exact hv,H4 (by simp[EC] at hrf;exact hrf v (AF hv)) _⟩) _;refine⟨_,_,_,hr,?_,k1,k2⟩;have:=Rel.slice (φ:=φ.add S.next ⟨w.heap.size,0,(madeCells z.cells (c.toNat * i.size)).size,i.size⟩) _ 0 l.toNat _ c.toNat _ (Es.add_same _ _ _) dO (Af _) (by simp only;omega);simpa using this
def kT(off):∀ v k cs,off+k+v.length<=cs.size->
  (v.zipIdx k).foldl (λcs p=>cs.setIfInBounds (off+p.2) p.1) cs=(EO cs.toList (off+k) v).toArray:=by
 intro v
 induction v with
 | nil=>simp[EO]
 | cons a v ih=>
  intro k cs h;simp only[List.zipIdx_cons,Bg];rw[ih _ _ IN];apply BA;apply CA;intro j;simp only[Ag] at h;rw[Jc _ _ _ IN,Jc _ _ _ dO]
  grind
def fill_eq(place):∀ parts ps cs l,
  parts.length=ps.length->(∀ i h (h':i < ps.length),place parts[i].1=some (ps[i].1,ps[i].2.1)/\parts[i].2=ps[i].2.2)->
  Hk cs.toList ps=some l->Instr.fill place cs parts=some l.toArray:=by
 intro parts
 induction parts with
 | nil=>
  intro ps cs l hl _ h;obtain rfl:ps=[]:=Ak hl.symm;simp only[Hk,AE] at h;subst h;simp[Instr.fill]
 | cons p parts ih=>
  intro ps cs l hl hp h;cases ps with
  | nil=>grind
  | cons q ps=>
   obtain⟨j,v⟩:=p;obtain⟨off,sz,u⟩:=q;have h0:=hp 0 iN iN;simp only[BB] at h0;obtain⟨h01,rfl⟩:=h0;simp only[Hk] at h;split at h
   case isFalse=>cases h
   rename_i hc;obtain⟨hc1,hc2⟩:=hc;have hfold:v.cells.zipIdx.foldl (λcs p=>cs.setIfInBounds (off+p.2) p.1) cs=(EO cs.toList off v.cells.toList).toArray:=by
    have:=kT off v.cells.toList 0 cs IN;rw[<- Dj,Array.toList_zipIdx];omega
   have hih:=ih _ (EO _ _ _).toArray l (by simpa using hl) (λi h1 h2=>by
    have:=hp (i+1) IN IN
    grind) dO
   rw[Instr.fill,h01]
   grind
def eY{l l' r r'}(hl:FX φ l l')(hr:FX φ r r')(o):FX φ (EO l o r) (EO l' o r'):=by
 unfold EO;rw[hr.1];exact ((hl.take o).append hr).append (hl.drop _)
def kU:∀ ps ps' z z' l,FX φ z z'->ps.length=ps'.length->
  (∀ i h (h':i < ps'.length),ps'[i].1=ps[i].1/\ps'[i].2.1=ps[i].2.1/\Rel φ ps[i].2.2 ps'[i].2.2)->Hk z ps=some l->∃ l',Hk z' ps'=some l'/\FX φ l l':=by
 intro ps
 induction ps with
 | nil=>
  intro ps' z z' l hz hl _ h;obtain rfl:ps'=[]:=Ak hl.symm;simp only[Hk,AE] at h;subst h;exact⟨z',rfl,hz⟩
 | cons p ps ih=>
  intro ps' z z' l hz hl hp h;cases ps' with
  | nil=>grind
  | cons q ps'=>
   obtain⟨off,sz,v⟩:=p;have h0:=hp 0 iN iN;obtain⟨rfl,rfl,hv⟩:=h0;simp only[Hk] at h |-;split at h
   case isFalse=>cases h
   rename_i hc;rw[if_pos ⟨hv.cells.1.symm.trans hc.1,by rw[<- hz.1];grind⟩];exact ih _ _ _ l (eY hz hv.cells.PB _) IN (λi h1 h2=>by
    have:=hp (i+1) IN IN
    grind) h
end
def K8(g:TypeId->Option (List Nat))(sz:TypeId->Option Nat):List Field->Nat->Option (List Nat)
 | [],_=>some []
 | f::r,off=>if f.name≠ "_" /\f.offset=off then (g f.type).bind λk=>if sz f.type=some k.length then (K8 g sz r (off+k.length)).map λl=>k++l else none else none
def O3(P:Program):Nat->TypeId->Option (List Nat)
 | 0,_=>none
 | d+1,t=>match P.underlying t with
  | some .bool=>some [0]
  | some (.int _)=>some [1]
  | some .string=>some [2]
  | some (.struct fs)=>if P.stoodInHeld t then none else K8 (O3 P d) (λt=>(P.info? t).map (·.size)) fs.toList 0
  | some (.array n e)=>(O3 P d e).bind λk=>if (P.info? e).map (·.size)=some k.length then some (List.replicate n k).flatten else none
  | _=>none
def Fo(agg:Bool)(l:List Value):=if agg then .agg l.toArray else l.headD undef
def GO:∀ {ks} {a b} {r},I7 ks a b=some r->a.length=ks.length/\b.length=ks.length
 | [],[],[],_,_=>⟨rfl,rfl⟩
 | [],[],_::_,_,h=>by simp[I7] at h
 | [],_::_,_,_,h=>by simp[I7] at h
 | _::_,[],_,_,h=>by simp[I7] at h
 | _::_,_::_,[],_,h=>by simp[I7] at h
 | k::ks,x::a,y::b,r,h=>by
  simp only[I7,Ae,Ab] at h;obtain⟨_,_,q,hq,_⟩:=h;have:=GO hq
  grind
def Ni:∀ k1 {k2} {a b} {r},I7 (k1++k2) a b=some r->
  ∃ r1 r2,I7 k1 (a.take k1.length) (b.take k1.length)=some r1/\I7 k2 (a.drop k1.length) (b.drop k1.length)=some r2/\r=(r1 && r2)
 | [],k2,a,b,r,h=>⟨true,r,by simp[I7],IN,iN⟩
 | k::k1,k2,[],b,r,h=>by simp[I7] at h
 | k::k1,k2,x::a,[],r,h=>by simp[I7] at h
 | k::k1,k2,x::a,y::b,r,h=>by
  simp only[Cv,I7,Ae,Ab] at h;obtain⟨r0,h0,q,hq,rfl⟩:=h;obtain⟨r1,r2,h1,h2,rfl⟩:=Ni _ hq;refine⟨r0 && r1,r2,?_,IN,IN⟩;simp[I7,h0,h1]
section
variable {P:Program}{w:World}
def Km(t d i)(hd:P.underlying t=some d)(hi:P.info? t=some i)(cs off k)(hk:k=if FI d then i.size else 1)(h:off+k<=cs.size) :
  (part t cs off).run P w=.ok (Fo (FI d) ((cs.toList.drop off).take k)) w:=by
 have ha:=P0 (w:=w) t d hd;have hz:=Ga (w:=w) t i hi;by_cases hagg:FI d=true
 ·subst hk
  simp[part,ha,hz,Fo,hagg]
  grind
 ·rw[if_neg hagg] at hk
  subst hk;have hlt:off < cs.size:=dO
  simp[part,ha,Fo,hagg,hlt];rw[A3 dO];simp
def We(D g)(hg:∀ t k,g t=some k->(P.info? t).map (·.size)=some k.length->∀ a b r,I7 k a b=some r->∃ dsc,P.underlying t=some dsc/\(FI dsc=false->k.length=1)/\(Op.equalIn D t (Fo (FI dsc) a) (Fo (FI dsc) b)).run P w=.ok r w) :
  ∀ fs off ks,K8 g (λt=>(P.info? t).map (·.size)) fs off=some ks->∀ xs ys r,off<=xs.size->I7 ks (xs.toList.drop off) (ys.toList.drop off)=some r->off<=ys.size->
   (Op.eqFields D xs ys fs).run P w=.ok r w:=by
 intro fs
 induction fs with
 | nil=>
  intro off ks h xs ys r _ he _;obtain rfl:[]=ks:=Aa h;obtain⟨h1,h2⟩:=GO he;have e1:xs.toList.drop _=[]:=Ak h1;have e2:ys.toList.drop _=[]:=Ak h2;rw[e1,e2] at he;simp only[I7,AE] at he;subst he;simp[Op.eqFields]
 | cons f fs ih=>
  intro off ks h xs ys r hox he hoy;simp only[K8] at h;split at h
  case isFalse=>cases h
  rename_i hc;obtain⟨hname,rfl⟩:=hc;simp only[Ae] at h;obtain⟨k,hk,h⟩:=h;split at h
  case isFalse=>cases h
  rename_i hsz;simp only[Ab] at h;obtain⟨l,hl,rfl⟩:=h;obtain⟨hxl,hyl⟩:=GO he;simp only[AI,Ca,Ad] at hxl hyl;obtain⟨r1,r2,he1,he2,rfl⟩:=Ni k he;obtain⟨dsc,hd,h1,hrun⟩:=hg _ k hk hsz _ _ _ he1;obtain⟨i,hi,hisz⟩:=Ab.1 hsz;have hkk:k.length=if FI dsc then i.size else 1:=by
   split
   ·exact hisz.symm
   ·rename_i hn;exact h1 (Bq.2 hn)
  have hp1:=Km (w:=w) _ _ i hd hi xs f.offset _ hkk dO;have hp2:=Km (w:=w) _ _ i hd hi ys f.offset _ hkk dO;rw[Op.eqFields,if_pos hname];simp only[Sem.run_bind,hp1,hp2,hrun,Result.andThen_ok];cases r1 with
  | false=>simp
  | true=>
   simp only[DU,AW,if_false,CC];refine ih _ l hl _ _ _ dO ?_ dO;simpa [BV] using he2
def KU(D:Nat)(e:TypeId)(n:Nat)(xs ys:Array Value):List Nat->Sem Bool
 | []=>pure true
 | j::js=>do
  let a <- part e xs (j * n)
  let b <- part e ys (j * n)
  let r <- Op.equalIn D e a b
  if (!r)=true then pure false else KU D e n xs ys js
def O4(d t n e i xs ys)(ht:P.underlying t=some (.array n e))(hi:P.info? e=some i) :
  (Op.equalIn (d+1) t (.agg xs) (.agg ys)).run P w=(KU d e i.size xs ys (List.range' 0 n)).run P w:=by
 have hz:=Ga (w:=w) e i hi;simp only[Op.equalIn,Sem.run_bind,run_underlying ht,Result.andThen_ok,hz];rw[Std.Legacy.Range.forIn_eq_forIn_range'];simp only[Std.Legacy.Range.size,DW,Nat.add_sub_cancel,Nat.div_one];generalize List.range' 0 n=js;clear hz
 induction js generalizing w with
 | nil=>simp[KU]
 | cons j js ih=>
  simp only[List.forIn_cons,KU,Sem.run_bind,Sem.run_ite];generalize (part e _ _).run P w=r1;cases r1 with
  | ok a w1=>
   simp only[Result.andThen_ok];generalize (part e _ _).run P _=r2;cases r2 with
   | ok b w2=>
    simp only[Result.andThen_ok];generalize (Op.equalIn d e a b).run P _=r3;cases r3 with
    | ok r w3=>
     cases r
     ·simp only[Result.andThen_ok,Bool.not_false,if_true,Sem.run_pure]
     ·simp only[Result.andThen_ok,DU,AW,if_false,Sem.run_pure]
      exact ih
    | halt x w3=>simp[Result.andThen]
   | halt x w2=>simp[Result.andThen]
  | halt x w1=>simp[Result.andThen]
def Yd(D e i)(hi:P.info? e=some i)(xs ys k)(hk:i.size=k.length)(de)(hde:P.underlying e=some de)(h1:FI de=false->k.length=1)
  (hrun:∀ a b r,I7 k a b=some r->(Op.equalIn D e (Fo (FI de) a) (Fo (FI de) b)).run P w=.ok r w) :
  ∀ m j r,j * k.length<=xs.size->j * k.length<=ys.size->I7 (List.replicate m k).flatten (xs.toList.drop (j * k.length)) (ys.toList.drop (j * k.length))=some r->(KU D e i.size xs ys (List.range' j m)).run P w=.ok r w:=by
 have hkk:k.length=if FI de then i.size else 1:=by
  split
  ·exact hk.symm
  ·rename_i hn;exact h1 (Bq.2 hn)
 intro m
 induction m with
 | zero=>
  intro j r _ _ h;obtain⟨h1,h2⟩:=GO h;have e1:xs.toList.drop _=[]:=Ak ac0;have e2:ys.toList.drop _=[]:=Ak ad0;rw[e1,e2] at h;simp[I7] at h;subst h;simp[KU]
 | succ m ih=>
  intro j r hx hy h;rw[BL,Dr] at h;obtain⟨hxl,hyl⟩:=GO h;simp only[AI,Ca,Ad] at hxl hyl;obtain⟨r1,r2,he1,he2,rfl⟩:=Ni k h;have hp1:=Km (w:=w) e _ i hde hi xs (j * k.length) _ hkk dO;have hp2:=Km (w:=w) e _ i hde hi ys (j * k.length) _ hkk dO;rw[List.range'_succ,KU];rw[<- hk] at hp1 hp2;rw[<- hk] at he1;simp only[Sem.run_bind,hp1,hp2,hrun _ _ _ he1,Result.andThen_ok];cases r1 with
  | false=>simp
  | true=>
   refine ih _ _ (by rw[Bd];omega) (by rw[Bd];omega) ?_;rw[Bd,CY];simpa [BV] using he2
def jh:∀ d t ks,O3 P d t=some ks->∀ D,d<=D->∀ a b r,I7 ks a b=some r->
  ∃ dsc,P.underlying t=some dsc/\(FI dsc=false->ks.length=1)/\(Op.equalIn D t (Fo (FI dsc) a) (Fo (FI dsc) b)).run P w=.ok r w:=by
 intro d
 induction d with
 | zero=>intro t ks h;cases h
 | succ d ih=>
  intro t ks h D hD a b r he;obtain⟨D,rfl⟩:∃ D',D=D'+1:=⟨D - 1,dO⟩
  rw[O3] at h;split at h
  ·rename_i hu
   obtain rfl:=Aa h;refine⟨_,hu,λ_=>rfl,?_⟩;obtain⟨hl1,hl2⟩:=GO he;obtain⟨x,rfl⟩:=A5.1 hl1;obtain⟨y,rfl⟩:=A5.1 hl2;simp only[I7,Ae,AH,AE] at he;obtain⟨q,hq,rfl⟩:=he;unfold X9 at hq;split at hq<;>simp at *
   subst hq;simpa [Fo,FI] using run_equalIn_bool' w D t _ _ hu
  ·rename_i k0 hu
   obtain rfl:=Aa h;refine⟨_,hu,λ_=>rfl,?_⟩;obtain⟨hl1,hl2⟩:=GO he;obtain⟨x,rfl⟩:=A5.1 hl1;obtain⟨y,rfl⟩:=A5.1 hl2;simp only[I7,Ae,AH,AE] at he;obtain⟨q,hq,rfl⟩:=he;unfold X9 at hq;split at hq<;>simp at *
   obtain⟨rfl,rfl⟩:=hq;simpa [Fo,FI] using run_equalIn_int w D t _ _ _ _ hu
  ·rename_i hu
   obtain rfl:=Aa h;refine⟨_,hu,λ_=>rfl,?_⟩;obtain⟨hl1,hl2⟩:=GO he;obtain⟨x,rfl⟩:=A5.1 hl1;obtain⟨y,rfl⟩:=A5.1 hl2;simp only[I7,Ae,AH,AE] at he;obtain⟨q,hq,rfl⟩:=he;unfold X9 at hq;split at hq<;>simp at *
   subst hq;simpa [Fo,FI] using run_equalIn_string w D t _ _ hu
  ·rename_i fs hu
   split at h
   ·cases h
   rename_i hst;refine⟨_,hu,(λx=>by cases x),?_⟩;have hfo:P.fieldsOf t=fs:=by simp[Program.fieldsOf,hu]
   have hs:=run_equalIn_struct w D t a.toArray b.toArray (by rw[hfo];exact hu) (by simpa using hst);simp only[Fo,FI,if_true];rw[hs,hfo];exact We D (O3 P d) (λt k hk _ a b r he=>ih t k hk D dO a b r he) fs.toList 0 ks h a.toArray b.toArray r (AM _) (by simpa using he) (AM _)
  ·rename_i n e hu
   simp only[Ae] at h;obtain⟨k,hk,h⟩:=h;split at h
   case isFalse=>cases h
   rename_i hsz;obtain rfl:=Aa h;refine⟨_,hu,(λx=>by cases x),?_⟩;obtain⟨i,hi,hisz⟩:=Ab.1 hsz;simp only[Fo,FI,if_true];rw[O4 D t n e i _ _ hu hi];cases n with
   | zero=>
    simp only[List.replicate_zero,List.flatten_nil] at he;obtain⟨h1,h2⟩:=GO he;obtain rfl:a=[]:=Ak ac0;obtain rfl:b=[]:=Ak ad0;simp[I7] at he;subst he;simp[KU]
   | succ n=>
    have he0:=he;rw[BL,Dr] at he0;obtain⟨r1,_,h1,_,_⟩:=Ni k he0;obtain⟨de,hde,hone,_⟩:=ih e k hk D dO _ _ _ h1;refine Yd D e i hi a.toArray b.toArray k hisz de hde hone (λa b r hab=>?_) (n+1) 0 r iN iN (by simpa using he);obtain⟨de',hde',_,hrun⟩:=ih e k hk D dO a b r hab;rw[hde] at hde';obtain rfl:=Aa hde';exact hrun
  ·cases h
end
def Lm(P:Program)(t:TypeId)(f:Nat):Option (Nat × Bool × Nat):=
 match P.underlying t with
 | some (.struct fs)=>match fs[f]? with
  | some fd=>match P.underlying fd.type,P.info? fd.type with
   | some d,some i=>if i.size≠0 then some (fd.offset,FI d,if FI d then i.size else 1) else none
   | _,_=>none
  | none=>none
 | _=>none
def MP(P:Program)(t:TypeId):Option (TypeId × TypeInfo × Value):=
 match P.underlying t with
 | some (.slice e)=>match P.info? e with
  | some i=>match i.zero with
   | some z=>if z.cells.size=i.size/\EC z.cells.toList=true then some (e,i,z) else none
   | none=>none
  | none=>none
 | _=>none
def Wf(P:Program)(t:TypeId)(parts:List (Nat × Operand)):Option (List (Nat × Nat × Operand)):=
 match P.underlying t with
 | some (.struct fs)=>(fs.toList.mapM λf=>(P.info? f.type).map λi=>(f.offset,i.size)).bind λzs=>parts.mapM λp=>(zs[p.1]?).map λq=>(q.1,q.2,p.2)
 | some (.array _ e)=>(P.info? e).map λi=>parts.map λp=>(p.1 * i.size,i.size,p.2)
 | _=>none
def Ye(P:Program)(neg:Bool)(t:TypeId)(x y:Operand):Option Gk:=
 match P.underlying t with
 | some (.int _)=>some (.bin (if neg then .neq else .eql) x y)
 | some .string=>some (.bin (if neg then .neq else .eql) x y)
 | some .bool=>some (.eqb neg x y)
 | some (.pointer _)=>some (.eqp neg x y)
 | some (.slice _)=>some (.eqs neg x y)
 | some (.func _ _ _)=>some (.extra (.nilF neg) [x,y])
 | some (.struct _) | some (.array _ _)=>if P.eqGuardType P.depth t then none else (O3 P 20 t).map λks=>.eqf ks neg x y
 | _=>none
def Sv(P:Program)(c:Call):Option Gk:=
 match c.callee,c.args.toList,c.argTypes.toList with
 | .builtin .len,[x],[t]=>match P.underlying t with
  | some (.slice _)=>some (.len x)
  | some .string=>some (.lenStr x)
  | _=>none
 | .builtin .append,[s,x],[t,u]=>if t=u then (MP P t).map λ(e,i,_)=>.append e i.size i.bytes s x else none
 | .builtin .copy,[d,s],[t,_]=>(MP P t).map λ(_,i,_)=>.copy i.size d s
 | .builtin .clear,[x],[t]=>(MP P t).map λ(_,i,z)=>.clr i.size z.cells.toList x
 | .builtin .min,x::l,_=>some (.minmax false x l)
 | .builtin .max,x::l,_=>some (.minmax true x l)
 | .value (.func f),_,_=>match P.funcs[f]? with
  | some fn=>if fn.body.isSome/\(fn.name == "runtime.NumGoroutine")=false then some (.call f c.args) else none
  | none=>none
 | .value (.tmp t),_,_=>some (.callv (.tmp t) c.args)
 | _,_,_=>none
def P3(P:Program):Nat->TypeId->Option (List Nat)
 | 0,_=>none
 | d+1,t=>match P.underlying t with
  | some .bool=>some [0]
  | some (.int _)=>some [1]
  | some .string=>some [2]
  | some (.struct fs)=>if P.stoodInHeld t then none else K8 (P3 P d) (λt=>(P.info? t).map (·.size)) fs.toList 0
  | _=>none
def Kn(P:Program)(t:TypeId):Option (List Nat × Bool × TypeId):=
 match P.underlying t with
 | some (.map k e)=>(P3 P 20 k).bind λks=>(P.underlying k).map λd=>(ks,FI d,e)
 | _=>none
def Oj(P:Program)(e:TypeId):=(P.info? e).bind λi=>i.zero.bind λz=>if FB z=true then some z else none
def Wg(P:Program)(t:TypeId):Option Value:=
 match P.underlying t with
 | some (.map k e)=>match P.underlying k with
  | some (.int .i64)=>Oj P e
  | _=>none
 | _=>none
def Nj(P:Program)(o:Op):Option (iG × List Operand):=
 match o with
 | .makeMap _ none=>some (.mkMap,[])
 | .lookup t x k ok=>if (Z3 && t == Adj)=true then (Wg P t).map λz=>(.lookG z ok,[x,k]) else (Kn P t).bind λ(ks,agg,e)=>(Oj P e).map λz=>(.lookup ks agg z ok,[x,k])
 | .mapUpdate t m k x=>(Kn P t).map λ(ks,agg,_)=>(.mapSet ks agg,[m,k,x])
 | .insert t m k x=>(Kn P t).map λ(ks,agg,_)=>(.mapSet ks agg,[m,k,x])
 | .mapEntry t m k=>(Kn P t).bind λ(ks,agg,e)=>(Oj P e).map λz=>(.mapEnt ks agg z,[m,k])
 | .entryStore _ m s x=>some (.entSet,[m,s,x])
 | .range t x=>match P.underlying t with
  | some .string=>some (.iterStr,[x])
  | some (.map _ _)=>some (.iterMap,[x])
  | _=>none
 | .next it true=>some (.nextStr,[it])
 | .next it false=>some (.nextMap,[it])
 | .entry it=>some (.entMap,[it])
 | .call c=>match c.callee,c.args.toList,c.argTypes.toList with
  | .builtin .len,[x],[t]=>match P.underlying t with
   | some (.map _ _)=>some (.mapLen,[x])
   | _=>none
  | .builtin .cap,[x],[t]=>match P.underlying t with
   | some (.slice _)=>some (.capNil,[x])
   | _=>none
  | .builtin .delete,[m,k],[t,_]=>(Kn P t).map λ(ks,agg,_)=>(.mapDel ks agg,[m,k])
  | _,_,_=>none
 | _=>none
def tr(P:Program)(o:Oper):Option Gk:=
 match o.op with
 | .move x | .assign x=>some (.mv x)
 | .pick c a b=>some (.pick c a b)
 | .box t x=>some (.box t x)
 | .alloc t=>match P.info? t with
  | some i=>match i.zero with
   | some z=>if EC z.cells.toList=true then some (.zero t z) else none
   | none=>none
  | none=>none
 | .load t x=>match P.underlying t,P.info? t with
  | some d,some i=>some (.load (FI d) (if FI d then i.size else 1) x)
  | _,_=>none
 | .store t a x=>(P.info? t).map λi=>.store i.size a x
 | .nilCheck x=>some (.nilck x)
 | .binOp .eql t x y _=>Ye P false t x y
 | .binOp .neq t x y _=>Ye P true t x y
 | .binOp op t x y _=>match P.underlying t with
  | some (.int _) | some .string=>some (.bin op x y)
  | _=>none
 | .unOp op _ x=>some (.un op x)
 | .convert src dst x=>match P.underlying src,P.underlying dst with
  | some (.int _),some (.int k)=>some (.cvi k x)
  | some .string,some .string=>some (.EX x)
  | _,_=>none
 | .makeInterface t x=>match P.underlying t with
  | some (.interface _)=>none
  | some _=>some (.mkIface t x)
  | none=>none
 | .makeFunc (.func f) a b=>some (.mkFunc f a b)
 | .makeSlice t l c=>(MP P t).map λ(e,i,z)=>.mkSlice e i.size i.bytes z.cells.toList l c
 | .slice t x lo hi none=>match P.underlying t with
  | some (.slice e)=>(P.info? e).map λi=>.sl i.size x lo hi
  | some .string=>some (.slStr x lo hi)
  | _=>none
 | .fieldAddr t x f=>(Lm P t f).map λ(off,_,_)=>.fa off x
 | .field t x f=>(Lm P t f).map λ(off,agg,sz)=>.fld agg sz off x
 | .indexAddr t x i=>match P.underlying t with
  | some (.slice e)=>(P.info? e).map λj=>.ia j.size x i
  | some (.array n e)=>(P.info? e).map λj=>.iaArr n j.size x i
  | _=>none
 | .index t x i=>match P.underlying t with
  | some .string=>some (.idxStr x i)
  | some (.array n e)=>match P.underlying e,P.info? e with
   | some d,some j=>if FI d=true\/j.size=1 then some (.idx n (FI d) j.size x i) else none
   | _,_=>none
  | _=>none
 | .extract x i=>some (.ext x i)
 | .build t parts=>match P.info? t with
  | some i=>match i.zero with
   | some z=>if EC z.cells.toList=true then (Wf P t parts.toList).map λps=>.build z.cells.toList ps else none
   | none=>none
  | none=>none
 | .buildSlice t n parts=>(MP P t).bind λ(e,i,z)=>if n * i.size<=16777216/\0 < i.size then some (.buildSlice e i.size n z.cells.toList (parts.toList.map λp=>(p.1 * i.size,i.size,p.2))) else none
 | .call c=>match Sv P c with
  | some x=>some x
  | none=>(Nj P (.call c)).map λ(e,l)=>.extra e l
 | op=>(Nj P op).map λ(e,l)=>.extra e l
def FK(P:Program)(B:Nat)(φ:Es)(S:St)(w:World)(s:Sem Next)(v:Value)(S':St):=
 ∃ φ' v' w',(s.run P w=.ok (.value v') w'\/(s.run P w=.ok .skip w'/\v'=undef))/\Rel φ' v v'/\E0 B φ' S' w'/\E6 B φ S w φ' S' w'
section
variable {P:Program}{B:Nat}{φ:Es}{S:St}{w:World}
def FK.Rx{s v S'}(h:FY P B φ S w s v S'):FK P B φ S w (do pure (.value (<- s))) v S':=by
 obtain⟨φ',v',w',h1,h2,h3,h4⟩:=h;exact⟨φ',v',w',.inl (by simp[h1]),h2,h3,h4⟩
def FK.same{s v v'}(hs:E0 B φ S w)(h:s.run P w=.ok (.value v') w)(hr:Rel φ v v'):FK P B φ S w s v S:=⟨φ,v',w,.inl h,hr,hs,E6.refl _ _ _ _⟩
def HL{k n v'}(h:Rel φ (.int k n) v'):v'=.int k n:=by cases h;rfl
def Ko{b v'}(h:Rel φ (.bool b) v'):v'=.bool b:=by cases h;rfl
def Jf{b v'}(h:Rel φ (.string b) v'):v'=.string b:=by cases h;rfl
def Ry{a v'}(h:Rel φ (.agg a) v'):∃ a',v'=.agg a'/\Gb φ a a':=by
 cases h with
 | agg a a' ha h1=>exact⟨a',rfl,ha,h1⟩
def kV{a v'}(h:Rel φ (.tuple a) v'):∃ a',v'=.tuple a'/\Gb φ a a':=by
 cases h with
 | tuple a a' ha h1=>exact⟨a',rfl,ha,h1⟩
def kW{op k yk a b v}(t)(h:Mh op k yk a b=some v):(binOp op t (.int k a) (.int yk b)).run P w=.ok v w:=by
 unfold Mh at h;cases op<;>simp only at h
 case shl=>split at h<;>simp at h;rename_i hb;subst h;simp[binOp,Op.shift,hb]
 case shr=>split at h<;>simp at h;rename_i hb;subst h;simp[binOp,Op.shift,hb]
 case quo=>split at h<;>simp at h;rename_i hb;subst h;simp[binOp,Op.intDiv,hb]
 case rem=>split at h<;>simp at h;rename_i hb;subst h;simp[binOp,Op.intDiv,hb]
 all_goals (split at h<;>simp at h;rename_i hb;subst hb;subst h;simp[binOp,Op.intArith,Op.intBits,Op.intCmp])
def kX{op a b v}(t)(h:QF op a b=some v):(binOp op t (.string a) (.string b)).run P w=.ok v w:=by
 unfold QF at h;cases op<;>simp only at h
 case add=>
  split at h<;>simp at h
  subst h;have:¬ (9223372036854775807 < ((a.size:Int)+(b.size))):=dO
  simp[binOp,Op.stringOp,this]
 all_goals first
  | grind
  | (obtain rfl:=Aa h;simp[binOp,Op.stringOp])
def Yf{op x y v}(h:KE op x y=some v):(∃ k yk a b,x=.int k a/\y=.int yk b/\Mh op k yk a b=some v)\/(∃ a b,x=.string a/\y=.string b/\QF op a b=some v):=by
 unfold KE at h
 grind
def eZ{op k yk a b v}(h:Mh op k yk a b=some v)(φ):Rel φ v v:=by
 unfold Mh at h;cases op<;>simp only at h<;>(split at h<;>first | grind | (obtain rfl:=Aa h;constructor))
def fh{op a b v}(h:QF op a b=some v)(φ):Rel φ v v:=by
 unfold QF at h;cases op<;>simp only at h<;>first
  | grind
  | (obtain rfl:=Aa h;constructor)
  | (split at h<;>first | grind | (obtain rfl:=Aa h;constructor))
def G8(op t x y a b)(h:(match a,b with | .nilIface,.nilIface=>false | .agg _,.agg _=>false | _,_=>true)=true):(eqGuard op t x y a b).run P w=.ok () w:=by
 unfold eqGuard;cases op<;>simp
 all_goals (split<;>first | rfl | omega | grind)
def P5(hs:E0 B φ S w){op t x y}{ρa ρc:Operand->Value}(hx:Rel φ (ρa x) (ρc x))(hy:Rel φ (ρa y) (ρc y)){v}(h:KE op (ρa x) (ρa y)=some v) :
  FK P B φ S w (do pure (.value (<- do eqGuard op t x y (ρc x) (ρc y);binOp op t (ρc x) (ρc y)))) v S:=by
 rcases Yf h with ⟨k,yk,a,b,e1,e2,e3⟩ | ⟨a,b,e1,e2,e3⟩
 ·rw[e1] at hx
  rw[e2] at hy;rw[HL hx,HL hy];refine FK.same hs (v':=v) ?_ (eZ e3 _);have hg:=G8 (P:=P) (w:=w) op t x y (.int k a) (.int yk b) rfl;simp[hg,kW t e3]
 ·rw[e1] at hx
  rw[e2] at hy;rw[Jf hx,Jf hy];refine FK.same hs (v':=v) ?_ (fh e3 _);have hg:=G8 (P:=P) (w:=w) op t x y (.string a) (.string b) rfl;simp[hg,kX t e3]
end
section
variable {P:Program}{B:Nat}{φ:Es}{S:St}{w:World}
def FX.tail{x x' a a'}(h:FX φ (x::a) (x'::a')):FX φ a a':=
 ⟨by simpa using h.1,λi h1 h2=>by
  have:=h.2 (i+1) IN IN
  grind⟩
def MQ:∀ {ks} {a b} {r},I7 ks a b=some r->∀ φ,∀ {a' b'},FX φ a a'->FX φ b b'->a'=a/\b'=b
 | [],[],[],_,_,φ,a',b',ha,hb=>⟨Ak ha.1.symm,Ak hb.1.symm⟩
 | [],[],_::_,_,h,_,_,_,_,_=>by simp[I7] at h
 | [],_::_,_,_,h,_,_,_,_,_=>by simp[I7] at h
 | _::_,[],_,_,h,_,_,_,_,_=>by simp[I7] at h
 | _::_,_::_,[],_,h,_,_,_,_,_=>by simp[I7] at h
 | k::ks,x::a,y::b,r,h,φ,a',b',ha,hb=>by
  simp only[I7,Ae,Ab] at h;obtain⟨r0,h0,q,hq,_⟩:=h;cases a' with
  | nil=>have:=ha.1;grind
  | cons x' a'=>
   cases b' with
   | nil=>have:=hb.1;grind
   | cons y' b'=>
    have hx:=ha.2 0 iN iN;have hy:=hb.2 0 iN iN;obtain⟨rfl,rfl⟩:=MQ hq _ (a':=a') (b':=b') ha.tail hb.tail;unfold X9 at h0;split at h0
    ·cases hx;cases hy;grind
    ·cases hx;cases hy;grind
    ·cases hx;cases hy;grind
    grind
def UJ(hs:E0 B φ S w){neg:Bool}{t x y}{ρa ρc:Operand->Value}(hx:Rel φ (ρa x) (ρc x))(hy:Rel φ (ρa y) (ρc y))(hg:P.eqGuardType P.depth t=false){ks}(hf:O3 P 20 t=some ks)
  (hagg:∀ d,P.underlying t=some d->FI d=true) {a b} (ea:ρa x=.agg a) (eb:ρa y=.agg b) {r} (h:I7 ks a.toList b.toList=some r) :
  FK P B φ S w (do pure (.value (<- do eqGuard (if neg then .neq else .eql) t x y (ρc x) (ρc y);binOp (if neg then .neq else .eql) t (ρc x) (ρc y)))) (.bool (EU neg r)) S:=by
 rw[ea] at hx;rw[eb] at hy;obtain⟨a',e1,ha⟩:=Ry hx;obtain⟨b',e2,hb⟩:=Ry hy;obtain⟨e3,e4⟩:=MQ h _ ha.PB hb.PB;have e3:=BA e3;have e4:=BA e4;subst e3;subst e4;rw[e1,e2];obtain⟨dsc,hd,_,hrun⟩:=jh (P:=P) (w:=w) _ t _ hf 10000 dO _ _ r h;rw[hagg _ hd] at hrun;simp only[Fo,if_true,C6] at hrun;refine FK.same hs (v':=.bool (EU _ r)) ?_ (.bool _);have hgu:=λop=>run_eqGuard_agg (P:=P) w op t x y a' b' hg
 cases neg with
 | false=>
  have:=run_eql_struct (P:=P) w t a' b';rw[hrun] at this;simp[hgu,this,EU]
 | true=>
  have:=run_neq_struct (P:=P) w t a' b';rw[hrun] at this;simp[hgu,this,EU]
def kY(hs:E0 B φ S w){neg:Bool}{t x y}{ρa ρc:Operand->Value}(hx:Rel φ (ρa x) (ρc x))(hy:Rel φ (ρa y) (ρc y))(hu:P.underlying t=some .bool){a b}(ea:ρa x=.bool a)(eb:ρa y=.bool b) :
  FK P B φ S w (do pure (.value (<- do eqGuard (if neg then .neq else .eql) t x y (ρc x) (ρc y);binOp (if neg then .neq else .eql) t (ρc x) (ρc y)))) (.bool (EU neg (a == b))) S:=by
 rw[ea] at hx;rw[eb] at hy;rw[Ko hx,Ko hy];refine FK.same hs (v':=.bool (EU _ (a == b))) ?_ (.bool _);have hg:=λop=>G8 (P:=P) (w:=w) op t x y (.bool a) (.bool b) rfl
 have hr:=run_equalIn_bool' (P:=P) w 9999 t a b hu;cases neg<;>simp[hg,binOp,Op.equal,Op.maxDepth,hr,EU]
def kZ(hs:E0 B φ S w){neg:Bool}{t e x y}{ρa ρc:Operand->Value}(hx:Rel φ (ρa x) (ρc x))(hy:Rel φ (ρa y) (ρc y))(hu:P.underlying t=some (.pointer e)){p}(ea:ρa x=.pointer p)(eb:ρa y=.pointer none) :
  FK P B φ S w (do pure (.value (<- do eqGuard (if neg then .neq else .eql) t x y (ρc x) (ρc y);binOp (if neg then .neq else .eql) t (ρc x) (ρc y)))) (.bool (EU neg p.isNone)) S:=by
 rw[ea] at hx;rw[eb] at hy;have ey:ρc y=.pointer none:=by revert hy;generalize ρc y=q;intro hy;cases hy;rfl
 obtain⟨p',ex,hp⟩:∃ p',ρc x=.pointer p'/\p'.isNone=p.isNone:=by
  revert hx
  generalize ρc x=q;intro hx;cases hx with
  | ptrNil=>exact⟨none,rfl,rfl⟩
  | ptr id o s h=>exact⟨_,rfl,rfl⟩
 rw[ex,ey,<- hp];refine FK.same hs (v':=.bool (EU neg p'.isNone)) ?_ (.bool _);have hg:=λop=>G8 (P:=P) (w:=w) op t x y (.pointer p') (.pointer none) rfl
 have hr0:∀ D,(Op.equalIn (D+1) t (.pointer p') (.pointer none)).run P w=.ok p'.isNone w:=by
  intro D;cases p'<;>simp[Op.equalIn,run_underlying hu]
 have hr:=hr0 9999;cases neg<;>simp[hg,binOp,Op.equal,Op.maxDepth,hr,EU]
def ld(hs:E0 B φ S w){neg:Bool}{t e x y}{ρa ρc:Operand->Value}(hx:Rel φ (ρa x) (ρc x))(hy:Rel φ (ρa y) (ρc y))(hu:P.underlying t=some (.slice e)){p n c n' c'}(ea:ρa x=.slice p n c)(eb:ρa y=.slice none n' c') :
  FK P B φ S w (do pure (.value (<- do eqGuard (if neg then .neq else .eql) t x y (ρc x) (ρc y);binOp (if neg then .neq else .eql) t (ρc x) (ρc y)))) (.bool (EU neg p.isNone)) S:=by
 rw[ea] at hx;rw[eb] at hy;have ey:ρc y=.slice none 0 0:=by revert hy;generalize ρc y=q;intro hy;cases hy;rfl
 obtain⟨p',n1,c1,ex,hp⟩:∃ p' n1 c1,ρc x=.slice p' n1 c1/\p'.isNone=p.isNone:=by
  revert hx
  generalize ρc x=q;intro hx;cases hx with
  | sliceNil=>exact⟨none,_,_,rfl,rfl⟩
  | slice id o n c c' s h hn hc he=>exact⟨_,_,_,rfl,rfl⟩
  | sliceEnd id o x s h=>exact⟨_,_,_,rfl,rfl⟩
 rw[ex,ey,<- hp];refine FK.same hs (v':=.bool (EU neg p'.isNone)) ?_ (.bool _);have hg:=λop=>G8 (P:=P) (w:=w) op t x y (.slice p' n1 c1) (.slice none 0 0) rfl
 have hr0:∀ D,(Op.equalIn (D+1) t (.slice p' n1 c1) (.slice none 0 0)).run P w=.ok p'.isNone w:=by
  intro D;cases p'<;>simp[Op.equalIn,run_underlying hu]
 have hr:=hr0 9999;cases neg<;>simp[hg,binOp,Op.equal,Op.maxDepth,hr,EU]
def Yg{neg l v S'}(h:Ei (.nilF neg) l S=some (v,S')):∃ x b,l=[x,.nilFunc]/\MI x=some b/\v=.bool (EU neg b)/\S'=S:=by
 unfold Ei at h;split at h;all_goals first | contradiction | skip
 rename_i x e1;obtain rfl:=iG.nilF.inj e1;simp only[Ab] at h;obtain⟨b,hb,rfl,rfl⟩:=h;exact⟨x,b,rfl,hb,rfl,rfl⟩
def fi(hs:E0 B φ S w){neg:Bool}{t ps rs va x y}{ρa ρc:Operand->Value}(hx:Rel φ (ρa x) (ρc x))(hy:Rel φ (ρa y) (ρc y))(hu:P.underlying t=some (.func ps rs va)){b}(ea:MI (ρa x)=some b)(eb:ρa y=.nilFunc) :
  FK P B φ S w (do pure (.value (<- do eqGuard (if neg then .neq else .eql) t x y (ρc x) (ρc y);binOp (if neg then .neq else .eql) t (ρc x) (ρc y)))) (.bool (EU neg b)) S:=by
 rw[eb] at hy;have ey:ρc y=.nilFunc:=by revert hy;generalize ρc y=q;intro hy;cases hy;rfl
 have ex:(ρc x=.nilFunc/\b=true)\/∃ f fa fb,ρc x=.func f fa fb/\b=false:=by
  revert hx ea
  generalize ρc x=q;generalize ρa x=q0;intro hx ea;unfold MI at ea;split at ea
  ·cases hx;exact .inl ⟨rfl,(Aa ea).symm⟩
  ·cases hx;exact .inr ⟨_,_,_,rfl,(Aa ea).symm⟩
  ·cases ea
 rw[ey];refine FK.same hs (v':=.bool (EU neg b)) ?_ (.bool _);rcases ex with ⟨e,rfl⟩ | ⟨f,fa,fb,e,rfl⟩
 ·rw[e]
  have hg:=λop=>G8 (P:=P) (w:=w) op t x y .nilFunc .nilFunc rfl
  have hr0:∀ D,(Op.equalIn (D+1) t .nilFunc .nilFunc).run P w=.ok true w:=by
   intro D;simp[Op.equalIn,run_underlying hu]
  have hr:=hr0 9999;cases neg<;>simp[hg,binOp,Op.equal,Op.maxDepth,hr,EU]
 ·rw[e]
  have hg:=λop=>G8 (P:=P) (w:=w) op t x y (.func f fa fb) .nilFunc rfl
  have hr0:∀ D,(Op.equalIn (D+1) t (.func f fa fb) .nilFunc).run P w=.ok false w:=by
   intro D;simp[Op.equalIn,run_underlying hu]
  have hr:=hr0 9999;cases neg<;>simp[hg,binOp,Op.equal,Op.maxDepth,hr,EU]
def Sw(hs:E0 B φ S w){neg t x y xo}(ht:Ye P neg t x y=some xo){ρa ρc:Operand->Value}(hx:Rel φ (ρa x) (ρc x))(hy:Rel φ (ρa y) (ρc y)){v S'}(h:EF xo ρa S=some (v,S')) :
  FK P B φ S w (do pure (.value (<- do eqGuard (if neg then .neq else .eql) t x y (ρc x) (ρc y);binOp (if neg then .neq else .eql) t (ρc x) (ρc y)))) v S':=by
 unfold Ye at ht;split at ht
 ·rename_i hu
  obtain rfl:=Aa ht;simp only[EF,Ab,AA] at h;obtain⟨v0,h,rfl,rfl⟩:=h;exact P5 hs hx hy h
 ·rename_i hu
  obtain rfl:=Aa ht;simp only[EF,Ab,AA] at h;obtain⟨v0,h,rfl,rfl⟩:=h;exact P5 hs hx hy h
 ·rename_i hu
  obtain rfl:=Aa ht;simp only[EF] at h;split at h
  ·rename_i a b ea eb
   obtain⟨rfl,rfl⟩:=Ai (Aa h);exact kY hs hx hy hu ea eb
  ·cases h
 ·rename_i hu
  obtain rfl:=Aa ht;simp only[EF] at h;split at h
  ·rename_i a ea eb
   obtain⟨rfl,rfl⟩:=Ai (Aa h);exact kZ hs hx hy hu ea eb
  ·cases h
 ·rename_i hu
  obtain rfl:=Aa ht;simp only[EF] at h;split at h
  ·rename_i a _ _ _ _ ea eb
   obtain⟨rfl,rfl⟩:=Ai (Aa h);exact ld hs hx hy hu ea eb
  ·cases h
 ·rename_i hu
  obtain rfl:=Aa ht;simp only[EF,Au,AD] at h;obtain⟨q,b,e1,e2,rfl,rfl⟩:=Yg h;simp only[DL,and_true] at e1;exact fi hs hx hy hu (by rw[e1.1];exact e2) e1.2
 ·rename_i hu
  split at ht
  ·cases ht
  rename_i hg;simp only[Ab] at ht;obtain⟨ks,hks,rfl⟩:=ht;simp only[EF] at h;split at h
  ·rename_i a b ea eb
   simp only[Ab,AA] at h;obtain⟨r,h,rfl,rfl⟩:=h;exact UJ hs hx hy (by simpa using hg) hks (λd hd=>by rw[hu] at hd;rw[<- Aa hd];rfl) ea eb h
  ·cases h
 ·rename_i hu
  split at ht
  ·cases ht
  rename_i hg;simp only[Ab] at ht;obtain⟨ks,hks,rfl⟩:=ht;simp only[EF] at h;split at h
  ·rename_i a b ea eb
   simp only[Ab,AA] at h;obtain⟨r,h,rfl,rfl⟩:=h;exact UJ hs hx hy (by simpa using hg) hks (λd hd=>by rw[hu] at hd;rw[<- Aa hd];rfl) ea eb h
  ·cases h
 ·cases ht
def UK{agg l l' v}(h:Hj agg l=some v)(hr:FX φ l l'):Hj agg l'=some (Fo agg l')/\Rel φ v (Fo agg l'):=by
 unfold Hj at *;unfold Fo;cases agg with
 | true=>
  simp only[if_true,AE] at h |-;subst h;exact⟨trivial,.pS hr.tc⟩
 | false=>
  obtain rfl:=Wc h;obtain⟨v',rfl⟩:=A5.1 hr.1.symm;exact⟨rfl,by simpa using hr.2 0 iN iN⟩
def lf(hs:E0 B φ S w){t f off sz agg}(ht:Lm P t f=some (off,agg,sz)){a x' v}(hx:Rel φ (.agg a) x')(hle:off+sz<=a.size)(h:Hj agg ((a.toList.drop off).take sz)=some v) :
  FY P B φ S w (Instr.field t x' f) v S:=by
 unfold Lm at ht;split at ht
 case h_2=>grind
 rename_i fs hu;split at ht
 case h_2=>grind
 rename_i fd hfd;split at ht
 case h_2=>grind
 rename_i d i hd hi;split at ht
 case isFalse=>grind
 obtain⟨rfl,rfl,rfl⟩:=ht;obtain⟨a',rfl,ha⟩:=Ry hx;have hp:=Km (w:=w) _ d i hd hi _ _ _ rfl (by rw[<- ha.1];omega);obtain⟨h1,h2⟩:=UK h ((ha.PB.drop _).take _);refine FY.same hs ?_ h2;simp[Instr.field,run_underlying hu,hfd,asAgg,hp]
def pY(hs:E0 B φ S w){t f off sz agg}(ht:Lm P t f=some (off,agg,sz)){id o x'}(hx:Rel φ (.pointer (some ⟨id,o,none⟩)) x') :
  FY P B φ S w (Instr.fieldAt t x' f) (.pointer (some ⟨id,o+off,none⟩)) S:=by
 unfold Lm at ht;split at ht
 case h_2=>grind
 rename_i fs hu;split at ht
 case h_2=>grind
 rename_i fd hfd;split at ht
 case h_2=>grind
 rename_i d i hd hi;split at ht
 case isFalse=>grind
 rename_i hne;obtain⟨rfl,rfl,rfl⟩:=ht;obtain⟨s,e,rfl⟩:=LR hx;have hz:=Ga (w:=w) _ i hi;refine FY.same hs (v':=.pointer (some ⟨s.b,s.base+(o+fd.offset),none⟩)) ?_ (.ptr _ (o+fd.offset) s e);simp[Instr.fieldAt,run_underlying hu,hfd,Instr.sureAddr,fieldPlace,hz,hne,Addr.add_lit,Bv]
def pZ(hs:E0 B φ S w){t e j}(hu:P.underlying t=some (.slice e))(hj:P.info? e=some j){id o n c x'}(hx:Rel φ (.slice (some ⟨id,o,none⟩) n c) x'){k}{i:Int}(h0:0<=i)(h1:i < n) :
  FY P B φ S w (Instr.indexAt t x' (.int k i)) (.pointer (some ⟨id,o+i.toNat * j.size,none⟩)) S:=by
 obtain⟨s,x,c',e1,rfl,hn,hcc,hnc,hor⟩:=Jd hx;have hz:=Ga (w:=w) e j hj;refine FY.same hs (v':=.pointer (some ⟨s.b,s.base+(o+i.toNat * j.size),none⟩)) ?_ (.ptr _ _ s e1);simp[Instr.indexAt,asIntOf,run_underlying hu,h0,h1,hz,Addr.add_lit,Bv]
def Yh(hs:E0 B φ S w){t e j n}(hu:P.underlying t=some (.array n e))(hj:P.info? e=some j){id o x'}(hx:Rel φ (.pointer (some ⟨id,o,none⟩)) x'){k}{i:Int}(h0:0<=i)(h1:i < n) :
  FY P B φ S w (Instr.indexAt t x' (.int k i)) (.pointer (some ⟨id,o+i.toNat * j.size,none⟩)) S:=by
 obtain⟨s,e1,rfl⟩:=LR hx;have hz:=Ga (w:=w) e j hj;refine FY.same hs (v':=.pointer (some ⟨s.b,s.base+(o+i.toNat * j.size),none⟩)) ?_ (.ptr _ _ s e1);simp[Instr.indexAt,asIntOf,run_underlying hu,h0,h1,hz,Instr.sureAddr,Addr.add_lit,Bv]
def lg(hs:E0 B φ S w){t e d j n}(hu:P.underlying t=some (.array n e))(hd:P.underlying e=some d)(hj:P.info? e=some j)(hone:FI d=true\/j.size=1){a x' v}(hx:Rel φ (.agg a) x'){k}{i:Int}(h0:0<=i)(h1:i < n)
  (hle:i.toNat * j.size+j.size<=a.size) (h:Hj (FI d) ((a.toList.drop (i.toNat * j.size)).take j.size)=some v):FY P B φ S w (Instr.index t x' (.int k i)) v S:=by
 obtain⟨a',rfl,ha⟩:=Ry hx;have hz:=Ga (w:=w) e j hj;have hk:j.size=if FI d then j.size else 1:=by
  grind
 have hp:=Km (w:=w) e d j hd hj _ _ _ hk (by rw[<- ha.1];omega);obtain⟨h2,h3⟩:=UK h ((ha.PB.drop (i.toNat * j.size)).take _);refine FY.same hs ?_ h3;simp[Instr.index,asIntOf,run_underlying hu,h0,h1,hz,hp]
def Nk{v d l y}(h:bound v d=some l)(hle:l<=y)(code):∀ u,v=some u->(Instr.sliceBound u y code).run P w=.ok l w:=by
 intro u hu;subst hu;unfold bound at h;split at h
 ·grind
 ·rename_i k i e
  obtain rfl:=Aa e;split at h
  case isFalse=>cases h
  rename_i h0;obtain rfl:=Aa h;have:i<=y:=dO
  simp[Instr.sliceBound,asIntOf,h0,this]
 grind
def Ok{lo hi l h n c}(isS)(hl:bound lo 0=some l)(hh:bound hi n=some h)(h1:l<=h)(h2:h<=c):(Instr.sliceBounds isS n c lo hi none).run P w=.ok (l,h,c) w:=by
 cases lo with
 | none=>
  cases hi with
  | none=>
   simp[bound] at hl hh;subst hl;subst hh;simp[Instr.sliceBounds]
  | some u=>
   simp[bound] at hl;subst hl;have:=λcode=>Nk (P:=P) (w:=w) hh h2 code u rfl
   simp[Instr.sliceBounds,this]
 | some u=>
  cases hi with
  | none=>
   simp[bound] at hh;subst hh;have:=λcode=>Nk (P:=P) (w:=w) hl h1 code u rfl
   simp[Instr.sliceBounds,this]
  | some u2=>
   have h3:=λcode=>Nk (P:=P) (w:=w) hl h1 code u rfl
   have h4:=λcode=>Nk (P:=P) (w:=w) hh h2 code _ rfl
   simp[Instr.sliceBounds,h3,h4]
def lh{v v' d l}(h:bound v d=some l)(hr:∀ u,v=some u->∃ u',v'=some u'/\Rel φ u u')(hn:v=none->v'=none):bound v' d=some l:=by
 cases v with
 | none=>grind
 | some u=>
  obtain⟨u',rfl,hu⟩:=hr u rfl;unfold bound at h |-;split at h
  ·grind
  ·rename_i k i e
   obtain rfl:=Aa e;rw[HL hu];exact h
  grind
def Ka{o}{ρa ρc:Operand->Value}{d l}(h:bound (o.map ρa) d=some l)(hr:∀ x,o=some x->Rel φ (ρa x) (ρc x)):bound (o.map ρc) d=some l:=by
 cases o with
 | none=>exact h
 | some x=>exact lh (φ:=φ) h (λu hu=>⟨ρc x,rfl,IN⟩) (λe=>by grind)
def Yi(hs:E0 B φ S w){t e j}(hu:P.underlying t=some (.slice e))(hj:P.info? e=some j){x x'}(hx:Rel φ x x'){lo' hi' a n c l h}(ex:x=.slice a n c)
  (hl:bound lo' 0=some l) (hh:bound hi' n=some h) (h1:l<=h) (h2:h<=c) {v}
  (hv:H8 S j.size l h c a=some (v,S)):∃ v',(Instr.sliceAt t x' lo' hi' none).run P w=.ok v' w/\Rel φ v v':=by
 subst ex;have hz:=Ga (w:=w) e j hj;cases a with
 | none=>
  cases hx
  simp[H8] at hv;subst hv;have hb:=Ok (P:=P) (w:=w) true hl hh h1 h2;have:l=0:=dO
  have:h=0:=dO
  subst l;subst h;refine⟨.slice none 0 0,?_,.sliceNil⟩;simp[Instr.sliceAt,Instr.slice,run_underlying hu,hb,hz]
 | some ad=>
  obtain⟨id,o,sp⟩:=ad;cases sp with
  | some q=>simp[H8] at hv
  | none=>
   simp[H8] at hv;obtain⟨hwd,rfl⟩:=hv;obtain⟨s,x,c',e1,rfl,hn,hcc,hnc,hor⟩:=Jd hx;have hsj:l * j.size=l * s.sz:=by
    obtain⟨z1,hwd,hz1⟩:=PX hwd;unfold St.width at hwd;split at hwd
    ·rename_i cc t2 z m an hget
     rw[hz1,<- Aa hwd,(hs.IM id s cc t2 z m an e1 hget).1]
    ·cases hwd
   have hb:=Ok (P:=P) (w:=w) true hl hh h1 (by omega:h<=c');by_cases hend:c'=l
   ·
    subst hend;have hc0:c - c'=0:=dO
    have hh0:h - c'=0:=dO
    refine⟨.slice (some ⟨s.b,x,none⟩) 0 0,?_,(by rw[hc0,hh0];exact .sliceEnd id _ x s e1)⟩;simp[Instr.sliceAt,Instr.slice,run_underlying hu,hb,hz,hh0]
   ·rcases hor with ⟨rfl,hext⟩ | ⟨r1,r2,r3⟩
    ·have hsz:(c' - l) * s.sz+l * s.sz=c' * s.sz:=by rw[<- Bd];congr 1;omega
     refine⟨.slice (some ⟨s.b,s.base+(o+l * j.size),none⟩) (h - l) (c' - l),?_,(.slice id (o+l * j.size) (h - l) (c - l) (c' - l) s e1 dO dO (by rw[hsj];omega))⟩;simp[Instr.sliceAt,Instr.slice,run_underlying hu,hb,hz,hend,Addr.add_lit,Bv]
    ·omega
def qa(hs:E0 B φ S w){t e j}(hu:P.underlying t=some (.slice e))(hj:P.info? e=some j){x x'}(hx:Rel φ x x'){lo' hi' a n c l h}(ex:x=.slice a n c)
  (hl:bound lo' 0=some l) (hh:bound hi' n=some h) (h1:l<=h) (h2:h<=c) {v}
  (hv:H8 S j.size l h c a=some (v,S)):FY P B φ S w (Instr.sliceAt t x' lo' hi' none) v S:=by
 obtain⟨v',q1,q2⟩:=Yi (P:=P) hs hu hj hx ex hl hh h1 h2 hv;exact FY.same hs q1 q2
end
section
variable {P:Program}{B:Nat}{φ:Es}{S:St}{w:World}
def ll{g g' sz}(hg:∀ t k,g t=some k->g' t=some k):∀ fs off ks,K8 g sz fs off=some ks->K8 g' sz fs off=some ks:=by
 intro fs
 induction fs with
 | nil=>intro off ks h;exact h
 | cons f fs ih=>
  intro off ks h;simp only[K8] at h |-;split at h
  ·rename_i hc
   rw[if_pos hc];simp only[Ae] at h |-;obtain⟨k,hk,h⟩:=h;refine⟨k,hg _ _ hk,?_⟩;split at h
   ·rename_i hs
    rw[if_pos hs];simp only[Ab] at h |-
    grind
   grind
  grind
def ln:∀ d t ks,P3 P d t=some ks->O3 P d t=some ks:=by
 intro d
 induction d with
 | zero=>intro t ks h;cases h
 | succ d ih=>
  intro t ks h;rw[P3] at h;rw[O3];split at h
  ·grind
  ·grind
  ·grind
  ·rename_i fs hu
   simp only[hu];split at h
   ·cases h
   ·rename_i hst
    rw[if_neg hst];exact ll ih _ _ _ h
  grind
def Jg(em:Bool)(n:Nat)(xs:Array Value):List Field->Sem Unit
 | []=>pure ()
 | f::fs=>do
  if f.name≠ "_" then
   Instr.checkKey em n f.type (<- part f.type xs f.offset)
  Jg em n xs fs
def NC(em n t fs xs)(ht:P.underlying t=some (.struct fs)) :
  (Instr.checkKey em (n+1) t (.agg xs)).run P w=(Jg em n xs fs.toList).run P w:=by
 simp only[Instr.checkKey,Sem.run_bind,run_underlying ht,Result.andThen_ok];rw[<- Array.forIn_toList];generalize fs.toList=l
 induction l generalizing w with
 | nil=>simp[Jg]
 | cons f l ih=>
  simp only[List.forIn_cons,Jg,Sem.run_bind,Sem.run_ite];split
  ·generalize (part _ _ _).run P w=r1
   cases r1 with
   | ok a w1=>
    simp only[Result.andThen_ok];generalize (Instr.checkKey _ n _ a).run P _=r2;cases r2 with
    | ok b w2=>
     exact ih
    | halt x w2=>simp
   | halt x w1=>simp
  simp_all
def T1(em n g)(hg:∀ t k,g t=some k->∀ a ,a.length=k.length->∃ dsc,P.underlying t=some dsc/\(FI dsc=false->k.length=1)/\(Instr.checkKey em n t (Fo (FI dsc) a)).run P w=.ok () w) :
  ∀ fs off ks,K8 g (λt=>(P.info? t).map (·.size)) fs off=some ks->∀ xs,off+ks.length=xs.size->(Jg em n xs fs).run P w=.ok () w:=by
 intro fs
 induction fs with
 | nil=>simp[Jg]
 | cons f fs ih=>
  intro off ks h xs hx;simp only[K8] at h;split at h
  case isFalse=>cases h
  rename_i hc;obtain⟨hname,rfl⟩:=hc;simp only[Ae] at h;obtain⟨k,hk,h⟩:=h;split at h
  case isFalse=>cases h
  rename_i hsz;simp only[Ab] at h;obtain⟨l,hl,rfl⟩:=h;rw[Ad] at hx;obtain⟨dsc,hd,h1,hrun⟩:=hg _ k hk ((xs.toList.drop f.offset).take k.length) IN;obtain⟨i,hi,hisz⟩:=Ab.1 hsz;have hkk:k.length=if FI dsc then i.size else 1:=by
   grind
  have hp1:=Km (w:=w) _ _ i hd hi xs f.offset _ hkk dO;rw[Jg,if_pos hname];simp only[Sem.run_bind,hp1,hrun,Result.andThen_ok]
  grind
def Wj(em):∀ d t ks,P3 P d t=some ks->∀ D,d<=D->∀ a ,a.length=ks.length->∃ dsc,P.underlying t=some dsc/\(FI dsc=false->ks.length=1)/\(Instr.checkKey em D t (Fo (FI dsc) a)).run P w=.ok () w:=by
 intro d
 induction d with
 | zero=>intro t ks h;cases h
 | succ d ih=>
  intro t ks h D hD a ha;obtain⟨D,rfl⟩:∃ D',D=D'+1:=⟨D - 1,dO⟩
  rw[P3] at h;split at h
  ·rename_i hu
   refine⟨_,hu,λ_=>by rw[<- Aa h];rfl,?_⟩;simp[Instr.checkKey,run_underlying hu]
  ·rename_i k0 hu
   refine⟨_,hu,λ_=>by rw[<- Aa h];rfl,?_⟩;simp[Instr.checkKey,run_underlying hu]
  ·rename_i hu
   refine⟨_,hu,λ_=>by rw[<- Aa h];rfl,?_⟩;simp[Instr.checkKey,run_underlying hu]
  ·rename_i fs hu
   split at h
   ·cases h
   refine⟨_,hu,(λx=>by cases x),?_⟩;simp only[Fo,FI,if_true];rw[NC _ D t _ _ hu];exact T1 _ D _ (λt k hk a ha=>ih t k hk D dO a ha) _ 0 _ h _ (by simp[ha])
  ·cases h
def O8{agg k k' c}(h:TX agg k=some c)(hr:Rel φ k k'):∃ c',FX φ c c'/\k'=Fo agg c':=by
 unfold TX at h;split at h
 ·rename_i a
  obtain rfl:=Aa h;cases hr with
  | agg a a' ha h1=>exact⟨a'.toList,(show Gb _ a _ from ⟨ha,h1⟩).PB,by simp[Fo]⟩
 ·cases h
 ·cases h
 ·obtain rfl:=Aa h
  exact⟨[k'],FX.cons hr (FX.nil _),by simp[Fo]⟩
def qe{k a b}(h:X9 k a b=some true)(n):Instr.sameBits n a b=true:=by
 unfold X9 at h;split at h
 ·simp at h;subst h;cases n<;>simp[Instr.sameBits]
 ·split at h
  ·rename_i e;subst e;simp at h;subst h;cases n<;>simp[Instr.sameBits]
  grind
 ·rw[<- beq_toListBytes] at h
  cases n<;>simpa [Instr.sameBits] using h
 grind
def Yq{ks}:∀ {a b},I7 ks a b=some true->∀ n,(a.zip b).all (λp=>Instr.sameBits n p.1 p.2)=true:=by
 induction ks with
 | nil=>
  intro a b h n;cases a<;>cases b<;>simp[I7] at h |-
 | cons k ks ih=>
  intro a b h n;cases a with
  | nil=>simp
  | cons x a=>
   cases b with
   | nil=>simp
   | cons y b=>
    simp only[I7,Ae,Ab,Al] at h;obtain⟨r,hr,q,hq,rfl,rfl⟩:=h;simp only[List.zip_cons_cons,CT,Al];exact⟨qe hr n,ih hq n⟩
def qf{ks agg a b}(h:I7 ks a b=some true)(h1:agg=false->ks.length=1)(n):Instr.sameBits (n+1) (Fo agg a) (Fo agg b)=true:=by
 obtain⟨l1,l2⟩:=GO h;cases agg with
 | true=>
  simp only[Fo,if_true,Instr.sameBits,Al];refine⟨IN,?_⟩;have:=Yq h n;omega
 | false=>
  obtain⟨x,rfl⟩:=A5.1 (l1.trans (h1 rfl));obtain⟨y,rfl⟩:=A5.1 (l2.trans (h1 rfl));have:=Yq h (n+1);simpa [Fo] using this
def QN(φ:Es):Option (Nat × Value)->Option (Nat × Value)->Prop
 | none,none=>True
 | some (i,v),some (j,v')=>i=j/\Rel φ v v'
 | _,_=>False
def G4.tail{e e' es es'}(h:G4 φ (e::es) (e'::es')):TW φ e e'/\G4 φ es es':=
 ⟨h.2 0 iN iN,by simpa using h.1,λi h1 h2=>by
  have:=h.2 (i+1) IN IN
  grind⟩
def SL{t ks dsc}(hk:P3 P 20 t=some ks)(hd:P.underlying t=some dsc){c c'}(hc:FX φ c c') :
  ∀ es es' i r,G4 φ es es'->GU ks (FI dsc) c es i=some r->∃ r',(Instr.findAsking t (Fo (FI dsc) c') es' i).run P w=.ok r' w/\QN φ r r':=by
 intro es
 induction es with
 | nil=>
  intro es' i r he h;obtain rfl:es'=[]:=Ak he.1.symm;obtain rfl:=Aa h;exact⟨none,by simp[Instr.findAsking],trivial⟩
 | cons e es ih=>
  intro es' i r he h;cases es' with
  | nil=>have:=he.1;grind
  | cons e' es'=>
   obtain⟨h1,h2⟩:=he.tail;simp only[GU,Ae] at h;obtain⟨ce,hce,q,hq,h⟩:=h;obtain⟨ce',hr,hke⟩:=O8 hce h1.1;obtain⟨rfl,rfl⟩:=MQ hq _ hc hr;obtain⟨dsc',hd',_,hrun⟩:=jh (w:=w) _ t _ (ln _ t _ hk) 10000 iF _ _ q hq;rw[hd] at hd';obtain rfl:=Aa hd';have hrun':(Op.equal t (Fo (FI dsc) c') e'.key).run P w=.ok q w:=by rw[hke];exact hrun
   simp only[Instr.findAsking,Sem.run_bind,hrun',Result.andThen_ok];cases q with
   | true=>
    obtain rfl:=Aa h;exact⟨some (i,e'.val),iN,rfl,h1.2.1⟩
   | false=>
    grind
def MR{ks dsc}(hd:(dsc=.bool/\ks=[0])\/(∃ k,dsc=.int k/\ks=[1])\/(dsc=.string/\ks=[2])){c c'}(hc:FX φ c c') :
  ∀ es es' i r,G4 φ es es'->GU ks false c es i=some r->∃ r',Instr.findNow dsc (Fo false c') es' i=some r'/\QN φ r r':=by
 intro es
 induction es with
 | nil=>
  intro es' i r he h;obtain rfl:es'=[]:=Ak he.1.symm;obtain rfl:=Aa h;exact⟨none,by simp[Instr.findNow],trivial⟩
 | cons e es ih=>
  intro es' i r he h;cases es' with
  | nil=>have:=he.1;simp at this
  | cons e' es'=>
   obtain⟨h1,h2⟩:=he.tail;simp only[GU,Ae] at h;obtain⟨ce,hce,q,hq,h⟩:=h;obtain⟨ce',hr,hke⟩:=O8 hce h1.1;obtain⟨rfl,rfl⟩:=MQ hq _ hc hr;have hnow:Instr.sameNow dsc (Fo false c') e'.key=some q:=by
    rw[hke];obtain⟨l1,l2⟩:=GO hq;rcases hd with ⟨rfl,rfl⟩ | ⟨k,rfl,rfl⟩ | ⟨rfl,rfl⟩
    all_goals
     obtain⟨x,rfl⟩:=A5.1 l1;obtain⟨y,rfl⟩:=A5.1 l2;simp only[I7,Ae,AH,AE,Cs,exists_eq_right] at hq;unfold X9 at hq;split at hq<;>simp_all [Fo,Instr.sameNow,beq_toListBytes]
   simp only[Instr.findNow,hnow];cases q with
   | true=>
    simp only[if_true] at h;obtain rfl:=Aa h;exact⟨some _,rfl,rfl,h1.2.1⟩
   | false=>
    simp only[AW,if_false] at h;exact ih _ _ r h2 h
def JB{t ks dsc}(hk:P3 P 20 t=some ks)(hd:P.underlying t=some dsc){c c'}(hc:FX φ c c')
  {es es' r} (he:G4 φ es es') (h:GU ks (FI dsc) c es 0=some r):∃ r',(Instr.findKey t (Fo (FI dsc) c') es').run P w=.ok r' w/\QN φ r r':=by
 have hk0:=hk;rw[P3] at hk;split at hk
 ·rename_i hu
  rw[hd] at hu;obtain rfl:=Aa hu;obtain⟨r',h1,h2⟩:=MR (.inl ⟨rfl,(Aa hk).symm⟩) hc _ _ 0 r he h;exact⟨r',MapKept.run_findKey hd h1,h2⟩
 ·rename_i hu
  rw[hd] at hu;obtain rfl:=Aa hu;obtain⟨r',h1,h2⟩:=MR (.inr (.inl ⟨_,rfl,(Aa hk).symm⟩)) hc _ _ 0 r he h;exact⟨r',MapKept.run_findKey hd h1,h2⟩
 ·rename_i hu
  rw[hd] at hu;obtain rfl:=Aa hu;obtain⟨r',h1,h2⟩:=MR (.inr (.inr ⟨rfl,(Aa hk).symm⟩)) hc _ _ 0 r he h;exact⟨r',MapKept.run_findKey hd h1,h2⟩
 ·rename_i hu
  obtain⟨r',h1,h2⟩:=SL (w:=w) hk0 hd hc _ _ 0 r he h;exact⟨r',by rw[run_findKey_eq w (by rw[hu])];omega,h2⟩
 grind
def Aac{k a b}(h:X9 k a b=some true):a=b:=by
 unfold X9 at h;split at h
 ·grind
 ·grind
 ·rename_i x y
  simp only[AE] at h;rw[<- beq_toListBytes] at h;obtain⟨x⟩:=x;obtain⟨y⟩:=y;have h2:(x == y)=true:=h
  grind
 grind
def Aad{ks}:∀ {a b},I7 ks a b=some true->a=b:=by
 induction ks with
 | nil=>
  intro a b h;cases a<;>cases b<;>simp[I7] at h |-
 | cons k ks ih=>
  intro a b h;cases a with
  | nil=>simp[I7] at h
  | cons x a=>
   cases b with
   | nil=>simp[I7] at h
   | cons y b=>
    simp only[I7,Ae,Ab,Al] at h;obtain⟨r,hr,q,hq,rfl,rfl⟩:=h;rw[Aac hr,ih hq]
def Yr{ks agg c}:∀ {es} {i0 i} {v},GU ks agg c es i0=some (some (i,v))->i0<=i/\∃ (h:i - i0 < es.length) (ce:List _),TX agg es[i - i0].1=some ce/\I7 ks c ce=some true/\es[i - i0].2.1=v:=by
 intro es
 induction es with
 | nil=>intro i0 i v h;simp[GU] at h
 | cons e es ih=>
  intro i0 i v h;simp only[GU,Ae] at h
  grind
def Tr.set_set{α}(a b):∀ f n (t:Tr α),Tr.set f (Tr.set f t n a) n b=Tr.set f t n b:=by
 intro f
 induction f with
 | zero=>simp[Tr.set,Tr.left,Tr.right]
 | succ f ih=>
  intro n t;simp only[Tr.set];split
  ·simp[Tr.left,Tr.right]
  ·split
   ·simp[Tr.left,Tr.right,Tr.top,ih]
   ·simp[Tr.left,Tr.right,Tr.top,ih]
def St.vA(S:St)(id a b):(S.put id a).put id b=S.put id b:=by
 unfold St.put;simp only[Tr.set_set]
def E0.MS(hs:E0 B φ S w){id s o o' r'}(e:φ id=some s)(e2:S.get id=.obj o)(hr:Sm φ o' r'):E0 B φ (S.put id (.obj o')) (w.putObj s.b r')/\E6 B φ S w φ (S.put id (.obj o')) (w.putObj s.b r'):=by
 obtain⟨a1,⟨r,a2,a3⟩,_⟩:=hs.loops.2 _ s o e e2;obtain⟨g1,g2,g3⟩:=hs.jf e e2;have k1:=g1.jg e a2 a3.pT g3 a1 hr;have k2:=(g2.pW e (So e2) (.obj o')).putObj e (So e2) r';rw[St.vA] at k1 k2
 grind
def G4.get?{es es'}(h:G4 φ es es')(i hi):∃ hi':i < es'.length,TW φ es[i] es'[i]:=⟨by rw[<- h.1];omega,h.2 i _ _⟩
def G4.modify{es es'}(h:G4 φ es es')(i){fa fb}(hf:∀ e e',TW φ e e'->TW φ (fa e) (fb e')):G4 φ (es.modify i fa) (es'.modify i fb):=by
 refine⟨by simp[h.1],λj h1 h2=>?_⟩;rw[List.getElem_modify,List.getElem_modify];have:=h.2 j IN IN
 grind
def G4.push{es es'}(h:G4 φ es es'){e e'}(he:TW φ e e'):G4 φ (es++[e]) (es'++[e']):=by
 have hl:=h.1;refine⟨IN,λj h1 h2=>?_⟩;by_cases hj:j < es.length
 ·rw[BC hj,BC dO]
  exact h.2 j _ _
 grind
def G4.eraseIdx{es es'}(h:G4 φ es es')(i):G4 φ (es.eraseIdx i) (es'.eraseIdx i):=by
 have hl:=h.1;refine⟨IN,λj h1 h2=>?_⟩;rw[DM,DM];split
 ·exact h.2 j _ _
 ·exact h.2 _ _ _
def LW{t e ks agg}(h:Kn P t=some (ks,agg,e)):∃ k d,P.underlying t=some (.map k e)/\P3 P 20 k=some ks/\P.underlying k=some d/\agg=FI d:=by
 unfold Kn at h;split at h
 ·rename_i k e' hu
  simp only[Ae,Ab] at h
  grind
 grind
def Om{e z}(h:Oj P e=some z):FB z=true/\∀ w,(zeroValue e).run P w=.ok z w:=by
 unfold Oj at h;simp only[Ae] at h;obtain⟨i,hi,z',hz,h⟩:=h;split at h
 ·rename_i hf
  obtain rfl:=Aa h;exact⟨hf,λw=>by simp[zeroValue,typeInfo,hi,hz]⟩
 grind
def Qa{ks agg k c}(h:keyOf ks agg k=some c):TX agg k=some c/\c.length=ks.length:=by
 unfold keyOf at h;simp only[Ae] at h
 grind
def Nl{id v'}(h:Rel φ (.map (some id)) v'):∃ s,φ id=some s/\v'=.map (some s.b):=by
 cases h with
 | map _ s hs=>grind
def On{v'}(h:Rel φ (.map none) v'):v'=.map none:=by cases h;rfl
def E0.O9(hs:E0 B φ S w){id s es cl}(e:φ id=some s)(e2:S.get id=.obj (.map es cl)):∃ es':Array _,w.heap[s.b]? = some (.map es' cl)/\G4 φ es es'.toList:=by
 obtain⟨_,⟨r,a2,es',rfl,a3⟩,_⟩:=hs.loops.2 _ s _ e e2
 grind
def run_keyThatStays{a b}(h:Instr.sameBits 10000 a b=true):(Instr.keyThatStays a b).run P w=.ok b w:=by simp[Instr.keyThatStays,h]
def Kq(em){k d ks}(hk:P3 P 20 k=some ks)(hd:P.underlying k=some d){x x' c}(hc:keyOf ks (FI d) x=some c)(hx:Rel φ x x') :
  ∃ c',FX φ c c'/\x'=Fo (FI d) c'/\(FI d=false->ks.length=1)/\(Instr.checkKey em 10000 k x').run P w=.ok () w:=by
 obtain⟨h1,h2⟩:=Qa hc;obtain⟨c',h3,rfl⟩:=O8 h1 hx;obtain⟨d',hd',h5,h4⟩:=Wj (w:=w) _ _ k _ hk 10000 iF _ (by rw[<- h3.1,h2]);rw[hd] at hd';obtain rfl:=Aa hd';exact⟨c',h3,rfl,h5,h4⟩
def UN{d ks x x' c c'}(hc:TX (FI d) x=some c)(hcl:FX φ c c')(hx':x'=Fo (FI d) c')(h1:FI d=false->ks.length=1)
  {es es'} (he:G4 φ es es') {i v} (h:GU ks (FI d) c es 0=some (some (i,v))):∃ hi:i < es'.length,Instr.sameBits 10000 es'[i].key x'=true/\∃ hi2:i < es.length,es[i].2.2=es'[i].born/\TW φ es[i] es'[i]:=by
 obtain⟨_,h2,ce,h3,h4,h5⟩:=Yr h;obtain⟨hi',h6⟩:=he.get? i _;obtain⟨ce',h7,h8⟩:=O8 h3 h6.1;obtain⟨e1,e2⟩:=MQ h4 _ hcl h7;have h9:=Aad h4;subst e1 e2;subst h9;refine⟨hi',?_,h2,h6.2.2,h6⟩;rw[h8,hx'];exact qf h4 h1 _
def QN.Pa{r'}(h:QN φ none r'):r'=none:=by
 cases r' with
 | none=>rfl
 | some p=>exact h.elim
def QN.Pb{i v r'}(h:QN φ (some (i,v)) r'):∃ v',r'=some (i,v')/\Rel φ v v':=by
 cases r' with
 | none=>exact h.elim
 | some p=>obtain⟨rfl,h2⟩:=h;grind
def MT{z}(hz:FB z=true)(ok){r r'}(h:QN φ r r'):Rel φ (FC z ok r) (FC z ok r'):=by
 cases r with
 | none=>
  rw[h.Pa];cases ok with
  | true=>exact .tuple' ⟨rfl,λi h1 h2=>by
    rcases i with _ | _ | i
    ·exact HE hz _
    ·exact .bool _
    grind⟩
  | false=>exact HE hz _
 | some p=>
  obtain⟨v',rfl,hv⟩:=h.Pb;cases ok with
  | true=>exact .tuple' ⟨rfl,λi h1 h2=>by
    rcases i with _ | _ | i
    ·grind
    ·exact .bool _
    grind⟩
  | false=>exact hv
def Wk(hs:E0 B φ S w){t ks agg e z}(ht:Kn P t=some (ks,agg,e))(hz:Oj P e=some z){ok x x' k k' v S'}(hx:Rel φ x x')(hk:Rel φ k k')(h:Ei (.lookup ks agg z ok) [x,k] S=some (v,S')) :
  FY P B φ S w (Instr.lookup t x' k' ok) v S':=by
 obtain⟨kt,d,hu,h1,h2,rfl⟩:=LW ht;obtain⟨hzf,hzr⟩:=Om hz;simp only[Ei,Ae] at h;obtain⟨c,hc,h⟩:=h;split at h
 ·obtain⟨rfl,rfl⟩:=Ai (Aa h)
  obtain rfl:=On hx;obtain⟨c',_,_,_,h4⟩:=Kq (w:=w) true h1 h2 hc hk;refine FY.same hs ?_ (MT hzf ok (r:=none) (r':=none) trivial);have hf:(Instr.findKey kt k' []).run P w=.ok none w:=by
   cases d<;>simp[Instr.findKey,run_underlying h2,Instr.findNow]
  have h4':(Instr.checkKey true 10000 kt k').run P w=.ok () w:=h4;simp[Instr.lookup,run_underlying hu,h4',hf,hzr,FC]
 ·rename_i id
  obtain⟨s,hs1,rfl⟩:=Nl hx;split at h
  case h_2=>cases h
  rename_i es cl hg;simp only[Ab,AA] at h;obtain⟨r,hr,rfl,rfl⟩:=h;obtain⟨es',g1,g2⟩:=hs.O9 hs1 hg;obtain⟨c',h3,h4,_,h5⟩:=Kq (w:=w) es'.isEmpty h1 h2 hc hk;obtain⟨r',h6,h7⟩:=JB (w:=w) h1 h2 h3 g2 hr;rw[<- h4] at h6;refine FY.same hs ?_ (MT hzf ok h7);simp only[Instr.lookup,Sem.run_bind,run_underlying hu,Result.andThen_ok,MapKept.run_getObj_map g1,Sem.run_pure,h5,h6];cases r' with
  | none=>cases ok<;>simp[hzr,FC]
  | some p=>cases ok<;>simp[FC]
 ·cases h
def lp{es:List MapEntry}{n}(h:∀ x∈es,∃ n f,x.key=.int .i64 n/\x.val=.func (.func f) #[] #[]/\Ny.lookup n=some f):∀ i,(∃ j f,GU [1] false [.int .i64 n] (es.map λx=>(x.key,x.val,x.born)) i=some (some (j,.func (.func f) #[] #[]))/\Ny.lookup n=some f)\/(GU [1] false [.int .i64 n] (es.map λx=>(x.key,x.val,x.born)) i=some none/\∀ x∈es,x.key≠.int .i64 n):=by
 induction es with
 | nil=>exact λi=>.inr ⟨rfl,λx hx=>by simp at hx⟩
 | cons e es ih=>
  intro i;obtain⟨m,f,h1,h2,h3⟩:=h e iN;by_cases hm:n=m
  ·subst hm
   exact .inl ⟨i,f,by simp[GU,h1,h2,TX,I7,X9],h3⟩
  ·have hx:GU [1] false [.int .i64 n] ((e::es).map λx=>(x.key,x.val,x.born)) i=GU [1] false [.int .i64 n] (es.map λx=>(x.key,x.val,x.born)) (i+1):=by
    simp[GU,h1,TX,I7,X9,hm]
   rw[hx];rcases ih (λx hx=>h x (by simp[hx])) _ with g | ⟨g1,g2⟩
   ·exact .inl g
   ·refine .inr ⟨g1,λx hx=>?_⟩
    rcases Aq.1 hx with rfl | hx
    ·rw[h1];intro e;injection e with _ e;exact hm e.symm
    ·exact g2 x hx
def Ys(hs:E0 B φ S w){t z}(ht:Wg P t=some z){ok x x' k k' v S'}(hx:Rel φ x x')(hk:Rel φ k k')(h:Ei (.lookG z ok) [x,k] S=some (v,S')) :
  FY P B φ S w (Instr.lookup t x' k' ok) v S':=by
 unfold Wg at ht;split at ht
 case h_2=>cases ht
 rename_i kt e hu;split at ht
 case h_2=>cases ht
 rename_i hki;obtain⟨hzf,hzr⟩:=Om ht;have hinv:∃ n,x=.chan (some 0)/\k=.int .i64 n/\Z3=true/\v=FC z ok ((Ny.lookup n).map λf=>(0,.func (.func f) #[] #[]))/\S'=S:=by
  simp only[Ei] at h;split at h;all_goals first | (cases h;done) | contradiction | skip
  all_goals
   rename_i n e1 e2;obtain⟨rfl,rfl⟩:=iG.lookG.inj e1;simp only[DL,and_true] at e2;obtain⟨rfl,rfl⟩:=e2;split at h
   ·rename_i hg
    obtain⟨rfl,rfl⟩:=Ai (Aa h);exact⟨_,rfl,rfl,hg,rfl,rfl⟩
   ·cases h
 obtain⟨n,rfl,rfl,hg,rfl,rfl⟩:=hinv;obtain⟨b,hb,rfl⟩:∃ b,φ.Fy=some b/\x'=.map (some b):=by
  cases hx with
  | Fy b h=>exact⟨b,h,rfl⟩
 obtain⟨b',t1,t2,t3,_,es',cl,t5,t6,t7⟩:=hs.loops.1 hg;rw[hb] at t1;obtain rfl:=Aa t1;have hkT:P3 P 20 kt=some [1]:=by simp[P3,hki]
 have hkO:keyOf [1] (FI (.int .i64)) (.int .i64 n)=some [.int .i64 n]:=by simp[keyOf,TX,FI]
 obtain⟨c',h3,h4,_,h5⟩:=Kq (w:=w) es'.isEmpty hkT hki hkO hk;have hE:G4 φ (es'.toList.map λx=>(x.key,x.val,x.born)) es'.toList:=by
  refine⟨iN,λi h1 h2=>?_⟩;obtain⟨m,f,g1,g2,_⟩:=t6 es'.toList[i] (Ao h2);rw[AZ];refine⟨?_,?_,rfl⟩
  ·rw[g1];exact .int _ _
  ·rw[g2];exact .jd ⟨rfl,λi h=>by simp at h⟩ ⟨rfl,λi h=>by simp at h⟩
 have hfin:∀ r,GU [1] (FI (.int .i64)) [.int .i64 n] (es'.toList.map λx=>(x.key,x.val,x.born)) 0=some r->r.map (·.2)=(Ny.lookup n).map (λf=>.func (.func f) #[] #[])->
   FY P B φ S' w (Instr.lookup t (.map (some b)) k' ok) (FC z ok ((Ny.lookup n).map λf=>(0,.func (.func f) #[] #[]))) S':=by
  intro r hr hrv;obtain⟨r',h6,h7⟩:=JB (w:=w) hkT hki h3 hE hr;rw[<- h4] at h6;have hlook:FC z ok ((Ny.lookup n).map λf=>(0,(.func (.func f) #[] #[])))=FC z ok r:=by
   unfold FC;have e1:((Ny.lookup n).map λf=>(0,(.func (.func f) #[] #[]))).map (·.2)=r.map (·.2):=by rw[hrv,Option.map_map];rfl
   have e2:((Ny.lookup n).map λf=>(0,(.func (.func f) #[] #[]:Value))).isSome=r.isSome:=by
    have:=congrArg Option.isSome e1;simpa using this
   rw[e1,e2]
  rw[hlook];refine FY.same hs ?_ (MT hzf ok h7);simp only[Instr.lookup,Sem.run_bind,run_underlying hu,Result.andThen_ok,MapKept.run_getObj_map t5,Sem.run_pure,h5,h6];cases r' with
  | none=>cases ok<;>simp[hzr,FC]
  | some p=>cases ok<;>simp[FC]
 rcases lp t6 (n:=n) 0 with ⟨j,f,g1,g2⟩ | ⟨g1,g2⟩
 ·exact hfin _ g1 (by rw[g2];rfl)
 ·refine hfin _ g1 ?_
  cases hl:Ny.lookup n with
  | none=>rfl
  | some f=>obtain⟨x,hx1,hx2⟩:=t7 n f hl;exact absurd hx2 (g2 x hx1)
def Pc(hs:E0 B φ S w){t ks agg e}(ht:Kn P t=some (ks,agg,e)){x x' k k' u u' v S'}(hx:Rel φ x x')(hk:Rel φ k k')(hu':Rel φ u u')(h:Ei (.mapSet ks agg) [x,k,u] S=some (v,S')) :
  v=undef/\∃ w',(Instr.mapUpdate t x' k' u').run P w=.ok () w'/\E0 B φ S' w'/\E6 B φ S w φ S' w':=by
 obtain⟨kt,d,hu,h1,h2,rfl⟩:=LW ht;simp only[Ei,Ae] at h;obtain⟨c,hc,h⟩:=h;split at h
 case h_2=>cases h
 rename_i id;obtain⟨s,hs1,rfl⟩:=Nl hx;split at h
 case h_2=>cases h
 rename_i es cl hg;obtain⟨es',g1,g2⟩:=hs.O9 hs1 hg;obtain⟨c',h3,h4,h40,h5⟩:=Kq (w:=w) false h1 h2 hc hk;simp only[Ab] at h;obtain⟨r,hr,h⟩:=h;obtain⟨r',h6,h7⟩:=JB (w:=w) h1 h2 h3 g2 hr;rw[<- h4] at h6;cases r with
 | none=>
  obtain⟨rfl,rfl⟩:=Ai h;obtain rfl:=h7.Pa;obtain⟨k1,k2⟩:=hs.MS (o':=.map (es++[(k,u,cl)]) (cl+1)) (r':=.map (es'.push { key:=k',val:=u',born:=cl }) (cl+1)) hs1 hg ⟨_,rfl,by rw[Array.toList_push];exact g2.push ⟨hk,hu',rfl⟩⟩;refine⟨rfl,_,?_,k1,k2⟩;simp only[Instr.mapUpdate,Sem.run_bind,run_underlying hu,Result.andThen_ok,MapKept.run_getObj_map g1,h5,h6,MapKept.run_setObj_map _ g1];rfl
 | some p=>
  obtain⟨i,v0⟩:=p;obtain⟨rfl,rfl⟩:=Ai h;obtain⟨v1,rfl,_⟩:=h7.Pb;obtain⟨hi,hsame,hi2,hborn,hent⟩:=UN (Qa hc).1 h3 h4 h40 g2 hr;have hi':i < es'.size:=by simpa using hi
  obtain⟨k1,k2⟩:=hs.MS (o':=.map (es.modify i λe=>(k,u,e.2.2)) cl) (r':=.map (es'.modify i λe=>{ e with key:=k',val:=u' }) cl) hs1 hg ⟨_,rfl,by
   rw[De];exact g2.modify i λe e' he=>⟨hk,hu',he.2.2⟩⟩
  refine⟨rfl,_,?_,k1,k2⟩;have hold:((es'[i]?).map (·.key)).getD k'=es'.toList[i].key:=by rw[Ax _];rfl
  simp only[Instr.mapUpdate,Sem.run_bind,run_underlying hu,Result.andThen_ok,MapKept.run_getObj_map g1,h5,h6,hold,run_keyThatStays hsame,MapKept.run_setObj_map _ g1];rfl
def Wl(hs:E0 B φ S w){t ks agg e z}(ht:Kn P t=some (ks,agg,e))(hz:Oj P e=some z){x x' k k' v S'}(hx:Rel φ x x')(hk:Rel φ k k')(h:Ei (.mapEnt ks agg z) [x,k] S=some (v,S')) :
  FY P B φ S w (Instr.mapEntry t x' k') v S':=by
 obtain⟨kt,d,hu,h1,h2,rfl⟩:=LW ht;obtain⟨hzf,hzr⟩:=Om hz;simp only[Ei,Ae] at h;obtain⟨c,hc,h⟩:=h;split at h
 case h_2=>cases h
 rename_i id;obtain⟨s,hs1,rfl⟩:=Nl hx;split at h
 case h_2=>cases h
 rename_i es cl hg;obtain⟨es',g1,g2⟩:=hs.O9 hs1 hg;obtain⟨c',h3,h4,h40,h5⟩:=Kq (w:=w) false h1 h2 hc hk;simp only[Ab] at h;obtain⟨r,hr,h⟩:=h;obtain⟨r',h6,h7⟩:=JB (w:=w) h1 h2 h3 g2 hr;rw[<- h4] at h6;have hpair:∀ {a a'} n,Rel _ a _->Rel φ (.tuple #[a,.int .i64 n]) (.tuple #[a',.int .i64 n]):=λn ha=>.tuple' ⟨rfl,λi h1 h2=>by
  rcases i with _ | _ | i
  ·exact ha
  ·exact .int _ _
  ·simp at h1;omega⟩
 cases r with
 | none=>
  obtain⟨rfl,rfl⟩:=Ai h;obtain rfl:=h7.Pa;obtain⟨k1,k2⟩:=hs.MS (o':=.map (es++[(k,z,cl)]) (cl+1)) (r':=.map (es'.push { key:=k',val:=z,born:=cl }) (cl+1)) hs1 hg ⟨_,rfl,by rw[Array.toList_push];exact g2.push ⟨hk,HE hzf φ,rfl⟩⟩;refine⟨φ,.tuple #[z,goInt cl],_,?_,hpair _ (HE hzf φ),k1,k2⟩;simp only[Instr.mapEntry,Sem.run_bind,run_underlying hu,Result.andThen_ok,MapKept.run_getObj_map g1,h5,h6,hzr,MapKept.run_setObj_map _ g1,Sem.run_pure];rfl
 | some p=>
  obtain⟨i,v0⟩:=p;obtain⟨rfl,rfl⟩:=Ai h;obtain⟨v1,rfl,hv⟩:=h7.Pb;obtain⟨hi,hsame,hi2,hborn,hent⟩:=UN (Qa hc).1 h3 h4 h40 g2 hr;have hi':i < es'.size:=by simpa using hi
  obtain⟨k1,k2⟩:=hs.MS (o':=.map (es.modify i λe=>(k,e.2.1,e.2.2)) cl) (r':=.map (es'.modify i λe=>{ e with key:=k' }) cl) hs1 hg ⟨_,rfl,by
   rw[De];exact g2.modify i λe e' he=>⟨hk,he.2.1,he.2.2⟩⟩
  have hold:((es'[i]?).map (·.key)).getD k'=es'.toList[i].key:=by rw[Ax hi'];rfl
  have hb:((es'[i]?).map λx=>(x.born:Int)).getD 0=((((es[i]?).map (·.2.2)).getD 0:Nat):Int):=by
   rw[Ax hi',Ah hi2];simpa using congrArg (λn:Nat=>(n:Int)) hborn.symm
  refine⟨φ,.tuple #[v1,goInt (((es[i]?).map (·.2.2)).getD 0:Nat)],_,?_,hpair _ hv,k1,k2⟩;simp only[Instr.mapEntry,Sem.run_bind,run_underlying hu,Result.andThen_ok,MapKept.run_getObj_map g1,h5,h6,hold,run_keyThatStays hsame,MapKept.run_setObj_map _ g1,Sem.run_pure,hb];rfl
def Wm{es}{es':Array _}(h:G4 φ es es'.toList)(b):es'.findIdx? (λe=>(e.born:Int) == b)=es.findIdx? (λe=>((e.2.2):Int) == b):=by
 obtain⟨l⟩:=es';rw[List.findIdx?_toArray]
 induction es generalizing l with
 | nil=>
  obtain rfl:l=[]:=Ak h.1.symm;rfl
 | cons e es ih=>
  cases l with
  | nil=>have:=h.1;grind
  | cons e' l=>
   obtain⟨h1,h2⟩:=h.tail;simp only[List.findIdx?_cons,ih l h2,h1.2.2]
def Wn(hs:E0 B φ S w){t x x' k k' u u' v S'}(hx:Rel φ x x')(hk:Rel φ k k')(hu':Rel φ u u')(h:Ei .entSet [x,k,u] S=some (v,S')) :
  v=undef/\∃ w',(Instr.entryStore t x' k' u').run P w=.ok () w'/\E0 B φ S' w'/\E6 B φ S w φ S' w':=by
 cases hx
 case map id s hs1=>
  cases hk
  case int kk b=>
   cases kk
   case i64=>
    simp only[Ei] at h;split at h
    case h_2=>cases h
    rename_i es cl hg;obtain⟨es',g1,g2⟩:=hs.O9 hs1 hg;split at h
    case h_2=>cases h
    rename_i i hi;obtain⟨rfl,rfl⟩:=Ai (Aa h);obtain⟨k1,k2⟩:=hs.MS (o':=.map (es.modify i λe=>(e.1,u,e.2.2)) _) (r':=.map (es'.modify i λe=>{ e with val:=u' }) _) hs1 hg ⟨_,rfl,by
     rw[De];exact g2.modify i λe e' he=>⟨he.1,hu',he.2.2⟩⟩
    refine⟨rfl,_,?_,k1,k2⟩;have hint:(asInt (.int .i64 b)).run P w=.ok b w:=rfl;simp only[Instr.entryStore,Sem.run_bind,MapKept.run_getObj_map g1,Result.andThen_ok,hint,Wm g2,hi,MapKept.run_setObj_map _ g1];rfl
   all_goals (simp[Ei] at h;done)
  all_goals (simp[Ei] at h;done)
 all_goals (simp[Ei] at h;done)
def Wo(hs:E0 B φ S w){t u ty ks agg e}(ht:Kn P t=some (ks,agg,e)){x x' k k' v S'}(hx:Rel φ x x')(hk:Rel φ k k')(h:Ei (.mapDel ks agg) [x,k] S=some (v,S')) :
  FY P B φ S w (Builtin.delete_ #[t,u] ty #[x',k']) v S':=by
 obtain⟨kt,d,hu,h1,h2,rfl⟩:=LW ht;have hnil:Rel _ _ _:=Rel.undef φ;simp only[Ei,Ae] at h;obtain⟨c,hc,h⟩:=h;split at h
 ·obtain⟨rfl,rfl⟩:=Ai (Aa h)
  obtain rfl:=On hx;obtain⟨c',_,_,_,h4⟩:=Kq (w:=w) _ h1 h2 hc hk;refine FY.same hs (v':=.tuple #[]) ?_ hnil;have h4':(Instr.checkKey true _ _ _).run P w=.ok _ w:=h4;simp[Builtin.delete_,run_underlying hu,h4']
 ·rename_i id
  obtain⟨s,hs1,rfl⟩:=Nl hx;split at h
  case h_2=>cases h
  rename_i es cl hg;obtain⟨es',g1,g2⟩:=hs.O9 hs1 hg;obtain⟨c',h3,h4,h40,h5⟩:=Kq (w:=w) es'.isEmpty h1 h2 hc hk;simp only[Ab] at h;obtain⟨r,hr,h⟩:=h;obtain⟨r',h6,h7⟩:=JB (w:=w) h1 h2 h3 g2 hr;rw[<- h4] at h6;cases r with
  | none=>
   obtain⟨rfl,rfl⟩:=Ai h;obtain rfl:=h7.Pa;obtain⟨k1,k2⟩:=hs.MS (o':=.map es cl) (r':=.map es' cl) hs1 hg ⟨_,rfl,g2⟩;refine⟨φ,.tuple _,_,?_,hnil,k1,k2⟩;simp only[Builtin.delete_,BX,BH,BQ,Sem.run_bind,run_underlying hu,Result.andThen_ok,MapKept.run_getObj_map g1,h5,h6,MapKept.run_setObj_map _ g1,Sem.run_pure];rfl
  | some p=>
   obtain⟨i,v0⟩:=p;obtain⟨rfl,rfl⟩:=Ai h;obtain⟨v1,rfl,hv⟩:=h7.Pb;obtain⟨k1,k2⟩:=hs.MS (o':=.map (es.eraseIdx i) cl) (r':=.map (es'.eraseIdxIfInBounds i) cl) hs1 hg ⟨_,rfl,by
    rw[Array.toList_eraseIdxIfInBounds];exact g2.eraseIdx i⟩
   refine⟨φ,.tuple _,_,?_,hnil,k1,k2⟩;simp only[Builtin.delete_,BX,BH,BQ,Sem.run_bind,run_underlying hu,Result.andThen_ok,MapKept.run_getObj_map g1,h5,h6,MapKept.run_setObj_map _ g1,Sem.run_pure];rfl
 ·cases h
def Wp(hs:E0 B φ S w){t kt et ty}(hu:P.underlying t=some (.map kt et)){x x' v S'}(hx:Rel φ x x')(h:Ei .mapLen [x] S=some (v,S')) :
  FY P B φ S w (Builtin.len_ #[t] ty #[x']) v S':=by
 cases hx
 case mapNil=>
  obtain⟨rfl,rfl⟩:=Ai (Aa h);exact FY.same hs (v':=.int .i64 0) (by simp[Builtin.len_,run_underlying hu,goInt]) (.int _ _)
 case map id s hs1=>
  simp only[Ei] at h;split at h
  case h_2=>cases h
  rename_i es cl hg;obtain⟨es',g1,g2⟩:=hs.O9 hs1 hg;obtain⟨rfl,rfl⟩:=Ai (Aa h);have hl:es'.size=es.length:=by rw[g2.1];simp
  exact FY.same hs (v':=.int .i64 es.length) (by simp[Builtin.len_,run_underlying hu,MapKept.run_getObj_map g1,goInt,hl]) (.int _ _)
 all_goals (simp[Ei] at h;done)
def Wq(hs:E0 B φ S w){t et ty}(hu:P.underlying t=some (.slice et)){x x' v S'}(hx:Rel φ x x')(h:Ei .capNil [x] S=some (v,S')) :
  FY P B φ S w (Builtin.cap_ #[t] ty #[x']) v S':=by
 cases hx
 case sliceNil=>
  obtain⟨rfl,rfl⟩:=Ai (Aa h);exact FY.same hs (v':=.int _ 0) (by simp[Builtin.cap_,run_underlying hu,goInt]) (.int _ _)
 all_goals (simp[Ei] at h)
def Mk{r s p}(hb:w.heap[r]? = some (.stringIter s p)):(getObj r).run P w=.ok (.stringIter s p) w:=by
 simp[getObj,Sem.run,hb]
def Rh{r s p}(o)(hb:w.heap[r]? = some (.stringIter s p)):(setObj r o).run P w=.ok () (w.putObj r o):=by
 simp[setObj,Sem.run,hb,World.putObj]
def T2(hs:E0 B φ S w)(hB:B<=w.heap.size){t}(hu:P.underlying t=some .string){x x' v S'}(hx:Rel φ x x')(h:Ei .iterStr [x] S=some (v,S')) :
  FY P B φ S w (Instr.range t x') v S':=by
 cases hx
 case string s0=>
  obtain⟨rfl,rfl⟩:=Ai (Aa h);obtain⟨k1,k2⟩:=hs.Wa hB (o:=.iter _ 0) (r:=.stringIter _ 0) rfl;refine⟨_,.pointer (some ⟨w.heap.size,0,none⟩),_,?_,?_,k1,k2⟩
  ·simp[Instr.range,run_underlying hu]
  ·have:=Rel.ptr (φ:=φ.add S.next ⟨w.heap.size,0,0,0⟩) _ 0 _ (Es.add_same _ _ _)
   omega
 all_goals (simp[Ei] at h)
def T3(hs:E0 B φ S w){t x x' v S'}(hx:Rel φ x x')(h:Ei .nextStr [x] S=some (v,S')) :
  FY P B φ S w (Instr.next x' true t) v S':=by
 cases hx
 case ptr id o s hs1=>
  cases o with
  | succ o=>simp[Ei] at h
  | zero=>
   simp only[Ei] at h;split at h
   case h_2=>cases h
   rename_i s0 p hg;obtain⟨⟨_,hb0⟩,⟨r,g1,g2⟩,_⟩:=hs.loops.2 _ s _ hs1 hg;have g2:r=.stringIter _ p:=g2;subst g2;rw[hb0,A8];split at h
   ·rename_i hp
    obtain⟨rfl,rfl⟩:=Ai (Aa h);obtain⟨k1,k2⟩:=hs.MS (o':=.iter s0 (p+(Utf8.decode s0 p).2)) (r':=.stringIter s0 (p+(Utf8.decode s0 p).2)) hs1 hg rfl;refine⟨φ,.tuple #[.bool true,.int .i64 p,.int .i32 (Utf8.decode s0 p).1],_,?_,.tuple' ⟨rfl,λi h1 h2=>?_⟩,k1,k2⟩
    ·simp[Instr.next,Mk g1,Rh _ g1,hp,goInt]
    ·rcases i with _ | _ | _ | i
     ·exact .bool _
     ·exact .int _ _
     ·exact .int _ _
     ·simp at h1;omega
   ·rename_i hp
    obtain⟨rfl,rfl⟩:=Ai (Aa h);refine FY.same hs (v':=.tuple #[.bool false]) ?_ (.tuple' ⟨rfl,λi h1 h2=>?_⟩)
    ·simp[Instr.next,Mk g1,hp]
    ·rcases i with _ | i
     ·exact .bool _
     ·simp at h1
 all_goals (simp[Ei] at h;done)
def lq{φ}(s):∀ {es} {l},G4 φ es l->∀ {e},es.find? (λe=>e.2.2 == s)=some e->∃ e',l.find? (λe=>e.born == s)=some e'/\TW φ e e':=by
 intro es
 induction es with
 | nil=>grind
 | cons x es ih=>
  intro l hr e h;cases l with
  | nil=>have:=hr.1;grind
  | cons y l=>
   have h1:TW _ x y:=hr.2 0 iN iN;have h2:G4 _ _ l:=⟨by simpa using hr.1,λi a b=>hr.2 (i+1) IN IN⟩
   simp only[List.find?_cons] at h |-;rw[<- h1.2.2]
   grind
def T5(hs:E0 B φ S w)(hB:B<=w.heap.size){t kt et}(hu:P.underlying t=some (.map kt et)){x x' v S'}(hx:Rel φ x x')(h:Ei .iterMap [x] S=some (v,S')) :
  FY P B φ S w (Instr.range t x') v S':=by
 have fin:∀ m m' c,Rel φ (.map m) (.map m')->(Instr.range t x').run P w=.ok (.pointer (some ⟨w.heap.size,0,none⟩)) (w.alloc (.mapIter m' c #[] c))->FY P B φ S w (Instr.range t x') (.pointer (some ⟨S.next,0,none⟩)) (S.alloc (.mapIter m c [] c)):=by
  intro m m' c hm hr;obtain⟨k1,k2⟩:=hs.Wa hB (o:=.mapIter m c [] c) (r:=.mapIter _ c #[] c) ⟨m',rfl,hm⟩;refine⟨_,.pointer _,_,hr,?_,k1,k2⟩;have:=Rel.ptr (φ:=φ.add S.next ⟨w.heap.size,0,0,0⟩) _ 0 _ (Es.add_same _ _ _);simpa using this
 cases hx
 case mapNil=>
  obtain⟨rfl,rfl⟩:=Ai (Aa h);exact fin _ _ 0 .mapNil (by simp[Instr.range,run_underlying hu])
 case map id s hs1=>
  simp only[Ei] at h;split at h
  case h_2=>cases h
  rename_i es cl hg;obtain⟨es',g1,g2⟩:=hs.O9 hs1 hg;obtain⟨rfl,rfl⟩:=Ai (Aa h);exact fin _ _ _ (.map id s hs1) (by simp[Instr.range,run_underlying hu,MapKept.run_getObj_map g1])
 all_goals (simp[Ei] at h;done)
def Kr{r m s c seen}(hb:w.heap[r]? = some (.mapIter m s seen c)):(getObj r).run P w=.ok (.mapIter m s seen c) w:=by
 simp[getObj,Sem.run,hb]
def Wr(hs:E0 B φ S w){x x' v S'}(hx:Rel φ x x')(h:Ei .entMap [x] S=some (v,S')) :
  FY P B φ S w (Instr.entry x') v S':=by
 cases hx
 case ptr id o s hs1=>
  cases o with
  | succ o=>simp[Ei] at h
  | zero=>
   simp only[Ei] at h;split at h
   case h_2=>cases h
   rename_i m since seen last hg;split at h
   case h_2=>cases h
   rename_i es cl hg2;split at h
   case isFalse=>cases h
   rename_i hcl;simp only[Ae,Ab] at h;obtain⟨st,hst,e,he,h⟩:=h;obtain⟨rfl,rfl⟩:=Ai h;obtain⟨⟨_,hb0⟩,⟨r,g1,g2⟩,_⟩:=hs.loops.2 _ s _ hs1 hg;obtain⟨m',rfl,hm⟩:=g2;obtain⟨s2,hs2,e2⟩:=Nl hm;obtain rfl:m'=some _:=by injection e2
   obtain⟨es',q1,q2⟩:=hs.O9 hs2 hg2;obtain⟨e',p1,p2⟩:=lq _ q2 he;rw[hb0,A8];refine FY.same hs (v':=.tuple #[e'.key,e'.val]) ?_ (.tuple' ⟨rfl,λi h1 h2=>?_⟩)
   ·have hbk:seen.toArray.back? = some st:=by rw[List.back?_toArray];exact hst
    have hfd:es'.find? (λe=>e.born == st)=some e':=by rw[<- Array.find?_toList];exact p1
    simp[Instr.entry,Kr g1,MapKept.run_getObj_map q1,hbk,hcl,hfd]
   ·rcases i with _ | _ | i
    ·exact p2.1
    ·exact p2.2.1
    ·simp at h1;omega
 all_goals (simp[Ei] at h;done)
def T6(hs:E0 B φ S w){t x x' v S'}(hx:Rel φ x x')(h:Ei .nextMap [x] S=some (v,S')) :
  FY P B φ S w (Instr.next x' false t) v S':=by
 have hno:Rel φ _ (.tuple #[.bool false]):=.tuple' ⟨rfl,λi h1 h2=>by
  rcases i with _ | i
  ·exact .bool _
  ·simp at h1⟩
 cases hx
 case ptr id o s hs1=>
  cases o with
  | succ o=>simp[Ei] at h
  | zero=>
   simp only[Ei] at h;split at h
   ·rename_i hg
    obtain⟨rfl,rfl⟩:=Ai (Aa h);obtain⟨⟨_,hb0⟩,⟨r,g1,g2⟩,_⟩:=hs.loops.2 _ s _ hs1 hg;obtain⟨m',rfl,hm⟩:=g2;obtain rfl:=Value.map.inj (On hm);rw[hb0,A8];exact FY.same hs (v':=.tuple #[.bool false]) (by simp[Instr.next,Kr g1]) hno
   ·rename_i m c seen l hg
    split at h
    case h_2=>cases h
    rename_i cl hg2;split at h
    case isFalse=>cases h
    rename_i hcl;obtain⟨rfl,rfl⟩:=hcl;obtain⟨rfl,rfl⟩:=Ai (Aa h);obtain⟨⟨_,hb0⟩,⟨r,g1,g2⟩,_⟩:=hs.loops.2 _ s _ hs1 hg;obtain⟨m',rfl,hm⟩:=g2;obtain⟨s2,hs2,e2⟩:=Nl hm;obtain rfl:m'=some _:=by injection e2
    obtain⟨es',q1,q2⟩:=hs.O9 hs2 hg2;have he:es'=#[]:=Cr (by have:=q2.1;simpa using this.symm);subst he;rw[hb0,A8];refine FY.same hs (v':=.tuple #[.bool false]) ?_ hno;rcases run_next_at (P:=P) w t s.b s2.b _ _ seen.toArray #[] _ g1 q1 (λx hx=>by simp at hx) (Af _) with ⟨_,hr⟩ | ⟨e,he,_⟩
    ·exact hr
    ·unfold leftOf at he;simp at he
   ·cases h
 all_goals (simp[Ei] at h;done)
def qg{s v S' w'}(hr:s.run P w=.ok () w')(hv:v=undef)(h1:E0 B φ S' w')(h2:E6 B φ S w φ S' w'):FK P B φ S w (do s;pure .skip) v S':=
 ⟨φ,undef,w',.inr ⟨by simp[hr],rfl⟩,by rw[hv];exact Rel.undef _,h1,h2⟩
def QH(hs:E0 B φ S w)(hB:B<=w.heap.size){o e l}(ht:Nj P o.op=some (e,l)){ρa ρc}(hρ:∀ x∈o.op.operands,Rel φ (ρa x) (ρc x)){v S'}(h:Ei e (l.map ρa) S=some (v,S')) :
  FK P B φ S w (execOp ρc o) v S':=by
 unfold Nj at ht;split at ht
 case h_1 t ho=>
  obtain⟨rfl,rfl⟩:=Ai (Aa ht);obtain⟨rfl,rfl⟩:=Ai (Aa h);obtain⟨k1,k2⟩:=hs.Wa hB (o:=.map [] 0) (r:=.map #[] 0) ⟨#[],rfl,rfl,λi h=>by simp at h⟩;have:FY P B _ S w (Instr.makeMap t none) _ _:=⟨_,.map _,_,by simp[Instr.makeMap],.map _ _ (Es.add_same _ _ _),k1,k2⟩
  simpa [execOp,ho] using FK.Rx this
 case h_2 t x k ok ho=>
  split at ht
  ·simp only[Ab] at ht
   obtain⟨z,h1,h3⟩:=ht;obtain⟨rfl,rfl⟩:=Ai h3;have:=FK.Rx (Ys (P:=P) hs h1 (hρ x ag0) (hρ k ag0) h);simpa [execOp,ho] using this
  simp only[Ae,Ab] at ht;obtain⟨⟨ks,agg,et⟩,h1,z,h2,h3⟩:=ht;obtain⟨rfl,rfl⟩:=Ai h3;have:=FK.Rx (Wk (P:=P) hs h1 h2 (hρ x ag0) (hρ k ag0) h);simpa [execOp,ho] using this
 case h_3 t m k x ho=>
  simp only[Ab] at ht;obtain⟨⟨ks,agg,et⟩,h1,h3⟩:=ht;obtain⟨rfl,rfl⟩:=Ai h3;obtain⟨hv,w',hr,k1,k2⟩:=Pc (P:=P) hs h1 (hρ m ag0) (hρ k ag0) (hρ x ag0) h;simpa [execOp,ho] using qg hr hv k1 k2
 case h_4 t m k x ho=>
  simp only[Ab] at ht;obtain⟨⟨ks,agg,et⟩,h1,h3⟩:=ht;obtain⟨rfl,rfl⟩:=Ai h3;obtain⟨hv,w',hr,k1,k2⟩:=Pc (P:=P) hs h1 (hρ m ag0) (hρ k ag0) (hρ x ag0) h;simpa [execOp,ho] using qg hr hv k1 k2
 case h_5 t m k ho=>
  simp only[Ae,Ab] at ht;obtain⟨⟨ks,agg,et⟩,h1,z,h2,h3⟩:=ht;obtain⟨rfl,rfl⟩:=Ai h3;have:=FK.Rx (Wl (P:=P) hs h1 h2 (hρ m ag0) (hρ k ag0) h);simpa [execOp,ho] using this
 case h_6 t m k x ho=>
  obtain⟨rfl,rfl⟩:=Ai (Aa ht);obtain⟨hv,w',hr,k1,k2⟩:=Wn (P:=P) (t:=t) hs (hρ m ag0) (hρ k ag0) (hρ x ag0) h;simpa [execOp,ho] using qg hr hv k1 k2
 case h_7 t x ho=>
  split at ht
  case h_3=>cases ht
  ·rename_i hu
   obtain⟨rfl,rfl⟩:=Ai (Aa ht);have:=FK.Rx (T2 (P:=P) hs hB hu (hρ x ag0) h);simpa [execOp,ho] using this
  ·rename_i hu
   obtain⟨rfl,rfl⟩:=Ai (Aa ht);have:=FK.Rx (T5 (P:=P) hs hB hu (hρ x ag0) h);simpa [execOp,ho] using this
 case h_8 x ho=>
  obtain⟨rfl,rfl⟩:=Ai (Aa ht);have:=FK.Rx (T3 (P:=P) (t:=o.type) hs (hρ x ag0) h);simpa [execOp,ho] using this
 case h_9 x ho=>
  obtain⟨rfl,rfl⟩:=Ai (Aa ht);have:=FK.Rx (T6 (P:=P) (t:=o.type) hs (hρ x ag0) h);simpa [execOp,ho] using this
 case h_10 x ho=>
  obtain⟨rfl,rfl⟩:=Ai (Aa ht);have:=FK.Rx (Wr (P:=P) hs (hρ x ag0) h);simpa [execOp,ho] using this
 case h_11 c ho=>
  obtain⟨callee,args,argTypes⟩:=c;have hargs:∀ x∈args,Rel φ (ρa x) (ρc x):=λx hx=>hρ x (by simp[ho,Op.operands,Call.operands,hx])
  have hexec:∀ b,callee=.builtin b->execOp ρc o=builtin b argTypes o.type (args.map λ| .const _=>true | _=>false) (args.map ρc):=by
   intro b hb;subst hb;unfold execOp;simp only[ho,resolve];rfl
  simp only at ht;split at ht
  ·rename_i x t hx1 hx2
   rw[hexec _ rfl];have ha:args=#[x]:=by apply BA;simpa using hx1
   have hb:argTypes=#[t]:=by apply BA;simpa using hx2
   subst ha;subst hb;split at ht
   case h_2=>cases ht
   rename_i kt et hu;obtain⟨rfl,rfl⟩:=Ai (Aa ht);have:=FK.Rx (Wp (P:=P) (ty:=o.type) hs hu (hargs x iN) h);simpa [builtin] using this
  ·rename_i x t hx1 hx2
   rw[hexec _ rfl];have ha:args=#[x]:=by apply BA;simpa using hx1
   have hb:argTypes=#[t]:=by apply BA;simpa using hx2
   subst ha;subst hb;split at ht
   case h_2=>cases ht
   rename_i et hu;obtain⟨rfl,rfl⟩:=Ai (Aa ht);have:=FK.Rx (Wq (P:=P) (ty:=o.type) hs hu (hargs x iN) h);simpa [builtin] using this
  ·rename_i m k t u hx1 hx2
   rw[hexec _ rfl];have ha:args=#[m,k]:=by apply BA;simpa using hx1
   have hb:argTypes=#[t,u]:=by apply BA;simpa using hx2
   subst ha;subst hb;simp only[Ab] at ht;obtain⟨⟨ks,agg,et⟩,h1,h3⟩:=ht;obtain⟨rfl,rfl⟩:=Ai h3;have:=FK.Rx (Wo (P:=P) (u:=u) (ty:=o.type) hs h1 (hargs m iN) (hargs k iN) h);simpa [builtin] using this
  ·cases ht
 case h_12=>cases ht
end
section
variable {P:Program}{B:Nat}{φ:Es}{S:St}{w:World}
def UL{l:List Operand}{ρa ρc}(h:∀ x∈l,Rel φ (ρa x) (ρc x)):FX φ (l.map ρa) (l.map ρc):=
 ⟨iN,λi h1 h2=>IN⟩
def Lo{l:Array Operand}{ρa ρc}(h:∀ x∈l,Rel φ (ρa x) (ρc x)):Gb φ (l.map ρa) (l.map ρc):=
 ⟨iN,λi h1 h2=>IN⟩
def Sx(mx):∀ l l' a k v,H0 mx a k l=some v->FX φ l l'->(l'.foldlM (if mx then Builtin.max2 else Builtin.min2) (.int k a)).run P w=.ok v w/\Rel φ v v:=by
 intro l
 induction l with
 | nil=>
  intro l' a k v h hr;obtain rfl:l'=[]:=Ak hr.1.symm;obtain rfl:=Aa h;exact⟨iN,.int _ _⟩
 | cons x l ih=>
  intro l' a k v h hr;cases l' with
  | nil=>have:=hr.1;grind
  | cons x' l'=>
   have hx:=hr.2 0 iN iN;simp only[BB] at hx;cases x with
   | int j b=>
    rw[HL hx];simp only[H0] at h;split at h
    case isFalse=>cases h
    obtain⟨h1,h2⟩:=ih _ _ _ v h hr.tail;refine⟨?_,h2⟩;cases mx
    ·simpa [Builtin.min2] using h1
    ·simpa [Builtin.max2] using h1
   | _=>simp[H0] at h
def Adm{s v S' w'}(hr:s.run P w=.ok () w')(hv:v=undef)(h1:E0 B φ S' w')(h2:E6 B φ S w φ S' w'):FK P B φ S w (do s;pure .skip) v S':=
 ⟨φ,undef,w',.inr ⟨by simp[hr],rfl⟩,by rw[hv];exact Rel.undef _,h1,h2⟩
def Kp{t e i z}(h:MP P t=some (e,i,z)):P.underlying t=some (.slice e)/\P.info? e=some i/\i.zero=some z/\z.cells.size=i.size/\EC z.cells.toList=true:=by
 unfold MP at h
 grind
def HT{b s v S' argTypes ty consts args}(e:builtin b argTypes ty consts args=(do pure (.value (<- s))))(h:FY P B φ S w s v S'):FK P B φ S w (builtin b argTypes ty consts args) v S':=by
 rw[e];exact FK.Rx h
def Wh(hs:E0 B φ S w)(hB:B<=w.heap.size){o c}(ho:o.op=.call c){xo}(ht:Sv P c=some xo){ρa ρc}(hρ:∀ x∈c.operands,Rel φ (ρa x) (ρc x)){v S'}(h:EF xo ρa S=some (v,S')) :
  FK P B φ S w (execOp ρc o) v S':=by
 have hargs:∀ x∈c.args,Rel φ (ρa x) (ρc x):=λx hx=>hρ x (by simp[Call.operands,hx])
 obtain⟨callee,args,argTypes⟩:=c;have hexec:∀ b,callee=.builtin b->execOp ρc o=builtin b argTypes o.type (args.map λ| .const _=>true | _=>false) (args.map ρc):=by
  intro b hb;subst hb;unfold execOp;simp only[ho,resolve];rfl
 unfold Sv at ht;simp only at ht hargs;split at ht
 ·
  rename_i x t hx1 hx2;rw[hexec _ rfl];have ha:args=#[x]:=by apply BA;simpa using hx1
  have hb:argTypes=#[t]:=by apply BA;simpa using hx2
  subst ha;subst hb;have hx:=hargs x iN;split at ht
  ·rename_i e hu
   obtain rfl:=Aa ht;simp only[EF] at h;split at h
   case h_2=>cases h
   rename_i a n c0 e1;obtain⟨rfl,rfl⟩:=Ai (Aa h);rw[e1] at hx;refine HT (s:=Builtin.len_ #[t] o.type #[ρc x]) (by simp[builtin]) (FY.same hs (v':=.int .i64 n) ?_ (.int _ _))
   revert hx
   generalize ρc x=u';intro hx;cases hx<;>simp[Builtin.len_,run_underlying hu,goInt]
  ·rename_i hu
   obtain rfl:=Aa ht;simp only[EF] at h;split at h
   case h_2=>cases h
   rename_i q e1;obtain⟨rfl,rfl⟩:=Ai (Aa h);rw[e1] at hx;refine HT (s:=Builtin.len_ #[t] o.type #[ρc x]) (by simp[builtin]) (FY.same hs (v':=.int .i64 q.size) ?_ (.int _ _));simp[Jf hx,Builtin.len_,run_underlying hu,goInt]
  ·cases ht
 ·
  rename_i s x t u hx1 hx2;rw[hexec _ rfl];have ha:args=#[s,x]:=by apply BA;simpa using hx1
  have hb:argTypes=#[t,u]:=by apply BA;simpa using hx2
  subst ha;subst hb;split at ht
  case isFalse=>cases ht
  rename_i e;subst e;simp only[Ab] at ht;obtain⟨⟨e,i,z⟩,hte,rfl⟩:=ht;obtain⟨h1,h2,h3,h4,h5⟩:=Kp hte;exact HT (s:=Builtin.append_ #[t,t] o.type #[ρc s,ρc x]) (by simp[builtin]) (Wd hs hB h1 h2 h3 h4 (hargs s iN) (hargs x iN) h)
 ·
  rename_i s x t u hx1 hx2;rw[hexec _ rfl];have ha:args=#[s,x]:=by apply BA;simpa using hx1
  have hb:argTypes=#[t,u]:=by apply BA;simpa using hx2
  subst ha;subst hb;simp only[Ab] at ht;obtain⟨⟨e,i,z⟩,hte,rfl⟩:=ht;obtain⟨h1,h2,h3,h4,h5⟩:=Kp hte;exact HT (s:=Builtin.copy_ #[t,u] o.type #[ρc s,ρc x]) (by simp[builtin]) (eX hs h1 h2 (hargs s iN) (hargs x iN) h)
 ·
  rename_i x t hx1 hx2;rw[hexec _ rfl];have ha:args=#[x]:=by apply BA;simpa using hx1
  have hb:argTypes=#[t]:=by apply BA;simpa using hx2
  subst ha;subst hb;simp only[Ab] at ht;obtain⟨⟨e,i,z⟩,hte,rfl⟩:=ht;obtain⟨h1,h2,h3,h4,h5⟩:=Kp hte;exact HT (s:=Builtin.clear_ #[t] o.type #[ρc x]) (by simp[builtin]) (kS hs h1 h2 h3 h5 (hargs x iN) h)
 ·
  rename_i x l hx1;rw[hexec _ rfl];have ha:args=(x::l).toArray:=by apply BA;simpa using hx1
  subst ha;obtain rfl:=Aa ht;simp only[EF] at h;split at h
  case h_2=>cases h
  rename_i k a e1;simp only[Ab,AA] at h;obtain⟨v0,h,rfl,rfl⟩:=h;have hx:=hargs x iN;rw[e1] at hx;obtain⟨h1,h2⟩:=Sx (P:=P) (w:=w) false (l.map ρa) (l.map ρc) a k v0 h (UL λy hy=>hargs y (by simp[hy]));refine HT (s:=Builtin.min_ argTypes o.type (((x::l).toArray).map ρc)) (by simp[builtin]) (FY.same hs (v':=v0) ?_ h2);simp only[AW,if_false] at h1;simp[Builtin.min_,HL hx];simpa using h1
 ·
  rename_i x l hx1;rw[hexec _ rfl];have ha:args=(x::l).toArray:=by apply BA;simpa using hx1
  subst ha;obtain rfl:=Aa ht;simp only[EF] at h;split at h
  case h_2=>cases h
  rename_i k a e1;simp only[Ab,AA] at h;obtain⟨v0,h,rfl,rfl⟩:=h;have hx:=hargs x iN;rw[e1] at hx;obtain⟨h1,h2⟩:=Sx (P:=P) (w:=w) true (l.map ρa) (l.map ρc) a k v0 h (UL λy hy=>hargs y (by simp[hy]));refine HT (s:=Builtin.max_ argTypes o.type (((x::l).toArray).map ρc)) (by simp[builtin]) (FY.same hs (v':=v0) ?_ h2);simp only[if_true] at h1;simp[Builtin.max_,HL hx];simpa using h1
 ·
  split at ht
  ·split at ht
   ·obtain rfl:=Aa ht
    simp[EF] at h
   ·cases ht
  ·cases ht
 ·obtain rfl:=Aa ht
  simp[EF] at h
 ·cases ht
def P6{ps:List (Nat × Nat × Operand)}{ρa ρc:Operand->Value}(h:∀ p∈ps,Rel φ (ρa p.2.2) (ρc p.2.2)){z l}(hz:EC z=true)(hf:Hk z (ps.map λp=>(p.1,p.2.1,ρa p.2.2))=some l) :
  ∃ l',Hk z (ps.map λp=>(p.1,p.2.1,ρc p.2.2))=some l'/\FX φ l l':=
 kU _ _ z z l (Nh hz _) iN (λi h1 h2=>⟨iN,iN,IN⟩) hf
def Yj:∀ (l:List Field) w zs,(l.mapM λf=>(P.info? f.type).map λi=>(f.offset,i.size))=some zs->
  ((l.mapM λf=>(do pure (f.offset,<- sizeOf f.type):Sem (Nat × Nat))).run P w)=.ok zs w:=by
 intro l
 induction l with
 | nil=>simp_all
 | cons f l ih=>
  intro w zs h;simp only[BF,BT,Ae,Ab] at h;obtain⟨q,⟨i,hi,rfl⟩,r,hr,h⟩:=h;simp at h;subst h;have hz:=Ga (w:=w) _ i hi
  simp_all
def fk{zs:List (Nat × Nat)}:∀ {parts:List (Nat × Operand)} {ps},(parts.mapM λp=>(zs[p.1]?).map λq=>(q.1,q.2,p.2))=some ps->
  parts.length=ps.length/\∀ i h (h':i < ps.length),zs[parts[i].1]? = some (ps[i].1,ps[i].2.1)/\parts[i].2=ps[i].2.2:=by
 intro parts
 induction parts with
 | nil=>grind
 | cons p parts ih=>
  intro ps h;simp only[BF,BT,Ae,Ab] at h
  grind
def Yk(hs:E0 B φ S w){t i z}(hi:P.info? t=some i)(hz:i.zero=some z)(hzf:EC z.cells.toList=true){parts:Array _}{ps}(hp:Wf P t parts.toList=some ps)
  {ρa ρc:Operand->Value} (hρ:∀ p∈parts,Rel φ (ρa p.2) (ρc p.2)) {l} (h:Hk z.cells.toList (ps.map λp=>(p.1,p.2.1,ρa p.2.2))=some l) :
  FY P B φ S w (Instr.build t (parts.map λ(i,x)=>(i,ρc x))) (.agg l.toArray) S:=by
 unfold Wf at hp;split at hp
 ·rename_i fs hu
  simp only[Ae] at hp;obtain⟨zs,hzs,hps⟩:=hp;obtain⟨hl,hget⟩:=fk hps;have hrel:∀ p∈ps,Rel φ (ρa p.2.2) (ρc p.2.2):=by
   intro p hp;obtain⟨j,hj,rfl⟩:=AN hp;rw[<- (hget j dO _).2];exact hρ _ (by have:=Ao (l:=parts.toList) (show j < parts.toList.length by omega);simpa using this)
  obtain⟨l',hf,hr⟩:=P6 hrel hzf h;have hm:=Yj (P:=P) _ w _ hzs;refine FY.same hs (v':=.agg l'.toArray) ?_ (.pS hr.tc);have hfill:=fill_eq (λj=>zs.toArray[j]?) ((parts.map λ(i,x)=>(i,ρc x)).toList) _ _ _ (by simp[hl]) (λj h1 h2=>by
   have:=hget j ac0 ad0;simp at this |-;exact⟨this.1,by rw[this.2]⟩) hf
  have hmA:(fs.mapM λf=>(do pure (f.offset,<- sizeOf f.type):Sem (Nat × Nat))).run P w=.ok zs.toArray w:=by
   rw[<- C6 (xs:=fs),List.mapM_toArray,Sem.run_map,hm];rfl
  simp only[Instr.build,Sem.run_bind,zeroValue,typeInfo,run_program,Result.andThen_ok,hi,Sem.run_pure,hz,run_underlying hu,hmA,hfill]
 ·rename_i n e hu
  simp only[Ab] at hp;obtain⟨j,hj,rfl⟩:=hp;have hrel:∀ p∈(parts.toList.map λp=>(p.1 * j.size,j.size,p.2)),Rel φ (ρa p.2.2) (ρc p.2.2):=by
   intro p hp;simp only[AT] at hp;obtain⟨q,hq,rfl⟩:=hp;exact hρ q (by simpa using hq)
  obtain⟨l',hf,hr⟩:=P6 hrel hzf h;refine FY.same hs (v':=.agg l'.toArray) ?_ (.pS hr.tc);have hzz:=Ga (w:=w) e j hj;have hfill:=fill_eq (λi=>some (i * j.size,j.size)) ((parts.map λ(i,x)=>(i,ρc x)).toList) _ z.cells l' iN (λj h1 h2=>by simp) hf;simp only[Instr.build,Sem.run_bind,zeroValue,typeInfo,run_program,Result.andThen_ok,hi,Sem.run_pure,hz,run_underlying hu,hzz,hfill]
 ·cases hp
def P7(hs:E0 B φ S w)(hB:B<=w.heap.size){t e i z}(hte:MP P t=some (e,i,z)){n}(hn:n * i.size<=16777216){parts:Array (Nat × Operand)}
  {ρa ρc:Operand->Value} (hρ:∀ p∈parts,Rel φ (ρa p.2) (ρc p.2)) {l} (h:Hk (rep n z.cells.toList) ((parts.toList.map λp=>(p.1 * i.size,i.size,p.2)).map λp=>(p.1,p.2.1,ρa p.2.2))=some l) (hone:E5 l=true) :
  FY P B φ S w (Instr.buildSlice t n (parts.map λ(i,x)=>(i,ρc x))) (.slice (some ⟨S.next,0,none⟩) n n) (S.alloc (.cells l e i.size true [])):=by
 obtain⟨hu,hi,hz,hzs,hzf⟩:=Kp hte;have hrel:∀ p∈(parts.toList.map λp=>(p.1 * i.size,i.size,p.2)),Rel φ (ρa p.2.2) (ρc p.2.2):=by
  intro p hp;simp only[AT] at hp;obtain⟨q,hq,rfl⟩:=hp;exact hρ q (by simpa using hq)
 have hrf:=Je hzf n;obtain⟨l',hf,hr⟩:=P6 hrel hrf h;have hzz:=Ga (w:=w) e i hi;have hcells:((Array.range (n * i.size)).map (z.cells[· % z.cells.size]!)).toList=rep n z.cells.toList:=by rw[<- hzs];exact NR _ _
 have hfill:=fill_eq (λj=>some (j * i.size,i.size)) ((parts.map λ(i,x)=>(i,ρc x)).toList) ((parts.toList.map λp=>(p.1 * i.size,i.size,p.2)).map λp=>(p.1,p.2.1,ρc p.2.2)) _ _ iN (λj h1 h2=>by simp) (by rw[hcells];exact hf);have hll:l'.length=n * i.size:=by
  have:∀ ps z l,Hk z ps=some l->l.length=z.length:=by
   intro ps
   induction ps with
   | nil=>intro z l h;simp[Hk] at h;rw[h]
   | cons p ps ih=>
    intro z l h;obtain⟨off,sz,v⟩:=p;simp only[Hk] at h;split at h
    case isFalse=>cases h
    rename_i hc;rw[ih _ _ h,K6 _ _ _ aa0]
  rw[this _ _ _ hf,LS];simp[hzs]
 have hone':∀ v∈l,v.oneCell'=true:=HS.1 hone;obtain⟨k1,k2⟩:=hs.alloc hB l l'.toArray e e i.size hone' (by simp[hr.1]) (λj u hu=>by
  have hj:j < l.length:=(Am.1 hu).1;have hj':j < l'.length:=by rw[<- hr.1];exact hj
  refine⟨l'[j],by simp[hj'],?_⟩;have:=hr.2 j hj hj';rw[Ah hj] at hu;rw[<- Aa hu];exact this) []
 refine⟨_,.slice (some ⟨w.heap.size,0,none⟩) n n,_,?_,?_,k1,k2⟩
 ·have hnn:¬ (16777216 < n * i.size):=dO
  by_cases hn0:n * i.size=0
  ·have he:(Array.range (n * i.size)).map (z.cells[· % z.cells.size]!)=#[]:=Cr (by simp[hn0])
   rw[he] at hfill;simp only[Instr.buildSlice,Sem.run_bind,run_underlying hu,Result.andThen_ok,hzz,hn0,Cn,if_false,if_true,Sem.run_pure,gt_iff_lt];have he0:(Array.range 0).map ((#[]:Array Value)[· % (#[]:Array Value).size]!)=#[]:=Cr iN;rw[he0,hfill];simp[newRow]
  ·simp only[Instr.buildSlice,Sem.run_bind,run_underlying hu,Result.andThen_ok,hzz,gt_iff_lt,Sem.run_ite,hn0,if_false,zeroValue,typeInfo,run_program,hi,hz,Sem.run_pure]
   rw[if_neg (by simpa using hnn)];simp only[Sem.run_pure,Result.andThen_ok,hfill,newRow,Sem.run_bind,run_newObj];rfl
 ·have:=Rel.slice (φ:=φ.add S.next ⟨w.heap.size,0,l'.toArray.size,i.size⟩) S.next 0 n n n _ (Es.add_same _ _ _) (Af _) (Af _) (by simp[hll])
  simpa using this
def Sy(hs:E0 B φ S w)(hB:B<=w.heap.size){o:Oper}{xo:Gk}(ht:tr P o=some xo){ρa ρc:Operand->Value}(hρ:∀ x∈o.op.operands,Rel φ (ρa x) (ρc x)){v:Value}{S':St}(h:EF xo ρa S=some (v,S')) :
  FK P B φ S w (execOp ρc o) v S':=by
 unfold tr at ht;split at ht
 case h_1 x ho=>
  obtain rfl:=Aa ht;obtain⟨rfl,rfl⟩:=Ai (Aa h);refine FK.same hs (v':=ρc x) ?_ (hρ x ag0);simp[execOp,ho]
 case h_2 x ho=>
  obtain rfl:=Aa ht;obtain⟨rfl,rfl⟩:=Ai (Aa h);refine FK.same hs (v':=ρc x) ?_ (hρ x ag0);simp[execOp,ho]
 case h_3 c a b ho=>
  obtain rfl:=Aa ht;have hc:=hρ c ag0;have ha:=hρ a ag0;have hb:=hρ b ag0;simp only[EF] at h;split at h
  case h_2=>cases h
  rename_i q e;obtain⟨rfl,rfl⟩:=Ai (Aa h);rw[e] at hc;refine FK.same hs (v':=if q then ρc a else ρc b) ?_ (by cases q<;>simp[ha,hb]);simp[execOp,ho,Ko hc,asBool]
 case h_4 t x ho=>
  obtain rfl:=Aa ht;simp only[EF] at h;split at h
  case isFalse=>cases h
  rename_i h1;obtain⟨rfl,rfl⟩:=Ai (Aa h);have:=FK.Rx (kR (P:=P) hs hB (t:=t) (hρ x ag0) h1);simpa [execOp,ho] using this
 case h_5 t ho=>
  split at ht
  case h_2=>cases ht
  rename_i i hi;split at ht
  case h_2=>cases ht
  rename_i z hz;split at ht
  case isFalse=>cases ht
  rename_i hzf;obtain rfl:=Aa ht;obtain⟨rfl,rfl⟩:=Ai (Aa h);obtain⟨k1,k2⟩:=hs.alloc hB z.cells.toList z.cells t t z.cells.size (HS.1 (Ll hzf)) iN (λj u hu=>⟨u,by simpa using hu,H4 (by simp[EC] at hzf;have:=AF hu;simp at this;obtain⟨j,hj,rfl⟩:=Array.getElem_of_mem this;exact hzf j hj) φ⟩) [];refine⟨_,.pointer (some ⟨w.heap.size,0,none⟩),_,.inl ?_,?_,k1,k2⟩
  ·simp[execOp,ho,Instr.alloc,zeroValue,typeInfo,hi,hz,newVar,newRow]
  ·have:=Rel.ptr (φ:=φ.add S.next ⟨w.heap.size,0,z.cells.size,z.cells.size⟩) S.next 0 _ (Es.add_same _ _ _)
   simpa using this
 case h_6 t x ho=>
  split at ht
  case h_2=>cases ht
  rename_i d i hd hi;obtain rfl:=Aa ht;have hx:=hρ x ag0;simp only[EF] at h;split at h
  case h_2=>cases h
  rename_i id o' e;rw[e] at hx;simp only[Ae,Ab,AA] at h;obtain⟨c,hc,v0,hv,rfl,rfl⟩:=h;have:=FK.Rx (eW (P:=P) hs hd hi hx hc hv);simpa [execOp,ho] using this
 case h_7 t a x ho=>
  simp only[Ab] at ht;obtain⟨i,hi,rfl⟩:=ht;have ha:=hρ a ag0;have hx:=hρ x ag0;simp only[EF] at h;split at h
  case h_2=>cases h
  rename_i id o' e;rw[e] at ha;split at h
  case h_2=>cases h
  rename_i c t2 z an hget;split at h
  case isFalse=>cases h
  rename_i hc;obtain⟨hc1,hc2,hc3⟩:=hc;obtain⟨rfl,rfl⟩:=Ai (Aa h);obtain⟨w',hr,k1,k2⟩:=Yb (P:=P) hs hi ha hx hget hc1 hc2 hc3;have:=Adm (v:=undef) hr rfl k1 k2;simpa [execOp,ho] using this
 case h_8 x ho=>
  obtain rfl:=Aa ht;have hx:=hρ x ag0;simp only[EF] at h;split at h
  ·rename_i id o' e
   obtain⟨rfl,rfl⟩:=Ai (Aa h);rw[e] at hx;obtain⟨s,e2,e3⟩:=LR hx;refine FK.same hs (v':=ρc x) ?_ hx;simp[execOp,ho,e3]
  ·rename_i f a b e
   obtain⟨rfl,rfl⟩:=Ai (Aa h);rw[e] at hx;refine FK.same hs (v':=ρc x) ?_ hx;have:∃ a' b',ρc x=.func (.func f) a' b':=by
    revert hx;generalize ρc x=u;intro hx
    cases hx;exact⟨_,_,rfl⟩
   obtain⟨a',b',e3⟩:=this;simp[execOp,ho,e3]
  ·rename_i t u e
   obtain⟨rfl,rfl⟩:=Ai (Aa h);rw[e] at hx;refine FK.same hs (v':=ρc x) ?_ hx;have:∃ u',ρc x=.iface t u':=by
    revert hx;generalize ρc x=u;intro hx
    cases hx;exact⟨_,rfl⟩
   obtain⟨u',e3⟩:=this;simp[execOp,ho,e3]
  ·cases h
 case h_9 t x y yt ho=>
  have:=Sw (P:=P) hs ht (hρ x ag0) (hρ y ag0) h;simpa [execOp,ho] using this
 case h_10 t x y yt ho=>
  have:=Sw (P:=P) hs ht (hρ x ag0) (hρ y ag0) h;simpa [execOp,ho] using this
 case h_11 op t x y yt n1 n2 ho=>
  have hb:xo=.bin op x y:=by
   split at ht
   ·exact (Aa ht).symm
   ·exact (Aa ht).symm
   ·cases ht
  subst hb;simp only[EF,Ab,AA] at h;obtain⟨v0,h,rfl,rfl⟩:=h;have:=P5 (P:=P) hs (op:=op) (t:=t) (hρ x ag0) (hρ y ag0) h;simpa [execOp,ho] using this
 case h_12 op t x ho=>
  obtain rfl:=Aa ht;have hx:=hρ x ag0;simp only[EF] at h;split at h
  ·rename_i k n e
   obtain⟨rfl,rfl⟩:=Ai (Aa h);rw[e] at hx;refine FK.same hs (v':=.int k (k.wrap (0 - n))) ?_ (.int _ _);simp[execOp,ho,HL hx,Op.unary,Op.intArith]
  ·rename_i b e
   obtain⟨rfl,rfl⟩:=Ai (Aa h);rw[e] at hx;refine FK.same hs (v':=.bool !b) ?_ (.bool _);simp[execOp,ho,Ko hx,Op.unary]
  ·cases h
 case h_13 src dst x ho=>
  have hx:=hρ x ag0;split at ht
  ·rename_i k1 k2 h1 h2
   obtain rfl:=Aa ht;simp only[EF] at h;split at h
   case h_2=>cases h
   rename_i k n e;obtain⟨rfl,rfl⟩:=Ai (Aa h);rw[e] at hx;refine FK.same hs (v':=.int k2 (k2.wrap n)) ?_ (.int _ _);simp[execOp,ho,HL hx,convert,run_underlying h1,run_underlying h2,Conv.intToInt]
  ·rename_i h1 h2
   obtain rfl:=Aa ht;simp only[EF] at h;split at h
   case h_2=>cases h
   rename_i q e;obtain⟨rfl,rfl⟩:=Ai (Aa h);rw[e] at hx;refine FK.same hs (v':=.string q) ?_ (.string _);simp[execOp,ho,Jf hx,convert,run_underlying h1,run_underlying h2]
  ·cases ht
 case h_14 t x ho=>
  have hx:=hρ x ag0;split at ht
  ·cases ht
  ·rename_i d hno hd
   obtain rfl:=Aa ht;obtain⟨rfl,rfl⟩:=Ai (Aa h);refine FK.same hs (v':=.iface t (ρc x)) ?_ (.iface t _ _ hx);cases d<;>first | (exact (hno _ rfl).elim) | simp[execOp,ho,Instr.makeInterface,run_underlying hd]
  ·cases ht
 case h_15 f a b ho=>
  obtain rfl:=Aa ht;obtain⟨rfl,rfl⟩:=Ai (Aa h);refine FK.same hs (v':=.func (.func f) (a.map ρc) (b.map ρc)) ?_ (.jd (Lo λx hx=>hρ x (by simp[ho,Op.operands,hx])) (Lo λx hx=>hρ x (by simp[ho,Op.operands,hx])));simp[execOp,ho,Instr.makeFunc]
 case h_16 t l c ho=>
  simp only[Ab] at ht;obtain⟨⟨e,i,z⟩,hte,rfl⟩:=ht;obtain⟨h1,h2,h3,h4,h5⟩:=Kp hte;have hl:=hρ l ag0;have hc:=hρ c ag0;simp only[EF] at h;split at h
  case h_2=>cases h
  rename_i kl nl kc nc e1 e2;split at h
  case isFalse=>cases h
  rename_i hcnd;obtain⟨c1,c2,c3,c4,c5,c6⟩:=hcnd;obtain⟨rfl,rfl⟩:=Ai (Aa h);rw[e1] at hl;rw[e2] at hc;have:=FK.Rx (TZ (P:=P) hs hB h1 h2 h3 h4 h5 kl kc nl nc c1 c2 c3 c4);simpa [execOp,ho,HL hl,HL hc] using this
 case h_17 t x lo hi ho=>
  have hx:=hρ x ag0;have hlo:∀ y,lo=some y->Rel φ (ρa y) (ρc y):=λy hy=>hρ y (by simp[ho,Op.operands,hy])
  have hhi:∀ y,hi=some y->Rel φ (ρa y) (ρc y):=λy hy=>hρ y (by simp[ho,Op.operands,hy])
  split at ht
  ·rename_i e hu
   simp only[Ab] at ht;obtain⟨j,hj,rfl⟩:=ht;simp only[EF] at h;split at h
   case h_2=>cases h
   rename_i a n c e1;split at h
   case h_2=>cases h
   rename_i l hh b1 b2;split at h
   case isFalse=>cases h
   rename_i hcnd;have hS:S'=S:=by
    unfold H8 at h;split at h
    ·split at h<;>cases h;rfl
    ·split at h<;>cases h;rfl
    ·cases h
   subst hS;have:=FK.Rx (qa (P:=P) hs hu hj hx e1 (Ka (φ:=φ) b1 hlo) (Ka (φ:=φ) b2 hhi) hcnd.1 hcnd.2 h);simpa [execOp,ho] using this
  ·rename_i hu
   obtain rfl:=Aa ht;simp only[EF] at h;split at h
   case h_2=>cases h
   rename_i q e1;split at h
   case h_2=>cases h
   rename_i l hh b1 b2;split at h
   case isFalse=>cases h
   rename_i hcnd;obtain⟨rfl,rfl⟩:=Ai (Aa h);rw[e1] at hx;have hb:=Ok (P:=P) (w:=w) false (Ka (φ:=φ) b1 hlo) (Ka (φ:=φ) b2 hhi) hcnd.1 hcnd.2;refine FK.same hs (v':=.string (q.extract l hh)) ?_ (.string _);simp[execOp,ho,Jf hx,Instr.sliceAt,Instr.slice,run_underlying hu,hb]
  ·cases ht
 case h_18 t x f ho=>
  have hx:=hρ x ag0;simp only[Ab] at ht;obtain⟨⟨off,agg,sz⟩,hts,rfl⟩:=ht;simp only[EF] at h;split at h
  case h_2=>cases h
  rename_i id o' e;obtain⟨rfl,rfl⟩:=Ai (Aa h);rw[e] at hx;have:=FK.Rx (pY (P:=P) hs hts hx);simpa [execOp,ho] using this
 case h_19 t x f ho=>
  have hx:=hρ x ag0;simp only[Ab] at ht;obtain⟨⟨off,agg,sz⟩,hts,rfl⟩:=ht;simp only[EF] at h;split at h
  case h_2=>cases h
  rename_i a e;split at h
  case isFalse=>cases h
  rename_i hle;simp only[Ab,AA] at h;obtain⟨v0,h,rfl,rfl⟩:=h;rw[e] at hx;have:=FK.Rx (lf (P:=P) hs hts hx hle h);simpa [execOp,ho] using this
 case h_20 t x i ho=>
  have hx:=hρ x ag0;have hi:=hρ i ag0;split at ht
  ·rename_i e hu
   simp only[Ab] at ht;obtain⟨j,hj,rfl⟩:=ht;simp only[EF] at h;split at h
   case h_2=>cases h
   rename_i id o' n c k q e1 e2;split at h
   case isFalse=>cases h
   rename_i hcnd;obtain⟨rfl,rfl⟩:=Ai (Aa h);rw[e1] at hx;rw[e2] at hi;have:=FK.Rx (pZ (P:=P) hs hu hj hx (k:=k) hcnd.1 hcnd.2);simpa [execOp,ho,HL hi] using this
  ·rename_i n e hu
   simp only[Ab] at ht;obtain⟨j,hj,rfl⟩:=ht;simp only[EF] at h;split at h
   case h_2=>cases h
   rename_i id o' k q e1 e2;split at h
   case isFalse=>cases h
   rename_i hcnd;obtain⟨rfl,rfl⟩:=Ai (Aa h);rw[e1] at hx;rw[e2] at hi;have:=FK.Rx (Yh (P:=P) hs hu hj hx (k:=k) hcnd.1 hcnd.2);simpa [execOp,ho,HL hi] using this
  ·cases ht
 case h_21 t x i ho=>
  have hx:=hρ x ag0;have hi:=hρ i ag0;split at ht
  ·rename_i hu
   obtain rfl:=Aa ht;simp only[EF] at h;split at h
   case h_2=>cases h
   rename_i q k n e1 e2;split at h
   case isFalse=>cases h
   rename_i h0;simp only[Ab,AA] at h;obtain⟨b,hb,rfl,rfl⟩:=h;rw[e1] at hx;rw[e2] at hi;refine FK.same hs (v':=.int .u8 b.toNat) ?_ (.int _ _);simp[execOp,ho,Jf hx,HL hi,Instr.index,asIntOf,run_underlying hu,h0,hb]
  ·rename_i n e hu
   split at ht
   case h_2=>cases ht
   rename_i d j hd hj;split at ht
   case isFalse=>cases ht
   rename_i hone;obtain rfl:=Aa ht;simp only[EF] at h;split at h
   case h_2=>cases h
   rename_i a k q e1 e2;split at h
   case isFalse=>cases h
   rename_i hcnd;obtain⟨c1,c2,c3⟩:=hcnd;simp only[Ab,AA] at h;obtain⟨v0,h,rfl,rfl⟩:=h;rw[e1] at hx;rw[e2] at hi;have:=FK.Rx (lg (P:=P) hs hu hd hj hone hx (k:=k) c1 c2 c3 h);simpa [execOp,ho,HL hi] using this
  ·cases ht
 case h_22 x i ho=>
  have hx:=hρ x ag0;obtain rfl:=Aa ht;simp only[EF] at h;split at h
  case h_2=>cases h
  rename_i a e;simp only[Ab,AA] at h;obtain⟨v0,h,rfl,rfl⟩:=h;rw[e] at hx;obtain⟨a',e2,ha⟩:=kV hx;have hlt:i < a.size:=(AR.1 h).1;have hlt':i < a'.size:=by rw[<- ha.1];exact hlt
  have hr:=ha.2 i hlt hlt';rw[Ax hlt] at h;rw[Aa h] at hr;refine FK.same hs (v':=a'[i]) ?_ hr;simp[execOp,ho,e2,Instr.extract,hlt']
 case h_23 t parts ho=>
  split at ht
  case h_2=>cases ht
  rename_i i hi;split at ht
  case h_2=>cases ht
  rename_i z hz;split at ht
  case isFalse=>cases ht
  rename_i hzf;simp only[Ab] at ht;obtain⟨ps,hps,rfl⟩:=ht;simp only[EF,Ab,AA] at h;obtain⟨l,hl,rfl,rfl⟩:=h;have:=FK.Rx (Yk (P:=P) hs hi hz hzf hps (ρa:=ρa) (ρc:=ρc) (λp hp=>hρ p.2 (by
   simp only[ho,Op.operands,List.mem_toArray,AT];exact⟨p,by simpa using hp,rfl⟩)) hl)
  simpa [execOp,ho] using this
 case h_24 t n parts ho=>
  simp only[Ae] at ht;obtain⟨⟨e,i,z⟩,hte,ht⟩:=ht;simp only at ht;split at ht
  case isFalse=>cases ht
  rename_i hc;obtain rfl:=Aa ht;simp only[EF] at h;split at h
  case isFalse=>cases h
  simp only[Ae] at h;obtain⟨l,hl,h⟩:=h;split at h
  case isFalse=>cases h
  rename_i hone;obtain⟨rfl,rfl⟩:=Ai (Aa h);have:=FK.Rx (P7 (P:=P) hs hB hte hc.1 (ρa:=ρa) (ρc:=ρc) (λp hp=>hρ p.2 (by
   simp only[ho,Op.operands,List.mem_toArray,AT];exact⟨p,by simpa using hp,rfl⟩)) hl hone)
  simpa [execOp,ho] using this
 case h_25 c ho=>
  split at ht
  ·rename_i x0 hc0
   obtain rfl:=Aa ht;exact Wh hs hB ho hc0 (λx hx=>hρ x (by simpa [ho,Op.operands] using hx)) h
  ·simp only[Ab] at ht
   obtain⟨⟨e,l⟩,hel,rfl⟩:=ht;exact QH (P:=P) hs hB (by rw[ho];exact hel) hρ h
 case h_26=>
  simp only[Ab] at ht;obtain⟨⟨e,l⟩,hel,rfl⟩:=ht;exact QH (P:=P) hs hB hel hρ h
end
abbrev Gv:=Go.Fn->Array Value->St->Option (Value × St)
def G3(o:EW)(env:Env):=
 match o.guard with
 | none=>true
 | some (t,want)=>match env[t]? with
  | some (.bool b)=>b == want
  | _=>false
def Env.put(env:Env)(dst:Option Tmp)(v:Value):Env:=
 match dst with
 | some d=>env.setIfInBounds d v
 | none=>env
def GL(cl:Gv)(o:Gk)(ρ:Operand->Value)(S:St):=
 match o with
 | .call f args=>cl (.func f) (args.map ρ) S
 | .callv x args=>match ρ x with
  | .func g a b=>cl g (a++args.map ρ++b) S
  | _=>none
 | o=>EF o ρ S
def NA(cl:Gv):List EW->Env->St->Option (Env × St)
 | [],env,S=>some (env,S)
 | o::r,env,S=>if G3 o env then (GL cl o.op (Env.ev env) S).bind λp=>NA cl r (Env.put env o.dst p.1) p.2 else NA cl r (Env.put env o.dst undef) S
def E3:Operand->Bool
 | .tmp _=>true
 | .const v=>FB v
 | .func _=>true
 | .global _=>false
def Jq:Gk:=.iaArr 0 0 (.const undef) (.const undef)
def P8(ρ S):EF Jq ρ S=none:=by
 unfold Jq;simp only[EF]
 grind
def Rz(o:Oper):=match o.op with
 | .defer _=>none
 | _=>some Jq
def fm(P:Program)(o:Oper):=match o.op with
 | .load t (.global g)=>Z3 && g == kN && (match P.underlying t,P.info? t with
  | some (.map _ _),some _=>true
  | _,_=>false)
 | _=>false
def Yl{P o}(h:fm P o=true):Z3=true/\∃ t k e i,o.op=.load t (.global kN)/\P.underlying t=some (.map k e)/\P.info? t=some i:=by
 unfold fm at h
 grind
def O5{P o}(h:fm P o=true)(c):o.op≠.defer c:=by
 obtain⟨_,t,k,e,i,ho,_,_⟩:=Yl h
 grind
def QI{P B φ S w}(hs:E0 B φ S w){o}(ht:fm P o=true){ρ v S'}(h:EF (.extra .gload []) ρ S=some (v,S'))(a:Act):∃ v',(execOp a.eval o).run P w=.ok (.value v') w/\Rel φ v v'/\S'=S:=by
 obtain⟨hg,t,k,e,i,ho,hu,hi⟩:=Yl ht;simp only[EF,Ei,hg,if_true] at h;obtain⟨rfl,rfl⟩:=Ai (Aa h);obtain⟨b,h1,_,_,⟨t',fz,h2⟩,_⟩:=hs.loops.1 hg;refine⟨.map _,?_,.Fy b h1,rfl⟩;have ha:=P0 (P:=P) (w:=w) t _ hu;have hl:(loadVar t ⟨kN,0,none⟩).run P w=.ok (.map (some b)) w:=by
  have hc:w.cell? ⟨kN,0,none⟩=some (.map (some b)):=by simp[World.cell?,h2]
  simp[loadVar,ha,FI,hc]
 simp[execOp,ho,Act.eval,Instr.loadAt,Instr.sureAddr,hl]
def trX(P:Program)(o:Oper):=if fm P o=true then some (.extra .gload []) else if o.op.operands.toList.all E3 then (match tr P o with
 | some x=>some x
 | none=>Rz o) else Rz o
def QJ{o x}(h:Rz o=some x):x=Jq/\∀ c,o.op≠.defer c:=by
 unfold Rz at h
 grind
def ji{P o x}(h:trX P o=some x):((∀ y∈o.op.operands,E3 y=true)/\tr P o=some x)\/(x=Jq/\∀ c,o.op≠.defer c)\/(fm P o=true/\x=.extra .gload []):=by
 unfold trX at h;split at h
 ·grind
 split at h
 ·rename_i hopd
  simp only[At,Array.mem_toList_iff] at hopd;split at h
  ·grind
  ·exact .inr (.inl (QJ h))
 ·exact .inr (.inl (QJ h))
def Ib(P:Program)(ops:Array Oper)(o:Oper):Option EW:=
 match trX P o,o.guard with
 | some xo,none=>some ⟨o.dst,xo,none⟩
 | some xo,some (j,want)=>match (ops[j]?).bind (·.dst) with
  | some t=>some ⟨o.dst,xo,some (t,want)⟩
  | none=>none
 | none,_=>none
def Sz{P ops o xo}(h:Ib P ops o=some xo):((∀ y∈o.op.operands,E3 y=true)/\tr P o=some xo.op)\/(xo.op=Jq/\∀ c,o.op≠.defer c)\/(fm P o=true/\xo.op=.extra .gload []):=by
 unfold Ib at h;split at h
 ·rename_i h1 h2
  obtain rfl:=Aa h;exact ji h1
 ·rename_i h1 h2
  split at h
  ·obtain rfl:=Aa h
   exact ji h1
  grind
 grind
def JM(φ:Es)(env:Env)(a:Act):=Gb φ env a.tmps
def JM.mono{φ ψ}(h:Es.le φ ψ){env a}(k:JM φ env a):JM ψ env a:=Gb.mono h k
def JM.ev{φ env a}(h:JM φ env a){x}(hx:E3 x=true):Rel φ (env.ev x) (a.eval x):=by
 cases x with
 | tmp t=>
  simp only[Env.ev,Act.eval,Ay];by_cases ht:t < env.size
  ·have ht':t < a.tmps.size:=by rw[<- h.1];omega
   rw[Ax _,Ax _];exact h.2 t ht ht'
  ·have ht':¬ t < a.tmps.size:=by rw[<- h.1];omega
   rw[BJ (C0.1 ht),BJ (C0.1 ht')];exact Rel.undef _
 | const v=>exact HE hx _
 | func f=>exact .jd ⟨rfl,λi h=>IN⟩ ⟨rfl,λi h=>IN⟩
 | global g=>cases hx
def JM.put{φ env a}(h:JM φ env a)(dst){v v'}(hv:Rel φ v v'):JM φ (env.put dst v) (a.put dst v'):=by
 cases dst with
 | none=>exact h
 | some d=>
  refine⟨by simp[Env.put,Act.put,h.1],λi h1 h2=>?_⟩;simp only[Env.put,Act.put,Array.size_setIfInBounds] at h1 h2 |-;rw[Dd _,Dd _];split
  ·omega
  ·exact h.2 i h1 h2
def fo{φ env a}(h:JM φ env a){P ops o xo}(ht:Ib P ops o=some xo):Region.wanted o (yielded ops a.tmps)=G3 xo env:=by
 unfold Ib at ht;split at ht
 ·rename_i x hx hg
  obtain rfl:=Aa ht;simp[Region.wanted,G3,hg]
 ·rename_i x j want hx hg
  split at ht
  case h_2=>grind
  rename_i t hj;obtain rfl:=Aa ht;simp only[Region.wanted,G3,hg,yielded,hj,Az];by_cases hlt:t < env.size
  ·have hlt':t < a.tmps.size:=by rw[<- h.1];omega
   have hr:=h.2 t hlt hlt';rw[Ax hlt,Ax hlt']
   revert hr
   generalize env[t]=u;generalize a.tmps[t]=u';intro hr;cases hr<;>simp
  ·have hlt':¬ t < a.tmps.size:=by rw[<- h.1];omega
   grind
 grind
def SA{P ops o xo}(h:Ib P ops o=some xo):xo.dst=o.dst:=by
 unfold Ib at h
 grind
def List.Hu{α β:Type}{f:α->Option β}:∀ {l:List _} {r},l.mapM f=some r->r.length=l.length:=by
 intro l
 induction l with
 | nil=>grind
 | cons x l ih=>
  intro r h;simp only[BF,BT,Ae] at h
  grind
def List.Hh{α β:Type}{f:α->Option β}:∀ {l:List _} {r},l.mapM f=some r->∀ i h (h':i < r.length),f l[i]=some r[i]:=by
 intro l
 induction l with
 | nil=>grind
 | cons x l ih=>
  intro r h i hi hi';simp only[BF,BT,Ae] at h
  grind
def fz(r:Option Nat):={ Fence.wide with round:=r }
def SB{r n P f args w R}:CallsIn (fz r) n P f args w R↔Calls P f args w R:=
 (show CallsIn _ n P f _ w R↔CallsIn _ n P f _ w R from Iff.rfl).trans callsIn_wide
def Yields(P:Program)(l:Nat)(args:Array Value)(w:World)(R:Ending->World->Prop):=
 ∃ f tmps assign body,(Instr.yield l args).run P w=.ok (.round l f tmps assign body) w/\RoundIn Fence.wide 0 P l f tmps assign body w R
def Mv(B:Nat)(φ:Es)(S:St)(w:World)(v:Value)(S':St):Ending->World->Prop:=λe w'=>∃ φ' v',e=.returned v'/\Rel φ' v v'/\E0 B φ' S' w'/\E6 B φ S w φ' S' w'
def IS(P:Program)(B:Nat)(cl:Gv):=
 ∀ g args S v S',cl g args S=some (v,S')->match g with
  | .func f=>(∃ fn,P.funcs[f]? = some fn/\fn.body.isSome=true/\(fn.name == "runtime.NumGoroutine")=false)/\
   ∀ φ w args',Gb φ args args'->E0 B φ S w->B<=w.heap.size->Calls P f args' w (Mv B φ S w v S')
  | .yield id=>∀ φ w args',Gb φ args args'->E0 B φ S w->B<=w.heap.size->∀ s,φ id=some s->Yields P s.b args' w (Mv B φ S w v S')
  | _=>False
def NB{F n P Q a w c}(h:c.wpIn F n P (Exit.noGoto Q) a w):(Code.scope c).wpIn F n P Q a w:=by
 intro b k cs hro hb hr;have h0:(lone (b.atR a (.code (.scope c)::k)) _ w).fenced P F:=fenced_calm hb hr rfl;have s0:step P (lone (b.atR a (.code (.scope c)::k)) cs w)=.next (lone (b.atR a (.code c::.inScope c::k)) cs w):=step_lone_go (by simp[stepG,stepG.exec,Frame.atR]);have s1:∀ a₁ w₁,step P (lone (b.atR a₁ (.inScope c::k)) cs w₁)=.next (lone (b.atR a₁ k) cs w₁):=λa₁ w₁=>step_lone_go (by simp[stepG,stepG.exec,Frame.atR])
 obtain⟨e,a₁,w₁,hq,harr⟩:=h b _ _ hro hb hr;cases e with
 | normal=>exact⟨.normal,a₁,w₁,hq,.head h0 s0 (StepsIn.trans harr (.one (fenced_calm hb hr rfl) (s1 _ _)))⟩
 | exit id=>
  exact⟨.exit _,a₁,w₁,hq,λk' hk=>.head h0 s0 (harr.1 _ (by exact hk)),
   λhr' hk=>let ⟨k₁,h1,h2⟩:=harr.2 hr' (by exact hk);⟨k₁,h1,.head h0 s0 h2⟩⟩
 | goto l=>exact hq.elim
 | ret=>exact⟨_,a₁,w₁,hq,.of_steps (.one h0 s0) harr⟩
 | panic ch=>exact⟨_,a₁,w₁,hq,.of_steps (.one h0 s0) harr⟩
 | outgrown=>exact⟨_,a₁,w₁,hq,.of_steps (.one h0 s0) harr⟩
section
variable {P:Program}{B:Nat}
def Gb.append{φ a b a' b'}(h:Gb φ a a')(k:Gb φ b b'):Gb φ (a++b) (a'++b'):=by
 have:=(h.PB.append k.PB).tc;rw[<- A4,<- A4] at this;omega
def Gb.nil(φ):Gb φ #[] #[]:=⟨rfl,λi h=>IN⟩
def LU{f args fn w}(hf:P.funcs[f]? = some fn)(hb:fn.body.isSome=true)(hn:(fn.name == "runtime.NumGoroutine")=false):(callFunc f args).run P w=.ok (.enter f args) w:=by
 have hb':fn.body.isNone=false:=by simp_all
 simp only[callFunc,Sem.run_bind,run_program,Result.andThen_ok,hf,hn,hb',AW,if_false,Sem.run_pure]
def RA{neg t x y xo}(h:Ye P neg t x y=some xo):(∀ f args,xo≠.call f args)/\(∀ x args,xo≠.callv x args):=by
 unfold Ye at h;constructor<;>intro _ _ e<;>subst e<;>(split at h<;>first | grind | simp_all)
def O6{neg t x y xo}(h:Ye P neg t x y=some xo):(∀ agg sz x,xo≠.load agg sz x)/\(∀ esz x lo hi,xo≠.sl esz x lo hi):=by
 unfold Ye at h;constructor<;>intros<;>intro e<;>subst e<;>(split at h<;>first | grind | simp_all)
def QK{o xo}(h:tr P o=some xo) :
  (∀ agg sz x,xo=.load agg sz x->∃ t d i,o.op=.load t x/\P.underlying t=some d/\P.info? t=some i/\agg=FI d/\sz=if FI d then i.size else 1)/\
  (∀ esz x lo hi,xo=.sl esz x lo hi->∃ t e j,o.op=.slice t x lo hi none/\P.underlying t=some (.slice e)/\P.info? e=some j/\esz=j.size):=by
 unfold tr at h;split at h
 case h_6 t x ho=>
  split at h
  case h_2=>cases h
  rename_i d i hd hi;obtain rfl:=Aa h;refine⟨λagg sz y e=>?_,λ_ _ _ _ e=>by cases e⟩;simp only[Gk.load.injEq] at e;obtain⟨rfl,rfl,rfl⟩:=e;exact⟨t,d,i,ho,hd,hi,rfl,rfl⟩
 case h_17 t x lo hi ho=>
  split at h
  ·rename_i e hu
   simp only[Ab] at h;obtain⟨j,hj,rfl⟩:=h;refine⟨(λ_ _ _ e=>by cases e),λesz y lo' hi' e2=>?_⟩;simp only[Gk.sl.injEq] at e2;obtain⟨rfl,rfl,rfl,rfl⟩:=e2;exact⟨t,e,j,ho,hu,hj,rfl⟩
  ·obtain rfl:=Aa h
   exact⟨(λ_ _ _ e=>by cases e),(λ_ _ _ _ e=>by cases e)⟩
  ·cases h
 case h_9=>exact⟨(λ_ _ _ e=>((O6 h).1 _ _ _ e).elim),(λ_ _ _ _ e=>((O6 h).2 _ _ _ _ e).elim)⟩
 case h_10=>exact⟨(λ_ _ _ e=>((O6 h).1 _ _ _ e).elim),(λ_ _ _ _ e=>((O6 h).2 _ _ _ _ e).elim)⟩
 case h_24=>
  simp only[Ae] at h;obtain⟨⟨e,i,z⟩,_,h⟩:=h;simp only at h;split at h
  ·constructor<;>intros<;>subst_vars<;>simp at h
  ·cases h
 case h_25 c ho=>
  split at h
  case h_2=>
   simp only[Ab] at h;obtain⟨_,_,rfl⟩:=h;exact⟨(λ_ _ _ e=>by cases e),(λ_ _ _ _ e=>by cases e)⟩
  rename_i x0 hc0;obtain rfl:=Aa h;replace h:=hc0;clear hc0;unfold Sv at h;constructor
  ·intro agg sz x e
   subst e;split at h
   ·split at h<;>cases h
   ·split at h<;>simp at h
   ·simp at h
   ·simp at h
   ·cases h
   ·cases h
   ·split at h
    ·split at h<;>cases h
    ·cases h
   ·cases h
   ·cases h
  ·intro esz x lo hi e
   subst e;split at h
   ·split at h<;>cases h
   ·split at h<;>simp at h
   ·simp at h
   ·simp at h
   ·cases h
   ·cases h
   ·split at h
    ·split at h<;>cases h
    ·cases h
   ·cases h
   ·cases h
 all_goals
  constructor<;>intros<;>subst_vars<;>exfalso
  all_goals first
   | (cases h;done)
   | (simp at h;done)
   | (split at h<;>first | (cases h;done) | (simp at h;done) | (split at h<;>first | (cases h;done) | (simp at h;done) | (split at h<;>first | (cases h;done) | (simp at h;done))))
def QL{o xo}(h:tr P o=some xo) :
  (∀ f args,xo=.call f args->∃ T,o.op=.call { callee:=.value (.func f),args,argTypes:=T })/\(∀ x args,xo=.callv x args->∃ T,o.op=.call { callee:=.value x,args,argTypes:=T }):=by
 unfold tr at h;split at h
 case h_25 c ho=>
  obtain⟨callee,cargs,T⟩:=c;split at h
  case h_2=>
   simp only[Ab] at h;obtain⟨_,_,rfl⟩:=h;exact⟨(λ_ _ e=>by cases e),(λ_ _ e=>by cases e)⟩
  rename_i x0 hc0;obtain rfl:=Aa h;replace h:=hc0;clear hc0;unfold Sv at h;simp only at h;constructor
  ·intro f args e
   subst e;split at h
   ·split at h<;>cases h
   ·split at h<;>simp at h
   ·simp at h
   ·simp at h
   ·cases h
   ·cases h
   ·split at h
    ·split at h
     ·simp only[AE] at h
      obtain⟨rfl,rfl⟩:=h;exact⟨_,ho⟩
     ·cases h
    ·cases h
   ·cases h
   ·cases h
  ·intro x args e
   subst e;split at h
   ·split at h<;>cases h
   ·split at h<;>simp at h
   ·simp at h
   ·simp at h
   ·cases h
   ·cases h
   ·split at h
    ·split at h<;>cases h
    ·cases h
   ·obtain⟨rfl,rfl⟩:=h
    exact⟨_,ho⟩
   ·cases h
 case h_9=>exact⟨λf args e=>((RA h).1 f _ e).elim,λx args e=>((RA h).2 x _ e).elim⟩
 case h_10=>exact⟨λf args e=>((RA h).1 f _ e).elim,λx args e=>((RA h).2 x _ e).elim⟩
 case h_24=>
  simp only[Ae] at h;obtain⟨⟨e,i,z⟩,_,h⟩:=h;split at h
  ·constructor<;>intro _ _ e<;>subst e<;>simp at h
  ·cases h
 all_goals
  constructor<;>intro _ _ e<;>subst e<;>exfalso
  all_goals first
   | (cases h)
   | (simp at h)
   | (split at h<;>first | (cases h) | (simp at h) | (split at h<;>first | (cases h) | (simp at h) | (split at h<;>first | (cases h) | (simp at h))))
def QM{r cl}(hcl:IS P B cl){φ S w}(hs:E0 B φ S w)(hB:B<=w.heap.size){ρ a ops o xo}(ht:Ib P ops o=some xo)(hρ:∀ x∈o.op.operands,E3 x=true->Rel φ (ρ x) (a.eval x)){v S'}
  (h:GL cl xo.op ρ S=some (v,S')) {K Q}
  (hK:∀ φ' v' w',Rel φ' v v'->E0 B φ' S' w'->E6 B φ S w φ' S' w'->K (a.put o.dst v') w'):o.wpIn (fz r) 0 P a w K Q:=by
 rcases Sz ht with ⟨hopd,htr⟩ | ⟨hst,_⟩ | ⟨hgl,hst⟩
 case inr.inl=>
  rw[hst] at h;have h:EF Jq ρ S=some (v,S'):=h;rw[P8] at h;cases h
 case inr.inr=>
  rw[hst] at h;have h:EF (.extra .gload []) ρ S=some (v,S'):=h;obtain⟨v',h1,h2,rfl⟩:=QI hs hgl h a;unfold Oper.wpIn;rw[Oper.semAt_eq _ _ _ (O5 hgl)];refine⟨λ_ _=>trivial,?_⟩;rw[h1];exact hK φ v' w h2 hs (E6.refl _ _ _ _)
 have hρ:∀ x∈o.op.operands,Rel φ (ρ x) (a.eval x):=λx hx=>hρ x hx (hopd x hx)
 have hnd:∀ c,o.op≠.defer c:=by
  intro c hc;unfold tr at htr;rw[hc] at htr;simp[Nj] at htr
 unfold Oper.wpIn;rw[Oper.semAt_eq _ _ _ hnd];refine⟨λ_ _=>trivial,?_⟩;unfold GL at h;have hcall:∀ f args args',Gb φ args args'->cl (.func f) args S=some (v,S')->(execOp a.eval o).run P w=.ok (.enter f args') w->o.uponIn (fz r) 0 P a K Q ((execOp a.eval o).run P w):=by
  intro f args args' hargs hc hr;rw[hr];simp only[Oper.uponIn];refine⟨λhd=>by simp[fz,Fence.wide] at hd,SB.2 ((((hcl _ args S v S' hc).2) φ w args' hargs hs hB).mono ?_)⟩;rintro e w' ⟨φ',v',rfl,h1,h2,h3⟩;exact hK φ' v' w' h1 h2 h3
 have hyield:∀ id s args args',Gb φ args args'->cl (.yield id) args S=some (v,S')->φ id=some s->(execOp a.eval o).run P w=(Instr.yield s.b args').run P w->o.uponIn (fz r) 0 P a K Q ((execOp a.eval o).run P w):=by
  intro id s args args' hargs hc hid hr;obtain⟨f,tmps,assign,body,hy,hround⟩:=(hcl _ args S v S' hc) φ w args' hargs hs hB s hid;rw[hr,hy];simp only[Oper.uponIn];refine⟨λhd=>by simp[fz,Fence.wide] at hd,RoundIn.mono (F:=fz r) hround ?_⟩;rintro e w' ⟨φ',v',rfl,h1,h2,h3⟩;exact hK φ' v' w' h1 h2 h3
 split at h
 ·
  rename_i f args hop;rw[hop] at htr;obtain⟨argTypes,hoc⟩:=(QL htr).1 f args rfl;obtain⟨fn,h1,h2,h3⟩:=(hcl _ _ S v S' h).1;refine hcall f _ (args.map a.eval) (Lo λx hx=>hρ x (by simp[hoc,Op.operands,Call.operands,hx])) h ?_;simp[execOp,hoc,resolve,Deferred.ofValue,Act.eval,invoke,LU h1 h2 h3]
 ·rename_i x args hop
  rw[hop] at htr;obtain⟨argTypes,hoc⟩:=(QL htr).2 x args rfl;split at h
  case h_2=>cases h
  rename_i g fa fb hx;have hxr:=hρ x (by simp[hoc,Op.operands,Call.operands]);rw[hx] at hxr;cases g with
  | func f=>
   obtain⟨fa',fb',e,ha,hb⟩:∃ fa' fb',a.eval x=.func (.func f) fa' fb'/\Gb φ fa fa'/\Gb φ fb fb':=by
    revert hxr
    generalize a.eval x=u;intro hxr;cases hxr with
    | func _ _ _ a' b' ha hb h1 h2=>exact⟨a',b',rfl,⟨ha,h1⟩,⟨hb,h2⟩⟩
   obtain⟨fn,h1,h2,h3⟩:=(hcl _ _ S v S' h).1;refine hcall f _ (fa'++args.map a.eval++fb') ((ha.append (Lo λx hx=>hρ x (by simp[hoc,Op.operands,Call.operands,hx]))).append hb) h ?_;simp[execOp,hoc,resolve,Deferred.ofValue,e,invoke,LU h1 h2 h3]
  | yield id=>
   obtain⟨s,hid,e,rfl,rfl⟩:∃ s,φ id=some s/\a.eval x=.func (.yield s.b) #[] #[]/\fa=#[]/\fb=#[]:=by
    revert hxr
    generalize a.eval x=u;intro hxr;cases hxr with
    | yield _ s hid=>exact⟨s,hid,rfl,rfl,rfl⟩
   refine hyield id s _ (#[]++args.map a.eval++#[]) (Gb.append (Gb.append (Gb.nil φ) (Lo λx hx=>hρ x (by simp[hoc,Op.operands,Call.operands,hx]))) (Gb.nil φ)) h hid ?_;simp[execOp,hoc,resolve,Deferred.ofValue,e,invoke]
  | method n=>exact ((hcl _ _ S v S' h)).elim
  | methodOf t n=>exact ((hcl _ _ S v S' h)).elim
  | via t p f q=>exact ((hcl _ _ S v S' h)).elim
 ·rename_i n1 n2
  obtain⟨φ',v',w',hr,h1,h2,h3⟩:=Sy hs hB htr hρ h;rcases hr with hr | ⟨hr,rfl⟩
  ·rw[hr];exact hK φ' v' w' h1 h2 h3
  ·rw[hr];exact hK φ' undef w' h1 h2 h3
def fp{r cl}(hcl:IS P B cl){φ S w}(hs:E0 B φ S w)(hB:B<=w.heap.size){env a}(henv:JM φ env a){ops o xo}(ht:Ib P ops o=some xo){v S'}
  (h:GL cl xo.op env.ev S=some (v,S')) {K Q}
  (hK:∀ φ' v' w',Rel φ' v v'->E0 B φ' S' w'->E6 B φ S w φ' S' w'->K (a.put o.dst v') w'):o.wpIn (fz r) 0 P a w K Q:=
 QM hcl hs hB ht (λ_ _ hok=>henv.ev hok) h hK
def lj{r cl}(hcl:IS P B cl){ops xs}(hx:ops.toList.mapM (Ib P ops)=some xs){Q} :
  ∀ m k env S env' S' φ a w,k+m=ops.size->NA cl (xs.drop k) env S=some (env',S')->E0 B φ S w->B<=w.heap.size->JM φ env a->
   (∀ φ' a' w',JM φ' env' a'->E0 B φ' S' w'->E6 B φ S w φ' S' w'->a'.defers=a.defers->Q .normal a' w')->wpOpsIn (fz r) 0 P ops Q (List.range' k m) a w:=by
 have hlen:xs.length=ops.size:=by
  have:=List.Hu hx;simpa using this
 intro m
 induction m with
 | zero=>
  intro k env S env' S' φ a w hk h hs hB henv hQ;rw[Bj dO] at h;simp only[NA,AE,AA] at h;obtain⟨rfl,rfl⟩:=h;exact hQ _ a w henv hs (E6.refl _ _ _ _) rfl
 | succ m ih=>
  intro k env S env' S' φ a w hk h hs hB henv hQ;have hko:k < ops.size:=dO
  have hkx:k < xs.length:=dO
  have hto:Ib P ops ops[k]=some xs[k]:=by
   have:=List.Hh hx k (by simpa using hko) hkx;simpa using this
  rw[List.range'_succ,wpOpsIn_cons,wpOpIn];rw[A3 hkx,NA] at h;rw[Ax _];simp only;rw[fo henv hto];have hdst:xs[k].dst=ops[k].dst:=SA hto;split at h
  ·rename_i hw
   rw[if_pos hw];simp only[Ae] at h;obtain⟨⟨v,S1⟩,h1,h2⟩:=h;refine fp hcl hs hB henv hto h1 λφ1 v1 w1 k1 k2 k3=>?_
   refine ih _ _ _ _ _ _ _ _ dO h2 k2 (An hB k3.size) (by rw[hdst];exact (henv.mono k3.le).put _ k1) λφ' a' w' q1 q2 q3 q4=>hQ φ' _ _ q1 q2 (k3.trans q3) (by rw[q4];cases ops[k].dst<;>rfl)
  ·rename_i hw
   rw[if_neg hw];refine⟨λ_ _=>trivial,?_⟩;refine ih _ _ S _ _ _ _ w dO h hs hB (by rw[hdst];exact henv.put _ (Rel.undef _)) λφ' a' w' q1 q2 q3 q4=>hQ φ' a' w' q1 q2 q3 (by rw[q4];cases ops[k].dst<;>rfl)
end
section
variable {B:Nat}{φ:Es}{S:St}{w:World}
def mZ(r:Option Nat)(φ:Es)(S:St)(w:World):=∀ l,r=some l->(∃ r0,w.heap[l]? = some (.loop r0))/\Rg φ S l
def mZ.none(φ S w):mZ Option.none φ S w:=λl h=>by cases h
def mZ.same{r}(h:mZ r φ S w){φ' S' w'}(hk:E6 B φ S w φ' S' w'):mZ r φ' S' w':=λl e=>by
 obtain⟨⟨r0,h1⟩,h2⟩:=h l e;have hlt:=(AR.1 h1).1;exact⟨⟨r0,by rw[hk.D8 l hlt h2];omega⟩,h2.D8 hlt hk⟩
def Marks(lo:Nat)(w:World):List Deferred->Prop
 | []=>True
 | d::l=>(∃ D,d={ target:=.collected D,args:=#[] }/\lo<=D/\w.heap[D]? = some (.deferred (some []))/\∀ d'∈l,d'.target≠.collected D)/\Marks lo w l
def Marks.lower{lo lo'}(h:lo'<=lo):∀ {l},Marks lo w l->Marks lo' w l
 | [],_=>trivial
 | _::_,⟨⟨D,h1,h2,h3,h4⟩,h5⟩=>⟨⟨D,h1,An h h2,h3,h4⟩,h5.lower h⟩
def NT(h:E0 B φ S w){D o}(hD:w.heap[D]? = some o)(hc:UG o=false)(hl:isObj o=false):Rg φ S D:=by
 intro id s e eb;cases hw:(S.get _).wr with
 | false=>rfl
 | true=>
  rcases eS hw with ⟨c,t,sz,an,e3⟩ | ⟨o2,e3⟩
  ·obtain⟨_,_,_,cs,t',⟨fr,b4,_⟩,_⟩:=h.IM _ s c t _ _ _ e e3
   rw[eb,hD] at b4;rw[Aa b4] at hc;cases hc
  ·obtain⟨_,⟨r,b2,b3⟩,_⟩:=h.loops.2 _ s _ e e3
   rw[eb,hD] at b2;have:=b3.isObj
   grind
def Marks.D8{lo φ' S' w'}(hs:E0 B φ S w)(hk:E6 B φ S w φ' S' w'):∀ {l},Marks lo w l->Marks lo w' l
 | [],_=>trivial
 | _::_,⟨⟨D,h1,h2,h3,h4⟩,h5⟩=>⟨⟨D,h1,h2,by
   rw[hk.D8 D (AR.1 h3).1 (NT hs h3 rfl rfl)];omega,h4⟩,h5.D8 hs hk⟩
def Marks.lt{lo}:∀ {l},Marks lo w l->∀ d∈l,∃ D,d.target=.collected D/\D < w.heap.size
 | _::l,⟨⟨D,h1,h2,h3,h4⟩,h5⟩,d,hd=>by
  rcases Aq.1 hd with rfl | hd
  ·grind
  ·exact h5.lt d hd
def Marks.append{lo lo2}(hle:lo<=lo2):∀ {l2 l},Marks lo2 w l2->Marks lo w l->(∀ d∈l,∃ D,d.target=.collected D/\D < lo2)->Marks lo w (l2++l)
 | [],_,_,h,_=>h
 | _::l2,l,⟨⟨D,h1,h2,h3,h4⟩,h5⟩,h,hlt=>⟨⟨D,h1,An hle h2,h3,λd' hd'=>by
   rcases Aw.1 hd' with h' | h'
   ·grind
   grind⟩,h5.append hle h hlt⟩
def Marks.putObj{lo b}(o):∀ {l},Marks lo w l->(∀ d∈l,d.target≠.collected b)->Marks lo (w.putObj b o) l
 | [],_,_=>trivial
 | _::l,⟨⟨D,h1,h2,h3,h4⟩,h5⟩,hb=>⟨⟨D,h1,h2,by
   rw[World.putObj_heap_other]
   ·omega
   simp_all,h4⟩,h5.putObj o λd hd=>hb d (Bo _ hd)⟩
def O7{P F n fn tmps R lo} :
  ∀ l w (hs:E0 B φ S w),Marks lo w l->(∀ w',(∀ D,D < lo->w'.heap[D]? = w.heap[D]?)->w.heap.size=w'.heap.size->w'.os=w.os->w'.tape=w.tape->w'.output=w.output->E0 B φ S w'->∃ v,(results fn tmps).run P w'=.ok v w'/\R (.returned v) w')->LeavesInM F n P fn tmps R l .returning w
 | [],w,hs,_,h=>h w (λ_ _=>rfl) rfl rfl rfl rfl hs
 | d::l,w,hs,⟨⟨D,h1,h2,h3,h4⟩,h5⟩,h=>by
  refine⟨iN,.inl ⟨D,w.putObj D _,by rw[h1],run_takeDeferred h3,?_⟩⟩;refine O7 l _ (hs.O0 _ h3 rfl (NT hs h3 rfl rfl) (.inr rfl)) (h5.putObj _ h4) λw' g1 g2 g3 g4 g5 g6=>h _ (λD' hD'=>?_) (by simp_all) g3 g4 g5 g6
  rw[g1 _ hD',World.putObj_heap_other dO]
end
inductive JK where
 | tmp (t:Tmp)
 | cell (a:Tmp) (agg:Bool) (sz:Nat)
structure Ed where
 ntmps:Nat
 body:Fh
 results:List JK
abbrev SC:=Gv->I0->Env->St->Option (Env × St)
def Jx(body:Env->St->Option (Ex × Env × St)):Nat->Env->St->Option (Ex × Env × St)
 | 0,_,_=>none
 | n+1,env,S=>(body env S).bind λr=>match r.1 with
  | .normal=>Jx body n r.2.1 r.2.2
  | e=>some (e,r.2.1,r.2.2)
def EL(dr:SC)(cl:Gv)(n:Nat):Fh->Env->St->Option (Ex × Env × St)
 | .skip,env,S=>some (.normal,env,S)
 | .region ops,env,S=>(NA cl ops env S).map λr=>(.normal,r.1,r.2)
 | .draw d,env,S=>(dr cl d env S).map λr=>(.normal,r.1,r.2)
 | .seq a b,env,S=>(EL dr cl n a env S).bind λr=>match r.1 with
  | .normal=>EL dr cl n b r.2.1 r.2.2
  | e=>some (e,r.2.1,r.2.2)
 | .cond c x y,env,S=>match Env.ev env c with
  | .bool true=>EL dr cl n x env S
  | .bool false=>EL dr cl n y env S
  | _=>none
 | .block id c,env,S=>(EL dr cl n c env S).map λr=>match r.1 with
  | .exit id'=>if id'=id then (.normal,r.2.1,r.2.2) else r
  | _=>r
 | .loop c,env,S=>Jx (EL dr cl n c) n env S
 | .exit id,env,S=>some (.exit id,env,S)
 | .ret,env,S=>some (.ret,env,S)
 | .range x L,env,S=>match Env.ev env x with
  | .func (.func g) a b=>(cl (.func g) (a++#[.func (.yield S.next) #[] #[]]++b) (S.alloc (.loop env L none))).bind λr=>match r.2.get S.next with
   | .obj (.loop _ _ none)=>some (.normal,env,r.2.put S.next .gone)
   | .obj (.loop _ _ (some e))=>some (e,env,r.2.put S.next .gone)
   | _=>none
  | _=>none
def Kl(dr:SC)(cl:Gv)(n:Nat)(LT:Kj->Option (Fh × Fh))(id:Nat)(args:Array Value)(S:St):Option (Value × St):=
 match S.get id with
 | .obj (.loop env L none)=>if args.size=L.ps.size then (LT L).bind λx=>
   (EL dr cl n x.1 ((L.ps.zip args).foldl (λt (p,v)=>t.setIfInBounds p v) env) (S.put id .gone)).bind λr1=>match r1.1 with
    | .normal=>(EL dr cl n x.2 r1.2.1 r1.2.2).map λr2=>match r2.1 with
     | .normal=>(.bool true,r2.2.2.put id (.loop env L none))
     | e=>(.bool false,r2.2.2.put id (.loop env L (some e)))
    | _=>none
  else none
 | _=>none
def SD(env:Env)(S:St):JK->Option Value
 | .tmp t=>some (env.getD t undef)
 | .cell a agg sz=>match env.getD a undef with
  | .pointer (some ⟨id,o,none⟩)=>(S.rd id o sz).bind λc=>Hj agg c
  | _=>none
def pack:List Value->Value
 | [v]=>v
 | vs=>.tuple vs.toArray
def TT(l:List JK)(env:Env)(S:St):=(l.mapM (SD env S)).map pack
abbrev vp:=FuncId->Array Value->St->Option (Value × St)
def EZ(dr:SC)(F:FuncId->Option Ed)(LT:Kj->Option (Fh × Fh))(base:vp):Nat->Gv
 | 0,.func f,args,S=>match F f with
  | none=>base f args S
  | some _=>none
 | n+1,.func f,args,S=>match F f with
  | none=>base f args S
  | some fn=>(EL dr (EZ dr F LT base n) n fn.body (args++Array.replicate (fn.ntmps - args.size) undef) S).bind λr=>match r.1 with
   | .exit _=>none
   | _=>(TT fn.results r.2.1 r.2.2).map λv=>(v,r.2.2)
 | n+1,.yield id,args,S=>Kl dr (EZ dr F LT base n) n LT id args S
 | _,_,_,_=>none
def Ho(P:Program)(td:Array Oper->Option I0)(N:Nat):Code->Option Fh
 | .skip=>some .skip
 | .region _ ops false=>(ops.toList.mapM (Ib P ops)).map .region
 | .region _ ops true=>(td ops).map .draw
 | .seq a b=>match Ho P td N a,Ho P td N b with
  | some x,some y=>some (.seq x y)
  | _,_=>none
 | .cond c a b=>if E3 c then (match Ho P td N a,Ho P td N b with
  | some x,some y=>some (.cond c x y)
  | _,_=>none) else none
 | .block id c=>(Ho P td N c).map (.block id)
 | .loop c=>(Ho P td N c).map .loop
 | .scope c=>Ho P td N c
 | .rangeFunc g ps assign body=>if E3 g then (match Ho P td N assign,Ho P td N body with
  | some _,some _=>some (.range g ⟨ps,assign,body,N⟩)
  | _,_=>none) else none
 | .exit id=>some (.exit id)
 | .ret=>some .ret
 | _=>none
def jj(P:Program):ResultVar->Option JK
 | .tmp t=>some (.tmp t)
 | .cell a t=>match P.underlying t,P.info? t with
  | some d,some i=>some (.cell a (FI d) (if FI d then i.size else 1))
  | _,_=>none
def SF(P:Program)(td:Array Oper->Option I0)(fn:Func):Option Ed:=
 if (fn.name == "runtime.NumGoroutine")=false then
  match fn.body with
  | some c=>match Ho P td fn.ntmps c,fn.results.toList.mapM (jj P) with
   | some x,some r=>some ⟨fn.ntmps,x,r⟩
   | _,_=>none
  | none=>none
 else none
def SG(P:Program)(td:Array Oper->Option I0)(L:Kj):=(Ho P td L.n L.assign).bind λa=>(Ho P td L.n L.body).map λb=>(a,b)
def Wi(P:Program)(B:Nat)(td:Array Oper->Option I0)(dr:SC):=
 ∀ cl,IS P B cl->∀ ops d,td ops=some d->∀ env S env' S',dr cl d env S=some (env',S')->∀ id φ a w Q,E0 B φ S w->B<=w.heap.size->JM φ env a->
  (∀ φ' a' w',JM φ' env' a'->E0 B φ' S' w'->E6 B φ S w φ' S' w'->a'.defers=a.defers->Q .normal a' w')->∀ r,(Code.region id ops true).wpIn (fz r) 0 P Q a w
def SH:Ex->Exit
 | .normal=>.normal
 | .exit id=>.exit id
 | .ret=>.ret
section
variable {P:Program}{B:Nat}
def Ym{F c Q Q'}(h:∀ e a w,Q e a w->Q' e a w):∀ n a w,Code.roundsIn F 0 P c Q n a w->Code.roundsIn F 0 P c Q' n a w:=by
 intro n
 induction n with
 | zero=>intro a w h;exact h.elim
 | succ n ih=>
  intro a w hh;refine wpIn_mono hh ?_;intro e a' w' hq;cases e<;>first | exact ih _ _ hq | exact h _ _ _ hq
def IB(B:Nat)(φ:Es)(S:St)(w:World)(a:Act)(r:Ex × Env × St):=λe a' w'=>
 e=SH r.1/\∃ φ',JM φ' r.2.1 a'/\E0 B φ' r.2.2 w'/\E6 B φ S w φ' r.2.2 w'/\∃ ex,a'.defers=ex++a.defers/\Marks w.heap.size w' ex
def IB.trans{φ φ1 S S1 w w1 a a1 r}(hk:E6 B φ S w φ1 S1 w1)(hs1:E0 B φ1 S1 w1)(hd:∃ ex,a1.defers=ex++a.defers/\Marks w.heap.size w1 ex){e a' w'}(h:IB B φ1 S1 w1 a1 r e a' w'):IB B φ S w a r e a' w':=by
 obtain⟨h1,φ',h2,h3,h4,ex,h5,h6⟩:=h;obtain⟨ex1,h7,h8⟩:=hd;exact⟨h1,φ',h2,h3,hk.trans h4,ex++ex1,IN,Marks.append hk.size h6 (h8.D8 hs1 h4) h8.lt⟩
def IB.same{φ φ' S w a r e a' w'}(h1:e=SH r.1)(h2:JM φ' r.2.1 a')(h3:E0 B φ' r.2.2 w')(h4:E6 B φ S w φ' r.2.2 w')(h5:a'.defers=a.defers):IB B φ S w a r e a' w':=
 ⟨h1,φ',h2,h3,h4,[],IN,trivial⟩
def Yn{r φ S w env a}(hs:E0 B φ S w)(hB:B<=w.heap.size)(henv:JM φ env a)(hr:mZ r φ S w)(fn L) :
  ∃ l mark w1 φ1,(Instr.enterLoop fn a.tmps L.ps L.assign L.body r).run P w=.ok (l,mark) w1/\φ1 S.next=some ⟨l,0,0,0⟩/\E0 B φ1 (S.alloc (.loop env L none)) w1/\E6 B φ S w φ1 (S.alloc (.loop env L none)) w1/\Marks w.heap.size w1 mark/\(∀ d∈mark,d.target≠.collected l)/\w.heap.size<=l:=by
 cases r with
 | none=>
  have hl:MN _ _ L none { state:=.ready,pending:=none,fn,tmps:=a.tmps,params:=L.ps,assign:=L.assign,body:=L.body,defers:=w.heap.size }:=⟨henv,rfl,rfl,rfl,rfl,rfl⟩
  obtain⟨k1,k2⟩:=hs.eT _;obtain⟨k3,k4⟩:=k1.je aa0 hl;refine⟨_,_,_,_,run_enterLoop_outer _ _ _ _ _,by rw[Es.add_same,World.size_alloc],k3,k2.trans k4,⟨⟨w.heap.size,rfl,Af _,?_,iN⟩,trivial⟩,?_,dO⟩
  ·rw[GM,if_neg iN,GM,if_pos rfl]
  grind
 | some l0=>
  obtain⟨⟨r0,h0⟩,_⟩:=hr _ rfl;have hl:MN _ _ L none { state:=.ready,pending:=none,fn,tmps:=a.tmps,params:=L.ps,assign:=L.assign,body:=L.body,defers:=r0.defers }:=⟨henv,rfl,rfl,rfl,rfl,rfl⟩
  obtain⟨k3,k4⟩:=hs.je hB hl;refine⟨w.heap.size,[],_,_,?_,Es.add_same _ _ _,k3,k4,trivial,iN,Af _⟩;unfold Instr.enterLoop;simp only[Sem.run_bind,run_getLoop h0,run_newObj_alloc,Result.andThen,Sem.run_pure]
def Yo{cl}(hcl:IS P B cl){g ps assign body N env S S2 r gf fa fb fa' fb' v a w φ ro}
  (hc:cl (.func gf) (fa++#[.func (.yield S.next) #[] #[]]++fb) (S.alloc (.loop env ⟨ps,assign,body,N⟩ none))=some (v,S2))
  (h:(match S2.get S.next with
   | .obj (.loop _ _ none)=>some (.normal,env,S2.put S.next .gone)
   | .obj (.loop _ _ (some e))=>some (e,env,S2.put S.next .gone)
   | _=>none)=some r)
  (e':a.eval g=.func (.func gf) fa' fb') (hfa:Gb φ fa fa') (hfb:Gb φ fb fb') (hro:mZ ro φ S w) (hs:E0 B φ S w) (hB:B<=w.heap.size) (henv:JM φ env a) :
  (Code.rangeFunc g ps assign body).wpIn (fz ro) 0 P (IB B φ S w a r) a w:=by
 refine wpIn_rangeFunc λfn _=>?_
 obtain⟨l,mark,w1,φ1,q1,q2,q3,q4,q5,q6,q7⟩:=Yn (P:=P) hs hB henv hro fn ⟨ps,assign,body,N⟩;obtain⟨⟨f0,c1,c2,c3⟩,hcall⟩:=hcl _ _ _ _ _ hc;have hy:Gb φ1 #[.func (.yield S.next) #[] #[]] #[.func (.yield l) #[] #[]]:=⟨rfl,λi h1 h2=>by
  have:i=0:=by simp at h1;omega
  subst this;exact Rel.yield S.next ⟨l,0,0,0⟩ q2⟩
 have hcalls:Calls P gf (fa'++#[.func (.yield l) #[] #[]]++fb') w1 (rangePost (fz ro) 0 P l (IB B φ S w a r) { a with defers:=mark++a.defers }):=by
  have hargs:Gb φ1 (fa++#[.func (.yield S.next) #[] #[]]++fb) (fa'++#[.func (.yield l) #[] #[]]++fb'):=Gb.append (Gb.append (hfa.mono q4.le) hy) (hfb.mono q4.le);have hB1:B<=w1.heap.size:=An hB q4.size;have hc1:Calls P gf (fa'++#[.func (.yield l) #[] #[]]++fb') w1 (Mv B φ1 (S.alloc (.loop env ⟨ps,assign,body,N⟩ none)) w1 v S2):=hcall φ1 w1 _ hargs q3 hB1;refine Calls.mono hc1 ?_;intro ed w3 hout;obtain⟨φ2,v',hed,r1,r2,r3⟩:=hout;subst hed;have hid:=r3.le _ _ q2;obtain⟨env2,L2,pe,hget,hres⟩:∃ env2 L2 pe,S2.get S.next=.loop env2 L2 pe/\r=((pe.getD .normal),env,S2.put S.next .gone):=by
   split at h
   ·rename_i e3
    exact⟨_,_,_,e3,(Aa h).symm⟩
   ·rename_i e3
    exact⟨_,_,_,e3,(Aa h).symm⟩
   ·cases h
  subst hres;obtain⟨hBl,rc,hrc,hlr⟩:=r2.pU hid hget;obtain⟨g1,g2,g3⟩:=r2.X8 hid hget;have hsim:E0 B φ2 (S2.put S.next .gone) (w3.putObj l (.loop { rc with state:=.exhausted })):=g1.O0 _ hrc rfl g3 (.inl hBl.1);have hkeep:E6 B φ S w φ2 (S2.put S.next .gone) (w3.putObj l (.loop { rc with state:=.exhausted })):=((q4.trans r3).trans g2).zZ q7 _;have hmk:Marks w.heap.size (w3.putObj l (.loop { rc with state:=.exhausted })) mark:=(q5.D8 q3 r3).putObj _ q6;have hpost:∀ ex:Ex,IB B φ S w a (ex,env,S2.put S.next .gone) (SH ex) { a with defers:=mark++a.defers } (w3.putObj l (.loop { rc with state:=.exhausted })):=λex=>
   ⟨rfl,φ2,henv.mono (q4.le.trans r3.le),hsim,hkeep,mark,rfl,hmk⟩
  have hend:=run_endLoop (P:=P) hrc hlr.vt;have hp:=hlr.2.2.2.2.1;generalize (w3.putObj l (.loop { rc with state:=.exhausted }))=w4 at *;generalize rc.pending=pend at *;subst hp;refine⟨pe.map Ex.code,w4,hend,?_⟩;cases pe with
  | none=>exact hpost .normal
  | some ex=>
   cases ex with
   | normal=>exact wpIn_skip (hpost .normal)
   | exit id=>exact wpIn_exit (hpost (.exit id))
   | ret=>exact wpIn_ret (hpost .ret)
 have h1:(resolve a.eval (rangeCall g l) 0).run P w1=.ok { target:=.fn (.func gf) fb',args:=fa'++#[.func (.yield l) #[] #[]] } w1:=by
  simp only[resolve];rw[e'];simp[Deferred.ofValue,Act.eval]
 have h2:(invoke (.fn (.func gf) fb') (fa'++#[.func (.yield l) #[] #[]])).run P w1=.ok (.enter gf (fa'++#[.func (.yield l) #[] #[]]++fb')) w1:=by
  simp[invoke,LU c1 c2 c3]
 have h3:CallsIn (fz ro) (0 - 1) P gf (fa'++#[.func (.yield l) #[] #[]]++fb') w1 (rangePost (fz ro) 0 P l (IB B φ S w a r) { a with defers:=mark++a.defers }):=SB.2 hcalls;have h4:(fz ro).depth.isSome=true->1<=0:=λhd=>by simp[fz,Fence.wide] at hd
 have h5:∀ f',Target.leads P w1 (.fn (.func gf) fb') (fa'++#[.func (.yield l) #[] #[]])=some f'->(fz ro).fn f':=λ_ _=>trivial
 generalize fa'++#[.func (.yield l) #[] #[]]++fb'=A at h2 h3;generalize fa'++#[.func (.yield l) #[] #[]]=A1 at h1 h2 h5;exact⟨l,mark,w1,{ target:=.fn (.func gf) fb',args:=A1 },w1,gf,A,w1,q1,h1,h5,h2,h4,h3⟩
def Ol{N td dr cl}(hdr:Wi P B td dr)(hcl:IS P B cl)(n):∀ c x,Ho P td N c=some x->∀ env S r,EL dr cl n x env S=some r->
  ∀ ro φ a w,mZ ro φ S w->E0 B φ S w->B<=w.heap.size->JM φ env a->c.wpIn (fz ro) 0 P (IB B φ S w a r) a w:=by
 intro c
 induction c with
 | skip=>
  intro x hx env S r h ro φ a w hro hs hB henv;obtain rfl:=Aa hx;obtain rfl:=Aa h;exact wpIn_skip (IB.same rfl henv hs (E6.refl _ _ _ _) rfl)
 | region id ops draw=>
  intro x hx env S r h ro φ a w hro hs hB henv;cases draw with
  | false=>
   simp only[Ho,Ab] at hx;obtain⟨xs,hxs,rfl⟩:=hx;simp only[EL,Ab] at h;obtain⟨⟨env',S'⟩,h,rfl⟩:=h;refine wpIn_region ?_;rw[List.range_eq_range'];exact lj hcl hxs ops.size 0 env S env' S' φ a w dO ae0 hs hB henv λφ' a' w' h1 h2 h3 h4=>IB.same rfl h1 h2 h3 h4
  | true=>
   simp only[Ho,Ab] at hx;obtain⟨d,hd,rfl⟩:=hx;simp only[EL,Ab] at h;obtain⟨⟨env',S'⟩,h,rfl⟩:=h;exact hdr cl hcl ops d hd env S env' S' h id φ a w _ hs hB henv (λφ' a' w' h1 h2 h3 h4=>IB.same rfl h1 h2 h3 h4) ro
 | seq c1 c2 ih1 ih2=>
  intro x hx env S r h ro φ a w hro hs hB henv;simp only[Ho] at hx;split at hx
  case h_2=>cases hx
  rename_i x1 x2 hx1 hx2;obtain rfl:=Aa hx;simp only[EL,Ae] at h;obtain⟨⟨e1,env1,S1⟩,h1,h2⟩:=h;refine wpIn_seq (wpIn_mono (ih1 x1 hx1 env S _ h1 ro φ a w hro hs hB henv) ?_);rintro e a1 w1 ⟨he,φ1,k1,k2,k3,k4⟩;simp only at he k1 k2 k3;cases e1 with
  | normal=>
   subst he;simp only at h2;exact wpIn_mono (ih2 x2 hx2 env1 S1 r h2 ro φ1 a1 w1 (hro.same k3) k2 (An hB k3.size) k1) λe a' w' hp=>IB.trans k3 k2 k4 hp
  | exit id=>
   subst he;obtain rfl:=Aa h2;exact⟨rfl,φ1,k1,k2,k3,k4⟩
  | ret=>
   subst he;obtain rfl:=Aa h2;exact⟨rfl,φ1,k1,k2,k3,k4⟩
 | cond c c1 c2 ih1 ih2=>
  intro x hx env S r h ro φ a w hro hs hB henv;simp only[Ho] at hx;split at hx
  case isFalse=>cases hx
  rename_i hok;split at hx
  case h_2=>cases hx
  rename_i x1 x2 hx1 hx2;obtain rfl:=Aa hx;have hc:=henv.ev hok;simp only[EL] at h;split at h
  ·rename_i e
   rw[e] at hc;exact wpIn_cond_true (Ko hc) (ih1 x1 hx1 env S r h ro φ a w hro hs hB henv)
  ·rename_i e
   rw[e] at hc;exact wpIn_cond_false (Ko hc) (ih2 x2 hx2 env S r h ro φ a w hro hs hB henv)
  ·cases h
 | block id c ih=>
  intro x hx env S r h ro φ a w hro hs hB henv;simp only[Ho,Ab] at hx;obtain⟨x1,hx1,rfl⟩:=hx;simp only[EL,Ab] at h;obtain⟨⟨e1,env1,S1⟩,h1,rfl⟩:=h;refine wpIn_block (wpIn_mono (ih x1 hx1 env S _ h1 ro φ a w hro hs hB henv) ?_);rintro e a1 w1 ⟨he,φ1,k1,k2,k3,k4⟩;simp only at he k1 k2 k3;cases e1 with
  | normal=>subst he;exact⟨rfl,φ1,k1,k2,k3,k4⟩
  | ret=>subst he;exact⟨rfl,φ1,k1,k2,k3,k4⟩
  | exit id'=>
   subst he;simp only[SH,Exit.inBlock];by_cases e:id'=id
   ·subst e
    rw[if_pos rfl,if_pos rfl];exact⟨rfl,φ1,k1,k2,k3,k4⟩
   ·rw[if_neg e,if_neg e]
    exact⟨rfl,φ1,k1,k2,k3,k4⟩
 | loop c ih=>
  intro x hx env S r h ro φ a w hro hs hB henv;simp only[Ho,Ab] at hx;obtain⟨x1,hx1,rfl⟩:=hx;simp only[EL] at h;refine wpIn_loop_rounds n ?_;have key:∀ m env S r,Jx (EL dr cl n x1) m env S=some r->∀ φ a w,mZ ro φ S w->E0 B φ S w->B<=w.heap.size->JM φ env a->Code.roundsIn (fz ro) 0 P c (IB B φ S w a r) m a w:=by
   intro m
   induction m with
   | zero=>intro env S r h;cases h
   | succ m ihm=>
    intro env S r h φ a w hro hs hB henv;rw[roundsIn_succ];simp only[Jx,Ae] at h;obtain⟨⟨e1,env1,S1⟩,h1,h2⟩:=h;refine wpIn_mono (ih x1 hx1 env S _ h1 ro φ a w hro hs hB henv) ?_;rintro e a1 w1 ⟨he,φ1,k1,k2,k3,k4⟩;simp only at he k1 k2 k3;cases e1 with
    | normal=>
     subst he;simp only at h2;have:=ihm env1 S1 r h2 φ1 a1 w1 (hro.same k3) k2 (An hB k3.size) k1;exact Ym (λe a' w' hp=>IB.trans k3 k2 k4 hp) m a1 w1 this
    | exit id=>
     subst he;obtain rfl:=Aa h2;exact⟨rfl,φ1,k1,k2,k3,k4⟩
    | ret=>
     subst he;obtain rfl:=Aa h2;exact⟨rfl,φ1,k1,k2,k3,k4⟩
  exact key n env S r h φ a w hro hs hB henv
 | scope c ih=>
  intro x hx env S r h ro φ a w hro hs hB henv;refine NB (wpIn_mono (ih x hx env S r h ro φ a w hro hs hB henv) ?_);rintro e a1 w1 ⟨he,rest⟩;subst he;obtain⟨e1,env1,S1⟩:=r;cases e1<;>exact⟨rfl,rest⟩
 | exit id=>
  intro x hx env S r h ro φ a w hro hs hB henv;obtain rfl:=Aa hx;obtain rfl:=Aa h;exact wpIn_exit (IB.same rfl henv hs (E6.refl _ _ _ _) rfl)
 | ret=>
  intro x hx env S r h ro φ a w hro hs hB henv;obtain rfl:=Aa hx;obtain rfl:=Aa h;exact wpIn_ret (IB.same rfl henv hs (E6.refl _ _ _ _) rfl)
 | rangeFunc g ps assign body _ _=>
  intro x hx env S r h ro φ a w hro hs hB henv;simp only[Ho] at hx;split at hx
  case isFalse=>cases hx
  rename_i hok;split at hx
  case h_2=>cases hx
  obtain rfl:=Aa hx;have hg:=henv.ev hok;simp only[EL] at h;split at h
  case h_2=>cases h
  rename_i gf fa fb e;rw[e] at hg;obtain⟨fa',fb',e',hfa,hfb⟩:∃ fa' fb',a.eval g=.func (.func gf) fa' fb'/\Gb φ fa fa'/\Gb φ fb fb':=by
   revert hg
   generalize a.eval g=u;intro hg;cases hg with
   | func _ _ _ a' b' ha hb h1 h2=>exact⟨a',b',rfl,⟨ha,h1⟩,⟨hb,h2⟩⟩
  simp only[Ae] at h;obtain⟨⟨v,S2⟩,hc,h⟩:=h;exact Yo hcl hc h e' hfa hfb hro hs hB henv
 | label l=>intro x hx;cases hx
 | goto l=>intro x hx;cases hx
 | refuse why=>intro x hx;cases hx
def SI(tmps:Array Value):ResultVar->Sem Value
 | .tmp t=>pure (tmps.getD t undef)
 | .cell p t=>do loadVar t (<- asAddr (tmps.getD p undef))
def fq(fn tmps):results fn tmps=(do let vs <- fn.results.mapM (SI tmps);pure (if h:vs.size=1 then vs[0] else .tuple vs)):=by
 congr
def fu{φ S w env a}(hs:E0 B φ S w)(henv:JM φ env a){rv xr}(ht:jj P rv=some xr){v}(h:SD env S xr=some v) :
  ∃ v',(SI a.tmps rv).run P w=.ok v' w/\Rel φ v v':=by
 cases rv with
 | tmp t=>
  obtain rfl:=Aa ht;obtain rfl:=Aa h;exact⟨_,rfl,henv.ev (x:=.tmp t) rfl⟩
 | cell p t=>
  simp only[jj] at ht;split at ht
  case h_2=>grind
  rename_i d i hd hi;obtain rfl:=Aa ht;simp only[SD] at h;split at h
  case h_2=>cases h
  rename_i id o e;have hx:Rel _ (env.getD p _) (a.tmps.getD p _):=henv.ev (x:=.tmp p) rfl;rw[e] at hx;simp only[Ae] at h;obtain⟨c,hc,hv⟩:=h;obtain⟨s,e1,e2⟩:=LR hx;obtain⟨v',h1,h2⟩:=K5 (P:=P) hs hd hi e1 hc hv;refine⟨v',?_,h2⟩;simp only[SI,e2,Sem.run_bind,asAddr,Sem.run_pure,Result.andThen_ok,h1]
def lk{φ S w env a}(hs:E0 B φ S w)(henv:JM φ env a):∀ (l:List _) xs vs,l.mapM (jj P)=some xs->xs.mapM (SD env S)=some vs->
  ∃ vs',(l.mapM (SI a.tmps)).run P w=.ok vs' w/\FX φ vs vs':=by
 intro l
 induction l with
 | nil=>
  intro xs vs h1 h2;simp at h1;subst h1;simp at h2;subst h2;exact⟨[],iN,FX.nil _⟩
 | cons rv l ih=>
  intro xs vs h1 h2;simp only[BF,BT,Ae] at h1;obtain⟨x,hx,xs',hxs,h1⟩:=h1;simp at h1;subst h1;simp only[BF,BT,Ae] at h2;obtain⟨v,hv,vs',hvs,h2⟩:=h2;simp at h2;subst h2;obtain⟨v',k1,k2⟩:=fu hs henv hx hv;obtain⟨vs'',k3,k4⟩:=ih _ _ hxs hvs;refine⟨v'::vs'',?_,FX.cons k2 k4⟩
  simp_all
def foldl_rel{φ}:∀ (ps:List Tmp) xs xs' (env:Env) t',Gb φ env t'->FX φ xs xs'->
  Gb φ ((ps.zip xs).foldl (λt (p,v)=>t.setIfInBounds p v) env) ((ps.zip xs').foldl (λt (p,v)=>t.setIfInBounds p v) t'):=by
 intro ps
 induction ps with
 | nil=>simp_all
 | cons p ps ih=>
  intro xs xs' env t' h hx;cases xs with
  | nil=>
   obtain rfl:xs'=[]:=Ak hx.1.symm
   simp_all
  | cons x xs=>
   cases xs' with
   | nil=>have:=hx.1;grind
   | cons x' xs'=>
    refine ih _ _ _ _ ?_ hx.tail;exact JM.put (a:={ tmps:=t',defers:=[] }) (show JM _ _ { tmps:=t',defers:=[] } from h) (some p) (hx.2 0 iN iN)
def P9(ps:Array Tmp)(args)(t:Array Value):(ps.zip args).foldl (λt (p,v)=>t.setIfInBounds p v) t=(ps.toList.zip args.toList).foldl (λt (p,v)=>t.setIfInBounds p v) t:=by
 rw[<- Dj,Array.toList_zip]
def Yp{td dr cl}(hdr:Wi P B td dr)(hcl:IS P B cl)(n){LT}(hLT:∀ L x,LT L=some x->SG P td L=some x){id args S S' v}
  (h:Kl dr cl n LT id args S=some (v,S')) {φ w args'} (hargs:Gb φ args args') (hs:E0 B φ S w) (hB:B<=w.heap.size) {s} (hid:φ id=some s):Yields P s.b args' w (Mv B φ S w v S'):=by
 unfold Kl at h;split at h
 case h_2=>cases h
 rename_i env L hget;split at h
 case isFalse=>cases h
 rename_i hsz;generalize hE:(L.ps.zip _).foldl _ _=env0 at h;simp only[Ae] at h;obtain⟨⟨xa,xb⟩,hL,⟨e1,env1,S1⟩,h1,h2⟩:=h;have hL:=hLT L _ hL;simp only[SG,Ae,Ab,AA] at hL;obtain⟨xa',ha,xb',hb,e1',e2'⟩:=hL;subst e1' e2';cases e1 with
 | exit _=>simp at h2
 | ret=>simp at h2
 | normal=>
 simp only[Ab] at h2;obtain⟨⟨e2,env2,S2⟩,h2,h3⟩:=h2;obtain⟨hBs,r,hr,hlr⟩:=hs.pU hid hget;obtain⟨q1,q2,q3,q4,q5,q6⟩:=hlr;obtain⟨g1,g2,g3⟩:=hs.X8 hid hget;have hlt:s.b < w.heap.size:=(AR.1 hr).1;refine⟨r.fn,_,r.assign,r.body,run_yield hr (by rw[q2,<- hargs.1];exact hsz),roundIn_of_wpIn trivial ?_⟩;have hin:mZ _ _ _ w:=λl e=>by
  obtain rfl:=Aa e;exact⟨⟨r,hr⟩,g3⟩
 have hwr:(S.get _).wr=true:=vu hget;have hrel:Gb φ env0 ((r.params.zip args').foldl (λt (p,v)=>t.setIfInBounds p v) r.tmps):=by
  rw[<- hE,q2,P9,P9];exact foldl_rel _ _ _ _ _ q1 hargs.PB
 have hass:=Ol hdr hcl n r.assign _ (by rw[q3];exact ha) _ _ _ h1 _ _ { tmps:=(r.params.zip args').foldl (λt (p,v)=>t.setIfInBounds p v) r.tmps,defers:=[] } w hin g1 hB hrel;refine wpIn_mono hass ?_;rintro e a1 w1 ⟨he,φ1,k1,k2,k3,ex,k4,k5⟩;simp only[SH] at he;subst he;simp only at k1 k2 k3;have hr1:w1.heap[s.b]? = some (.loop r):=by rw[k3.D8 _ hlt g3];exact hr
 have hn1:Rg _ _ _:=g3.D8 hlt k3;refine⟨_,run_beginRound hr1 q6,?_⟩;have hs2:E0 B _ _ (w1.putObj s.b (.loop { r with state:=.busy })):=k2.O0 _ hr1 rfl hn1 (.inl hBs.1);have hr2:(w1.putObj s.b (.loop { r with state:=.busy })).heap[s.b]? = some (.loop { r with state:=.busy }):=World.putObj_heap_same (AR.1 hr1).1;have hin2:mZ (some s.b) φ1 S1 (w1.putObj s.b (.loop { r with state:=.busy })):=λl e=>by
  obtain rfl:=Aa e;exact⟨⟨_,hr2⟩,hn1⟩
 have hk1:E6 B φ S w φ1 S1 (w1.putObj s.b (.loop { r with state:=.busy })):=(g2.trans k3).putObj hid hwr _;have hbody:=Ol hdr hcl n r.body xb' (by rw[q4];exact hb) _ _ _ h2 (some s.b) φ1 a1 _ hin2 hs2 (by have:=hk1.size;omega) k1;refine wpIn_mono hbody ?_;rintro e a3 w3 ⟨he,φ3,m1,m2,m3,ex3,m4,m5⟩;simp only at he m1 m2 m3;have hr3:w3.heap[s.b]? = some (.loop { r with state:=.busy }):=by
  rw[m3.D8 s.b (by have:=hk1.size;omega) hn1];exact hr2
 have hn3:Rg φ3 S2 s.b:=hn1.D8 (by have:=hk1.size;omega) m3;have hk3:E6 B φ S w φ3 S2 w3:=hk1.trans m3;have fin:∀ pe,S'=S2.put id (.loop env L pe)->v=.bool (pe.map Ex.code).isNone->∃ v' w',(Instr.endRound s.b (pe.map Ex.code)).run P w3=.ok v' w'/\Mv B φ S w v S' (.returned v') w':=by
  intro pe hS' hv;subst hS' hv;have hend:=run_endRound (P:=P) (pe.map Ex.code) hr3;refine⟨_,_,hend,φ3,_,rfl,.bool _,?_,?_⟩
  ·exact m2.pV (hk3.le _ _ hid) hr3 hn3 hBs ⟨q1.mono hk3.le,q2,q3,q4,rfl,by cases pe<;>rfl⟩
  ·exact (hk3.putObj hid hwr _).pW hid hwr _
 cases e2 with
 | normal=>
  subst he;simp only[AA] at h3;exact fin none h3.2.symm h3.1.symm
 | exit j=>
  subst he;simp only[AA] at h3;exact fin (some (.exit j)) h3.2.symm h3.1.symm
 | ret=>
  subst he;simp only[AA] at h3;exact fin (some .ret) h3.2.symm h3.1.symm
def LO{td dr}(hdr:Wi P B td dr){F}(hF:∀ f xf,F f=some xf->∃ fn,P.funcs[f]? = some fn/\SF P td fn=some xf){LT}(hLT:∀ L x,LT L=some x->SG P td L=some x)
  {base} (hbase:IS P B (λg args S=>match g with
   | .func f=>base f args S
   | _=>none)):∀ n,IS P B (EZ dr F LT base n):=by
 intro n
 induction n with
 | zero=>
  intro g args S v S' h;cases g with
  | func f=>
   simp only[EZ] at h;split at h
   ·exact hbase (.func f) _ _ _ _ h
   ·cases h
  | yield id=>simp[EZ] at h
  | method _=>simp[EZ] at h
  | methodOf _ _=>simp[EZ] at h
  | via _ _ _ _=>simp[EZ] at h
 | succ n ih=>
  intro g args S v S' h;cases g with
  | method _=>simp[EZ] at h
  | methodOf _ _=>simp[EZ] at h
  | via _ _ _ _=>simp[EZ] at h
  | yield id=>
   simp only[EZ] at h;exact λφ w args' hargs hs hB s hid=>Yp hdr ih n hLT h hargs hs hB hid
  | func f=>
  simp only[EZ] at h;split at h
  case h_1=>exact hbase (.func f) _ _ _ _ h
  rename_i xf hf;obtain⟨fn,h1,h2⟩:=hF f _ hf;unfold SF at h2;split at h2
  case isFalse=>cases h2
  rename_i hn;split at h2
  case h_2=>cases h2
  rename_i c hc;split at h2
  case h_2=>cases h2
  rename_i x r hx hr;obtain rfl:=Aa h2;refine⟨⟨fn,h1,by simp[hc],hn⟩,λφ w args' hargs hs hB=>?_⟩;simp only[Ae] at h;obtain⟨⟨e1,env1,S1⟩,hx1,h⟩:=h;refine (callsIn_wide (n:=0)).1 (callsIn_of_wp_marks h1 hc trivial (wpIn_mono (Ol hdr ih n c x hx _ S _ hx1 none φ { tmps:=args'++Array.replicate (fn.ntmps - args'.size) undef,defers:=[] } w (mZ.none _ _ _) hs hB ?_) ?_))
  ·rw[hargs.1]
   exact hargs.append ⟨rfl,λi h1 h2=>by simpa using Rel.undef φ⟩
  ·rintro e a1 w1 ⟨he,φ1,k1,k2,k3,ex,k4,k5⟩
   simp only at he k1 k2 k3 h;rw[AP] at k4;have fin:(TT r env1 S1).map (λv=>(v,S1))=some (v,S')->LeavesInM Fence.wide 0 P fn a1.tmps (Mv B φ S w v S') a1.defers .returning w1:=by
    intro h;simp only[TT,Ab,AA] at h;obtain⟨v0,⟨vs,hvs,rfl⟩,rfl,rfl⟩:=h;rw[k4];refine O7 ex w1 k2 k5 λw' g1 g2 g3 g4 g5 g6=>?_
    obtain⟨vs',q1,q2⟩:=lk g6 k1 fn.results.toList r vs hr hvs;have hk':E6 B φ S w φ1 S1 w':=⟨k3.le,k3.place,k3.new,by rw[<- g2];exact k3.size,k3.next,g3.trans k3.os,g4.trans k3.tape,g5.trans k3.output,λb hb hno=>by rw[g1 b hb];exact k3.D8 b hb hno,k3.Jz⟩
    refine⟨(if h:vs'.toArray.size=1 then vs'.toArray[0] else .tuple vs'.toArray),?_,φ1,_,rfl,?_,g6,hk'⟩
    ·have hm:(fn.results.mapM (SI a1.tmps)).run P w'=.ok vs'.toArray w':=by
      rw[<- C6 (xs:=fn.results),List.mapM_toArray,Sem.run_map,q1];rfl
     rw[fq,Sem.run_bind];rw[hm];rfl
    ·have hl:=q2.1
     match vs,vs',q2 with
     | [],[],q2=>simpa [pack] using Rel.tuple' q2.tc
     | [x],[y],q2=>simpa [pack] using q2.2 0 iN iN
     | x::x2::xs,y::y2::ys,q2=>simpa [pack] using Rel.tuple' q2.tc
     | [],_::_,q2=>exact absurd q2.1 iN
     | _::_,[],q2=>exact absurd q2.1 iN
     | [_],_::_::_,q2=>exact absurd q2.1 iN
     | _::_::_,[_],q2=>exact absurd q2.1 iN
   cases e1 with
   | normal=>subst he;exact fin h
   | ret=>subst he;exact fin h
   | exit id=>cases h
end
def LV:Gk->Bool
 | .extra .mkMap _ | .extra (.nilF _) _ | .extra .gload _ | .extra (.lookG _ _) _=>false
 | .store _ _ _ | .append _ _ _ _ _ | .copy _ _ _ | .clr _ _ _ | .call _ _ | .callv _ _ | .extra _ _=>true
 | _=>false
def GA:Gk->Bool
 | .load _ _ _ | .sl _ _ _ _=>true
 | _=>false
def Hg:Gk->Bool
 | .box _ _ | .zero _ _ | .mkSlice _ _ _ _ _ _ | .buildSlice _ _ _ _ _ | .extra .mkMap _=>true
 | _=>false
structure Rec where
 env:Env
 S:St
 w:Bool
 v:Value
def KF(cl:Gv):List EW->Env->St->Option (List Rec × Env × St)
 | [],env,S=>some ([],env,S)
 | o::r,env,S=>if G3 o env then (GL cl o.op (Env.ev env) S).bind λp=>(KF cl r (Env.put env o.dst p.1) p.2).map λq=>(⟨env,S,true,p.1⟩::q.1,q.2)
  else (KF cl r (Env.put env o.dst undef) S).map λq=>(⟨env,S,false,undef⟩::q.1,q.2)
def D7(R:List Rec)(S':St)(i:Nat):St:=
 match R[i]? with
 | some r=>r.S
 | none=>S'
def HH(R:List Rec)(env':Env)(i:Nat):Env:=
 match R[i]? with
 | some r=>r.env
 | none=>env'
def Es.below(φ:Es)(m:Nat):Es:=⟨λid=>if id < m then φ id else none,φ.Fy⟩
def qc(m:Nat)(v:Value):=∀ φ v',Rel φ v v'->Rel (φ.below m) v v'
def o8(d:I0)(R:List Rec)(S':St):=
 (∀ i,i < R.length->(D7 R S' i).next<=(D7 R S' (i+1)).next)/\
 ∀ i r o,R[i]? = some r->d.ops[i]? = some o->r.w=true->LV o.op=false->∀ q,q∈(d.stages[i]?).getD []->
  (GA o.op=true->(∃ S'',EF o.op r.env.ev (D7 R S' q)=some (r.v,S''))/\(i < q->qc r.S.next r.v))/\
  (Hg o.op=true->i < q->(D7 R S' q).get r.S.next=(D7 R S' (i+1)).get r.S.next)
open Classical in
noncomputable def FU:SC:=λcl d env S=>(KF cl d.ops env S).bind λr=>if o8 d r.1 r.2.2 then some r.2 else none
def HQ{cl}:∀ xs env S R env' S',KF cl xs env S=some (R,env',S')->
  R.length=xs.length/\HH R env' 0=env/\D7 R S' 0=S/\∀ i h,∃ r,R[i]? = some r/\r.env=HH R env' i/\r.S=D7 R S' i/\r.w=G3 xs[i] (HH R env' i)/\
   (r.w=true->GL cl xs[i].op (HH R env' i).ev (D7 R S' i)=some (r.v,D7 R S' (i+1)))/\(r.w=false->r.v=undef/\D7 R S' (i+1)=D7 R S' i)/\HH R env' (i+1)=(HH R env' i).put xs[i].dst r.v:=by
 intro xs
 induction xs with
 | nil=>
  intro env S R env' S' h;simp only[KF,AE,AA] at h;obtain⟨rfl,rfl,rfl⟩:=h;exact⟨rfl,rfl,rfl,λi h=>by simp at h⟩
 | cons o xs ih=>
  intro env S R env' S' h;have key:∀ wn v S1 R1,R=⟨env,S,wn,v⟩::R1->KF cl xs (env.put o.dst v) S1=some (R1,env',S')->wn=G3 o env->(wn=true->GL cl o.op env.ev S=some (v,S1))->(wn=false->v=undef/\S1=S)->
    R.length=(o::xs).length/\HH R env' 0=env/\D7 R S' 0=S/\∀ i h,∃ r,R[i]? = some r/\r.env=HH R env' i/\r.S=D7 R S' i/\r.w=G3 (o::xs)[i] (HH R env' i)/\
     (r.w=true->GL cl (o::xs)[i].op (HH R env' i).ev (D7 R S' i)=some (r.v,D7 R S' (i+1)))/\(r.w=false->r.v=undef/\D7 R S' (i+1)=D7 R S' i)/\HH R env' (i+1)=(HH R env' i).put (o::xs)[i].dst r.v:=by
   intro wn v S1 R1 hR h1 hw ht hf;subst hR;obtain⟨l1,l2,l3,l4⟩:=ih _ _ _ _ _ h1;refine⟨by simp[l1],rfl,rfl,λi hi=>?_⟩;have sT:∀ j,D7 (⟨env,S,wn,v⟩::R1) S' (j+1)=D7 R1 S' j:=λj=>by simp[D7]
   have sE:∀ j,HH (⟨env,S,wn,v⟩::R1) env' (j+1)=HH R1 env' j:=λj=>by simp[HH]
   cases i with
   | zero=>
    refine⟨⟨env,S,wn,v⟩,rfl,rfl,rfl,hw,λh=>?_,λh=>?_,?_⟩
    ·rw[sT,l3];exact ht h
    ·rw[sT,l3];exact hf h
    ·rw[sE,l2];rfl
   | succ i=>
    obtain⟨r,q⟩:=l4 i _;refine⟨r,?_⟩;rw[sT,sT,sE,sE];simpa using q
  simp only[KF] at h;split at h
  ·rename_i hw
   simp only[Ae,Ab] at h;obtain⟨⟨v,S1⟩,h1,⟨R1,e1,s1⟩,h2,h3⟩:=h;simp only[AA] at h3;obtain⟨h3,rfl,rfl⟩:=h3;exact key _ v _ _ h3.symm h2 hw.symm (λ_=>h1) (λx=>by cases x)
  ·rename_i hw
   simp only[Ab] at h;obtain⟨⟨R1,e1,s1⟩,h2,h3⟩:=h;simp only[AA] at h3;obtain⟨h3,rfl,rfl⟩:=h3;exact key _ _ S _ h3.symm h2 (Bq.2 hw).symm (λx=>by cases x) (λ_=>⟨rfl,rfl⟩)
def fold(dst:Nat->Option Tmp)(val:Nat->Value)(bd:Nat->Nat)(v0:Tmp->Value)(b0:Nat)(dn:Nat->Bool)
 | 0,t=>(v0 t,b0)
 | k+1,t=>if dn k=true/\dst k=some t then (val k,bd k) else fold dst val bd v0 b0 dn k t
section
variable {dst:Nat->Option Tmp}{val:Nat->Value}{bd:Nat->Nat}{v0:Tmp->Value}{b0:Nat}{dn:Nat->Bool}
def UM{i t}(h1:∀ j,j < i->dst j=some t->dn j=true)(h2:∀ j,i<=j->dst j=some t->dn j=false):∀ k,i<=k->fold dst val bd v0 b0 dn k t=fold dst val bd v0 b0 (λ_=>true) i t:=by
 have a:∀ k,k<=i->fold dst val bd v0 b0 dn k t=fold dst val bd v0 b0 (λ_=>true) k t:=by
  intro k
  induction k with
  | zero=>intro _;rfl
  | succ k ih=>
   intro hk;simp only[fold]
   grind
 intro k
 induction k with
 | zero=>
   grind
 | succ k ih=>
  intro hk;by_cases e:i=k+1
  ·grind
  ·simp only[fold]
   grind
def fw{dn' i}(hdn:∀ j,dn' j=true↔j=i\/dn j=true)(h0:dn i=false){t}(h2:∀ j,i < j->dst i=some t->dst j=some t->dn j=false):∀ k,i < k->
  fold dst val bd v0 b0 dn' k t=if dst i=some t then (val i,bd i) else fold dst val bd v0 b0 dn k t:=by
 have a:∀ k,k<=i->fold dst val bd v0 b0 dn' k t=fold dst val bd v0 b0 dn k t:=by
  intro k
  induction k with
  | zero=>intro _;rfl
  | succ k ih=>
   intro hk;simp only[fold]
   grind
 intro k
 induction k with
 | zero=>omega
 | succ k ih=>
  intro hk;by_cases e:i=k
  ·subst e
   have hi:=(hdn i).2 (.inl rfl);simp only[fold,hi,h0,true_and,AW,false_and,if_false]
   grind
  ·simp only[fold]
   grind
def fx{m:Nat->Nat}(h0:b0<=m 0)(hm:∀ k,bd k<=m (k+1))(mono:∀ k,m k<=m (k+1))(t):∀ k,(fold dst val bd v0 b0 (λ_=>true) k t).2<=m k:=by
 intro k
 induction k with
 | zero=>exact h0
 | succ k ih=>
  simp only[fold]
  grind
end
def GP(φ:Es)(m id):(φ.below m) id=if id < m then φ id else none:=rfl
def qd(φ m):Es.le (φ.below m) φ:=⟨λid s h=>by
 rw[GP] at h
 grind,rfl⟩
def Iv{φ ψ}(h:Es.le φ ψ){m m'}(hm:m<=m'):Es.le (φ.below m) (ψ.below m'):=⟨λid s e=>by
 rw[GP] at e |-;split at e
 ·rw[if_pos dO];exact h _ s e
 grind,h.Fy⟩
def SJ{φ:Es}{m}(h:∀ id s,φ id=some s->id < m):φ.below m=φ:=by
 refine Es.ext' (λid=>?_) rfl;rw[GP];split
 ·rfl
 ·cases e:φ _ with
  | none=>rfl
  | some s=>grind
def F6{φ:Es}{m id}(h:id < m):φ.below m id=φ id:=if_pos h
def FA{φ:Es}{m id s}(h:φ.below m id=some s):id < m/\φ id=some s:=by
 rw[GP] at h
 grind
structure T7(w w':World)  where
 size:w.heap.size<=w'.heap.size
 block:∀ b,b < w.heap.size->w'.heap[b]? = w.heap[b]?
 os:w'.os=w.os
 tape:w'.tape=w.tape
 output:w'.output=w.output
def SK(B:Nat)(φ0:Es)(S0:St)(w0:World)(φ:Es)(T:St)(w:World):=E0 B φ T w/\E6 B φ0 S0 w0 φ T w
section
variable {B:Nat}{φ0 φ:Es}{S0 T:St}{w0 w w':World}
def Sn.of2{φ' T'}(h:Sn B φ T w)(hle:Es.le φ φ')(hS:∀ id s o,φ' id=some s->T'.get id=.obj o->φ id=some s/\T.get id=.obj o)
  (hw:∀ (b:Nat) r,w.heap[b]? = some r->w'.heap[b]? = some r):Sn B φ' T' w':=by
 refine⟨h.1.of (Af _) hle.Fy (λb o _ _ e=>hw b o e),?_⟩;intro id s o e e2;obtain⟨f1,f2⟩:=hS _ s o e e2;obtain⟨h1,⟨r,h2,h3⟩,h4⟩:=h.2 _ s o f1 f2;refine⟨h1,⟨r,hw _ r h2,h3.mono hle⟩,λj sj o' hj ej ej2=>?_⟩
 grind
def E0.more(h:E0 B φ T w)(hm:T7 w w'):E0 B φ T w':=
 ⟨λid s e=>⟨(h.dom _ s e).1,Ar (h.dom _ s e).2 hm.size⟩,h.gone,λid s c t sz m an e e2=>by
  obtain⟨a1,a2,a3,cs,t',a4,a5⟩:=h.IM _ s c t _ m _ e e2;exact⟨a1,a2,a3,cs,t',a4.same (hm.block _ (h.dom _ s e).2),a5⟩,h.apart,h.loops.of2 (Es.le.refl _) (λ_ _ _ e e2=>⟨e,e2⟩) λb r e=>by rw[hm.block b (AR.1 e).1];exact e⟩
def SK.more(h:SK B φ0 S0 w0 φ T w)(hm:T7 w w'):SK B φ0 S0 w0 φ T w':=
 ⟨h.1.more hm,⟨h.2.le,h.2.place,h.2.new,An h.2.size hm.size,h.2.next,hm.os.trans h.2.os,hm.tape.trans h.2.tape,hm.output.trans h.2.output,
  λb hb hno=>by rw[hm.block b (Ar hb h.2.size)];exact h.2.D8 b hb hno,h.2.Jz⟩⟩
def SK.skip(h:SK B φ0 S0 w0 φ T w)(b):SK B φ0 S0 w0 φ (T.alloc b) w:=by
 have hne:∀ id s,φ _=some s->id≠T.next:=λid s e=>by have:=(h.1.dom id s e).1;omega
 refine⟨⟨λid s e=>⟨by have:=(h.1.dom _ s e).1;simp;omega,(h.1.dom _ s e).2⟩,(λid hi=>by rw[St.D6,if_neg (by simp at hi;omega)];exact h.1.gone _ (by simp at hi;omega)),λid s c t sz m an e e2=>?_,λid s c t sz an e e2 j sj cj tj zj mj aj hj e3 e4=>?_,h.1.loops.of2 (Es.le.refl _) (λid s o e e2=>⟨e,by rwa [St.D6,if_neg (hne _ s e)] at e2⟩) λ_ _ e=>e⟩,?_⟩
 ·rw[St.D6,if_neg (hne _ s e)] at e2
  exact h.1.IM _ s c t _ m _ e e2
 ·rw[St.D6,if_neg (hne _ s e)] at e2
  rw[St.D6,if_neg (hne j _ e3)] at e4;exact h.1.apart _ s c t _ _ e e2 j _ _ _ _ _ _ hj e3 e4
 ·refine⟨h.2.le,h.2.place,h.2.new,h.2.size,by have:=h.2.next;simp;omega,h.2.os,h.2.tape,h.2.output,h.2.D8,λid s e e2 hlt=>?_⟩
  rw[St.D6,if_neg (hne _ s e)] at e2;exact h.2.Jz _ s e e2 hlt
inductive Pd(φ)(w:World)(s:MK):FH->Prop where
 | row (c) (t) (cs) (t') (hlen:c.length<=s.ext) (hg:w.heap[s.b]? = some (.cells cs t' (0,0))) (hext:s.base+s.ext<=cs.size)
  (hcell:∀ i v,c[i]? = some v->v.oneCell'=true/\∃ v',cs[s.base+i]? = some v'/\Rel φ v v'):Pd _ w s (.cells c t s.sz true [])
 | map (hb:s.base=0) (hg:w.heap[s.b]? = some (.map #[] 0)):Pd _ w s (.map [] 0)
def Pd.mono{ψ s b}(hle:Es.le φ ψ)(h:Pd φ w s b):Pd ψ w s b:=by
 cases h with
 | row c t cs t' h1 h2 h3 h4=>
  refine .row c t _ _ h1 h2 h3 λi v hv=>?_
  obtain⟨q1,v',q2,q3⟩:=h4 i v hv;exact⟨q1,v',q2,q3.mono hle⟩
 | map h1 h2=>exact .map h1 h2
def Pd.same{s b}(h:Pd φ w s b)(e:w'.heap[s.b]? = w.heap[s.b]?):Pd φ w' s b:=by
 cases h with
 | row c t cs t' h1 h2 h3 h4=>exact .row c t _ _ h1 (e.trans h2) h3 h4
 | map h1 h2=>exact .map h1 (e.trans h2)
def Pd.lt{s b}(h:Pd φ w s b):s.b < w.heap.size:=by
 cases h with
 | row c t cs t' h1 h2 h3 h4=>grind
 | map h1 h2=>grind
def SK.insert(h:SK B φ0 S0 w0 φ T w){id}(hid:φ id=none)(h0:φ0 id=none)(hlt:id < T.next)(hn:S0.next<=id){b}(hget:T.get id=b){s}(hBb:B<=s.b)(hborn:Pd (φ.add id s) w s b)(hw0:w0.heap.size<=s.b)
  (hapart:∀ j sj,φ j=some sj->sj.b≠s.b):SK B φ0 S0 w0 (φ.add id s) T w:=by
 have hle:=Es.Og _ _ s hid;have hsb:=hborn.lt;refine⟨⟨λj sj e=>?_,h.1.gone,λj sj cj tj zj mj aj e e2=>?_,λj sj cj tj zj aj e e2 k sk ck tk zk mk ak hk e3 e4 e5=>?_,h.1.loops.1.of (Af _) hle.Fy (λ_ _ _ _ e=>e),λj sj o e e2=>?_⟩,?_⟩
 ·by_cases hj:j=id
  ·subst hj
   rw[Es.add_same] at e;obtain rfl:=Aa e;exact⟨hlt,hsb⟩
  ·rw[Es.Ep _ _ hj] at e
   exact h.1.dom j _ e
 ·by_cases hj:j=id
  ·subst hj
   rw[Es.add_same] at e;obtain rfl:=Aa e;rw[hget] at e2;subst e2;cases hborn with
   | row _ _ cs t' h1 h2 h3 h4=>exact⟨rfl,h1,λ_=>hBb,cs,t',Row.of h2,h3,λi v hv=>h4 i v hv⟩
  ·rw[Es.Ep _ _ hj] at e
   obtain⟨a1,a2,a3,cs',t2,a4,a5,a6⟩:=h.1.IM j _ _ _ _ _ _ e e2;refine⟨a1,a2,a3,cs',t2,a4,a5,λi v hv=>?_⟩;obtain⟨q1,v',q2,q3⟩:=a6 i v hv;exact⟨q1,v',q2,q3.mono hle⟩
 ·by_cases hj:j=id
  ·subst hj
   rw[Es.add_same] at e;obtain rfl:=Aa e;rw[Es.Ep _ _ hk] at e3;exact absurd e5 (hapart k _ e3)
  ·rw[Es.Ep _ _ hj] at e
   by_cases hk2:k=id
   ·subst hk2
    rw[Es.add_same] at e3;obtain rfl:=Aa e3;exact absurd e5.symm (hapart j _ e)
   ·rw[Es.Ep _ _ hk2] at e3
    exact h.1.apart j _ _ _ _ _ e e2 k _ _ _ _ _ _ hk e3 e4 e5
 ·by_cases hj:j=id
  ·subst hj
   rw[Es.add_same] at e;obtain rfl:=Aa e;rw[hget] at e2;subst e2;generalize hbb:FH.obj o=bb at hborn;cases hborn with
   | row=>cases hbb
   | map h1 h2=>
    obtain rfl:=FH.obj.inj hbb;exact⟨⟨hBb,h1⟩,⟨_,h2,#[],rfl,rfl,λi h=>by simp at h⟩,λk sk o' hk e3 _=>by
     rw[Es.Ep _ _ hk] at e3;exact hapart k _ e3⟩
  ·rw[Es.Ep _ _ hj] at e
   obtain⟨a1,⟨r,a2,a3⟩,a4⟩:=h.1.loops.2 j _ o e e2;refine⟨a1,⟨r,a2,a3.mono hle⟩,λk sk o' hk e3 e4=>?_⟩;by_cases hk2:k=id
   ·subst hk2
    rw[Es.add_same] at e3;obtain rfl:=Aa e3;exact (hapart j _ e).symm
   ·rw[Es.Ep _ _ hk2] at e3
    exact a4 k _ _ hk e3 e4
 ·refine⟨h.2.le.trans hle,λj sj e e2=>?_,λj sj e e2=>?_,h.2.size,h.2.next,h.2.os,h.2.tape,h.2.output,h.2.D8,λj sj e e2 hl=>?_⟩
  ·by_cases hj:j=id
   ·subst hj
    rw[Es.add_same] at e;obtain rfl:=Aa e;exact .inl hw0
   ·rw[Es.Ep _ _ hj] at e
    exact h.2.place j _ e e2
  ·by_cases hj:j=id
   ·subst hj;exact hn
   ·rw[Es.Ep _ _ hj] at e
    exact h.2.new j _ e e2
  ·by_cases hj:j=id
   ·subst hj
    rw[Es.add_same] at e;obtain rfl:=Aa e;omega
   ·rw[Es.Ep _ _ hj] at e
    exact h.2.Jz j _ e e2 hl
def St.bare(m:Nat):St:={ heap:=.leaf,next:=m }
def qh(m id):(St.bare m).get id=.gone:=rfl
def SM(B){φ m w}(ht:Oi B φ w)(h:∀ id s,φ id=some s->id < m/\s.b < w.heap.size):E0 B φ (St.bare m) w:=
 ⟨h,λ_ _=>rfl,(λid s c t sz m an e e2=>by cases e2),(λid s c t sz an e e2=>by cases e2),ht,(λid s o e e2=>by cases e2)⟩
def UO{φ' m S'}(h:E6 B φ (St.bare m) w φ' S' w'):T7 w w':=
 ⟨h.size,λb hb=>h.D8 b hb (λid s _ _=>by rfl),h.os,h.tape,h.output⟩
def lr{l S S' v}(h:Ei .gload l S=some (v,S'))(R):S'=S/\Ei .gload l R=some (v,R):=by
 unfold Ei at h |-
 grind
def lu{z ok l S S' v}(h:Ei (.lookG z ok) l S=some (v,S'))(R):S'=S/\Ei (.lookG z ok) l R=some (v,R):=by
 unfold Ei at h;split at h;all_goals first | contradiction | skip
 all_goals
  omega
def Pe{o}(h1:LV o=false)(h2:GA o=false)(h3:Hg o=false){ρ S S' v}(h:EF o ρ S=some (v,S'))(R):S'=S/\EF o ρ R=some (v,R):=by
 cases o
 case extra e l=>
  cases e
  case gload=>exact lr h R
  case lookG z ok=>exact lu h R
  case nilF neg=>
   simp only[EF] at h |-;obtain⟨x,b,e1,e2,rfl,rfl⟩:=Yg h;rw[e1];exact⟨rfl,by simp[Ei,e2]⟩
  all_goals first | (simp[LV] at h1;done) | (simp[Hg] at h3;done)
 all_goals (first | (simp[LV] at h1;done) | (simp[GA] at h2;done) | (simp[Hg] at h3;done) | skip)
 all_goals simp only[EF] at h |-
 all_goals first
  | (simp only[AE,AA] at h |-; obtain⟨rfl,rfl⟩:=h;simp;done)
  | (simp only[Ab,AA] at h;obtain⟨v0,h,rfl,rfl⟩:=h;simp[h];done)
  | (split at h<;>first
    | (cases h;done)
    | (simp only[AE,AA] at h |-; obtain⟨rfl,rfl⟩:=h;simp;done)
    | (simp only[Ab,AA] at h;obtain⟨v0,h,rfl,rfl⟩:=h;simp[h];done)
    | (split at h<;>first
      | (cases h;done)
      | (simp only[AE,AA] at h |-; obtain⟨rfl,rfl⟩:=h;simp;done)
      | (rename_i hc;simp only[Ab,AA] at h;obtain⟨v0,h,rfl,rfl⟩:=h;simp[h,hc];done)
      | (rename_i hc;simp only[AE,AA] at h |-; obtain⟨rfl,rfl⟩:=h;simp[hc];done)
      | (split at h<;>first
        | (cases h;done)
        | (rename_i hc;simp only[AE,AA] at h |-; obtain⟨rfl,rfl⟩:=h;simp[*];done))))
def Ado(b:FH):=(∃ c t sz,b=.cells c t sz true [])\/b=.map [] 0
def Nm{o}(h3:Hg o=true){ρ S S' v}(h:EF o ρ S=some (v,S')):∃ b,Ado b/\S'=S.alloc b/\EF o ρ (St.bare S.next)=some (v,(St.bare S.next).alloc b)/\
  ((∃ n k,v=.slice (some ⟨S.next,0,none⟩) n k)\/v=.pointer (some ⟨S.next,0,none⟩)\/v=.map (some S.next)):=by
 cases o
 case extra e l=>
  cases e
  case mkMap=>
   simp only[EF,Ei] at h |-;obtain⟨rfl,rfl⟩:=Ai (Aa h);exact⟨_,.inr rfl,rfl,by simp[St.bare],.inr (.inr rfl)⟩
  all_goals (simp[Hg] at h3)
 all_goals (first | (simp[Hg] at h3) | skip)
 case box t x=>
  simp only[EF] at h |-;split at h
  case isFalse=>cases h
  rename_i hc;obtain⟨rfl,rfl⟩:=Ai (Aa h);exact⟨_,.inl ⟨_,_,_,rfl⟩,rfl,by simp[hc,St.bare],.inr (.inl rfl)⟩
 case zero t z=>
  simp only[EF] at h |-;obtain⟨rfl,rfl⟩:=Ai (Aa h);exact⟨_,.inl ⟨_,_,_,rfl⟩,rfl,by simp[St.bare],.inr (.inl rfl)⟩
 case mkSlice e esz bytes z l c=>
  simp only[EF] at h |-;split at h
  case h_2=>cases h
  split at h
  case isFalse=>cases h
  rename_i hc;obtain⟨rfl,rfl⟩:=Ai (Aa h);exact⟨_,.inl ⟨_,_,_,rfl⟩,rfl,by simp[hc,St.bare],.inl ⟨_,_,rfl⟩⟩
 case buildSlice e esz n z parts=>
  simp only[EF] at h |-;split at h
  case isFalse=>cases h
  rename_i hz;simp only[Ae] at h;obtain⟨l,hl,h⟩:=h;split at h
  case isFalse=>cases h
  rename_i hone;obtain⟨rfl,rfl⟩:=Ai (Aa h);exact⟨_,.inl ⟨_,_,_,rfl⟩,rfl,by simp[hz,hl,hone,St.bare],.inl ⟨_,_,rfl⟩⟩
end
def aft(o:Oper):=(o.after.toList.filter λe=>Region.binds .any e).map (·.on)
def Kt(xs:List EW)(i:Nat):=(xs[i]?).bind (·.dst)
def Oo(xs:List EW)(i:Nat):Bool:=match xs[i]? with | some o=>LV o.op | none=>false
def LX(ops:Array Oper)(i:Nat):List Nat:=match ops[i]? with | some o=>aft o | none=>[]
def Ku(ops:Array Oper)(i:Nat):List Tmp:=match ops[i]? with | some o=>o.looksAt ops | none=>[]
def Ws(R:List Rec)(i:Nat):Value:=match R[i]? with | some r=>r.v | none=>undef
structure DC(P)(B)(cl)(ops:Array _)(d:I0)(R)(env0)(S0)(env')(S')(pt:Nat->Nat->Prop)  where
 hcl:IS P B cl
 hxs:ops.toList.mapM (Ib P ops)=some d.ops
 hrun:KF cl d.ops env0 S0=some (R,env',S')
 hchk:o8 d R S'
 c1:∀ i,i < ops.size->∀ j∈LX ops i,j < i
 c2:∀ i,i < ops.size->∀ j,pt i j->j∈LX ops i\/∃ k∈LX ops i,pt k j
 c3:∀ i k,i < k->k < ops.size->((∃ t,Kt d.ops i=some t/\(t∈Ku ops k\/Kt d.ops k=some t))\/(∃ t,Kt d.ops k=some t/\t∈Ku ops i))->pt k i
 c4:∀ i k,i < k->k < ops.size->Oo d.ops i=true->Oo d.ops k=true->pt k i
 c5:∀ i,i < ops.size->Oo d.ops i=false->∀ q,(q=ops.size\/(q < ops.size/\Oo d.ops q=true))->(∀ k,k < ops.size->Oo d.ops k=true->k < q->¬ pt k i)->(∀ k,k < ops.size->Oo d.ops k=true->q<=k->¬ pt i k)->q∈(d.stages[i]?).getD []
section
variable {P:Program}{B:Nat}{cl:Gv}{ops:Array Oper}{d:I0}{R:List Rec}{env0:Env}{S0:St}{env':Env}{S':St}{pt:Nat->Nat->Prop}
def DC.len(C:DC P B cl ops d R env0 S0 env' S' pt):d.ops.length=ops.size/\R.length=ops.size:=by
 have h1:=List.Hu C.hxs;have h2:=(HQ _ _ _ _ _ _ C.hrun).1
 grind
def DC.mono(C:DC P B cl ops d R env0 S0 env' S' pt):∀ i,(D7 R S' i).next<=(D7 R S' (i+1)).next:=by
 intro i;by_cases h:i < R.length
 ·exact C.hchk.1 i h
 ·simp[D7,AO (show R.length<=i by omega),AO (show R.length<=i+1 by omega)]
def DC.Ks(C:DC P B cl ops d R env0 S0 env' S' pt){i j}(h:i<=j):(D7 R S' i).next<=(D7 R S' j).next:=by
 induction h with
 | refl=>omega
 | step h ih=>exact An ih (C.mono _)
def DC.T0(C:DC P B cl ops d R env0 S0 env' S' pt):D7 R S' 0=S0:=(HQ _ _ _ _ _ _ C.hrun).2.2.1
def DC.Tn(C:DC P B cl ops d R env0 S0 env' S' pt):D7 R S' ops.size=S':=by
 have:=C.len.2;simp[D7,AO (show R.length<=ops.size by omega)]
def DC.En(C:DC P B cl ops d R env0 S0 env' S' pt):HH R env' ops.size=env':=by
 have:=C.len.2;simp[HH,AO (show R.length<=ops.size by omega)]
def DC.at(C:DC P B cl ops d R env0 S0 env' S' pt){i}(h:i < ops.size):∃ r xo o,R[i]? = some r/\d.ops[i]? = some xo/\ops[i]? = some o/\Ib P ops o=some xo/\r.env=HH R env' i/\r.S=D7 R S' i/\r.w=G3 xo (HH R env' i)/\
  (r.w=true->GL cl xo.op (HH R env' i).ev (D7 R S' i)=some (r.v,D7 R S' (i+1)))/\(r.w=false->r.v=undef/\D7 R S' (i+1)=D7 R S' i)/\HH R env' (i+1)=(HH R env' i).put xo.dst r.v/\
  Kt d.ops i=xo.dst/\Oo d.ops i=LV xo.op/\Ws R i=r.v/\Ku ops i=o.looksAt ops/\xo.dst=o.dst:=by
 have hl:=C.len.1;have hx:i < d.ops.length:=dO
 obtain⟨r,h1,h2,h3,h4,h5,h6,h7⟩:=(HQ _ _ _ _ _ _ C.hrun).2.2.2 i _;have ht:=List.Hh C.hxs i dO hx;refine⟨r,d.ops[i],ops[i],h1,Ah _,Ax h,ht,h2,h3,h4,h5,h6,h7,?_,?_,?_,?_,SA ht⟩
 ·simp[Kt,Ah hx]
 ·simp[Oo,Ah hx]
 ·simp[Ws,h1]
 ·simp[Ku,Ax h]
abbrev FW(d:I0)(R:List Rec)(env0:Env)(S0 S':St)(dn:Nat->Bool):=
 fold (Kt d.ops) (Ws R) (λk=>(D7 R S' (k+1)).next) (λt=>env0.getD t undef) S0.next dn
def DC.qj(C:DC P B cl ops d R env0 S0 env' S' pt):∀ k,k<=ops.size->(HH R env' k).size=env0.size/\∀ t,t < env0.size->(HH R env' k).getD t undef=(FW d R env0 S0 S' (λ_=>true) k t).1:=by
 intro k
 induction k with
 | zero=>
  intro _;have:=(HQ _ _ _ _ _ _ C.hrun).2.1;rw[this];exact⟨rfl,λt _=>rfl⟩
 | succ k ih=>
  intro hk;obtain⟨i1,i2⟩:=ih dO;obtain⟨r,xo,o,h1,h2,h3,h4,h5,h6,h7,h8,h9,h10,h11,h12,h13,h14,h15⟩:=C.at (i:=k) dO;rw[h10];refine⟨by cases xo.dst<;>simp[Env.put,i1],λt ht=>?_⟩;simp only[ fold,h11,h13,true_and];cases hd:xo.dst with
  | none=>exact i2 t ht
  | some u=>
   by_cases e:u=t
   ·subst e
    simp only[Env.put,Ay]
    grind
   ·rw[if_neg IN]
    simp only[Env.put];rw[Ay,C1 e,<- Ay]
    grind
def DC.closed(C:DC P B cl ops d R env0 S0 env' S' pt){dn:Nat->Bool}(hcl:∀ i,i < ops.size->dn i=true->∀ j∈LX ops i,dn j=true):∀ i,i < ops.size->(∀ j∈LX ops i,dn j=true)->∀ j,pt i j->dn j=true:=by
 intro i
 induction i using Nat.strongRecOn with
 | _ i ih=>
  intro hi hr j hj;rcases C.c2 i hi j hj with h | ⟨k,hk,hkj⟩
  ·grind
  ·have hki:=C.c1 i hi k hk
   grind
def Yt(ops:Array Oper)(R:List Rec)(S':St)(B:Nat)(w0:World)(listed:Array Bool)(φ:Es)(w:World)(q:Nat):=
 ∀ id s,φ id=some s->(D7 R S' q).next<=id->∃ i,i < ops.size/\q<=i/\listed.getD i true=true/\∃ b,D7 R S' (i+1)=(D7 R S' i).alloc b/\id=(D7 R S' i).next/\B<=s.b/\Pd (φ.below (id+1)) w s b/\w0.heap.size<=s.b/\∀ j sj,j≠id->φ j=some sj->sj.b≠s.b
structure Inv(ops:Array _)(d:I0)(R)(env0:Env)(S0 S')(B)(φ0)(w0)(df)(listed:Array _)(φ:Es)(a:Act)(w)(q)  where
 size:listed.size=ops.size
 closed:∀ i,i < ops.size->listed.getD i true=true->∀ j∈LX ops i,listed.getD j true=true
 stage:(q=ops.size\/(q < ops.size/\Oo d.ops q=true))/\∀ k,k < ops.size->Oo d.ops k=true->(k < q->listed.getD k true=true)/\(q<=k->listed.getD k true=false)
 esize:a.tmps.size=env0.size
 env:∀ t (h:t < a.tmps.size),Rel (φ.below (FW d R env0 S0 S' (λj=>listed.getD j true) ops.size t).2) (FW d R env0 S0 S' (λj=>listed.getD j true) ops.size t).1 a.tmps[t]
 mem:SK B φ0 S0 w0 (φ.below (D7 R S' q).next) (D7 R S' q) w
 early:Yt ops R S' B w0 listed φ w q
 late:∀ i,i < ops.size->listed.getD i true=false->∀ b,D7 R S' (i+1)=(D7 R S' i).alloc b->Oo d.ops i=false->φ (D7 R S' i).next=none
 defers:a.defers=df
def lx{o:Oper}{x}(hx:x∈o.op.operands):∀ t,x=.tmp t->t∈o.looksAt ops:=by
 intro t e;subst e;exact B6 _ (Cy.2 ⟨.tmp t,IN,rfl⟩)
def Inv.AbN(C:DC P B cl ops d R env0 S0 env' S' pt){φ0 φ w0 w df listed a q}(I:Inv ops d R env0 S0 S' B φ0 w0 df listed φ a w q){i}(hi:i < ops.size)
  (hni:listed.getD i true=false) (hpt:∀ j,pt i j->listed.getD j true=true) {t} (ht:t∈Ku ops i) (hlt:t < a.tmps.size) :
  Rel (φ.below (D7 R S' i).next) ((HH R env' i).getD t undef) a.tmps[t]:=by
 have h1:=λj hj hd=>hpt j (C.c3 j i hj hi (.inl ⟨t,hd,.inl ht⟩))
 have h2:∀ j,i<=j->Kt d.ops j=some t->listed.getD j true=false:=by
  intro j hj hd;by_cases e:i=j
  ·simp_all
  ·by_cases hjn:j < ops.size
   ·have hp:=C.c3 i j dO hjn (.inr ⟨t,hd,ht⟩)
    cases hl:listed.getD j _ with
    | false=>rfl
    | true=>
     have:=C.closed I.closed j hjn (I.closed j hjn hl) i hp
     simp_all
   ·have:Kt d.ops j=none:=by simp[Kt,AO (show d.ops.length<=j by have:=C.len.1;omega)]
    simp_all
 have hf:=UM (val:=Ws R) (bd:=λk=>(D7 R S' (k+1)).next) (v0:=λt=>env0.getD t undef) (b0:=S0.next) h1 h2 ops.size dO;have he:=I.env t hlt;have hEn:=(C.qj i dO).2 t (by rw[<- I.esize];omega);rw[hEn];unfold FW at he |-;rw[hf] at he;exact he.mono (Iv (Es.le.refl _) (fx (m:=λk=>(D7 R _ k).next) (by rw[C.T0];omega) (λk=>Af _) C.mono t i))
def Inv.opd(C:DC P B cl ops d R env0 S0 env' S' pt){φ0 φ w0 w df listed a q}(I:Inv ops d R env0 S0 S' B φ0 w0 df listed φ a w q){i}(hi:i < ops.size)
  (hni:listed.getD i true=false) (hpt:∀ j,pt i j->listed.getD j true=true) {o} (ho:ops[i]? = some o) {x} (hx:x∈o.op.operands) (hok:E3 x=true):Rel (φ.below (D7 R S' i).next) ((HH R env' i).ev x) (a.eval x):=by
 cases x with
 | tmp t=>
  have ht:t∈Ku ops i:=by
   simp only[Ku,ho];exact lx hx t rfl
  simp only[Env.ev,Act.eval];by_cases hlt:t < a.tmps.size
  ·have:=I.AbN C hi hni hpt ht hlt
   simp_all
  ·have h2:¬ t < (HH R env' i).size:=by rw[(C.qj i dO).1,<- I.esize];omega
   rw[Ay,Ay,BJ (C0.1 h2),BJ (C0.1 hlt)];exact Rel.undef _
 | const v=>exact HE hok _
 | func f=>exact .jd ⟨rfl,λi h=>IN⟩ ⟨rfl,λi h=>IN⟩
 | global g=>cases hok
def J0{cl o}(h:LV o=false)(ρ S):GL cl o ρ S=EF o ρ S:=by
 cases o<;>first | rfl | (simp[LV] at h)
def Ja{o}(h:GA o=true){ρ S S' v}(hx:EF o ρ S=some (v,S')):S'=S:=by
 cases o
 all_goals (first | (simp[GA] at h) | skip)
 case load agg sz x=>
  simp only[EF] at hx;split at hx
  ·simp only[Ae,Ab] at hx
   grind
  grind
 case sl esz x lo hi=>
  simp only[EF] at hx;split at hx
  case h_2=>grind
  split at hx
  case h_2=>grind
  split at hx
  case isFalse=>grind
  unfold H8 at hx
  grind
def DC.float(C:DC P B cl ops d R env0 S0 env' S' pt){i}(hi:i < ops.size)(ha:Oo d.ops i=false) :
  D7 R S' (i+1)=D7 R S' i\/∃ b,D7 R S' (i+1)=(D7 R S' i).alloc b:=by
 obtain⟨r,xo,o,e1,e2,e3,e4,e5,e6,e7,e8,e9,e10,e11,e12,e13,e14,e15⟩:=C.at hi;cases hw:r.w with
 | false=>grind
 | true=>
  have h:=e8 hw;rw[e12] at ha;rw[J0 ha] at h;cases h1:GA _ with
  | true=>exact .inl (Ja h1 h)
  | false=>
   cases h2:Hg _ with
   | false=>exact .inl (Pe ha h1 h2 h S0).1
   | true=>
    obtain⟨b,_,h3,_⟩:=Nm h2 h
    grind
def Rj{φ:Es}{m}(h:φ m=none):φ.below (m+1)=φ.below m:=by
 refine Es.ext' (λid=>?_) rfl;rw[GP,GP]
 grind
def Ml{φ:Es}{m s}(h:φ m=some s):φ.below (m+1)=(φ.below m).add m s:=by
 refine Es.ext' (λid=>?_) rfl;rw[GP,Es.PV,GP]
 grind
def advance(C:DC P B cl ops d R env0 S0 env' S' pt){φ0 φ w0 w listed}(h0:∀ id s,φ0 id=some s->id < S0.next) :
  ∀ m p,p+m=ops.size->SK B φ0 S0 w0 (φ.below (D7 R S' p).next) (D7 R S' p) w->Yt ops R S' B w0 listed φ w p->
   ∃ q,p<=q/\(q=ops.size\/(q < ops.size/\Oo d.ops q=true))/\(∀ k,p<=k->k < q->Oo d.ops k=false)/\SK B φ0 S0 w0 (φ.below (D7 R S' q).next) (D7 R S' q) w/\Yt ops R S' B w0 listed φ w q:=by
 intro m
 induction m with
 | zero=>
  intro p hp h1 h2;exact⟨p,Af _,.inl dO,λk h3 h4=>dO,h1,h2⟩
 | succ m ih=>
  intro p hp h1 h2;by_cases ha:Oo d.ops p=true
  ·exact⟨p,Af _,.inr ⟨dO,ha⟩,λk h3 h4=>dO,h1,h2⟩
  ·have ha':Oo _ p=false:=Bq.2 ha
   have key:SK B φ0 S0 w0 (φ.below (D7 R S' (p+1)).next) (D7 R S' (p+1)) w/\Yt ops R S' B w0 listed φ w (p+1):=by
    rcases C.float (i:=p) dO ha' with hT | ⟨b0,hT⟩
    ·rw[hT]
     refine⟨h1,λid s e hge=>?_⟩;rw[hT] at hge;obtain⟨i,i1,i2,i3,b,i4,i5⟩:=h2 _ s e hge;refine⟨i,i1,?_,i3,b,i4,i5⟩;by_cases ei:i=p
     ·subst ei
      rw[hT] at i4;have:=congrArg St.next i4;simp at this
     ·omega
    ·have hn:(D7 R S' (p+1)).next=(D7 R S' p).next+1:=by rw[hT];rfl
     refine⟨?_,λid s e hge=>?_⟩
     ·rw[hn]
      have hsk:=h1.skip b0;rw[<- hT] at hsk;cases hm:φ (D7 R S' p).next with
      | none=>rw[Rj hm];exact hsk
      | some s=>
       rw[Ml hm];obtain⟨i,i1,i2,i3,b1,i4,i5,i8,iB,i12,i13⟩:=h2 _ s hm (Af _);have hip:i=p:=by
        rcases Cd p i with hlt | hge2
        ·have a1:=C.Ks (i:=p+1) (j:=i) dO
         omega
        ·omega
       subst hip;rw[hT] at i4;have hb:b0=b1:=by
        have e1:((D7 R S' i).alloc b0).get (D7 R S' i).next=b0:=by rw[St.D6,if_pos rfl]
        have e2:((D7 R S' i).alloc b1).get (D7 R S' i).next=b1:=by rw[St.D6,if_pos rfl]
        rw[<- e1,<- e2,i4]
       subst hb;refine hsk.insert (b:=b0) ?_ ?_ (by rw[hn];omega) ?_ ?_ i8 (by rw[<- Ml hm];exact iB) i12 ?_
       ·rw[GP,if_neg dO]
       ·cases h3:φ0 (D7 R S' i).next with
        | none=>rfl
        | some s3=>
         have a1:=h0 _ s3 h3;have a2:=C.Ks (i:=0) (j:=i) dO;rw[C.T0] at a2;omega
       ·have a2:=C.Ks (i:=0) (j:=i) dO
        rw[C.T0] at a2;exact a2
       ·rw[hT,St.D6,if_pos rfl]
       ·intro j sj hj
        have:=FA hj;exact i13 j sj dO this.2
     ·rw[hn] at hge
      obtain⟨i,i1,i2,i3,b',i4,i5,i6⟩:=h2 id s e dO;refine⟨i,i1,?_,i3,b',i4,i5,i6⟩;by_cases ei:i=p
      ·subst ei;omega
      ·omega
   obtain⟨q,k1,k2,k3,k4,k5⟩:=ih (p+1) dO key.1 key.2;exact⟨q,dO,k2,λk g1 g2=>by
    by_cases e:k=p
    ·rw[e];exact ha'
    ·exact k3 k dO g2,k4,k5⟩
end
section
variable {P:Program}{B:Nat}{cl:Gv}{ops:Array Oper}{d:I0}{R:List Rec}{env0:Env}{S0:St}{env':Env}{S':St}{pt:Nat->Nat->Prop}
variable {φ0 φ:Es}{w0 w:World}{df:List Deferred}{listed:Array Bool}{a:Act}{q:Nat}
def FM{i j}(hsz:i < listed.size):(listed.setIfInBounds i true).getD j true=true↔j=i\/listed.getD j true=true:=by
 by_cases e:i=j
 ·simp_all
 ·simp[e,BR e]
def fC{a:Act}{dst:Option Tmp}(v'){t}(hd:dst≠some t)(hlt:t < a.tmps.size)(h:t < (a.put _ _).tmps.size):(a.put dst v').tmps[t]=a.tmps[t]:=by
 cases dst with
 | none=>rfl
 | some u=>simp only[Act.put];grind
def SN(C:DC P B cl ops d R env0 S0 env' S' pt)(I:Inv ops d R env0 S0 S' B φ0 w0 df listed φ a w q){i}(hi:i < ops.size)(hni:listed.getD i true=false){φ'}(hle:Es.le φ φ'){v'}{o:Oper}(hdst:Kt d.ops i=o.dst)
  (hv:Rel (φ'.below (D7 R S' (i+1)).next) (Ws R i) v') :
  ∀ t (h:t < (a.put _ _).tmps.size),Rel (φ'.below (FW d R env0 S0 S' (λj=>(listed.setIfInBounds i true).getD j true) ops.size t).2) (FW d R env0 S0 S' (λj=>(listed.setIfInBounds i true).getD j true) ops.size t).1 (a.put o.dst v').tmps[t]:=by
 intro t h;have hsz:(a.put o.dst v').tmps.size=a.tmps.size:=by cases o.dst<;>simp[Act.put]
 have hlt:t < a.tmps.size:=dO
 have hw:=fw (dst:=Kt _) (val:=Ws R) (bd:=λk=>(D7 R S' (k+1)).next) (v0:=λt=>env0.getD t undef) (b0:=S0.next) (dn:=λj=>listed.getD j _) (dn':=λj=>(listed.setIfInBounds i _).getD j _) (i:=i) (t:=t)
  (λj=>FM IN) hni (λj hj h1 h2=>by
   by_cases hjn:j < ops.size
   ·have hp:=C.c3 i j hj hjn (.inl ⟨t,h1,.inr h2⟩)
    cases hl:listed.getD j _ with
    | false=>rfl
    | true=>
     have:=C.closed I.closed j hjn (I.closed j hjn hl) i hp
     simp_all
   ·have:Kt d.ops j=none:=by simp[Kt,AO (show d.ops.length<=j by have:=C.len.1;omega)]
    rw[this] at h2;cases h2) _ hi
 unfold FW;rw[hw];by_cases hd:Kt d.ops i=some t
 ·rw[if_pos hd]
  have hd':o.dst=some t:=by simp_all
  have:(a.put _ _).tmps[t]=v':=by simp[hd',Act.put]
  simp_all
 ·rw[if_neg hd]
  have hd':o.dst≠some t:=by simp_all
  rw[fC _ hd' _ h];exact (I.env t hlt).mono (Iv hle (Af _))
def ly(C:DC P B cl ops d R env0 S0 env' S' pt)(I:Inv ops d R env0 S0 S' B φ0 w0 df listed φ a w q){i}(hi:i < ops.size)(hni:listed.getD i true=false)(hpt:∀ j,pt i j->listed.getD j true=true){o xo}(ho:ops[i]? = some o)(ht:Ib P ops o=some xo) :
  Region.wanted o (yielded ops a.tmps)=G3 xo (HH R env' i):=by
 unfold Ib at ht;split at ht
 ·rename_i x hx hg
  obtain rfl:=Aa ht;simp[Region.wanted,G3,hg]
 ·rename_i x j want hx hg
  split at ht
  case h_2=>cases ht
  rename_i t hj;obtain rfl:=Aa ht;simp only[Region.wanted,G3,hg,yielded,hj,Az];have htl:t∈Ku ops i:=by
   simp only[Ku,ho,Oper.looksAt,hg,hj];simp
  have hsz:=(C.qj i dO).1;by_cases hlt:t < a.tmps.size
  ·have hr:=I.AbN C hi hni hpt htl hlt
   have hlt':t < (HH R env' i).size:=by rw[hsz,<- I.esize];exact hlt
   rw[Ay,Ax hlt'] at hr;rw[Ax hlt,Ax hlt']
   revert hr
   generalize (HH R _ i)[t]=u;generalize a.tmps[t]=u';intro hr;cases hr<;>simp
  ·have hlt':¬ t < (HH R env' i).size:=by rw[hsz,<- I.esize];exact hlt
   rw[BJ (C0.1 hlt),BJ (C0.1 hlt')];simp
 ·cases ht
def Oq(I:Inv ops d R env0 S0 S' B φ0 w0 df listed φ a w q){i}(hi:i < ops.size)(hr:∀ j∈LX ops i,listed.getD j true=true) :
  ∀ k,k < ops.size->(listed.setIfInBounds i true).getD k true=true->∀ j∈LX ops k,(listed.setIfInBounds i true).getD j true=true:=by
 intro k hk h j hj;have hsz:i < listed.size:=by rw[I.size];omega
 rw[FM hsz] at h |-;rcases h with rfl | h
 ·grind
 ·exact .inr (I.closed k hk h j hj)
def SO(C:DC P B cl ops d R env0 S0 env' S' pt)(I:Inv ops d R env0 S0 S' B φ0 w0 df listed φ a w q){i}(hi:i < ops.size)(hni:listed.getD i true=false)(hpt:∀ j,pt i j->listed.getD j true=true)(ha:Oo d.ops i=true):i=q:=by
 have h1:¬ i < q:=λh=>by
  have:=((I.stage.2 i hi ha).1 h)
  grind
 rcases I.stage.1 with h | ⟨h2,h3⟩
 ·omega
 ·by_cases e:i=q
  ·exact e
  ·have hp:=hpt q (C.c4 q i dO hi h3 ha)
   have:=(I.stage.2 q h2 h3).2 (Af _)
   grind
def UQ(I:Inv ops d R env0 S0 S' B φ0 w0 df listed φ a w q){i}(hi:i < ops.size)(ha:Oo d.ops i=false) :
  (q=ops.size\/(q < ops.size/\Oo d.ops q=true))/\∀ k,k < ops.size->Oo d.ops k=true->(k < q->(listed.setIfInBounds i true).getD k true=true)/\(q<=k->(listed.setIfInBounds i true).getD k true=false):=by
 have hsz:i < listed.size:=by rw[I.size];omega
 refine⟨I.stage.1,λk hk hka=>⟨λh=>(FM hsz).2 (.inr ((I.stage.2 k hk hka).1 h)),λh=>?_⟩⟩;rw[Bq];intro h1;rw[FM hsz] at h1;rcases h1 with rfl | h1
 ·grind
 ·have:=(I.stage.2 k hk hka).2 h
  grind
def Nn(C:DC P B cl ops d R env0 S0 env' S' pt)(I:Inv ops d R env0 S0 S' B φ0 w0 df listed φ a w q){i}(hi:i < ops.size)(hni:listed.getD i true=false)(hr:∀ j∈LX ops i,listed.getD j true=true)(ha:Oo d.ops i=false)
  {o:Oper} (hdst:Kt d.ops i=o.dst) {v' w'} (hm:T7 w w') (hv:Rel (φ.below (D7 R S' (i+1)).next) (Ws R i) v') :
  Inv ops d R env0 S0 S' B φ0 w0 df (listed.setIfInBounds i true) φ (a.put o.dst v') w' q:=by
 have hsz:i < listed.size:=IN
 refine⟨by simp[I.size],Oq I hi hr,UQ I hi ha,?_,SN C I hi hni (Es.le.refl _) hdst hv,I.mem.more hm,λid s e hge=>?_,λj hj hnj b hb haj=>?_,?_⟩
 ·rw[<- I.esize];cases o.dst<;>simp[Act.put]
 ·obtain⟨k,i1,i2,i3,b',i4,i5,i8,iB,i12,i13⟩:=I.early _ s e hge
  exact⟨k,i1,i2,(FM hsz).2 (.inr i3),b',i4,i5,i8,iB.same (hm.block _ iB.lt),i12,i13⟩
 ·refine I.late j hj ?_ b hb haj
  rw[Bq] at hnj |-;intro h;exact hnj ((FM hsz).2 (.inr h))
 ·rw[<- I.defers];cases o.dst<;>rfl
def lz(C:DC P B cl ops d R env0 S0 env' S' pt)(h0:∀ id s,φ0 id=some s->id < S0.next)(I:Inv ops d R env0 S0 S' B φ0 w0 df listed φ a w q){i}(hi:i < ops.size)(hni:listed.getD i true=false)(hr:∀ j∈LX ops i,listed.getD j true=true)(ha:Oo d.ops i=false)
  {b0} (hT:D7 R S' (i+1)=(D7 R S' i).alloc b0) (hlate:i < q->(D7 R S' q).get (D7 R S' i).next=b0) {o:Oper} (hdst:Kt d.ops i=o.dst)
  {v' w'} (hm:T7 w w') {s} (hsb:w.heap.size<=s.b) (hBb:B<=s.b) (hborn:Pd ((φ.add (D7 R S' i).next s).below ((D7 R S' i).next+1)) w' s b0) (hv:Rel ((φ.add (D7 R S' i).next s).below (D7 R S' (i+1)).next) (Ws R i) v') :
  Inv ops d R env0 S0 S' B φ0 w0 df (listed.setIfInBounds i true) (φ.add (D7 R S' i).next s) (a.put o.dst v') w' q:=by
 have hsz:i < listed.size:=by rw[I.size];exact hi
 have hnone:=I.late i hi hni _ hT ha;have hle:=Es.Og φ (D7 R S' i).next s hnone;have hn1:(D7 R S' (i+1)).next=(D7 R S' i).next+1:=by rw[hT];rfl
 have hS0:S0.next<=(D7 R S' i).next:=by
  have:=C.Ks (i:=0) (j:=i) dO
  rwa [C.T0] at this
 have hw0:w0.heap.size<=s.b:=An I.mem.2.size hsb;have hold:∀ j sj,φ j=some sj->sj.b < w.heap.size:=by
  intro j sj hj;by_cases h:j < (D7 R S' q).next
  ·exact (I.mem.1.dom j sj (by rw[F6 h];exact hj)).2
  ·obtain⟨k,i1,i2,i3,b',i4,i5,i8,iB,i12,i13⟩:=I.early j sj hj dO
   exact iB.lt
 refine⟨by simp[I.size],Oq I hi hr,UQ I hi ha,?_,SN C I hi hni hle hdst hv,?_,λid s2 e hge=>?_,λj hj hnj b hb haj=>?_,?_⟩
 ·rw[<- I.esize];cases o.dst<;>simp[Act.put]
 ·
  by_cases hlt:(D7 R S' i).next < (D7 R S' q).next
  ·have hiq:i < q:=by
    rcases Cd i q with h | h
    ·exact h
    ·have:=C.Ks (i:=q) (j:=i) h;omega
   have heq:(φ.add (D7 R S' i).next s).below (D7 R S' q).next=(φ.below (D7 R S' q).next).add (D7 R S' i).next s:=by
    refine Es.ext' (λid=>?_) rfl;rw[GP,Es.PV,Es.PV,GP];by_cases e:id=(D7 R S' i).next
    ·subst e;simp[hlt]
    ·simp[e]
   rw[heq];refine (I.mem.more hm).insert (by rw[F6 hlt];exact hnone) ?_ hlt hS0 (hlate hiq) hBb ?_ hw0 (λj sj hj=>?_)
   ·cases h3:φ0 (D7 R S' i).next with
    | none=>rfl
    | some s3=>have:=h0 _ s3 h3;omega
   ·rw[<- heq]
    exact hborn.mono (Iv (Es.le.refl _) dO)
   ·have:=hold j sj (FA hj).2
    omega
  ·have heq:(φ.add (D7 R S' i).next s).below (D7 R S' q).next=φ.below (D7 R S' q).next:=by
    refine Es.ext' (λid=>?_) rfl;rw[GP,GP,Es.PV];by_cases e:id < (D7 R S' q).next
    ·rw[if_pos e,if_pos e,if_neg dO]
    ·rw[if_neg e,if_neg e]
   rw[heq];exact I.mem.more hm
 ·by_cases e2:id=(D7 R S' i).next
  ·subst e2
   rw[Es.add_same] at e;obtain rfl:=Aa e;refine⟨i,hi,?_,(FM hsz).2 (.inl rfl),b0,hT,rfl,hBb,hborn,hw0,λj sj hj hjs=>?_⟩
   ·rcases Cd i q with h | h
    ·have:=C.Ks (i:=i+1) (j:=q) dO;omega
    ·exact h
   ·rw[Es.Ep _ _ hj] at hjs
    have:=hold j sj hjs;omega
  ·rw[Es.Ep _ _ e2] at e
   obtain⟨k,i1,i2,i3,b',i4,i5,i8,iB,i12,i13⟩:=I.early id s2 e hge;refine⟨k,i1,i2,(FM hsz).2 (.inr i3),b',i4,i5,i8,(iB.same (hm.block s2.b iB.lt)).mono (Iv hle (Af _)),i12,λj sj hj hjs=>?_⟩
   ·by_cases e3:j=(D7 R S' i).next
    ·subst e3
     rw[Es.add_same] at hjs;obtain rfl:=Aa hjs;have:=iB.lt;omega
    ·rw[Es.Ep _ _ e3] at hjs
     exact i13 j sj hj hjs
 ·have hnj':listed.getD j true=false:=by
   rw[Bq] at hnj |-;intro h;exact hnj ((FM hsz).2 (.inr h))
  have hji:j≠i:=λe=>by
   subst e;have:=(FM (i:=j) (j:=j) hsz).2 (.inl rfl);rw[this] at hnj;cases hnj
  rw[Es.Ep _ _ ?_]
  ·exact I.late j hj hnj' b hb haj
  ·intro e
   have hn2:(D7 R S' (j+1)).next=(D7 R S' j).next+1:=by rw[hb];rfl
   rcases Cd i j with h | h
   ·have:=C.Ks (i:=i+1) (j:=j) dO;omega
   ·have:=C.Ks (i:=j+1) (j:=i) dO;omega
 ·rw[<- I.defers];cases o.dst<;>rfl
def Yu(C:DC P B cl ops d R env0 S0 env' S' pt)(h0:∀ id s,φ0 id=some s->id < S0.next)(I:Inv ops d R env0 S0 S' B φ0 w0 df listed φ a w q)(hi:q < ops.size)(hni:listed.getD q true=false)(hr:∀ j∈LX ops q,listed.getD j true=true)(ha:Oo d.ops q=true)
  {o:Oper} (hdst:Kt d.ops q=o.dst) {ψ v' w'} (hv:Rel ψ (Ws R q) v') (hs:E0 B ψ (D7 R S' (q+1)) w') (hk:E6 B (φ.below (D7 R S' q).next) (D7 R S' q) w ψ (D7 R S' (q+1)) w') :
  ∃ φ' q',Inv ops d R env0 S0 S' B φ0 w0 df (listed.setIfInBounds q true) φ' (a.put o.dst v') w' q':=by
 have hsz:q < listed.size:=by rw[I.size];exact hi
 let φ':Es:=⟨λid=>if id < (D7 R S' (q+1)).next then ψ id else φ id,φ.Fy⟩
 have htab:ψ.Fy=φ.Fy:=hk.le.Fy;have hmono:=C.mono q;have hearly:∀ id s,φ id=some s->(D7 R S' q).next<=id->(D7 R S' (q+1)).next<=id:=by
  intro id s e hge;obtain⟨k,i1,i2,i3,b',i4,i5,i6⟩:=I.early id s e hge;have hqk:q≠k:=by
   intro e2;subst e2;rw[i3] at hni;cases hni
  rw[i5];exact C.Ks dO
 have hle:Es.le φ φ':=by
  refine⟨λid s e=>?_,rfl⟩;show (if id < (D7 R S' (q+1)).next then ψ id else φ id)=some s
  by_cases h1:id < (D7 R S' q).next
  ·rw[if_pos dO]
   exact hk.le id s (by rw[F6 h1];exact e)
  ·have:=hearly id s e dO
   rw[if_neg dO];exact e
 have hψ:φ'.below (D7 R S' (q+1)).next=ψ:=by
  refine Es.ext' (λid=>?_) htab.symm;rw[GP];by_cases h1:id < (D7 R S' (q+1)).next
  ·rw[if_pos h1];exact if_pos h1
  ·rw[if_neg h1]
   cases e:ψ id with
   | none=>rfl
   | some s=>exact absurd (hs.dom id s e).1 h1
 have hsk:SK B φ0 S0 w0 (φ'.below (D7 R S' (q+1)).next) (D7 R S' (q+1)) w':=by
  rw[hψ];exact⟨hs,I.mem.2.trans hk⟩
 have hE:Yt ops R S' B w0 (listed.setIfInBounds q true) φ' w' (q+1):=by
  intro id s e hge;have e':φ id=some s:=by
   have:φ' id=φ id:=if_neg dO;rw[<- this];exact e
  obtain⟨k,i1,i2,i3,b',i4,i5,i8,iB,i12,i13⟩:=I.early id s e' dO;have hqk:q≠k:=by
   intro e2;subst e2;rw[i3] at hni;cases hni
  have hsbl:=iB.lt;refine⟨k,i1,dO,(FM hsz).2 (.inr i3),b',i4,i5,i8,(iB.same ?_).mono (Iv hle (Af _)),i12,λj sj hj hjs=>?_⟩
  ·rw[hk.D8 s.b hsbl (λid2 s2 h1 h2=>?_)]
   have hb:=FA h1;exact absurd h2 (i13 id2 s2 dO hb.2)
  ·by_cases h1:j < (D7 R S' (q+1)).next
   ·have hjs':ψ j=some sj:=by
     have:φ' j=ψ j:=if_pos h1;rw[<- this];exact hjs
    cases h2:(φ.below (D7 R S' q).next) j with
    | some s3=>
     have:=hk.le j s3 h2;rw[hjs'] at this;obtain rfl:=Aa this;exact i13 j sj hj (FA h2).2
    | none=>
     rcases hk.place j sj hjs' h2 with h3 | ⟨id0,s0,h3,h4,h5⟩
     ·omega
     ·have hb:=FA h3
      have:=i13 id0 s0 dO hb.2;rw[<- h4];exact this
   ·have:φ' j=φ j:=if_neg h1
    rw[this] at hjs;exact i13 j sj hj hjs
 obtain⟨q',k1,k2,k3,k4,k5⟩:=advance C h0 (ops.size - (q+1)) (q+1) dO hsk hE;refine⟨φ',q',by simp[I.size],Oq I hi hr,⟨k2,λk hk2 hka=>⟨λh=>?_,λh=>?_⟩⟩,?_,SN C I hi hni hle hdst (by rw[hψ];exact hv),k4,k5,λj hj hnj b hb haj=>?_,?_⟩
 ·rw[FM hsz]
  by_cases e:k=q
  ·exact .inl e
  ·right
   by_cases h2:k < q
   ·exact (I.stage.2 k hk2 hka).1 h2
   ·have:=k3 k dO h
    rw[this] at hka;cases hka
 ·rw[Bq]
  intro h1;rw[FM hsz] at h1;rcases h1 with rfl | h1
  ·omega
  ·have:=(I.stage.2 k hk2 hka).2 dO
   rw[this] at h1;cases h1
 ·rw[<- I.esize];cases o.dst<;>simp[Act.put]
 ·have hnj':listed.getD j true=false:=by
   rw[Bq] at hnj |-;intro h;exact hnj ((FM hsz).2 (.inr h))
  have hjq:j≠q:=λe=>by subst e;rw[ha] at haj;cases haj
  have hold:=I.late j hj hnj' b hb haj;have hn2:(D7 R S' (j+1)).next=(D7 R S' j).next+1:=by rw[hb];rfl
  show (if (D7 R S' j).next < (D7 R S' (q+1)).next then ψ (D7 R S' j).next else φ (D7 R S' j).next)=none
  split
  ·rename_i hlt
   have hjlt:j < q:=by
    rcases Cd j q with h | h
    ·exact h
    ·have:=C.Ks (i:=q+1) (j:=j) dO;omega
   have hlt2:(D7 R S' j).next < (D7 R S' q).next:=by
    have:=C.Ks (i:=j+1) (j:=q) dO;omega
   cases e:ψ (D7 R S' j).next with
   | none=>rfl
   | some s=>
    have:=hk.new _ s e (by rw[F6 hlt2];exact hold);omega
  ·exact hold
 ·rw[<- I.defers];cases o.dst<;>rfl
end
end Go.Proofs.YtkkpchcniicimaaGreat

/- The constant table of the seat, if there is one. The memory of the abstract machine, and what it stands for in the model's memory. No program in sight. Writes into the abstract memory, and what they stand for. No program in sight. Objects that are no rows: loops over functions, maps, walks through strings. No program in sight. The operations of the abstract machine, and how the model's operations are read as such. No program in sight. The model's operations do what the abstract machine's do: the single operations. The model's operations do what the abstract machine's do: slices. The model's operations do what the abstract machine's do: copy, clear, make, literals, parts. The model's operations do what the abstract machine's do: equality of values without addresses. How the model's operations are read as the abstract machine's; what is read so does the same. What is read as an operation of the abstract machine does the same. Maps and walks through strings: the model's operations do what the abstract machine's do. Every operation that is read as one of the abstract machine's does the same. The code of the abstract machine: regions, branches, loops, calls. The records of loops over functions in the model's memory. No program in sight. -/
import GoSem.Claim
import Derived.WalkKit
import Derived.WalkSpells
import Derived.Laws.AppendOwnNone
import Derived.WalkLawsBesides
import Derived.Orders
import Derived.Below
import Derived.RangeFuncRecord
import Derived.Laws.StructEq
import Derived.MapKept
import Derived.WideKeyRuns
import Derived.Scope
import Derived.Eval
import Derived.ControlIn
import Derived.CallsIn
import Derived.OrdersIn
import Derived.OwnWalkIn
namespace Go.Proofs.YtghcggoodgfaoaaGreatDoor
open Go
def gOn:Bool:=true
def gVar:Nat:=0
def gTyp:Nat:=208
def gTab:List (Int × Nat):=[(2,315),(3,316),(4,318),(5,319),(6,320),(7,321)]
def seatSkips:List String:=["simproof/compile.Verify", "simproof/linear.Check", "simproof/verdict.checkers" ++ (Char.ofNat 36).toString ++ "1", "simproof/verdict.checkers" ++ (Char.ofNat 36).toString ++ "2", "simproof/causal.Check", "simproof/causal.Session", "simproof/once.Check"]
end Go.Proofs.YtghcggoodgfaoaaGreatDoor

namespace Go.Proofs.YtghcggoodgfaoaaGreatDoor
open Go Go.RowKit
inductive Tr (α:Type) where
 | leaf
 | node (v:Option α) (l r:Tr α)
def Tr.get {α:Type}:Tr α→Nat→Option α
 | .leaf,_=>none
 | .node v l r,n=>if n=0 then v else if n % 2=1 then l.get (n/2) else r.get (n/2-1)
def Tr.top {α:Type}:Tr α→Option α
 | .leaf=>none
 | .node v _ _=>v
def Tr.left {α:Type}:Tr α→Tr α
 | .leaf=>.leaf
 | .node _ l _=>l
def Tr.right {α:Type}:Tr α→Tr α
 | .leaf=>.leaf
 | .node _ _ r=>r
theorem Tr.get_eq {α:Type} (t:Tr α) (n:Nat):t.get n=if n=0 then t.top else if n % 2=1 then t.left.get (n/2) else t.right.get (n/2-1):=by
 cases t with
 | leaf=>simp [Tr.get,Tr.top,Tr.left,Tr.right]
 | node v l r=>rfl
def Tr.set {α:Type}:Nat→Tr α→Nat→α→Tr α
 | 0,t,_,a=>.node (some a) t.left t.right
 | f+1,t,n,a=>if n=0 then .node (some a) t.left t.right else if n % 2=1 then .node t.top (Tr.set f t.left (n/2) a) t.right else .node t.top t.left (Tr.set f t.right (n/2-1) a)
theorem Tr.get_set {α:Type} (a:α):∀ (f n m:Nat) (t:Tr α),n≤f→(Tr.set f t n a).get m=if m=n then some a else t.get m:=by
 intro f
 induction f with
 | zero=>
  intro n m t h
  obtain rfl:n=0:=by omega
  rw [Tr.set,Tr.get_eq,Tr.get_eq t]
  by_cases hm:m=0
  ·simp [hm,Tr.top]
  ·simp [hm,Tr.left,Tr.right]
 | succ f ih=>
  intro n m t h
  rw [Tr.set,Tr.get_eq t]
  by_cases hn:n=0
  ·subst hn
   rw [if_pos rfl,Tr.get_eq]
   by_cases hm:m=0
   ·simp [hm,Tr.top]
   ·simp [hm,Tr.left,Tr.right]
  ·rw [if_neg hn]
   by_cases h2:n % 2=1
   ·rw [if_pos h2,Tr.get_eq]
    by_cases hm:m=0
    ·have:m≠n:=by omega
     subst hm
     simp [Tr.top,Ne.symm hn]
    ·simp only [hm,if_false,Tr.left,Tr.right]
     by_cases h3:m % 2=1
     ·simp only [h3,if_true]
      rw [ih _ _ _ (by omega)]
      by_cases e:m=n
      ·simp [e]
      ·have:m/2≠n/2:=by omega
       simp [e,this]
     ·have:m≠n:=by omega
      simp [h3,this]
   ·rw [if_neg h2,Tr.get_eq]
    by_cases hm:m=0
    ·have:m≠n:=by omega
     subst hm
     simp [Tr.top,Ne.symm hn]
    ·simp only [hm,if_false,Tr.left,Tr.right]
     by_cases h3:m % 2=1
     ·have:m≠n:=by omega
      simp [h3,this]
     ·simp only [h3,if_false]
      rw [ih _ _ _ (by omega)]
      by_cases e:m=n
      ·simp [e]
      ·have:m/2-1≠n/2-1:=by omega
       simp [e,this]
inductive EOp where
 | mkMap
 | lookup (ks:List Nat) (agg:Bool) (z:Value) (ok:Bool)
 | mapSet (ks:List Nat) (agg:Bool)
 | mapEnt (ks:List Nat) (agg:Bool) (z:Value)
 | entSet
 | mapDel (ks:List Nat) (agg:Bool)
 | mapLen
 | iterStr
 | nextStr
 | iterMap
 | nextMap
 | entMap
 | capNil
 | gload
 | lookG (z:Value) (ok:Bool)
 | nilF (neg:Bool)
inductive XOp where
 | mv (x:Operand)
 | pick (c a b:Operand)
 | box (t:TypeId) (x:Operand)
 | zero (t:TypeId) (z:Value)
 | load (agg:Bool) (sz:Nat) (x:Operand)
 | store (sz:Nat) (a x:Operand)
 | nilck (x:Operand)
 | bin (op:BinOp) (x y:Operand)
 | eqb (neg:Bool) (x y:Operand)
 | eqf (ks:List Nat) (neg:Bool) (x y:Operand)
 | eqp (neg:Bool) (x y:Operand)
 | eqs (neg:Bool) (x y:Operand)
 | un (op:UnOp) (x:Operand)
 | cvi (k:IntKind) (x:Operand)
 | cvs (x:Operand)
 | mkIface (t:TypeId) (x:Operand)
 | mkFunc (f:FuncId) (first captured:Array Operand)
 | mkSlice (e:TypeId) (esz bytes:Nat) (z:List Value) (len cap:Operand)
 | sl (esz:Nat) (x:Operand) (lo hi:Option Operand)
 | slStr (x:Operand) (lo hi:Option Operand)
 | fa (off:Nat) (x:Operand)
 | fld (agg:Bool) (sz off:Nat) (x:Operand)
 | ia (esz:Nat) (x i:Operand)
 | iaArr (n esz:Nat) (x i:Operand)
 | idx (n:Nat) (agg:Bool) (esz:Nat) (x i:Operand)
 | idxStr (x i:Operand)
 | ext (x:Operand) (i:Nat)
 | build (z:List Value) (parts:List (Nat × Nat × Operand))
 | buildSlice (e:TypeId) (esz n:Nat) (z:List Value) (parts:List (Nat × Nat × Operand))
 | len (x:Operand)
 | lenStr (x:Operand)
 | append (e:TypeId) (esz bytes:Nat) (s x:Operand)
 | copy (esz:Nat) (d s:Operand)
 | clr (esz:Nat) (z:List Value) (x:Operand)
 | minmax (mx:Bool) (x:Operand) (l:List Operand)
 | call (f:FuncId) (args:Array Operand)
 | callv (x:Operand) (args:Array Operand)
 | extra (e:EOp) (l:List Operand)
structure XOper where
 dst:Option Tmp
 op:XOp
 guard:Option (Tmp × Bool)
structure XDraw where
 ops:List XOper
 stages:List (List Nat)
 flags:List ((Bool × Bool) × Bool)
structure LoopC where
 ps:Array Tmp
 assign:Code
 body:Code
 n:Nat
inductive XCode where
 | skip
 | region (ops:List XOper)
 | draw (d:XDraw)
 | seq (a b:XCode)
 | cond (c:Operand) (thn els:XCode)
 | block (id:Nat) (body:XCode)
 | loop (body:XCode)
 | exit (id:Nat)
 | ret
 | range (x:Operand) (L:LoopC)
inductive Ex where
 | normal
 | exit (id:Nat)
 | ret
inductive AObj where
 | loop (env:Array Value) (L:LoopC) (pe:Option Ex)
 | map (es:List (Value × Value × Nat)) (clock:Nat)
 | iter (s:ByteArray) (pos:Nat)
 | mapIter (m:Option Nat) (since:Nat) (seen:List Nat) (last:Nat)
inductive Blk where
 | gone
 | cells (c:List Value) (t:TypeId) (sz:Nat) (mine:Bool) (anc:List Nat)
 | obj (o:AObj)
abbrev Blk.loop (env:Array Value) (L:LoopC) (pe:Option Ex):Blk:=.obj (.loop env L pe)
abbrev Blk.map (es:List (Value × Value × Nat)) (clock:Nat):Blk:=.obj (.map es clock)
abbrev Blk.iter (s:ByteArray) (pos:Nat):Blk:=.obj (.iter s pos)
abbrev Blk.mapIter (m:Option Nat) (since:Nat) (seen:List Nat) (last:Nat):Blk:=.obj (.mapIter m since seen last)
def Blk.wr:Blk→Bool
 | .gone=>false
 | .cells _ _ _ m _=>m
 | .obj _=>true
structure St where
 heap:Tr Blk
 next:Nat
def St.get (S:St) (id:Nat):Blk:=(S.heap.get id).getD .gone
def St.put (S:St) (id:Nat) (b:Blk):St:={ S with heap:=S.heap.set id id b }
def St.alloc (S:St) (b:Blk):St:={ heap:=S.heap.set S.next S.next b,next:=S.next+1 }
def St.kill (S:St) (l:List Nat):St:=l.foldl (fun S j=>S.put j .gone) S
theorem St.get_put (S:St) (id:Nat) (b:Blk) (j:Nat):(S.put id b).get j=if j=id then b else S.get j:=by
 unfold St.get St.put
 simp only [Tr.get_set _ _ _ _ _ (Nat.le_refl id)]
 split<;>rfl
theorem St.get_alloc (S:St) (b:Blk) (j:Nat):(S.alloc b).get j=if j=S.next then b else S.get j:=by
 unfold St.get St.alloc
 simp only [Tr.get_set _ _ _ _ _ (Nat.le_refl S.next)]
 split<;>rfl
@[simp] theorem St.next_put (S:St) (id:Nat) (b:Blk):(S.put id b).next=S.next:=rfl
@[simp] theorem St.next_alloc (S:St) (b:Blk):(S.alloc b).next=S.next+1:=rfl
theorem St.next_kill (l:List Nat):∀ S:St,(S.kill l).next=S.next:=by
 induction l with
 | nil=>intro S;rfl
 | cons j l ih=>intro S;exact ih (S.put j .gone)
theorem St.get_kill (l:List Nat):∀ (S:St) (j:Nat),(S.kill l).get j=if j∈l then .gone else S.get j:=by
 induction l with
 | nil=>intro S j;simp [St.kill]
 | cons i l ih=>
  intro S j
  have:=ih (S.put i .gone) j
  unfold St.kill at this ⊢
  rw [List.foldl_cons,this,St.get_put]
  by_cases h:j∈l
  ·simp [h]
  ·by_cases e:j=i
   ·simp [e]
   ·simp [h,e]
structure Spot where
 b:Nat
 base:Nat
 ext:Nat
 sz:Nat
structure Emb where
 f:Nat→Option Spot
 tab:Option Nat
instance:CoeFun Emb (fun _=>Nat→Option Spot):=⟨Emb.f⟩
theorem Emb.ext' {φ ψ:Emb} (h:∀ id,φ id=ψ id) (ht:φ.tab=ψ.tab):φ=ψ:=by
 cases φ;cases ψ
 obtain rfl:=show _=_ from ht
 obtain rfl:=show _=_ from funext h
 rfl
inductive Rel (φ:Emb):Value→Value→Prop where
 | bool (b:Bool):Rel φ (.bool b) (.bool b)
 | int (k:IntKind) (n:Int):Rel φ (.int k n) (.int k n)
 | string (s:ByteArray):Rel φ (.string s) (.string s)
 | ptrNil:Rel φ (.pointer none) (.pointer none)
 | ptr (id o:Nat) (s:Spot) (h:φ id=some s):Rel φ (.pointer (some ⟨id,o,none⟩)) (.pointer (some ⟨s.b,s.base+o,none⟩))
 | sliceNil:Rel φ (.slice none 0 0) (.slice none 0 0)
 | slice (id o n c c':Nat) (s:Spot) (h:φ id=some s) (hn:n≤c) (hc:c≤c') (he:o+c'*s.sz≤s.ext):Rel φ (.slice (some ⟨id,o,none⟩) n c) (.slice (some ⟨s.b,s.base+o,none⟩) n c')
 | sliceEnd (id o x:Nat) (s:Spot) (h:φ id=some s):Rel φ (.slice (some ⟨id,o,none⟩) 0 0) (.slice (some ⟨s.b,x,none⟩) 0 0)
 | nilFunc:Rel φ .nilFunc .nilFunc
 | nilIface:Rel φ .nilIface .nilIface
 | func (f:FuncId) (a b a' b':Array Value) (ha:a.size=a'.size) (hb:b.size=b'.size) (h1:∀ i (h:i<a.size) (h':i<a'.size),Rel φ a[i] a'[i]) (h2:∀ i (h:i<b.size) (h':i<b'.size),Rel φ b[i] b'[i]) :
   Rel φ (.func (.func f) a b) (.func (.func f) a' b')
 | yield (id:Nat) (s:Spot) (h:φ id=some s):Rel φ (.func (.yield id) #[] #[]) (.func (.yield s.b) #[] #[])
 | mapNil:Rel φ (.map none) (.map none)
 | map (id:Nat) (s:Spot) (h:φ id=some s):Rel φ (.map (some id)) (.map (some s.b))
 | tab (b:Nat) (h:φ.tab=some b):Rel φ (.chan (some 0)) (.map (some b))
 | iface (t:TypeId) (v v':Value) (h:Rel φ v v'):Rel φ (.iface t v) (.iface t v')
 | agg (a a':Array Value) (ha:a.size=a'.size) (h1:∀ i (h:i<a.size) (h':i<a'.size),Rel φ a[i] a'[i]):Rel φ (.agg a) (.agg a')
 | tuple (a a':Array Value) (ha:a.size=a'.size) (h1:∀ i (h:i<a.size) (h':i<a'.size),Rel φ a[i] a'[i]):Rel φ (.tuple a) (.tuple a')
def RelA (φ:Emb) (a b:Array Value):Prop:=a.size=b.size∧∀ i (h:i<a.size) (h':i<b.size),Rel φ a[i] b[i]
def RelL (φ:Emb) (a b:List Value):Prop:=a.length=b.length∧∀ i (h:i<a.length) (h':i<b.length),Rel φ a[i] b[i]
structure Emb.le (φ ψ:Emb):Prop where
 at':∀ id s,φ id=some s→ψ id=some s
 tab:ψ.tab=φ.tab
instance (φ ψ:Emb):CoeFun (Emb.le φ ψ) (fun _=>∀ id s,φ id=some s→ψ id=some s):=⟨Emb.le.at'⟩
theorem Emb.le.refl (φ:Emb):Emb.le φ φ:=⟨fun _ _ h=>h,rfl⟩
theorem Emb.le.trans {φ ψ χ:Emb} (h:Emb.le φ ψ) (k:Emb.le ψ χ):Emb.le φ χ:=⟨fun id s e=>k id s (h id s e),k.tab.trans h.tab⟩
theorem Rel.mono {φ ψ:Emb} (hle:Emb.le φ ψ) {v v':Value} (h:Rel φ v v'):Rel ψ v v':=by
 induction h with
 | bool b=>exact .bool b
 | int k n=>exact .int k n
 | string s=>exact .string s
 | ptrNil=>exact .ptrNil
 | ptr id o s h=>exact .ptr id o s (hle _ _ h)
 | sliceNil=>exact .sliceNil
 | slice id o n c c' s h hn hc he=>exact .slice id o n c c' s (hle _ _ h) hn hc he
 | sliceEnd id o x s h=>exact .sliceEnd id o x s (hle _ _ h)
 | nilFunc=>exact .nilFunc
 | nilIface=>exact .nilIface
 | func f a b a' b' ha hb h1 h2 i1 i2=>exact .func f a b a' b' ha hb i1 i2
 | yield id s h=>exact .yield id s (hle _ _ h)
 | mapNil=>exact .mapNil
 | map id s h=>exact .map id s (hle _ _ h)
 | tab b h=>exact .tab b (hle.tab.trans h)
 | iface t v v' h ih=>exact .iface t v v' ih
 | agg a a' ha h1 i1=>exact .agg a a' ha i1
 | tuple a a' ha h1 i1=>exact .tuple a a' ha i1
theorem RelA.mono {φ ψ:Emb} (hle:Emb.le φ ψ) {a b:Array Value} (h:RelA φ a b):RelA ψ a b:=⟨h.1,fun i h1 h2=>(h.2 i h1 h2).mono hle⟩
theorem RelL.mono {φ ψ:Emb} (hle:Emb.le φ ψ) {a b:List Value} (h:RelL φ a b):RelL ψ a b:=⟨h.1,fun i h1 h2=>(h.2 i h1 h2).mono hle⟩
theorem RelA.toL {φ:Emb} {a b:Array Value} (h:RelA φ a b):RelL φ a.toList b.toList:=⟨by simpa using h.1,fun i h1 h2=>by simpa using h.2 i (by simpa using h1) (by simpa using h2)⟩
theorem RelL.toA {φ:Emb} {a b:List Value} (h:RelL φ a b):RelA φ a.toArray b.toArray:=⟨by simpa using h.1,fun i h1 h2=>by simpa using h.2 i (by simpa using h1) (by simpa using h2)⟩
theorem RelL.nil (φ:Emb):RelL φ [] []:=⟨rfl,fun i h=>by simp at h⟩
theorem RelL.append {φ:Emb} {a b a' b':List Value} (h:RelL φ a a') (k:RelL φ b b'):RelL φ (a++b) (a'++b'):=by
 refine ⟨by simp [h.1,k.1],fun i h1 h2=>?_⟩
 by_cases hi:i<a.length
 ·rw [List.getElem_append_left hi,List.getElem_append_left (by rw [← h.1];exact hi)]
  exact h.2 i _ _
 ·have hl:=h.1
  rw [List.getElem_append_right (by omega),List.getElem_append_right (by omega)]
  have e:i-a.length=i-a'.length:=by rw [h.1]
  have:=k.2 (i-a.length) (by simp at h1;omega) (by simp at h2;omega)
  simpa only [e] using this
theorem RelL.cons {φ:Emb} {x y:Value} {a b:List Value} (h:Rel φ x y) (k:RelL φ a b):RelL φ (x::a) (y::b):=by
 refine ⟨by simp [k.1],fun i h1 h2=>?_⟩
 cases i with
 | zero=>exact h
 | succ i=>exact k.2 i (by simpa using h1) (by simpa using h2)
theorem RelL.take {φ:Emb} {a b:List Value} (h:RelL φ a b) (n:Nat):RelL φ (a.take n) (b.take n):=
 ⟨by simp [h.1],fun i h1 h2=>by simpa using h.2 i (by simp at h1;omega) (by simp at h2;omega)⟩
theorem RelL.drop {φ:Emb} {a b:List Value} (h:RelL φ a b) (n:Nat):RelL φ (a.drop n) (b.drop n):=
 ⟨by simp [h.1],fun i h1 h2=>by simpa using h.2 (n+i) (by simp at h1;omega) (by simp at h2;omega)⟩
theorem Rel.agg' {φ:Emb} {a a':Array Value} (h:RelA φ a a'):Rel φ (.agg a) (.agg a'):=.agg a a' h.1 h.2
theorem Rel.tuple' {φ:Emb} {a a':Array Value} (h:RelA φ a a'):Rel φ (.tuple a) (.tuple a'):=.tuple a a' h.1 h.2
theorem Rel.func' {φ:Emb} {f:FuncId} {a a' b b':Array Value} (h:RelA φ a a') (k:RelA φ b b'):Rel φ (.func (.func f) a b) (.func (.func f) a' b'):=.func f a b a' b' h.1 k.1 h.2 k.2
theorem Rel.undef (φ:Emb):Rel φ undef undef:=.tuple' ⟨rfl,fun i h=>by simp at h⟩
theorem Rel.oneCell {φ:Emb} {v v':Value} (h:Rel φ v v'):v'.oneCell'=v.oneCell':=by cases h<;>rfl
theorem Rel.cells {φ:Emb} {v v':Value} (h:Rel φ v v'):RelA φ v.cells v'.cells:=by
 have h0:=h
 cases h with
 | agg a a' ha h1=>exact ⟨ha,h1⟩
 | _=>exact ⟨rfl,fun i h1 h2=>by
   have:i=0:=by simp [Value.cells]at h1;omega
   subst this
   simp only [Value.cells,List.getElem_toArray,List.getElem_cons_zero]
   exact h0⟩
def Row (w:World) (b:Nat) (m:Bool) (cs:Array Value) (t:TypeId):Prop:=∃ fz,w.heap[b]? = some (.cells cs t fz)∧(m=true→fz=(0,0))
theorem Row.mine {w:World} {b:Nat} {cs:Array Value} {t:TypeId} (h:Row w b true cs t):w.heap[b]? = some (.cells cs t (0,0)):=by
 obtain ⟨fz,h1,h2⟩:=h
 rw [h1,h2 rfl]
theorem Row.of {w:World} {b:Nat} {m:Bool} {cs:Array Value} {t:TypeId} (h:w.heap[b]? = some (.cells cs t (0,0))):Row w b m cs t:=⟨_,h,fun _=>rfl⟩
theorem Row.same {w w':World} {b:Nat} {m:Bool} {cs:Array Value} {t:TypeId} (h:Row w b m cs t) (e:w'.heap[b]? = w.heap[b]?):Row w' b m cs t:=by
 obtain ⟨fz,h1,h2⟩:=h
 exact ⟨fz,e.trans h1,h2⟩
theorem Row.still {w:World} {b:Nat} {m:Bool} {cs:Array Value} {t:TypeId} (h:Row w b m cs t):Row w b false cs t:=by
 obtain ⟨fz,h1,h2⟩:=h
 exact ⟨fz,h1,fun x=>by cases x⟩
def Ex.code:Ex→Code
 | .normal=>.skip
 | .exit id=>.exit id
 | .ret=>.ret
def LoopR (φ:Emb) (env:Array Value) (L:LoopC) (pe:Option Ex) (r:Loop):Prop:=
 RelA φ env r.tmps∧r.params=L.ps∧r.assign=L.assign∧r.body=L.body∧r.pending=pe.map Ex.code∧r.state=match pe with
  | none=>LoopState.ready
  | some _=>LoopState.done
theorem LoopR.mono {φ ψ:Emb} (hle:Emb.le φ ψ) {env:Array Value} {L:LoopC} {pe:Option Ex} {r:Loop} (h:LoopR φ env L pe r):LoopR ψ env L pe r:=⟨h.1.mono hle,h.2⟩
theorem LoopR.notBusy {φ:Emb} {env:Array Value} {L:LoopC} {pe:Option Ex} {r:Loop} (h:LoopR φ env L pe r):r.state≠.busy:=by
 rw [h.2.2.2.2.2];cases pe<;>simp
def EntR (φ:Emb) (x:Value × Value × Nat) (e:MapEntry):Prop:=Rel φ x.1 e.key∧Rel φ x.2.1 e.val∧x.2.2=e.born
def EntsR (φ:Emb) (es:List (Value × Value × Nat)) (es':List MapEntry):Prop:=es.length=es'.length∧∀ i (h:i<es.length) (h':i<es'.length),EntR φ es[i] es'[i]
theorem EntsR.mono {φ ψ:Emb} (hle:Emb.le φ ψ) {es:List (Value × Value × Nat)} {es':List MapEntry} (h:EntsR φ es es'):EntsR ψ es es':=
 ⟨h.1,fun i h1 h2=>⟨(h.2 i h1 h2).1.mono hle,(h.2 i h1 h2).2.1.mono hle,(h.2 i h1 h2).2.2⟩⟩
def ObjR (φ:Emb):AObj→Obj→Prop
 | .loop env L pe,r=>∃ q,r=.loop q∧LoopR φ env L pe q
 | .map es c,r=>∃ es',r=.map es' c∧EntsR φ es es'.toList
 | .iter s p,r=>r=.stringIter s p
 | .mapIter m since seen last,r=>∃ m',r=.mapIter m' since seen.toArray last∧Rel φ (.map m) (.map m')
theorem ObjR.mono {φ ψ:Emb} (hle:Emb.le φ ψ) {o:AObj} {r:Obj} (h:ObjR φ o r):ObjR ψ o r:=by
 cases o with
 | loop env L pe=>obtain ⟨q,rfl,h⟩:=h;exact ⟨q,rfl,h.mono hle⟩
 | map es c=>obtain ⟨q,rfl,h⟩:=h;exact ⟨q,rfl,h.mono hle⟩
 | iter s p=>exact h
 | mapIter m s l c=>obtain ⟨q,rfl,h⟩:=h;exact ⟨q,rfl,h.mono hle⟩
def isRow:Obj→Bool
 | .cells _ _ _=>true
 | _=>false
def isObj:Obj→Bool
 | .loop _=>true
 | .map _ _=>true
 | .stringIter _ _=>true
 | .mapIter _ _ _ _=>true
 | _=>false
theorem ObjR.isObj {φ:Emb} {o:AObj} {r:Obj} (h:ObjR φ o r):Go.Proofs.YtghcggoodgfaoaaGreatDoor.isObj r=true:=by
 cases o with
 | loop env L pe=>obtain ⟨q,rfl,h⟩:=h;rfl
 | map es c=>obtain ⟨q,rfl,h⟩:=h;rfl
 | iter s p=>rw [h];rfl
 | mapIter m s l c=>obtain ⟨q,rfl,h⟩:=h;rfl
theorem ObjR.noRow {φ:Emb} {o:AObj} {r:Obj} (h:ObjR φ o r):isRow r=false:=by
 cases o with
 | loop env L pe=>obtain ⟨q,rfl,h⟩:=h;rfl
 | map es c=>obtain ⟨q,rfl,h⟩:=h;rfl
 | iter s p=>rw [h];rfl
 | mapIter m s l c=>obtain ⟨q,rfl,h⟩:=h;rfl
def TabR (es:List MapEntry):Prop:=(∀ x∈es,∃ n f,x.key=.int .i64 n∧x.val=.func (.func f) #[] #[]∧gTab.lookup n=some f)∧∀ n f,gTab.lookup n=some f→∃ x∈es,x.key=.int .i64 n
def GlobOK (B:Nat) (φ:Emb) (w:World):Prop:=gOn=true→∃ b,φ.tab=some b∧gVar<B∧b<B∧(∃ t fz,w.heap[gVar]? = some (.cells #[.map (some b)] t fz))∧∃ es' c,w.heap[b]? = some (.map es' c)∧TabR es'.toList
theorem GlobOK.of {B B':Nat} {φ φ':Emb} {w w':World} (h:GlobOK B φ w) (hB:B≤B') (ht:φ'.tab=φ.tab) (hw:∀ (b:Nat) o,b<B→(isRow o=true∨isObj o=true)→w.heap[b]? = some o→w'.heap[b]? = some o):GlobOK B' φ' w':=by
 intro hg
 obtain ⟨b,h1,h2,h3,⟨t,fz,h4⟩,es',c,h5,h6⟩:=h hg
 exact ⟨b,ht.trans h1,Nat.lt_of_lt_of_le h2 hB,Nat.lt_of_lt_of_le h3 hB,⟨t,fz,hw _ _ h2 (.inl rfl) h4⟩,es',c,hw _ _ h3 (.inr rfl) h5,h6⟩
def Loops (B:Nat) (φ:Emb) (S:St) (w:World):Prop:=
 GlobOK B φ w∧∀ id s o,φ id=some s→S.get id=.obj o→(B≤s.b∧s.base=0)∧(∃ r,w.heap[s.b]? = some r∧ObjR φ o r)∧
  ∀ j sj o',j≠id→φ j=some sj→S.get j=.obj o'→sj.b≠s.b
theorem Loops.of {B:Nat} {φ φ':Emb} {S S':St} {w w':World} (h:Loops B φ S w) (hle:Emb.le φ φ') (hS:∀ id o,S'.get id=.obj o→S.get id=.obj o)
  (hφ:∀ id s o,φ' id=some s→S'.get id=.obj o→φ id=some s) (hw:∀ (b:Nat) r,isRow r=false→w.heap[b]? = some r→w'.heap[b]? = some r) (hlow:∀ (b:Nat) o,b<B→w.heap[b]? = some o→w'.heap[b]? = some o):Loops B φ' S' w':=by
 refine ⟨h.1.of (Nat.le_refl _) hle.tab (fun b o h1 _ h2=>hlow b o h1 h2),?_⟩
 intro id s o e e2
 obtain ⟨h1,⟨r,h2,h3⟩,h4⟩:=h.2 id s o (hφ id s o e e2) (hS id o e2)
 exact ⟨h1,⟨r,hw _ r h3.noRow h2,h3.mono hle⟩,fun j sj o' hj ej ej2=>h4 j sj o' hj (hφ j sj o' ej ej2) (hS j o' ej2)⟩
structure Sim (B:Nat) (φ:Emb) (S:St) (w:World):Prop where
 dom:∀ id s,φ id=some s→id<S.next∧s.b<w.heap.size
 gone:∀ id,S.next≤id→S.get id=.gone
 blk:∀ id s c t sz m an,φ id=some s→S.get id=.cells c t sz m an→s.sz=sz∧c.length≤s.ext∧(m=true→B≤s.b)∧
  ∃ cs t',Row w s.b m cs t'∧s.base+s.ext≤cs.size∧∀ i v,c[i]? = some v→v.oneCell'=true∧∃ v',cs[s.base+i]? = some v'∧Rel φ v v'
 apart:∀ id s c t sz an,φ id=some s→S.get id=.cells c t sz true an→∀ j sj cj tj zj mj aj,j≠id→φ j=some sj→S.get j=.cells cj tj zj mj aj→sj.b=s.b→
  (j∈an∧mj=false)∧sj.base+cj.length≤s.base+c.length
 loops:Loops B φ S w
structure Keep (B:Nat) (φ:Emb) (S:St) (w:World) (φ':Emb) (S':St) (w':World):Prop where
 le:Emb.le φ φ'
 place:∀ id s,φ' id=some s→φ id=none→w.heap.size≤s.b∨∃ id0 s0,φ id0=some s0∧s0.b=s.b∧(S.get id0).wr=true
 new:∀ id s,φ' id=some s→φ id=none→S.next≤id
 size:w.heap.size≤w'.heap.size
 next:S.next≤S'.next
 os:w'.os=w.os
 tape:w'.tape=w.tape
 output:w'.output=w.output
 keep:∀ b,b<w.heap.size→(∀ id s,φ id=some s→s.b=b→(S.get id).wr=false)→w'.heap[b]? = w.heap[b]?
 mine:∀ id s,φ' id=some s→(S'.get id).wr=true→s.b<w.heap.size→∃ id0 s0,φ id0=some s0∧s0.b=s.b∧(S.get id0).wr=true
theorem wr_cells {S:St} {id:Nat} {c:List Value} {t:TypeId} {sz:Nat} {an:List Nat} (h:S.get id=.cells c t sz true an):(S.get id).wr=true:=by rw [h];rfl
theorem wr_loop {S:St} {id:Nat} {env:Array Value} {L:LoopC} {pe:Option Ex} (h:S.get id=.loop env L pe):(S.get id).wr=true:=by rw [h];rfl
theorem wr_obj {S:St} {id:Nat} {o:AObj} (h:S.get id=.obj o):(S.get id).wr=true:=by rw [h];rfl
theorem wr_inv {b:Blk} (h:b.wr=true):(∃ c t sz an,b=.cells c t sz true an)∨∃ o,b=.obj o:=by
 cases b with
 | gone=>cases h
 | cells c t sz m an=>cases m with
  | true=>exact .inl ⟨_,_,_,_,rfl⟩
  | false=>cases h
 | obj o=>exact .inr ⟨_,rfl⟩
theorem Keep.refl (B:Nat) (φ:Emb) (S:St) (w:World):Keep B φ S w φ S w:=
 ⟨Emb.le.refl _,fun _ _ h h'=>(Option.some_ne_none _ (h.symm.trans h')).elim,fun _ _ h h'=>(Option.some_ne_none _ (h.symm.trans h')).elim,Nat.le_refl _,Nat.le_refl _,rfl,rfl,rfl,fun _ _ _=>rfl,fun id s h1 h2 _=>⟨id,s,h1,rfl,h2⟩⟩
theorem Keep.trans {B:Nat} {φ φ' φ'':Emb} {S S' S'':St} {w w' w'':World} (h:Keep B φ S w φ' S' w') (k:Keep B φ' S' w' φ'' S'' w''):Keep B φ S w φ'' S'' w'':=by
 refine ⟨h.le.trans k.le,fun id s h1 h2=>?_,fun id s h1 h2=>?_,Nat.le_trans h.size k.size,Nat.le_trans h.next k.next,k.os.trans h.os,k.tape.trans h.tape,k.output.trans h.output,fun b hb hno=>?_,fun id s h1 h2 h3=>?_⟩
 ·cases h3:φ' id with
  | none=>
   rcases k.place id s h1 h3 with h4 | ⟨id0,s0,h4,h5,h6⟩
   ·exact .inl (Nat.le_trans h.size h4)
   ·by_cases hlt:s0.b<w.heap.size
    ·obtain ⟨id1,s1,h7,h8,h9⟩:=h.mine id0 s0 h4 h6 hlt
     exact .inr ⟨id1,s1,h7,h8.trans h5,h9⟩
    ·exact .inl (by omega)
  | some s'=>
   have:=k.le id s' h3
   rw [h1]at this
   obtain rfl:=Option.some.inj this
   exact h.place id s h3 h2
 ·cases h3:φ' id with
  | none=>exact Nat.le_trans h.next (k.new id s h1 h3)
  | some s'=>exact h.new id s' h3 h2
 ·rw [k.keep b (Nat.lt_of_lt_of_le hb h.size) ?_,h.keep b hb hno]
  intro id s h1 h2
  cases h3:(S'.get id).wr with
  | false=>rfl
  | true=>
   obtain ⟨id0,s0,h4,h5,h6⟩:=h.mine id s h1 h3 (by rw [h2];exact hb)
   rw [hno id0 s0 h4 (h5.trans h2)]at h6
   cases h6
 ·obtain ⟨id0,s0,h4,h5,h6⟩:=k.mine id s h1 h2 (Nat.lt_of_lt_of_le h3 h.size)
  obtain ⟨id1,s1,h7,h8,h9⟩:=h.mine id0 s0 h4 h6 (by rw [h5];exact h3)
  exact ⟨id1,s1,h7,h8.trans h5,h9⟩
theorem Sim.above {B:Nat} {φ:Emb} {S:St} {w:World} (hs:Sim B φ S w) {id:Nat} {s:Spot} (h1:φ id=some s) (h2:(S.get id).wr=true):B≤s.b:=by
 rcases wr_inv h2 with ⟨c,t,sz,an,e⟩|⟨o,e⟩
 ·exact (hs.blk id s c t sz true an h1 e).2.2.1 rfl
 ·exact (hs.loops.2 id s o h1 e).1.1
theorem Sim.loopAt {B:Nat} {φ:Emb} {S:St} {w:World} (hs:Sim B φ S w) {id:Nat} {s:Spot} {env:Array Value} {L:LoopC} {pe:Option Ex} (h1:φ id=some s) (h2:S.get id=.loop env L pe):(B≤s.b∧s.base=0)∧∃ r,w.heap[s.b]? = some (.loop r)∧LoopR φ env L pe r:=by
 obtain ⟨a1,⟨r,a2,q,rfl,a3⟩,_⟩:=hs.loops.2 id s _ h1 h2
 exact ⟨a1,q,a2,a3⟩
theorem Keep.below {B:Nat} {φ φ':Emb} {S S':St} {w w':World} (h:Keep B φ S w φ' S' w') (hs:Sim B φ S w) (hB:B≤w.heap.size):Below B w w':=
 ⟨h.os,h.tape,h.output,h.size,fun k hk=>h.keep k (by omega) fun id s h1 h2=>by
  cases h3:(S.get id).wr with
  | false=>rfl
  | true=>have:=hs.above h1 h3;omega⟩
theorem Sim.drew {B:Nat} {φ:Emb} {S:St} {w:World} (h:Sim B φ S w):Sim B φ S w.drew:=⟨h.dom,h.gone,h.blk,h.apart,h.loops⟩
theorem Keep.drew (B:Nat) (φ:Emb) (S:St) (w:World):Keep B φ S w φ S w.drew:=
 ⟨Emb.le.refl _,fun _ _ h h'=>(Option.some_ne_none _ (h.symm.trans h')).elim,fun _ _ h h'=>(Option.some_ne_none _ (h.symm.trans h')).elim,Nat.le_refl _,Nat.le_refl _,rfl,rfl,rfl,fun _ _ _=>rfl,fun id s h1 h2 _=>⟨id,s,h1,rfl,h2⟩⟩
def Emb.add (φ:Emb) (id:Nat) (s:Spot):Emb:=⟨fun j=>if j=id then some s else φ j,φ.tab⟩
theorem Emb.add_at (φ:Emb) (id:Nat) (s:Spot) (j:Nat):(φ.add id s) j=if j=id then some s else φ j:=rfl
theorem Emb.add_same (φ:Emb) (id:Nat) (s:Spot):φ.add id s id=some s:=if_pos rfl
theorem Emb.add_other (φ:Emb) {id j:Nat} (s:Spot) (h:j≠id):φ.add id s j=φ j:=if_neg h
theorem Emb.le_add (φ:Emb) (id:Nat) (s:Spot) (h:φ id=none):Emb.le φ (φ.add id s):=⟨fun j s' e=>by
 rw [Emb.add_other _ _ (fun e'=>by rw [e',h]at e;cases e)];exact e,rfl⟩
theorem Sim.fresh {B:Nat} {φ:Emb} {S:St} {w:World} (h:Sim B φ S w):φ S.next=none:=by
 cases e:φ S.next with
 | none=>rfl
 | some s=>have:=(h.dom _ s e).1;omega
theorem heap_alloc' (w:World) (o:Obj) (k:Nat):(w.alloc o).heap[k]? = if k=w.heap.size then some o else w.heap[k]?:=by
 show (w.heap.push o)[k]? = _
 rw [Array.getElem?_push]
theorem Sim.alloc {B:Nat} {φ:Emb} {S:St} {w:World} (h:Sim B φ S w) (hB:B≤w.heap.size) (c:List Value) (cs:Array Value) (t t':TypeId) (sz:Nat)
  (h1:∀ v∈c,v.oneCell'=true) (hlen:c.length≤cs.size) (hr:∀ (i:Nat) v,c[i]? = some v→∃ v',cs[i]? = some v'∧Rel φ v v') (an:List Nat) :
  Sim B (φ.add S.next ⟨w.heap.size,0,cs.size,sz⟩) (S.alloc (.cells c t sz true an)) (w.alloc (.cells cs t'))∧
  Keep B φ S w (φ.add S.next ⟨w.heap.size,0,cs.size,sz⟩) (S.alloc (.cells c t sz true an)) (w.alloc (.cells cs t')):=by
 have hf:=h.fresh
 have hle:=Emb.le_add φ S.next ⟨w.heap.size,0,cs.size,sz⟩ hf
 constructor
 ·refine ⟨fun id s e=>?_,(fun id hi=>by rw [St.get_alloc,if_neg (by simp at hi;omega)];exact h.gone id (by simp at hi;omega)),fun id s c' t1 sz1 m an' e e2=>?_,fun id s c' t1 sz1 an' e e2 j sj cj tj zj mj aj hj e3 e4 e5=>?_,h.loops.of hle (fun id o e=>?_) (fun id s o e e2=>?_) (fun b r _ e=>?_) fun b o hb e=>by have:b<w.heap.size:=(Array.getElem?_eq_some_iff.1 e).1;rw [heap_alloc',if_neg (by omega)];exact e⟩
  ·by_cases hi:id=S.next
   ·subst hi
    rw [Emb.add_same]at e
    obtain rfl:=Option.some.inj e
    simp
   ·rw [Emb.add_other _ _ hi]at e
    have:=h.dom id s e
    simp;omega
  ·by_cases hi:id=S.next
   ·subst hi
    rw [Emb.add_same]at e
    obtain rfl:=Option.some.inj e
    rw [St.get_alloc,if_pos rfl]at e2
    obtain ⟨rfl,rfl,rfl,rfl,rfl⟩:=Blk.cells.inj e2
    refine ⟨rfl,hlen,fun _=>hB,cs,t',Row.of (by rw [heap_alloc',if_pos rfl]),by simp,fun i v hv=>⟨h1 v (List.mem_of_getElem? hv),?_⟩⟩
    obtain ⟨v',hv',hrel⟩:=hr i v hv
    exact ⟨v',by simpa using hv',hrel.mono hle⟩
   ·rw [Emb.add_other _ _ hi]at e
    rw [St.get_alloc,if_neg hi]at e2
    obtain ⟨a1,a2,a3,cs',t2,a4,a5,a6⟩:=h.blk id s c' t1 sz1 m an' e e2
    have:=(h.dom id s e).2
    refine ⟨a1,a2,a3,cs',t2,a4.same (by rw [heap_alloc',if_neg (by omega)]),a5,fun i v hv=>?_⟩
    obtain ⟨b1,v',b2,b3⟩:=a6 i v hv
    exact ⟨b1,v',b2,b3.mono hle⟩
  ·by_cases hi:id=S.next
   ·subst hi
    rw [Emb.add_same]at e
    obtain rfl:=Option.some.inj e
    rw [Emb.add_other _ _ hj]at e3
    have:=(h.dom j sj e3).2
    simp at e5;omega
   ·rw [Emb.add_other _ _ hi]at e
    rw [St.get_alloc,if_neg hi]at e2
    by_cases hj2:j=S.next
    ·subst hj2
     rw [Emb.add_same]at e3
     obtain rfl:=Option.some.inj e3
     have:=(h.dom id s e).2
     simp at e5;omega
    ·rw [Emb.add_other _ _ hj2]at e3
     rw [St.get_alloc,if_neg hj2]at e4
     exact h.apart id s c' t1 sz1 an' e e2 j sj cj tj zj mj aj hj e3 e4 e5
  ·rw [St.get_alloc]at e
   split at e
   ·cases e
   ·exact e
  ·rw [St.get_alloc]at e2
   split at e2
   ·cases e2
   ·rename_i hi
    rwa [Emb.add_other _ _ hi]at e
  ·have:b<w.heap.size:=(Array.getElem?_eq_some_iff.1 e).1
   rw [heap_alloc',if_neg (by omega)];exact e
 ·refine ⟨hle,fun id s e e2=>?_,fun id s e e2=>?_,by simp,by simp,rfl,rfl,rfl,fun b hb _=>by rw [heap_alloc',if_neg (by omega)],fun id s e e2 hlt=>?_⟩
  ·by_cases hi:id=S.next
   ·subst hi
    rw [Emb.add_same]at e
    obtain rfl:=Option.some.inj e
    exact .inl (Nat.le_refl _)
   ·rw [Emb.add_other _ _ hi,e2]at e;cases e
  ·by_cases hi:id=S.next
   ·omega
   ·rw [Emb.add_other _ _ hi,e2]at e;cases e
  ·by_cases hi:id=S.next
   ·subst hi
    rw [Emb.add_same]at e
    obtain rfl:=Option.some.inj e
    simp at hlt
   ·rw [Emb.add_other _ _ hi]at e
    rw [St.get_alloc,if_neg hi]at e2
    exact ⟨id,s,e,rfl,e2⟩
end Go.Proofs.YtghcggoodgfaoaaGreatDoor

namespace Go.Proofs.YtghcggoodgfaoaaGreatDoor
open Go Go.RowKit
def St.write (S:St) (id:Nat) (c:List Value) (t:TypeId) (sz:Nat) (an:List Nat):St:=(S.kill an).put id (.cells c t sz true [])
theorem St.get_write (S:St) (id:Nat) (c:List Value) (t:TypeId) (sz:Nat) (an:List Nat) (j:Nat) :
  (S.write id c t sz an).get j=if j=id then .cells c t sz true [] else if j∈an then .gone else S.get j:=by
 unfold St.write
 rw [St.get_put,St.get_kill]
@[simp] theorem St.next_write (S:St) (id:Nat) (c:List Value) (t:TypeId) (sz:Nat) (an:List Nat):(S.write id c t sz an).next=S.next:=by
 unfold St.write
 rw [St.next_put,St.next_kill]
theorem Sim.write {B:Nat} {φ:Emb} {S:St} {w:World} (h:Sim B φ S w) {id:Nat} {s:Spot} {c c2:List Value} {t:TypeId} {sz:Nat} {an:List Nat}
  (e:φ id=some s) (e2:S.get id=.cells c t sz true an) (cs cs2:Array Value) (t':TypeId) (hg:w.heap[s.b]? = some (.cells cs t' (0,0)))
  (hl:c2.length=c.length) (hl2:cs2.size=cs.size) (h1:∀ v∈c2,v.oneCell'=true) (hr:∀ (i:Nat) v,c2[i]? = some v→∃ v',cs2[s.base+i]? = some v'∧Rel φ v v') :
  Sim B φ (S.write id c2 t sz an) (w.setRow s.b cs2)∧Keep B φ S w φ (S.write id c2 t sz an) (w.setRow s.b cs2):=by
 obtain ⟨a1,a2,a3,cs0,t0,a4,a5,a6⟩:=h.blk id s c t sz true an e e2
 have a4:=a4.mine
 rw [hg]at a4
 simp only [Option.some.injEq,Obj.cells.injEq]at a4
 obtain ⟨rfl,rfl,-⟩:=a4
 constructor
 ·refine ⟨fun j sj ej=>?_,(fun j hj=>by
   rw [St.get_write]
   have h1:=h.gone j (by simpa using hj)
   by_cases e3:j=id
   ·subst e3;rw [e2]at h1;cases h1
   ·rw [if_neg e3];split
    ·rfl
    ·exact h1),fun j sj cj tj zj mj aj ej e3=>?_,fun j sj cj tj zj aj ej e3 k sk ck tk zk mk ak hk ek e4 e5=>?_,h.loops.of (Emb.le.refl _) (fun j o e3=>?_) (fun _ _ _ ej _=>ej) (fun b r hnr hb=>?_) fun b o hb ho=>by rw [setRow_other w s.b b cs2 (fun eb=>by have:=a3 rfl;omega)];exact ho⟩
  ·have:=h.dom j sj ej
   simp;exact this
  ·rw [St.get_write]at e3
   by_cases hj:j=id
   ·subst hj
    rw [if_pos rfl]at e3
    obtain ⟨rfl,rfl,rfl,rfl,rfl⟩:=Blk.cells.inj e3
    rw [e]at ej
    obtain rfl:=Option.some.inj ej
    refine ⟨a1,by omega,a3,cs2,t',Row.of (setRow_heap w s.b cs cs2 t' (0,0) hg),by omega,fun i v hv=>⟨h1 v (List.mem_of_getElem? hv),hr i v hv⟩⟩
   ·rw [if_neg hj]at e3
    by_cases hja:j∈an
    ·rw [if_pos hja]at e3;cases e3
    ·rw [if_neg hja]at e3
     obtain ⟨b1,b2,b3,csj,tj',b4,b5,b6⟩:=h.blk j sj cj tj zj mj aj ej e3
     have hne:sj.b≠s.b:=fun eb=>hja (h.apart id s c t sz an e e2 j sj cj tj zj mj aj hj ej e3 eb).1.1
     exact ⟨b1,b2,b3,csj,tj',b4.same (setRow_other w s.b sj.b cs2 hne),b5,b6⟩
  ·rw [St.get_write]at e3 e4
   by_cases hj:j=id
   ·subst hj
    rw [e]at ej
    obtain rfl:=Option.some.inj ej
    rw [if_neg hk]at e4
    by_cases hka:k∈an
    ·rw [if_pos hka]at e4;cases e4
    ·rw [if_neg hka]at e4
     exact absurd (h.apart j s c t sz an e e2 k sk ck tk zk mk ak hk ek e4 e5).1.1 hka
   ·rw [if_neg hj]at e3
    by_cases hja:j∈an
    ·rw [if_pos hja]at e3;cases e3
    ·rw [if_neg hja]at e3
     by_cases hki:k=id
     ·subst hki
      rw [e]at ek
      obtain rfl:=Option.some.inj ek
      exact absurd (h.apart k s c t sz an e e2 j sj cj tj zj true aj hj ej e3 e5.symm).1.1 hja
     ·rw [if_neg hki]at e4
      by_cases hka:k∈an
      ·rw [if_pos hka]at e4;cases e4
      ·rw [if_neg hka]at e4
       exact h.apart j sj cj tj zj aj ej e3 k sk ck tk zk mk ak hk ek e4 e5
  ·rw [St.get_write]at e3
   split at e3
   ·cases e3
   ·split at e3
    ·cases e3
    ·exact e3
  ·rw [setRow_other w s.b b cs2 (fun eb=>by rw [eb,hg]at hb;rw [← Option.some.inj hb]at hnr;cases hnr)];exact hb
 ·refine ⟨Emb.le.refl _,fun _ _ h h'=>(Option.some_ne_none _ (h.symm.trans h')).elim,fun _ _ h h'=>(Option.some_ne_none _ (h.symm.trans h')).elim,by simp,by simp,rfl,rfl,rfl,fun b hb hno=>?_,fun j sj ej e3 hlt=>?_⟩
  ·refine setRow_other w s.b b cs2 (fun eb=>?_)
   have:=hno id s e eb.symm
   rw [wr_cells e2]at this
   cases this
  ·rw [St.get_write]at e3
   by_cases hj:j=id
   ·subst hj
    rw [e]at ej
    obtain rfl:=Option.some.inj ej
    exact ⟨j,s,e,rfl,wr_cells e2⟩
   ·rw [if_neg hj]at e3
    by_cases hja:j∈an
    ·rw [if_pos hja]at e3;cases e3
    ·rw [if_neg hja]at e3
     exact ⟨j,sj,ej,rfl,e3⟩
theorem Sim.still {B:Nat} {φ:Emb} {S:St} {w:World} (h:Sim B φ S w) {id:Nat} {c:List Value} {t:TypeId} {sz:Nat} {m:Bool} {an:List Nat} (e2:S.get id=.cells c t sz m an) (an':List Nat) :
  Sim B φ (S.put id (.cells c t sz false an')) w∧Keep B φ S w φ (S.put id (.cells c t sz false an')) w:=by
 constructor
 ·refine ⟨fun j sj ej=>by simpa using h.dom j sj ej,(fun j hj=>by
   rw [St.get_put]
   have h1:=h.gone j (by simpa using hj)
   by_cases e3:j=id
   ·subst e3;rw [e2]at h1;cases h1
   ·rw [if_neg e3];exact h1),fun j sj cj tj zj mj aj ej e3=>?_,fun j sj cj tj zj aj ej e3 k sk ck tk zk mk ak hk ek e4 e5=>?_,h.loops.of (Emb.le.refl _) (fun j o e3=>by
    rw [St.get_put]at e3
    split at e3
    ·cases e3
    ·exact e3) (fun _ _ _ ej _=>ej) (fun _ _ _ hb=>hb) fun _ _ _ hb=>hb⟩
  ·rw [St.get_put]at e3
   by_cases hj:j=id
   ·subst hj
    rw [if_pos rfl]at e3
    obtain ⟨rfl,rfl,rfl,rfl,rfl⟩:=Blk.cells.inj e3
    obtain ⟨b1,b2,b3,cr,tr,r1,r2⟩:=h.blk j sj c t sz m an ej e2
    exact ⟨b1,b2,fun x=>(Bool.noConfusion x),cr,tr,r1.still,r2⟩
   ·rw [if_neg hj]at e3
    exact h.blk j sj cj tj zj mj aj ej e3
  ·rw [St.get_put]at e3 e4
   by_cases hj:j=id
   ·subst hj
    rw [if_pos rfl]at e3
    cases e3
   ·rw [if_neg hj]at e3
    by_cases hki:k=id
    ·subst hki
     rw [if_pos rfl]at e4
     obtain ⟨rfl,rfl,rfl,rfl,rfl⟩:=Blk.cells.inj e4
     exact ⟨⟨(h.apart j sj cj tj zj aj ej e3 k sk c t sz m an hk ek e2 e5).1.1,rfl⟩,(h.apart j sj cj tj zj aj ej e3 k sk c t sz m an hk ek e2 e5).2⟩
    ·rw [if_neg hki]at e4
     exact h.apart j sj cj tj zj aj ej e3 k sk ck tk zk mk ak hk ek e4 e5
 ·refine ⟨Emb.le.refl _,fun _ _ h h'=>(Option.some_ne_none _ (h.symm.trans h')).elim,fun _ _ h h'=>(Option.some_ne_none _ (h.symm.trans h')).elim,Nat.le_refl _,Nat.le_refl _,rfl,rfl,rfl,fun b hb hno=>rfl,fun j sj ej e3 hlt=>?_⟩
  rw [St.get_put]at e3
  by_cases hj:j=id
  ·subst hj
   rw [if_pos rfl]at e3
   cases e3
  ·rw [if_neg hj]at e3
   exact ⟨j,sj,ej,rfl,e3⟩
def St.grow (S:St) (id:Nat) (c:List Value) (t:TypeId) (sz:Nat) (an:List Nat) (c2:List Value) (t2:TypeId):St:=(S.put id (.cells c t sz false an)).alloc (.cells c2 t2 sz true (id::an))
theorem Sim.growNew {B:Nat} {φ:Emb} {S:St} {w:World} (h:Sim B φ S w) (hB:B≤w.heap.size) {id:Nat} {c:List Value} {t:TypeId} {sz:Nat} {m:Bool} {an:List Nat}
  (e2:S.get id=.cells c t sz m an) (c2:List Value) (t2 t':TypeId) (cs:Array Value)
  (h1:∀ v∈c2,v.oneCell'=true) (hlen:c2.length≤cs.size) (hr:∀ (i:Nat) v,c2[i]? = some v→∃ v',cs[i]? = some v'∧Rel φ v v') :
  Sim B (φ.add S.next ⟨w.heap.size,0,cs.size,sz⟩) (S.grow id c t sz an c2 t2) (w.alloc (.cells cs t'))∧
  Keep B φ S w (φ.add S.next ⟨w.heap.size,0,cs.size,sz⟩) (S.grow id c t sz an c2 t2) (w.alloc (.cells cs t')):=by
 obtain ⟨k1,k2⟩:=h.still e2 an
 obtain ⟨k3,k4⟩:=k1.alloc hB c2 cs t2 t' sz h1 hlen hr (id::an)
 exact ⟨k3,k2.trans k4⟩
theorem Sim.growIn {B:Nat} {φ:Emb} {S:St} {w:World} (h:Sim B φ S w) {id:Nat} {s:Spot} {c news:List Value} {t:TypeId} {sz:Nat} {an:List Nat} (o:Nat) (ho:o≤c.length)
  (e:φ id=some s) (e2:S.get id=.cells c t sz true an) (cs cs2:Array Value) (t2 t':TypeId) (hg:w.heap[s.b]? = some (.cells cs t' (0,0)))
  (hl2:cs2.size=cs.size) (hfit:c.length+news.length≤s.ext) (h1:∀ v∈news,v.oneCell'=true)
  (hold:∀ (i:Nat),i<s.base+c.length→cs2[i]? = cs[i]?) (hr:∀ (i:Nat) v,news[i]? = some v→∃ v',cs2[s.base+(c.length+i)]? = some v'∧Rel φ v v') :
  Sim B (φ.add S.next ⟨s.b,s.base+o,s.ext-o,sz⟩) (S.grow id c t sz an (c.drop o++news) t2) (w.setRow s.b cs2)∧
  Keep B φ S w (φ.add S.next ⟨s.b,s.base+o,s.ext-o,sz⟩) (S.grow id c t sz an (c.drop o++news) t2) (w.setRow s.b cs2):=by
 have hf:=h.fresh
 have hle:=Emb.le_add φ S.next ⟨s.b,s.base+o,s.ext-o,sz⟩ hf
 obtain ⟨hid,hsb⟩:=h.dom id s e
 have hne:id≠S.next:=by omega
 have hget:∀ j,(S.grow id c t sz an (c.drop o++news) t2).get j=if j=S.next then .cells (c.drop o++news) t2 sz true (id::an) else if j=id then .cells c t sz false an else S.get j:=by
  intro j
  unfold St.grow
  rw [St.get_alloc,St.get_put]
  rfl
 have hnx:(S.grow id c t sz an (c.drop o++news) t2).next=S.next+1:=rfl
 obtain ⟨a1,a2,a3,cs0,t0,a4,a5,a6⟩:=h.blk id s c t sz true an e e2
 have a4:=a4.mine
 rw [hg]at a4
 simp only [Option.some.injEq,Obj.cells.injEq]at a4
 obtain ⟨rfl,rfl,-⟩:=a4
 have hcell:∀ j sj cj tj zj mj aj,j≠id→φ j=some sj→S.get j=.cells cj tj zj mj aj→
   ∃ cs' t'',Row (w.setRow s.b cs2) sj.b mj cs' t''∧sj.base+sj.ext≤cs'.size∧∀ i v,cj[i]? = some v→v.oneCell'=true∧∃ v',cs'[sj.base+i]? = some v'∧Rel φ v v':=by
  intro j sj cj tj zj mj aj hj ej e3
  obtain ⟨b1,b2,b3,csj,tj',b4,b5,b6⟩:=h.blk j sj cj tj zj mj aj ej e3
  by_cases hb:sj.b=s.b
  ·have hap:=(h.apart id s c t sz an e e2 j sj cj tj zj mj aj hj ej e3 hb).2
   obtain ⟨fz,b4,-⟩:=b4
   rw [hb,hg]at b4
   simp only [Option.some.injEq,Obj.cells.injEq]at b4
   obtain ⟨rfl,rfl,-⟩:=b4
   refine ⟨cs2,t',by rw [hb];exact Row.of (setRow_heap w s.b cs cs2 t' (0,0) hg),by omega,fun i v hv=>?_⟩
   obtain ⟨c1,v',c2,c3⟩:=b6 i v hv
   have hi:i<cj.length:=(List.getElem?_eq_some_iff.1 hv).1
   exact ⟨c1,v',by rw [hold _ (by omega)];exact c2,c3⟩
  ·exact ⟨csj,tj',b4.same (setRow_other w s.b sj.b cs2 hb),b5,b6⟩
 have hself:∀ i v,c[i]? = some v→v.oneCell'=true∧∃ v',cs2[s.base+i]? = some v'∧Rel φ v v':=by
  intro i v hv
  obtain ⟨c1,v',c2,c3⟩:=a6 i v hv
  have hi:i<c.length:=(List.getElem?_eq_some_iff.1 hv).1
  exact ⟨c1,v',by rw [hold _ (by omega)];exact c2,c3⟩
 constructor
 ·refine ⟨fun j sj ej=>?_,(fun j hj=>by
   rw [hnx]at hj
   rw [hget,if_neg (by omega)]
   have h1:=h.gone j (by omega)
   by_cases e3:j=id
   ·subst e3;rw [e2]at h1;cases h1
   ·rw [if_neg e3];exact h1),fun j sj cj tj zj mj aj ej e3=>?_,fun j sj cj tj zj aj ej e3 k sk ck tk zk mk ak hk ek e4 e5=>?_,h.loops.of hle (fun j o e3=>by
    rw [hget]at e3
    split at e3
    ·cases e3
    ·split at e3
     ·cases e3
     ·exact e3) (fun j sj o ej e3=>by
    rw [hget]at e3
    split at e3
    ·cases e3
    ·rename_i hj
     rwa [Emb.add_other _ _ hj]at ej) (fun b r hnr hb=>by rw [setRow_other w s.b b cs2 (fun eb=>by rw [eb,hg]at hb;rw [← Option.some.inj hb]at hnr;cases hnr)];exact hb) fun b o2 hb ho=>by rw [setRow_other w s.b b cs2 (fun eb=>by have:=a3 rfl;omega)];exact ho⟩
  ·rw [hnx]
   by_cases hj:j=S.next
   ·subst hj
    rw [Emb.add_same]at ej
    obtain rfl:=Option.some.inj ej
    simpa using hsb
   ·rw [Emb.add_other _ _ hj]at ej
    have:=h.dom j sj ej
    simp;omega
  ·rw [hget]at e3
   by_cases hj:j=S.next
   ·subst hj
    rw [if_pos rfl]at e3
    rw [Emb.add_same]at ej
    obtain rfl:=Option.some.inj ej
    obtain ⟨rfl,rfl,rfl,rfl,rfl⟩:=Blk.cells.inj e3
    refine ⟨rfl,by simp;omega,fun _=>a3 rfl,cs2,t',Row.of (setRow_heap w s.b cs cs2 t' (0,0) hg),by simp;omega,fun i v hv=>?_⟩
    by_cases hi:i<(c.drop o).length
    ·rw [List.getElem?_append_left hi,List.getElem?_drop]at hv
     obtain ⟨c1,v',c2,c3⟩:=hself _ v hv
     exact ⟨c1,v',by simpa [Nat.add_assoc] using c2,c3.mono hle⟩
    ·rw [List.getElem?_append_right (by omega)]at hv
     refine ⟨h1 v (List.mem_of_getElem? hv),?_⟩
     obtain ⟨v',c2,c3⟩:=hr _ v hv
     refine ⟨v',?_,c3.mono hle⟩
     rw [← c2]
     congr 1
     simp only [List.length_drop]at hi ⊢
     omega
   ·rw [if_neg hj]at e3
    rw [Emb.add_other _ _ hj]at ej
    by_cases hji:j=id
    ·subst hji
     rw [if_pos rfl]at e3
     obtain ⟨rfl,rfl,rfl,rfl,rfl⟩:=Blk.cells.inj e3
     rw [e]at ej
     obtain rfl:=Option.some.inj ej
     refine ⟨a1,a2,fun x=>(Bool.noConfusion x),cs2,t',Row.of (setRow_heap w s.b cs cs2 t' (0,0) hg),by omega,fun i v hv=>?_⟩
     obtain ⟨c1,v',c2,c3⟩:=hself i v hv
     exact ⟨c1,v',c2,c3.mono hle⟩
    ·rw [if_neg hji]at e3
     obtain ⟨b1,b2,b3,-⟩:=h.blk j sj cj tj zj mj aj ej e3
     obtain ⟨cs',t'',d1,d2,d3⟩:=hcell j sj cj tj zj mj aj hji ej e3
     refine ⟨b1,b2,b3,cs',t'',d1,d2,fun i v hv=>?_⟩
     obtain ⟨c1,v',c2,c3⟩:=d3 i v hv
     exact ⟨c1,v',c2,c3.mono hle⟩
  ·rw [hget]at e3 e4
   by_cases hj:j=S.next
   ·subst hj
    rw [if_pos rfl]at e3
    rw [Emb.add_same]at ej
    obtain rfl:=Option.some.inj ej
    obtain ⟨rfl,rfl,rfl,-,rfl⟩:=Blk.cells.inj e3
    rw [if_neg hk]at e4
    rw [Emb.add_other _ _ hk]at ek
    by_cases hki:k=id
    ·subst hki
     rw [if_pos rfl]at e4
     obtain ⟨rfl,rfl,rfl,rfl,rfl⟩:=Blk.cells.inj e4
     rw [e]at ek
     obtain rfl:=Option.some.inj ek
     exact ⟨⟨List.mem_cons_self,rfl⟩,by simp;omega⟩
    ·rw [if_neg hki]at e4
     have:=h.apart id s c t sz an e e2 k sk ck tk zk mk ak hki ek e4 e5
     exact ⟨⟨List.mem_cons_of_mem _ this.1.1,this.1.2⟩,by simp;omega⟩
   ·rw [if_neg hj]at e3
    rw [Emb.add_other _ _ hj]at ej
    by_cases hji:j=id
    ·subst hji
     rw [if_pos rfl]at e3
     cases e3
    ·rw [if_neg hji]at e3
     by_cases hkn:k=S.next
     ·subst hkn
      rw [Emb.add_same]at ek
      obtain rfl:=Option.some.inj ek
      exact absurd (h.apart id s c t sz an e e2 j sj cj tj zj true aj hji ej e3 e5.symm).1.2 (by simp)
     ·rw [if_neg hkn]at e4
      rw [Emb.add_other _ _ hkn]at ek
      by_cases hki:k=id
      ·subst hki
       rw [if_pos rfl]at e4
       obtain ⟨rfl,rfl,rfl,rfl,rfl⟩:=Blk.cells.inj e4
       exact ⟨⟨(h.apart j sj cj tj zj aj ej e3 k sk c t sz true an hk ek e2 e5).1.1,rfl⟩,(h.apart j sj cj tj zj aj ej e3 k sk c t sz true an hk ek e2 e5).2⟩
      ·rw [if_neg hki]at e4
       exact h.apart j sj cj tj zj aj ej e3 k sk ck tk zk mk ak hk ek e4 e5
 ·refine ⟨hle,fun j sj ej e3=>?_,fun j sj ej e3=>?_,by simp,by rw [hnx];omega,rfl,rfl,rfl,fun b hb hno=>?_,fun j sj ej e3 hlt=>?_⟩
  ·by_cases hj:j=S.next
   ·subst hj
    rw [Emb.add_same]at ej
    obtain rfl:=Option.some.inj ej
    exact .inr ⟨id,s,e,rfl,wr_cells e2⟩
   ·rw [Emb.add_other _ _ hj,e3]at ej;cases ej
  ·by_cases hj:j=S.next
   ·omega
   ·rw [Emb.add_other _ _ hj,e3]at ej;cases ej
  ·refine setRow_other w s.b b cs2 (fun eb=>?_)
   have:=hno id s e eb.symm
   rw [wr_cells e2]at this
   cases this
  ·rw [hget]at e3
   by_cases hj:j=S.next
   ·subst hj
    rw [Emb.add_same]at ej
    obtain rfl:=Option.some.inj ej
    exact ⟨id,s,e,rfl,wr_cells e2⟩
   ·rw [if_neg hj]at e3
    rw [Emb.add_other _ _ hj]at ej
    by_cases hji:j=id
    ·subst hji
     rw [if_pos rfl]at e3
     cases e3
    ·rw [if_neg hji]at e3
     exact ⟨j,sj,ej,rfl,e3⟩
end Go.Proofs.YtghcggoodgfaoaaGreatDoor

set_option linter.unusedVariables false
namespace Go.Proofs.YtghcggoodgfaoaaGreatDoor
open Go Go.RowKit
section
variable {B:Nat} {φ:Emb} {S:St} {w:World}
theorem Sim.allocOther (h:Sim B φ S w) (o:Obj):Sim B φ S (w.alloc o)∧Keep B φ S w φ S (w.alloc o):=by
 have hk:∀ k,k<w.heap.size→(w.alloc o).heap[k]? = w.heap[k]?:=fun k hk=>by rw [heap_alloc',if_neg (by omega)]
 constructor
 ·refine ⟨fun id s e=>⟨(h.dom id s e).1,by have:=(h.dom id s e).2;simp;omega⟩,h.gone,fun id s c t sz m an e e2=>?_,h.apart,h.loops.of (Emb.le.refl _) (fun _ _ e=>e) (fun _ _ _ e _=>e) (fun b r _ e=>by rw [hk b (Array.getElem?_eq_some_iff.1 e).1];exact e) fun b o2 _ e=>by rw [hk b (Array.getElem?_eq_some_iff.1 e).1];exact e⟩
  obtain ⟨a1,a2,a3,cs,t',a4,a5⟩:=h.blk id s c t sz m an e e2
  exact ⟨a1,a2,a3,cs,t',a4.same (hk _ (h.dom id s e).2),a5⟩
 ·exact ⟨Emb.le.refl _,fun _ _ h h'=>(Option.some_ne_none _ (h.symm.trans h')).elim,fun _ _ h h'=>(Option.some_ne_none _ (h.symm.trans h')).elim,by simp,Nat.le_refl _,rfl,rfl,rfl,fun b hb _=>hk b hb,fun id s h1 h2 _=>⟨id,s,h1,rfl,h2⟩⟩
theorem Sim.objNew (h:Sim B φ S w) (hB:B≤w.heap.size) {o:AObj} {r:Obj} (hr:ObjR φ o r) :
  Sim B (φ.add S.next ⟨w.heap.size,0,0,0⟩) (S.alloc (.obj o)) (w.alloc r)∧Keep B φ S w (φ.add S.next ⟨w.heap.size,0,0,0⟩) (S.alloc (.obj o)) (w.alloc r):=by
 have hf:=h.fresh
 have hle:=Emb.le_add φ S.next ⟨w.heap.size,0,0,0⟩ hf
 have hk:∀ k,k<w.heap.size→(w.alloc r).heap[k]? = w.heap[k]?:=fun k hk=>by rw [heap_alloc',if_neg (by omega)]
 have hdom:∀ id s,(φ.add S.next ⟨w.heap.size,0,0,0⟩) id=some s→(id=S.next∧s=⟨w.heap.size,0,0,0⟩)∨(id≠S.next∧φ id=some s):=by
  intro id s e
  by_cases hi:id=S.next
  ·subst hi
   rw [Emb.add_same]at e
   exact .inl ⟨rfl,(Option.some.inj e).symm⟩
  ·rw [Emb.add_other _ _ hi]at e
   exact .inr ⟨hi,e⟩
 constructor
 ·refine ⟨fun id s e=>?_,fun id hi=>?_,fun id s c t sz m an e e2=>?_,fun id s c t sz an e e2 j sj cj tj zj mj aj hj ej e3 e4=>?_,h.loops.1.of (Nat.le_refl _) hle.tab (fun b o2 _ _ e=>by rw [hk b (Array.getElem?_eq_some_iff.1 e).1];exact e),fun id s o2 e e2=>?_⟩
  ·rcases hdom id s e with ⟨rfl,rfl⟩|⟨hi,e⟩
   ·simp
   ·have:=h.dom id s e
    simp;omega
  ·simp only [St.next_alloc]at hi
   rw [St.get_alloc,if_neg (by omega)]
   exact h.gone id (by omega)
  ·rw [St.get_alloc]at e2
   rcases hdom id s e with ⟨rfl,rfl⟩|⟨hi,e⟩
   ·rw [if_pos rfl]at e2;cases e2
   ·rw [if_neg hi]at e2
    obtain ⟨a1,a2,a3,cs,t',a4,a5,a6⟩:=h.blk id s c t sz m an e e2
    refine ⟨a1,a2,a3,cs,t',a4.same (hk _ (h.dom id s e).2),a5,fun i v hv=>?_⟩
    obtain ⟨b1,v',b2,b3⟩:=a6 i v hv
    exact ⟨b1,v',b2,b3.mono hle⟩
  ·rw [St.get_alloc]at e2 e3
   rcases hdom id s e with ⟨rfl,rfl⟩|⟨hi,e⟩
   ·rw [if_pos rfl]at e2;cases e2
   ·rcases hdom j sj ej with ⟨rfl,rfl⟩|⟨hj2,ej⟩
    ·rw [if_pos rfl]at e3;cases e3
    ·rw [if_neg hi]at e2
     rw [if_neg hj2]at e3
     exact h.apart id s c t sz an e e2 j sj cj tj zj mj aj hj ej e3 e4
  ·rw [St.get_alloc]at e2
   rcases hdom id s e with ⟨rfl,rfl⟩|⟨hi,e⟩
   ·rw [if_pos rfl]at e2
    obtain rfl:=Blk.obj.inj e2
    refine ⟨⟨hB,rfl⟩,⟨r,by rw [heap_alloc',if_pos rfl],hr.mono hle⟩,fun j sj o3 hj ej e3=>?_⟩
    rcases hdom j sj ej with ⟨rfl,_⟩|⟨hj2,ej⟩
    ·exact absurd rfl hj
    ·have:=(h.dom j sj ej).2
     simp;omega
   ·rw [if_neg hi]at e2
    obtain ⟨a1,⟨r',a2,a3⟩,a4⟩:=h.loops.2 id s o2 e e2
    refine ⟨a1,⟨r',by rw [hk _ (h.dom id s e).2];exact a2,a3.mono hle⟩,fun j sj o3 hj ej e3=>?_⟩
    rw [St.get_alloc]at e3
    rcases hdom j sj ej with ⟨rfl,rfl⟩|⟨hj2,ej⟩
    ·have:=(h.dom id s e).2
     simp;omega
    ·rw [if_neg hj2]at e3
     exact a4 j sj o3 hj ej e3
 ·refine ⟨hle,fun id s e e2=>?_,fun id s e e2=>?_,by simp,by simp,rfl,rfl,rfl,fun b hb _=>hk b hb,fun id s e e2 hlt=>?_⟩
  ·rcases hdom id s e with ⟨rfl,rfl⟩|⟨hi,e⟩
   ·exact .inl (Nat.le_refl _)
   ·rw [e2]at e;cases e
  ·rcases hdom id s e with ⟨rfl,rfl⟩|⟨hi,e⟩
   ·exact Nat.le_refl _
   ·rw [e2]at e;cases e
  ·rcases hdom id s e with ⟨rfl,rfl⟩|⟨hi,e⟩
   ·simp at hlt
   ·rw [St.get_alloc,if_neg hi]at e2
    exact ⟨id,s,e,rfl,e2⟩
theorem Sim.loopNew (h:Sim B φ S w) (hB:B≤w.heap.size) {env:Array Value} {L:LoopC} {r:Loop} (hr:LoopR φ env L none r) :
  Sim B (φ.add S.next ⟨w.heap.size,0,0,0⟩) (S.alloc (.loop env L none)) (w.alloc (.loop r))∧Keep B φ S w (φ.add S.next ⟨w.heap.size,0,0,0⟩) (S.alloc (.loop env L none)) (w.alloc (.loop r)):=
 h.objNew hB (o:=.loop env L none) ⟨r,rfl,hr⟩
def NoWr (φ:Emb) (S:St) (l:Nat):Prop:=∀ id s,φ id=some s→s.b=l→(S.get id).wr=false
theorem NoWr.keep {φ':Emb} {S':St} {w':World} {l:Nat} (h:NoWr φ S l) (hl:l<w.heap.size) (hk:Keep B φ S w φ' S' w'):NoWr φ' S' l:=by
 intro id s e e2
 cases h3:(S'.get id).wr with
 | false=>rfl
 | true=>
  obtain ⟨id0,s0,h4,h5,h6⟩:=hk.mine id s e h3 (by omega)
  rw [h id0 s0 h4 (h5.trans e2)]at h6
  cases h6
theorem Sim.putOther (h:Sim B φ S w) {l:Nat} {o:Obj} (o':Obj) (hl:w.heap[l]? = some o) (hc:isRow o=false) (hn:NoWr φ S l) (hlB:B≤l∨isObj o=false):Sim B φ S (w.putObj l o'):=by
 refine ⟨fun id s e=>by have:=h.dom id s e;simpa using this,h.gone,fun id s c t sz m an e e2=>?_,h.apart,h.loops.1.of (Nat.le_refl _) rfl (fun b o2 hb hk e=>by
   rw [World.putObj_heap_other]
   ·exact e
   ·intro eb
    rcases hlB with h1 | h1
    ·omega
    ·rw [eb,hl]at e
     obtain rfl:=Option.some.inj e
     rcases hk with hk | hk
     ·rw [hc]at hk;cases hk
     ·rw [h1]at hk;cases hk),fun id s o2 e e2=>?_⟩
 ·obtain ⟨a1,a2,a3,cs,t',⟨fr,a4,a5⟩,a6⟩:=h.blk id s c t sz m an e e2
  refine ⟨a1,a2,a3,cs,t',⟨fr,?_,a5⟩,a6⟩
  rw [World.putObj_heap_other]
  ·exact a4
  ·intro eb
   rw [eb,hl]at a4
   rw [Option.some.inj a4]at hc
   cases hc
 ·obtain ⟨a1,⟨r,a2,a3⟩,a4⟩:=h.loops.2 id s o2 e e2
  refine ⟨a1,⟨r,?_,a3⟩,a4⟩
  rw [World.putObj_heap_other]
  ·exact a2
  ·intro eb
   have:=hn id s e eb
   rw [wr_obj e2]at this
   cases this
theorem Sim.objGone (h:Sim B φ S w) {id:Nat} {s:Spot} {o:AObj} (e:φ id=some s) (e2:S.get id=.obj o) :
  Sim B φ (S.put id .gone) w∧Keep B φ S w φ (S.put id .gone) w∧NoWr φ (S.put id .gone) s.b:=by
 have hS:∀ j,(S.put id .gone).get j=if j=id then .gone else S.get j:=fun j=>St.get_put S id .gone j
 have hwr:∀ j,((S.put id .gone).get j).wr=true→(S.get j).wr=true:=by
  intro j hj
  rw [hS]at hj
  split at hj
  ·cases hj
  ·exact hj
 obtain ⟨a1,⟨r,a2,a3⟩,a4⟩:=h.loops.2 id s o e e2
 refine ⟨⟨fun j sj ej=>by simpa using h.dom j sj ej,fun j hj=>?_,fun j sj c t sz m an ej e3=>?_,fun j sj c t sz an ej e3 i si ci ti zi mi ai hi ei e4 e5=>?_,h.loops.of (Emb.le.refl _) (fun j o e3=>?_) (fun _ _ _ ej _=>ej) (fun _ _ _ hb=>hb) fun _ _ _ hb=>hb⟩,
  ⟨Emb.le.refl _,fun _ _ h h'=>(Option.some_ne_none _ (h.symm.trans h')).elim,fun _ _ h h'=>(Option.some_ne_none _ (h.symm.trans h')).elim,Nat.le_refl _,Nat.le_refl _,rfl,rfl,rfl,fun b hb hno=>rfl,fun j sj ej e3 hlt=>⟨j,sj,ej,rfl,hwr j e3⟩⟩,fun j sj ej eb=>?_⟩
 ·rw [hS];split
  ·rfl
  ·exact h.gone j (by simpa using hj)
 ·rw [hS]at e3
  split at e3
  ·cases e3
  ·exact h.blk j sj c t sz m an ej e3
 ·rw [hS]at e3 e4
  split at e3
  ·cases e3
  ·split at e4
   ·cases e4
   ·exact h.apart j sj c t sz an ej e3 i si ci ti zi mi ai hi ei e4 e5
 ·rw [hS]at e3
  split at e3
  ·cases e3
  ·exact e3
 ·rw [hS]
  split
  ·rfl
  ·rename_i hji
   cases hw:(S.get j).wr with
   | false=>rfl
   | true=>
    rcases wr_inv hw with ⟨c,t,sz,an,e3⟩|⟨o',e3⟩
    ·obtain ⟨_,_,_,cs,t',⟨fr,b4,_⟩,_⟩:=h.blk j sj c t sz true an ej e3
     rw [eb,a2]at b4
     have hnr:=a3.noRow
     rw [Option.some.inj b4]at hnr
     cases hnr
    ·exact absurd eb (a4 j sj o' hji ej e3)
theorem Sim.loopGone (h:Sim B φ S w) {id:Nat} {s:Spot} {env:Array Value} {L:LoopC} {pe:Option Ex} (e:φ id=some s) (e2:S.get id=.loop env L pe) :
  Sim B φ (S.put id .gone) w∧Keep B φ S w φ (S.put id .gone) w∧NoWr φ (S.put id .gone) s.b:=h.objGone e e2
theorem Sim.objBack (h:Sim B φ S w) {id:Nat} {s:Spot} {o:AObj} {r r':Obj} (e:φ id=some s) (hl:w.heap[s.b]? = some r) (hc:isRow r=false) (hn:NoWr φ S s.b) (hB:B≤s.b∧s.base=0) (hr:ObjR φ o r') :
  Sim B φ (S.put id (.obj o)) (w.putObj s.b r'):=by
 have hS:∀ j,(S.put id (.obj o)).get j=if j=id then .obj o else S.get j:=fun j=>St.get_put S id _ j
 have h1:=h.putOther r' hl hc hn (.inl hB.1)
 have hlt:s.b<w.heap.size:=(Array.getElem?_eq_some_iff.1 hl).1
 refine ⟨fun j sj ej=>by simpa using h1.dom j sj ej,fun j hj=>?_,fun j sj c t sz m an ej e3=>?_,fun j sj c t sz an ej e3 i si ci ti zi mi ai hi ei e4 e5=>?_,h1.loops.1,fun j sj o2 ej e3=>?_⟩
 ·rw [hS]
  have:=(h.dom id s e).1
  rw [if_neg (by simp at hj;omega)]
  exact h.gone j (by simpa using hj)
 ·rw [hS]at e3
  split at e3
  ·cases e3
  ·exact h1.blk j sj c t sz m an ej e3
 ·rw [hS]at e3 e4
  split at e3
  ·cases e3
  ·split at e4
   ·cases e4
   ·exact h1.apart j sj c t sz an ej e3 i si ci ti zi mi ai hi ei e4 e5
 ·have hother:∀ i si o3,φ i=some si→S.get i=.obj o3→si.b≠s.b:=by
   intro i si o3 ei e4 eb
   have:=hn i si ei eb
   rw [wr_obj e4]at this
   cases this
  rw [hS]at e3
  split at e3
  ·rename_i hj
   subst hj
   rw [e]at ej
   obtain rfl:=Option.some.inj ej
   obtain rfl:=Blk.obj.inj e3
   refine ⟨hB,⟨r',World.putObj_heap_same hlt,hr⟩,fun i si o3 hi ei e4=>?_⟩
   rw [hS,if_neg hi]at e4
   exact hother i si o3 ei e4
  ·rename_i hj
   obtain ⟨b1,b2,b3⟩:=h1.loops.2 j sj o2 ej e3
   refine ⟨b1,b2,fun i si o3 hi ei e4=>?_⟩
   rw [hS]at e4
   split at e4
   ·rename_i hii
    subst hii
    rw [e]at ei
    obtain rfl:=Option.some.inj ei
    exact (hother j sj o2 ej e3).symm
   ·exact b3 i si o3 hi ei e4
theorem Sim.loopBack (h:Sim B φ S w) {id:Nat} {s:Spot} {env:Array Value} {L:LoopC} {pe:Option Ex} {r r':Loop} (e:φ id=some s) (hl:w.heap[s.b]? = some (.loop r)) (hn:NoWr φ S s.b) (hB:B≤s.b∧s.base=0) (hr:LoopR φ env L pe r') :
  Sim B φ (S.put id (.loop env L pe)) (w.putObj s.b (.loop r')):=h.objBack e hl rfl hn hB ⟨r',rfl,hr⟩
theorem Keep.putObj {φ':Emb} {S':St} {w':World} (h:Keep B φ S w φ' S' w') {id0:Nat} {s0:Spot} (e:φ id0=some s0) (hw:(S.get id0).wr=true) (o:Obj):Keep B φ S w φ' S' (w'.putObj s0.b o):=
 ⟨h.le,h.place,h.new,by simpa using h.size,h.next,h.os,h.tape,h.output,(fun b hb hno=>by
  rw [World.putObj_heap_other]
  ·exact h.keep b hb hno
  ·intro eb
   have:=hno id0 s0 e eb.symm
   rw [hw]at this
   cases this),h.mine⟩
theorem Keep.putNew {φ':Emb} {S':St} {w':World} (h:Keep B φ S w φ' S' w') {D:Nat} (hD:w.heap.size≤D) (o:Obj):Keep B φ S w φ' S' (w'.putObj D o):=
 ⟨h.le,h.place,h.new,by simpa using h.size,h.next,h.os,h.tape,h.output,(fun b hb hno=>by
  rw [World.putObj_heap_other (by omega)]
  exact h.keep b hb hno),h.mine⟩
theorem Keep.setBlk {φ':Emb} {S':St} {w':World} (h:Keep B φ S w φ' S' w') {id:Nat} {s:Spot} (e:φ id=some s) (hw:(S.get id).wr=true) (b:Blk):Keep B φ S w φ' (S'.put id b) w':=
 ⟨h.le,h.place,h.new,h.size,h.next,h.os,h.tape,h.output,h.keep,fun j sj ej e2 hlt=>by
  by_cases hj:j=id
  ·subst hj
   have:=h.le _ _ e
   rw [ej]at this
   obtain rfl:=Option.some.inj this
   exact ⟨j,sj,e,rfl,hw⟩
  ·rw [St.get_put,if_neg hj]at e2
   exact h.mine j sj ej e2 hlt⟩
end
end Go.Proofs.YtghcggoodgfaoaaGreatDoor

namespace Go.Proofs.YtghcggoodgfaoaaGreatDoor
open Go Go.RowKit
def St.width (S:St) (id:Nat):Option Nat:=
 match S.get id with
 | .cells _ _ z _ _=>some z
 | _=>none
def St.rd (S:St) (id o n:Nat):Option (List Value):=
 match S.get id with
 | .cells c _ _ _ _=>if o+n≤c.length then some ((c.drop o).take n) else none
 | _=>none
def xbinI (op:BinOp) (k yk:IntKind) (a b:Int):Option Value:=
 match op with
 | .shl=>if b<0 then none else some (.int k (k.wrap (a*2 ^ min b.toNat k.bits)))
 | .shr=>if b<0 then none else some (.int k (a.fdiv (2 ^ min b.toNat k.bits)))
 | .add=>if k=yk then some (.int k (k.wrap (a+b))) else none
 | .sub=>if k=yk then some (.int k (k.wrap (a-b))) else none
 | .mul=>if k=yk then some (.int k (k.wrap (a*b))) else none
 | .quo=>if k=yk∧b≠0 then some (.int k (k.wrap (a.tdiv b))) else none
 | .rem=>if k=yk∧b≠0 then some (.int k (a.tmod b)) else none
 | .and=>if k=yk then some (.int k (k.wrap (BitVec.ofInt k.bits a &&& BitVec.ofInt k.bits b).toNat)) else none
 | .or=>if k=yk then some (.int k (k.wrap (BitVec.ofInt k.bits a ||| BitVec.ofInt k.bits b).toNat)) else none
 | .xor=>if k=yk then some (.int k (k.wrap (BitVec.ofInt k.bits a ^^^ BitVec.ofInt k.bits b).toNat)) else none
 | .andNot=>if k=yk then some (.int k (k.wrap (BitVec.ofInt k.bits a &&& ~~~ BitVec.ofInt k.bits b).toNat)) else none
 | .eql=>if k=yk then some (.bool (a==b)) else none
 | .neq=>if k=yk then some (.bool (a != b)) else none
 | .lss=>if k=yk then some (.bool (decide (a<b))) else none
 | .leq=>if k=yk then some (.bool (decide (a≤b))) else none
 | .gtr=>if k=yk then some (.bool (decide (a > b))) else none
 | .geq=>if k=yk then some (.bool (decide (a ≥ b))) else none
def xbinS (op:BinOp) (a b:ByteArray):Option Value:=
 match op with
 | .add=>if a.size+b.size≤9223372036854775807 then some (.string (a++b)) else none
 | .eql=>some (.bool (a.toList==b.toList))
 | .neq=>some (.bool !(a.toList==b.toList))
 | .lss=>some (.bool (Op.bytesLess a.toList b.toList))
 | .leq=>some (.bool (Op.bytesLess a.toList b.toList||a.toList==b.toList))
 | .gtr=>some (.bool !(Op.bytesLess a.toList b.toList||a.toList==b.toList))
 | .geq=>some (.bool !(Op.bytesLess a.toList b.toList))
 | _=>none
def xbin (op:BinOp) (x y:Value):Option Value:=
 match x,y with
 | .int k a,.int yk b=>xbinI op k yk a b
 | .string a,.string b=>xbinS op a b
 | _,_=>none
def eq1:Nat→Value→Value→Option Bool
 | 0,.bool a,.bool b=>some (a==b)
 | 1,.int j a,.int k b=>if j=k then some (a==b) else none
 | 2,.string a,.string b=>some (a.toList==b.toList)
 | _,_,_=>none
def eqL:List Nat→List Value→List Value→Option Bool
 | [],[],[]=>some true
 | k::ks,a::x,b::y=>(eq1 k a b).bind fun r=>(eqL ks x y).map fun q=>r&&q
 | _,_,_=>none
def notIf (neg b:Bool):Bool:=if neg then !b else b
def bound (v:Option Value) (d:Nat):Option Nat:=
 match v with
 | none=>some d
 | some (.int _ i)=>if 0≤i then some i.toNat else none
 | _=>none
def splice (l:List Value) (o:Nat) (r:List Value):List Value:=l.take o++r++l.drop (o+r.length)
def fillL:List Value→List (Nat × Nat × Value)→Option (List Value)
 | l,[]=>some l
 | l,(off,sz,v)::r=>if v.cells.size=sz∧off+sz≤l.length then fillL (splice l off v.cells.toList) r else none
def one (l:List Value):Option Value:=
 match l with
 | [v]=>some v
 | _=>none
def part1 (agg:Bool) (l:List Value):Option Value:=if agg then some (.agg l.toArray) else one l
def allOne (l:List Value):Bool:=l.all (·.oneCell')
def St.elems (S:St) (esz:Nat):Value→Option (List Value)
 | .slice none 0 0=>some []
 | .slice (some ⟨id,o,none⟩) n _=>S.rd id o (n*esz)
 | _=>none
def vlen:Value→Option Nat
 | .slice _ n _=>some n
 | .string s=>some s.size
 | _=>none
def reach:Nat:=70368744177664
def xappend (e:TypeId) (esz bytes:Nat) (s x:Value) (S:St):Option (Value × St):=
 match S.elems esz x,vlen x with
 | some news,some m=>
  if m=0 then (match s with
   | .slice _ _ _=>some (s,S)
   | _=>none) else
  if allOne news&&decide (0<esz)&&decide (0<bytes) then
   match s with
   | .slice none 0 0=>if m*bytes≤reach then some (.slice (some ⟨S.next,0,none⟩) m m,S.alloc (.cells news e esz true [])) else none
   | .slice (some ⟨id,o,none⟩) n c=>
    match S.get id with
    | .cells cc t z true an=>
     if z=esz∧n=c∧o+n*esz=cc.length then
      (if (n+m)*bytes≤reach then some (.slice (some ⟨S.next,0,none⟩) (n+m) (n+m),S.grow id cc t z an (cc.drop o++news) e) else none)
     else if z=esz∧n+m≤c∧o+(n+m)*esz≤cc.length then some (.slice (some ⟨id,o,none⟩) (n+m) c,S.write id (splice cc (o+n*esz) news) t z an)
     else none
    | _=>none
   | _=>none
  else none
 | _,_=>none
def xcopy (esz:Nat) (d s:Value) (S:St):Option (Value × St):=
 match d,vlen s,S.elems esz s with
 | .slice a n _,some m,some src=>
  if min m n=0 then some (.int .i64 0,S) else
  match a with
  | some ⟨id,o,none⟩=>
   match S.get id with
   | .cells cc t z true an=>
    if o+(min m n)*esz≤cc.length∧allOne src=true then some (.int .i64 (min m n:Nat),S.write id (splice cc o (src.take ((min m n)*esz))) t z an) else none
   | _=>none
  | _=>none
 | _,_,_=>none
def rep (n:Nat) (z:List Value):List Value:=(List.replicate n z).flatten
def xclr (esz:Nat) (z:List Value) (x:Value) (S:St):Option (Value × St):=
 match x with
 | .slice none 0 0=>some (.tuple #[],S)
 | .slice (some ⟨id,o,none⟩) n _=>
  if n=0 then some (.tuple #[],S) else
  match S.get id with
  | .cells cc t zz true an=>if z.length=esz∧o+n*esz≤cc.length∧allOne z=true then some (.tuple #[],S.write id (splice cc o (rep n z)) t zz an) else none
  | _=>none
 | _=>none
def xminmax (mx:Bool):Int→IntKind→List Value→Option Value
 | a,k,[]=>some (.int k a)
 | a,k,.int j b::r=>if j=k then xminmax mx (if mx then (if b > a then b else a) else (if b<a then b else a)) k r else none
 | _,_,_=>none
abbrev Env:=Array Value
def Env.ev (env:Env):Operand→Value
 | .tmp t=>env.getD t undef
 | .const v=>v
 | .global g=>.pointer (some ⟨g,0,none⟩)
 | .func f=>.func (.func f) #[] #[]
def slFit (w:Option Nat) (esz l:Nat):Bool:=match w with
 | some z=>l==0||z==esz
 | none=>false
theorem slFit_inv {w:Option Nat} {esz l:Nat} (h:slFit w esz l=true):∃ z,w=some z∧l*esz=l*z:=by
 unfold slFit at h
 split at h
 ·rename_i z
  refine ⟨z,rfl,?_⟩
  simp only [Bool.or_eq_true,beq_iff_eq]at h
  rcases h with rfl | rfl<;>simp
 ·cases h
theorem slFit_self (z l:Nat):slFit (some z) z l=true:=by simp [slFit]
theorem slFit_zero (z esz:Nat):slFit (some z) esz 0=true:=by simp [slFit]
def slRes (S:St) (esz l h c:Nat):Option Addr→Option (Value × St)
 | none=>if c=0 then some (.slice none 0 0,S) else none
 | some ⟨id,o,none⟩=>if slFit (S.width id) esz l=true then some (.slice (some ⟨id,o+l*esz,none⟩) (h-l) (c-l),S) else none
 | _=>none
def keyC (agg:Bool) (v:Value):Option (List Value):=
 match agg,v with
 | true,.agg a=>some a.toList
 | true,_=>none
 | false,.agg _=>none
 | false,v=>some [v]
def xfind (ks:List Nat) (agg:Bool) (k:List Value):List (Value × Value × Nat)→Nat→Option (Option (Nat × Value))
 | [],_=>some none
 | e::r,i=>(keyC agg e.1).bind fun c=>(eqL ks k c).bind fun q=>if q then some (some (i,e.2.1)) else xfind ks agg k r (i+1)
def lookRes (z:Value) (ok:Bool) (r:Option (Nat × Value)):Value:=if ok then .tuple #[(r.map (·.2)).getD z,.bool r.isSome] else (r.map (·.2)).getD z
def keyOf (ks:List Nat) (agg:Bool) (k:Value):Option (List Value):=(keyC agg k).bind fun c=>if c.length=ks.length then some c else none
def isNilF:Value→Option Bool
 | .nilFunc=>some true
 | .func (.func _) _ _=>some false
 | _=>none
def xextra (e:EOp) (l:List Value) (S:St):Option (Value × St):=
 match e,l with
 | .mkMap,_=>some (.map (some S.next),S.alloc (.map [] 0))
 | .lookup ks agg z ok,[x,k]=>(keyOf ks agg k).bind fun c=>match x with
  | .map none=>some (lookRes z ok none,S)
  | .map (some id)=>match S.get id with
   | .obj (.map es _)=>(xfind ks agg c es 0).map fun r=>(lookRes z ok r,S)
   | _=>none
  | _=>none
 | .mapSet ks agg,[x,k,v]=>(keyOf ks agg k).bind fun c=>match x with
  | .map (some id)=>match S.get id with
   | .obj (.map es cl)=>(xfind ks agg c es 0).map fun r=>match r with
    | some (i,_)=>(undef,S.put id (.map (es.modify i fun e=>(k,v,e.2.2)) cl))
    | none=>(undef,S.put id (.map (es++[(k,v,cl)]) (cl+1)))
   | _=>none
  | _=>none
 | .mapEnt ks agg z,[x,k]=>(keyOf ks agg k).bind fun c=>match x with
  | .map (some id)=>match S.get id with
   | .obj (.map es cl)=>(xfind ks agg c es 0).map fun r=>match r with
    | some (i,v)=>(.tuple #[v,.int .i64 (((es[i]?).map (·.2.2)).getD 0:Nat)],S.put id (.map (es.modify i fun e=>(k,e.2.1,e.2.2)) cl))
    | none=>(.tuple #[z,.int .i64 (cl:Nat)],S.put id (.map (es++[(k,z,cl)]) (cl+1)))
   | _=>none
  | _=>none
 | .entSet,[.map (some id),.int .i64 b,v]=>match S.get id with
  | .obj (.map es cl)=>match es.findIdx? fun e=>((e.2.2:Nat):Int)==b with
   | some i=>some (undef,S.put id (.map (es.modify i fun e=>(e.1,v,e.2.2)) cl))
   | none=>none
  | _=>none
 | .mapDel ks agg,[x,k]=>(keyOf ks agg k).bind fun c=>match x with
  | .map none=>some (.tuple #[],S)
  | .map (some id)=>match S.get id with
   | .obj (.map es cl)=>(xfind ks agg c es 0).map fun r=>match r with
    | some (i,_)=>(.tuple #[],S.put id (.map (es.eraseIdx i) cl))
    | none=>(.tuple #[],S.put id (.map es cl))
   | _=>none
  | _=>none
 | .mapLen,[.map none]=>some (.int .i64 0,S)
 | .mapLen,[.map (some id)]=>match S.get id with
  | .obj (.map es _)=>some (.int .i64 es.length,S)
  | _=>none
 | .iterStr,[.string s]=>some (.pointer (some ⟨S.next,0,none⟩),S.alloc (.iter s 0))
 | .nextStr,[.pointer (some ⟨id,0,none⟩)]=>match S.get id with
  | .obj (.iter s p)=>if p<s.size then some (.tuple #[.bool true,.int .i64 p,.int .i32 (Utf8.decode s p).1],S.put id (.iter s (p+(Utf8.decode s p).2)))
   else some (.tuple #[.bool false],S)
  | _=>none
 | .iterMap,[.map none]=>some (.pointer (some ⟨S.next,0,none⟩),S.alloc (.mapIter none 0 [] 0))
 | .iterMap,[.map (some id)]=>match S.get id with
  | .obj (.map _ cl)=>some (.pointer (some ⟨S.next,0,none⟩),S.alloc (.mapIter (some id) cl [] cl))
  | _=>none
 | .entMap,[.pointer (some ⟨id,0,none⟩)]=>match S.get id with
  | .obj (.mapIter (some m) _ seen last)=>match S.get m with
   | .obj (.map es cl)=>if cl=last then seen.getLast?.bind fun s=>(es.find? fun e=>e.2.2==s).map fun e=>(.tuple #[e.1,e.2.1],S) else none
   | _=>none
  | _=>none
 | .capNil,[.slice none 0 0]=>some (.int .i64 0,S)
 | .nilF neg,[x,.nilFunc]=>(isNilF x).map fun b=>(.bool (notIf neg b),S)
 | .gload,[]=>if gOn then some (.chan (some 0),S) else none
 | .lookG z ok,[.chan (some 0),.int .i64 n]=>if gOn then some (lookRes z ok ((gTab.lookup n).map fun f=>(0,.func (.func f) #[] #[])),S) else none
 | _,_=>none
def xop (o:XOp) (ρ:Operand→Value) (S:St):Option (Value × St):=
 match o with
 | .mv x=>some (ρ x,S)
 | .pick c a b=>match ρ c with
  | .bool q=>some (if q then ρ a else ρ b,S)
  | _=>none
 | .box t x=>if allOne (ρ x).cells.toList then some (.pointer (some ⟨S.next,0,none⟩),S.alloc (.cells (ρ x).cells.toList t (ρ x).cells.size true [])) else none
 | .zero t z=>some (.pointer (some ⟨S.next,0,none⟩),S.alloc (.cells z.cells.toList t z.cells.size true []))
 | .load agg sz x=>match ρ x with
  | .pointer (some ⟨id,o,none⟩)=>(S.rd id o sz).bind fun c=>(part1 agg c).map fun v=>(v,S)
  | _=>none
 | .store sz a x=>match ρ a with
  | .pointer (some ⟨id,o,none⟩)=>match S.get id with
   | .cells c t z true an=>if (ρ x).cells.size=sz∧o+sz≤c.length∧allOne (ρ x).cells.toList=true then some (undef,S.write id (splice c o (ρ x).cells.toList) t z an) else none
   | _=>none
  | _=>none
 | .nilck x=>match ρ x with
  | .pointer (some ⟨id,o,none⟩)=>some (.pointer (some ⟨id,o,none⟩),S)
  | .func (.func f) a b=>some (.func (.func f) a b,S)
  | .iface t v=>some (.iface t v,S)
  | _=>none
 | .bin op x y=>(xbin op (ρ x) (ρ y)).map fun v=>(v,S)
 | .eqb neg x y=>match ρ x,ρ y with
  | .bool a,.bool b=>some (.bool (notIf neg (a==b)),S)
  | _,_=>none
 | .eqf ks neg x y=>match ρ x,ρ y with
  | .agg a,.agg b=>(eqL ks a.toList b.toList).map fun r=>(.bool (notIf neg r),S)
  | _,_=>none
 | .eqp neg x y=>match ρ x,ρ y with
  | .pointer p,.pointer none=>some (.bool (notIf neg p.isNone),S)
  | _,_=>none
 | .eqs neg x y=>match ρ x,ρ y with
  | .slice p _ _,.slice none _ _=>some (.bool (notIf neg p.isNone),S)
  | _,_=>none
 | .un op x=>match op,ρ x with
  | .neg,.int k n=>some (.int k (k.wrap (0-n)),S)
  | .not,.bool b=>some (.bool !b,S)
  | _,_=>none
 | .cvi k x=>match ρ x with
  | .int _ n=>some (.int k (k.wrap n),S)
  | _=>none
 | .cvs x=>match ρ x with
  | .string s=>some (.string s,S)
  | _=>none
 | .mkIface t x=>some (.iface t (ρ x),S)
 | .mkFunc f a b=>some (.func (.func f) (a.map ρ) (b.map ρ),S)
 | .mkSlice e esz bytes z l c=>match ρ l,ρ c with
  | .int _ l,.int _ c=>if 0≤l∧l≤c∧bytes*c.toNat≤reach∧0<bytes∧z.length=esz∧allOne z=true then
    some (.slice (some ⟨S.next,0,none⟩) l.toNat c.toNat,S.alloc (.cells (rep c.toNat z) e esz true [])) else none
  | _,_=>none
 | .sl esz x lo hi=>match ρ x with
  | .slice a n c=>match bound (lo.map ρ) 0,bound (hi.map ρ) n with
   | some l,some h=>if l≤h∧h≤c then
     slRes S esz l h c a else none
   | _,_=>none
  | _=>none
 | .slStr x lo hi=>match ρ x with
  | .string s=>match bound (lo.map ρ) 0,bound (hi.map ρ) s.size with
   | some l,some h=>if l≤h∧h≤s.size then some (.string (s.extract l h),S) else none
   | _,_=>none
  | _=>none
 | .fa off x=>match ρ x with
  | .pointer (some ⟨id,o,none⟩)=>some (.pointer (some ⟨id,o+off,none⟩),S)
  | _=>none
 | .fld agg sz off x=>match ρ x with
  | .agg a=>if off+sz≤a.size then (part1 agg ((a.toList.drop off).take sz)).map fun v=>(v,S) else none
  | _=>none
 | .ia esz x i=>match ρ x,ρ i with
  | .slice (some ⟨id,o,none⟩) n _,.int _ i=>if 0≤i∧i<n then some (.pointer (some ⟨id,o+i.toNat*esz,none⟩),S) else none
  | _,_=>none
 | .iaArr n esz x i=>match ρ x,ρ i with
  | .pointer (some ⟨id,o,none⟩),.int _ i=>if 0≤i∧i<n then some (.pointer (some ⟨id,o+i.toNat*esz,none⟩),S) else none
  | _,_=>none
 | .idx n agg esz x i=>match ρ x,ρ i with
  | .agg a,.int _ i=>if 0≤i∧i<n∧i.toNat*esz+esz≤a.size then (part1 agg ((a.toList.drop (i.toNat*esz)).take esz)).map fun v=>(v,S) else none
  | _,_=>none
 | .idxStr x i=>match ρ x,ρ i with
  | .string s,.int _ i=>if 0≤i then (s[i.toNat]?).map fun b=>(.int .u8 b.toNat,S) else none
  | _,_=>none
 | .ext x i=>match ρ x with
  | .tuple a=>(a[i]?).map fun v=>(v,S)
  | _=>none
 | .build z parts=>(fillL z (parts.map fun p=>(p.1,p.2.1,ρ p.2.2))).map fun l=>(.agg l.toArray,S)
 | .buildSlice e esz n z parts=>if z.length=esz then (fillL (rep n z) (parts.map fun p=>(p.1,p.2.1,ρ p.2.2))).bind fun l=>if allOne l then some (.slice (some ⟨S.next,0,none⟩) n n,S.alloc (.cells l e esz true [])) else none else none
 | .len x=>match ρ x with
  | .slice _ n _=>some (.int .i64 n,S)
  | _=>none
 | .lenStr x=>match ρ x with
  | .string s=>some (.int .i64 s.size,S)
  | _=>none
 | .append e esz bytes s x=>xappend e esz bytes (ρ s) (ρ x) S
 | .copy esz d s=>xcopy esz (ρ d) (ρ s) S
 | .clr esz z x=>xclr esz z (ρ x) S
 | .minmax mx x l=>match ρ x with
  | .int k a=>(xminmax mx a k (l.map ρ)).map fun v=>(v,S)
  | _=>none
 | .call _ _=>none
 | .callv _ _=>none
 | .extra e l=>xextra e (l.map ρ) S
end Go.Proofs.YtghcggoodgfaoaaGreatDoor

namespace Go.Proofs.YtghcggoodgfaoaaGreatDoor
open Go Go.RowKit
def aggD:TypeDesc→Bool
 | .struct _=>true
 | .array _ _=>true
 | _=>false
theorem allOne_iff {l:List Value}:allOne l=true↔∀ v∈l,v.oneCell'=true:=by simp [allOne]
def OutV (P:Program) (B:Nat) (φ:Emb) (S:St) (w:World) (s:Sem Value) (v:Value) (S':St):Prop:=
 ∃ φ' v' w',s.run P w=.ok v' w'∧Rel φ' v v'∧Sim B φ' S' w'∧Keep B φ S w φ' S' w'
section
variable {P:Program} {B:Nat} {φ:Emb} {S:St} {w:World}
theorem OutV.same {s:Sem Value} {v v':Value} (hs:Sim B φ S w) (h:s.run P w=.ok v' w) (hr:Rel φ v v'):OutV P B φ S w s v S:=
 ⟨φ,v',w,h,hr,hs,Keep.refl _ _ _ _⟩
theorem rd_sound (hs:Sim B φ S w) {id o n:Nat} {s:Spot} {c:List Value} (e:φ id=some s) (h:S.rd id o n=some c) :
  c.length=n∧∃ c',RelL φ c c'∧(∀ v∈c',v.oneCell'=true)∧(∀ v∈c,v.oneCell'=true)∧∀ j v,c'[j]? = some v→w.cell? ⟨s.b,s.base+o+j,none⟩=some v:=by
 unfold St.rd at h
 cases hb:S.get id with
 | gone=>rw [hb]at h;cases h
 | obj o=>rw [hb]at h;cases h
 | cells cc t z m an=>
  rw [hb]at h
  simp only at h
  split at h
  case isFalse=>cases h
  case isTrue hle=>
   obtain rfl:=Option.some.inj h
   obtain ⟨a1,a2,a3,cs,t',⟨fz,a4,-⟩,a5,a6⟩:=hs.blk id s cc t z m an e hb
   have hsz:s.base+o+n≤cs.size:=by omega
   have hl1:(List.take n (List.drop o cc)).length=n:=by simp;omega
   have hl2:(List.take n (List.drop (s.base+o) cs.toList)).length=n:=by simp;omega
   have hget:∀ i,i<n→∃ (h1:o+i<cc.length) (h2:s.base+o+i<cs.size),cc[o+i].oneCell'=true∧Rel φ cc[o+i] cs[s.base+o+i]:=by
    intro i hi
    have h1:o+i<cc.length:=by omega
    obtain ⟨b1,v',b2,b3⟩:=a6 (o+i) cc[o+i] (List.getElem?_eq_getElem h1)
    have h2:s.base+o+i<cs.size:=by omega
    refine ⟨h1,h2,b1,?_⟩
    rw [show s.base+(o+i)=s.base+o+i by omega,Array.getElem?_eq_getElem h2]at b2
    rw [Option.some.inj b2]
    exact b3
   refine ⟨hl1,_,⟨hl1.trans hl2.symm,fun i h1 h2=>?_⟩,fun v hv=>?_,fun v hv=>?_,fun j v hv=>?_⟩
   ·obtain ⟨_,_,_,hr⟩:=hget i (by omega)
    simpa using hr
   ·obtain ⟨i,hi,rfl⟩:=List.getElem_of_mem hv
    obtain ⟨_,_,h1,hr⟩:=hget i (by omega)
    rw [← hr.oneCell]at h1
    simpa using h1
   ·obtain ⟨i,hi,rfl⟩:=List.getElem_of_mem hv
    obtain ⟨_,_,h1,hr⟩:=hget i (by omega)
    simpa using h1
   ·have hj:j<n:=by have:=(List.getElem?_eq_some_iff.1 hv).1;omega
    obtain ⟨_,h2,_,_⟩:=hget j hj
    simp only [List.getElem?_take,List.getElem?_drop,hj,if_true]at hv
    unfold World.cell?
    simp only [a4]
    simpa using hv
theorem ptr_inv {id o:Nat} {v':Value} (h:Rel φ (.pointer (some ⟨id,o,none⟩)) v'):∃ s,φ id=some s∧v'=.pointer (some ⟨s.b,s.base+o,none⟩):=by
 cases h with
 | ptr _ _ s h=>exact ⟨s,h,rfl⟩
theorem run_isAgg (t:TypeId) (d:TypeDesc) (h:P.underlying t=some d):(isAgg t).run P w=.ok (aggD d) w:=by
 cases d<;>simp [isAgg,run_underlying h,aggD]
theorem run_sizeOf' (t:TypeId) (i:TypeInfo) (h:P.info? t=some i):(sizeOf t).run P w=.ok i.size w:=by simp [sizeOf,typeInfo,h]
theorem one_inv {l:List Value} {v:Value} (h:one l=some v):l=[v]:=by
 match l,h with
 | [x],h=>rw [one]at h;rw [Option.some.inj h]
theorem loadVar_sound (hs:Sim B φ S w) {t:TypeId} {d:TypeDesc} {i:TypeInfo} (hd:P.underlying t=some d) (hi:P.info? t=some i)
  {id o:Nat} {s:Spot} {c:List Value} {v:Value} (e:φ id=some s)
  (hc:S.rd id o (if aggD d then i.size else 1)=some c) (hv:part1 (aggD d) c=some v):∃ v',(loadVar t ⟨s.b,s.base+o,none⟩).run P w=.ok v' w∧Rel φ v v':=by
 obtain ⟨hl,c',hrel,_,_,hcell⟩:=rd_sound hs e hc
 have hload:=run_loadCells_list (P:=P) w ⟨s.b,s.base+o,none⟩ c' (fun j v h=>by rw [Addr.add_lit];exact hcell j v h)
 have hl':c'.length=(if aggD d then i.size else 1):=hrel.1.symm.trans hl
 rw [hl']at hload
 have ha:=run_isAgg (w:=w) t d hd
 have hz:=run_sizeOf' (w:=w) t i hi
 by_cases hagg:aggD d=true
 ·rw [if_pos hagg]at hload
  rw [hagg]at ha
  unfold part1 at hv
  rw [if_pos hagg]at hv
  obtain rfl:=Option.some.inj hv
  refine ⟨.agg c'.toArray,?_,.agg' hrel.toA⟩
  simp [loadVar,ha,hz,hload]
 ·rw [if_neg hagg]at hl'
  rw [Bool.eq_false_iff.2 hagg]at ha
  unfold part1 at hv
  rw [if_neg hagg]at hv
  obtain rfl:=one_inv hv
  obtain ⟨v',rfl⟩:∃ v',c'=[v']:=List.length_eq_one_iff.1 hl'
  have h0:=hcell 0 v' rfl
  refine ⟨v',?_,hrel.2 0 (by simp) (by simp)⟩
  simp [loadVar,ha,run_load]
  simp at h0
  rw [h0]
theorem load_sound (hs:Sim B φ S w) {t:TypeId} {d:TypeDesc} {i:TypeInfo} (hd:P.underlying t=some d) (hi:P.info? t=some i)
  {id o:Nat} {x':Value} {c:List Value} {v:Value} (hx:Rel φ (.pointer (some ⟨id,o,none⟩)) x')
  (hc:S.rd id o (if aggD d then i.size else 1)=some c) (hv:part1 (aggD d) c=some v):OutV P B φ S w (Instr.loadAt t x') v S:=by
 obtain ⟨s,e,rfl⟩:=ptr_inv hx
 obtain ⟨v',h1,h2⟩:=loadVar_sound (P:=P) hs hd hi e hc hv
 refine OutV.same hs (v':=v') ?_ h2
 simp [Instr.loadAt,Instr.sureAddr,h1]
theorem splice_length (l:List Value) (o:Nat) (r:List Value) (h:o+r.length≤l.length):(splice l o r).length=l.length:=by
 unfold splice;simp;omega
theorem splice_get (l:List Value) (o:Nat) (r:List Value) (h:o+r.length≤l.length) (i:Nat):(splice l o r)[i]? = if o≤i∧i<o+r.length then r[i-o]? else l[i]?:=by
 unfold splice
 by_cases h1:i<o
 ·rw [List.append_assoc,List.getElem?_append_left (by simp;omega),List.getElem?_take,if_pos h1,if_neg (by omega)]
 ·by_cases h2:i<o+r.length
  ·rw [List.append_assoc,List.getElem?_append_right (by simp;omega),List.getElem?_append_left (by simp;omega),if_pos ⟨by omega,h2⟩]
   congr 1;simp;omega
  ·rw [List.append_assoc,List.getElem?_append_right (by simp;omega),List.getElem?_append_right (by simp;omega),List.getElem?_drop,if_neg (by omega)]
   congr 1;simp;omega
theorem splice_mem (l:List Value) (o:Nat) (r:List Value) {v:Value} (h:v∈splice l o r):v∈l∨v∈r:=by
 unfold splice at h
 simp only [List.mem_append]at h
 rcases h with (h | h) | h
 ·exact .inl (List.mem_of_mem_take h)
 ·exact .inr h
 ·exact .inl (List.mem_of_mem_drop h)
theorem write_sound (hs:Sim B φ S w) {id o:Nat} {s:Spot} {c:List Value} {t:TypeId} {z:Nat} {an:List Nat} (e:φ id=some s) (e2:S.get id=.cells c t z true an)
  {r r':List Value} (hr:RelL φ r r') (h1:allOne r=true) (hfit:o+r.length≤c.length) :
  ∃ w',(∀ i,i=0→(storeCells ⟨s.b,s.base+o,none⟩ r' i).run P w=.ok () w')∧Sim B φ (S.write id (splice c o r) t z an) w'∧Keep B φ S w φ (S.write id (splice c o r) t z an) w':=by
 obtain ⟨a1,a2,a3,cs,t',a4,a5,a6⟩:=hs.blk id s c t z true an e e2
 have a4:=a4.mine
 have h1':∀ v∈r,v.oneCell'=true:=allOne_iff.1 h1
 have h1r:∀ v∈r',v.oneCell'=true:=by
  intro v hv
  obtain ⟨i,hi,rfl⟩:=List.getElem_of_mem hv
  have:=hr.2 i (by rw [hr.1];exact hi) hi
  rw [this.oneCell]
  exact h1' _ (List.getElem_mem _)
 have hlen:r.length=r'.length:=hr.1
 have hst:=run_storeCells_at P s.b (s.base+o) t' r' 0 cs w a4 (by omega) h1r
 refine ⟨_,fun i hi=>by subst hi;exact hst,?_⟩
 refine hs.write e e2 cs _ t' a4 (splice_length c o r hfit) ?_ (fun v hv=>?_) (fun i v hv=>?_)
 ·simp;omega
 ·rcases splice_mem c o r hv with h | h
  ·obtain ⟨i,hi,rfl⟩:=List.getElem_of_mem h
   exact (a6 i _ (List.getElem?_eq_getElem hi)).1
  ·exact h1' v h
 ·rw [splice_get c o r hfit]at hv
  have hsp:(cs.toList.take (s.base+o+0)++r'++cs.toList.drop (s.base+o+0+r'.length))=splice cs.toList (s.base+o) r':=by unfold splice;simp
  rw [hsp]
  have hg:=splice_get cs.toList (s.base+o) r' (by simp;omega) (s.base+i)
  rw [List.getElem?_toArray,hg]
  by_cases hi:o≤i∧i<o+r.length
  ·rw [if_pos hi]at hv
   rw [if_pos (by omega)]
   have hlt:i-o<r.length:=by omega
   rw [List.getElem?_eq_getElem hlt]at hv
   obtain rfl:=Option.some.inj hv
   refine ⟨r'[i-o],?_,hr.2 (i-o) hlt (by omega)⟩
   rw [show s.base+i-(s.base+o)=i-o by omega,List.getElem?_eq_getElem]
  ·rw [if_neg hi]at hv
   rw [if_neg (by omega)]
   obtain ⟨b1,v',b2,b3⟩:=a6 i v hv
   exact ⟨v',by simpa using b2,b3⟩
theorem store_sound (hs:Sim B φ S w) {t:TypeId} {i:TypeInfo} (hi:P.info? t=some i) {id o:Nat} {x' v v':Value} {c:List Value} {t2:TypeId} {z:Nat} {an:List Nat}
  (hx:Rel φ (.pointer (some ⟨id,o,none⟩)) x') (hv:Rel φ v v') (e2:S.get id=.cells c t2 z true an) (h0:v.cells.size=i.size) (h2:o+i.size≤c.length) (h1:allOne v.cells.toList=true) :
  ∃ w',(Instr.storeAt t x' v').run P w=.ok () w'∧Sim B φ (S.write id (splice c o v.cells.toList) t2 z an) w'∧Keep B φ S w φ (S.write id (splice c o v.cells.toList) t2 z an) w':=by
 obtain ⟨s,e,rfl⟩:=ptr_inv hx
 have hc:=hv.cells
 obtain ⟨w',hst,k1,k2⟩:=write_sound (P:=P) hs e e2 (o:=o) hc.toL h1 (by simp;omega)
 refine ⟨w',?_,k1,k2⟩
 have hz:=run_sizeOf' (w:=w) t i hi
 have h3:=hst 0 rfl
 have hsz:v'.cells.size=i.size:=hc.1.symm.trans h0
 simp [Instr.storeAt,Instr.sureAddr,storeVar,hz,hsz,h3]
theorem box_sound (hs:Sim B φ S w) (hB:B≤w.heap.size) {t:TypeId} {v v':Value} (hv:Rel φ v v') (h1:allOne v.cells.toList=true) :
  OutV P B φ S w (Instr.box t v') (.pointer (some ⟨S.next,0,none⟩)) (S.alloc (.cells v.cells.toList t v.cells.size true [])):=by
 have hc:=hv.cells
 obtain ⟨k1,k2⟩:=hs.alloc hB v.cells.toList v'.cells t t v.cells.size (allOne_iff.1 h1) (by simp [hc.1]) (fun i u hu=>by
  have hi:i<v.cells.size:=by simpa using (List.getElem?_eq_some_iff.1 hu).1
  have hi':i<v'.cells.size:=by rw [← hc.1];exact hi
  refine ⟨v'.cells[i],Array.getElem?_eq_getElem hi',?_⟩
  have:u=v.cells[i]:=by simpa [hi] using hu.symm
  subst this
  exact hc.2 i hi hi') []
 refine ⟨_,.pointer (some ⟨w.heap.size,0,none⟩),_,?_,?_,k1,k2⟩
 ·simp [Instr.box,newVar,newRow]
 ·have:=Rel.ptr (φ:=φ.add S.next ⟨w.heap.size,0,v'.cells.size,v.cells.size⟩) S.next 0 _ (Emb.add_same _ _ _)
  simpa using this
end
end Go.Proofs.YtghcggoodgfaoaaGreatDoor

namespace Go.Proofs.YtghcggoodgfaoaaGreatDoor
open Go Go.RowKit
section
variable {P:Program} {B:Nat} {φ:Emb} {S:St} {w:World}
theorem slice_inv {id o n c:Nat} {v':Value} (h:Rel φ (.slice (some ⟨id,o,none⟩) n c) v') :
  ∃ s x c',φ id=some s∧v'=.slice (some ⟨s.b,x,none⟩) n c'∧n≤c'∧c≤c'∧n≤c∧((x=s.base+o∧o+c'*s.sz≤s.ext)∨(n=0∧c=0∧c'=0)):=by
 cases h with
 | slice _ _ _ _ c' s h hn hc he=>exact ⟨s,_,c',h,rfl,by omega,hc,hn,.inl ⟨rfl,he⟩⟩
 | sliceEnd _ _ x s h=>exact ⟨s,x,0,h,rfl,Nat.le_refl _,Nat.le_refl _,Nat.le_refl _,.inr ⟨rfl,rfl,rfl⟩⟩
theorem elems_sound (hs:Sim B φ S w) {esz:Nat} {x x':Value} {l:List Value} (hx:Rel φ x x') (h:S.elems esz x=some l) :
  ∃ a m c l',x'=.slice a m c∧vlen x=some m∧RelL φ l l'∧l.length=m*esz∧(∀ v∈l',v.oneCell'=true)∧(∀ v∈l,v.oneCell'=true)∧∀ W:World,W.heap=w.heap→(Builtin.firstCells esz m x').run P W=.ok l'.toArray W:=by
 unfold St.elems at h
 split at h
 ·cases hx
  obtain rfl:=Option.some.inj h
  exact ⟨none,0,0,[],rfl,rfl,RelL.nil _,by simp,by simp,by simp,fun W _=>by simp [Builtin.firstCells]⟩
 ·rename_i id o n c
  obtain ⟨s,x,c',e,rfl,hn,_,_,hor⟩:=slice_inv hx
  obtain ⟨hl,l',hrel,h1,h2,hcell⟩:=rd_sound hs e h
  refine ⟨_,n,c',l',rfl,rfl,hrel,hl,h1,h2,fun W hW=>?_⟩
  rcases hor with ⟨rfl,_⟩|⟨rfl,_,_⟩
  ·exact run_firstCells_some W esz n ⟨s.b,s.base+o,none⟩ n c' l' (hrel.1.symm.trans hl) (fun j v hv=>by rw [Addr.add_lit];unfold World.cell?; rw [hW];exact hcell j v hv)
  ·have:l'=[]:=List.eq_nil_of_length_eq_zero (by rw [← hrel.1,hl];simp)
   subst this
   simp [Builtin.firstCells,loadCells,loadCellsFrom]
 ·cases h
theorem run_append_in (t ty e:TypeId) (i:TypeInfo) (ht:P.underlying t=some (.slice e)) (hi:P.info? e=some i)
  (b:Option Addr) (n c m:Nat) (x':Value) (a2:Option Addr) (c2:Nat) (hx:x'=.slice a2 m c2) (news:List Value) (hf:(Builtin.firstCells i.size m x').run P w=.ok news.toArray w) (hroom:n+m≤c)
  (w':World) (hst:(match b with | some a=>storeCells (a.add (n*i.size)) news | none=>pure ()).run P w=.ok () w') :
  (Builtin.append_ #[t,t] ty #[.slice b n c,x']).run P w=.ok (.slice b (n+m) c) w':=by
 subst hx
 cases b with
 | none=>
  simp at hst
  subst hst
  simp [Builtin.append_,run_underlying ht,sizeOf,typeInfo,hi,Builtin.lenOf,hroom,hf]
 | some a=>
  simp only at hst
  simp [Builtin.append_,run_underlying ht,sizeOf,typeInfo,hi,Builtin.lenOf,hroom,hf,hst]
theorem run_append_new (t ty e:TypeId) (i:TypeInfo) (z:Value) (ht:P.underlying t=some (.slice e)) (hi:P.info? e=some i) (hz:i.zero=some z)
  (b:Option Addr) (n c m:Nat) (x':Value) (a2:Option Addr) (c2:Nat) (hx:x'=.slice a2 m c2) (news olds:List Value) (hf:(Builtin.firstCells i.size m x').run P w.drew=.ok news.toArray w.drew)
  (ho:(Builtin.firstCells i.size n (.slice b n c)).run P w.drew=.ok olds.toArray w.drew) (hg:c<n+m) (hby:(n+m)*i.bytes≤reach) (h0:0<i.bytes) :
  (Builtin.append_ #[t,t] ty #[.slice b n c,x']).run P w=.ok (.slice (some ⟨w.heap.size,0,none⟩) (n+m) (grownCap w (n+m) c e))
   (w.drew.alloc (.cells (olds.toArray++news.toArray++Builtin.zeroCells z.cells (grownCap w (n+m) c e-(n+m))) e)):=by
 subst hx
 have hr:(n+m)*1≤(n+m)*i.bytes:=Nat.mul_le_mul_left _ h0
 unfold reach at hby
 have hfit:=growslice_fits hg (by omega:(n+m)*i.bytes≤140737488355328)
 have hn:¬ (n+m≤c):=by omega
 have h63':¬ (9223372036854775807<((n:Int)+(m:Int))):=by omega
 have h48':¬ (281474976710656<Builtin.nextslicecap (n+m) c*i.bytes):=by omega
 simp [Builtin.append_,run_underlying ht,sizeOf,typeInfo,zeroValue,hi,hz,Builtin.lenOf,hn,h63',h48',Question.forced,hf,ho,newRow,grownCap]
 congr 2
 apply Array.ext'
 simp [List.append_assoc]
theorem append_sound (hs:Sim B φ S w) (hB:B≤w.heap.size) {t e:TypeId} {ty:TypeId} {i:TypeInfo} {z:Value} (ht:P.underlying t=some (.slice e)) (hi:P.info? e=some i) (hz:i.zero=some z) (hzs:z.cells.size=i.size)
  {s s' x x' v:Value} {S':St} (hsr:Rel φ s s') (hx:Rel φ x x') (h:xappend e i.size i.bytes s x S=some (v,S')) :
  OutV P B φ S w (Builtin.append_ #[t,t] ty #[s',x']) v S':=by
 unfold xappend at h
 split at h
 case h_2=>cases h
 rename_i news m hel hvl
 obtain ⟨a2,m',c2,news',hx',hvl',hrel,hnl,h1,h1a,hf⟩:=elems_sound (P:=P) hs hx hel
 rw [hvl]at hvl'
 obtain rfl:=Option.some.inj hvl'
 by_cases hm:m=0
 ·
  subst hm
  rw [if_pos rfl]at h
  split at h
  case h_2=>cases h
  rename_i a n c
  obtain ⟨rfl,rfl⟩:=Prod.mk.inj (Option.some.inj h)
  have hnil:news'=[]:=List.eq_nil_of_length_eq_zero (by rw [← hrel.1,hnl];simp)
  subst hnil
  obtain ⟨a',c',rfl,hn⟩:∃ a' c',s'=.slice a' n c'∧n≤c':=by
   cases hsr with
   | sliceNil=>exact ⟨none,0,rfl,Nat.le_refl _⟩
   | slice _ _ _ _ c' s h hn hc he=>exact ⟨_,c',rfl,by omega⟩
   | sliceEnd _ _ x s h=>exact ⟨_,0,rfl,Nat.le_refl _⟩
  have hr:=run_append_in (P:=P) (w:=w) t ty e i ht hi a' n c' 0 x' a2 c2 hx' [] (hf w rfl) (by omega) w (by cases a'<;>simp [storeCells])
  exact OutV.same hs hr hsr
 ·rw [if_neg hm]at h
  split at h
  case isFalse=>cases h
  rename_i hcond
  simp only [Bool.and_eq_true,decide_eq_true_eq]at hcond
  obtain ⟨⟨hone,hsz⟩,hby0⟩:=hcond
  split at h
  case h_3=>cases h
  case h_1=>
   split at h
   case isFalse=>cases h
   rename_i hby
   obtain ⟨rfl,rfl⟩:=Prod.mk.inj (Option.some.inj h)
   cases hsr
   have hr:=run_append_new (P:=P) (w:=w) t ty e i z ht hi hz none 0 0 m x' a2 c2 hx' news' [] (hf w.drew rfl) (by simp [Builtin.firstCells]) (by omega) (by simpa using hby) hby0
   have hcap:=grownCap_ge w (0+m) 0 e
   obtain ⟨k1,k2⟩:=hs.drew.alloc hB news (#[]++news'.toArray++Builtin.zeroCells z.cells (grownCap w (0+m) 0 e-(0+m))) e e i.size h1a (by simp [hrel.1]) (fun j u hu=>by
    have hj:j<news.length:=(List.getElem?_eq_some_iff.1 hu).1
    have hj':j<news'.length:=by rw [← hrel.1];exact hj
    refine ⟨news'[j],?_,?_⟩
    ·simp [Array.getElem?_append,hj']
    ·have:=hrel.2 j hj hj'
     rw [List.getElem?_eq_getElem hj]at hu
     rw [← Option.some.inj hu];exact this) []
   refine ⟨_,_,_,by simpa using hr,?_,k1,(Keep.drew B φ S w).trans k2⟩
   have hrr:=Rel.slice (φ:=φ.add S.next ⟨w.drew.heap.size,0,(#[]++news'.toArray++Builtin.zeroCells z.cells (grownCap w (0+m) 0 e-(0+m))).size,i.size⟩) S.next 0 m m (grownCap w m 0 e) _ (Emb.add_same _ _ _) (Nat.le_refl _) (by simpa using hcap) ?_
   ·simpa using hrr
   have hl:news'.length=m*i.size:=by rw [← hrel.1,hnl]
   simp only [Nat.zero_add]at hcap
   have he:grownCap w m 0 e*i.size=m*i.size+(grownCap w m 0 e-m)*i.size:=by rw [← Nat.add_mul];congr 1;omega
   simp only [Array.size_append,List.size_toArray,size_zeroCells,hzs,hl,Nat.zero_add]
   omega
  case h_2=>
   rename_i id o n c
   split at h
   case h_2=>cases h
   rename_i cc t2 z2 an hget
   obtain ⟨sp,xo,c',hid,rfl,hn,hcc,hnc,hor⟩:=slice_inv hsr
   obtain ⟨d1,d2,d3,cs,t',d4,d5,d6⟩:=hs.blk id sp cc t2 z2 true an hid hget
   have d4:=d4.mine
   split at h
   case isTrue hgrow=>
    obtain ⟨rfl,rfl,hend⟩:=hgrow
    split at h
    case isFalse=>cases h
    rename_i hby
    obtain ⟨rfl,rfl⟩:=Prod.mk.inj (Option.some.inj h)
    have holds:S.elems i.size (.slice (some ⟨id,o,none⟩) n n)=some (cc.drop o):=by
     simp only [St.elems,St.rd,hget]
     rw [if_pos (by omega),List.take_of_length_le (by simp;omega)]
    obtain ⟨_,_,_,olds',hso,hvo,hro,hol,h1o,h1oa,hfo⟩:=elems_sound (P:=P) hs hsr holds
    obtain ⟨rfl,rfl,rfl⟩:=Value.slice.inj hso
    have hlo:olds'.length=n*i.size:=by rw [← hro.1,hol]
    have hln:news'.length=m*i.size:=by rw [← hrel.1,hnl]
    have hall:∀ v∈cc.drop o++news,v.oneCell'=true:=by
     intro v hv
     rcases List.mem_append.1 hv with h | h
     ·exact h1oa v h
     ·exact h1a v h
    by_cases hroom:n+m≤c'
    ·
     have hpos:xo=sp.base+o∧o+c'*sp.sz≤sp.ext:=by
      rcases hor with h | ⟨h1,h2,h3⟩
      ·exact h
      ·omega
     obtain ⟨rfl,hext⟩:=hpos
     have hmul:(n+m)*i.size≤c'*i.size:=Nat.mul_le_mul_right _ hroom
     rw [d1]at hext
     have hfit:cc.length+news.length≤sp.ext:=by rw [hnl,← hend];rw [Nat.add_mul]at hmul;omega
     have h1r:∀ v∈news',v.oneCell'=true:=h1
     have hat:(⟨sp.b,sp.base+o,none⟩:Addr).add (n*i.size)=⟨sp.b,sp.base+cc.length,none⟩:=by rw [Addr.add_lit,← hend,Nat.add_assoc]
     have hst:=run_storeCells_at P sp.b (sp.base+cc.length) t' news' 0 cs w d4 (by rw [← hrel.1];omega) h1r
     have hr:=run_append_in (P:=P) (w:=w) t ty e i ht hi (some ⟨sp.b,sp.base+o,none⟩) n c' m x' a2 c2 hx' news' (hf w rfl) hroom _ (by simp only [hat];exact hst)
     have hsp:(cs.toList.take (sp.base+cc.length+0)++news'++cs.toList.drop (sp.base+cc.length+0+news'.length))=splice cs.toList (sp.base+cc.length) news':=by unfold splice;simp
     rw [hsp]at hr
     have hfit2:sp.base+cc.length+news'.length≤cs.toList.length:=by rw [← hrel.1];simp;omega
     obtain ⟨k1,k2⟩:=hs.growIn (news:=news) o (by omega) hid hget cs (splice cs.toList (sp.base+cc.length) news').toArray e t' d4 (by simp [splice_length _ _ _ hfit2]) hfit h1a (fun j hj=>by
      rw [List.getElem?_toArray,splice_get _ _ _ hfit2,if_neg (by omega)];simp) (fun j u hu=>by
      have hj:j<news.length:=(List.getElem?_eq_some_iff.1 hu).1
      have hj':j<news'.length:=by rw [← hrel.1];exact hj
      refine ⟨news'[j],?_,?_⟩
      ·rw [List.getElem?_toArray,splice_get _ _ _ hfit2,if_pos (by omega),show sp.base+(cc.length+j)-(sp.base+cc.length)=j by omega,List.getElem?_eq_getElem hj']
      ·have:=hrel.2 j hj hj'
       rw [List.getElem?_eq_getElem hj]at hu
       rw [← Option.some.inj hu];exact this)
     refine ⟨_,_,_,hr,?_,k1,k2⟩
     have:=Rel.slice (φ:=φ.add S.next ⟨sp.b,sp.base+o,sp.ext-o,i.size⟩) S.next 0 (n+m) (n+m) c' _ (Emb.add_same _ _ _) (Nat.le_refl _) hroom (by simp only;omega)
     simpa using this
    ·
     have hr:=run_append_new (P:=P) (w:=w) t ty e i z ht hi hz (some ⟨sp.b,xo,none⟩) n c' m x' a2 c2 hx' news' olds' (hf w.drew rfl) (hfo w.drew rfl) (by omega) hby hby0
     have hcap:=grownCap_ge w (n+m) c' e
     obtain ⟨k1,k2⟩:=hs.drew.growNew hB hget (cc.drop o++news) e e (olds'.toArray++news'.toArray++Builtin.zeroCells z.cells (grownCap w (n+m) c' e-(n+m))) hall (by simp [hlo,hln];rw [hnl];omega) (fun j u hu=>by
      have hrr:=hro.append hrel
      have hj:j<(cc.drop o++news).length:=(List.getElem?_eq_some_iff.1 hu).1
      have hj':j<(olds'++news').length:=by rw [← hrr.1];exact hj
      refine ⟨(olds'++news')[j],?_,?_⟩
      ·have:olds'.toArray++news'.toArray++Builtin.zeroCells z.cells (grownCap w (n+m) c' e-(n+m))=(olds'++news'++(Builtin.zeroCells z.cells (grownCap w (n+m) c' e-(n+m))).toList).toArray:=by
        apply Array.ext';simp
       rw [this,List.getElem?_toArray,List.getElem?_append_left hj',List.getElem?_eq_getElem hj']
      ·have:=hrr.2 j hj hj'
       rw [List.getElem?_eq_getElem hj]at hu
       rw [← Option.some.inj hu];exact this)
     refine ⟨_,_,_,hr,?_,k1,(Keep.drew B φ S w).trans k2⟩
     refine (Rel.slice (φ:=φ.add S.next ⟨w.drew.heap.size,0,_,i.size⟩) S.next 0 (n+m) (n+m) (grownCap w (n+m) c' e) _ (Emb.add_same _ _ _) (Nat.le_refl _) (by omega) ?_)
     simp only [Array.size_append,List.size_toArray,size_zeroCells,hzs,hlo,hln,Nat.zero_add,← Nat.add_mul]
     refine Nat.le_of_eq ?_
     congr 1
     omega
   case isFalse hgrow=>
    split at h
    case isFalse=>cases h
    rename_i hin
    obtain ⟨rfl,hroom,hfit⟩:=hin
    obtain ⟨rfl,rfl⟩:=Prod.mk.inj (Option.some.inj h)
    have hpos:xo=sp.base+o∧o+c'*sp.sz≤sp.ext:=by
     rcases hor with h | ⟨h1,h2,h3⟩
     ·exact h
     ·omega
    obtain ⟨rfl,hext⟩:=hpos
    obtain ⟨w',hst,k1,k2⟩:=write_sound (P:=P) hs hid hget (o:=o+n*i.size) hrel hone (by rw [hnl];rw [Nat.add_mul]at hfit;omega)
    have hat:(⟨sp.b,sp.base+o,none⟩:Addr).add (n*i.size)=⟨sp.b,sp.base+(o+n*i.size),none⟩:=by rw [Addr.add_lit,Nat.add_assoc]
    have hr:=run_append_in (P:=P) (w:=w) t ty e i ht hi (some ⟨sp.b,sp.base+o,none⟩) n c' m x' a2 c2 hx' news' (hf w rfl) (by omega) w' (by simp only [hat];exact hst 0 rfl)
    exact ⟨φ,_,w',hr,.slice id o (n+m) c c' sp hid hroom hcc hext,k1,k2⟩
end
end Go.Proofs.YtghcggoodgfaoaaGreatDoor

namespace Go.Proofs.YtghcggoodgfaoaaGreatDoor
open Go Go.RowKit
section
variable {P:Program} {B:Nat} {φ:Emb} {S:St} {w:World}
theorem rd_take {id o n k:Nat} {l:List Value} (h:S.rd id o n=some l) (hk:k≤n):S.rd id o k=some (l.take k):=by
 unfold St.rd at *
 split at h
 ·rename_i c t z m an hb
  split at h
  case isFalse=>cases h
  case isTrue hle=>
   obtain rfl:=Option.some.inj h
   rw [if_pos (by omega),List.take_take,Nat.min_eq_left hk]
 ·cases h
theorem elems_first (hs:Sim B φ S w) {esz:Nat} {x x':Value} {l:List Value} {m:Nat} (hx:Rel φ x x') (h:S.elems esz x=some l) (hm:vlen x=some m) (k:Nat) (hk:k≤m) :
  ∃ a c l',x'=.slice a m c∧RelL φ (l.take (k*esz)) l'∧(l.take (k*esz)).length=k*esz∧(Builtin.firstCells esz k x').run P w=.ok l'.toArray w:=by
 unfold St.elems at h
 split at h
 ·cases hx
  obtain rfl:=Option.some.inj h
  obtain rfl:0=m:=Option.some.inj hm
  obtain rfl:k=0:=by omega
  exact ⟨none,0,[],rfl,by simpa using RelL.nil _,by simp,by simp [Builtin.firstCells]⟩
 ·rename_i id o n c
  obtain rfl:n=m:=Option.some.inj hm
  obtain ⟨s,x,c',e,rfl,hn,_,_,hor⟩:=slice_inv hx
  obtain ⟨hl,l',hrel,h1,h2,hcell⟩:=rd_sound hs e (rd_take h (Nat.mul_le_mul_right esz hk))
  refine ⟨_,c',l',rfl,hrel,hl,?_⟩
  rcases hor with ⟨rfl,_⟩|⟨rfl,_,_⟩
  ·exact run_firstCells_some w esz k ⟨s.b,s.base+o,none⟩ n c' l' (hrel.1.symm.trans hl) (fun j v hv=>by rw [Addr.add_lit];exact hcell j v hv)
  ·obtain rfl:k=0:=by omega
   have:l'=[]:=List.eq_nil_of_length_eq_zero (by rw [← hrel.1,hl];simp)
   subst this
   simp [Builtin.firstCells,loadCells,loadCellsFrom]
 ·cases h
theorem run_copy_any (dT sT ty e:TypeId) (i:TypeInfo) (ht:P.underlying dT=some (.slice e)) (hi:P.info? e=some i) (b:Option Addr) (n c m:Nat) (a2:Option Addr) (c2:Nat) (cells:List Value)
  (hf:(Builtin.firstCells i.size (min m n) (.slice a2 m c2)).run P w=.ok cells.toArray w) (w':World) (hst:(match b with | some a=>storeCells a cells | none=>pure ()).run P w=.ok () w') :
  (Builtin.copy_ #[dT,sT] ty #[.slice b n c,.slice a2 m c2]).run P w=.ok (.int .i64 (min m n:Nat)) w':=by
 have hmin:Nat.min m n=min m n:=rfl
 cases b with
 | none=>
  simp at hst
  subst hst
  simp [Builtin.copy_,run_underlying ht,sizeOf,typeInfo,hi,Builtin.lenOf,hmin,hf,goInt]
 | some a=>
  simp only at hst
  simp [Builtin.copy_,run_underlying ht,sizeOf,typeInfo,hi,Builtin.lenOf,hmin,hf,hst,goInt]
theorem copy_sound (hs:Sim B φ S w) {dT sT ty e:TypeId} {i:TypeInfo} (ht:P.underlying dT=some (.slice e)) (hi:P.info? e=some i)
  {d d' x x' v:Value} {S':St} (hd:Rel φ d d') (hx:Rel φ x x') (h:xcopy i.size d x S=some (v,S')) :
  OutV P B φ S w (Builtin.copy_ #[dT,sT] ty #[d',x']) v S':=by
 unfold xcopy at h
 split at h
 case h_2=>cases h
 rename_i a n c m src hm hsrc
 obtain ⟨a2,c2,l',rfl,hrel,hlen,hf⟩:=elems_first (P:=P) hs hx hsrc hm (min m n) (Nat.min_le_left _ _)
 by_cases h0:min m n=0
 ·rw [if_pos h0]at h
  obtain ⟨rfl,rfl⟩:=Prod.mk.inj (Option.some.inj h)
  have hnil:l'=[]:=List.eq_nil_of_length_eq_zero (by rw [← hrel.1,hlen,h0];simp)
  subst hnil
  obtain ⟨a',c',rfl⟩:∃ a' c',d'=.slice a' n c':=by
   cases hd with
   | sliceNil=>exact ⟨none,0,rfl⟩
   | slice _ _ _ _ c' s h hn hc he=>exact ⟨_,c',rfl⟩
   | sliceEnd _ _ x s h=>exact ⟨_,0,rfl⟩
  have hr:=run_copy_any dT sT ty e i ht hi a' n c' m a2 c2 [] hf w (by cases a'<;>simp [storeCells])
  rw [h0]at hr
  exact OutV.same hs hr (.int _ _)
 ·rw [if_neg h0]at h
  split at h
  case h_2=>cases h
  rename_i id o
  split at h
  case h_2=>cases h
  rename_i cc t z an hget
  split at h
  case isFalse=>cases h
  rename_i hfit
  obtain ⟨hfit,hone⟩:=hfit
  obtain ⟨rfl,rfl⟩:=Prod.mk.inj (Option.some.inj h)
  obtain ⟨sp,xo,c',hid,rfl,hn,hcc,hnc,hor⟩:=slice_inv hd
  have hpos:xo=sp.base+o:=by
   rcases hor with h | ⟨h1,h2,h3⟩
   ·exact h.1
   ·omega
  subst hpos
  obtain ⟨w',hst,k1,k2⟩:=write_sound (P:=P) hs hid hget (o:=o) hrel (allOne_iff.2 fun v hv=>allOne_iff.1 hone v (List.mem_of_mem_take hv)) (by rw [hlen];exact hfit)
  have hr:=run_copy_any dT sT ty e i ht hi (some ⟨sp.b,sp.base+o,none⟩) n c' m a2 c2 l' hf w' (hst 0 rfl)
  exact ⟨φ,_,w',hr,.int _ _,k1,k2⟩
theorem rep_length (n:Nat) (z:List Value):(rep n z).length=n*z.length:=by simp [rep]
theorem rep_get (n:Nat) (z:List Value):∀ i,i<n*z.length→(rep n z)[i]? = z[i % z.length]?:=by
 induction n with
 | zero=>intro i hi;simp at hi
 | succ n ih=>
  intro i hi
  have e:rep (n+1) z=z++rep n z:=by simp [rep,List.replicate_succ]
  rw [e]
  by_cases h:i<z.length
  ·rw [List.getElem?_append_left h,Nat.mod_eq_of_lt h]
  ·rw [List.getElem?_append_right (by omega),ih _ (by rw [Nat.succ_mul]at hi;omega),← Nat.mod_eq_sub_mod (by omega)]
theorem zeroCells_rep (z:Array Value) (n:Nat):(Builtin.zeroCells z n).toList=rep n z.toList:=by
 apply List.ext_getElem?
 intro i
 by_cases hi:i<n*z.size
 ·have hz:0<z.size:=by
   rcases Nat.eq_zero_or_pos z.size with h | h
   ·rw [h]at hi;simp at hi
   ·exact h
  rw [rep_get n z.toList i (by simpa using hi)]
  have hm:i % z.size<z.size:=Nat.mod_lt _ hz
  simp [Builtin.zeroCells,hi,hm]
 ·rw [List.getElem?_eq_none (by rw [Array.length_toList,size_zeroCells];omega),List.getElem?_eq_none (by rw [rep_length];simpa using hi)]
theorem madeCells_rep (z:Array Value) (n:Nat):(madeCells z (n*z.size)).toList=rep n z.toList:=by
 rw [← zeroCells_rep]
 rfl
def flat1:Value→Bool
 | .bool _=>true
 | .int _ _=>true
 | .string _=>true
 | .pointer none=>true
 | .slice none 0 0=>true
 | .nilFunc=>true
 | .nilIface=>true
 | .map none=>true
 | _=>false
theorem flat1_rel {v:Value} (h:flat1 v=true) (φ:Emb):Rel φ v v:=by
 unfold flat1 at h
 split at h<;>first | constructor | cases h
theorem flat1_one {v:Value} (h:flat1 v=true):v.oneCell'=true:=by
 unfold flat1 at h
 split at h<;>first | rfl | cases h
def flatL (l:List Value):Bool:=l.all flat1
theorem flatL_rel {l:List Value} (h:flatL l=true) (φ:Emb):RelL φ l l:=⟨rfl,fun i h1 h2=>flat1_rel (by simp [flatL]at h;exact h _ (List.getElem_mem _)) φ⟩
theorem flatL_one {l:List Value} (h:flatL l=true):allOne l=true:=allOne_iff.2 fun v hv=>flat1_one (by simp [flatL]at h;exact h v hv)
theorem flatL_rep {l:List Value} (h:flatL l=true) (n:Nat):flatL (rep n l)=true:=by
 simp only [flatL,List.all_eq_true]at *
 intro v hv
 simp only [rep,List.mem_flatten,List.mem_replicate]at hv
 obtain ⟨l',⟨_,rfl⟩,hv⟩:=hv
 exact h v hv
def flatV:Value→Bool
 | .agg a=>flatL a.toList
 | .tuple a=>flatL a.toList
 | v=>flat1 v
theorem flatV_rel {v:Value} (h:flatV v=true) (φ:Emb):Rel φ v v:=by
 unfold flatV at h
 split at h
 ·rename_i a
  have:=(flatL_rel h φ).toA
  simp at this
  exact .agg' this
 ·rename_i a
  have:=(flatL_rel h φ).toA
  simp at this
  exact .tuple' this
 ·exact flat1_rel h φ
theorem clr_sound (hs:Sim B φ S w) {t e:TypeId} {ty:TypeId} {i:TypeInfo} {z:Value} (ht:P.underlying t=some (.slice e)) (hi:P.info? e=some i) (hz:i.zero=some z) (hzf:flatL z.cells.toList=true)
  {x x' v:Value} {S':St} (hx:Rel φ x x') (h:xclr i.size z.cells.toList x S=some (v,S')) :
  OutV P B φ S w (Builtin.clear_ #[t] ty #[x']) v S':=by
 unfold xclr at h
 split at h
 case h_3=>cases h
 case h_1=>
  obtain ⟨rfl,rfl⟩:=Prod.mk.inj (Option.some.inj h)
  cases hx
  refine OutV.same hs (v':=.tuple #[]) ?_ (Rel.undef φ)
  simp [Builtin.clear_,run_underlying ht]
 case h_2=>
  rename_i id o n c
  obtain ⟨sp,xo,c',hid,rfl,hn,hcc,hnc,hor⟩:=slice_inv hx
  split at h
  ·rename_i h0
   subst h0
   obtain ⟨rfl,rfl⟩:=Prod.mk.inj (Option.some.inj h)
   refine OutV.same hs (v':=.tuple #[]) ?_ (Rel.undef φ)
   simp [Builtin.clear_,run_underlying ht]
  ·rename_i h0
   split at h
   case h_2=>cases h
   rename_i cc t2 zz an hget
   split at h
   case isFalse=>cases h
   rename_i hfit
   obtain ⟨hzl,hfit,hone⟩:=hfit
   obtain ⟨rfl,rfl⟩:=Prod.mk.inj (Option.some.inj h)
   have hpos:xo=sp.base+o:=by
    rcases hor with h | ⟨h1,h2,h3⟩
    ·exact h.1
    ·omega
   subst hpos
   have hrf:=flatL_rep hzf n
   obtain ⟨w',hst,k1,k2⟩:=write_sound (P:=P) hs hid hget (o:=o) (flatL_rel hrf φ) (flatL_one hrf) (by rw [rep_length,hzl];exact hfit)
   refine ⟨φ,.tuple #[],w',?_,Rel.undef φ,k1,k2⟩
   have h3:=hst 0 rfl
   have hzc:=zeroCells_rep z.cells n
   cases n with
   | zero=>omega
   | succ n=>simp [Builtin.clear_,run_underlying ht,zeroValue,typeInfo,hi,hz,hzc,h3]
theorem mkSlice_sound (hs:Sim B φ S w) (hB:B≤w.heap.size) {t e:TypeId} {i:TypeInfo} {z:Value} (ht:P.underlying t=some (.slice e)) (hi:P.info? e=some i) (hz:i.zero=some z) (hzs:z.cells.size=i.size) (hzf:flatL z.cells.toList=true)
  (kl kc:IntKind) (l c:Int) (h0:0≤l) (hlc:l≤c) (hby:i.bytes*c.toNat≤reach) (hb0:0<i.bytes) :
  OutV P B φ S w (Instr.makeSlice t (.int kl l) (.int kc c)) (.slice (some ⟨S.next,0,none⟩) l.toNat c.toNat) (S.alloc (.cells (rep c.toNat z.cells.toList) e i.size true [])):=by
 unfold reach at hby
 have hcb:(1:Nat)*c.toNat≤i.bytes*c.toNat:=Nat.mul_le_mul_right _ hb0
 have hb':(i.bytes:Int)*c≤281474976710656:=by
  have:((i.bytes*c.toNat:Nat):Int)=(i.bytes:Int)*c:=by rw [Int.natCast_mul,Int.toNat_of_nonneg (by omega)]
  omega
 have hr:=run_make (P:=P) w t e i z ht hi hz kl kc l c h0 hlc hb' (by omega)
 have hcells:(madeCells z.cells (c.toNat*i.size)).toList=rep c.toNat z.cells.toList:=by rw [← hzs];exact madeCells_rep _ _
 have hrf:=flatL_rep hzf c.toNat
 have hsize:(madeCells z.cells (c.toNat*i.size)).size=c.toNat*i.size:=size_madeCells _ _
 obtain ⟨k1,k2⟩:=hs.alloc hB (rep c.toNat z.cells.toList) (madeCells z.cells (c.toNat*i.size)) e e i.size (allOne_iff.1 (flatL_one hrf)) (by rw [hsize,rep_length];simp [hzs]) (fun j v hv=>⟨v,by rw [← Array.getElem?_toList,hcells];exact hv,flat1_rel (by simp [flatL]at hrf;exact hrf v (List.mem_of_getElem? hv)) φ⟩) []
 refine ⟨_,_,_,hr,?_,k1,k2⟩
 have:=Rel.slice (φ:=φ.add S.next ⟨w.heap.size,0,(madeCells z.cells (c.toNat*i.size)).size,i.size⟩) S.next 0 l.toNat c.toNat c.toNat _ (Emb.add_same _ _ _) (by omega) (Nat.le_refl _) (by simp only [hsize];omega)
 simpa using this
theorem foldl_set (off:Nat):∀ (v:List Value) (k:Nat) (cs:Array Value),off+k+v.length≤cs.size→
  (v.zipIdx k).foldl (fun cs (p:Value × Nat)=>cs.setIfInBounds (off+p.2) p.1) cs=(splice cs.toList (off+k) v).toArray:=by
 intro v
 induction v with
 | nil=>intro k cs h;simp [splice]
 | cons a v ih=>
  intro k cs h
  simp only [List.zipIdx_cons,List.foldl_cons]
  rw [ih (k+1) _ (by simp at h ⊢; omega)]
  apply Array.ext'
  apply List.ext_getElem?
  intro j
  simp only [List.length_cons]at h
  rw [splice_get _ _ _ (by simp;omega),splice_get _ _ _ (by simp;omega)]
  simp only [Array.toList_setIfInBounds,List.length_cons]
  by_cases h1:j=off+k
  ·subst h1
   rw [if_neg (by omega),if_pos (by omega),List.getElem?_set_self (by simp;omega)]
   simp
  ·rw [List.getElem?_set_ne (by omega)]
   by_cases h2:off+(k+1)≤j∧j<off+(k+1)+v.length
   ·rw [if_pos h2,if_pos (by omega),show j-(off+k)=(j-(off+(k+1)))+1 by omega,List.getElem?_cons_succ]
   ·rw [if_neg h2,if_neg (by omega)]
theorem fill_eq (place:Nat→Option (Nat × Nat)):∀ (parts:List (Nat × Value)) (ps:List (Nat × Nat × Value)) (cs:Array Value) (l:List Value),
  parts.length=ps.length→(∀ i (h:i<parts.length) (h':i<ps.length),place parts[i].1=some (ps[i].1,ps[i].2.1)∧parts[i].2=ps[i].2.2)→
  fillL cs.toList ps=some l→Instr.fill place cs parts=some l.toArray:=by
 intro parts
 induction parts with
 | nil=>
  intro ps cs l hl _ h
  obtain rfl:ps=[]:=List.eq_nil_of_length_eq_zero hl.symm
  simp only [fillL,Option.some.injEq]at h
  subst h
  simp [Instr.fill]
 | cons p parts ih=>
  intro ps cs l hl hp h
  cases ps with
  | nil=>simp at hl
  | cons q ps=>
   obtain ⟨j,v⟩:=p
   obtain ⟨off,sz,u⟩:=q
   have h0:=hp 0 (by simp) (by simp)
   simp only [List.getElem_cons_zero]at h0
   obtain ⟨h01,rfl⟩:=h0
   simp only [fillL]at h
   split at h
   case isFalse=>cases h
   rename_i hc
   obtain ⟨hc1,hc2⟩:=hc
   have hfold:v.cells.zipIdx.foldl (fun cs (p:Value × Nat)=>cs.setIfInBounds (off+p.2) p.1) cs=(splice cs.toList off v.cells.toList).toArray:=by
    have:=foldl_set off v.cells.toList 0 cs (by simp at hc2 ⊢; omega)
    rw [← Array.foldl_toList,Array.toList_zipIdx]
    simpa using this
   have hih:=ih ps (splice cs.toList off v.cells.toList).toArray l (by simpa using hl) (fun i h1 h2=>by
    have:=hp (i+1) (by simpa using h1) (by simpa using h2)
    simpa using this) (by simpa using h)
   rw [Instr.fill,h01]
   simp only
   rw [if_neg (by simp at hc2 ⊢; exact ⟨hc1,by omega⟩)]
   rw [← hih]
   congr 1
theorem splice_rel {l l' r r':List Value} (hl:RelL φ l l') (hr:RelL φ r r') (o:Nat):RelL φ (splice l o r) (splice l' o r'):=by
 unfold splice
 rw [hr.1]
 exact ((hl.take o).append hr).append (hl.drop _)
theorem fillL_rel:∀ (ps ps':List (Nat × Nat × Value)) (z z' l:List Value),RelL φ z z'→ps.length=ps'.length→
  (∀ i (h:i<ps.length) (h':i<ps'.length),ps'[i].1=ps[i].1∧ps'[i].2.1=ps[i].2.1∧Rel φ ps[i].2.2 ps'[i].2.2)→fillL z ps=some l→∃ l',fillL z' ps'=some l'∧RelL φ l l':=by
 intro ps
 induction ps with
 | nil=>
  intro ps' z z' l hz hl _ h
  obtain rfl:ps'=[]:=List.eq_nil_of_length_eq_zero hl.symm
  simp only [fillL,Option.some.injEq]at h
  subst h
  exact ⟨z',rfl,hz⟩
 | cons p ps ih=>
  intro ps' z z' l hz hl hp h
  cases ps' with
  | nil=>simp at hl
  | cons q ps'=>
   obtain ⟨off,sz,v⟩:=p
   obtain ⟨off',sz',v'⟩:=q
   have h0:=hp 0 (by simp) (by simp)
   simp only [List.getElem_cons_zero]at h0
   obtain ⟨rfl,rfl,hv⟩:=h0
   simp only [fillL]at h ⊢
   split at h
   case isFalse=>cases h
   rename_i hc
   rw [if_pos ⟨hv.cells.1.symm.trans hc.1,by rw [← hz.1];exact hc.2⟩]
   exact ih ps' _ _ l (splice_rel hz hv.cells.toL _) (by simpa using hl) (fun i h1 h2=>by
    have:=hp (i+1) (by simpa using h1) (by simpa using h2)
    simpa using this) h
end
end Go.Proofs.YtghcggoodgfaoaaGreatDoor

namespace Go.Proofs.YtghcggoodgfaoaaGreatDoor
open Go Go.RowKit
def flatFs (g:TypeId→Option (List Nat)) (sz:TypeId→Option Nat):List Field→Nat→Option (List Nat)
 | [],_=>some []
 | f::r,off=>if f.name≠ "_" ∧f.offset=off then (g f.type).bind fun k=>if sz f.type=some k.length then (flatFs g sz r (off+k.length)).map fun l=>k++l else none else none
def flatT (P:Program):Nat→TypeId→Option (List Nat)
 | 0,_=>none
 | d+1,t=>match P.underlying t with
  | some .bool=>some [0]
  | some (.int _)=>some [1]
  | some .string=>some [2]
  | some (.struct fs)=>if P.stoodInHeld t then none else flatFs (flatT P d) (fun t=>(P.info? t).map (·.size)) fs.toList 0
  | some (.array n e)=>(flatT P d e).bind fun k=>if (P.info? e).map (·.size)=some k.length then some (List.replicate n k).flatten else none
  | _=>none
def shapeV (agg:Bool) (l:List Value):Value:=if agg then .agg l.toArray else l.headD undef
theorem eqL_length:∀ {ks:List Nat} {a b:List Value} {r:Bool},eqL ks a b=some r→a.length=ks.length∧b.length=ks.length
 | [],[],[],_,_=>⟨rfl,rfl⟩
 | [],[],_::_,_,h=>by simp [eqL]at h
 | [],_::_,_,_,h=>by simp [eqL]at h
 | _::_,[],_,_,h=>by simp [eqL]at h
 | _::_,_::_,[],_,h=>by simp [eqL]at h
 | k::ks,x::a,y::b,r,h=>by
  simp only [eqL,Option.bind_eq_some_iff,Option.map_eq_some_iff]at h
  obtain ⟨_,_,q,hq,_⟩:=h
  have:=eqL_length hq
  simp [this]
theorem eqL_split:∀ (k1:List Nat) {k2:List Nat} {a b:List Value} {r:Bool},eqL (k1++k2) a b=some r→
  ∃ r1 r2,eqL k1 (a.take k1.length) (b.take k1.length)=some r1∧eqL k2 (a.drop k1.length) (b.drop k1.length)=some r2∧r=(r1&&r2)
 | [],k2,a,b,r,h=>⟨true,r,by simp [eqL],by simpa using h,by simp⟩
 | k::k1,k2,[],b,r,h=>by simp [eqL]at h
 | k::k1,k2,x::a,[],r,h=>by simp [eqL]at h
 | k::k1,k2,x::a,y::b,r,h=>by
  simp only [List.cons_append,eqL,Option.bind_eq_some_iff,Option.map_eq_some_iff]at h
  obtain ⟨r0,h0,q,hq,rfl⟩:=h
  obtain ⟨r1,r2,h1,h2,rfl⟩:=eqL_split k1 hq
  refine ⟨r0&&r1,r2,?_,by simpa using h2,by rw [Bool.and_assoc]⟩
  simp [eqL,h0,h1]
section
variable {P:Program} {w:World}
theorem run_part (t:TypeId) (d:TypeDesc) (i:TypeInfo) (hd:P.underlying t=some d) (hi:P.info? t=some i) (cs:Array Value) (off k:Nat) (hk:k=if aggD d then i.size else 1) (h:off+k≤cs.size) :
  (part t cs off).run P w=.ok (shapeV (aggD d) ((cs.toList.drop off).take k)) w:=by
 have ha:=run_isAgg (w:=w) t d hd
 have hz:=run_sizeOf' (w:=w) t i hi
 by_cases hagg:aggD d=true
 ·rw [if_pos hagg]at hk
  subst hk
  rw [hagg]at ha
  simp [part,ha,hz,shapeV,hagg]
  apply Array.ext'
  simp [Array.toList_extract]
 ·rw [if_neg hagg]at hk
  subst hk
  rw [Bool.eq_false_iff.2 hagg]at ha
  have hlt:off<cs.size:=by omega
  simp [part,ha,shapeV,hagg,hlt]
  rw [List.drop_eq_getElem_cons (by simpa using hlt)]
  simp
theorem eqFields_run (D:Nat) (g:TypeId→Option (List Nat)) (hg:∀ t k,g t=some k→(P.info? t).map (·.size)=some k.length→∀ a b r,eqL k a b=some r→∃ dsc,P.underlying t=some dsc∧(aggD dsc=false→k.length=1)∧(Op.equalIn D t (shapeV (aggD dsc) a) (shapeV (aggD dsc) b)).run P w=.ok r w) :
  ∀ (fs:List Field) (off:Nat) (ks:List Nat),flatFs g (fun t=>(P.info? t).map (·.size)) fs off=some ks→∀ (xs ys:Array Value) (r:Bool),off≤xs.size→eqL ks (xs.toList.drop off) (ys.toList.drop off)=some r→off≤ys.size→
   (Op.eqFields D xs ys fs).run P w=.ok r w:=by
 intro fs
 induction fs with
 | nil=>
  intro off ks h xs ys r _ he _
  obtain rfl:[]=ks:=Option.some.inj h
  obtain ⟨h1,h2⟩:=eqL_length he
  have e1:xs.toList.drop off=[]:=List.eq_nil_of_length_eq_zero h1
  have e2:ys.toList.drop off=[]:=List.eq_nil_of_length_eq_zero h2
  rw [e1,e2]at he
  simp only [eqL,Option.some.injEq]at he
  subst he
  simp [Op.eqFields]
 | cons f fs ih=>
  intro off ks h xs ys r hox he hoy
  simp only [flatFs]at h
  split at h
  case isFalse=>cases h
  rename_i hc
  obtain ⟨hname,rfl⟩:=hc
  simp only [Option.bind_eq_some_iff]at h
  obtain ⟨k,hk,h⟩:=h
  split at h
  case isFalse=>cases h
  rename_i hsz
  simp only [Option.map_eq_some_iff]at h
  obtain ⟨l,hl,rfl⟩:=h
  obtain ⟨hxl,hyl⟩:=eqL_length he
  simp only [List.length_drop,Array.length_toList,List.length_append]at hxl hyl
  obtain ⟨r1,r2,he1,he2,rfl⟩:=eqL_split k he
  obtain ⟨dsc,hd,h1,hrun⟩:=hg f.type k hk hsz _ _ r1 he1
  obtain ⟨i,hi,hisz⟩:=Option.map_eq_some_iff.1 hsz
  have hkk:k.length=if aggD dsc then i.size else 1:=by
   split
   ·exact hisz.symm
   ·rename_i hn;exact h1 (Bool.eq_false_iff.2 hn)
  have hp1:=run_part (w:=w) f.type dsc i hd hi xs f.offset k.length hkk (by omega)
  have hp2:=run_part (w:=w) f.type dsc i hd hi ys f.offset k.length hkk (by omega)
  rw [Op.eqFields,if_pos hname]
  simp only [Sem.run_bind,hp1,hp2,hrun,Result.andThen_ok]
  cases r1 with
  | false=>simp
  | true=>
   simp only [Bool.not_true,Bool.false_eq_true,if_false,Bool.true_and]
   refine ih (f.offset+k.length) l hl xs ys r2 (by omega) ?_ (by omega)
   simpa [List.drop_drop] using he2
def eqElems (D:Nat) (e:TypeId) (n:Nat) (xs ys:Array Value):List Nat→Sem Bool
 | []=>pure true
 | j::js=>do
  let a ← part e xs (j*n)
  let b ← part e ys (j*n)
  let r ← Op.equalIn D e a b
  if (!r)=true then pure false else eqElems D e n xs ys js
theorem run_equalIn_elems (d:Nat) (t:TypeId) (n:Nat) (e:TypeId) (i:TypeInfo) (xs ys:Array Value) (ht:P.underlying t=some (.array n e)) (hi:P.info? e=some i) :
  (Op.equalIn (d+1) t (.agg xs) (.agg ys)).run P w=(eqElems d e i.size xs ys (List.range' 0 n)).run P w:=by
 have hz:=run_sizeOf' (w:=w) e i hi
 simp only [Op.equalIn,Sem.run_bind,run_underlying ht,Result.andThen_ok,hz]
 rw [Std.Legacy.Range.forIn_eq_forIn_range']
 simp only [Std.Legacy.Range.size,Nat.sub_zero,Nat.add_sub_cancel,Nat.div_one]
 generalize List.range' 0 n=js
 clear hz
 induction js generalizing w with
 | nil=>simp [eqElems]
 | cons j js ih=>
  simp only [List.forIn_cons,eqElems,Sem.run_bind,Sem.run_ite]
  generalize (part e xs (j*i.size)).run P w=r1
  cases r1 with
  | ok a w1=>
   simp only [Result.andThen_ok]
   generalize (part e ys (j*i.size)).run P w1=r2
   cases r2 with
   | ok b w2=>
    simp only [Result.andThen_ok]
    generalize (Op.equalIn d e a b).run P w2=r3
    cases r3 with
    | ok r w3=>
     cases r
     ·simp only [Result.andThen_ok,Bool.not_false,if_true,Sem.run_pure]
     ·simp only [Result.andThen_ok,Bool.not_true,Bool.false_eq_true,if_false,Sem.run_pure]
      exact ih
    | halt x w3=>simp [Result.andThen]
   | halt x w2=>simp [Result.andThen]
  | halt x w1=>simp [Result.andThen]
theorem eqElems_run (D:Nat) (e:TypeId) (i:TypeInfo) (hi:P.info? e=some i) (xs ys:Array Value) (k:List Nat) (hk:i.size=k.length) (de:TypeDesc) (hde:P.underlying e=some de) (h1:aggD de=false→k.length=1)
  (hrun:∀ a b r,eqL k a b=some r→(Op.equalIn D e (shapeV (aggD de) a) (shapeV (aggD de) b)).run P w=.ok r w) :
  ∀ (m j:Nat) (r:Bool),j*k.length≤xs.size→j*k.length≤ys.size→eqL (List.replicate m k).flatten (xs.toList.drop (j*k.length)) (ys.toList.drop (j*k.length))=some r→(eqElems D e i.size xs ys (List.range' j m)).run P w=.ok r w:=by
 have hkk:k.length=if aggD de then i.size else 1:=by
  split
  ·exact hk.symm
  ·rename_i hn;exact h1 (Bool.eq_false_iff.2 hn)
 intro m
 induction m with
 | zero=>
  intro j r _ _ h
  obtain ⟨h1,h2⟩:=eqL_length h
  have e1:xs.toList.drop (j*k.length)=[]:=List.eq_nil_of_length_eq_zero (by simpa using h1)
  have e2:ys.toList.drop (j*k.length)=[]:=List.eq_nil_of_length_eq_zero (by simpa using h2)
  rw [e1,e2]at h
  simp [eqL]at h
  subst h
  simp [eqElems]
 | succ m ih=>
  intro j r hx hy h
  rw [List.replicate_succ,List.flatten_cons]at h
  obtain ⟨hxl,hyl⟩:=eqL_length h
  simp only [List.length_drop,Array.length_toList,List.length_append]at hxl hyl
  obtain ⟨r1,r2,he1,he2,rfl⟩:=eqL_split k h
  have hp1:=run_part (w:=w) e de i hde hi xs (j*k.length) k.length hkk (by omega)
  have hp2:=run_part (w:=w) e de i hde hi ys (j*k.length) k.length hkk (by omega)
  rw [List.range'_succ,eqElems]
  rw [← hk]at hp1 hp2
  rw [← hk]at he1
  simp only [Sem.run_bind,hp1,hp2,hrun _ _ _ he1,Result.andThen_ok]
  cases r1 with
  | false=>simp
  | true=>
   simp only [Bool.not_true,Bool.false_eq_true,if_false,Bool.true_and]
   refine ih (j+1) r2 (by rw [Nat.add_mul];omega) (by rw [Nat.add_mul];omega) ?_
   rw [Nat.add_mul,Nat.one_mul]
   simpa [List.drop_drop] using he2
theorem flat_eq:∀ (d:Nat) (t:TypeId) (ks:List Nat),flatT P d t=some ks→∀ (D:Nat),d≤D→∀ a b r,eqL ks a b=some r→
  ∃ dsc,P.underlying t=some dsc∧(aggD dsc=false→ks.length=1)∧(Op.equalIn D t (shapeV (aggD dsc) a) (shapeV (aggD dsc) b)).run P w=.ok r w:=by
 intro d
 induction d with
 | zero=>intro t ks h;cases h
 | succ d ih=>
  intro t ks h D hD a b r he
  obtain ⟨D,rfl⟩:∃ D',D=D'+1:=⟨D-1,by omega⟩
  rw [flatT]at h
  split at h
  ·rename_i hu
   obtain rfl:=Option.some.inj h
   refine ⟨_,hu,fun _=>rfl,?_⟩
   obtain ⟨hl1,hl2⟩:=eqL_length he
   obtain ⟨x,rfl⟩:=List.length_eq_one_iff.1 hl1
   obtain ⟨y,rfl⟩:=List.length_eq_one_iff.1 hl2
   simp only [eqL,Option.bind_eq_some_iff,Option.map_some,Option.some.injEq]at he
   obtain ⟨q,hq,rfl⟩:=he
   unfold eq1 at hq
   split at hq<;>simp at *
   subst hq
   simpa [shapeV,aggD] using run_equalIn_bool' w D t _ _ hu
  ·rename_i k0 hu
   obtain rfl:=Option.some.inj h
   refine ⟨_,hu,fun _=>rfl,?_⟩
   obtain ⟨hl1,hl2⟩:=eqL_length he
   obtain ⟨x,rfl⟩:=List.length_eq_one_iff.1 hl1
   obtain ⟨y,rfl⟩:=List.length_eq_one_iff.1 hl2
   simp only [eqL,Option.bind_eq_some_iff,Option.map_some,Option.some.injEq]at he
   obtain ⟨q,hq,rfl⟩:=he
   unfold eq1 at hq
   split at hq<;>simp at *
   obtain ⟨rfl,rfl⟩:=hq
   simpa [shapeV,aggD] using run_equalIn_int w D t _ _ _ _ hu
  ·rename_i hu
   obtain rfl:=Option.some.inj h
   refine ⟨_,hu,fun _=>rfl,?_⟩
   obtain ⟨hl1,hl2⟩:=eqL_length he
   obtain ⟨x,rfl⟩:=List.length_eq_one_iff.1 hl1
   obtain ⟨y,rfl⟩:=List.length_eq_one_iff.1 hl2
   simp only [eqL,Option.bind_eq_some_iff,Option.map_some,Option.some.injEq]at he
   obtain ⟨q,hq,rfl⟩:=he
   unfold eq1 at hq
   split at hq<;>simp at *
   subst hq
   simpa [shapeV,aggD] using run_equalIn_string w D t _ _ hu
  ·rename_i fs hu
   split at h
   ·cases h
   rename_i hst
   refine ⟨_,hu,(fun x=>by cases x),?_⟩
   have hfo:P.fieldsOf t=fs:=by simp [Program.fieldsOf,hu]
   have hs:=run_equalIn_struct w D t a.toArray b.toArray (by rw [hfo];exact hu) (by simpa using hst)
   simp only [shapeV,aggD,if_true]
   rw [hs,hfo]
   exact eqFields_run D (flatT P d) (fun t k hk _ a b r he=>ih t k hk D (by omega) a b r he) fs.toList 0 ks h a.toArray b.toArray r (Nat.zero_le _) (by simpa using he) (Nat.zero_le _)
  ·rename_i n e hu
   simp only [Option.bind_eq_some_iff]at h
   obtain ⟨k,hk,h⟩:=h
   split at h
   case isFalse=>cases h
   rename_i hsz
   obtain rfl:=Option.some.inj h
   refine ⟨_,hu,(fun x=>by cases x),?_⟩
   obtain ⟨i,hi,hisz⟩:=Option.map_eq_some_iff.1 hsz
   simp only [shapeV,aggD,if_true]
   rw [run_equalIn_elems D t n e i _ _ hu hi]
   cases n with
   | zero=>
    simp only [List.replicate_zero,List.flatten_nil]at he
    obtain ⟨h1,h2⟩:=eqL_length he
    obtain rfl:a=[]:=List.eq_nil_of_length_eq_zero (by simpa using h1)
    obtain rfl:b=[]:=List.eq_nil_of_length_eq_zero (by simpa using h2)
    simp [eqL]at he
    subst he
    simp [eqElems]
   | succ n=>
    have he0:=he
    rw [List.replicate_succ,List.flatten_cons]at he0
    obtain ⟨r1,_,h1,_,_⟩:=eqL_split k he0
    obtain ⟨de,hde,hone,_⟩:=ih e k hk D (by omega) _ _ _ h1
    refine eqElems_run D e i hi a.toArray b.toArray k hisz de hde hone (fun a b r hab=>?_) (n+1) 0 r (by simp) (by simp) (by simpa using he)
    obtain ⟨de',hde',_,hrun⟩:=ih e k hk D (by omega) a b r hab
    rw [hde]at hde'
    obtain rfl:=Option.some.inj hde'
    exact hrun
  ·cases h
end
end Go.Proofs.YtghcggoodgfaoaaGreatDoor

namespace Go.Proofs.YtghcggoodgfaoaaGreatDoor
open Go Go.RowKit
def trStruct (P:Program) (t:TypeId) (f:Nat):Option (Nat × Bool × Nat):=
 match P.underlying t with
 | some (.struct fs)=>match fs[f]? with
  | some fd=>match P.underlying fd.type,P.info? fd.type with
   | some d,some i=>if i.size≠0 then some (fd.offset,aggD d,if aggD d then i.size else 1) else none
   | _,_=>none
  | none=>none
 | _=>none
def trElem (P:Program) (t:TypeId):Option (TypeId × TypeInfo × Value):=
 match P.underlying t with
 | some (.slice e)=>match P.info? e with
  | some i=>match i.zero with
   | some z=>if z.cells.size=i.size∧flatL z.cells.toList=true then some (e,i,z) else none
   | none=>none
  | none=>none
 | _=>none
def trParts (P:Program) (t:TypeId) (parts:List (Nat × Operand)):Option (List (Nat × Nat × Operand)):=
 match P.underlying t with
 | some (.struct fs)=>(fs.toList.mapM fun f=>(P.info? f.type).map fun i=>(f.offset,i.size)).bind fun zs=>parts.mapM fun p=>(zs[p.1]?).map fun q=>(q.1,q.2,p.2)
 | some (.array _ e)=>(P.info? e).map fun i=>parts.map fun p=>(p.1*i.size,i.size,p.2)
 | _=>none
def trEq (P:Program) (neg:Bool) (t:TypeId) (x y:Operand):Option XOp:=
 match P.underlying t with
 | some (.int _)=>some (.bin (if neg then .neq else .eql) x y)
 | some .string=>some (.bin (if neg then .neq else .eql) x y)
 | some .bool=>some (.eqb neg x y)
 | some (.pointer _)=>some (.eqp neg x y)
 | some (.slice _)=>some (.eqs neg x y)
 | some (.func _ _ _)=>some (.extra (.nilF neg) [x,y])
 | some (.struct _) | some (.array _ _)=>if P.eqGuardType P.depth t then none else (flatT P 20 t).map fun ks=>.eqf ks neg x y
 | _=>none
def trCall (P:Program) (c:Call):Option XOp:=
 match c.callee,c.args.toList,c.argTypes.toList with
 | .builtin .len,[x],[t]=>match P.underlying t with
  | some (.slice _)=>some (.len x)
  | some .string=>some (.lenStr x)
  | _=>none
 | .builtin .append,[s,x],[t,u]=>if t=u then (trElem P t).map fun (e,i,_)=>.append e i.size i.bytes s x else none
 | .builtin .copy,[d,s],[t,_]=>(trElem P t).map fun (_,i,_)=>.copy i.size d s
 | .builtin .clear,[x],[t]=>(trElem P t).map fun (_,i,z)=>.clr i.size z.cells.toList x
 | .builtin .min,x::l,_=>some (.minmax false x l)
 | .builtin .max,x::l,_=>some (.minmax true x l)
 | .value (.func f),_,_=>match P.funcs[f]? with
  | some fn=>if fn.body.isSome∧(fn.name == "runtime.NumGoroutine")=false then some (.call f c.args) else none
  | none=>none
 | .value (.tmp t),_,_=>some (.callv (.tmp t) c.args)
 | _,_,_=>none
def keyT (P:Program):Nat→TypeId→Option (List Nat)
 | 0,_=>none
 | d+1,t=>match P.underlying t with
  | some .bool=>some [0]
  | some (.int _)=>some [1]
  | some .string=>some [2]
  | some (.struct fs)=>if P.stoodInHeld t then none else flatFs (keyT P d) (fun t=>(P.info? t).map (·.size)) fs.toList 0
  | _=>none
def trMapT (P:Program) (t:TypeId):Option (List Nat × Bool × TypeId):=
 match P.underlying t with
 | some (.map k e)=>(keyT P 20 k).bind fun ks=>(P.underlying k).map fun d=>(ks,aggD d,e)
 | _=>none
def trZero (P:Program) (e:TypeId):Option Value:=(P.info? e).bind fun i=>i.zero.bind fun z=>if flatV z=true then some z else none
def trLookG (P:Program) (t:TypeId):Option Value:=
 match P.underlying t with
 | some (.map k e)=>match P.underlying k with
  | some (.int .i64)=>trZero P e
  | _=>none
 | _=>none
def trExtra (P:Program) (o:Op):Option (EOp × List Operand):=
 match o with
 | .makeMap _ none=>some (.mkMap,[])
 | .lookup t x k ok=>if (gOn&&t==gTyp)=true then (trLookG P t).map fun z=>(.lookG z ok,[x,k]) else (trMapT P t).bind fun (ks,agg,e)=>(trZero P e).map fun z=>(.lookup ks agg z ok,[x,k])
 | .mapUpdate t m k x=>(trMapT P t).map fun (ks,agg,_)=>(.mapSet ks agg,[m,k,x])
 | .insert t m k x=>(trMapT P t).map fun (ks,agg,_)=>(.mapSet ks agg,[m,k,x])
 | .mapEntry t m k=>(trMapT P t).bind fun (ks,agg,e)=>(trZero P e).map fun z=>(.mapEnt ks agg z,[m,k])
 | .entryStore _ m s x=>some (.entSet,[m,s,x])
 | .range t x=>match P.underlying t with
  | some .string=>some (.iterStr,[x])
  | some (.map _ _)=>some (.iterMap,[x])
  | _=>none
 | .next it true=>some (.nextStr,[it])
 | .next it false=>some (.nextMap,[it])
 | .entry it=>some (.entMap,[it])
 | .call c=>match c.callee,c.args.toList,c.argTypes.toList with
  | .builtin .len,[x],[t]=>match P.underlying t with
   | some (.map _ _)=>some (.mapLen,[x])
   | _=>none
  | .builtin .cap,[x],[t]=>match P.underlying t with
   | some (.slice _)=>some (.capNil,[x])
   | _=>none
  | .builtin .delete,[m,k],[t,_]=>(trMapT P t).map fun (ks,agg,_)=>(.mapDel ks agg,[m,k])
  | _,_,_=>none
 | _=>none
def tr (P:Program) (o:Oper):Option XOp:=
 match o.op with
 | .move x | .assign x=>some (.mv x)
 | .pick c a b=>some (.pick c a b)
 | .box t x=>some (.box t x)
 | .alloc t=>match P.info? t with
  | some i=>match i.zero with
   | some z=>if flatL z.cells.toList=true then some (.zero t z) else none
   | none=>none
  | none=>none
 | .load t x=>match P.underlying t,P.info? t with
  | some d,some i=>some (.load (aggD d) (if aggD d then i.size else 1) x)
  | _,_=>none
 | .store t a x=>(P.info? t).map fun i=>.store i.size a x
 | .nilCheck x=>some (.nilck x)
 | .binOp .eql t x y _=>trEq P false t x y
 | .binOp .neq t x y _=>trEq P true t x y
 | .binOp op t x y _=>match P.underlying t with
  | some (.int _) | some .string=>some (.bin op x y)
  | _=>none
 | .unOp op _ x=>some (.un op x)
 | .convert src dst x=>match P.underlying src,P.underlying dst with
  | some (.int _),some (.int k)=>some (.cvi k x)
  | some .string,some .string=>some (.cvs x)
  | _,_=>none
 | .makeInterface t x=>match P.underlying t with
  | some (.interface _)=>none
  | some _=>some (.mkIface t x)
  | none=>none
 | .makeFunc (.func f) a b=>some (.mkFunc f a b)
 | .makeSlice t l c=>(trElem P t).map fun (e,i,z)=>.mkSlice e i.size i.bytes z.cells.toList l c
 | .slice t x lo hi none=>match P.underlying t with
  | some (.slice e)=>(P.info? e).map fun i=>.sl i.size x lo hi
  | some .string=>some (.slStr x lo hi)
  | _=>none
 | .fieldAddr t x f=>(trStruct P t f).map fun (off,_,_)=>.fa off x
 | .field t x f=>(trStruct P t f).map fun (off,agg,sz)=>.fld agg sz off x
 | .indexAddr t x i=>match P.underlying t with
  | some (.slice e)=>(P.info? e).map fun j=>.ia j.size x i
  | some (.array n e)=>(P.info? e).map fun j=>.iaArr n j.size x i
  | _=>none
 | .index t x i=>match P.underlying t with
  | some .string=>some (.idxStr x i)
  | some (.array n e)=>match P.underlying e,P.info? e with
   | some d,some j=>if aggD d=true∨j.size=1 then some (.idx n (aggD d) j.size x i) else none
   | _,_=>none
  | _=>none
 | .extract x i=>some (.ext x i)
 | .build t parts=>match P.info? t with
  | some i=>match i.zero with
   | some z=>if flatL z.cells.toList=true then (trParts P t parts.toList).map fun ps=>.build z.cells.toList ps else none
   | none=>none
  | none=>none
 | .buildSlice t n parts=>(trElem P t).bind fun (e,i,z)=>if n*i.size≤16777216∧0<i.size then some (.buildSlice e i.size n z.cells.toList (parts.toList.map fun p=>(p.1*i.size,i.size,p.2))) else none
 | .call c=>match trCall P c with
  | some x=>some x
  | none=>(trExtra P (.call c)).map fun (e,l)=>.extra e l
 | op=>(trExtra P op).map fun (e,l)=>.extra e l
def OutE (P:Program) (B:Nat) (φ:Emb) (S:St) (w:World) (s:Sem Next) (v:Value) (S':St):Prop:=
 ∃ φ' v' w',(s.run P w=.ok (.value v') w'∨(s.run P w=.ok .skip w'∧v'=undef))∧Rel φ' v v'∧Sim B φ' S' w'∧Keep B φ S w φ' S' w'
section
variable {P:Program} {B:Nat} {φ:Emb} {S:St} {w:World}
theorem OutE.ofV {s:Sem Value} {v:Value} {S':St} (h:OutV P B φ S w s v S'):OutE P B φ S w (do pure (.value (← s))) v S':=by
 obtain ⟨φ',v',w',h1,h2,h3,h4⟩:=h
 exact ⟨φ',v',w',.inl (by simp [h1]),h2,h3,h4⟩
theorem OutE.same {s:Sem Next} {v v':Value} (hs:Sim B φ S w) (h:s.run P w=.ok (.value v') w) (hr:Rel φ v v'):OutE P B φ S w s v S:=⟨φ,v',w,.inl h,hr,hs,Keep.refl _ _ _ _⟩
theorem int_inv {k:IntKind} {n:Int} {v':Value} (h:Rel φ (.int k n) v'):v'=.int k n:=by cases h;rfl
theorem bool_inv {b:Bool} {v':Value} (h:Rel φ (.bool b) v'):v'=.bool b:=by cases h;rfl
theorem string_inv {b:ByteArray} {v':Value} (h:Rel φ (.string b) v'):v'=.string b:=by cases h;rfl
theorem agg_inv {a:Array Value} {v':Value} (h:Rel φ (.agg a) v'):∃ a',v'=.agg a'∧RelA φ a a':=by
 cases h with
 | agg a a' ha h1=>exact ⟨a',rfl,ha,h1⟩
theorem tuple_inv {a:Array Value} {v':Value} (h:Rel φ (.tuple a) v'):∃ a',v'=.tuple a'∧RelA φ a a':=by
 cases h with
 | tuple a a' ha h1=>exact ⟨a',rfl,ha,h1⟩
theorem xbinI_run {op:BinOp} {k yk:IntKind} {a b:Int} {v:Value} (t:TypeId) (h:xbinI op k yk a b=some v):(binOp op t (.int k a) (.int yk b)).run P w=.ok v w:=by
 unfold xbinI at h
 cases op<;>simp only at h
 case shl=>split at h<;>simp at h;rename_i hb;subst h;simp [binOp,Op.shift,hb]
 case shr=>split at h<;>simp at h;rename_i hb;subst h;simp [binOp,Op.shift,hb]
 case quo=>split at h<;>simp at h;rename_i hb;obtain ⟨rfl,hb⟩:=hb;subst h;simp [binOp,Op.intDiv,hb]
 case rem=>split at h<;>simp at h;rename_i hb;obtain ⟨rfl,hb⟩:=hb;subst h;simp [binOp,Op.intDiv,hb]
 all_goals (split at h<;>simp at h;rename_i hb;subst hb;subst h;simp [binOp,Op.intArith,Op.intBits,Op.intCmp])
theorem xbinS_run {op:BinOp} {a b:ByteArray} {v:Value} (t:TypeId) (h:xbinS op a b=some v):(binOp op t (.string a) (.string b)).run P w=.ok v w:=by
 unfold xbinS at h
 cases op<;>simp only at h
 case add=>
  split at h<;>simp at h
  rename_i hb
  subst h
  have:¬ (9223372036854775807<((a.size:Int)+(b.size:Int))):=by omega
  simp [binOp,Op.stringOp,this]
 all_goals first
  | (cases h;done)
  | (obtain rfl:=Option.some.inj h;simp [binOp,Op.stringOp])
theorem xbin_inv {op:BinOp} {x y v:Value} (h:xbin op x y=some v):(∃ k yk a b,x=.int k a∧y=.int yk b∧xbinI op k yk a b=some v)∨(∃ a b,x=.string a∧y=.string b∧xbinS op a b=some v):=by
 unfold xbin at h
 split at h
 ·exact .inl ⟨_,_,_,_,rfl,rfl,h⟩
 ·exact .inr ⟨_,_,rfl,rfl,h⟩
 ·cases h
theorem xbinI_flat {op:BinOp} {k yk:IntKind} {a b:Int} {v:Value} (h:xbinI op k yk a b=some v) (φ:Emb):Rel φ v v:=by
 unfold xbinI at h
 cases op<;>simp only at h<;>(split at h<;>first | (cases h;done)|(obtain rfl:=Option.some.inj h;constructor))
theorem xbinS_flat {op:BinOp} {a b:ByteArray} {v:Value} (h:xbinS op a b=some v) (φ:Emb):Rel φ v v:=by
 unfold xbinS at h
 cases op<;>simp only at h<;>first
  | (cases h;done)
  | (obtain rfl:=Option.some.inj h;constructor)
  | (split at h<;>first | (cases h;done)|(obtain rfl:=Option.some.inj h;constructor))
theorem eqGuard_plain (op:BinOp) (t:TypeId) (x y:Operand) (a b:Value) (h:(match a,b with | .nilIface,.nilIface=>false | .agg _,.agg _=>false | _,_=>true)=true):(eqGuard op t x y a b).run P w=.ok () w:=by
 unfold eqGuard
 cases op<;>simp
 all_goals (split<;>first | rfl | (simp at h;done) | simp_all)
theorem bin_sound (hs:Sim B φ S w) {op:BinOp} {t:TypeId} {x y:Operand} {ρa ρc:Operand→Value} (hx:Rel φ (ρa x) (ρc x)) (hy:Rel φ (ρa y) (ρc y)) {v:Value} (h:xbin op (ρa x) (ρa y)=some v) :
  OutE P B φ S w (do pure (.value (← do eqGuard op t x y (ρc x) (ρc y);binOp op t (ρc x) (ρc y)))) v S:=by
 rcases xbin_inv h with ⟨k,yk,a,b,e1,e2,e3⟩|⟨a,b,e1,e2,e3⟩
 ·rw [e1]at hx
  rw [e2]at hy
  rw [int_inv hx,int_inv hy]
  refine OutE.same hs (v':=v) ?_ (xbinI_flat e3 φ)
  have hg:=eqGuard_plain (P:=P) (w:=w) op t x y (.int k a) (.int yk b) rfl
  simp [hg,xbinI_run t e3]
 ·rw [e1]at hx
  rw [e2]at hy
  rw [string_inv hx,string_inv hy]
  refine OutE.same hs (v':=v) ?_ (xbinS_flat e3 φ)
  have hg:=eqGuard_plain (P:=P) (w:=w) op t x y (.string a) (.string b) rfl
  simp [hg,xbinS_run t e3]
end
end Go.Proofs.YtghcggoodgfaoaaGreatDoor

namespace Go.Proofs.YtghcggoodgfaoaaGreatDoor
open Go Go.RowKit
section
variable {P:Program} {B:Nat} {φ:Emb} {S:St} {w:World}
theorem RelL.tail {x x':Value} {a a':List Value} (h:RelL φ (x::a) (x'::a')):RelL φ a a':=
 ⟨by simpa using h.1,fun i h1 h2=>by
  have:=h.2 (i+1) (by simpa using h1) (by simpa using h2)
  simp only [List.getElem_cons_succ]at this
  exact this⟩
theorem eqL_flat:∀ {ks:List Nat} {a b:List Value} {r:Bool},eqL ks a b=some r→∀ φ,∀ {a' b':List Value},RelL φ a a'→RelL φ b b'→a'=a∧b'=b
 | [],[],[],_,_,φ,a',b',ha,hb=>⟨List.eq_nil_of_length_eq_zero ha.1.symm,List.eq_nil_of_length_eq_zero hb.1.symm⟩
 | [],[],_::_,_,h,_,_,_,_,_=>by simp [eqL]at h
 | [],_::_,_,_,h,_,_,_,_,_=>by simp [eqL]at h
 | _::_,[],_,_,h,_,_,_,_,_=>by simp [eqL]at h
 | _::_,_::_,[],_,h,_,_,_,_,_=>by simp [eqL]at h
 | k::ks,x::a,y::b,r,h,φ,a',b',ha,hb=>by
  simp only [eqL,Option.bind_eq_some_iff,Option.map_eq_some_iff]at h
  obtain ⟨r0,h0,q,hq,_⟩:=h
  cases a' with
  | nil=>have:=ha.1;simp at this
  | cons x' a'=>
   cases b' with
   | nil=>have:=hb.1;simp at this
   | cons y' b'=>
    have hx:=ha.2 0 (by simp) (by simp)
    have hy:=hb.2 0 (by simp) (by simp)
    simp only [List.getElem_cons_zero]at hx hy
    obtain ⟨rfl,rfl⟩:=eqL_flat hq φ (a':=a') (b':=b') ha.tail hb.tail
    unfold eq1 at h0
    split at h0
    ·cases hx;cases hy;exact ⟨rfl,rfl⟩
    ·cases hx;cases hy;exact ⟨rfl,rfl⟩
    ·cases hx;cases hy;exact ⟨rfl,rfl⟩
    ·cases h0
theorem eqf_sound (hs:Sim B φ S w) {neg:Bool} {t:TypeId} {x y:Operand} {ρa ρc:Operand→Value} (hx:Rel φ (ρa x) (ρc x)) (hy:Rel φ (ρa y) (ρc y)) (hg:P.eqGuardType P.depth t=false) {ks:List Nat} (hf:flatT P 20 t=some ks)
  (hagg:∀ d,P.underlying t=some d→aggD d=true) {a b:Array Value} (ea:ρa x=.agg a) (eb:ρa y=.agg b) {r:Bool} (h:eqL ks a.toList b.toList=some r) :
  OutE P B φ S w (do pure (.value (← do eqGuard (if neg then .neq else .eql) t x y (ρc x) (ρc y);binOp (if neg then .neq else .eql) t (ρc x) (ρc y)))) (.bool (notIf neg r)) S:=by
 rw [ea]at hx
 rw [eb]at hy
 obtain ⟨a',e1,ha⟩:=agg_inv hx
 obtain ⟨b',e2,hb⟩:=agg_inv hy
 obtain ⟨e3,e4⟩:=eqL_flat h φ ha.toL hb.toL
 have e3:a'=a:=Array.ext' e3
 have e4:b'=b:=Array.ext' e4
 subst e3
 subst e4
 rw [e1,e2]
 obtain ⟨dsc,hd,_,hrun⟩:=flat_eq (P:=P) (w:=w) 20 t ks hf 10000 (by omega) a'.toList b'.toList r h
 rw [hagg dsc hd]at hrun
 simp only [shapeV,if_true,Array.toArray_toList]at hrun
 refine OutE.same hs (v':=.bool (notIf neg r)) ?_ (.bool _)
 have hgu:=fun op=>run_eqGuard_agg (P:=P) w op t x y a' b' hg
 cases neg with
 | false=>
  have:=run_eql_struct (P:=P) w t a' b'
  rw [hrun]at this
  simp [hgu,this,notIf]
 | true=>
  have:=run_neq_struct (P:=P) w t a' b'
  rw [hrun]at this
  simp [hgu,this,notIf]
theorem eqb_sound (hs:Sim B φ S w) {neg:Bool} {t:TypeId} {x y:Operand} {ρa ρc:Operand→Value} (hx:Rel φ (ρa x) (ρc x)) (hy:Rel φ (ρa y) (ρc y)) (hu:P.underlying t=some .bool) {a b:Bool} (ea:ρa x=.bool a) (eb:ρa y=.bool b) :
  OutE P B φ S w (do pure (.value (← do eqGuard (if neg then .neq else .eql) t x y (ρc x) (ρc y);binOp (if neg then .neq else .eql) t (ρc x) (ρc y)))) (.bool (notIf neg (a==b))) S:=by
 rw [ea]at hx
 rw [eb]at hy
 rw [bool_inv hx,bool_inv hy]
 refine OutE.same hs (v':=.bool (notIf neg (a==b))) ?_ (.bool _)
 have hg:=fun op=>eqGuard_plain (P:=P) (w:=w) op t x y (.bool a) (.bool b) rfl
 have hr:=run_equalIn_bool' (P:=P) w 9999 t a b hu
 cases neg<;>simp [hg,binOp,Op.equal,Op.maxDepth,hr,notIf]
theorem eqp_sound (hs:Sim B φ S w) {neg:Bool} {t e:TypeId} {x y:Operand} {ρa ρc:Operand→Value} (hx:Rel φ (ρa x) (ρc x)) (hy:Rel φ (ρa y) (ρc y)) (hu:P.underlying t=some (.pointer e)) {p:Option Addr} (ea:ρa x=.pointer p) (eb:ρa y=.pointer none) :
  OutE P B φ S w (do pure (.value (← do eqGuard (if neg then .neq else .eql) t x y (ρc x) (ρc y);binOp (if neg then .neq else .eql) t (ρc x) (ρc y)))) (.bool (notIf neg p.isNone)) S:=by
 rw [ea]at hx
 rw [eb]at hy
 have ey:ρc y=.pointer none:=by revert hy;generalize ρc y=q;intro hy;cases hy;rfl
 obtain ⟨p',ex,hp⟩:∃ p',ρc x=.pointer p'∧p'.isNone=p.isNone:=by
  revert hx
  generalize ρc x=q
  intro hx
  cases hx with
  | ptrNil=>exact ⟨none,rfl,rfl⟩
  | ptr id o s h=>exact ⟨_,rfl,rfl⟩
 rw [ex,ey,← hp]
 refine OutE.same hs (v':=.bool (notIf neg p'.isNone)) ?_ (.bool _)
 have hg:=fun op=>eqGuard_plain (P:=P) (w:=w) op t x y (.pointer p') (.pointer none) rfl
 have hr0:∀ D,(Op.equalIn (D+1) t (.pointer p') (.pointer none)).run P w=.ok p'.isNone w:=by
  intro D
  cases p'<;>simp [Op.equalIn,run_underlying hu]
 have hr:=hr0 9999
 cases neg<;>simp [hg,binOp,Op.equal,Op.maxDepth,hr,notIf]
theorem eqs_sound (hs:Sim B φ S w) {neg:Bool} {t e:TypeId} {x y:Operand} {ρa ρc:Operand→Value} (hx:Rel φ (ρa x) (ρc x)) (hy:Rel φ (ρa y) (ρc y)) (hu:P.underlying t=some (.slice e)) {p:Option Addr} {n c n' c':Nat} (ea:ρa x=.slice p n c) (eb:ρa y=.slice none n' c') :
  OutE P B φ S w (do pure (.value (← do eqGuard (if neg then .neq else .eql) t x y (ρc x) (ρc y);binOp (if neg then .neq else .eql) t (ρc x) (ρc y)))) (.bool (notIf neg p.isNone)) S:=by
 rw [ea]at hx
 rw [eb]at hy
 have ey:ρc y=.slice none 0 0:=by revert hy;generalize ρc y=q;intro hy;cases hy;rfl
 obtain ⟨p',n1,c1,ex,hp⟩:∃ p' n1 c1,ρc x=.slice p' n1 c1∧p'.isNone=p.isNone:=by
  revert hx
  generalize ρc x=q
  intro hx
  cases hx with
  | sliceNil=>exact ⟨none,_,_,rfl,rfl⟩
  | slice id o n c c' s h hn hc he=>exact ⟨_,_,_,rfl,rfl⟩
  | sliceEnd id o x s h=>exact ⟨_,_,_,rfl,rfl⟩
 rw [ex,ey,← hp]
 refine OutE.same hs (v':=.bool (notIf neg p'.isNone)) ?_ (.bool _)
 have hg:=fun op=>eqGuard_plain (P:=P) (w:=w) op t x y (.slice p' n1 c1) (.slice none 0 0) rfl
 have hr0:∀ D,(Op.equalIn (D+1) t (.slice p' n1 c1) (.slice none 0 0)).run P w=.ok p'.isNone w:=by
  intro D
  cases p'<;>simp [Op.equalIn,run_underlying hu]
 have hr:=hr0 9999
 cases neg<;>simp [hg,binOp,Op.equal,Op.maxDepth,hr,notIf]
theorem nilF_inv {neg:Bool} {l:List Value} {v:Value} {S':St} (h:xextra (.nilF neg) l S=some (v,S')):∃ x b,l=[x,.nilFunc]∧isNilF x=some b∧v=.bool (notIf neg b)∧S'=S:=by
 unfold xextra at h
 split at h
 all_goals first | contradiction | skip
 rename_i x e1
 obtain rfl:=EOp.nilF.inj e1
 simp only [Option.map_eq_some_iff,Prod.mk.injEq]at h
 obtain ⟨b,hb,rfl,rfl⟩:=h
 exact ⟨x,b,rfl,hb,rfl,rfl⟩
theorem eqfn_sound (hs:Sim B φ S w) {neg:Bool} {t:TypeId} {ps rs:Array TypeId} {va:Bool} {x y:Operand} {ρa ρc:Operand→Value} (hx:Rel φ (ρa x) (ρc x)) (hy:Rel φ (ρa y) (ρc y)) (hu:P.underlying t=some (.func ps rs va)) {b:Bool} (ea:isNilF (ρa x)=some b) (eb:ρa y=.nilFunc) :
  OutE P B φ S w (do pure (.value (← do eqGuard (if neg then .neq else .eql) t x y (ρc x) (ρc y);binOp (if neg then .neq else .eql) t (ρc x) (ρc y)))) (.bool (notIf neg b)) S:=by
 rw [eb]at hy
 have ey:ρc y=.nilFunc:=by revert hy;generalize ρc y=q;intro hy;cases hy;rfl
 have ex:(ρc x=.nilFunc∧b=true)∨∃ f fa fb,ρc x=.func f fa fb∧b=false:=by
  revert hx ea
  generalize ρc x=q
  generalize ρa x=q0
  intro hx ea
  unfold isNilF at ea
  split at ea
  ·cases hx;exact .inl ⟨rfl,(Option.some.inj ea).symm⟩
  ·cases hx;exact .inr ⟨_,_,_,rfl,(Option.some.inj ea).symm⟩
  ·cases ea
 rw [ey]
 refine OutE.same hs (v':=.bool (notIf neg b)) ?_ (.bool _)
 rcases ex with ⟨e,rfl⟩|⟨f,fa,fb,e,rfl⟩
 ·rw [e]
  have hg:=fun op=>eqGuard_plain (P:=P) (w:=w) op t x y .nilFunc .nilFunc rfl
  have hr0:∀ D,(Op.equalIn (D+1) t .nilFunc .nilFunc).run P w=.ok true w:=by
   intro D
   simp [Op.equalIn,run_underlying hu]
  have hr:=hr0 9999
  cases neg<;>simp [hg,binOp,Op.equal,Op.maxDepth,hr,notIf]
 ·rw [e]
  have hg:=fun op=>eqGuard_plain (P:=P) (w:=w) op t x y (.func f fa fb) .nilFunc rfl
  have hr0:∀ D,(Op.equalIn (D+1) t (.func f fa fb) .nilFunc).run P w=.ok false w:=by
   intro D
   simp [Op.equalIn,run_underlying hu]
  have hr:=hr0 9999
  cases neg<;>simp [hg,binOp,Op.equal,Op.maxDepth,hr,notIf]
theorem trEq_sound (hs:Sim B φ S w) {neg:Bool} {t:TypeId} {x y:Operand} {xo:XOp} (ht:trEq P neg t x y=some xo) {ρa ρc:Operand→Value} (hx:Rel φ (ρa x) (ρc x)) (hy:Rel φ (ρa y) (ρc y)) {v:Value} {S':St} (h:xop xo ρa S=some (v,S')) :
  OutE P B φ S w (do pure (.value (← do eqGuard (if neg then .neq else .eql) t x y (ρc x) (ρc y);binOp (if neg then .neq else .eql) t (ρc x) (ρc y)))) v S':=by
 unfold trEq at ht
 split at ht
 ·rename_i hu
  obtain rfl:=Option.some.inj ht
  simp only [xop,Option.map_eq_some_iff,Prod.mk.injEq]at h
  obtain ⟨v0,h,rfl,rfl⟩:=h
  exact bin_sound hs hx hy h
 ·rename_i hu
  obtain rfl:=Option.some.inj ht
  simp only [xop,Option.map_eq_some_iff,Prod.mk.injEq]at h
  obtain ⟨v0,h,rfl,rfl⟩:=h
  exact bin_sound hs hx hy h
 ·rename_i hu
  obtain rfl:=Option.some.inj ht
  simp only [xop]at h
  split at h
  ·rename_i a b ea eb
   obtain ⟨rfl,rfl⟩:=Prod.mk.inj (Option.some.inj h)
   exact eqb_sound hs hx hy hu ea eb
  ·cases h
 ·rename_i hu
  obtain rfl:=Option.some.inj ht
  simp only [xop]at h
  split at h
  ·rename_i a ea eb
   obtain ⟨rfl,rfl⟩:=Prod.mk.inj (Option.some.inj h)
   exact eqp_sound hs hx hy hu ea eb
  ·cases h
 ·rename_i hu
  obtain rfl:=Option.some.inj ht
  simp only [xop]at h
  split at h
  ·rename_i a _ _ _ _ ea eb
   obtain ⟨rfl,rfl⟩:=Prod.mk.inj (Option.some.inj h)
   exact eqs_sound hs hx hy hu ea eb
  ·cases h
 ·rename_i hu
  obtain rfl:=Option.some.inj ht
  simp only [xop,List.map_cons,List.map_nil]at h
  obtain ⟨q,b,e1,e2,rfl,rfl⟩:=nilF_inv h
  simp only [List.cons.injEq,and_true]at e1
  exact eqfn_sound hs hx hy hu (by rw [e1.1];exact e2) e1.2
 ·rename_i hu
  split at ht
  ·cases ht
  rename_i hg
  simp only [Option.map_eq_some_iff]at ht
  obtain ⟨ks,hks,rfl⟩:=ht
  simp only [xop]at h
  split at h
  ·rename_i a b ea eb
   simp only [Option.map_eq_some_iff,Prod.mk.injEq]at h
   obtain ⟨r,h,rfl,rfl⟩:=h
   exact eqf_sound hs hx hy (by simpa using hg) hks (fun d hd=>by rw [hu]at hd;rw [← Option.some.inj hd];rfl) ea eb h
  ·cases h
 ·rename_i hu
  split at ht
  ·cases ht
  rename_i hg
  simp only [Option.map_eq_some_iff]at ht
  obtain ⟨ks,hks,rfl⟩:=ht
  simp only [xop]at h
  split at h
  ·rename_i a b ea eb
   simp only [Option.map_eq_some_iff,Prod.mk.injEq]at h
   obtain ⟨r,h,rfl,rfl⟩:=h
   exact eqf_sound hs hx hy (by simpa using hg) hks (fun d hd=>by rw [hu]at hd;rw [← Option.some.inj hd];rfl) ea eb h
  ·cases h
 ·cases ht
theorem part1_rel {agg:Bool} {l l':List Value} {v:Value} (h:part1 agg l=some v) (hr:RelL φ l l'):part1 agg l'=some (shapeV agg l')∧Rel φ v (shapeV agg l'):=by
 unfold part1 at *
 unfold shapeV
 cases agg with
 | true=>
  simp only [if_true,Option.some.injEq]at h ⊢
  subst h
  exact ⟨trivial,.agg' hr.toA⟩
 | false=>
  simp only [Bool.false_eq_true,if_false]at h ⊢
  obtain rfl:=one_inv h
  obtain ⟨v',rfl⟩:=List.length_eq_one_iff.1 hr.1.symm
  exact ⟨rfl,by simpa using hr.2 0 (by simp) (by simp)⟩
theorem fld_sound (hs:Sim B φ S w) {t:TypeId} {f off sz:Nat} {agg:Bool} (ht:trStruct P t f=some (off,agg,sz)) {a:Array Value} {x' v:Value} (hx:Rel φ (.agg a) x') (hle:off+sz≤a.size) (h:part1 agg ((a.toList.drop off).take sz)=some v) :
  OutV P B φ S w (Instr.field t x' f) v S:=by
 unfold trStruct at ht
 split at ht
 case h_2=>cases ht
 rename_i fs hu
 split at ht
 case h_2=>cases ht
 rename_i fd hfd
 split at ht
 case h_2=>cases ht
 rename_i d i hd hi
 split at ht
 case isFalse=>cases ht
 simp only [Option.some.injEq,Prod.mk.injEq]at ht
 obtain ⟨rfl,rfl,rfl⟩:=ht
 obtain ⟨a',rfl,ha⟩:=agg_inv hx
 have hp:=run_part (w:=w) fd.type d i hd hi a' fd.offset _ rfl (by rw [← ha.1];exact hle)
 obtain ⟨h1,h2⟩:=part1_rel h ((ha.toL.drop fd.offset).take _)
 refine OutV.same hs ?_ h2
 simp [Instr.field,run_underlying hu,hfd,asAgg,hp]
theorem fa_sound (hs:Sim B φ S w) {t:TypeId} {f off sz:Nat} {agg:Bool} (ht:trStruct P t f=some (off,agg,sz)) {id o:Nat} {x':Value} (hx:Rel φ (.pointer (some ⟨id,o,none⟩)) x') :
  OutV P B φ S w (Instr.fieldAt t x' f) (.pointer (some ⟨id,o+off,none⟩)) S:=by
 unfold trStruct at ht
 split at ht
 case h_2=>cases ht
 rename_i fs hu
 split at ht
 case h_2=>cases ht
 rename_i fd hfd
 split at ht
 case h_2=>cases ht
 rename_i d i hd hi
 split at ht
 case isFalse=>cases ht
 rename_i hne
 simp only [Option.some.injEq,Prod.mk.injEq]at ht
 obtain ⟨rfl,rfl,rfl⟩:=ht
 obtain ⟨s,e,rfl⟩:=ptr_inv hx
 have hz:=run_sizeOf' (w:=w) fd.type i hi
 refine OutV.same hs (v':=.pointer (some ⟨s.b,s.base+(o+fd.offset),none⟩)) ?_ (.ptr id (o+fd.offset) s e)
 simp [Instr.fieldAt,run_underlying hu,hfd,Instr.sureAddr,fieldPlace,hz,hne,Addr.add_lit,Nat.add_assoc]
theorem ia_sound (hs:Sim B φ S w) {t e:TypeId} {j:TypeInfo} (hu:P.underlying t=some (.slice e)) (hj:P.info? e=some j) {id o n c:Nat} {x':Value} (hx:Rel φ (.slice (some ⟨id,o,none⟩) n c) x') {k:IntKind} {i:Int} (h0:0≤i) (h1:i<n) :
  OutV P B φ S w (Instr.indexAt t x' (.int k i)) (.pointer (some ⟨id,o+i.toNat*j.size,none⟩)) S:=by
 obtain ⟨s,x,c',e1,rfl,hn,hcc,hnc,hor⟩:=slice_inv hx
 have hpos:x=s.base+o:=by
  rcases hor with h | ⟨h1,h2,h3⟩
  ·exact h.1
  ·omega
 subst hpos
 have hz:=run_sizeOf' (w:=w) e j hj
 refine OutV.same hs (v':=.pointer (some ⟨s.b,s.base+(o+i.toNat*j.size),none⟩)) ?_ (.ptr id _ s e1)
 simp [Instr.indexAt,asIntOf,run_underlying hu,h0,h1,hz,Addr.add_lit,Nat.add_assoc]
theorem iaArr_sound (hs:Sim B φ S w) {t e:TypeId} {j:TypeInfo} {n:Nat} (hu:P.underlying t=some (.array n e)) (hj:P.info? e=some j) {id o:Nat} {x':Value} (hx:Rel φ (.pointer (some ⟨id,o,none⟩)) x') {k:IntKind} {i:Int} (h0:0≤i) (h1:i<n) :
  OutV P B φ S w (Instr.indexAt t x' (.int k i)) (.pointer (some ⟨id,o+i.toNat*j.size,none⟩)) S:=by
 obtain ⟨s,e1,rfl⟩:=ptr_inv hx
 have hz:=run_sizeOf' (w:=w) e j hj
 refine OutV.same hs (v':=.pointer (some ⟨s.b,s.base+(o+i.toNat*j.size),none⟩)) ?_ (.ptr id _ s e1)
 simp [Instr.indexAt,asIntOf,run_underlying hu,h0,h1,hz,Instr.sureAddr,Addr.add_lit,Nat.add_assoc]
theorem idx_sound (hs:Sim B φ S w) {t e:TypeId} {d:TypeDesc} {j:TypeInfo} {n:Nat} (hu:P.underlying t=some (.array n e)) (hd:P.underlying e=some d) (hj:P.info? e=some j) (hone:aggD d=true∨j.size=1) {a:Array Value} {x' v:Value} (hx:Rel φ (.agg a) x') {k:IntKind} {i:Int} (h0:0≤i) (h1:i<n)
  (hle:i.toNat*j.size+j.size≤a.size) (h:part1 (aggD d) ((a.toList.drop (i.toNat*j.size)).take j.size)=some v):OutV P B φ S w (Instr.index t x' (.int k i)) v S:=by
 obtain ⟨a',rfl,ha⟩:=agg_inv hx
 have hz:=run_sizeOf' (w:=w) e j hj
 have hk:j.size=if aggD d then j.size else 1:=by
  split
  ·rfl
  ·rename_i hn;exact hone.resolve_left hn
 have hp:=run_part (w:=w) e d j hd hj a' (i.toNat*j.size) j.size hk (by rw [← ha.1];exact hle)
 obtain ⟨h2,h3⟩:=part1_rel h ((ha.toL.drop (i.toNat*j.size)).take _)
 refine OutV.same hs ?_ h3
 simp [Instr.index,asIntOf,run_underlying hu,h0,h1,hz,hp]
theorem bound_run {v:Option Value} {d l y:Nat} (h:bound v d=some l) (hle:l≤y) (code:BoundsCode):∀ u,v=some u→(Instr.sliceBound u y code).run P w=.ok l w:=by
 intro u hu
 subst hu
 unfold bound at h
 split at h
 ·rename_i e;cases e
 ·rename_i k i e
  obtain rfl:=Option.some.inj e
  split at h
  case isFalse=>cases h
  rename_i h0
  obtain rfl:=Option.some.inj h
  have:i≤(y:Int):=by omega
  simp [Instr.sliceBound,asIntOf,h0,this]
 ·cases h
theorem bounds_run {lo hi:Option Value} {l h n c:Nat} (isS:Bool) (hl:bound lo 0=some l) (hh:bound hi n=some h) (h1:l≤h) (h2:h≤c):(Instr.sliceBounds isS n c lo hi none).run P w=.ok (l,h,c) w:=by
 cases lo with
 | none=>
  cases hi with
  | none=>
   simp [bound]at hl hh
   subst hl;subst hh
   simp [Instr.sliceBounds]
  | some u=>
   simp [bound]at hl
   subst hl
   have:=fun code=>bound_run (P:=P) (w:=w) hh h2 code u rfl
   simp [Instr.sliceBounds,this]
 | some u=>
  cases hi with
  | none=>
   simp [bound]at hh
   subst hh
   have:=fun code=>bound_run (P:=P) (w:=w) hl h1 code u rfl
   simp [Instr.sliceBounds,this]
  | some u2=>
   have h3:=fun code=>bound_run (P:=P) (w:=w) hl h1 code u rfl
   have h4:=fun code=>bound_run (P:=P) (w:=w) hh h2 code u2 rfl
   simp [Instr.sliceBounds,h3,h4]
theorem bound_rel {v v':Option Value} {d l:Nat} (h:bound v d=some l) (hr:∀ u,v=some u→∃ u',v'=some u'∧Rel φ u u') (hn:v=none→v'=none):bound v' d=some l:=by
 cases v with
 | none=>rw [hn rfl];exact h
 | some u=>
  obtain ⟨u',rfl,hu⟩:=hr u rfl
  unfold bound at h ⊢
  split at h
  ·rename_i e;cases e
  ·rename_i k i e
   obtain rfl:=Option.some.inj e
   rw [int_inv hu]
   exact h
  ·cases h
theorem bound_opd {o:Option Operand} {ρa ρc:Operand→Value} {d l:Nat} (h:bound (o.map ρa) d=some l) (hr:∀ x,o=some x→Rel φ (ρa x) (ρc x)):bound (o.map ρc) d=some l:=by
 cases o with
 | none=>exact h
 | some x=>exact bound_rel (φ:=φ) h (fun u hu=>⟨ρc x,rfl,by simp at hu;rw [← hu];exact hr x rfl⟩) (fun e=>by simp at e)
theorem sl_exact (hs:Sim B φ S w) {t e:TypeId} {j:TypeInfo} (hu:P.underlying t=some (.slice e)) (hj:P.info? e=some j) {x x':Value} (hx:Rel φ x x') {lo' hi':Option Value} {a:Option Addr} {n c l h:Nat} (ex:x=.slice a n c)
  (hl:bound lo' 0=some l) (hh:bound hi' n=some h) (h1:l≤h) (h2:h≤c) {v:Value}
  (hv:slRes S j.size l h c a=some (v,S)):∃ v',(Instr.sliceAt t x' lo' hi' none).run P w=.ok v' w∧Rel φ v v':=by
 subst ex
 have hz:=run_sizeOf' (w:=w) e j hj
 cases a with
 | none=>
  cases hx
  simp [slRes]at hv
  subst hv
  have hb:=bounds_run (P:=P) (w:=w) true hl hh h1 h2
  have:l=0:=by omega
  have:h=0:=by omega
  subst l;subst h
  refine ⟨.slice none 0 0,?_,.sliceNil⟩
  simp [Instr.sliceAt,Instr.slice,run_underlying hu,hb,hz]
 | some ad=>
  obtain ⟨id,o,sp⟩:=ad
  cases sp with
  | some q=>simp [slRes]at hv
  | none=>
   simp [slRes]at hv
   obtain ⟨hwd,rfl⟩:=hv
   obtain ⟨s,x,c',e1,rfl,hn,hcc,hnc,hor⟩:=slice_inv hx
   have hsj:l*j.size=l*s.sz:=by
    obtain ⟨z1,hwd,hz1⟩:=slFit_inv hwd
    unfold St.width at hwd
    split at hwd
    ·rename_i cc t2 z m an hget
     rw [hz1,← Option.some.inj hwd,(hs.blk id s cc t2 z m an e1 hget).1]
    ·cases hwd
   have hb:=bounds_run (P:=P) (w:=w) true hl hh h1 (by omega:h≤c')
   by_cases hend:c'=l
   ·
    subst hend
    have hc0:c-c'=0:=by omega
    have hh0:h-c'=0:=by omega
    refine ⟨.slice (some ⟨s.b,x,none⟩) 0 0,?_,(by rw [hc0,hh0];exact .sliceEnd id _ x s e1)⟩
    simp [Instr.sliceAt,Instr.slice,run_underlying hu,hb,hz,hh0]
   ·rcases hor with ⟨rfl,hext⟩|⟨r1,r2,r3⟩
    ·have hsz:(c'-l)*s.sz+l*s.sz=c'*s.sz:=by rw [← Nat.add_mul];congr 1;omega
     refine ⟨.slice (some ⟨s.b,s.base+(o+l*j.size),none⟩) (h-l) (c'-l),?_,(.slice id (o+l*j.size) (h-l) (c-l) (c'-l) s e1 (by omega) (by omega) (by rw [hsj];omega))⟩
     simp [Instr.sliceAt,Instr.slice,run_underlying hu,hb,hz,hend,Addr.add_lit,Nat.add_assoc]
    ·omega
theorem sl_sound (hs:Sim B φ S w) {t e:TypeId} {j:TypeInfo} (hu:P.underlying t=some (.slice e)) (hj:P.info? e=some j) {x x':Value} (hx:Rel φ x x') {lo' hi':Option Value} {a:Option Addr} {n c l h:Nat} (ex:x=.slice a n c)
  (hl:bound lo' 0=some l) (hh:bound hi' n=some h) (h1:l≤h) (h2:h≤c) {v:Value}
  (hv:slRes S j.size l h c a=some (v,S)):OutV P B φ S w (Instr.sliceAt t x' lo' hi' none) v S:=by
 obtain ⟨v',q1,q2⟩:=sl_exact (P:=P) hs hu hj hx ex hl hh h1 h2 hv
 exact OutV.same hs q1 q2
end
end Go.Proofs.YtghcggoodgfaoaaGreatDoor

set_option linter.unusedVariables false
namespace Go.Proofs.YtghcggoodgfaoaaGreatDoor
open Go Go.RowKit
section
variable {P:Program} {B:Nat} {φ:Emb} {S:St} {w:World}
theorem flatFs_le {g g':TypeId→Option (List Nat)} {sz:TypeId→Option Nat} (hg:∀ t k,g t=some k→g' t=some k):∀ (fs:List Field) (off:Nat) (ks:List Nat),flatFs g sz fs off=some ks→flatFs g' sz fs off=some ks:=by
 intro fs
 induction fs with
 | nil=>intro off ks h;exact h
 | cons f fs ih=>
  intro off ks h
  simp only [flatFs]at h ⊢
  split at h
  ·rename_i hc
   rw [if_pos hc]
   simp only [Option.bind_eq_some_iff]at h ⊢
   obtain ⟨k,hk,h⟩:=h
   refine ⟨k,hg _ _ hk,?_⟩
   split at h
   ·rename_i hs
    rw [if_pos hs]
    simp only [Option.map_eq_some_iff]at h ⊢
    obtain ⟨l,hl,rfl⟩:=h
    exact ⟨l,ih _ _ hl,rfl⟩
   ·cases h
  ·cases h
theorem keyT_flat:∀ (d:Nat) (t:TypeId) (ks:List Nat),keyT P d t=some ks→flatT P d t=some ks:=by
 intro d
 induction d with
 | zero=>intro t ks h;cases h
 | succ d ih=>
  intro t ks h
  rw [keyT]at h
  rw [flatT]
  split at h
  ·rename_i hu;simp only [hu];exact h
  ·rename_i hu;simp only [hu];exact h
  ·rename_i hu;simp only [hu];exact h
  ·rename_i fs hu
   simp only [hu]
   split at h
   ·cases h
   ·rename_i hst
    rw [if_neg hst]
    exact flatFs_le ih _ _ _ h
  ·cases h
def chkFields (em:Bool) (n:Nat) (xs:Array Value):List Field→Sem Unit
 | []=>pure ()
 | f::fs=>do
  if f.name≠ "_" then
   Instr.checkKey em n f.type (← part f.type xs f.offset)
  chkFields em n xs fs
theorem run_checkKey_struct (em:Bool) (n:Nat) (t:TypeId) (fs:Array Field) (xs:Array Value) (ht:P.underlying t=some (.struct fs)) :
  (Instr.checkKey em (n+1) t (.agg xs)).run P w=(chkFields em n xs fs.toList).run P w:=by
 simp only [Instr.checkKey,Sem.run_bind,run_underlying ht,Result.andThen_ok]
 rw [← Array.forIn_toList]
 generalize fs.toList=l
 clear ht
 induction l generalizing w with
 | nil=>simp [chkFields]
 | cons f l ih=>
  simp only [List.forIn_cons,chkFields,Sem.run_bind,Sem.run_ite]
  split
  ·generalize (part f.type xs f.offset).run P w=r1
   cases r1 with
   | ok a w1=>
    simp only [Result.andThen_ok]
    generalize (Instr.checkKey em n f.type a).run P w1=r2
    cases r2 with
    | ok b w2=>
     simp only [Result.andThen_ok,Sem.run_pure]
     exact ih
    | halt x w2=>simp [Result.andThen]
   | halt x w1=>simp [Result.andThen]
  ·simp only [Sem.run_pure,Result.andThen_ok]
   exact ih
theorem chkFields_run (em:Bool) (n:Nat) (g:TypeId→Option (List Nat)) (hg:∀ t k,g t=some k→∀ a:List Value,a.length=k.length→∃ dsc,P.underlying t=some dsc∧(aggD dsc=false→k.length=1)∧(Instr.checkKey em n t (shapeV (aggD dsc) a)).run P w=.ok () w) :
  ∀ (fs:List Field) (off:Nat) (ks:List Nat),flatFs g (fun t=>(P.info? t).map (·.size)) fs off=some ks→∀ (xs:Array Value),off+ks.length=xs.size→(chkFields em n xs fs).run P w=.ok () w:=by
 intro fs
 induction fs with
 | nil=>intro off ks h xs _;simp [chkFields]
 | cons f fs ih=>
  intro off ks h xs hx
  simp only [flatFs]at h
  split at h
  case isFalse=>cases h
  rename_i hc
  obtain ⟨hname,rfl⟩:=hc
  simp only [Option.bind_eq_some_iff]at h
  obtain ⟨k,hk,h⟩:=h
  split at h
  case isFalse=>cases h
  rename_i hsz
  simp only [Option.map_eq_some_iff]at h
  obtain ⟨l,hl,rfl⟩:=h
  rw [List.length_append]at hx
  obtain ⟨dsc,hd,h1,hrun⟩:=hg f.type k hk ((xs.toList.drop f.offset).take k.length) (by simp;omega)
  obtain ⟨i,hi,hisz⟩:=Option.map_eq_some_iff.1 hsz
  have hkk:k.length=if aggD dsc then i.size else 1:=by
   split
   ·exact hisz.symm
   ·rename_i hn;exact h1 (Bool.eq_false_iff.2 hn)
  have hp1:=run_part (w:=w) f.type dsc i hd hi xs f.offset k.length hkk (by omega)
  rw [chkFields,if_pos hname]
  simp only [Sem.run_bind,hp1,hrun,Result.andThen_ok]
  exact ih (f.offset+k.length) l hl xs (by omega)
theorem checkKey_run (em:Bool):∀ (d:Nat) (t:TypeId) (ks:List Nat),keyT P d t=some ks→∀ (D:Nat),d≤D→∀ a:List Value,a.length=ks.length→∃ dsc,P.underlying t=some dsc∧(aggD dsc=false→ks.length=1)∧(Instr.checkKey em D t (shapeV (aggD dsc) a)).run P w=.ok () w:=by
 intro d
 induction d with
 | zero=>intro t ks h;cases h
 | succ d ih=>
  intro t ks h D hD a ha
  obtain ⟨D,rfl⟩:∃ D',D=D'+1:=⟨D-1,by omega⟩
  rw [keyT]at h
  split at h
  ·rename_i hu
   refine ⟨_,hu,fun _=>by rw [← Option.some.inj h];rfl,?_⟩
   simp [Instr.checkKey,run_underlying hu]
  ·rename_i k0 hu
   refine ⟨_,hu,fun _=>by rw [← Option.some.inj h];rfl,?_⟩
   simp [Instr.checkKey,run_underlying hu]
  ·rename_i hu
   refine ⟨_,hu,fun _=>by rw [← Option.some.inj h];rfl,?_⟩
   simp [Instr.checkKey,run_underlying hu]
  ·rename_i fs hu
   split at h
   ·cases h
   refine ⟨_,hu,(fun x=>by cases x),?_⟩
   simp only [shapeV,aggD,if_true]
   rw [run_checkKey_struct em D t fs a.toArray hu]
   exact chkFields_run em D (keyT P d) (fun t k hk a ha=>ih t k hk D (by omega) a ha) fs.toList 0 ks h a.toArray (by simp [ha])
  ·cases h
theorem keyC_rel {agg:Bool} {k k':Value} {c:List Value} (h:keyC agg k=some c) (hr:Rel φ k k'):∃ c',RelL φ c c'∧k'=shapeV agg c':=by
 unfold keyC at h
 split at h
 ·rename_i a
  obtain rfl:=Option.some.inj h
  cases hr with
  | agg a a' ha h1=>exact ⟨a'.toList,(show RelA φ a a' from ⟨ha,h1⟩).toL,by simp [shapeV]⟩
 ·cases h
 ·cases h
 ·obtain rfl:=Option.some.inj h
  exact ⟨[k'],RelL.cons hr (RelL.nil φ),by simp [shapeV]⟩
theorem eq1_same {k:Nat} {a b:Value} (h:eq1 k a b=some true) (n:Nat):Instr.sameBits n a b=true:=by
 unfold eq1 at h
 split at h
 ·simp at h;subst h;cases n<;>simp [Instr.sameBits]
 ·split at h
  ·rename_i e;subst e;simp at h;subst h;cases n<;>simp [Instr.sameBits]
  ·cases h
 ·rename_i x y
  simp only [Option.some.injEq]at h
  rw [← beq_toListBytes]at h
  cases n<;>simpa [Instr.sameBits] using h
 ·cases h
theorem eqL_same {ks:List Nat}:∀ {a b:List Value},eqL ks a b=some true→∀ n,(a.zip b).all (fun p=>Instr.sameBits n p.1 p.2)=true:=by
 induction ks with
 | nil=>
  intro a b h n
  cases a<;>cases b<;>simp [eqL]at h ⊢
 | cons k ks ih=>
  intro a b h n
  cases a with
  | nil=>simp
  | cons x a=>
   cases b with
   | nil=>simp
   | cons y b=>
    simp only [eqL,Option.bind_eq_some_iff,Option.map_eq_some_iff,Bool.and_eq_true]at h
    obtain ⟨r,hr,q,hq,rfl,rfl⟩:=h
    simp only [List.zip_cons_cons,List.all_cons,Bool.and_eq_true]
    exact ⟨eq1_same hr n,ih hq n⟩
theorem same_key {ks:List Nat} {agg:Bool} {a b:List Value} (h:eqL ks a b=some true) (h1:agg=false→ks.length=1) (n:Nat):Instr.sameBits (n+1) (shapeV agg a) (shapeV agg b)=true:=by
 obtain ⟨l1,l2⟩:=eqL_length h
 cases agg with
 | true=>
  simp only [shapeV,if_true,Instr.sameBits,Bool.and_eq_true]
  refine ⟨by simp [l1,l2],?_⟩
  have:=eqL_same h n
  simpa using this
 | false=>
  obtain ⟨x,rfl⟩:=List.length_eq_one_iff.1 (l1.trans (h1 rfl))
  obtain ⟨y,rfl⟩:=List.length_eq_one_iff.1 (l2.trans (h1 rfl))
  have:=eqL_same h (n+1)
  simpa [shapeV] using this
def FindR (φ:Emb):Option (Nat × Value)→Option (Nat × Value)→Prop
 | none,none=>True
 | some (i,v),some (j,v')=>i=j∧Rel φ v v'
 | _,_=>False
theorem EntsR.tail {e:Value × Value × Nat} {e':MapEntry} {es:List (Value × Value × Nat)} {es':List MapEntry} (h:EntsR φ (e::es) (e'::es')):EntR φ e e'∧EntsR φ es es':=
 ⟨h.2 0 (by simp) (by simp),by simpa using h.1,fun i h1 h2=>by
  have:=h.2 (i+1) (by simpa using h1) (by simpa using h2)
  simp only [List.getElem_cons_succ]at this
  exact this⟩
theorem findAsking_run {t:TypeId} {ks:List Nat} {dsc:TypeDesc} (hk:keyT P 20 t=some ks) (hd:P.underlying t=some dsc) {c c':List Value} (hc:RelL φ c c') :
  ∀ (es:List (Value × Value × Nat)) (es':List MapEntry) (i:Nat) (r:Option (Nat × Value)),EntsR φ es es'→xfind ks (aggD dsc) c es i=some r→∃ r',(Instr.findAsking t (shapeV (aggD dsc) c') es' i).run P w=.ok r' w∧FindR φ r r':=by
 intro es
 induction es with
 | nil=>
  intro es' i r he h
  obtain rfl:es'=[]:=List.eq_nil_of_length_eq_zero he.1.symm
  obtain rfl:=Option.some.inj h
  exact ⟨none,by simp [Instr.findAsking],trivial⟩
 | cons e es ih=>
  intro es' i r he h
  cases es' with
  | nil=>have:=he.1;simp at this
  | cons e' es'=>
   obtain ⟨h1,h2⟩:=he.tail
   simp only [xfind,Option.bind_eq_some_iff]at h
   obtain ⟨ce,hce,q,hq,h⟩:=h
   obtain ⟨ce',hr,hke⟩:=keyC_rel hce h1.1
   obtain ⟨rfl,rfl⟩:=eqL_flat hq φ hc hr
   obtain ⟨dsc',hd',_,hrun⟩:=flat_eq (w:=w) 20 t ks (keyT_flat 20 t ks hk) 10000 (by decide) _ _ q hq
   rw [hd]at hd'
   obtain rfl:=Option.some.inj hd'
   have hrun':(Op.equal t (shapeV (aggD dsc) c') e'.key).run P w=.ok q w:=by rw [hke];exact hrun
   simp only [Instr.findAsking,Sem.run_bind,hrun',Result.andThen_ok,Sem.run_ite]
   cases q with
   | true=>
    simp only [if_true]at h ⊢
    obtain rfl:=Option.some.inj h
    exact ⟨some (i,e'.val),by simp,rfl,h1.2.1⟩
   | false=>
    simp only [Bool.false_eq_true,if_false]at h ⊢
    exact ih es' (i+1) r h2 h
theorem findNow_run {ks:List Nat} {dsc:TypeDesc} (hd:(dsc=.bool∧ks=[0])∨(∃ k,dsc=.int k∧ks=[1])∨(dsc=.string∧ks=[2])) {c c':List Value} (hc:RelL φ c c') :
  ∀ (es:List (Value × Value × Nat)) (es':List MapEntry) (i:Nat) (r:Option (Nat × Value)),EntsR φ es es'→xfind ks false c es i=some r→∃ r',Instr.findNow dsc (shapeV false c') es' i=some r'∧FindR φ r r':=by
 intro es
 induction es with
 | nil=>
  intro es' i r he h
  obtain rfl:es'=[]:=List.eq_nil_of_length_eq_zero he.1.symm
  obtain rfl:=Option.some.inj h
  exact ⟨none,by simp [Instr.findNow],trivial⟩
 | cons e es ih=>
  intro es' i r he h
  cases es' with
  | nil=>have:=he.1;simp at this
  | cons e' es'=>
   obtain ⟨h1,h2⟩:=he.tail
   simp only [xfind,Option.bind_eq_some_iff]at h
   obtain ⟨ce,hce,q,hq,h⟩:=h
   obtain ⟨ce',hr,hke⟩:=keyC_rel hce h1.1
   obtain ⟨rfl,rfl⟩:=eqL_flat hq φ hc hr
   have hnow:Instr.sameNow dsc (shapeV false c') e'.key=some q:=by
    rw [hke]
    obtain ⟨l1,l2⟩:=eqL_length hq
    rcases hd with ⟨rfl,rfl⟩|⟨k,rfl,rfl⟩|⟨rfl,rfl⟩
    all_goals
     obtain ⟨x,rfl⟩:=List.length_eq_one_iff.1 l1
     obtain ⟨y,rfl⟩:=List.length_eq_one_iff.1 l2
     simp only [eqL,Option.bind_eq_some_iff,Option.map_some,Option.some.injEq,Bool.and_true,exists_eq_right]at hq
     unfold eq1 at hq
     split at hq<;>simp_all [shapeV,Instr.sameNow,beq_toListBytes]
   simp only [Instr.findNow,hnow]
   cases q with
   | true=>
    simp only [if_true]at h
    obtain rfl:=Option.some.inj h
    exact ⟨some (i,e'.val),rfl,rfl,h1.2.1⟩
   | false=>
    simp only [Bool.false_eq_true,if_false]at h
    exact ih es' (i+1) r h2 h
theorem findKey_run {t:TypeId} {ks:List Nat} {dsc:TypeDesc} (hk:keyT P 20 t=some ks) (hd:P.underlying t=some dsc) {c c':List Value} (hc:RelL φ c c')
  {es:List (Value × Value × Nat)} {es':List MapEntry} {r:Option (Nat × Value)} (he:EntsR φ es es') (h:xfind ks (aggD dsc) c es 0=some r):∃ r',(Instr.findKey t (shapeV (aggD dsc) c') es').run P w=.ok r' w∧FindR φ r r':=by
 have hk0:=hk
 rw [keyT]at hk
 split at hk
 ·rename_i hu
  rw [hd]at hu
  obtain rfl:=Option.some.inj hu
  obtain ⟨r',h1,h2⟩:=findNow_run (.inl ⟨rfl,(Option.some.inj hk).symm⟩) hc es es' 0 r he h
  exact ⟨r',MapKept.run_findKey hd h1,h2⟩
 ·rename_i hu
  rw [hd]at hu
  obtain rfl:=Option.some.inj hu
  obtain ⟨r',h1,h2⟩:=findNow_run (.inr (.inl ⟨_,rfl,(Option.some.inj hk).symm⟩)) hc es es' 0 r he h
  exact ⟨r',MapKept.run_findKey hd h1,h2⟩
 ·rename_i hu
  rw [hd]at hu
  obtain rfl:=Option.some.inj hu
  obtain ⟨r',h1,h2⟩:=findNow_run (.inr (.inr ⟨rfl,(Option.some.inj hk).symm⟩)) hc es es' 0 r he h
  exact ⟨r',MapKept.run_findKey hd h1,h2⟩
 ·rename_i hu
  obtain ⟨r',h1,h2⟩:=findAsking_run (w:=w) hk0 hd hc es es' 0 r he h
  exact ⟨r',by rw [run_findKey_eq w (by rw [hu])];exact h1,h2⟩
 ·cases hk
theorem eq1_eq {k:Nat} {a b:Value} (h:eq1 k a b=some true):a=b:=by
 unfold eq1 at h
 split at h
 ·simp at h;subst h;rfl
 ·split at h
  ·rename_i e;subst e;simp at h;subst h;rfl
  ·cases h
 ·rename_i x y
  simp only [Option.some.injEq]at h
  rw [← beq_toListBytes]at h
  obtain ⟨x⟩:=x
  obtain ⟨y⟩:=y
  have h2:(x==y)=true:=h
  rw [eq_of_beq h2]
 ·cases h
theorem eqL_eq {ks:List Nat}:∀ {a b:List Value},eqL ks a b=some true→a=b:=by
 induction ks with
 | nil=>
  intro a b h
  cases a<;>cases b<;>simp [eqL]at h ⊢
 | cons k ks ih=>
  intro a b h
  cases a with
  | nil=>simp [eqL]at h
  | cons x a=>
   cases b with
   | nil=>simp [eqL]at h
   | cons y b=>
    simp only [eqL,Option.bind_eq_some_iff,Option.map_eq_some_iff,Bool.and_eq_true]at h
    obtain ⟨r,hr,q,hq,rfl,rfl⟩:=h
    rw [eq1_eq hr,ih hq]
theorem xfind_at {ks:List Nat} {agg:Bool} {c:List Value}:∀ {es:List (Value × Value × Nat)} {i0 i:Nat} {v:Value},xfind ks agg c es i0=some (some (i,v))→i0≤i∧∃ (h:i-i0<es.length) (ce:List Value),keyC agg es[i-i0].1=some ce∧eqL ks c ce=some true∧es[i-i0].2.1=v:=by
 intro es
 induction es with
 | nil=>intro i0 i v h;simp [xfind]at h
 | cons e es ih=>
  intro i0 i v h
  simp only [xfind,Option.bind_eq_some_iff]at h
  obtain ⟨ce,hce,q,hq,h⟩:=h
  cases q with
  | true=>
   simp only [if_true,Option.some.injEq,Prod.mk.injEq]at h
   obtain ⟨rfl,rfl⟩:=h
   exact ⟨Nat.le_refl _,by simp,ce,by simpa using hce,hq,by simp⟩
  | false=>
   simp only [Bool.false_eq_true,if_false]at h
   obtain ⟨h1,h2,ce2,h3,h4,h5⟩:=ih h
   have e1:i-i0=(i-(i0+1))+1:=by omega
   exact ⟨by omega,by simp;omega,ce2,by simpa only [e1,List.getElem_cons_succ] using h3,h4,by simpa only [e1,List.getElem_cons_succ] using h5⟩
theorem Tr.set_set {α:Type} (a b:α):∀ (f n:Nat) (t:Tr α),Tr.set f (Tr.set f t n a) n b=Tr.set f t n b:=by
 intro f
 induction f with
 | zero=>intro n t;simp [Tr.set,Tr.left,Tr.right]
 | succ f ih=>
  intro n t
  simp only [Tr.set]
  split
  ·rename_i h;simp [Tr.left,Tr.right]
  ·split
   ·simp [Tr.left,Tr.right,Tr.top,ih]
   ·simp [Tr.left,Tr.right,Tr.top,ih]
theorem St.put_put (S:St) (id:Nat) (a b:Blk):(S.put id a).put id b=S.put id b:=by
 unfold St.put
 simp only [Tr.set_set]
theorem Sim.objPut (hs:Sim B φ S w) {id:Nat} {s:Spot} {o o':AObj} {r':Obj} (e:φ id=some s) (e2:S.get id=.obj o) (hr:ObjR φ o' r'):Sim B φ (S.put id (.obj o')) (w.putObj s.b r')∧Keep B φ S w φ (S.put id (.obj o')) (w.putObj s.b r'):=by
 obtain ⟨a1,⟨r,a2,a3⟩,_⟩:=hs.loops.2 id s o e e2
 obtain ⟨g1,g2,g3⟩:=hs.objGone e e2
 have k1:=g1.objBack e a2 a3.noRow g3 a1 hr
 have k2:=(g2.setBlk e (wr_obj e2) (.obj o')).putObj e (wr_obj e2) r'
 rw [St.put_put]at k1 k2
 exact ⟨k1,k2⟩
theorem EntsR.get? {es:List (Value × Value × Nat)} {es':List MapEntry} (h:EntsR φ es es') (i:Nat) (hi:i<es.length):∃ hi':i<es'.length,EntR φ es[i] es'[i]:=⟨by rw [← h.1];exact hi,h.2 i hi (by rw [← h.1];exact hi)⟩
theorem EntsR.modify {es:List (Value × Value × Nat)} {es':List MapEntry} (h:EntsR φ es es') (i:Nat) {fa:Value × Value × Nat→Value × Value × Nat} {fb:MapEntry→MapEntry} (hf:∀ e e',EntR φ e e'→EntR φ (fa e) (fb e')):EntsR φ (es.modify i fa) (es'.modify i fb):=by
 refine ⟨by simp [h.1],fun j h1 h2=>?_⟩
 rw [List.getElem_modify,List.getElem_modify]
 have:=h.2 j (by simpa using h1) (by simpa using h2)
 split
 ·exact hf _ _ this
 ·exact this
theorem EntsR.push {es:List (Value × Value × Nat)} {es':List MapEntry} (h:EntsR φ es es') {e:Value × Value × Nat} {e':MapEntry} (he:EntR φ e e'):EntsR φ (es++[e]) (es'++[e']):=by
 have hl:=h.1
 refine ⟨by simp [h.1],fun j h1 h2=>?_⟩
 by_cases hj:j<es.length
 ·rw [List.getElem_append_left hj,List.getElem_append_left (by omega)]
  exact h.2 j _ _
 ·rw [List.getElem_append_right (by omega),List.getElem_append_right (by omega)]
  have e1:j-es.length=0:=by simp at h1;omega
  have e2:j-es'.length=0:=by omega
  simp only [e1,e2,List.getElem_cons_zero]
  exact he
theorem EntsR.eraseIdx {es:List (Value × Value × Nat)} {es':List MapEntry} (h:EntsR φ es es') (i:Nat):EntsR φ (es.eraseIdx i) (es'.eraseIdx i):=by
 have hl:=h.1
 refine ⟨by simp [List.length_eraseIdx,hl],fun j h1 h2=>?_⟩
 rw [List.getElem_eraseIdx,List.getElem_eraseIdx]
 have g1:=List.length_eraseIdx_le es i
 have g2:j+1<es.length∨j<i:=by
  rw [List.length_eraseIdx]at h1
  split at h1<;>omega
 split
 ·exact h.2 j (by omega) (by omega)
 ·exact h.2 (j+1) (by omega) (by omega)
theorem trMapT_inv {t e:TypeId} {ks:List Nat} {agg:Bool} (h:trMapT P t=some (ks,agg,e)):∃ k d,P.underlying t=some (.map k e)∧keyT P 20 k=some ks∧P.underlying k=some d∧agg=aggD d:=by
 unfold trMapT at h
 split at h
 ·rename_i k e' hu
  simp only [Option.bind_eq_some_iff,Option.map_eq_some_iff,Prod.mk.injEq]at h
  obtain ⟨ks',h1,d,h2,rfl,rfl,rfl⟩:=h
  exact ⟨k,d,hu,h1,h2,rfl⟩
 ·cases h
theorem trZero_inv {e:TypeId} {z:Value} (h:trZero P e=some z):flatV z=true∧∀ w,(zeroValue e).run P w=.ok z w:=by
 unfold trZero at h
 simp only [Option.bind_eq_some_iff]at h
 obtain ⟨i,hi,z',hz,h⟩:=h
 split at h
 ·rename_i hf
  obtain rfl:=Option.some.inj h
  exact ⟨hf,fun w=>by simp [zeroValue,typeInfo,hi,hz]⟩
 ·cases h
theorem keyOf_inv {ks:List Nat} {agg:Bool} {k:Value} {c:List Value} (h:keyOf ks agg k=some c):keyC agg k=some c∧c.length=ks.length:=by
 unfold keyOf at h
 simp only [Option.bind_eq_some_iff]at h
 obtain ⟨c',h1,h2⟩:=h
 split at h2
 ·rename_i hl
  obtain rfl:=Option.some.inj h2
  exact ⟨h1,hl⟩
 ·cases h2
theorem map_inv {id:Nat} {v':Value} (h:Rel φ (.map (some id)) v'):∃ s,φ id=some s∧v'=.map (some s.b):=by
 cases h with
 | map _ s hs=>exact ⟨s,hs,rfl⟩
theorem mapNil_inv {v':Value} (h:Rel φ (.map none) v'):v'=.map none:=by cases h;rfl
theorem Sim.mapAt (hs:Sim B φ S w) {id:Nat} {s:Spot} {es:List (Value × Value × Nat)} {cl:Nat} (e:φ id=some s) (e2:S.get id=.obj (.map es cl)):∃ es':Array MapEntry,w.heap[s.b]? = some (.map es' cl)∧EntsR φ es es'.toList:=by
 obtain ⟨_,⟨r,a2,es',rfl,a3⟩,_⟩:=hs.loops.2 id s _ e e2
 exact ⟨es',a2,a3⟩
theorem run_keyThatStays {a b:Value} (h:Instr.sameBits 10000 a b=true):(Instr.keyThatStays a b).run P w=.ok b w:=by simp [Instr.keyThatStays,h]
theorem key_both (em:Bool) {k:TypeId} {d:TypeDesc} {ks:List Nat} (hk:keyT P 20 k=some ks) (hd:P.underlying k=some d) {x x':Value} {c:List Value} (hc:keyOf ks (aggD d) x=some c) (hx:Rel φ x x') :
  ∃ c',RelL φ c c'∧x'=shapeV (aggD d) c'∧(aggD d=false→ks.length=1)∧(Instr.checkKey em 10000 k x').run P w=.ok () w:=by
 obtain ⟨h1,h2⟩:=keyOf_inv hc
 obtain ⟨c',h3,rfl⟩:=keyC_rel h1 hx
 obtain ⟨d',hd',h5,h4⟩:=checkKey_run (w:=w) em 20 k ks hk 10000 (by decide) c' (by rw [← h3.1,h2])
 rw [hd]at hd'
 obtain rfl:=Option.some.inj hd'
 exact ⟨c',h3,rfl,h5,h4⟩
theorem key_stays {d:TypeDesc} {ks:List Nat} {x x':Value} {c c':List Value} (hc:keyC (aggD d) x=some c) (hcl:RelL φ c c') (hx':x'=shapeV (aggD d) c') (h1:aggD d=false→ks.length=1)
  {es:List (Value × Value × Nat)} {es':List MapEntry} (he:EntsR φ es es') {i:Nat} {v:Value} (h:xfind ks (aggD d) c es 0=some (some (i,v))):∃ hi:i<es'.length,Instr.sameBits 10000 es'[i].key x'=true∧∃ hi2:i<es.length,es[i].2.2=es'[i].born∧EntR φ es[i] es'[i]:=by
 obtain ⟨_,h2,ce,h3,h4,h5⟩:=xfind_at h
 simp only [Nat.sub_zero]at h2 h3 h5
 obtain ⟨hi',h6⟩:=he.get? i h2
 obtain ⟨ce',h7,h8⟩:=keyC_rel h3 h6.1
 obtain ⟨e1,e2⟩:=eqL_flat h4 φ hcl h7
 have h9:=eqL_eq h4
 subst e1 e2
 subst h9
 refine ⟨hi',?_,h2,h6.2.2,h6⟩
 rw [h8,hx']
 exact same_key h4 h1 9999
theorem FindR.none_inv {r':Option (Nat × Value)} (h:FindR φ none r'):r'=none:=by
 cases r' with
 | none=>rfl
 | some p=>exact h.elim
theorem FindR.some_inv {i:Nat} {v:Value} {r':Option (Nat × Value)} (h:FindR φ (some (i,v)) r'):∃ v',r'=some (i,v')∧Rel φ v v':=by
 cases r' with
 | none=>exact h.elim
 | some p=>obtain ⟨rfl,h2⟩:=h;exact ⟨p.2,rfl,h2⟩
theorem lookRes_rel {z:Value} (hz:flatV z=true) (ok:Bool) {r r':Option (Nat × Value)} (h:FindR φ r r'):Rel φ (lookRes z ok r) (lookRes z ok r'):=by
 cases r with
 | none=>
  rw [h.none_inv]
  cases ok with
  | true=>exact .tuple' ⟨rfl,fun i h1 h2=>by
    rcases i with _ | _ | i
    ·exact flatV_rel hz φ
    ·exact .bool _
    ·simp at h1;omega⟩
  | false=>exact flatV_rel hz φ
 | some p=>
  obtain ⟨v',rfl,hv⟩:=h.some_inv
  cases ok with
  | true=>exact .tuple' ⟨rfl,fun i h1 h2=>by
    rcases i with _ | _ | i
    ·exact hv
    ·exact .bool _
    ·simp at h1;omega⟩
  | false=>exact hv
theorem lookup_sound (hs:Sim B φ S w) {t:TypeId} {ks:List Nat} {agg:Bool} {e:TypeId} {z:Value} (ht:trMapT P t=some (ks,agg,e)) (hz:trZero P e=some z) {ok:Bool} {x x' k k' v:Value} {S':St} (hx:Rel φ x x') (hk:Rel φ k k') (h:xextra (.lookup ks agg z ok) [x,k] S=some (v,S')) :
  OutV P B φ S w (Instr.lookup t x' k' ok) v S':=by
 obtain ⟨kt,d,hu,h1,h2,rfl⟩:=trMapT_inv ht
 obtain ⟨hzf,hzr⟩:=trZero_inv hz
 simp only [xextra,Option.bind_eq_some_iff]at h
 obtain ⟨c,hc,h⟩:=h
 split at h
 ·obtain ⟨rfl,rfl⟩:=Prod.mk.inj (Option.some.inj h)
  obtain rfl:=mapNil_inv hx
  obtain ⟨c',_,_,_,h4⟩:=key_both (w:=w) true h1 h2 hc hk
  refine OutV.same hs ?_ (lookRes_rel hzf ok (r:=none) (r':=none) trivial)
  have hf:(Instr.findKey kt k' []).run P w=.ok none w:=by
   cases d<;>simp [Instr.findKey,run_underlying h2,Instr.findNow]
  have h4':(Instr.checkKey true 10000 kt k').run P w=.ok () w:=h4
  simp [Instr.lookup,run_underlying hu,h4',hf,hzr,lookRes]
 ·rename_i id
  obtain ⟨s,hs1,rfl⟩:=map_inv hx
  split at h
  case h_2=>cases h
  rename_i es cl hg
  simp only [Option.map_eq_some_iff,Prod.mk.injEq]at h
  obtain ⟨r,hr,rfl,rfl⟩:=h
  obtain ⟨es',g1,g2⟩:=hs.mapAt hs1 hg
  obtain ⟨c',h3,h4,_,h5⟩:=key_both (w:=w) es'.isEmpty h1 h2 hc hk
  obtain ⟨r',h6,h7⟩:=findKey_run (w:=w) h1 h2 h3 g2 hr
  rw [← h4]at h6
  refine OutV.same hs ?_ (lookRes_rel hzf ok h7)
  simp only [Instr.lookup,Sem.run_bind,run_underlying hu,Result.andThen_ok,MapKept.run_getObj_map g1,Sem.run_pure,h5,h6]
  cases r' with
  | none=>cases ok<;>simp [hzr,lookRes]
  | some p=>cases ok<;>simp [lookRes]
 ·cases h
theorem xfind_tab {es:List MapEntry} {n:Int} (h:∀ x∈es,∃ n f,x.key=.int .i64 n∧x.val=.func (.func f) #[] #[]∧gTab.lookup n=some f):∀ i,(∃ j f,xfind [1] false [.int .i64 n] (es.map fun x=>(x.key,x.val,x.born)) i=some (some (j,.func (.func f) #[] #[]))∧gTab.lookup n=some f)∨(xfind [1] false [.int .i64 n] (es.map fun x=>(x.key,x.val,x.born)) i=some none∧∀ x∈es,x.key≠.int .i64 n):=by
 induction es with
 | nil=>exact fun i=>.inr ⟨rfl,fun x hx=>by simp at hx⟩
 | cons e es ih=>
  intro i
  obtain ⟨m,f,h1,h2,h3⟩:=h e (by simp)
  by_cases hm:n=m
  ·subst hm
   exact .inl ⟨i,f,by simp [xfind,h1,h2,keyC,eqL,eq1],h3⟩
  ·have hx:xfind [1] false [.int .i64 n] ((e::es).map fun x=>(x.key,x.val,x.born)) i=xfind [1] false [.int .i64 n] (es.map fun x=>(x.key,x.val,x.born)) (i+1):=by
    simp [xfind,h1,keyC,eqL,eq1,hm]
   rw [hx]
   rcases ih (fun x hx=>h x (by simp [hx])) (i+1) with g | ⟨g1,g2⟩
   ·exact .inl g
   ·refine .inr ⟨g1,fun x hx=>?_⟩
    rcases List.mem_cons.1 hx with rfl | hx
    ·rw [h1];intro e;injection e with _ e;exact hm e.symm
    ·exact g2 x hx
theorem lookG_sound (hs:Sim B φ S w) {t:TypeId} {z:Value} (ht:trLookG P t=some z) {ok:Bool} {x x' k k' v:Value} {S':St} (hx:Rel φ x x') (hk:Rel φ k k') (h:xextra (.lookG z ok) [x,k] S=some (v,S')) :
  OutV P B φ S w (Instr.lookup t x' k' ok) v S':=by
 unfold trLookG at ht
 split at ht
 case h_2=>cases ht
 rename_i kt e hu
 split at ht
 case h_2=>cases ht
 rename_i hki
 obtain ⟨hzf,hzr⟩:=trZero_inv ht
 have hinv:∃ n,x=.chan (some 0)∧k=.int .i64 n∧gOn=true∧v=lookRes z ok ((gTab.lookup n).map fun f=>(0,.func (.func f) #[] #[]))∧S'=S:=by
  simp only [xextra]at h
  split at h
  all_goals first | (cases h;done) | contradiction | skip
  all_goals
   rename_i n e1 e2
   obtain ⟨rfl,rfl⟩:=EOp.lookG.inj e1
   simp only [List.cons.injEq,and_true]at e2
   obtain ⟨rfl,rfl⟩:=e2
   split at h
   ·rename_i hg
    obtain ⟨rfl,rfl⟩:=Prod.mk.inj (Option.some.inj h)
    exact ⟨_,rfl,rfl,hg,rfl,rfl⟩
   ·cases h
 obtain ⟨n,rfl,rfl,hg,rfl,rfl⟩:=hinv
 obtain ⟨b,hb,rfl⟩:∃ b,φ.tab=some b∧x'=.map (some b):=by
  cases hx with
  | tab b h=>exact ⟨b,h,rfl⟩
 obtain ⟨b',t1,t2,t3,_,es',cl,t5,t6,t7⟩:=hs.loops.1 hg
 rw [hb]at t1
 obtain rfl:=Option.some.inj t1
 have hkT:keyT P 20 kt=some [1]:=by simp [keyT,hki]
 have hkO:keyOf [1] (aggD (.int .i64)) (.int .i64 n)=some [.int .i64 n]:=by simp [keyOf,keyC,aggD]
 obtain ⟨c',h3,h4,_,h5⟩:=key_both (w:=w) es'.isEmpty hkT hki hkO hk
 have hE:EntsR φ (es'.toList.map fun x=>(x.key,x.val,x.born)) es'.toList:=by
  refine ⟨by simp,fun i h1 h2=>?_⟩
  obtain ⟨m,f,g1,g2,_⟩:=t6 es'.toList[i] (List.getElem_mem h2)
  rw [List.getElem_map]
  refine ⟨?_,?_,rfl⟩
  ·rw [g1];exact .int _ _
  ·rw [g2];exact .func' ⟨rfl,fun i h=>by simp at h⟩ ⟨rfl,fun i h=>by simp at h⟩
 have hfin:∀ r,xfind [1] (aggD (.int .i64)) [.int .i64 n] (es'.toList.map fun x=>(x.key,x.val,x.born)) 0=some r→r.map (·.2)=(gTab.lookup n).map (fun f=>.func (.func f) #[] #[])→
   OutV P B φ S' w (Instr.lookup t (.map (some b)) k' ok) (lookRes z ok ((gTab.lookup n).map fun f=>(0,.func (.func f) #[] #[]))) S':=by
  intro r hr hrv
  obtain ⟨r',h6,h7⟩:=findKey_run (w:=w) hkT hki h3 hE hr
  rw [← h4]at h6
  have hlook:lookRes z ok ((gTab.lookup n).map fun f=>((0:Nat),(.func (.func f) #[] #[]:Value)))=lookRes z ok r:=by
   unfold lookRes
   have e1:((gTab.lookup n).map fun f=>((0:Nat),(.func (.func f) #[] #[]:Value))).map (·.2)=r.map (·.2):=by rw [hrv,Option.map_map];rfl
   have e2:((gTab.lookup n).map fun f=>((0:Nat),(.func (.func f) #[] #[]:Value))).isSome=r.isSome:=by
    have:=congrArg Option.isSome e1
    simpa using this
   rw [e1,e2]
  rw [hlook]
  refine OutV.same hs ?_ (lookRes_rel hzf ok h7)
  simp only [Instr.lookup,Sem.run_bind,run_underlying hu,Result.andThen_ok,MapKept.run_getObj_map t5,Sem.run_pure,h5,h6]
  cases r' with
  | none=>cases ok<;>simp [hzr,lookRes]
  | some p=>cases ok<;>simp [lookRes]
 rcases xfind_tab t6 (n:=n) 0 with ⟨j,f,g1,g2⟩|⟨g1,g2⟩
 ·exact hfin _ g1 (by rw [g2];rfl)
 ·refine hfin _ g1 ?_
  cases hl:gTab.lookup n with
  | none=>rfl
  | some f=>obtain ⟨x,hx1,hx2⟩:=t7 n f hl;exact absurd hx2 (g2 x hx1)
theorem mapSet_sound (hs:Sim B φ S w) {t:TypeId} {ks:List Nat} {agg:Bool} {e:TypeId} (ht:trMapT P t=some (ks,agg,e)) {x x' k k' u u' v:Value} {S':St} (hx:Rel φ x x') (hk:Rel φ k k') (hu':Rel φ u u') (h:xextra (.mapSet ks agg) [x,k,u] S=some (v,S')) :
  v=undef∧∃ w',(Instr.mapUpdate t x' k' u').run P w=.ok () w'∧Sim B φ S' w'∧Keep B φ S w φ S' w':=by
 obtain ⟨kt,d,hu,h1,h2,rfl⟩:=trMapT_inv ht
 simp only [xextra,Option.bind_eq_some_iff]at h
 obtain ⟨c,hc,h⟩:=h
 split at h
 case h_2=>cases h
 rename_i id
 obtain ⟨s,hs1,rfl⟩:=map_inv hx
 split at h
 case h_2=>cases h
 rename_i es cl hg
 obtain ⟨es',g1,g2⟩:=hs.mapAt hs1 hg
 obtain ⟨c',h3,h4,h40,h5⟩:=key_both (w:=w) false h1 h2 hc hk
 simp only [Option.map_eq_some_iff]at h
 obtain ⟨r,hr,h⟩:=h
 obtain ⟨r',h6,h7⟩:=findKey_run (w:=w) h1 h2 h3 g2 hr
 rw [← h4]at h6
 cases r with
 | none=>
  obtain ⟨rfl,rfl⟩:=Prod.mk.inj h
  obtain rfl:=h7.none_inv
  obtain ⟨k1,k2⟩:=hs.objPut (o':=.map (es++[(k,u,cl)]) (cl+1)) (r':=.map (es'.push { key:=k',val:=u',born:=cl }) (cl+1)) hs1 hg ⟨_,rfl,by rw [Array.toList_push];exact g2.push ⟨hk,hu',rfl⟩⟩
  refine ⟨rfl,_,?_,k1,k2⟩
  simp only [Instr.mapUpdate,Sem.run_bind,run_underlying hu,Result.andThen_ok,MapKept.run_getObj_map g1,h5,h6,MapKept.run_setObj_map _ g1]
  rfl
 | some p=>
  obtain ⟨i,v0⟩:=p
  obtain ⟨rfl,rfl⟩:=Prod.mk.inj h
  obtain ⟨v1,rfl,_⟩:=h7.some_inv
  obtain ⟨hi,hsame,hi2,hborn,hent⟩:=key_stays (keyOf_inv hc).1 h3 h4 h40 g2 hr
  have hi':i<es'.size:=by simpa using hi
  obtain ⟨k1,k2⟩:=hs.objPut (o':=.map (es.modify i fun e=>(k,u,e.2.2)) cl) (r':=.map (es'.modify i fun e=>{ e with key:=k',val:=u' }) cl) hs1 hg ⟨_,rfl,by
   rw [Array.toList_modify]
   exact g2.modify i fun e e' he=>⟨hk,hu',he.2.2⟩⟩
  refine ⟨rfl,_,?_,k1,k2⟩
  have hold:((es'[i]?).map (·.key)).getD k'=es'.toList[i].key:=by rw [Array.getElem?_eq_getElem hi'];rfl
  simp only [Instr.mapUpdate,Sem.run_bind,run_underlying hu,Result.andThen_ok,MapKept.run_getObj_map g1,h5,h6,hold,run_keyThatStays hsame,MapKept.run_setObj_map _ g1]
  rfl
theorem mapEnt_sound (hs:Sim B φ S w) {t:TypeId} {ks:List Nat} {agg:Bool} {e:TypeId} {z:Value} (ht:trMapT P t=some (ks,agg,e)) (hz:trZero P e=some z) {x x' k k' v:Value} {S':St} (hx:Rel φ x x') (hk:Rel φ k k') (h:xextra (.mapEnt ks agg z) [x,k] S=some (v,S')) :
  OutV P B φ S w (Instr.mapEntry t x' k') v S':=by
 obtain ⟨kt,d,hu,h1,h2,rfl⟩:=trMapT_inv ht
 obtain ⟨hzf,hzr⟩:=trZero_inv hz
 simp only [xextra,Option.bind_eq_some_iff]at h
 obtain ⟨c,hc,h⟩:=h
 split at h
 case h_2=>cases h
 rename_i id
 obtain ⟨s,hs1,rfl⟩:=map_inv hx
 split at h
 case h_2=>cases h
 rename_i es cl hg
 obtain ⟨es',g1,g2⟩:=hs.mapAt hs1 hg
 obtain ⟨c',h3,h4,h40,h5⟩:=key_both (w:=w) false h1 h2 hc hk
 simp only [Option.map_eq_some_iff]at h
 obtain ⟨r,hr,h⟩:=h
 obtain ⟨r',h6,h7⟩:=findKey_run (w:=w) h1 h2 h3 g2 hr
 rw [← h4]at h6
 have hpair:∀ {a a':Value} (n:Int),Rel φ a a'→Rel φ (.tuple #[a,.int .i64 n]) (.tuple #[a',.int .i64 n]):=fun n ha=>.tuple' ⟨rfl,fun i h1 h2=>by
  rcases i with _ | _ | i
  ·exact ha
  ·exact .int _ _
  ·simp at h1;omega⟩
 cases r with
 | none=>
  obtain ⟨rfl,rfl⟩:=Prod.mk.inj h
  obtain rfl:=h7.none_inv
  obtain ⟨k1,k2⟩:=hs.objPut (o':=.map (es++[(k,z,cl)]) (cl+1)) (r':=.map (es'.push { key:=k',val:=z,born:=cl }) (cl+1)) hs1 hg ⟨_,rfl,by rw [Array.toList_push];exact g2.push ⟨hk,flatV_rel hzf φ,rfl⟩⟩
  refine ⟨φ,.tuple #[z,goInt cl],_,?_,hpair _ (flatV_rel hzf φ),k1,k2⟩
  simp only [Instr.mapEntry,Sem.run_bind,run_underlying hu,Result.andThen_ok,MapKept.run_getObj_map g1,h5,h6,hzr,MapKept.run_setObj_map _ g1,Sem.run_pure]
  rfl
 | some p=>
  obtain ⟨i,v0⟩:=p
  obtain ⟨rfl,rfl⟩:=Prod.mk.inj h
  obtain ⟨v1,rfl,hv⟩:=h7.some_inv
  obtain ⟨hi,hsame,hi2,hborn,hent⟩:=key_stays (keyOf_inv hc).1 h3 h4 h40 g2 hr
  have hi':i<es'.size:=by simpa using hi
  obtain ⟨k1,k2⟩:=hs.objPut (o':=.map (es.modify i fun e=>(k,e.2.1,e.2.2)) cl) (r':=.map (es'.modify i fun e=>{ e with key:=k' }) cl) hs1 hg ⟨_,rfl,by
   rw [Array.toList_modify]
   exact g2.modify i fun e e' he=>⟨hk,he.2.1,he.2.2⟩⟩
  have hold:((es'[i]?).map (·.key)).getD k'=es'.toList[i].key:=by rw [Array.getElem?_eq_getElem hi'];rfl
  have hb:((es'[i]?).map fun x=>(x.born:Int)).getD 0=((((es[i]?).map (·.2.2)).getD 0:Nat):Int):=by
   rw [Array.getElem?_eq_getElem hi',List.getElem?_eq_getElem hi2]
   simpa using congrArg (fun n:Nat=>(n:Int)) hborn.symm
  refine ⟨φ,.tuple #[v1,goInt (((es[i]?).map (·.2.2)).getD 0:Nat)],_,?_,hpair _ hv,k1,k2⟩
  simp only [Instr.mapEntry,Sem.run_bind,run_underlying hu,Result.andThen_ok,MapKept.run_getObj_map g1,h5,h6,hold,run_keyThatStays hsame,MapKept.run_setObj_map _ g1,Sem.run_pure,hb]
  rfl
theorem findIdx_ents {es:List (Value × Value × Nat)} {es':Array MapEntry} (h:EntsR φ es es'.toList) (b:Int):es'.findIdx? (fun e=>(e.born:Int)==b)=es.findIdx? (fun e=>((e.2.2:Nat):Int)==b):=by
 obtain ⟨l⟩:=es'
 rw [List.findIdx?_toArray]
 simp only at h
 induction es generalizing l with
 | nil=>
  obtain rfl:l=[]:=List.eq_nil_of_length_eq_zero h.1.symm
  rfl
 | cons e es ih=>
  cases l with
  | nil=>have:=h.1;simp at this
  | cons e' l=>
   obtain ⟨h1,h2⟩:=h.tail
   simp only [List.findIdx?_cons,ih l h2,h1.2.2]
theorem entSet_sound (hs:Sim B φ S w) {t:TypeId} {x x' k k' u u' v:Value} {S':St} (hx:Rel φ x x') (hk:Rel φ k k') (hu':Rel φ u u') (h:xextra .entSet [x,k,u] S=some (v,S')) :
  v=undef∧∃ w',(Instr.entryStore t x' k' u').run P w=.ok () w'∧Sim B φ S' w'∧Keep B φ S w φ S' w':=by
 cases hx
 case map id s hs1=>
  cases hk
  case int kk b=>
   cases kk
   case i64=>
    simp only [xextra]at h
    split at h
    case h_2=>cases h
    rename_i es cl hg
    obtain ⟨es',g1,g2⟩:=hs.mapAt hs1 hg
    split at h
    case h_2=>cases h
    rename_i i hi
    obtain ⟨rfl,rfl⟩:=Prod.mk.inj (Option.some.inj h)
    obtain ⟨k1,k2⟩:=hs.objPut (o':=.map (es.modify i fun e=>(e.1,u,e.2.2)) cl) (r':=.map (es'.modify i fun e=>{ e with val:=u' }) cl) hs1 hg ⟨_,rfl,by
     rw [Array.toList_modify]
     exact g2.modify i fun e e' he=>⟨he.1,hu',he.2.2⟩⟩
    refine ⟨rfl,_,?_,k1,k2⟩
    have hint:(asInt (.int .i64 b)).run P w=.ok b w:=rfl
    simp only [Instr.entryStore,Sem.run_bind,MapKept.run_getObj_map g1,Result.andThen_ok,hint,findIdx_ents g2,hi,MapKept.run_setObj_map _ g1]
    rfl
   all_goals (simp [xextra]at h;done)
  all_goals (simp [xextra]at h;done)
 all_goals (simp [xextra]at h;done)
theorem mapDel_sound (hs:Sim B φ S w) {t u ty:TypeId} {ks:List Nat} {agg:Bool} {e:TypeId} (ht:trMapT P t=some (ks,agg,e)) {x x' k k' v:Value} {S':St} (hx:Rel φ x x') (hk:Rel φ k k') (h:xextra (.mapDel ks agg) [x,k] S=some (v,S')) :
  OutV P B φ S w (Builtin.delete_ #[t,u] ty #[x',k']) v S':=by
 obtain ⟨kt,d,hu,h1,h2,rfl⟩:=trMapT_inv ht
 have hnil:Rel φ (.tuple #[]) (.tuple #[]):=Rel.undef φ
 simp only [xextra,Option.bind_eq_some_iff]at h
 obtain ⟨c,hc,h⟩:=h
 split at h
 ·obtain ⟨rfl,rfl⟩:=Prod.mk.inj (Option.some.inj h)
  obtain rfl:=mapNil_inv hx
  obtain ⟨c',_,_,_,h4⟩:=key_both (w:=w) true h1 h2 hc hk
  refine OutV.same hs (v':=.tuple #[]) ?_ hnil
  have h4':(Instr.checkKey true 10000 kt k').run P w=.ok () w:=h4
  simp [Builtin.delete_,run_underlying hu,h4']
 ·rename_i id
  obtain ⟨s,hs1,rfl⟩:=map_inv hx
  split at h
  case h_2=>cases h
  rename_i es cl hg
  obtain ⟨es',g1,g2⟩:=hs.mapAt hs1 hg
  obtain ⟨c',h3,h4,h40,h5⟩:=key_both (w:=w) es'.isEmpty h1 h2 hc hk
  simp only [Option.map_eq_some_iff]at h
  obtain ⟨r,hr,h⟩:=h
  obtain ⟨r',h6,h7⟩:=findKey_run (w:=w) h1 h2 h3 g2 hr
  rw [← h4]at h6
  cases r with
  | none=>
   obtain ⟨rfl,rfl⟩:=Prod.mk.inj h
   obtain rfl:=h7.none_inv
   obtain ⟨k1,k2⟩:=hs.objPut (o':=.map es cl) (r':=.map es' cl) hs1 hg ⟨_,rfl,g2⟩
   refine ⟨φ,.tuple #[],_,?_,hnil,k1,k2⟩
   simp only [Builtin.delete_,List.getElem?_toArray,List.getElem?_cons_zero,List.getElem?_cons_succ,Sem.run_bind,run_underlying hu,Result.andThen_ok,MapKept.run_getObj_map g1,h5,h6,MapKept.run_setObj_map _ g1,Sem.run_pure]
   rfl
  | some p=>
   obtain ⟨i,v0⟩:=p
   obtain ⟨rfl,rfl⟩:=Prod.mk.inj h
   obtain ⟨v1,rfl,hv⟩:=h7.some_inv
   obtain ⟨k1,k2⟩:=hs.objPut (o':=.map (es.eraseIdx i) cl) (r':=.map (es'.eraseIdxIfInBounds i) cl) hs1 hg ⟨_,rfl,by
    rw [Array.toList_eraseIdxIfInBounds]
    exact g2.eraseIdx i⟩
   refine ⟨φ,.tuple #[],_,?_,hnil,k1,k2⟩
   simp only [Builtin.delete_,List.getElem?_toArray,List.getElem?_cons_zero,List.getElem?_cons_succ,Sem.run_bind,run_underlying hu,Result.andThen_ok,MapKept.run_getObj_map g1,h5,h6,MapKept.run_setObj_map _ g1,Sem.run_pure]
   rfl
 ·cases h
theorem mapLen_sound (hs:Sim B φ S w) {t kt et ty:TypeId} (hu:P.underlying t=some (.map kt et)) {x x' v:Value} {S':St} (hx:Rel φ x x') (h:xextra .mapLen [x] S=some (v,S')) :
  OutV P B φ S w (Builtin.len_ #[t] ty #[x']) v S':=by
 cases hx
 case mapNil=>
  obtain ⟨rfl,rfl⟩:=Prod.mk.inj (Option.some.inj h)
  exact OutV.same hs (v':=.int .i64 0) (by simp [Builtin.len_,run_underlying hu,goInt]) (.int _ _)
 case map id s hs1=>
  simp only [xextra]at h
  split at h
  case h_2=>cases h
  rename_i es cl hg
  obtain ⟨es',g1,g2⟩:=hs.mapAt hs1 hg
  obtain ⟨rfl,rfl⟩:=Prod.mk.inj (Option.some.inj h)
  have hl:es'.size=es.length:=by rw [g2.1];simp
  exact OutV.same hs (v':=.int .i64 es.length) (by simp [Builtin.len_,run_underlying hu,MapKept.run_getObj_map g1,goInt,hl]) (.int _ _)
 all_goals (simp [xextra]at h;done)
theorem capNil_sound (hs:Sim B φ S w) {t et ty:TypeId} (hu:P.underlying t=some (.slice et)) {x x' v:Value} {S':St} (hx:Rel φ x x') (h:xextra .capNil [x] S=some (v,S')) :
  OutV P B φ S w (Builtin.cap_ #[t] ty #[x']) v S':=by
 cases hx
 case sliceNil=>
  obtain ⟨rfl,rfl⟩:=Prod.mk.inj (Option.some.inj h)
  exact OutV.same hs (v':=.int .i64 0) (by simp [Builtin.cap_,run_underlying hu,goInt]) (.int _ _)
 all_goals (simp [xextra]at h;done)
theorem run_getObj_iter {r:Nat} {s:ByteArray} {p:Nat} (hb:w.heap[r]? = some (.stringIter s p)):(getObj r).run P w=.ok (.stringIter s p) w:=by
 simp [getObj,Sem.run,hb]
theorem run_setObj_iter {r:Nat} {s:ByteArray} {p:Nat} (o:Obj) (hb:w.heap[r]? = some (.stringIter s p)):(setObj r o).run P w=.ok () (w.putObj r o):=by
 simp [setObj,Sem.run,hb,World.putObj]
theorem iterStr_sound (hs:Sim B φ S w) (hB:B≤w.heap.size) {t:TypeId} (hu:P.underlying t=some .string) {x x' v:Value} {S':St} (hx:Rel φ x x') (h:xextra .iterStr [x] S=some (v,S')) :
  OutV P B φ S w (Instr.range t x') v S':=by
 cases hx
 case string s0=>
  obtain ⟨rfl,rfl⟩:=Prod.mk.inj (Option.some.inj h)
  obtain ⟨k1,k2⟩:=hs.objNew hB (o:=.iter s0 0) (r:=.stringIter s0 0) rfl
  refine ⟨_,.pointer (some ⟨w.heap.size,0,none⟩),_,?_,?_,k1,k2⟩
  ·simp [Instr.range,run_underlying hu]
  ·have:=Rel.ptr (φ:=φ.add S.next ⟨w.heap.size,0,0,0⟩) S.next 0 _ (Emb.add_same _ _ _)
   simpa using this
 all_goals (simp [xextra]at h;done)
theorem nextStr_sound (hs:Sim B φ S w) {t:TypeId} {x x' v:Value} {S':St} (hx:Rel φ x x') (h:xextra .nextStr [x] S=some (v,S')) :
  OutV P B φ S w (Instr.next x' true t) v S':=by
 cases hx
 case ptr id o s hs1=>
  cases o with
  | succ o=>simp [xextra]at h
  | zero=>
   simp only [xextra]at h
   split at h
   case h_2=>cases h
   rename_i s0 p hg
   obtain ⟨⟨_,hb0⟩,⟨r,g1,g2⟩,_⟩:=hs.loops.2 id s _ hs1 hg
   have g2:r=.stringIter s0 p:=g2
   subst g2
   rw [hb0,Nat.zero_add]
   split at h
   ·rename_i hp
    obtain ⟨rfl,rfl⟩:=Prod.mk.inj (Option.some.inj h)
    obtain ⟨k1,k2⟩:=hs.objPut (o':=.iter s0 (p+(Utf8.decode s0 p).2)) (r':=.stringIter s0 (p+(Utf8.decode s0 p).2)) hs1 hg rfl
    refine ⟨φ,.tuple #[.bool true,.int .i64 p,.int .i32 (Utf8.decode s0 p).1],_,?_,.tuple' ⟨rfl,fun i h1 h2=>?_⟩,k1,k2⟩
    ·simp [Instr.next,run_getObj_iter g1,run_setObj_iter _ g1,hp,goInt]
    ·rcases i with _ | _ | _ | i
     ·exact .bool _
     ·exact .int _ _
     ·exact .int _ _
     ·simp at h1;omega
   ·rename_i hp
    obtain ⟨rfl,rfl⟩:=Prod.mk.inj (Option.some.inj h)
    refine OutV.same hs (v':=.tuple #[.bool false]) ?_ (.tuple' ⟨rfl,fun i h1 h2=>?_⟩)
    ·simp [Instr.next,run_getObj_iter g1,hp]
    ·rcases i with _ | i
     ·exact .bool _
     ·simp at h1
 all_goals (simp [xextra]at h;done)
theorem find_ents {φ:Emb} (s:Nat):∀ {es:List (Value × Value × Nat)} {l:List MapEntry},EntsR φ es l→∀ {e},es.find? (fun e=>e.2.2==s)=some e→∃ e',l.find? (fun e=>e.born==s)=some e'∧EntR φ e e':=by
 intro es
 induction es with
 | nil=>intro l _ e h;simp at h
 | cons x es ih=>
  intro l hr e h
  cases l with
  | nil=>have:=hr.1;simp at this
  | cons y l=>
   have h1:EntR φ x y:=hr.2 0 (by simp) (by simp)
   have h2:EntsR φ es l:=⟨by simpa using hr.1,fun i a b=>hr.2 (i+1) (by simpa using a) (by simpa using b)⟩
   simp only [List.find?_cons]at h ⊢
   rw [← h1.2.2]
   split at h
   ·obtain rfl:=Option.some.inj h
    exact ⟨y,rfl,h1⟩
   ·exact ih h2 h
theorem iterMap_sound (hs:Sim B φ S w) (hB:B≤w.heap.size) {t kt et:TypeId} (hu:P.underlying t=some (.map kt et)) {x x' v:Value} {S':St} (hx:Rel φ x x') (h:xextra .iterMap [x] S=some (v,S')) :
  OutV P B φ S w (Instr.range t x') v S':=by
 have fin:∀ (m m':Option Nat) (c:Nat),Rel φ (.map m) (.map m')→(Instr.range t x').run P w=.ok (.pointer (some ⟨w.heap.size,0,none⟩)) (w.alloc (.mapIter m' c #[] c))→OutV P B φ S w (Instr.range t x') (.pointer (some ⟨S.next,0,none⟩)) (S.alloc (.mapIter m c [] c)):=by
  intro m m' c hm hr
  obtain ⟨k1,k2⟩:=hs.objNew hB (o:=.mapIter m c [] c) (r:=.mapIter m' c #[] c) ⟨m',rfl,hm⟩
  refine ⟨_,.pointer (some ⟨w.heap.size,0,none⟩),_,hr,?_,k1,k2⟩
  have:=Rel.ptr (φ:=φ.add S.next ⟨w.heap.size,0,0,0⟩) S.next 0 _ (Emb.add_same _ _ _)
  simpa using this
 cases hx
 case mapNil=>
  obtain ⟨rfl,rfl⟩:=Prod.mk.inj (Option.some.inj h)
  exact fin none none 0 .mapNil (by simp [Instr.range,run_underlying hu])
 case map id s hs1=>
  simp only [xextra]at h
  split at h
  case h_2=>cases h
  rename_i es cl hg
  obtain ⟨es',g1,g2⟩:=hs.mapAt hs1 hg
  obtain ⟨rfl,rfl⟩:=Prod.mk.inj (Option.some.inj h)
  exact fin (some id) (some s.b) cl (.map id s hs1) (by simp [Instr.range,run_underlying hu,MapKept.run_getObj_map g1])
 all_goals (simp [xextra]at h;done)
theorem run_getObj_mapIter {r:Nat} {m:Option Nat} {s c:Nat} {seen:Array Nat} (hb:w.heap[r]? = some (.mapIter m s seen c)):(getObj r).run P w=.ok (.mapIter m s seen c) w:=by
 simp [getObj,Sem.run,hb]
theorem entMap_sound (hs:Sim B φ S w) {x x' v:Value} {S':St} (hx:Rel φ x x') (h:xextra .entMap [x] S=some (v,S')) :
  OutV P B φ S w (Instr.entry x') v S':=by
 cases hx
 case ptr id o s hs1=>
  cases o with
  | succ o=>simp [xextra]at h
  | zero=>
   simp only [xextra]at h
   split at h
   case h_2=>cases h
   rename_i m since seen last hg
   split at h
   case h_2=>cases h
   rename_i es cl hg2
   split at h
   case isFalse=>cases h
   rename_i hcl
   simp only [Option.bind_eq_some_iff,Option.map_eq_some_iff]at h
   obtain ⟨st,hst,e,he,h⟩:=h
   obtain ⟨rfl,rfl⟩:=Prod.mk.inj h
   obtain ⟨⟨_,hb0⟩,⟨r,g1,g2⟩,_⟩:=hs.loops.2 id s _ hs1 hg
   obtain ⟨m',rfl,hm⟩:=g2
   obtain ⟨s2,hs2,e2⟩:=map_inv hm
   obtain rfl:m'=some s2.b:=by injection e2
   obtain ⟨es',q1,q2⟩:=hs.mapAt hs2 hg2
   obtain ⟨e',p1,p2⟩:=find_ents st q2 he
   rw [hb0,Nat.zero_add]
   refine OutV.same hs (v':=.tuple #[e'.key,e'.val]) ?_ (.tuple' ⟨rfl,fun i h1 h2=>?_⟩)
   ·have hbk:seen.toArray.back? = some st:=by rw [List.back?_toArray];exact hst
    have hfd:es'.find? (fun e=>e.born==st)=some e':=by rw [← Array.find?_toList];exact p1
    simp [Instr.entry,run_getObj_mapIter g1,MapKept.run_getObj_map q1,hbk,hcl,hfd]
   ·rcases i with _ | _ | i
    ·exact p2.1
    ·exact p2.2.1
    ·simp at h1;omega
 all_goals (simp [xextra]at h;done)
theorem outU' {s:Sem Unit} {v:Value} {S':St} {w':World} (hr:s.run P w=.ok () w') (hv:v=undef) (h1:Sim B φ S' w') (h2:Keep B φ S w φ S' w'):OutE P B φ S w (do s;pure .skip) v S':=
 ⟨φ,undef,w',.inr ⟨by simp [hr],rfl⟩,by rw [hv];exact Rel.undef φ,h1,h2⟩
theorem extra_sound (hs:Sim B φ S w) (hB:B≤w.heap.size) {o:Oper} {e:EOp} {l:List Operand} (ht:trExtra P o.op=some (e,l)) {ρa ρc:Operand→Value} (hρ:∀ x∈o.op.operands,Rel φ (ρa x) (ρc x)) {v:Value} {S':St} (h:xextra e (l.map ρa) S=some (v,S')) :
  OutE P B φ S w (execOp ρc o) v S':=by
 unfold trExtra at ht
 split at ht
 case h_1 t ho=>
  obtain ⟨rfl,rfl⟩:=Prod.mk.inj (Option.some.inj ht)
  obtain ⟨rfl,rfl⟩:=Prod.mk.inj (Option.some.inj h)
  obtain ⟨k1,k2⟩:=hs.objNew hB (o:=.map [] 0) (r:=.map #[] 0) ⟨#[],rfl,rfl,fun i h=>by simp at h⟩
  have:OutV P B φ S w (Instr.makeMap t none) (.map (some S.next)) (S.alloc (.map [] 0)):=⟨_,.map (some w.heap.size),_,by simp [Instr.makeMap],.map S.next _ (Emb.add_same _ _ _),k1,k2⟩
  simpa [execOp,ho] using OutE.ofV this
 case h_2 t x k ok ho=>
  split at ht
  ·simp only [Option.map_eq_some_iff]at ht
   obtain ⟨z,h1,h3⟩:=ht
   obtain ⟨rfl,rfl⟩:=Prod.mk.inj h3
   have:=OutE.ofV (lookG_sound (P:=P) hs h1 (hρ x (by simp [ho,Op.operands])) (hρ k (by simp [ho,Op.operands])) h)
   simpa [execOp,ho] using this
  simp only [Option.bind_eq_some_iff,Option.map_eq_some_iff]at ht
  obtain ⟨⟨ks,agg,et⟩,h1,z,h2,h3⟩:=ht
  obtain ⟨rfl,rfl⟩:=Prod.mk.inj h3
  have:=OutE.ofV (lookup_sound (P:=P) hs h1 h2 (hρ x (by simp [ho,Op.operands])) (hρ k (by simp [ho,Op.operands])) h)
  simpa [execOp,ho] using this
 case h_3 t m k x ho=>
  simp only [Option.map_eq_some_iff]at ht
  obtain ⟨⟨ks,agg,et⟩,h1,h3⟩:=ht
  obtain ⟨rfl,rfl⟩:=Prod.mk.inj h3
  obtain ⟨hv,w',hr,k1,k2⟩:=mapSet_sound (P:=P) hs h1 (hρ m (by simp [ho,Op.operands])) (hρ k (by simp [ho,Op.operands])) (hρ x (by simp [ho,Op.operands])) h
  simpa [execOp,ho] using outU' hr hv k1 k2
 case h_4 t m k x ho=>
  simp only [Option.map_eq_some_iff]at ht
  obtain ⟨⟨ks,agg,et⟩,h1,h3⟩:=ht
  obtain ⟨rfl,rfl⟩:=Prod.mk.inj h3
  obtain ⟨hv,w',hr,k1,k2⟩:=mapSet_sound (P:=P) hs h1 (hρ m (by simp [ho,Op.operands])) (hρ k (by simp [ho,Op.operands])) (hρ x (by simp [ho,Op.operands])) h
  simpa [execOp,ho] using outU' hr hv k1 k2
 case h_5 t m k ho=>
  simp only [Option.bind_eq_some_iff,Option.map_eq_some_iff]at ht
  obtain ⟨⟨ks,agg,et⟩,h1,z,h2,h3⟩:=ht
  obtain ⟨rfl,rfl⟩:=Prod.mk.inj h3
  have:=OutE.ofV (mapEnt_sound (P:=P) hs h1 h2 (hρ m (by simp [ho,Op.operands])) (hρ k (by simp [ho,Op.operands])) h)
  simpa [execOp,ho] using this
 case h_6 t m k x ho=>
  obtain ⟨rfl,rfl⟩:=Prod.mk.inj (Option.some.inj ht)
  obtain ⟨hv,w',hr,k1,k2⟩:=entSet_sound (P:=P) (t:=t) hs (hρ m (by simp [ho,Op.operands])) (hρ k (by simp [ho,Op.operands])) (hρ x (by simp [ho,Op.operands])) h
  simpa [execOp,ho] using outU' hr hv k1 k2
 case h_7 t x ho=>
  split at ht
  case h_3=>cases ht
  ·rename_i hu
   obtain ⟨rfl,rfl⟩:=Prod.mk.inj (Option.some.inj ht)
   have:=OutE.ofV (iterStr_sound (P:=P) hs hB hu (hρ x (by simp [ho,Op.operands])) h)
   simpa [execOp,ho] using this
  ·rename_i hu
   obtain ⟨rfl,rfl⟩:=Prod.mk.inj (Option.some.inj ht)
   have:=OutE.ofV (iterMap_sound (P:=P) hs hB hu (hρ x (by simp [ho,Op.operands])) h)
   simpa [execOp,ho] using this
 case h_8 x ho=>
  obtain ⟨rfl,rfl⟩:=Prod.mk.inj (Option.some.inj ht)
  have:=OutE.ofV (nextStr_sound (P:=P) (t:=o.type) hs (hρ x (by simp [ho,Op.operands])) h)
  simpa [execOp,ho] using this
 case h_9 x ho=>
  obtain ⟨rfl,rfl⟩:=Prod.mk.inj (Option.some.inj ht)
  simp [xextra]at h
 case h_10 x ho=>
  obtain ⟨rfl,rfl⟩:=Prod.mk.inj (Option.some.inj ht)
  have:=OutE.ofV (entMap_sound (P:=P) hs (hρ x (by simp [ho,Op.operands])) h)
  simpa [execOp,ho] using this
 case h_11 c ho=>
  obtain ⟨callee,args,argTypes⟩:=c
  have hargs:∀ x∈args,Rel φ (ρa x) (ρc x):=fun x hx=>hρ x (by simp [ho,Op.operands,Call.operands,hx])
  have hexec:∀ b,callee=.builtin b→execOp ρc o=builtin b argTypes o.type (args.map fun | .const _=>true | _=>false) (args.map ρc):=by
   intro b hb
   subst hb
   unfold execOp
   simp only [ho,resolve]
   rfl
  simp only at ht
  split at ht
  ·rename_i x t hx1 hx2
   rw [hexec _ rfl]
   have ha:args=#[x]:=by apply Array.ext';simpa using hx1
   have hb:argTypes=#[t]:=by apply Array.ext';simpa using hx2
   subst ha;subst hb
   split at ht
   case h_2=>cases ht
   rename_i kt et hu
   obtain ⟨rfl,rfl⟩:=Prod.mk.inj (Option.some.inj ht)
   have:=OutE.ofV (mapLen_sound (P:=P) (ty:=o.type) hs hu (hargs x (by simp)) h)
   simpa [builtin] using this
  ·rename_i x t hx1 hx2
   rw [hexec _ rfl]
   have ha:args=#[x]:=by apply Array.ext';simpa using hx1
   have hb:argTypes=#[t]:=by apply Array.ext';simpa using hx2
   subst ha;subst hb
   split at ht
   case h_2=>cases ht
   rename_i et hu
   obtain ⟨rfl,rfl⟩:=Prod.mk.inj (Option.some.inj ht)
   have:=OutE.ofV (capNil_sound (P:=P) (ty:=o.type) hs hu (hargs x (by simp)) h)
   simpa [builtin] using this
  ·rename_i m k t u hx1 hx2
   rw [hexec _ rfl]
   have ha:args=#[m,k]:=by apply Array.ext';simpa using hx1
   have hb:argTypes=#[t,u]:=by apply Array.ext';simpa using hx2
   subst ha;subst hb
   simp only [Option.map_eq_some_iff]at ht
   obtain ⟨⟨ks,agg,et⟩,h1,h3⟩:=ht
   obtain ⟨rfl,rfl⟩:=Prod.mk.inj h3
   have:=OutE.ofV (mapDel_sound (P:=P) (u:=u) (ty:=o.type) hs h1 (hargs m (by simp)) (hargs k (by simp)) h)
   simpa [builtin] using this
  ·cases ht
 case h_12=>cases ht
end
end Go.Proofs.YtghcggoodgfaoaaGreatDoor

set_option linter.unusedVariables false
set_option linter.unnecessarySimpa false
namespace Go.Proofs.YtghcggoodgfaoaaGreatDoor
open Go Go.RowKit
section
variable {P:Program} {B:Nat} {φ:Emb} {S:St} {w:World}
theorem rel_argsL {l:List Operand} {ρa ρc:Operand→Value} (h:∀ x∈l,Rel φ (ρa x) (ρc x)):RelL φ (l.map ρa) (l.map ρc):=
 ⟨by simp,fun i h1 h2=>by simpa using h _ (List.getElem_mem (by simpa using h1))⟩
theorem rel_argsA {l:Array Operand} {ρa ρc:Operand→Value} (h:∀ x∈l,Rel φ (ρa x) (ρc x)):RelA φ (l.map ρa) (l.map ρc):=
 ⟨by simp,fun i h1 h2=>by simpa using h _ (Array.getElem_mem (by simpa using h1))⟩
theorem minmax_run (mx:Bool):∀ (l l':List Value) (a:Int) (k:IntKind) (v:Value),xminmax mx a k l=some v→RelL φ l l'→(l'.foldlM (if mx then Builtin.max2 else Builtin.min2) (.int k a)).run P w=.ok v w∧Rel φ v v:=by
 intro l
 induction l with
 | nil=>
  intro l' a k v h hr
  obtain rfl:l'=[]:=List.eq_nil_of_length_eq_zero hr.1.symm
  obtain rfl:=Option.some.inj h
  exact ⟨by simp,.int _ _⟩
 | cons x l ih=>
  intro l' a k v h hr
  cases l' with
  | nil=>have:=hr.1;simp at this
  | cons x' l'=>
   have hx:=hr.2 0 (by simp) (by simp)
   simp only [List.getElem_cons_zero]at hx
   cases x with
   | int j b=>
    rw [int_inv hx]
    simp only [xminmax]at h
    split at h
    case isFalse=>cases h
    rename_i e
    subst e
    obtain ⟨h1,h2⟩:=ih l' _ _ v h hr.tail
    refine ⟨?_,h2⟩
    cases mx
    ·simp only [Bool.false_eq_true,if_false]at h1 ⊢
     rw [List.foldlM_cons]
     simpa [Builtin.min2] using h1
    ·simp only [if_true]at h1 ⊢
     rw [List.foldlM_cons]
     simpa [Builtin.max2] using h1
   | _=>simp [xminmax]at h
theorem outU {s:Sem Unit} {v:Value} {S':St} {w':World} (hr:s.run P w=.ok () w') (hv:v=undef) (h1:Sim B φ S' w') (h2:Keep B φ S w φ S' w'):OutE P B φ S w (do s;pure .skip) v S':=
 ⟨φ,undef,w',.inr ⟨by simp [hr],rfl⟩,by rw [hv];exact Rel.undef φ,h1,h2⟩
theorem trElem_inv {t e:TypeId} {i:TypeInfo} {z:Value} (h:trElem P t=some (e,i,z)):P.underlying t=some (.slice e)∧P.info? e=some i∧i.zero=some z∧z.cells.size=i.size∧flatL z.cells.toList=true:=by
 unfold trElem at h
 split at h
 case h_2=>cases h
 rename_i e' hu
 split at h
 case h_2=>cases h
 rename_i i' hi
 split at h
 case h_2=>cases h
 rename_i z' hz
 split at h
 case isFalse=>cases h
 rename_i hc
 simp only [Option.some.injEq,Prod.mk.injEq]at h
 obtain ⟨rfl,rfl,rfl⟩:=h
 exact ⟨hu,hi,hz,hc.1,hc.2⟩
theorem builtin_ofV {b:Builtin} {s:Sem Value} {v:Value} {S':St} {argTypes:Array TypeId} {ty:TypeId} {consts:Array Bool} {args:Array Value} (e:builtin b argTypes ty consts args=(do pure (.value (← s)))) (h:OutV P B φ S w s v S'):OutE P B φ S w (builtin b argTypes ty consts args) v S':=by
 rw [e];exact OutE.ofV h
theorem trCall_sound (hs:Sim B φ S w) (hB:B≤w.heap.size) {o:Oper} {c:Call} (ho:o.op=.call c) {xo:XOp} (ht:trCall P c=some xo) {ρa ρc:Operand→Value} (hρ:∀ x∈c.operands,Rel φ (ρa x) (ρc x)) {v:Value} {S':St} (h:xop xo ρa S=some (v,S')) :
  OutE P B φ S w (execOp ρc o) v S':=by
 have hargs:∀ x∈c.args,Rel φ (ρa x) (ρc x):=fun x hx=>hρ x (by simp [Call.operands,hx])
 obtain ⟨callee,args,argTypes⟩:=c
 have hexec:∀ b,callee=.builtin b→execOp ρc o=builtin b argTypes o.type (args.map fun | .const _=>true | _=>false) (args.map ρc):=by
  intro b hb
  subst hb
  unfold execOp
  simp only [ho,resolve]
  rfl
 unfold trCall at ht
 simp only at ht hargs
 split at ht
 ·
  rename_i x t hx1 hx2
  rw [hexec _ rfl]
  have ha:args=#[x]:=by apply Array.ext';simpa using hx1
  have hb:argTypes=#[t]:=by apply Array.ext';simpa using hx2
  subst ha;subst hb
  have hx:=hargs x (by simp)
  split at ht
  ·rename_i e hu
   obtain rfl:=Option.some.inj ht
   simp only [xop]at h
   split at h
   case h_2=>cases h
   rename_i a n c0 e1
   obtain ⟨rfl,rfl⟩:=Prod.mk.inj (Option.some.inj h)
   rw [e1]at hx
   refine builtin_ofV (s:=Builtin.len_ #[t] o.type #[ρc x]) (by simp [builtin]) (OutV.same hs (v':=.int .i64 n) ?_ (.int _ _))
   revert hx
   generalize ρc x=u'
   intro hx
   cases hx<;>simp [Builtin.len_,run_underlying hu,goInt]
  ·rename_i hu
   obtain rfl:=Option.some.inj ht
   simp only [xop]at h
   split at h
   case h_2=>cases h
   rename_i q e1
   obtain ⟨rfl,rfl⟩:=Prod.mk.inj (Option.some.inj h)
   rw [e1]at hx
   refine builtin_ofV (s:=Builtin.len_ #[t] o.type #[ρc x]) (by simp [builtin]) (OutV.same hs (v':=.int .i64 q.size) ?_ (.int _ _))
   simp [string_inv hx,Builtin.len_,run_underlying hu,goInt]
  ·cases ht
 ·
  rename_i s x t u hx1 hx2
  rw [hexec _ rfl]
  have ha:args=#[s,x]:=by apply Array.ext';simpa using hx1
  have hb:argTypes=#[t,u]:=by apply Array.ext';simpa using hx2
  subst ha;subst hb
  split at ht
  case isFalse=>cases ht
  rename_i e
  subst e
  simp only [Option.map_eq_some_iff]at ht
  obtain ⟨⟨e,i,z⟩,hte,rfl⟩:=ht
  obtain ⟨h1,h2,h3,h4,h5⟩:=trElem_inv hte
  exact builtin_ofV (s:=Builtin.append_ #[t,t] o.type #[ρc s,ρc x]) (by simp [builtin]) (append_sound hs hB h1 h2 h3 h4 (hargs s (by simp)) (hargs x (by simp)) h)
 ·
  rename_i s x t u hx1 hx2
  rw [hexec _ rfl]
  have ha:args=#[s,x]:=by apply Array.ext';simpa using hx1
  have hb:argTypes=#[t,u]:=by apply Array.ext';simpa using hx2
  subst ha;subst hb
  simp only [Option.map_eq_some_iff]at ht
  obtain ⟨⟨e,i,z⟩,hte,rfl⟩:=ht
  obtain ⟨h1,h2,h3,h4,h5⟩:=trElem_inv hte
  exact builtin_ofV (s:=Builtin.copy_ #[t,u] o.type #[ρc s,ρc x]) (by simp [builtin]) (copy_sound hs h1 h2 (hargs s (by simp)) (hargs x (by simp)) h)
 ·
  rename_i x t hx1 hx2
  rw [hexec _ rfl]
  have ha:args=#[x]:=by apply Array.ext';simpa using hx1
  have hb:argTypes=#[t]:=by apply Array.ext';simpa using hx2
  subst ha;subst hb
  simp only [Option.map_eq_some_iff]at ht
  obtain ⟨⟨e,i,z⟩,hte,rfl⟩:=ht
  obtain ⟨h1,h2,h3,h4,h5⟩:=trElem_inv hte
  exact builtin_ofV (s:=Builtin.clear_ #[t] o.type #[ρc x]) (by simp [builtin]) (clr_sound hs h1 h2 h3 h5 (hargs x (by simp)) h)
 ·
  rename_i x l hx1
  rw [hexec _ rfl]
  have ha:args=(x::l).toArray:=by apply Array.ext';simpa using hx1
  subst ha
  obtain rfl:=Option.some.inj ht
  simp only [xop]at h
  split at h
  case h_2=>cases h
  rename_i k a e1
  simp only [Option.map_eq_some_iff,Prod.mk.injEq]at h
  obtain ⟨v0,h,rfl,rfl⟩:=h
  have hx:=hargs x (by simp)
  rw [e1]at hx
  obtain ⟨h1,h2⟩:=minmax_run (P:=P) (w:=w) false (l.map ρa) (l.map ρc) a k v0 h (rel_argsL fun y hy=>hargs y (by simp [hy]))
  refine builtin_ofV (s:=Builtin.min_ argTypes o.type (((x::l).toArray).map ρc)) (by simp [builtin]) (OutV.same hs (v':=v0) ?_ h2)
  simp only [Bool.false_eq_true,if_false]at h1
  simp [Builtin.min_,int_inv hx]
  simpa using h1
 ·
  rename_i x l hx1
  rw [hexec _ rfl]
  have ha:args=(x::l).toArray:=by apply Array.ext';simpa using hx1
  subst ha
  obtain rfl:=Option.some.inj ht
  simp only [xop]at h
  split at h
  case h_2=>cases h
  rename_i k a e1
  simp only [Option.map_eq_some_iff,Prod.mk.injEq]at h
  obtain ⟨v0,h,rfl,rfl⟩:=h
  have hx:=hargs x (by simp)
  rw [e1]at hx
  obtain ⟨h1,h2⟩:=minmax_run (P:=P) (w:=w) true (l.map ρa) (l.map ρc) a k v0 h (rel_argsL fun y hy=>hargs y (by simp [hy]))
  refine builtin_ofV (s:=Builtin.max_ argTypes o.type (((x::l).toArray).map ρc)) (by simp [builtin]) (OutV.same hs (v':=v0) ?_ h2)
  simp only [if_true]at h1
  simp [Builtin.max_,int_inv hx]
  simpa using h1
 ·
  split at ht
  ·split at ht
   ·obtain rfl:=Option.some.inj ht
    simp [xop]at h
   ·cases ht
  ·cases ht
 ·obtain rfl:=Option.some.inj ht
  simp [xop]at h
 ·cases ht
theorem parts_rel {ps:List (Nat × Nat × Operand)} {ρa ρc:Operand→Value} (h:∀ p∈ps,Rel φ (ρa p.2.2) (ρc p.2.2)) {z l:List Value} (hz:flatL z=true) (hf:fillL z (ps.map fun p=>(p.1,p.2.1,ρa p.2.2))=some l) :
  ∃ l',fillL z (ps.map fun p=>(p.1,p.2.1,ρc p.2.2))=some l'∧RelL φ l l':=
 fillL_rel _ _ z z l (flatL_rel hz φ) (by simp) (fun i h1 h2=>⟨by simp,by simp,by simpa using h _ (List.getElem_mem (by simpa using h1))⟩) hf
theorem mapM_struct:∀ (l:List Field) (w:World) (zs:List (Nat × Nat)),(l.mapM fun f=>(P.info? f.type).map fun i=>(f.offset,i.size))=some zs→
  ((l.mapM fun f=>(do pure (f.offset,← sizeOf f.type):Sem (Nat × Nat))).run P w)=.ok zs w:=by
 intro l
 induction l with
 | nil=>intro w zs h;simp at h;subst h;simp
 | cons f l ih=>
  intro w zs h
  simp only [List.mapM_cons,Option.bind_eq_bind,Option.bind_eq_some_iff,Option.map_eq_some_iff]at h
  obtain ⟨q,⟨i,hi,rfl⟩,r,hr,h⟩:=h
  simp at h
  subst h
  have hz:=run_sizeOf' (w:=w) f.type i hi
  simp only [List.mapM_cons,Sem.run_bind,hz,Result.andThen_ok,Sem.run_pure,ih w r hr]
theorem mapM_parts {zs:List (Nat × Nat)}:∀ {parts:List (Nat × Operand)} {ps:List (Nat × Nat × Operand)},(parts.mapM fun p=>(zs[p.1]?).map fun q=>(q.1,q.2,p.2))=some ps→
  parts.length=ps.length∧∀ i (h:i<parts.length) (h':i<ps.length),zs[parts[i].1]? = some (ps[i].1,ps[i].2.1)∧parts[i].2=ps[i].2.2:=by
 intro parts
 induction parts with
 | nil=>intro ps h;simp at h;subst h;exact ⟨rfl,fun i h=>by simp at h⟩
 | cons p parts ih=>
  intro ps h
  simp only [List.mapM_cons,Option.bind_eq_bind,Option.bind_eq_some_iff,Option.map_eq_some_iff]at h
  obtain ⟨q,⟨z,hz,rfl⟩,r,hr,h⟩:=h
  simp at h
  subst h
  obtain ⟨h1,h2⟩:=ih hr
  refine ⟨by simp [h1],fun i hi hi'=>?_⟩
  cases i with
  | zero=>exact ⟨hz,rfl⟩
  | succ i=>simpa using h2 i (by simpa using hi) (by simpa using hi')
theorem build_sound (hs:Sim B φ S w) {t:TypeId} {i:TypeInfo} {z:Value} (hi:P.info? t=some i) (hz:i.zero=some z) (hzf:flatL z.cells.toList=true) {parts:Array (Nat × Operand)} {ps:List (Nat × Nat × Operand)} (hp:trParts P t parts.toList=some ps)
  {ρa ρc:Operand→Value} (hρ:∀ p∈parts,Rel φ (ρa p.2) (ρc p.2)) {l:List Value} (h:fillL z.cells.toList (ps.map fun p=>(p.1,p.2.1,ρa p.2.2))=some l) :
  OutV P B φ S w (Instr.build t (parts.map fun (i,x)=>(i,ρc x))) (.agg l.toArray) S:=by
 unfold trParts at hp
 split at hp
 ·rename_i fs hu
  simp only [Option.bind_eq_some_iff]at hp
  obtain ⟨zs,hzs,hps⟩:=hp
  obtain ⟨hl,hget⟩:=mapM_parts hps
  have hrel:∀ p∈ps,Rel φ (ρa p.2.2) (ρc p.2.2):=by
   intro p hp
   obtain ⟨j,hj,rfl⟩:=List.getElem_of_mem hp
   rw [← (hget j (by omega) hj).2]
   exact hρ _ (by have:=List.getElem_mem (l:=parts.toList) (show j<parts.toList.length by omega);simpa using this)
  obtain ⟨l',hf,hr⟩:=parts_rel hrel hzf h
  have hm:=mapM_struct (P:=P) fs.toList w zs hzs
  refine OutV.same hs (v':=.agg l'.toArray) ?_ (.agg' hr.toA)
  have hfill:=fill_eq (fun j=>zs.toArray[j]?) ((parts.map fun (i,x)=>(i,ρc x)).toList) (ps.map fun p=>(p.1,p.2.1,ρc p.2.2)) z.cells l' (by simp [hl]) (fun j h1 h2=>by
   have:=hget j (by simpa using h1) (by simpa using h2)
   simp at this ⊢
   exact ⟨this.1,by rw [this.2]⟩) hf
  have hmA:(fs.mapM fun f=>(do pure (f.offset,← sizeOf f.type):Sem (Nat × Nat))).run P w=.ok zs.toArray w:=by
   rw [← Array.toArray_toList (xs:=fs),List.mapM_toArray,Sem.run_map,hm]
   rfl
  simp only [Instr.build,Sem.run_bind,zeroValue,typeInfo,run_program,Result.andThen_ok,hi,Sem.run_pure,hz,run_underlying hu,hmA,hfill]
 ·rename_i n e hu
  simp only [Option.map_eq_some_iff]at hp
  obtain ⟨j,hj,rfl⟩:=hp
  have hrel:∀ p∈(parts.toList.map fun p=>(p.1*j.size,j.size,p.2)),Rel φ (ρa p.2.2) (ρc p.2.2):=by
   intro p hp
   simp only [List.mem_map]at hp
   obtain ⟨q,hq,rfl⟩:=hp
   exact hρ q (by simpa using hq)
  obtain ⟨l',hf,hr⟩:=parts_rel hrel hzf h
  refine OutV.same hs (v':=.agg l'.toArray) ?_ (.agg' hr.toA)
  have hzz:=run_sizeOf' (w:=w) e j hj
  have hfill:=fill_eq (fun i=>some (i*j.size,j.size)) ((parts.map fun (i,x)=>(i,ρc x)).toList) _ z.cells l' (by simp) (fun j h1 h2=>by simp) hf
  simp only [Instr.build,Sem.run_bind,zeroValue,typeInfo,run_program,Result.andThen_ok,hi,Sem.run_pure,hz,run_underlying hu,hzz,hfill]
 ·cases hp
theorem buildSlice_sound (hs:Sim B φ S w) (hB:B≤w.heap.size) {t e:TypeId} {i:TypeInfo} {z:Value} (hte:trElem P t=some (e,i,z)) {n:Nat} (hn:n*i.size≤16777216) {parts:Array (Nat × Operand)}
  {ρa ρc:Operand→Value} (hρ:∀ p∈parts,Rel φ (ρa p.2) (ρc p.2)) {l:List Value} (h:fillL (rep n z.cells.toList) ((parts.toList.map fun p=>(p.1*i.size,i.size,p.2)).map fun p=>(p.1,p.2.1,ρa p.2.2))=some l) (hone:allOne l=true) :
  OutV P B φ S w (Instr.buildSlice t n (parts.map fun (i,x)=>(i,ρc x))) (.slice (some ⟨S.next,0,none⟩) n n) (S.alloc (.cells l e i.size true [])):=by
 obtain ⟨hu,hi,hz,hzs,hzf⟩:=trElem_inv hte
 have hrel:∀ p∈(parts.toList.map fun p=>(p.1*i.size,i.size,p.2)),Rel φ (ρa p.2.2) (ρc p.2.2):=by
  intro p hp
  simp only [List.mem_map]at hp
  obtain ⟨q,hq,rfl⟩:=hp
  exact hρ q (by simpa using hq)
 have hrf:=flatL_rep hzf n
 obtain ⟨l',hf,hr⟩:=parts_rel hrel hrf h
 have hzz:=run_sizeOf' (w:=w) e i hi
 have hcells:((Array.range (n*i.size)).map (z.cells[· % z.cells.size]!)).toList=rep n z.cells.toList:=by rw [← hzs];exact madeCells_rep _ _
 have hfill:=fill_eq (fun j=>some (j*i.size,i.size)) ((parts.map fun (i,x)=>(i,ρc x)).toList) ((parts.toList.map fun p=>(p.1*i.size,i.size,p.2)).map fun p=>(p.1,p.2.1,ρc p.2.2)) ((Array.range (n*i.size)).map (z.cells[· % z.cells.size]!)) l' (by simp) (fun j h1 h2=>by simp) (by rw [hcells];exact hf)
 have hll:l'.length=n*i.size:=by
  have:∀ (ps:List (Nat × Nat × Value)) (z l:List Value),fillL z ps=some l→l.length=z.length:=by
   intro ps
   induction ps with
   | nil=>intro z l h;simp [fillL]at h;rw [h]
   | cons p ps ih=>
    intro z l h
    obtain ⟨off,sz,v⟩:=p
    simp only [fillL]at h
    split at h
    case isFalse=>cases h
    rename_i hc
    rw [ih _ _ h,splice_length _ _ _ (by simp;omega)]
  rw [this _ _ _ hf,rep_length]
  simp [hzs]
 have hone':∀ v∈l,v.oneCell'=true:=allOne_iff.1 hone
 obtain ⟨k1,k2⟩:=hs.alloc hB l l'.toArray e e i.size hone' (by simp [hr.1]) (fun j u hu=>by
  have hj:j<l.length:=(List.getElem?_eq_some_iff.1 hu).1
  have hj':j<l'.length:=by rw [← hr.1];exact hj
  refine ⟨l'[j],by simp [hj'],?_⟩
  have:=hr.2 j hj hj'
  rw [List.getElem?_eq_getElem hj]at hu
  rw [← Option.some.inj hu];exact this) []
 refine ⟨_,.slice (some ⟨w.heap.size,0,none⟩) n n,_,?_,?_,k1,k2⟩
 ·have hnn:¬ (16777216<n*i.size):=by omega
  by_cases hn0:n*i.size=0
  ·have he:(Array.range (n*i.size)).map (z.cells[· % z.cells.size]!)=#[]:=Array.eq_empty_of_size_eq_zero (by simp [hn0])
   rw [he]at hfill
   simp only [Instr.buildSlice,Sem.run_bind,run_underlying hu,Result.andThen_ok,hzz,hn0,Nat.not_lt_zero,if_false,if_true,Sem.run_pure,gt_iff_lt]
   have he0:(Array.range 0).map ((#[]:Array Value)[· % (#[]:Array Value).size]!)=#[]:=Array.eq_empty_of_size_eq_zero (by simp)
   rw [he0,hfill]
   simp [newRow]
  ·simp only [Instr.buildSlice,Sem.run_bind,run_underlying hu,Result.andThen_ok,hzz,gt_iff_lt,Sem.run_ite,hn0,if_false,zeroValue,typeInfo,run_program,hi,hz,Sem.run_pure]
   rw [if_neg (by simpa using hnn)]
   simp only [Sem.run_pure,Result.andThen_ok,hfill,newRow,Sem.run_bind,run_newObj]
   rfl
 ·have:=Rel.slice (φ:=φ.add S.next ⟨w.heap.size,0,l'.toArray.size,i.size⟩) S.next 0 n n n _ (Emb.add_same _ _ _) (Nat.le_refl _) (Nat.le_refl _) (by simp [hll])
  simpa using this
theorem tr_sound (hs:Sim B φ S w) (hB:B≤w.heap.size) {o:Oper} {xo:XOp} (ht:tr P o=some xo) {ρa ρc:Operand→Value} (hρ:∀ x∈o.op.operands,Rel φ (ρa x) (ρc x)) {v:Value} {S':St} (h:xop xo ρa S=some (v,S')) :
  OutE P B φ S w (execOp ρc o) v S':=by
 unfold tr at ht
 split at ht
 case h_1 x ho=>
  obtain rfl:=Option.some.inj ht
  obtain ⟨rfl,rfl⟩:=Prod.mk.inj (Option.some.inj h)
  refine OutE.same hs (v':=ρc x) ?_ (hρ x (by simp [ho,Op.operands]))
  simp [execOp,ho]
 case h_2 x ho=>
  obtain rfl:=Option.some.inj ht
  obtain ⟨rfl,rfl⟩:=Prod.mk.inj (Option.some.inj h)
  refine OutE.same hs (v':=ρc x) ?_ (hρ x (by simp [ho,Op.operands]))
  simp [execOp,ho]
 case h_3 c a b ho=>
  obtain rfl:=Option.some.inj ht
  have hc:=hρ c (by simp [ho,Op.operands])
  have ha:=hρ a (by simp [ho,Op.operands])
  have hb:=hρ b (by simp [ho,Op.operands])
  simp only [xop]at h
  split at h
  case h_2=>cases h
  rename_i q e
  obtain ⟨rfl,rfl⟩:=Prod.mk.inj (Option.some.inj h)
  rw [e]at hc
  refine OutE.same hs (v':=if q then ρc a else ρc b) ?_ (by cases q<;>simp [ha,hb])
  simp [execOp,ho,bool_inv hc,asBool]
 case h_4 t x ho=>
  obtain rfl:=Option.some.inj ht
  simp only [xop]at h
  split at h
  case isFalse=>cases h
  rename_i h1
  obtain ⟨rfl,rfl⟩:=Prod.mk.inj (Option.some.inj h)
  have:=OutE.ofV (box_sound (P:=P) hs hB (t:=t) (hρ x (by simp [ho,Op.operands])) h1)
  simpa [execOp,ho] using this
 case h_5 t ho=>
  split at ht
  case h_2=>cases ht
  rename_i i hi
  split at ht
  case h_2=>cases ht
  rename_i z hz
  split at ht
  case isFalse=>cases ht
  rename_i hzf
  obtain rfl:=Option.some.inj ht
  obtain ⟨rfl,rfl⟩:=Prod.mk.inj (Option.some.inj h)
  obtain ⟨k1,k2⟩:=hs.alloc hB z.cells.toList z.cells t t z.cells.size (allOne_iff.1 (flatL_one hzf)) (by simp) (fun j u hu=>⟨u,by simpa using hu,flat1_rel (by simp [flatL]at hzf;have:=List.mem_of_getElem? hu;simp at this;obtain ⟨j,hj,rfl⟩:=Array.getElem_of_mem this;exact hzf j hj) φ⟩) []
  refine ⟨_,.pointer (some ⟨w.heap.size,0,none⟩),_,.inl ?_,?_,k1,k2⟩
  ·simp [execOp,ho,Instr.alloc,zeroValue,typeInfo,hi,hz,newVar,newRow]
  ·have:=Rel.ptr (φ:=φ.add S.next ⟨w.heap.size,0,z.cells.size,z.cells.size⟩) S.next 0 _ (Emb.add_same _ _ _)
   simpa using this
 case h_6 t x ho=>
  split at ht
  case h_2=>cases ht
  rename_i d i hd hi
  obtain rfl:=Option.some.inj ht
  have hx:=hρ x (by simp [ho,Op.operands])
  simp only [xop]at h
  split at h
  case h_2=>cases h
  rename_i id o' e
  rw [e]at hx
  simp only [Option.bind_eq_some_iff,Option.map_eq_some_iff,Prod.mk.injEq]at h
  obtain ⟨c,hc,v0,hv,rfl,rfl⟩:=h
  have:=OutE.ofV (load_sound (P:=P) hs hd hi hx hc hv)
  simpa [execOp,ho] using this
 case h_7 t a x ho=>
  simp only [Option.map_eq_some_iff]at ht
  obtain ⟨i,hi,rfl⟩:=ht
  have ha:=hρ a (by simp [ho,Op.operands])
  have hx:=hρ x (by simp [ho,Op.operands])
  simp only [xop]at h
  split at h
  case h_2=>cases h
  rename_i id o' e
  rw [e]at ha
  split at h
  case h_2=>cases h
  rename_i c t2 z an hget
  split at h
  case isFalse=>cases h
  rename_i hc
  obtain ⟨hc1,hc2,hc3⟩:=hc
  obtain ⟨rfl,rfl⟩:=Prod.mk.inj (Option.some.inj h)
  obtain ⟨w',hr,k1,k2⟩:=store_sound (P:=P) hs hi ha hx hget hc1 hc2 hc3
  have:=outU (v:=undef) hr rfl k1 k2
  simpa [execOp,ho] using this
 case h_8 x ho=>
  obtain rfl:=Option.some.inj ht
  have hx:=hρ x (by simp [ho,Op.operands])
  simp only [xop]at h
  split at h
  ·rename_i id o' e
   obtain ⟨rfl,rfl⟩:=Prod.mk.inj (Option.some.inj h)
   rw [e]at hx
   obtain ⟨s,e2,e3⟩:=ptr_inv hx
   refine OutE.same hs (v':=ρc x) ?_ hx
   simp [execOp,ho,e3]
  ·rename_i f a b e
   obtain ⟨rfl,rfl⟩:=Prod.mk.inj (Option.some.inj h)
   rw [e]at hx
   refine OutE.same hs (v':=ρc x) ?_ hx
   have:∃ a' b',ρc x=.func (.func f) a' b':=by
    revert hx;generalize ρc x=u;intro hx
    cases hx;exact ⟨_,_,rfl⟩
   obtain ⟨a',b',e3⟩:=this
   simp [execOp,ho,e3]
  ·rename_i t u e
   obtain ⟨rfl,rfl⟩:=Prod.mk.inj (Option.some.inj h)
   rw [e]at hx
   refine OutE.same hs (v':=ρc x) ?_ hx
   have:∃ u',ρc x=.iface t u':=by
    revert hx;generalize ρc x=u;intro hx
    cases hx;exact ⟨_,rfl⟩
   obtain ⟨u',e3⟩:=this
   simp [execOp,ho,e3]
  ·cases h
 case h_9 t x y yt ho=>
  have:=trEq_sound (P:=P) hs ht (hρ x (by simp [ho,Op.operands])) (hρ y (by simp [ho,Op.operands])) h
  simpa [execOp,ho] using this
 case h_10 t x y yt ho=>
  have:=trEq_sound (P:=P) hs ht (hρ x (by simp [ho,Op.operands])) (hρ y (by simp [ho,Op.operands])) h
  simpa [execOp,ho] using this
 case h_11 op t x y yt n1 n2 ho=>
  have hb:xo=.bin op x y:=by
   split at ht
   ·exact (Option.some.inj ht).symm
   ·exact (Option.some.inj ht).symm
   ·cases ht
  subst hb
  simp only [xop,Option.map_eq_some_iff,Prod.mk.injEq]at h
  obtain ⟨v0,h,rfl,rfl⟩:=h
  have:=bin_sound (P:=P) hs (op:=op) (t:=t) (hρ x (by simp [ho,Op.operands])) (hρ y (by simp [ho,Op.operands])) h
  simpa [execOp,ho] using this
 case h_12 op t x ho=>
  obtain rfl:=Option.some.inj ht
  have hx:=hρ x (by simp [ho,Op.operands])
  simp only [xop]at h
  split at h
  ·rename_i k n e
   obtain ⟨rfl,rfl⟩:=Prod.mk.inj (Option.some.inj h)
   rw [e]at hx
   refine OutE.same hs (v':=.int k (k.wrap (0-n))) ?_ (.int _ _)
   simp [execOp,ho,int_inv hx,Op.unary,Op.intArith]
  ·rename_i b e
   obtain ⟨rfl,rfl⟩:=Prod.mk.inj (Option.some.inj h)
   rw [e]at hx
   refine OutE.same hs (v':=.bool !b) ?_ (.bool _)
   simp [execOp,ho,bool_inv hx,Op.unary]
  ·cases h
 case h_13 src dst x ho=>
  have hx:=hρ x (by simp [ho,Op.operands])
  split at ht
  ·rename_i k1 k2 h1 h2
   obtain rfl:=Option.some.inj ht
   simp only [xop]at h
   split at h
   case h_2=>cases h
   rename_i k n e
   obtain ⟨rfl,rfl⟩:=Prod.mk.inj (Option.some.inj h)
   rw [e]at hx
   refine OutE.same hs (v':=.int k2 (k2.wrap n)) ?_ (.int _ _)
   simp [execOp,ho,int_inv hx,convert,run_underlying h1,run_underlying h2,Conv.intToInt]
  ·rename_i h1 h2
   obtain rfl:=Option.some.inj ht
   simp only [xop]at h
   split at h
   case h_2=>cases h
   rename_i q e
   obtain ⟨rfl,rfl⟩:=Prod.mk.inj (Option.some.inj h)
   rw [e]at hx
   refine OutE.same hs (v':=.string q) ?_ (.string _)
   simp [execOp,ho,string_inv hx,convert,run_underlying h1,run_underlying h2]
  ·cases ht
 case h_14 t x ho=>
  have hx:=hρ x (by simp [ho,Op.operands])
  split at ht
  ·cases ht
  ·rename_i d hno hd
   obtain rfl:=Option.some.inj ht
   obtain ⟨rfl,rfl⟩:=Prod.mk.inj (Option.some.inj h)
   refine OutE.same hs (v':=.iface t (ρc x)) ?_ (.iface t _ _ hx)
   cases d<;>first | (exact (hno _ rfl).elim) | simp [execOp,ho,Instr.makeInterface,run_underlying hd]
  ·cases ht
 case h_15 f a b ho=>
  obtain rfl:=Option.some.inj ht
  obtain ⟨rfl,rfl⟩:=Prod.mk.inj (Option.some.inj h)
  refine OutE.same hs (v':=.func (.func f) (a.map ρc) (b.map ρc)) ?_ (.func' (rel_argsA fun x hx=>hρ x (by simp [ho,Op.operands,hx])) (rel_argsA fun x hx=>hρ x (by simp [ho,Op.operands,hx])))
  simp [execOp,ho,Instr.makeFunc]
 case h_16 t l c ho=>
  simp only [Option.map_eq_some_iff]at ht
  obtain ⟨⟨e,i,z⟩,hte,rfl⟩:=ht
  obtain ⟨h1,h2,h3,h4,h5⟩:=trElem_inv hte
  have hl:=hρ l (by simp [ho,Op.operands])
  have hc:=hρ c (by simp [ho,Op.operands])
  simp only [xop]at h
  split at h
  case h_2=>cases h
  rename_i kl nl kc nc e1 e2
  split at h
  case isFalse=>cases h
  rename_i hcnd
  obtain ⟨c1,c2,c3,c4,c5,c6⟩:=hcnd
  obtain ⟨rfl,rfl⟩:=Prod.mk.inj (Option.some.inj h)
  rw [e1]at hl
  rw [e2]at hc
  have:=OutE.ofV (mkSlice_sound (P:=P) hs hB h1 h2 h3 h4 h5 kl kc nl nc c1 c2 c3 c4)
  simpa [execOp,ho,int_inv hl,int_inv hc] using this
 case h_17 t x lo hi ho=>
  have hx:=hρ x (by simp [ho,Op.operands])
  have hlo:∀ y,lo=some y→Rel φ (ρa y) (ρc y):=fun y hy=>hρ y (by simp [ho,Op.operands,hy])
  have hhi:∀ y,hi=some y→Rel φ (ρa y) (ρc y):=fun y hy=>hρ y (by simp [ho,Op.operands,hy])
  split at ht
  ·rename_i e hu
   simp only [Option.map_eq_some_iff]at ht
   obtain ⟨j,hj,rfl⟩:=ht
   simp only [xop]at h
   split at h
   case h_2=>cases h
   rename_i a n c e1
   split at h
   case h_2=>cases h
   rename_i l hh b1 b2
   split at h
   case isFalse=>cases h
   rename_i hcnd
   have hS:S'=S:=by
    unfold slRes at h
    split at h
    ·split at h<;>cases h;rfl
    ·split at h<;>cases h;rfl
    ·cases h
   subst hS
   have:=OutE.ofV (sl_sound (P:=P) hs hu hj hx e1 (bound_opd (φ:=φ) b1 hlo) (bound_opd (φ:=φ) b2 hhi) hcnd.1 hcnd.2 h)
   simpa [execOp,ho] using this
  ·rename_i hu
   obtain rfl:=Option.some.inj ht
   simp only [xop]at h
   split at h
   case h_2=>cases h
   rename_i q e1
   split at h
   case h_2=>cases h
   rename_i l hh b1 b2
   split at h
   case isFalse=>cases h
   rename_i hcnd
   obtain ⟨rfl,rfl⟩:=Prod.mk.inj (Option.some.inj h)
   rw [e1]at hx
   have hb:=bounds_run (P:=P) (w:=w) false (bound_opd (φ:=φ) b1 hlo) (bound_opd (φ:=φ) b2 hhi) hcnd.1 hcnd.2
   refine OutE.same hs (v':=.string (q.extract l hh)) ?_ (.string _)
   simp [execOp,ho,string_inv hx,Instr.sliceAt,Instr.slice,run_underlying hu,hb]
  ·cases ht
 case h_18 t x f ho=>
  have hx:=hρ x (by simp [ho,Op.operands])
  simp only [Option.map_eq_some_iff]at ht
  obtain ⟨⟨off,agg,sz⟩,hts,rfl⟩:=ht
  simp only [xop]at h
  split at h
  case h_2=>cases h
  rename_i id o' e
  obtain ⟨rfl,rfl⟩:=Prod.mk.inj (Option.some.inj h)
  rw [e]at hx
  have:=OutE.ofV (fa_sound (P:=P) hs hts hx)
  simpa [execOp,ho] using this
 case h_19 t x f ho=>
  have hx:=hρ x (by simp [ho,Op.operands])
  simp only [Option.map_eq_some_iff]at ht
  obtain ⟨⟨off,agg,sz⟩,hts,rfl⟩:=ht
  simp only [xop]at h
  split at h
  case h_2=>cases h
  rename_i a e
  split at h
  case isFalse=>cases h
  rename_i hle
  simp only [Option.map_eq_some_iff,Prod.mk.injEq]at h
  obtain ⟨v0,h,rfl,rfl⟩:=h
  rw [e]at hx
  have:=OutE.ofV (fld_sound (P:=P) hs hts hx hle h)
  simpa [execOp,ho] using this
 case h_20 t x i ho=>
  have hx:=hρ x (by simp [ho,Op.operands])
  have hi:=hρ i (by simp [ho,Op.operands])
  split at ht
  ·rename_i e hu
   simp only [Option.map_eq_some_iff]at ht
   obtain ⟨j,hj,rfl⟩:=ht
   simp only [xop]at h
   split at h
   case h_2=>cases h
   rename_i id o' n c k q e1 e2
   split at h
   case isFalse=>cases h
   rename_i hcnd
   obtain ⟨rfl,rfl⟩:=Prod.mk.inj (Option.some.inj h)
   rw [e1]at hx
   rw [e2]at hi
   have:=OutE.ofV (ia_sound (P:=P) hs hu hj hx (k:=k) hcnd.1 hcnd.2)
   simpa [execOp,ho,int_inv hi] using this
  ·rename_i n e hu
   simp only [Option.map_eq_some_iff]at ht
   obtain ⟨j,hj,rfl⟩:=ht
   simp only [xop]at h
   split at h
   case h_2=>cases h
   rename_i id o' k q e1 e2
   split at h
   case isFalse=>cases h
   rename_i hcnd
   obtain ⟨rfl,rfl⟩:=Prod.mk.inj (Option.some.inj h)
   rw [e1]at hx
   rw [e2]at hi
   have:=OutE.ofV (iaArr_sound (P:=P) hs hu hj hx (k:=k) hcnd.1 hcnd.2)
   simpa [execOp,ho,int_inv hi] using this
  ·cases ht
 case h_21 t x i ho=>
  have hx:=hρ x (by simp [ho,Op.operands])
  have hi:=hρ i (by simp [ho,Op.operands])
  split at ht
  ·rename_i hu
   obtain rfl:=Option.some.inj ht
   simp only [xop]at h
   split at h
   case h_2=>cases h
   rename_i q k n e1 e2
   split at h
   case isFalse=>cases h
   rename_i h0
   simp only [Option.map_eq_some_iff,Prod.mk.injEq]at h
   obtain ⟨b,hb,rfl,rfl⟩:=h
   rw [e1]at hx
   rw [e2]at hi
   refine OutE.same hs (v':=.int .u8 b.toNat) ?_ (.int _ _)
   simp [execOp,ho,string_inv hx,int_inv hi,Instr.index,asIntOf,run_underlying hu,h0,hb]
  ·rename_i n e hu
   split at ht
   case h_2=>cases ht
   rename_i d j hd hj
   split at ht
   case isFalse=>cases ht
   rename_i hone
   obtain rfl:=Option.some.inj ht
   simp only [xop]at h
   split at h
   case h_2=>cases h
   rename_i a k q e1 e2
   split at h
   case isFalse=>cases h
   rename_i hcnd
   obtain ⟨c1,c2,c3⟩:=hcnd
   simp only [Option.map_eq_some_iff,Prod.mk.injEq]at h
   obtain ⟨v0,h,rfl,rfl⟩:=h
   rw [e1]at hx
   rw [e2]at hi
   have:=OutE.ofV (idx_sound (P:=P) hs hu hd hj hone hx (k:=k) c1 c2 c3 h)
   simpa [execOp,ho,int_inv hi] using this
  ·cases ht
 case h_22 x i ho=>
  have hx:=hρ x (by simp [ho,Op.operands])
  obtain rfl:=Option.some.inj ht
  simp only [xop]at h
  split at h
  case h_2=>cases h
  rename_i a e
  simp only [Option.map_eq_some_iff,Prod.mk.injEq]at h
  obtain ⟨v0,h,rfl,rfl⟩:=h
  rw [e]at hx
  obtain ⟨a',e2,ha⟩:=tuple_inv hx
  have hlt:i<a.size:=(Array.getElem?_eq_some_iff.1 h).1
  have hlt':i<a'.size:=by rw [← ha.1];exact hlt
  have hr:=ha.2 i hlt hlt'
  rw [Array.getElem?_eq_getElem hlt]at h
  rw [Option.some.inj h]at hr
  refine OutE.same hs (v':=a'[i]) ?_ hr
  simp [execOp,ho,e2,Instr.extract,hlt']
 case h_23 t parts ho=>
  split at ht
  case h_2=>cases ht
  rename_i i hi
  split at ht
  case h_2=>cases ht
  rename_i z hz
  split at ht
  case isFalse=>cases ht
  rename_i hzf
  simp only [Option.map_eq_some_iff]at ht
  obtain ⟨ps,hps,rfl⟩:=ht
  simp only [xop,Option.map_eq_some_iff,Prod.mk.injEq]at h
  obtain ⟨l,hl,rfl,rfl⟩:=h
  have:=OutE.ofV (build_sound (P:=P) hs hi hz hzf hps (ρa:=ρa) (ρc:=ρc) (fun p hp=>hρ p.2 (by
   simp only [ho,Op.operands,List.mem_toArray,List.mem_map]
   exact ⟨p,by simpa using hp,rfl⟩)) hl)
  simpa [execOp,ho] using this
 case h_24 t n parts ho=>
  simp only [Option.bind_eq_some_iff]at ht
  obtain ⟨⟨e,i,z⟩,hte,ht⟩:=ht
  simp only at ht
  split at ht
  case isFalse=>cases ht
  rename_i hc
  obtain rfl:=Option.some.inj ht
  simp only [xop]at h
  split at h
  case isFalse=>cases h
  simp only [Option.bind_eq_some_iff]at h
  obtain ⟨l,hl,h⟩:=h
  split at h
  case isFalse=>cases h
  rename_i hone
  obtain ⟨rfl,rfl⟩:=Prod.mk.inj (Option.some.inj h)
  have:=OutE.ofV (buildSlice_sound (P:=P) hs hB hte hc.1 (ρa:=ρa) (ρc:=ρc) (fun p hp=>hρ p.2 (by
   simp only [ho,Op.operands,List.mem_toArray,List.mem_map]
   exact ⟨p,by simpa using hp,rfl⟩)) hl hone)
  simpa [execOp,ho] using this
 case h_25 c ho=>
  split at ht
  ·rename_i x0 hc0
   obtain rfl:=Option.some.inj ht
   exact trCall_sound hs hB ho hc0 (fun x hx=>hρ x (by simpa [ho,Op.operands] using hx)) h
  ·simp only [Option.map_eq_some_iff]at ht
   obtain ⟨⟨e,l⟩,hel,rfl⟩:=ht
   exact extra_sound (P:=P) hs hB (by rw [ho];exact hel) hρ h
 case h_26=>
  simp only [Option.map_eq_some_iff]at ht
  obtain ⟨⟨e,l⟩,hel,rfl⟩:=ht
  exact extra_sound (P:=P) hs hB hel hρ h
end
end Go.Proofs.YtghcggoodgfaoaaGreatDoor

namespace Go.Proofs.YtghcggoodgfaoaaGreatDoor
open Go Go.RowKit
abbrev Caller:=Go.Fn→Array Value→St→Option (Value × St)
def xwanted (o:XOper) (env:Env):Bool:=
 match o.guard with
 | none=>true
 | some (t,want)=>match env[t]? with
  | some (.bool b)=>b==want
  | _=>false
def Env.put (env:Env) (dst:Option Tmp) (v:Value):Env:=
 match dst with
 | some d=>env.setIfInBounds d v
 | none=>env
def xstep (cl:Caller) (o:XOp) (ρ:Operand→Value) (S:St):Option (Value × St):=
 match o with
 | .call f args=>cl (.func f) (args.map ρ) S
 | .callv x args=>match ρ x with
  | .func g a b=>cl g (a++args.map ρ++b) S
  | _=>none
 | o=>xop o ρ S
def xops (cl:Caller):List XOper→Env→St→Option (Env × St)
 | [],env,S=>some (env,S)
 | o::r,env,S=>if xwanted o env then (xstep cl o.op (Env.ev env) S).bind fun p=>xops cl r (Env.put env o.dst p.1) p.2 else xops cl r (Env.put env o.dst undef) S
def okOpd:Operand→Bool
 | .tmp _=>true
 | .const v=>flatV v
 | .func _=>true
 | .global _=>false
def stuckOp:XOp:=.iaArr 0 0 (.const undef) (.const undef)
theorem xop_stuck (ρ:Operand→Value) (S:St):xop stuckOp ρ S=none:=by
 unfold stuckOp
 simp only [xop]
 split
 ·rw [if_neg (by omega)]
 ·rfl
def trStuck (o:Oper):Option XOp:=match o.op with
 | .defer _=>none
 | _=>some stuckOp
def trGl (P:Program) (o:Oper):Bool:=match o.op with
 | .load t (.global g)=>gOn&&g==gVar&&(match P.underlying t,P.info? t with
  | some (.map _ _),some _=>true
  | _,_=>false)
 | _=>false
theorem trGl_inv {P:Program} {o:Oper} (h:trGl P o=true):gOn=true∧∃ t k e i,o.op=.load t (.global gVar)∧P.underlying t=some (.map k e)∧P.info? t=some i:=by
 unfold trGl at h
 split at h
 case h_2=>cases h
 rename_i t g ho
 simp only [Bool.and_eq_true,beq_iff_eq]at h
 obtain ⟨⟨h1,rfl⟩,h2⟩:=h
 split at h2
 ·rename_i k e i e1 e2
  exact ⟨h1,t,k,e,i,ho,e1,e2⟩
 ·cases h2
theorem trGl_nodefer {P:Program} {o:Oper} (h:trGl P o=true) (c:Call):o.op≠.defer c:=by
 obtain ⟨_,t,k,e,i,ho,_,_⟩:=trGl_inv h
 rw [ho];intro e;cases e
theorem gload_sound {P:Program} {B:Nat} {φ:Emb} {S:St} {w:World} (hs:Sim B φ S w) {o:Oper} (ht:trGl P o=true) {ρ:Operand→Value} {v:Value} {S':St} (h:xop (.extra .gload []) ρ S=some (v,S')) (a:Act):∃ v',(execOp a.eval o).run P w=.ok (.value v') w∧Rel φ v v'∧S'=S:=by
 obtain ⟨hg,t,k,e,i,ho,hu,hi⟩:=trGl_inv ht
 simp only [xop,xextra,List.map_nil,hg,if_true]at h
 obtain ⟨rfl,rfl⟩:=Prod.mk.inj (Option.some.inj h)
 obtain ⟨b,h1,_,_,⟨t',fz,h2⟩,_⟩:=hs.loops.1 hg
 refine ⟨.map (some b),?_,.tab b h1,rfl⟩
 have ha:=run_isAgg (P:=P) (w:=w) t _ hu
 have hl:(loadVar t ⟨gVar,0,none⟩).run P w=.ok (.map (some b)) w:=by
  have hc:w.cell? ⟨gVar,0,none⟩=some (.map (some b)):=by simp [World.cell?,h2]
  simp [loadVar,ha,aggD,hc]
 simp [execOp,ho,Act.eval,Instr.loadAt,Instr.sureAddr,hl]
def trX (P:Program) (o:Oper):Option XOp:=if trGl P o=true then some (.extra .gload []) else if o.op.operands.toList.all okOpd then (match tr P o with
 | some x=>some x
 | none=>trStuck o) else trStuck o
theorem trStuck_inv {o:Oper} {x:XOp} (h:trStuck o=some x):x=stuckOp∧∀ c,o.op≠.defer c:=by
 unfold trStuck at h
 split at h
 ·cases h
 ·rename_i hn
  exact ⟨(Option.some.inj h).symm,fun c e=>hn c e⟩
theorem trX_inv {P:Program} {o:Oper} {x:XOp} (h:trX P o=some x):((∀ y∈o.op.operands,okOpd y=true)∧tr P o=some x)∨(x=stuckOp∧∀ c,o.op≠.defer c)∨(trGl P o=true∧x=.extra .gload []):=by
 unfold trX at h
 split at h
 ·rename_i hg
  exact .inr (.inr ⟨hg,(Option.some.inj h).symm⟩)
 split at h
 ·rename_i hopd
  simp only [List.all_eq_true,Array.mem_toList_iff]at hopd
  split at h
  ·rename_i y e
   obtain rfl:=Option.some.inj h
   exact .inl ⟨hopd,e⟩
  ·exact .inr (.inl (trStuck_inv h))
 ·exact .inr (.inl (trStuck_inv h))
def trOper (P:Program) (ops:Array Oper) (o:Oper):Option XOper:=
 match trX P o,o.guard with
 | some xo,none=>some ⟨o.dst,xo,none⟩
 | some xo,some (j,want)=>match (ops[j]?).bind (·.dst) with
  | some t=>some ⟨o.dst,xo,some (t,want)⟩
  | none=>none
 | none,_=>none
theorem trOper_inv {P:Program} {ops:Array Oper} {o:Oper} {xo:XOper} (h:trOper P ops o=some xo):((∀ y∈o.op.operands,okOpd y=true)∧tr P o=some xo.op)∨(xo.op=stuckOp∧∀ c,o.op≠.defer c)∨(trGl P o=true∧xo.op=.extra .gload []):=by
 unfold trOper at h
 split at h
 ·rename_i h1 h2
  obtain rfl:=Option.some.inj h
  exact trX_inv h1
 ·rename_i h1 h2
  split at h
  ·obtain rfl:=Option.some.inj h
   exact trX_inv h1
  ·cases h
 ·cases h
def EnvR (φ:Emb) (env:Env) (a:Act):Prop:=RelA φ env a.tmps
theorem EnvR.mono {φ ψ:Emb} (h:Emb.le φ ψ) {env:Env} {a:Act} (k:EnvR φ env a):EnvR ψ env a:=RelA.mono h k
theorem EnvR.ev {φ:Emb} {env:Env} {a:Act} (h:EnvR φ env a) {x:Operand} (hx:okOpd x=true):Rel φ (env.ev x) (a.eval x):=by
 cases x with
 | tmp t=>
  simp only [Env.ev,Act.eval,Array.getD_eq_getD_getElem?]
  by_cases ht:t<env.size
  ·have ht':t<a.tmps.size:=by rw [← h.1];exact ht
   rw [Array.getElem?_eq_getElem ht,Array.getElem?_eq_getElem ht']
   exact h.2 t ht ht'
  ·have ht':¬ t<a.tmps.size:=by rw [← h.1];exact ht
   rw [Array.getElem?_eq_none (Nat.not_lt.1 ht),Array.getElem?_eq_none (Nat.not_lt.1 ht')]
   exact Rel.undef φ
 | const v=>exact flatV_rel hx φ
 | func f=>exact .func' ⟨rfl,fun i h=>by simp at h⟩ ⟨rfl,fun i h=>by simp at h⟩
 | global g=>cases hx
theorem EnvR.put {φ:Emb} {env:Env} {a:Act} (h:EnvR φ env a) (dst:Option Tmp) {v v':Value} (hv:Rel φ v v'):EnvR φ (env.put dst v) (a.put dst v'):=by
 cases dst with
 | none=>exact h
 | some d=>
  refine ⟨by simp [Env.put,Act.put,h.1],fun i h1 h2=>?_⟩
  simp only [Env.put,Act.put,Array.size_setIfInBounds]at h1 h2 ⊢
  rw [Array.getElem_setIfInBounds (by simpa using h1),Array.getElem_setIfInBounds (by simpa using h2)]
  split
  ·exact hv
  ·exact h.2 i h1 h2
theorem wanted_rel {φ:Emb} {env:Env} {a:Act} (h:EnvR φ env a) {P:Program} {ops:Array Oper} {o:Oper} {xo:XOper} (ht:trOper P ops o=some xo):Region.wanted o (yielded ops a.tmps)=xwanted xo env:=by
 unfold trOper at ht
 split at ht
 ·rename_i x hx hg
  obtain rfl:=Option.some.inj ht
  simp [Region.wanted,xwanted,hg]
 ·rename_i x j want hx hg
  split at ht
  case h_2=>cases ht
  rename_i t hj
  obtain rfl:=Option.some.inj ht
  simp only [Region.wanted,xwanted,hg,yielded,hj,Option.bind_some]
  by_cases hlt:t<env.size
  ·have hlt':t<a.tmps.size:=by rw [← h.1];exact hlt
   have hr:=h.2 t hlt hlt'
   rw [Array.getElem?_eq_getElem hlt,Array.getElem?_eq_getElem hlt']
   revert hr
   generalize env[t]=u
   generalize a.tmps[t]=u'
   intro hr
   cases hr<;>simp
  ·have hlt':¬ t<a.tmps.size:=by rw [← h.1];exact hlt
   rw [Array.getElem?_eq_none (Nat.not_lt.1 hlt'),Array.getElem?_eq_none (Nat.not_lt.1 hlt)]
   simp
 ·cases ht
theorem trOper_dst {P:Program} {ops:Array Oper} {o:Oper} {xo:XOper} (h:trOper P ops o=some xo):xo.dst=o.dst:=by
 unfold trOper at h
 split at h
 ·obtain rfl:=Option.some.inj h;rfl
 ·split at h
  ·obtain rfl:=Option.some.inj h;rfl
  ·cases h
 ·cases h
theorem List.length_mapM_option {α β:Type} {f:α→Option β}:∀ {l:List α} {r:List β},l.mapM f=some r→r.length=l.length:=by
 intro l
 induction l with
 | nil=>intro r h;simp at h;subst h;rfl
 | cons x l ih=>
  intro r h
  simp only [List.mapM_cons,Option.bind_eq_bind,Option.bind_eq_some_iff]at h
  obtain ⟨y,hy,ys,hys,h⟩:=h
  simp at h
  subst h
  simp [ih hys]
theorem List.getElem_mapM_option {α β:Type} {f:α→Option β}:∀ {l:List α} {r:List β},l.mapM f=some r→∀ i (h:i<l.length) (h':i<r.length),f l[i]=some r[i]:=by
 intro l
 induction l with
 | nil=>intro r h i hi;simp at hi
 | cons x l ih=>
  intro r h i hi hi'
  simp only [List.mapM_cons,Option.bind_eq_bind,Option.bind_eq_some_iff]at h
  obtain ⟨y,hy,ys,hys,h⟩:=h
  simp at h
  subst h
  cases i with
  | zero=>exact hy
  | succ i=>simpa using ih hys i (by simpa using hi) (by simpa using hi')
def fz (r:Option Nat):Fence:={ Fence.wide with round:=r }
theorem callsIn_fz {r:Option Nat} {n:Nat} {P:Program} {f:FuncId} {args:Array Value} {w:World} {R:Ending→World→Prop}:CallsIn (fz r) n P f args w R↔Calls P f args w R:=
 (show CallsIn (fz r) n P f args w R↔CallsIn Fence.wide n P f args w R from Iff.rfl).trans callsIn_wide
def Yields (P:Program) (l:Nat) (args:Array Value) (w:World) (R:Ending→World→Prop):Prop:=
 ∃ f tmps assign body,(Instr.yield l args).run P w=.ok (.round l f tmps assign body) w∧RoundIn Fence.wide 0 P l f tmps assign body w R
def OutC (B:Nat) (φ:Emb) (S:St) (w:World) (v:Value) (S':St):Ending→World→Prop:=fun e w'=>∃ φ' v',e=.returned v'∧Rel φ' v v'∧Sim B φ' S' w'∧Keep B φ S w φ' S' w'
def CallOK (P:Program) (B:Nat) (cl:Caller):Prop:=
 ∀ g args S v S',cl g args S=some (v,S')→match g with
  | .func f=>(∃ fn,P.funcs[f]? = some fn∧fn.body.isSome=true∧(fn.name == "runtime.NumGoroutine")=false)∧
   ∀ φ w args',RelA φ args args'→Sim B φ S w→B≤w.heap.size→Calls P f args' w (OutC B φ S w v S')
  | .yield id=>∀ φ w args',RelA φ args args'→Sim B φ S w→B≤w.heap.size→∀ s,φ id=some s→Yields P s.b args' w (OutC B φ S w v S')
  | _=>False
theorem wpIn_scope_straight {F:Fence} {n:Nat} {P:Program} {Q:Exit→Act→World→Prop} {a:Act} {w:World} {c:Code} (h:c.wpIn F n P (Exit.noGoto Q) a w):(Code.scope c).wpIn F n P Q a w:=by
 intro b k cs hro hb hr
 have h0:(lone (b.atR a (.code (.scope c)::k)) cs w).fenced P F:=fenced_calm hb hr rfl
 have s0:step P (lone (b.atR a (.code (.scope c)::k)) cs w)=.next (lone (b.atR a (.code c::.inScope c::k)) cs w):=step_lone_go (by simp [stepG,stepG.exec,Frame.atR])
 have s1:∀ a₁ w₁,step P (lone (b.atR a₁ (.inScope c::k)) cs w₁)=.next (lone (b.atR a₁ k) cs w₁):=fun a₁ w₁=>step_lone_go (by simp [stepG,stepG.exec,Frame.atR])
 obtain ⟨e,a₁,w₁,hq,harr⟩:=h b (.inScope c::k) cs hro hb hr
 cases e with
 | normal=>exact ⟨.normal,a₁,w₁,hq,.head h0 s0 (StepsIn.trans harr (.one (fenced_calm hb hr rfl) (s1 a₁ w₁)))⟩
 | exit id=>
  have hx:exitTo id (.inScope c::k)=exitTo id k:=by simp [exitTo]
  exact ⟨.exit id,a₁,w₁,hq,fun k' hk=>.head h0 s0 (harr.1 k' (by rw [hx];exact hk)),
   fun hr' hk=>let ⟨k₁,h1,h2⟩:=harr.2 hr' (by rw [hx];exact hk);⟨k₁,h1,.head h0 s0 h2⟩⟩
 | goto l=>exact hq.elim
 | ret=>exact ⟨_,a₁,w₁,hq,.of_steps (.one h0 s0) harr⟩
 | panic ch=>exact ⟨_,a₁,w₁,hq,.of_steps (.one h0 s0) harr⟩
 | outgrown=>exact ⟨_,a₁,w₁,hq,.of_steps (.one h0 s0) harr⟩
section
variable {P:Program} {B:Nat}
theorem RelA.append {φ:Emb} {a b a' b':Array Value} (h:RelA φ a a') (k:RelA φ b b'):RelA φ (a++b) (a'++b'):=by
 have:=(h.toL.append k.toL).toA
 rw [← Array.toList_append,← Array.toList_append]at this
 simpa only [Array.toArray_toList] using this
theorem RelA.nil (φ:Emb):RelA φ #[] #[]:=⟨rfl,fun i h=>by simp at h⟩
theorem callFunc_run {f:FuncId} {args:Array Value} {fn:Func} {w:World} (hf:P.funcs[f]? = some fn) (hb:fn.body.isSome=true) (hn:(fn.name == "runtime.NumGoroutine")=false):(callFunc f args).run P w=.ok (.enter f args) w:=by
 have hb':fn.body.isNone=false:=by cases h:fn.body<;>simp [h]at hb ⊢
 simp only [callFunc,Sem.run_bind,run_program,Result.andThen_ok,hf,hn,hb',Bool.false_eq_true,if_false,Sem.run_pure]
theorem trEq_ne {neg:Bool} {t:TypeId} {x y:Operand} {xo:XOp} (h:trEq P neg t x y=some xo):(∀ f args,xo≠.call f args)∧(∀ x args,xo≠.callv x args):=by
 unfold trEq at h
 constructor<;>intro _ _ e<;>subst e<;>(split at h<;>first | (cases h;done)|(split at h<;>first | (cases h;done)|(simp at h;done)))
theorem trEq_ne2 {neg:Bool} {t:TypeId} {x y:Operand} {xo:XOp} (h:trEq P neg t x y=some xo):(∀ agg sz x,xo≠.load agg sz x)∧(∀ esz x lo hi,xo≠.sl esz x lo hi):=by
 unfold trEq at h
 constructor<;>intros<;>intro e<;>subst e<;>(split at h<;>first | (cases h;done)|(split at h<;>first | (cases h;done)|(simp at h;done)))
theorem tr_heap_inv {o:Oper} {xo:XOp} (h:tr P o=some xo) :
  (∀ agg sz x,xo=.load agg sz x→∃ t d i,o.op=.load t x∧P.underlying t=some d∧P.info? t=some i∧agg=aggD d∧sz=if aggD d then i.size else 1)∧
  (∀ esz x lo hi,xo=.sl esz x lo hi→∃ t e j,o.op=.slice t x lo hi none∧P.underlying t=some (.slice e)∧P.info? e=some j∧esz=j.size):=by
 unfold tr at h
 split at h
 case h_6 t x ho=>
  split at h
  case h_2=>cases h
  rename_i d i hd hi
  obtain rfl:=Option.some.inj h
  refine ⟨fun agg sz y e=>?_,fun _ _ _ _ e=>by cases e⟩
  simp only [XOp.load.injEq]at e
  obtain ⟨rfl,rfl,rfl⟩:=e
  exact ⟨t,d,i,ho,hd,hi,rfl,rfl⟩
 case h_17 t x lo hi ho=>
  split at h
  ·rename_i e hu
   simp only [Option.map_eq_some_iff]at h
   obtain ⟨j,hj,rfl⟩:=h
   refine ⟨(fun _ _ _ e=>by cases e),fun esz y lo' hi' e2=>?_⟩
   simp only [XOp.sl.injEq]at e2
   obtain ⟨rfl,rfl,rfl,rfl⟩:=e2
   exact ⟨t,e,j,ho,hu,hj,rfl⟩
  ·obtain rfl:=Option.some.inj h
   exact ⟨(fun _ _ _ e=>by cases e),(fun _ _ _ _ e=>by cases e)⟩
  ·cases h
 case h_9=>exact ⟨(fun _ _ _ e=>((trEq_ne2 h).1 _ _ _ e).elim),(fun _ _ _ _ e=>((trEq_ne2 h).2 _ _ _ _ e).elim)⟩
 case h_10=>exact ⟨(fun _ _ _ e=>((trEq_ne2 h).1 _ _ _ e).elim),(fun _ _ _ _ e=>((trEq_ne2 h).2 _ _ _ _ e).elim)⟩
 case h_24=>
  simp only [Option.bind_eq_some_iff]at h
  obtain ⟨⟨e,i,z⟩,_,h⟩:=h
  simp only at h
  split at h
  ·constructor<;>intros<;>subst_vars<;>simp at h
  ·cases h
 case h_25 c ho=>
  split at h
  case h_2=>
   simp only [Option.map_eq_some_iff]at h
   obtain ⟨_,_,rfl⟩:=h
   exact ⟨(fun _ _ _ e=>by cases e),(fun _ _ _ _ e=>by cases e)⟩
  rename_i x0 hc0
  obtain rfl:=Option.some.inj h
  replace h:=hc0
  clear hc0
  unfold trCall at h
  constructor
  ·intro agg sz x e
   subst e
   split at h
   ·split at h<;>cases h
   ·split at h<;>simp at h
   ·simp at h
   ·simp at h
   ·cases h
   ·cases h
   ·split at h
    ·split at h<;>cases h
    ·cases h
   ·cases h
   ·cases h
  ·intro esz x lo hi e
   subst e
   split at h
   ·split at h<;>cases h
   ·split at h<;>simp at h
   ·simp at h
   ·simp at h
   ·cases h
   ·cases h
   ·split at h
    ·split at h<;>cases h
    ·cases h
   ·cases h
   ·cases h
 all_goals
  constructor<;>intros<;>subst_vars<;>exfalso
  all_goals first
   | (cases h;done)
   | (simp at h;done)
   | (split at h<;>first | (cases h;done)|(simp at h;done)|(split at h<;>first | (cases h;done)|(simp at h;done)|(split at h<;>first | (cases h;done)|(simp at h;done))))
theorem tr_call_inv {o:Oper} {xo:XOp} (h:tr P o=some xo) :
  (∀ f args,xo=.call f args→∃ T,o.op=.call { callee:=.value (.func f),args,argTypes:=T })∧(∀ x args,xo=.callv x args→∃ T,o.op=.call { callee:=.value x,args,argTypes:=T }):=by
 unfold tr at h
 split at h
 case h_25 c ho=>
  obtain ⟨callee,cargs,T⟩:=c
  split at h
  case h_2=>
   simp only [Option.map_eq_some_iff]at h
   obtain ⟨_,_,rfl⟩:=h
   exact ⟨(fun _ _ e=>by cases e),(fun _ _ e=>by cases e)⟩
  rename_i x0 hc0
  obtain rfl:=Option.some.inj h
  replace h:=hc0
  clear hc0
  unfold trCall at h
  simp only at h
  constructor
  ·intro f args e
   subst e
   split at h
   ·split at h<;>cases h
   ·split at h<;>simp at h
   ·simp at h
   ·simp at h
   ·cases h
   ·cases h
   ·split at h
    ·split at h
     ·simp only [Option.some.injEq,XOp.call.injEq]at h
      obtain ⟨rfl,rfl⟩:=h
      exact ⟨_,ho⟩
     ·cases h
    ·cases h
   ·cases h
   ·cases h
  ·intro x args e
   subst e
   split at h
   ·split at h<;>cases h
   ·split at h<;>simp at h
   ·simp at h
   ·simp at h
   ·cases h
   ·cases h
   ·split at h
    ·split at h<;>cases h
    ·cases h
   ·simp only [Option.some.injEq,XOp.callv.injEq]at h
    obtain ⟨rfl,rfl⟩:=h
    exact ⟨_,ho⟩
   ·cases h
 case h_9=>exact ⟨fun f args e=>((trEq_ne h).1 f args e).elim,fun x args e=>((trEq_ne h).2 x args e).elim⟩
 case h_10=>exact ⟨fun f args e=>((trEq_ne h).1 f args e).elim,fun x args e=>((trEq_ne h).2 x args e).elim⟩
 case h_24=>
  simp only [Option.bind_eq_some_iff]at h
  obtain ⟨⟨e,i,z⟩,_,h⟩:=h
  simp only at h
  split at h
  ·constructor<;>intro _ _ e<;>subst e<;>simp at h
  ·cases h
 all_goals
  constructor<;>intro _ _ e<;>subst e<;>exfalso
  all_goals first
   | (cases h;done)
   | (simp at h;done)
   | (split at h<;>first | (cases h;done)|(simp at h;done)|(split at h<;>first | (cases h;done)|(simp at h;done)|(split at h<;>first | (cases h;done)|(simp at h;done))))
theorem step_sound' {r:Option Nat} {cl:Caller} (hcl:CallOK P B cl) {φ:Emb} {S:St} {w:World} (hs:Sim B φ S w) (hB:B≤w.heap.size) {ρ:Operand→Value} {a:Act} {ops:Array Oper} {o:Oper} {xo:XOper} (ht:trOper P ops o=some xo) (hρ:∀ x∈o.op.operands,okOpd x=true→Rel φ (ρ x) (a.eval x)) {v:Value} {S':St}
  (h:xstep cl xo.op ρ S=some (v,S')) {K:Act→World→Prop} {Q:Exit→Act→World→Prop}
  (hK:∀ φ' v' w',Rel φ' v v'→Sim B φ' S' w'→Keep B φ S w φ' S' w'→K (a.put o.dst v') w'):o.wpIn (fz r) 0 P a w K Q:=by
 rcases trOper_inv ht with ⟨hopd,htr⟩|⟨hst,_⟩|⟨hgl,hst⟩
 case inr.inl=>
  rw [hst]at h
  have h:xop stuckOp ρ S=some (v,S'):=h
  rw [xop_stuck]at h
  cases h
 case inr.inr=>
  rw [hst]at h
  have h:xop (.extra .gload []) ρ S=some (v,S'):=h
  obtain ⟨v',h1,h2,rfl⟩:=gload_sound hs hgl h a
  unfold Oper.wpIn
  rw [Oper.semAt_eq _ _ _ (trGl_nodefer hgl)]
  refine ⟨fun _ _=>trivial,?_⟩
  rw [h1]
  exact hK φ v' w h2 hs (Keep.refl _ _ _ _)
 have hρ:∀ x∈o.op.operands,Rel φ (ρ x) (a.eval x):=fun x hx=>hρ x hx (hopd x hx)
 have hnd:∀ c,o.op≠.defer c:=by
  intro c hc
  unfold tr at htr
  rw [hc]at htr
  simp [trExtra]at htr
 unfold Oper.wpIn
 rw [Oper.semAt_eq _ _ _ hnd]
 refine ⟨fun _ _=>trivial,?_⟩
 unfold xstep at h
 have hcall:∀ (f:FuncId) (args args':Array Value),RelA φ args args'→cl (.func f) args S=some (v,S')→(execOp a.eval o).run P w=.ok (.enter f args') w→o.uponIn (fz r) 0 P a K Q ((execOp a.eval o).run P w):=by
  intro f args args' hargs hc hr
  rw [hr]
  simp only [Oper.uponIn]
  refine ⟨fun hd=>by simp [fz,Fence.wide]at hd,callsIn_fz.2 ((((hcl _ args S v S' hc).2) φ w args' hargs hs hB).mono ?_)⟩
  rintro e w' ⟨φ',v',rfl,h1,h2,h3⟩
  exact hK φ' v' w' h1 h2 h3
 have hyield:∀ (id:Nat) (s:Spot) (args args':Array Value),RelA φ args args'→cl (.yield id) args S=some (v,S')→φ id=some s→(execOp a.eval o).run P w=(Instr.yield s.b args').run P w→o.uponIn (fz r) 0 P a K Q ((execOp a.eval o).run P w):=by
  intro id s args args' hargs hc hid hr
  obtain ⟨f,tmps,assign,body,hy,hround⟩:=(hcl _ args S v S' hc) φ w args' hargs hs hB s hid
  rw [hr,hy]
  simp only [Oper.uponIn]
  refine ⟨fun hd=>by simp [fz,Fence.wide]at hd,RoundIn.mono (F:=fz r) hround ?_⟩
  rintro e w' ⟨φ',v',rfl,h1,h2,h3⟩
  exact hK φ' v' w' h1 h2 h3
 split at h
 ·
  rename_i f args hop
  rw [hop]at htr
  obtain ⟨argTypes,hoc⟩:=(tr_call_inv htr).1 f args rfl
  obtain ⟨fn,h1,h2,h3⟩:=(hcl _ _ S v S' h).1
  refine hcall f _ (args.map a.eval) (rel_argsA fun x hx=>hρ x (by simp [hoc,Op.operands,Call.operands,hx])) h ?_
  simp [execOp,hoc,resolve,Deferred.ofValue,Act.eval,invoke,callFunc_run h1 h2 h3]
 ·rename_i x args hop
  rw [hop]at htr
  obtain ⟨argTypes,hoc⟩:=(tr_call_inv htr).2 x args rfl
  split at h
  case h_2=>cases h
  rename_i g fa fb hx
  have hxr:=hρ x (by simp [hoc,Op.operands,Call.operands])
  rw [hx]at hxr
  cases g with
  | func f=>
   obtain ⟨fa',fb',e,ha,hb⟩:∃ fa' fb',a.eval x=.func (.func f) fa' fb'∧RelA φ fa fa'∧RelA φ fb fb':=by
    revert hxr
    generalize a.eval x=u
    intro hxr
    cases hxr with
    | func _ _ _ a' b' ha hb h1 h2=>exact ⟨a',b',rfl,⟨ha,h1⟩,⟨hb,h2⟩⟩
   obtain ⟨fn,h1,h2,h3⟩:=(hcl _ _ S v S' h).1
   refine hcall f _ (fa'++args.map a.eval++fb') ((ha.append (rel_argsA fun x hx=>hρ x (by simp [hoc,Op.operands,Call.operands,hx]))).append hb) h ?_
   simp [execOp,hoc,resolve,Deferred.ofValue,e,invoke,callFunc_run h1 h2 h3]
  | yield id=>
   obtain ⟨s,hid,e,rfl,rfl⟩:∃ s,φ id=some s∧a.eval x=.func (.yield s.b) #[] #[]∧fa=#[]∧fb=#[]:=by
    revert hxr
    generalize a.eval x=u
    intro hxr
    cases hxr with
    | yield _ s hid=>exact ⟨s,hid,rfl,rfl,rfl⟩
   refine hyield id s _ (#[]++args.map a.eval++#[]) (RelA.append (RelA.append (RelA.nil φ) (rel_argsA fun x hx=>hρ x (by simp [hoc,Op.operands,Call.operands,hx]))) (RelA.nil φ)) h hid ?_
   simp [execOp,hoc,resolve,Deferred.ofValue,e,invoke]
  | method n=>exact ((hcl _ _ S v S' h):False).elim
  | methodOf t n=>exact ((hcl _ _ S v S' h):False).elim
  | via t p f q=>exact ((hcl _ _ S v S' h):False).elim
 ·rename_i n1 n2
  obtain ⟨φ',v',w',hr,h1,h2,h3⟩:=tr_sound hs hB htr hρ h
  rcases hr with hr | ⟨hr,rfl⟩
  ·rw [hr];exact hK φ' v' w' h1 h2 h3
  ·rw [hr];exact hK φ' undef w' h1 h2 h3
theorem step_sound {r:Option Nat} {cl:Caller} (hcl:CallOK P B cl) {φ:Emb} {S:St} {w:World} (hs:Sim B φ S w) (hB:B≤w.heap.size) {env:Env} {a:Act} (henv:EnvR φ env a) {ops:Array Oper} {o:Oper} {xo:XOper} (ht:trOper P ops o=some xo) {v:Value} {S':St}
  (h:xstep cl xo.op env.ev S=some (v,S')) {K:Act→World→Prop} {Q:Exit→Act→World→Prop}
  (hK:∀ φ' v' w',Rel φ' v v'→Sim B φ' S' w'→Keep B φ S w φ' S' w'→K (a.put o.dst v') w'):o.wpIn (fz r) 0 P a w K Q:=
 step_sound' hcl hs hB ht (fun _ _ hok=>henv.ev hok) h hK
theorem ops_sound {r:Option Nat} {cl:Caller} (hcl:CallOK P B cl) {ops:Array Oper} {xs:List XOper} (hx:ops.toList.mapM (trOper P ops)=some xs) {Q:Exit→Act→World→Prop} :
  ∀ (m k:Nat) (env:Env) (S:St) (env':Env) (S':St) (φ:Emb) (a:Act) (w:World),k+m=ops.size→xops cl (xs.drop k) env S=some (env',S')→Sim B φ S w→B≤w.heap.size→EnvR φ env a→
   (∀ φ' a' w',EnvR φ' env' a'→Sim B φ' S' w'→Keep B φ S w φ' S' w'→a'.defers=a.defers→Q .normal a' w')→wpOpsIn (fz r) 0 P ops Q (List.range' k m) a w:=by
 have hlen:xs.length=ops.size:=by
  have:=List.length_mapM_option hx
  simpa using this
 intro m
 induction m with
 | zero=>
  intro k env S env' S' φ a w hk h hs hB henv hQ
  rw [List.drop_of_length_le (by omega)]at h
  simp only [xops,Option.some.injEq,Prod.mk.injEq]at h
  obtain ⟨rfl,rfl⟩:=h
  exact hQ φ a w henv hs (Keep.refl _ _ _ _) rfl
 | succ m ih=>
  intro k env S env' S' φ a w hk h hs hB henv hQ
  have hko:k<ops.size:=by omega
  have hkx:k<xs.length:=by omega
  have hto:trOper P ops ops[k]=some xs[k]:=by
   have:=List.getElem_mapM_option hx k (by simpa using hko) hkx
   simpa using this
  rw [List.range'_succ,wpOpsIn_cons,wpOpIn]
  rw [List.drop_eq_getElem_cons hkx,xops]at h
  rw [Array.getElem?_eq_getElem hko]
  simp only
  rw [wanted_rel henv hto]
  have hdst:xs[k].dst=ops[k].dst:=trOper_dst hto
  split at h
  ·rename_i hw
   rw [if_pos hw]
   simp only [Option.bind_eq_some_iff]at h
   obtain ⟨⟨v,S1⟩,h1,h2⟩:=h
   refine step_sound hcl hs hB henv hto h1 fun φ1 v1 w1 k1 k2 k3=>?_
   refine ih (k+1) (env.put xs[k].dst v) S1 env' S' φ1 _ w1 (by omega) h2 k2 (Nat.le_trans hB k3.size) (by rw [hdst];exact (henv.mono k3.le).put _ k1) fun φ' a' w' q1 q2 q3 q4=>hQ φ' a' w' q1 q2 (k3.trans q3) (by rw [q4];cases ops[k].dst<;>rfl)
  ·rename_i hw
   rw [if_neg hw]
   refine ⟨fun _ _=>trivial,?_⟩
   refine ih (k+1) (env.put xs[k].dst undef) S env' S' φ _ w (by omega) h hs hB (by rw [hdst];exact henv.put _ (Rel.undef φ)) fun φ' a' w' q1 q2 q3 q4=>hQ φ' a' w' q1 q2 q3 (by rw [q4];cases ops[k].dst<;>rfl)
end
end Go.Proofs.YtghcggoodgfaoaaGreatDoor

set_option linter.unusedVariables false
namespace Go.Proofs.YtghcggoodgfaoaaGreatDoor
open Go Go.RowKit
section
variable {B:Nat} {φ:Emb} {S:St} {w:World}
def InR (r:Option Nat) (φ:Emb) (S:St) (w:World):Prop:=∀ l,r=some l→(∃ r0,w.heap[l]? = some (.loop r0))∧NoWr φ S l
theorem InR.none (φ:Emb) (S:St) (w:World):InR Option.none φ S w:=fun l h=>by cases h
theorem InR.same {r:Option Nat} (h:InR r φ S w) {φ':Emb} {S':St} {w':World} (hk:Keep B φ S w φ' S' w'):InR r φ' S' w':=fun l e=>by
 obtain ⟨⟨r0,h1⟩,h2⟩:=h l e
 have hlt:=(Array.getElem?_eq_some_iff.1 h1).1
 exact ⟨⟨r0,by rw [hk.keep l hlt h2];exact h1⟩,h2.keep hlt hk⟩
def Marks (lo:Nat) (w:World):List Deferred→Prop
 | []=>True
 | d::l=>(∃ D,d={ target:=.collected D,args:=#[] }∧lo≤D∧w.heap[D]? = some (.deferred (some []))∧∀ d'∈l,d'.target≠.collected D)∧Marks lo w l
theorem Marks.lower {lo lo':Nat} (h:lo'≤lo):∀ {l:List Deferred},Marks lo w l→Marks lo' w l
 | [],_=>trivial
 | _::_,⟨⟨D,h1,h2,h3,h4⟩,h5⟩=>⟨⟨D,h1,Nat.le_trans h h2,h3,h4⟩,h5.lower h⟩
theorem noWr_deferred (h:Sim B φ S w) {D:Nat} {o:Obj} (hD:w.heap[D]? = some o) (hc:isRow o=false) (hl:isObj o=false):NoWr φ S D:=by
 intro id s e eb
 cases hw:(S.get id).wr with
 | false=>rfl
 | true=>
  rcases wr_inv hw with ⟨c,t,sz,an,e3⟩|⟨o2,e3⟩
  ·obtain ⟨_,_,_,cs,t',⟨fr,b4,_⟩,_⟩:=h.blk id s c t sz true an e e3
   rw [eb,hD]at b4
   rw [Option.some.inj b4]at hc
   cases hc
  ·obtain ⟨_,⟨r,b2,b3⟩,_⟩:=h.loops.2 id s o2 e e3
   rw [eb,hD]at b2
   have:=b3.isObj
   rw [← Option.some.inj b2,hl]at this
   cases this
theorem Marks.keep {lo:Nat} {φ':Emb} {S':St} {w':World} (hs:Sim B φ S w) (hk:Keep B φ S w φ' S' w'):∀ {l:List Deferred},Marks lo w l→Marks lo w' l
 | [],_=>trivial
 | _::_,⟨⟨D,h1,h2,h3,h4⟩,h5⟩=>⟨⟨D,h1,h2,by
   rw [hk.keep D (Array.getElem?_eq_some_iff.1 h3).1 (noWr_deferred hs h3 rfl rfl)];exact h3,h4⟩,h5.keep hs hk⟩
theorem Marks.lt {lo:Nat}:∀ {l:List Deferred},Marks lo w l→∀ d∈l,∃ D,d.target=.collected D∧D<w.heap.size
 | _::l,⟨⟨D,h1,h2,h3,h4⟩,h5⟩,d,hd=>by
  rcases List.mem_cons.1 hd with rfl | hd
  ·exact ⟨D,by rw [h1],(Array.getElem?_eq_some_iff.1 h3).1⟩
  ·exact h5.lt d hd
theorem Marks.append {lo lo2:Nat} (hle:lo≤lo2):∀ {l2 l:List Deferred},Marks lo2 w l2→Marks lo w l→(∀ d∈l,∃ D,d.target=.collected D∧D<lo2)→Marks lo w (l2++l)
 | [],_,_,h,_=>h
 | _::l2,l,⟨⟨D,h1,h2,h3,h4⟩,h5⟩,h,hlt=>⟨⟨D,h1,Nat.le_trans hle h2,h3,fun d' hd'=>by
   rcases List.mem_append.1 hd' with h' | h'
   ·exact h4 d' h'
   ·obtain ⟨D',e,hlt'⟩:=hlt d' h'
    rw [e]
    intro e'
    have:=Go.Target.collected.inj e'
    omega⟩,h5.append hle h hlt⟩
theorem Marks.putObj {lo:Nat} {b:Nat} (o:Obj):∀ {l:List Deferred},Marks lo w l→(∀ d∈l,d.target≠.collected b)→Marks lo (w.putObj b o) l
 | [],_,_=>trivial
 | _::l,⟨⟨D,h1,h2,h3,h4⟩,h5⟩,hb=>⟨⟨D,h1,h2,by
   rw [World.putObj_heap_other]
   ·exact h3
   ·intro e
    exact hb _ List.mem_cons_self (by rw [h1,e]),h4⟩,h5.putObj o fun d hd=>hb d (List.mem_cons_of_mem _ hd)⟩
theorem leaves_marks {P:Program} {F:Fence} {n:Nat} {fn:Func} {tmps:Array Value} {R:Ending→World→Prop} {lo:Nat} :
  ∀ (l:List Deferred) (w:World) (hs:Sim B φ S w),Marks lo w l→(∀ w',(∀ D,D<lo→w'.heap[D]? = w.heap[D]?)→w.heap.size=w'.heap.size→w'.os=w.os→w'.tape=w.tape→w'.output=w.output→Sim B φ S w'→∃ v,(results fn tmps).run P w'=.ok v w'∧R (.returned v) w')→LeavesInM F n P fn tmps R l .returning w
 | [],w,hs,_,h=>h w (fun _ _=>rfl) rfl rfl rfl rfl hs
 | d::l,w,hs,⟨⟨D,h1,h2,h3,h4⟩,h5⟩,h=>by
  refine ⟨by simp,.inl ⟨D,w.putObj D (.deferred none),by rw [h1],run_takeDeferred h3,?_⟩⟩
  refine leaves_marks l _ (hs.putOther _ h3 rfl (noWr_deferred hs h3 rfl rfl) (.inr rfl)) (h5.putObj _ h4) fun w' g1 g2 g3 g4 g5 g6=>h w' (fun D' hD'=>?_) (by simpa using g2) g3 g4 g5 g6
  rw [g1 D' hD',World.putObj_heap_other (by omega)]
end
end Go.Proofs.YtghcggoodgfaoaaGreatDoor

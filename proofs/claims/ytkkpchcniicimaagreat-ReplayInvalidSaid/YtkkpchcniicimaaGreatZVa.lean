/- An evaluator of the abstract machine for closed computations: strict, so that the kernel can run it. No program in sight. The operations of the evaluator. No program in sight. The evaluator of closed  -/
import Derived.Test.YtkkpchcniicimaaGreatZMb
set_option linter.all false
namespace Go.Proofs.YtkkpchcniicimaaGreat
open Go Go.RowKit
noncomputable def fN(n:Nat)(k:Nat->Bool):Bool:=@Nat.rec (λ_=>Bool) (k 0) (λm _=>k (Nat.succ m)) n
def HO(n:Nat)(k:Nat->Bool):fN n k=k n:=by cases n<;>rfl
noncomputable def fI(i:Int)(k:Int->Bool):Bool:=@Int.rec (λ_=>Bool) (λn=>fN n λn=>k (.ofNat n)) (λn=>fN n λn=>k (.negSucc n)) i
def xB(i:Int)(k:Int->Bool):fI i k=k i:=by cases i<;>simp[fI,HO]
noncomputable def fB(b:Bool)(k:Bool->Bool):Bool:=@Bool.rec (λ_=>Bool) (k false) (k true) b
def NL(b:Bool)(k:Bool->Bool):fB b k=k b:=by cases b<;>rfl
noncomputable def fA(a:Option Addr)(k:Option Addr->Bool):Bool:=match a with
 | none=>k none
 | some ⟨b,o,p⟩=>fN b λb=>fN o λo=>match p with
  | none=>k (some ⟨b,o,none⟩)
  | some q=>k (some ⟨b,o,some q⟩)
def Abx(a:Option Addr)(k:Option Addr->Bool):fA a k=k a:=by
 rcases a with _ | ⟨b,o,_ | q⟩<;>simp[fA,HO]
noncomputable def fON(a:Option Nat)(k:Option Nat->Bool):Bool:=match a with
 | none=>k none
 | some b=>fN b λb=>k (some b)
def zf(a:Option Nat)(k:Option Nat->Bool):fON a k=k a:=by cases a<;>simp[fON,HO]
noncomputable def fS{α:Type}(l:List α)(k:List α->Bool):Bool:=@List.rec α (λ_=>(List α->Bool)->Bool) (λk=>k []) (λx _ ih k=>ih λt=>k (x::t)) l k
def nY{α:Type}(l:List α):∀ k:List α->Bool,fS l k=k l:=by
 induction l with
 | nil=>intro k;rfl
 | cons x l ih=>intro k;exact ih _
noncomputable def fV1(v:Value)(k:Value->Bool):Bool:=match v with
 | .bool b=>fB b λb=>k (.bool b)
 | .int j n=>fI n λn=>k (.int j n)
 | .string s=>fS s.data.toList λl=>k (.string ⟨⟨l⟩⟩)
 | .pointer a=>fA a λa=>k (.pointer a)
 | .slice a n c=>fA a λa=>fN n λn=>fN c λc=>k (.slice a n c)
 | .map r=>fON r λr=>k (.map r)
 | v=>k v
def nZ(v:Value)(k:Value->Bool):fV1 v k=k v:=by
 cases v<;>simp[fV1,NL,xB,Abx,HO,zf,nY]
noncomputable def fL(l:List Value)(k:List Value->Bool):Bool:=@List.rec Value (λ_=>(List Value->Bool)->Bool) (λk=>k []) (λx _ ih k=>fV1 x λx=>ih λt=>k (x::t)) l k
def xC(l:List Value):∀ k:List Value->Bool,fL l k=k l:=by
 induction l with
 | nil=>intro k;rfl
 | cons x l ih=>intro k;exact (nZ x (λx=>fL l λt=>k (x::t))).trans (ih λt=>k (x::t))
noncomputable def fV(v:Value)(k:Value->Bool):Bool:=match v with
 | .agg a=>fL a.toList λl=>k (.agg ⟨l⟩)
 | .tuple a=>fS a.toList λl=>k (.tuple ⟨l⟩)
 | .func f a b=>fS a.toList λa=>fS b.toList λb=>k (.func f ⟨a⟩ ⟨b⟩)
 | v=>fV1 v k
def QB(v:Value)(k:Value->Bool):fV v k=k v:=by
 cases v<;>simp[fV,nZ,xC,nY]
noncomputable def fT(v:Value)(k:Value->Bool):Bool:=@Value.casesOn (λ_=>Bool) v (λb=>k (.bool b)) (λi n=>k (.int i n)) (λa b=>k (.float a b)) (λa b c=>k (.complex a b c)) (λs=>k (.string s)) (λa=>k (.pointer a)) (λa b c=>k (.slice a b c)) (λr=>k (.map r)) (λr=>k (.chan r))
 (λf a b=>k (.func f a b)) (k .nilFunc) (λt v=>k (.iface t v)) (k .nilIface) (λa=>k (.agg a)) (λa=>k (.tuple a))
def xD(v:Value)(k:Value->Bool):fT v k=k v:=by cases v<;>rfl
noncomputable def fTs(l:List Value)(k:List Value->Bool):Bool:=@List.rec Value (λ_=>(List Value->Bool)->Bool) (λk=>k []) (λx _ ih k=>fT x λx=>ih λt=>k (x::t)) l k
def oc(l:List Value):∀ k:List Value->Bool,fTs l k=k l:=by
 induction l with
 | nil=>intro k;rfl
 | cons x l ih=>intro k;exact (xD x (λx=>fTs l λt=>k (x::t))).trans (ih λt=>k (x::t))
noncomputable def fNs(l:List Nat)(k:List Nat->Bool):Bool:=@List.rec Nat (λ_=>(List Nat->Bool)->Bool) (λk=>k []) (λx _ ih k=>fN x λx=>ih λt=>k (x::t)) l k
def zg(l:List Nat):∀ k:List Nat->Bool,fNs l k=k l:=by
 induction l with
 | nil=>intro k;rfl
 | cons x l ih=>intro k;exact (HO x (λx=>fNs l λt=>k (x::t))).trans (ih λt=>k (x::t))
noncomputable def fEs(l:List (Value × Value × Nat))(k:List (Value × Value × Nat)->Bool):Bool:=
 @List.rec (Value × Value × Nat) (λ_=>(List (Value × Value × Nat)->Bool)->Bool) (λk=>k []) (λx _ ih k=>fV x.1 λa=>fV x.2.1 λb=>fN x.2.2 λc=>ih λt=>k ((a,b,c)::t)) l k
def zm(l:List (Value × Value × Nat)):∀ k:List (Value × Value × Nat)->Bool,fEs l k=k l:=by
 induction l with
 | nil=>intro k;rfl
 | cons x l ih=>intro k;exact (QB x.1 (λa=>fV x.2.1 λb=>fN x.2.2 λc=>fEs l λt=>k ((a,b,c)::t))).trans ((QB x.2.1 (λb=>fN x.2.2 λc=>fEs l λt=>k ((x.1,b,c)::t))).trans ((HO x.2.2 (λc=>fEs l λt=>k ((x.1,x.2.1,c)::t))).trans (ih λt=>k ((x.1,x.2.1,x.2.2)::t))))
noncomputable def zo(b:FH)(k:FH->Bool):Bool:=match b with
 | .cells c t z m an=>fL c λc=>fNs an λan=>k (.cells c t z m an)
 | .obj (.map es cl)=>fEs es λes=>fN cl λcl=>k (.obj (.map es cl))
 | .obj (.iter s p)=>fN p λp=>k (.obj (.iter s p))
 | b=>k b
def eg(b:FH)(k:FH->Bool):zo b k=k b:=by
 rcases b with _ | _ | o
 ·rfl
 ·simp[zo,xC,zg]
 ·cases o<;>simp[zo,zm,HO]
def Me{a b:Nat}(h:a≠b):Nat.beq a b=false:=by rw[<- CM];exact λe=>h (AB e)
def RY{a b:Nat}(h:a=b):Nat.beq a b=true:=by subst h;exact Nat.beq_refl a
inductive P2 where
 | z
 | l (p:P2)
 | r (p:P2)
noncomputable def p2(f:Nat):Nat->P2:=@Nat.rec (λ_=>Nat->P2) (λ_=>.z) (λ_ ih n=>@Bool.rec (λ_=>P2) (@Bool.rec (λ_=>P2) (.r (ih (Nat.sub (Nat.div n 2) 1))) (.l (ih (Nat.div n 2))) (Nat.beq (Nat.mod n 2) 1)) .z (Nat.beq n 0)) f
noncomputable def iz{α:Type}(p:P2):Tr α->Option α:=@P2.rec (λ_=>Tr α->Option α) (λt=>@Tr.rec α (λ_=>Option α) none (λv _ _ _ _=>v) t) (λ_ ih t=>@Tr.rec α (λ_=>Option α) none (λ_ l _ _ _=>ih l) t) (λ_ ih t=>@Tr.rec α (λ_=>Option α) none (λ_ _ r _ _=>ih r) t) p
noncomputable def xE{α:Type}(a:α)(p:P2):Tr α->(Tr α->Bool)->Bool:=@P2.rec (λ_=>Tr α->(Tr α->Bool)->Bool) (λt k=>@Tr.rec α (λ_=>Bool) (k (.node (some a) .leaf .leaf)) (λ_ l r _ _=>k (.node (some a) l r)) t)
 (λ_ ih t k=>@Tr.rec α (λ_=>Bool) (ih .leaf λl=>k (.node none l .leaf)) (λv l r _ _=>ih l λl=>k (.node v l r)) t)
 (λ_ ih t k=>@Tr.rec α (λ_=>Bool) (ih .leaf λr=>k (.node none .leaf r)) (λv l r _ _=>ih r λr=>k (.node v l r)) t) p
noncomputable def od{α:Type}(t:Tr α)(n:Nat):Option α:=iz (p2 n n) t
def iA(f:Nat):p2 f 0=.z:=by cases f<;>rfl
def oe(f n:Nat)(h:n % 2=1):p2 (f+1) n=.l (p2 f (n / 2)):=by
 show @Bool.rec (λ_=>P2) (@Bool.rec (λ_=>P2) _ _ (Nat.beq (n % 2) 1)) .z (Nat.beq n 0)=_
 rw[Me (show n≠0 by omega),RY h];rfl
def iC(f n:Nat)(h0:n≠0)(h:n % 2≠1):p2 (f+1) n=.r (p2 f (n / 2 - 1)):=by
 show @Bool.rec (λ_=>P2) (@Bool.rec (λ_=>P2) _ _ (Nat.beq (n % 2) 1)) .z (Nat.beq n 0)=_
 rw[Me h0,Me h];rfl
def og{α:Type}:∀ (f n:Nat) (t:Tr α),n<=f->iz (p2 f n) t=t.get n:=by
 intro f
 induction f with
 | zero=>
  intro n t h;obtain rfl:n=0:=dO
  cases t<;>rfl
 | succ f ih=>
  intro n t h;by_cases h0:n=0
  ·subst h0;rw[iA];cases t<;>rfl
  ·by_cases h1:n % 2=1
   ·rw[oe f n h1]
    cases t with
    | leaf=>rfl
    | node v l r=>
     show iz (p2 f (n / 2)) l=_
     rw[ih _ _ dO,Tr.get,if_neg h0,if_pos h1]
   ·rw[iC f n h0 h1]
    cases t with
    | leaf=>rfl
    | node v l r=>
     show iz (p2 f (n / 2 - 1)) r=_
     rw[ih _ _ dO,Tr.get,if_neg h0,if_neg h1]
def VI{α:Type}(t:Tr α)(n:Nat):od t n=t.get n:=og n n t (Af n)
noncomputable def IC{α:Type}(a:α)(f:Nat)(t:Tr α)(n:Nat)(k:Tr α->Bool):Bool:=xE a (p2 n n) t k
def oh{α:Type}(a:α):∀ (f n:Nat) (t:Tr α) (k:Tr α->Bool),n<=f->xE a (p2 f n) t k=k (Tr.set f t n a):=by
 intro f
 induction f with
 | zero=>
  intro n t k h;obtain rfl:n=0:=dO
  cases t<;>rfl
 | succ f ih=>
  intro n t k h;by_cases h0:n=0
  ·subst h0
   rw[iA,Tr.set,if_pos rfl];cases t<;>rfl
  ·by_cases h1:n % 2=1
   ·rw[oe f n h1,Tr.set,if_neg h0,if_pos h1]
    cases t with
    | leaf=>exact ih (n / 2) .leaf (λl=>k (.node none l .leaf)) dO
    | node v l r=>exact ih (n / 2) l (λl=>k (.node v l r)) dO
   ·rw[iC f n h0 h1,Tr.set,if_neg h0,if_neg h1]
    cases t with
    | leaf=>exact ih (n / 2 - 1) .leaf (λr=>k (.node none .leaf r)) dO
    | node v l r=>exact ih (n / 2 - 1) r (λr=>k (.node v l r)) dO
def GI{α:Type}(a:α)(f:Nat)(t:Tr α)(n:Nat)(k:Tr α->Bool)(h:IC a f t n k=true):k (Tr.set n t n a)=true:=by
 unfold IC at h
 rwa [oh a n n t k (Af n)] at h
inductive T4 where
 | leaf
 | node (v:Option Value) (a b c d:T4)
inductive P4 where
 | z
 | a (p:P4)
 | b (p:P4)
 | c (p:P4)
 | d (p:P4)
 deriving DecidableEq
def P4.num:P4->Nat
 | .z=>0
 | .a p=>4 * p.num+1
 | .b p=>4 * p.num+2
 | .c p=>4 * p.num+3
 | .d p=>4 * p.num+4
noncomputable def p4d(q:P4)(m:Nat):P4:=@Nat.rec (λ_=>P4) (.a q) (λm _=>@Nat.rec (λ_=>P4) (.b q) (λm _=>@Nat.rec (λ_=>P4) (.c q) (λ_ _=>.d q) m) m) m
noncomputable def p4(f:Nat):Nat->P4:=@Nat.rec (λ_=>Nat->P4) (λ_=>.z) (λ_ ih n=>@Bool.rec (λ_=>P4) (p4d (ih (Nat.div (Nat.sub n 1) 4)) (Nat.mod (Nat.sub n 1) 4)) .z (Nat.beq n 0)) f
def uF(q:P4)(m:Nat)(h:m < 4):(p4d q m).num=4 * q.num+m+1:=by
 rcases m with _ | _ | _ | _ | m<;>first | rfl | omega
def oi:∀ f n,n<=f->(p4 f n).num=n:=by
 intro f
 induction f with
 | zero=>
      intro n h;obtain rfl:n=0:=dO
      rfl
 | succ f ih=>
  intro n h;show (@Bool.rec (λ_=>P4) (p4d (p4 f ((n - 1) / 4)) ((n - 1) % 4)) .z (Nat.beq n 0)).num=_
  by_cases h0:n=0
  ·subst h0;rfl
  ·rw[Me h0]
   show (p4d (p4 f ((n - 1) / 4)) ((n - 1) % 4)).num=_
   rw[uF _ _ (Nat.mod_lt _ dO),ih _ dO];omega
noncomputable def TS(p:P4):T4->Option Value:=@P4.rec (λ_=>T4->Option Value) (λt=>@T4.rec (λ_=>Option Value) none (λv _ _ _ _ _ _ _ _=>v) t) (λ_ ih t=>@T4.rec (λ_=>Option Value) none (λ_ a _ _ _ _ _ _ _=>ih a) t)
 (λ_ ih t=>@T4.rec (λ_=>Option Value) none (λ_ _ b _ _ _ _ _ _=>ih b) t) (λ_ ih t=>@T4.rec (λ_=>Option Value) none (λ_ _ _ c _ _ _ _ _=>ih c) t) (λ_ ih t=>@T4.rec (λ_=>Option Value) none (λ_ _ _ _ d _ _ _ _=>ih d) t) p
noncomputable def ku(x:Value)(p:P4):T4->(T4->Bool)->Bool:=@P4.rec (λ_=>T4->(T4->Bool)->Bool) (λt k=>@T4.rec (λ_=>Bool) (k (.node (some x) .leaf .leaf .leaf .leaf)) (λ_ a b c d _ _ _ _=>k (.node (some x) a b c d)) t)
 (λ_ ih t k=>@T4.rec (λ_=>Bool) (ih .leaf λa=>k (.node none a .leaf .leaf .leaf)) (λv a b c d _ _ _ _=>ih a λa=>k (.node v a b c d)) t)
 (λ_ ih t k=>@T4.rec (λ_=>Bool) (ih .leaf λb=>k (.node none .leaf b .leaf .leaf)) (λv a b c d _ _ _ _=>ih b λb=>k (.node v a b c d)) t)
 (λ_ ih t k=>@T4.rec (λ_=>Bool) (ih .leaf λc=>k (.node none .leaf .leaf c .leaf)) (λv a b c d _ _ _ _=>ih c λc=>k (.node v a b c d)) t)
 (λ_ ih t k=>@T4.rec (λ_=>Bool) (ih .leaf λd=>k (.node none .leaf .leaf .leaf d)) (λv a b c d _ _ _ _=>ih d λd=>k (.node v a b c d)) t) p
def Eu(q:P4):TS q .leaf=none:=by cases q<;>rfl
def KM{p q:P4}{f:P4->P4}(hf:∀ a b,f a=f b->a=b)(x y:Option Value):(if f q=f p then x else y)=if q=p then x else y:=by
 by_cases e:q=p
 ·rw[if_pos e,if_pos (by rw[e])]
 ·rw[if_neg e,if_neg (λh=>e (hf _ _ h))]
def VJ(x:Value):∀ (p:P4) (t:T4) (k:T4->Bool),ku x p t k=true->∃ t',(∀ q,TS q t'=if q=p then some x else TS q t)/\k t'=true:=by
 intro p
 induction p with
 | z=>
  intro t k h;cases t with
  | leaf=>exact⟨_,λq=>by cases q<;>simp only[reduceCtorEq,if_true,if_false,Eu]<;>first | rfl | exact Eu _,h⟩
  | node v a b c d=>exact⟨_,λq=>by cases q<;>simp only[reduceCtorEq,if_true,if_false]<;>rfl,h⟩
 | a p ih=>
  intro t k h;cases t with
  | leaf=>
   obtain⟨t',h1,h2⟩:=ih _ _ h;refine⟨_,λq=>?_,h2⟩;cases q with
   | a q=>
    rw[KM (f:=P4.a) (λ_ _ h=>P4.a.inj h)];exact (h1 q).trans (by first | rfl | rw[Eu,Eu])
   | _=>simp only[reduceCtorEq,if_false,Eu]<;>first | rfl | exact Eu _
  | node v a b c d=>
   obtain⟨t',h1,h2⟩:=ih _ _ h;refine⟨_,λq=>?_,h2⟩;cases q with
   | a q=>
    rw[KM (f:=P4.a) (λ_ _ h=>P4.a.inj h)];exact (h1 q).trans (by first | rfl | rw[Eu,Eu])
   | _=>simp only[reduceCtorEq,if_false,Eu]<;>first | rfl | exact Eu _
 | b p ih=>
  intro t k h;cases t with
  | leaf=>
   obtain⟨t',h1,h2⟩:=ih _ _ h;refine⟨_,λq=>?_,h2⟩;cases q with
   | b q=>
    rw[KM (f:=P4.b) (λ_ _ h=>P4.b.inj h)];exact (h1 q).trans (by first | rfl | rw[Eu,Eu])
   | _=>simp only[reduceCtorEq,if_false,Eu]<;>first | rfl | exact Eu _
  | node v a b c d=>
   obtain⟨t',h1,h2⟩:=ih _ _ h;refine⟨_,λq=>?_,h2⟩;cases q with
   | b q=>
    rw[KM (f:=P4.b) (λ_ _ h=>P4.b.inj h)];exact (h1 q).trans (by first | rfl | rw[Eu,Eu])
   | _=>simp only[reduceCtorEq,if_false,Eu]<;>first | rfl | exact Eu _
 | c p ih=>
  intro t k h;cases t with
  | leaf=>
   obtain⟨t',h1,h2⟩:=ih _ _ h;refine⟨_,λq=>?_,h2⟩;cases q with
   | c q=>
    rw[KM (f:=P4.c) (λ_ _ h=>P4.c.inj h)];exact (h1 q).trans (by first | rfl | rw[Eu,Eu])
   | _=>simp only[reduceCtorEq,if_false,Eu]<;>first | rfl | exact Eu _
  | node v a b c d=>
   obtain⟨t',h1,h2⟩:=ih _ _ h;refine⟨_,λq=>?_,h2⟩;cases q with
   | c q=>
    rw[KM (f:=P4.c) (λ_ _ h=>P4.c.inj h)];exact (h1 q).trans (by first | rfl | rw[Eu,Eu])
   | _=>simp only[reduceCtorEq,if_false,Eu]<;>first | rfl | exact Eu _
 | d p ih=>
  intro t k h;cases t with
  | leaf=>
   obtain⟨t',h1,h2⟩:=ih _ _ h;refine⟨_,λq=>?_,h2⟩;cases q with
   | d q=>
    rw[KM (f:=P4.d) (λ_ _ h=>P4.d.inj h)];exact (h1 q).trans (by first | rfl | rw[Eu,Eu])
   | _=>simp only[reduceCtorEq,if_false,Eu]<;>first | rfl | exact Eu _
  | node v a b c d=>
   obtain⟨t',h1,h2⟩:=ih _ _ h;refine⟨_,λq=>?_,h2⟩;cases q with
   | d q=>
    rw[KM (f:=P4.d) (λ_ _ h=>P4.d.inj h)];exact (h1 q).trans (by first | rfl | rw[Eu,Eu])
   | _=>simp only[reduceCtorEq,if_false,Eu]<;>first | rfl | exact Eu _
noncomputable def pt(t:Nat):P4:=p4 t t
def eh{a b:Nat}(h:pt a=pt b):a=b:=by
 have:=congrArg P4.num h;unfold pt at this
 rwa [oi _ _ (Af a),oi _ _ (Af b)] at this
inductive F8 where
 | old (v:Value)
 | val (v:Value)
 | new (v:Value) (b:FH)
 | put (v:Value) (id:Nat) (an:List Nat) (b:FH)
 | grow (v:Value) (id:Nat) (b1:FH) (b2:FH)
 | call (g:Go.Fn) (l:List Value)
noncomputable def F8.run(S:St):F8->Value × St
 | .old v=>(v,S)
 | .val v=>(v,S)
 | .new v b=>(v,S.alloc b)
 | .put v id an b=>(v,(S.kill an).put id b)
 | .grow v id b1 b2=>(v,(S.put id b1).alloc b2)
 | .call _ _=>(undef,S)
noncomputable def Xv(h:Tr FH)(id:Nat):FH:=match od h id with
 | some b=>b
 | none=>.gone
def Rs(h:Tr FH)(nx id:Nat):Xv h id=(St.mk h nx).get id:=by
 unfold Xv St.get;rw[VI];cases h.get id<;>rfl
def eqA:Option Addr->Option Addr->Bool
 | none,none=>true
 | some ⟨a,o,none⟩,some ⟨b,p,none⟩=>Nat.beq a b && Nat.beq o p
 | _,_=>false
def oj{a b:Option Addr}(h:eqA a b=true):a=b:=by
 rcases a with _ | ⟨a,o,_ | _⟩<;>rcases b with _ | ⟨b,p,_ | _⟩<;>simp[eqA] at h |-
 exact h
def Jn:List UInt8->List UInt8->Bool
 | [],[]=>true
 | a::l,b::m=>Nat.beq a.toNat b.toNat && Jn l m
 | _,_=>false
def RZ:∀ {l m:List UInt8},Jn l m=true->l=m:=by
 intro l
 induction l with
 | nil=>intro m h;cases m<;>simp[Jn] at h |-
 | cons a l ih=>
  intro m h;cases m with
  | nil=>simp[Jn] at h
  | cons b m=>
   simp only[Jn,Al] at h;rw[ih h.2,UInt8.toNat_inj.1 (AB h.1)]
def VK(l:List UInt8):Jn l l=true:=by
 induction l with
 | nil=>rfl
 | cons a l ih=>simp only[Jn,Nat.beq_refl,ih,Bool.and_self]
noncomputable def IZ{α:Type}(l:List α):Nat->List α:=@List.rec α (λ_=>Nat->List α) (λ_=>[]) (λx t ih n=>@Bool.rec (λ_=>List α) (ih (Nat.sub n 1)) (x::t) (Nat.beq n 0)) l
def Im{α:Type}(l:List α):∀ n,IZ l n=l.drop n:=by
 induction l with
 | nil=>intro n;simp[IZ]
 | cons x t ih=>
  intro n;cases n with
  | zero=>rfl
  | succ n=>show IZ t (n+1 - 1)=_;rw[ih];rfl
noncomputable def iD{α β:Type}(n:Nat):List α->(List α->Option β)->Option β:=@Nat.rec (λ_=>List α->(List α->Option β)->Option β) (λ_ k=>k []) (λ_ ih l k=>@List.rec α (λ_=>Option β) none (λx t _=>ih t λr=>k (x::r)) l) n
def om{α β:Type}(n:Nat):∀ (l:List α) (k:List α->Option β),iD n l k=if n<=l.length then k (l.take n) else none:=by
 induction n with
 | zero=>intro l k;exact (if_pos (AM _)).symm
 | succ n ih=>
  intro l k;cases l with
  | nil=>simp[iD]
  | cons x t=>show iD n t _=_;rw[ih];simp
noncomputable def krd(S:St)(id o n:Nat)(k:List Value->Option F8):Option F8:=match Xv S.heap id with
 | .cells c _ _ _ _=>match n with
  | 0=>if o<=c.length then k [] else none
  | n=>iD n (IZ c o) k
 | _=>none
def zq(S:St)(id o n:Nat)(k:List Value->Option F8):krd S id o n k=(S.rd id o n).bind k:=by
 unfold krd St.rd;rw[Rs S.heap S.next];show (match S.get id with | .cells c _ _ _ _=>_ | _=>none)=_
 cases S.get id with
 | gone=>rfl
 | obj o=>rfl
 | cells c t z m an=>
  simp only[];split
  ·simp only[Dh,A6]
   split<;>rfl
  ·rename_i hn
   rw[om,Im,AI];have hn':n≠0:=λe=>hn e
   by_cases h:o+n<=c.length
   ·rw[if_pos h,if_pos dO];rfl
   ·rw[if_neg h,if_neg dO];rfl
noncomputable def R2(agg:Bool)(l:List Value):Option F8:=(Hj agg l).map .old
noncomputable def iE(e:TypeId)(esz bytes:Nat)(s x:Value)(S:St):Option F8:=
 match S.elems esz x,MH x with
 | some news,some m=>
  if m=0 then (match s with
   | .slice _ _ _=>some (.val s)
   | _=>none) else
  if E5 news && decide (0 < esz) && decide (0 < bytes) then
   match s with
   | .slice none 0 0=>if m * bytes<=reach then some (.new (.slice (some ⟨S.next,0,none⟩) m m) (.cells news e esz true [])) else none
   | .slice (some ⟨id,o,none⟩) n c=>
    match S.get id with
    | .cells cc t z true an=>
     if z=esz/\n=c/\o+n * esz=cc.length then
      (if (n+m) * bytes<=reach then some (.grow (.slice (some ⟨S.next,0,none⟩) (n+m) (n+m)) id (.cells cc t z false an) (.cells (cc.drop o++news) e z true (id::an))) else none)
     else if z=esz/\n+m<=c/\o+(n+m) * esz<=cc.length then some (.put (.slice (some ⟨id,o,none⟩) (n+m) c) id an (.cells (EO cc (o+n * esz) news) t z true []))
     else none
    | _=>none
   | _=>none
  else none
 | _,_=>none
noncomputable def xF(esz:Nat)(d s:Value)(S:St):Option F8:=
 match d,MH s,S.elems esz s with
 | .slice a n _,some m,some src=>
  if min m n=0 then some (.val (.int .i64 0)) else
  match a with
  | some ⟨id,o,none⟩=>
   match S.get id with
   | .cells cc t z true an=>
    if o+(min m n) * esz<=cc.length/\E5 src=true then some (.put (.int .i64 (min m n:Nat)) id an (.cells (EO cc o (src.take ((min m n) * esz))) t z true [])) else none
   | _=>none
  | _=>none
 | _,_,_=>none
noncomputable def Abz(esz:Nat)(z:List Value)(x:Value)(S:St):Option F8:=
 match x with
 | .slice none 0 0=>some (.val (.tuple #[]))
 | .slice (some ⟨id,o,none⟩) n _=>
  if n=0 then some (.val (.tuple #[])) else
  match S.get id with
  | .cells cc t zz true an=>if z.length=esz/\o+n * esz<=cc.length/\E5 z=true then some (.put (.tuple #[]) id an (.cells (EO cc o (rep n z)) t zz true [])) else none
  | _=>none
 | _=>none
noncomputable def oq(e:iG)(l:List Value)(S:St):Option F8:=
 match e,l with
 | .mkMap,_=>some (.new (.map (some S.next)) (.map [] 0))
 | .lookup ks agg z ok,[x,k]=>(keyOf ks agg k).bind λc=>match x with
  | .map none=>some (.val (FC z ok none))
  | .map (some id)=>match S.get id with
   | .obj (.map es _)=>(GU ks agg c es 0).map λr=>.val (FC z ok r)
   | _=>none
  | _=>none
 | .mapSet ks agg,[x,k,v]=>(keyOf ks agg k).bind λc=>match x with
  | .map (some id)=>match S.get id with
   | .obj (.map es cl)=>(GU ks agg c es 0).map λr=>match r with
    | some (i,_)=>.put undef id [] (.map (es.modify i λe=>(k,v,e.2.2)) cl)
    | none=>.put undef id [] (.map (es++[(k,v,cl)]) (cl+1))
   | _=>none
  | _=>none
 | .mapEnt ks agg z,[x,k]=>(keyOf ks agg k).bind λc=>match x with
  | .map (some id)=>match S.get id with
   | .obj (.map es cl)=>(GU ks agg c es 0).map λr=>match r with
    | some (i,v)=>.put (.tuple #[v,.int .i64 (((es[i]?).map (·.2.2)).getD 0:Nat)]) id [] (.map (es.modify i λe=>(k,e.2.1,e.2.2)) cl)
    | none=>.put (.tuple #[z,.int .i64 (cl:Nat)]) id [] (.map (es++[(k,z,cl)]) (cl+1))
   | _=>none
  | _=>none
 | .entSet,[.map (some id),.int .i64 b,v]=>match S.get id with
  | .obj (.map es cl)=>match es.findIdx? λe=>((e.2.2:Nat):Int) == b with
   | some i=>some (.put undef id [] (.map (es.modify i λe=>(e.1,v,e.2.2)) cl))
   | none=>none
  | _=>none
 | .mapDel ks agg,[x,k]=>(keyOf ks agg k).bind λc=>match x with
  | .map none=>some (.val (.tuple #[]))
  | .map (some id)=>match S.get id with
   | .obj (.map es cl)=>(GU ks agg c es 0).map λr=>match r with
    | some (i,_)=>.put (.tuple #[]) id [] (.map (es.eraseIdx i) cl)
    | none=>.put (.tuple #[]) id [] (.map es cl)
   | _=>none
  | _=>none
 | .mapLen,[.map none]=>some (.val (.int .i64 0))
 | .mapLen,[.map (some id)]=>match S.get id with
  | .obj (.map es _)=>some (.val (.int .i64 es.length))
  | _=>none
 | .iterStr,[.string s]=>some (.new (.pointer (some ⟨S.next,0,none⟩)) (.iter s 0))
 | .nextStr,[.pointer (some ⟨id,0,none⟩)]=>match S.get id with
  | .obj (.iter s p)=>if p < s.size then some (.put (.tuple #[.bool true,.int .i64 p,.int .i32 (Utf8.decode s p).1]) id [] (.iter s (p+(Utf8.decode s p).2)))
   else some (.val (.tuple #[.bool false]))
  | _=>none
 | .iterMap,[.map none]=>some (.new (.pointer (some ⟨S.next,0,none⟩)) (.mapIter none 0 [] 0))
 | .iterMap,[.map (some id)]=>match S.get id with
  | .obj (.map _ cl)=>some (.new (.pointer (some ⟨S.next,0,none⟩)) (.mapIter (some id) cl [] cl))
  | _=>none
 | .entMap,[.pointer (some ⟨id,0,none⟩)]=>match S.get id with
  | .obj (.mapIter (some m) _ seen last)=>match S.get m with
   | .obj (.map es cl)=>if cl=last then seen.getLast?.bind λs=>(es.find? λe=>e.2.2 == s).map λe=>.val (.tuple #[e.1,e.2.1]) else none
   | _=>none
  | _=>none
 | .capNil,[.slice none 0 0]=>some (.val (.int .i64 0))
 | .nilF neg,[x,.nilFunc]=>(MI x).map λb=>.val (.bool (EU neg b))
 | .gload,[]=>if Z3 then some (.val (.chan (some 0))) else none
 | .lookG z ok,[.chan (some 0),.int .i64 n]=>if Z3 then some (.val (FC z ok ((Ny.lookup n).map λf=>(0,.func (.func f) #[] #[])))) else none
 | .nextMap,[.pointer (some ⟨id,0,none⟩)]=>match S.get id with
  | .obj (.mapIter none _ _ _)=>some (.val (.tuple #[.bool false]))
  | .obj (.mapIter (some m) c _ l)=>match S.get m with
   | .obj (.map [] cl)=>if c=cl/\l=cl then some (.val (.tuple #[.bool false])) else none
   | _=>none
  | _=>none
 | _,_=>none
noncomputable def zt(x:Operand)(ρ:Operand->Value)(S:St):Option F8:=
 some (.old (ρ x))
noncomputable def er(c:Operand)(a:Operand)(b:Operand)(ρ:Operand->Value)(S:St):Option F8:=
 match ρ c with
  | .bool q=>@Bool.rec (λ_=>Option F8) (some (.old (ρ b))) (some (.old (ρ a))) q
  | _=>none
noncomputable def ot(t:TypeId)(x:Operand)(ρ:Operand->Value)(S:St):Option F8:=
 if E5 (ρ x).cells.toList then some (.new (.pointer (some ⟨S.next,0,none⟩)) (.cells (ρ x).cells.toList t (ρ x).cells.size true [])) else none
noncomputable def eu(t:TypeId)(z:Value)(ρ:Operand->Value)(S:St):Option F8:=
 some (.new (.pointer (some ⟨S.next,0,none⟩)) (.cells z.cells.toList t z.cells.size true []))
noncomputable def ew(agg:Bool)(sz:Nat)(x:Operand)(ρ:Operand->Value)(S:St):Option F8:=
 match ρ x with
  | .pointer (some ⟨id,o,none⟩)=>krd S id o sz (R2 agg)
  | _=>none
noncomputable def VL(sz:Nat)(a:Operand)(x:Operand)(ρ:Operand->Value)(S:St):Option F8:=
 match ρ a with
  | .pointer (some ⟨id,o,none⟩)=>match Xv S.heap id with
   | .cells c t z true an=>if (ρ x).cells.size=sz/\o+sz<=c.length/\E5 (ρ x).cells.toList=true then some (.put undef id an (.cells (EO c o (ρ x).cells.toList) t z true [])) else none
   | _=>none
  | _=>none
noncomputable def VN(x:Operand)(ρ:Operand->Value)(S:St):Option F8:=
 match ρ x with
  | .pointer (some ⟨id,o,none⟩)=>some (.val (.pointer (some ⟨id,o,none⟩)))
  | .func (.func f) a b=>some (.val (.func (.func f) a b))
  | .iface t v=>some (.val (.iface t v))
  | _=>none
noncomputable def xG(op:BinOp)(x:Operand)(y:Operand)(ρ:Operand->Value)(S:St):Option F8:=
 (KE op (ρ x) (ρ y)).map .val
noncomputable def ou(neg:Bool)(x:Operand)(y:Operand)(ρ:Operand->Value)(S:St):Option F8:=
 match ρ x,ρ y with
  | .bool a,.bool b=>some (.val (.bool (EU neg (a == b))))
  | _,_=>none
noncomputable def ow(ks:List Nat)(neg:Bool)(x:Operand)(y:Operand)(ρ:Operand->Value)(S:St):Option F8:=
 match ρ x,ρ y with
  | .agg a,.agg b=>(I7 ks a.toList b.toList).map λr=>.val (.bool (EU neg r))
  | _,_=>none
noncomputable def ox(neg:Bool)(x:Operand)(y:Operand)(ρ:Operand->Value)(S:St):Option F8:=
 match ρ x,ρ y with
  | .pointer p,.pointer none=>some (.val (.bool (EU neg p.isNone)))
  | _,_=>none
noncomputable def oy(neg:Bool)(x:Operand)(y:Operand)(ρ:Operand->Value)(S:St):Option F8:=
 match ρ x,ρ y with
  | .slice p _ _,.slice none _ _=>some (.val (.bool (EU neg p.isNone)))
  | _,_=>none
noncomputable def zu(op:UnOp)(x:Operand)(ρ:Operand->Value)(S:St):Option F8:=
 match op,ρ x with
  | .neg,.int k n=>some (.val (.int k (k.wrap (0 - n))))
  | .not,.bool b=>some (.val (.bool !b))
  | _,_=>none
noncomputable def oz(k:IntKind)(x:Operand)(ρ:Operand->Value)(S:St):Option F8:=
 match ρ x with
  | .int _ n=>some (.val (.int k (k.wrap n)))
  | _=>none
noncomputable def oA(x:Operand)(ρ:Operand->Value)(S:St):Option F8:=
 match ρ x with
  | .string s=>some (.val (.string s))
  | _=>none
noncomputable def PN(t:TypeId)(x:Operand)(ρ:Operand->Value)(S:St):Option F8:=
 some (.val (.iface t (ρ x)))
noncomputable def R3(f:FuncId)(a:Array Operand)(b:Array Operand)(ρ:Operand->Value)(S:St):Option F8:=
 some (.val (.func (.func f) (a.map ρ) (b.map ρ)))
noncomputable def PO(e:TypeId)(esz:Nat)(bytes:Nat)(z:List Value)(l:Operand)(c:Operand)(ρ:Operand->Value)(S:St):Option F8:=
 match ρ l,ρ c with
  | .int _ l,.int _ c=>if 0<=l/\l<=c/\bytes * c.toNat<=reach/\0 < bytes/\z.length=esz/\E5 z=true then
    some (.new (.slice (some ⟨S.next,0,none⟩) l.toNat c.toNat) (.cells (rep c.toNat z) e esz true [])) else none
  | _,_=>none
noncomputable def zx(esz:Nat)(x:Operand)(lo:Option Operand)(hi:Option Operand)(ρ:Operand->Value)(S:St):Option F8:=
 match ρ x with
  | .slice a n c=>match bound (lo.map ρ) 0,bound (hi.map ρ) n with
   | some l,some h=>if l<=h/\h<=c then (H8 S esz l h c a).map λr=>.val r.1 else none
   | _,_=>none
  | _=>none
noncomputable def VP(x:Operand)(lo:Option Operand)(hi:Option Operand)(ρ:Operand->Value)(S:St):Option F8:=
 match ρ x with
  | .string s=>match bound (lo.map ρ) 0,bound (hi.map ρ) s.size with
   | some l,some h=>if l<=h/\h<=s.size then some (.val (.string ⟨⟨(s.data.toList.drop l).take (h - l)⟩⟩)) else none
   | _,_=>none
  | _=>none
noncomputable def zy(off:Nat)(x:Operand)(ρ:Operand->Value)(S:St):Option F8:=
 match ρ x with
  | .pointer (some ⟨id,o,none⟩)=>some (.val (.pointer (some ⟨id,o+off,none⟩)))
  | _=>none
noncomputable def oB(agg:Bool)(sz:Nat)(off:Nat)(x:Operand)(ρ:Operand->Value)(S:St):Option F8:=
 match ρ x with
  | .agg a=>if off+sz<=a.size then R2 agg ((a.toList.drop off).take sz) else none
  | _=>none
noncomputable def zA(esz:Nat)(x:Operand)(i:Operand)(ρ:Operand->Value)(S:St):Option F8:=
 match ρ x,ρ i with
  | .slice (some ⟨id,o,none⟩) n _,.int _ i=>if 0<=i/\i < n then some (.val (.pointer (some ⟨id,o+i.toNat * esz,none⟩))) else none
  | _,_=>none
noncomputable def VQ(n:Nat)(esz:Nat)(x:Operand)(i:Operand)(ρ:Operand->Value)(S:St):Option F8:=
 match ρ x,ρ i with
  | .pointer (some ⟨id,o,none⟩),.int _ i=>if 0<=i/\i < n then some (.val (.pointer (some ⟨id,o+i.toNat * esz,none⟩))) else none
  | _,_=>none
noncomputable def oC(n:Nat)(agg:Bool)(esz:Nat)(x:Operand)(i:Operand)(ρ:Operand->Value)(S:St):Option F8:=
 match ρ x,ρ i with
  | .agg a,.int _ i=>if 0<=i/\i < n/\i.toNat * esz+esz<=a.size then R2 agg ((a.toList.drop (i.toNat * esz)).take esz) else none
  | _,_=>none
noncomputable def R4(x:Operand)(i:Operand)(ρ:Operand->Value)(S:St):Option F8:=
 match ρ x,ρ i with
  | .string s,.int _ i=>if 0<=i then (match IZ s.data.toList i.toNat with
   | []=>none
   | b::_=>some (.val (.int .u8 b.toNat))) else none
  | _,_=>none
noncomputable def oD(x:Operand)(i:Nat)(ρ:Operand->Value)(S:St):Option F8:=
 match ρ x with
  | .tuple a=>(a.toList[i]?).map .old
  | _=>none
noncomputable def VT(z:List Value)(parts:List (Nat × Nat × Operand))(ρ:Operand->Value)(S:St):Option F8:=
 (Hk z (parts.map λp=>(p.1,p.2.1,ρ p.2.2))).map λl=>.val (.agg ⟨l⟩)
noncomputable def LG(e:TypeId)(esz:Nat)(n:Nat)(z:List Value)(parts:List (Nat × Nat × Operand))(ρ:Operand->Value)(S:St):Option F8:=
 if z.length=esz then (Hk (rep n z) (parts.map λp=>(p.1,p.2.1,ρ p.2.2))).bind λl=>if E5 l then some (.new (.slice (some ⟨S.next,0,none⟩) n n) (.cells l e esz true [])) else none else none
noncomputable def oE(x:Operand)(ρ:Operand->Value)(S:St):Option F8:=
 match ρ x with
  | .slice _ n _=>some (.val (.int .i64 n))
  | _=>none
noncomputable def R5(x:Operand)(ρ:Operand->Value)(S:St):Option F8:=
 match ρ x with
  | .string s=>some (.val (.int .i64 s.size))
  | _=>none
noncomputable def R6(e:TypeId)(esz:Nat)(bytes:Nat)(s:Operand)(x:Operand)(ρ:Operand->Value)(S:St):Option F8:=
 iE e esz bytes (ρ s) (ρ x) S
noncomputable def ez(esz:Nat)(d:Operand)(s:Operand)(ρ:Operand->Value)(S:St):Option F8:=
 xF esz (ρ d) (ρ s) S
noncomputable def oF(esz:Nat)(z:List Value)(x:Operand)(ρ:Operand->Value)(S:St):Option F8:=
 Abz esz z (ρ x) S
noncomputable def R7(mx:Bool)(x:Operand)(l:List Operand)(ρ:Operand->Value)(S:St):Option F8:=
 match ρ x with
  | .int k a=>(H0 mx a k (l.map ρ)).map .val
  | _=>none
noncomputable def zC(f:FuncId)(args:Array Operand)(ρ:Operand->Value)(S:St):Option F8:=
 some (.call (.func f) (args.toList.map ρ))
noncomputable def VU(x:Operand)(args:Array Operand)(ρ:Operand->Value)(S:St):Option F8:=
 match ρ x with
  | .func g a b=>some (.call g (a.toList++args.toList.map ρ++b.toList))
  | _=>none
noncomputable def VX(e:iG)(l:List Operand)(ρ:Operand->Value)(S:St):Option F8:=
 oq e (l.map ρ) S
noncomputable def EP(S:St)(r:Option F8)(x:Option (Value × St)):Prop:=x=r.map (F8.run S)/\∀ g l,r≠some (.call g l)
section
variable {S:St}
def DY:EP S none none:=⟨rfl,λ_ _ h=>by cases h⟩
def Ez(v:Value):EP S (some (.val v)) (some (v,S)):=⟨rfl,λ_ _ h=>by cases h⟩
def Lh(v:Value):EP S (some (.old v)) (some (v,S)):=⟨rfl,λ_ _ h=>by cases h⟩
def Uw(o:Option Value):EP S (o.map .old) (o.map λx=>(x,S)):=by cases o<;>first | exact DY | exact Lh _
def Hz(v:Value)(b:FH):EP S (some (.new v b)) (some (v,S.alloc b)):=⟨rfl,λ_ _ h=>by cases h⟩
def HP(v:Value)(id:Nat)(an:List Nat)(c:List Value)(t:TypeId)(z:Nat):EP S (some (.put v id an (.cells c t z true []))) (some (v,S.write id c t z an)):=⟨rfl,λ_ _ h=>by cases h⟩
def MJ(v:Value)(id:Nat)(b:FH):EP S (some (.put v id [] b)) (some (v,S.put id b)):=⟨rfl,λ_ _ h=>by cases h⟩
def kx(v:Value)(id:Nat)(c:List Value)(t:TypeId)(z:Nat)(an:List Nat)(c2:List Value)(t2:TypeId):EP S (some (.grow v id (.cells c t z false an) (.cells c2 t2 z true (id::an)))) (some (v,S.grow id c t z an c2 t2)):=⟨rfl,λ_ _ h=>by cases h⟩
def Jv{α:Type}(o:Option α)(f:α->Value):EP S (o.map λx=>.val (f x)) (o.map λx=>(f x,S)):=by cases o<;>first | exact DY | exact Ez _
def JZ(o:Option Value):EP S (o.map .val) (o.map λx=>(x,S)):=by cases o<;>first | exact DY | exact Ez _
def I8{α:Type}(o:Option α){f:α->Option F8}{g:α->Option (Value × St)}(h:∀ x,EP S (f x) (g x)):EP S (o.bind f) (o.bind g):=by cases o<;>first | exact DY | exact h _
def PQ{α:Type}(o:Option α){f:α->F8}{g:α->Value × St}(h:∀ x,EP S (some (f x)) (some (g x))):EP S (o.map f) (o.map g):=by cases o<;>first | exact DY | exact h _
def I9(agg:Bool)(c:List Value):EP S (R2 agg c) ((Hj agg c).map λv=>(v,S)):=Uw _
def OO(agg:Bool)(id o sz:Nat):EP S (krd S id o sz (R2 agg)) ((S.rd id o sz).bind λc=>(Hj agg c).map λv=>(v,S)):=by
 rw[zq];exact I8 _ λc=>I9 agg c
end
def oG(S:St)(id:Nat):Xv S.heap id=S.get id:=Rs S.heap S.next id
def VY(s:ByteArray)(l h:Nat)(h1:l<=h)(h2:h<=s.size):s.extract l h=⟨⟨(s.data.toList.drop l).take (h - l)⟩⟩:=by
 apply ByteArray.ext;apply BA;rw[ByteArray.data_extract];simp
def ky(e:iG)(l:List Value)(S:St):EP S (oq e l S) (Ei e l S):=by
 cases e with
 | mkMap=>exact Hz _ _
 | lookup ks agg z ok=>
  rcases l with _ | ⟨x,_ | ⟨k,_ | ⟨_,_⟩⟩⟩<;>try exact DY
  refine I8 _ λc=>?_
  cases x with
  | map r=>
   cases r with
   | none=>exact Ez _
   | some id=>
    show EP S (match S.get id with | .obj (.map es _)=>_ | _=>none) (match S.get id with | .obj (.map es _)=>_ | _=>none)
    generalize S.get id=b;rcases b with _ | _ | o<;>try exact DY
    cases o<;>first | exact DY | exact Jv _ _
  | _=>exact DY
 | mapSet ks agg=>
  rcases l with _ | ⟨x,_ | ⟨k,_ | ⟨v,_ | ⟨_,_⟩⟩⟩⟩<;>try exact DY
  refine I8 _ λc=>?_
  cases x with
  | map r=>
   cases r with
   | none=>exact DY
   | some id=>
    show EP S (match S.get id with | .obj (.map es _)=>_ | _=>none) (match S.get id with | .obj (.map es _)=>_ | _=>none)
    generalize S.get id=b;rcases b with _ | _ | o<;>try exact DY
    cases o<;>try exact DY
    refine PQ _ λr=>?_
    rcases r with _ | ⟨i,v⟩<;>exact MJ _ _ _
  | _=>exact DY
 | mapEnt ks agg z=>
  rcases l with _ | ⟨x,_ | ⟨k,_ | ⟨_,_⟩⟩⟩<;>try exact DY
  refine I8 _ λc=>?_
  cases x with
  | map r=>
   cases r with
   | none=>exact DY
   | some id=>
    show EP S (match S.get id with | .obj (.map es _)=>_ | _=>none) (match S.get id with | .obj (.map es _)=>_ | _=>none)
    generalize S.get id=b;rcases b with _ | _ | o<;>try exact DY
    cases o<;>try exact DY
    refine PQ _ λr=>?_
    rcases r with _ | ⟨i,v⟩<;>exact MJ _ _ _
  | _=>exact DY
 | entSet=>
  rcases l with _ | ⟨x,_ | ⟨k,_ | ⟨v,_ | ⟨_,_⟩⟩⟩⟩
  ·exact DY
  ·cases x<;>try exact DY
   rename_i r;cases r<;>exact DY
  ·cases x<;>try exact DY
   rename_i r;cases r<;>try exact DY
   cases k<;>try exact DY
   rename_i ik b;cases ik<;>exact DY
  ·cases x<;>try exact DY
   rename_i r;cases r with
   | none=>exact DY
   | some id=>
    cases k<;>try exact DY
    rename_i ik b;cases ik<;>try exact DY
    show EP S (match S.get id with | .obj (.map es cl)=>_ | _=>none) (match S.get id with | .obj (.map es cl)=>_ | _=>none)
    generalize S.get id=bb;rcases bb with _ | _ | o<;>try exact DY
    cases o<;>try exact DY
    rename_i es cl;show EP S (match es.findIdx? λe=>((e.2.2:Nat):Int) == b with | some i=>_ | none=>none) (match es.findIdx? λe=>((e.2.2:Nat):Int) == b with | some i=>_ | none=>none)
    cases es.findIdx? λe=>((e.2.2:Nat):Int) == b<;>first | exact DY | exact MJ _ _ _
  ·cases x<;>try exact DY
   rename_i r;cases r<;>try exact DY
   cases k<;>try exact DY
   rename_i ik b;cases ik<;>exact DY
 | mapDel ks agg=>
  rcases l with _ | ⟨x,_ | ⟨k,_ | ⟨_,_⟩⟩⟩<;>try exact DY
  refine I8 _ λc=>?_
  cases x with
  | map r=>
   cases r with
   | none=>exact Ez _
   | some id=>
    show EP S (match S.get id with | .obj (.map es _)=>_ | _=>none) (match S.get id with | .obj (.map es _)=>_ | _=>none)
    generalize S.get id=b;rcases b with _ | _ | o<;>try exact DY
    cases o<;>try exact DY
    refine PQ _ λr=>?_
    rcases r with _ | ⟨i,v⟩<;>exact MJ _ _ _
  | _=>exact DY
 | mapLen=>
  rcases l with _ | ⟨x,_ | ⟨_,_⟩⟩
  ·exact DY
  ·cases x with
   | map r=>
    cases r with
    | none=>exact Ez _
    | some id=>
     show EP S (match S.get id with | .obj (.map es _)=>_ | _=>none) (match S.get id with | .obj (.map es _)=>_ | _=>none)
     generalize S.get id=b;rcases b with _ | _ | o<;>try exact DY
     cases o<;>first | exact DY | exact Ez _
   | _=>exact DY
  ·cases x with
   | map r=>cases r<;>exact DY
   | _=>exact DY
 | iterStr=>
  rcases l with _ | ⟨x,_ | ⟨_,_⟩⟩
  ·exact DY
  ·cases x<;>first | exact DY | exact Hz _ _
  ·cases x<;>exact DY
 | nextStr=>
  rcases l with _ | ⟨x,_ | ⟨_,_⟩⟩
  ·exact DY
  ·cases x with
   | pointer p=>
    rcases p with _ | ⟨id,_ | o,_ | q⟩<;>try exact DY
    show EP S (match S.get id with | .obj (.iter s p)=>_ | _=>none) (match S.get id with | .obj (.iter s p)=>_ | _=>none)
    generalize S.get id=b;rcases b with _ | _ | o<;>try exact DY
    cases o<;>try exact DY
    show EP S (if _ then _ else _) (if _ then _ else _)
    split<;>first | exact MJ _ _ _ | exact Ez _
   | _=>exact DY
  ·cases x with
   | pointer p=>rcases p with _ | ⟨id,_ | o,_ | q⟩<;>exact DY
   | _=>exact DY
 | iterMap=>
  rcases l with _ | ⟨x,_ | ⟨_,_⟩⟩
  ·exact DY
  ·cases x with
   | map r=>
    cases r with
    | none=>exact Hz _ _
    | some id=>
     show EP S (match S.get id with | .obj (.map _ cl)=>_ | _=>none) (match S.get id with | .obj (.map _ cl)=>_ | _=>none)
     generalize S.get id=b;rcases b with _ | _ | o<;>try exact DY
     cases o<;>first | exact DY | exact Hz _ _
   | _=>exact DY
  ·cases x with
   | map r=>cases r<;>exact DY
   | _=>exact DY
 | nextMap=>
  rcases l with _ | ⟨x,_ | ⟨_,_⟩⟩
  ·exact DY
  ·cases x with
   | pointer p=>
    rcases p with _ | ⟨id,_ | o,_ | q⟩<;>try exact DY
    show EP S (match S.get id with | .obj (.mapIter none _ _ _)=>_ | .obj (.mapIter (some m) c _ l)=>(match S.get m with | .obj (.map [] cl)=>_ | _=>none) | _=>none) (match S.get id with | .obj (.mapIter none _ _ _)=>_ | .obj (.mapIter (some m) c _ l)=>(match S.get m with | .obj (.map [] cl)=>_ | _=>none) | _=>none)
    generalize S.get id=b;rcases b with _ | _ | o<;>try exact DY
    cases o<;>try exact DY
    rename_i mm _ _ _;cases mm with
    | none=>exact Ez _
    | some m=>
     show EP S (match S.get m with | .obj (.map [] cl)=>_ | _=>none) (match S.get m with | .obj (.map [] cl)=>_ | _=>none)
     generalize S.get m=b;rcases b with _ | _ | o<;>try exact DY
     cases o<;>try exact DY
     rename_i es _;cases es with
     | nil=>show EP S (if _ then _ else _) (if _ then _ else _);split<;>first | exact Ez _ | exact DY
     | cons=>exact DY
   | _=>exact DY
  ·cases x with
   | pointer p=>rcases p with _ | ⟨id,_ | o,_ | q⟩<;>exact DY
   | _=>exact DY
 | nilF neg=>
  rcases l with _ | ⟨x,_ | ⟨y,_ | ⟨_,_⟩⟩⟩
  ·exact DY
  ·exact DY
  ·cases y<;>try exact DY
   show EP S ((MI x).map λb=>.val (.bool (EU neg b))) ((MI x).map λb=>(.bool (EU neg b),S))
   cases MI x<;>first | exact DY | exact Ez _
  ·cases y<;>exact DY
 | gload=>
  rcases l with _ | ⟨x,l⟩
  ·show EP S (if Z3=true then some (.val (.chan (some 0))) else none) (if Z3=true then some (.chan (some 0),S) else none)
   split<;>first | exact Ez _ | exact DY
  ·exact DY
 | lookG z ok=>
  rcases l with _ | ⟨x,_ | ⟨k,_ | ⟨_,_⟩⟩⟩
  ·exact DY
  ·cases x with
   | chan r=>rcases r with _ | r<;>first | exact DY | (rcases r with _ | r<;>exact DY)
   | _=>exact DY
  ·cases x with
   | chan r=>
    rcases r with _ | r
    ·exact DY
    ·rcases r with _ | r
     ·cases k with
      | int ik n=>
       cases ik<;>first
        | exact DY
        | (show EP S (if Z3=true then some (.val (FC z ok ((Ny.lookup n).map λf=>(0,.func (.func f) #[] #[])))) else none) (if Z3=true then some (FC z ok ((Ny.lookup n).map λf=>(0,.func (.func f) #[] #[])),S) else none);split<;>first | exact Ez _ | exact DY)
      | _=>exact DY
     ·exact DY
   | _=>exact DY
  ·cases x with
   | chan r=>
    rcases r with _ | r
    ·exact DY
    ·rcases r with _ | r
     ·cases k with
      | int ik n=>cases ik<;>exact DY
      | _=>exact DY
     ·exact DY
   | _=>exact DY
 | capNil=>
  rcases l with _ | ⟨x,_ | ⟨_,_⟩⟩
  ·exact DY
  ·cases x with
   | slice a n c=>rcases a with _ | a<;>rcases n with _ | n<;>rcases c with _ | c<;>first | exact DY | exact Ez _
   | _=>exact DY
  ·cases x with
   | slice a n c=>rcases a with _ | a<;>rcases n with _ | n<;>rcases c with _ | c<;>exact DY
   | _=>exact DY
 | entMap=>
  rcases l with _ | ⟨x,_ | ⟨_,_⟩⟩
  ·exact DY
  ·cases x with
   | pointer p=>
    rcases p with _ | ⟨id,_ | o,_ | q⟩<;>try exact DY
    show EP S (match S.get id with | .obj (.mapIter (some m) _ seen last)=>_ | _=>none) (match S.get id with | .obj (.mapIter (some m) _ seen last)=>_ | _=>none)
    generalize S.get id=b;rcases b with _ | _ | o<;>try exact DY
    rcases o with _ | _ | _ | ⟨_ | m,since,seen,last⟩<;>try exact DY
    show EP S (match S.get m with | .obj (.map es cl)=>_ | _=>none) (match S.get m with | .obj (.map es cl)=>_ | _=>none)
    generalize S.get m=b;rcases b with _ | _ | o<;>try exact DY
    cases o<;>try exact DY
    show EP S (if _ then _ else _) (if _ then _ else _)
    split<;>try exact DY
    exact I8 _ λs=>Jv _ _
   | _=>exact DY
  ·cases x with
   | pointer p=>rcases p with _ | ⟨id,_ | o,_ | q⟩<;>exact DY
   | _=>exact DY
def uG(x:Operand)(ρ:Operand->Value)(S:St):EP S (zt x ρ S) (EF (.mv x) ρ S):=by
 unfold zt;simp only[EF]
 (repeat' split)<;>first | exact DY | exact Lh _ | exact Ez _ | exact Hz _ _ | exact HP _ _ _ _ _ _ | exact JZ _ | exact Jv _ _ | exact I9 _ _ | exact OO _ _ _ _ | (simp_all;done)
def kz(c:Operand)(a:Operand)(b:Operand)(ρ:Operand->Value)(S:St):EP S (er c a b ρ S) (EF (.pick c a b) ρ S):=by
 unfold er;simp only[EF];generalize ρ c=v;cases v with
 | bool q=>cases q<;>exact Lh _
 | _=>exact DY
def oH(t:TypeId)(x:Operand)(ρ:Operand->Value)(S:St):EP S (ot t x ρ S) (EF (.box t x) ρ S):=by
 unfold ot;simp only[EF];split<;>first | exact DY | exact Hz _ _
def kA(t:TypeId)(z:Value)(ρ:Operand->Value)(S:St):EP S (eu t z ρ S) (EF (.zero t z) ρ S):=by
 unfold eu;simp only[EF]
 (repeat' split)<;>first | exact DY | exact Lh _ | exact Ez _ | exact Hz _ _ | exact HP _ _ _ _ _ _ | exact JZ _ | exact Jv _ _ | exact I9 _ _ | exact OO _ _ _ _ | (simp_all;done)
def kB(agg:Bool)(sz:Nat)(x:Operand)(ρ:Operand->Value)(S:St):EP S (ew agg sz x ρ S) (EF (.load agg sz x) ρ S):=by
 unfold ew;simp only[EF];generalize ρ x=v;cases v with
 | pointer p=>rcases p with _ | ⟨id,o,_ | p⟩<;>first | exact DY | exact OO _ _ _ _
 | _=>exact DY
def eA(sz:Nat)(a:Operand)(x:Operand)(ρ:Operand->Value)(S:St):EP S (VL sz a x ρ S) (EF (.store sz a x) ρ S):=by
 unfold VL;simp only[EF,oG];generalize ρ a=v;cases v with
 | pointer p=>
  rcases p with _ | ⟨id,o,_ | p⟩<;>try exact DY
  show EP S (match S.get id with | .cells c t z true an=>_ | _=>none) (match S.get id with | .cells c t z true an=>_ | _=>none)
  generalize S.get id=b;rcases b with _ | ⟨c,t,z,_ | _,an⟩ | _<;>first | exact DY | skip
  show EP S (if _ then _ else _) (if _ then _ else _)
  split<;>first | exact DY | exact HP _ _ _ _ _ _
 | _=>exact DY
def eB(x:Operand)(ρ:Operand->Value)(S:St):EP S (VN x ρ S) (EF (.nilck x) ρ S):=by
 unfold VN;simp only[EF];generalize ρ x=v;cases v with
 | pointer p=>rcases p with _ | ⟨id,o,_ | p⟩<;>first | exact DY | exact Ez _
 | func f a b=>cases f<;>first | exact DY | exact Ez _
 | iface t v=>exact Ez _
 | _=>exact DY
def oI(op:BinOp)(x:Operand)(y:Operand)(ρ:Operand->Value)(S:St):EP S (xG op x y ρ S) (EF (.bin op x y) ρ S):=by
 exact JZ _
def oJ(neg:Bool)(x:Operand)(y:Operand)(ρ:Operand->Value)(S:St):EP S (ou neg x y ρ S) (EF (.eqb neg x y) ρ S):=by
 unfold ou;simp only[EF];generalize ρ x=v;generalize ρ y=w;cases v<;>try exact DY
 cases w<;>first | exact DY | exact Ez _
def oK(ks:List Nat)(neg:Bool)(x:Operand)(y:Operand)(ρ:Operand->Value)(S:St):EP S (ow ks neg x y ρ S) (EF (.eqf ks neg x y) ρ S):=by
 unfold ow;simp only[EF];generalize ρ x=v;generalize ρ y=w;cases v<;>try exact DY
 cases w<;>first | exact DY | exact Jv _ _
def oL(neg:Bool)(x:Operand)(y:Operand)(ρ:Operand->Value)(S:St):EP S (ox neg x y ρ S) (EF (.eqp neg x y) ρ S):=by
 unfold ox;simp only[EF];generalize ρ x=v;generalize ρ y=w;cases v<;>try exact DY
 cases w with
 | pointer p=>cases p<;>first | exact DY | exact Ez _
 | _=>exact DY
def oM(neg:Bool)(x:Operand)(y:Operand)(ρ:Operand->Value)(S:St):EP S (oy neg x y ρ S) (EF (.eqs neg x y) ρ S):=by
 unfold oy;simp only[EF];generalize ρ x=v;generalize ρ y=w;cases v<;>try exact DY
 cases w with
 | slice p n c=>cases p<;>first | exact DY | exact Ez _
 | _=>exact DY
def uH(op:UnOp)(x:Operand)(ρ:Operand->Value)(S:St):EP S (zu op x ρ S) (EF (.un op x) ρ S):=by
 unfold zu;simp only[EF];generalize ρ x=v;cases op<;>cases v<;>first | exact DY | exact Ez _
def oN(k:IntKind)(x:Operand)(ρ:Operand->Value)(S:St):EP S (oz k x ρ S) (EF (.cvi k x) ρ S):=by
 unfold oz;simp only[EF];generalize ρ x=v;cases v<;>first | exact DY | exact Ez _
def oO(x:Operand)(ρ:Operand->Value)(S:St):EP S (oA x ρ S) (EF (.EX x) ρ S):=by
 unfold oA;simp only[EF];generalize ρ x=v;cases v<;>first | exact DY | exact Ez _
def VZ(t:TypeId)(x:Operand)(ρ:Operand->Value)(S:St):EP S (PN t x ρ S) (EF (.mkIface t x) ρ S):=by
 unfold PN;simp only[EF]
 (repeat' split)<;>first | exact DY | exact Lh _ | exact Ez _ | exact Hz _ _ | exact HP _ _ _ _ _ _ | exact JZ _ | exact Jv _ _ | exact I9 _ _ | exact OO _ _ _ _ | (simp_all;done)
def Xw(f:FuncId)(a:Array Operand)(b:Array Operand)(ρ:Operand->Value)(S:St):EP S (R3 f a b ρ S) (EF (.mkFunc f a b) ρ S):=by
 unfold R3;simp only[EF]
 (repeat' split)<;>first | exact DY | exact Lh _ | exact Ez _ | exact Hz _ _ | exact HP _ _ _ _ _ _ | exact JZ _ | exact Jv _ _ | exact I9 _ _ | exact OO _ _ _ _ | (simp_all;done)
def V0(e:TypeId)(esz:Nat)(bytes:Nat)(z:List Value)(l:Operand)(c:Operand)(ρ:Operand->Value)(S:St):EP S (PO e esz bytes z l c ρ S) (EF (.mkSlice e esz bytes z l c) ρ S):=by
 unfold PO;simp only[EF];generalize ρ l=v;generalize ρ c=w;cases v<;>try exact DY
 cases w<;>try exact DY
 show EP S (if _ then _ else _) (if _ then _ else _)
 split<;>first | exact DY | exact Hz _ _
def uI(esz:Nat)(x:Operand)(lo:Option Operand)(hi:Option Operand)(ρ:Operand->Value)(S:St):EP S (zx esz x lo hi ρ S) (EF (.sl esz x lo hi) ρ S):=by
 unfold zx;simp only[EF];generalize ρ x=v;cases v with
 | slice a n c=>
  show EP S (match bound (lo.map ρ) 0,bound (hi.map ρ) n with | some l,some h=>_ | _,_=>none) (match bound (lo.map ρ) 0,bound (hi.map ρ) n with | some l,some h=>_ | _,_=>none)
  generalize bound (lo.map ρ) 0=p;generalize bound (hi.map ρ) n=q;cases p<;>try exact DY
  cases q<;>try exact DY
  show EP S (if _ then _ else _) (if _ then _ else _)
  split<;>try exact DY
  rcases a with _ | ⟨id,o,_ | p⟩
  ·show EP S (Option.map _ (if _ then _ else _)) (if _ then _ else _)
   split<;>first | exact DY | exact Ez _
  ·show EP S (Option.map _ (if _ then _ else _)) (if _ then _ else _)
   split<;>first | exact DY | exact Ez _
  ·exact DY
 | _=>exact DY
def eC(x:Operand)(lo:Option Operand)(hi:Option Operand)(ρ:Operand->Value)(S:St):EP S (VP x lo hi ρ S) (EF (.slStr x lo hi) ρ S):=by
 unfold VP;simp only[EF];generalize ρ x=v;cases v with
 | string s=>
  show EP S (match bound (lo.map ρ) 0,bound (hi.map ρ) s.size with | some l,some h=>_ | _,_=>none) (match bound (lo.map ρ) 0,bound (hi.map ρ) s.size with | some l,some h=>_ | _,_=>none)
  generalize bound (lo.map ρ) 0=p;generalize bound (hi.map ρ) s.size=q;cases p<;>try exact DY
  cases q<;>try exact DY
  rename_i l h;show EP S (if _ then _ else _) (if _ then _ else _)
  split<;>try exact DY
  rename_i hh;rw[VY s l h hh.1 hh.2];exact Ez _
 | _=>exact DY
def uJ(off:Nat)(x:Operand)(ρ:Operand->Value)(S:St):EP S (zy off x ρ S) (EF (.fa off x) ρ S):=by
 unfold zy;simp only[EF];generalize ρ x=v;cases v with
 | pointer p=>rcases p with _ | ⟨id,o,_ | p⟩<;>first | exact DY | exact Ez _
 | _=>exact DY
def oP(agg:Bool)(sz:Nat)(off:Nat)(x:Operand)(ρ:Operand->Value)(S:St):EP S (oB agg sz off x ρ S) (EF (.fld agg sz off x) ρ S):=by
 unfold oB;simp only[EF];generalize ρ x=v;cases v with
 | agg a=>
  show EP S (if _ then _ else _) (if _ then _ else _)
  split<;>first | exact DY | exact I9 _ _
 | _=>exact DY
def uK(esz:Nat)(x:Operand)(i:Operand)(ρ:Operand->Value)(S:St):EP S (zA esz x i ρ S) (EF (.ia esz x i) ρ S):=by
 unfold zA;simp only[EF];generalize ρ x=v;generalize ρ i=w;cases v with
 | slice p n c=>
  rcases p with _ | ⟨id,o,_ | p⟩<;>try exact DY
  cases w<;>try exact DY
  show EP S (if _ then _ else _) (if _ then _ else _)
  split<;>first | exact DY | exact Ez _
 | _=>exact DY
def eD(n:Nat)(esz:Nat)(x:Operand)(i:Operand)(ρ:Operand->Value)(S:St):EP S (VQ n esz x i ρ S) (EF (.iaArr n esz x i) ρ S):=by
 unfold VQ;simp only[EF];generalize ρ x=v;generalize ρ i=w;cases v with
 | pointer p=>
  rcases p with _ | ⟨id,o,_ | p⟩<;>try exact DY
  cases w<;>try exact DY
  show EP S (if _ then _ else _) (if _ then _ else _)
  split<;>first | exact DY | exact Ez _
 | _=>exact DY
def oQ(n:Nat)(agg:Bool)(esz:Nat)(x:Operand)(i:Operand)(ρ:Operand->Value)(S:St):EP S (oC n agg esz x i ρ S) (EF (.idx n agg esz x i) ρ S):=by
 unfold oC;simp only[EF];generalize ρ x=v;generalize ρ i=w;cases v with
 | agg a=>
  cases w<;>try exact DY
  show EP S (if _ then _ else _) (if _ then _ else _)
  split<;>first | exact DY | exact I9 _ _
 | _=>exact DY
def Xx(x:Operand)(i:Operand)(ρ:Operand->Value)(S:St):EP S (R4 x i ρ S) (EF (.idxStr x i) ρ S):=by
 unfold R4;simp only[EF];generalize ρ x=v;generalize ρ i=w;cases v with
 | string s=>
  cases w with
  | int k i=>
   show EP S (if _ then _ else _) (if _ then _ else _)
   split<;>try exact DY
   rw[Im];have e:(s[i.toNat]?)=s.data.toList[i.toNat]?:=by
    rw[BW];rfl
   rw[e];have e2:s.data.toList[i.toNat]? = (s.data.toList.drop i.toNat).head?:=by rw[DI]
   rw[e2];cases s.data.toList.drop i.toNat<;>first | exact DY | exact Ez _
  | _=>exact DY
 | _=>exact DY
def oR(x:Operand)(i:Nat)(ρ:Operand->Value)(S:St):EP S (oD x i ρ S) (EF (.ext x i) ρ S):=by
 unfold oD;simp only[EF];generalize ρ x=v;cases v with
 | tuple a=>
  show EP S ((a.toList[i]?).map .old) ((a[i]?).map λv=>(v,S))
  rw[BW];exact Uw _
 | _=>exact DY
def eE(z:List Value)(parts:List (Nat × Nat × Operand))(ρ:Operand->Value)(S:St):EP S (VT z parts ρ S) (EF (.build z parts) ρ S):=by
 unfold VT;simp only[EF];exact Jv _ _
def Rb(e:TypeId)(esz:Nat)(n:Nat)(z:List Value)(parts:List (Nat × Nat × Operand))(ρ:Operand->Value)(S:St):EP S (LG e esz n z parts ρ S) (EF (.buildSlice e esz n z parts) ρ S):=by
 unfold LG;simp only[EF];split<;>try exact DY
 refine I8 _ λl=>?_
 split<;>first | exact DY | exact Hz _ _
def oS(x:Operand)(ρ:Operand->Value)(S:St):EP S (oE x ρ S) (EF (.len x) ρ S):=by
 unfold oE;simp only[EF];generalize ρ x=v;cases v<;>first | exact DY | exact Ez _
def Xy(x:Operand)(ρ:Operand->Value)(S:St):EP S (R5 x ρ S) (EF (.lenStr x) ρ S):=by
 unfold R5;simp only[EF];generalize ρ x=v;cases v<;>first | exact DY | exact Ez _
def Xz(e:TypeId)(esz:Nat)(bytes:Nat)(s:Operand)(x:Operand)(ρ:Operand->Value)(S:St):EP S (R6 e esz bytes s x ρ S) (EF (.append e esz bytes s x) ρ S):=by
 unfold R6 iE;simp only[EF,G2];generalize ρ s=v;generalize ρ x=w;cases S.elems esz w<;>try exact DY
 cases MH w<;>try exact DY
 show EP S (if _ then _ else _) (if _ then _ else _)
 split
 ·cases v<;>first | exact DY | exact Ez _
 ·show EP S (if _ then _ else _) (if _ then _ else _)
  split<;>try exact DY
  cases v with
  | slice a n c=>
   rcases a with _ | ⟨id,o,_ | p⟩
   ·rcases n with _ | n<;>rcases c with _ | c<;>try exact DY
    show EP S (if _ then _ else _) (if _ then _ else _)
    split<;>first | exact DY | exact Hz _ _
   ·show EP S (match S.get id with | .cells c t z true an=>_ | _=>none) (match S.get id with | .cells c t z true an=>_ | _=>none)
    generalize S.get id=b;rcases b with _ | ⟨cc,t,z,_ | _,an⟩ | _<;>first | exact DY | skip
    show EP S (if _ then (if _ then _ else _) else if _ then _ else _) (if _ then (if _ then _ else _) else if _ then _ else _)
    split
    ·split
     ·rename_i e _
      obtain⟨rfl,_⟩:=e;exact kx _ _ _ _ _ _ _ _
     ·exact DY
    ·split<;>first | exact DY | exact HP _ _ _ _ _ _
   ·exact DY
  | _=>exact DY
def kC(esz:Nat)(d:Operand)(s:Operand)(ρ:Operand->Value)(S:St):EP S (ez esz d s ρ S) (EF (.copy esz d s) ρ S):=by
 unfold ez xF;simp only[EF,QC];generalize ρ d=v;generalize ρ s=w;cases v with
 | slice a n c=>
  cases MH w<;>try exact DY
  cases S.elems esz w<;>try exact DY
  show EP S (if _ then _ else _) (if _ then _ else _)
  split<;>try exact Ez _
  rcases a with _ | ⟨id,o,_ | p⟩<;>try exact DY
  show EP S (match S.get id with | .cells c t z true an=>_ | _=>none) (match S.get id with | .cells c t z true an=>_ | _=>none)
  generalize S.get id=b;rcases b with _ | ⟨cc,t,z,_ | _,an⟩ | _<;>first | exact DY | skip
  show EP S (if _ then _ else _) (if _ then _ else _)
  split<;>first | exact DY | exact HP _ _ _ _ _ _
 | _=>exact DY
def oT(esz:Nat)(z:List Value)(x:Operand)(ρ:Operand->Value)(S:St):EP S (oF esz z x ρ S) (EF (.clr esz z x) ρ S):=by
 unfold oF Abz;simp only[EF,XA];generalize ρ x=v;cases v with
 | slice a n c=>
  rcases a with _ | ⟨id,o,_ | p⟩
  ·rcases n with _ | n<;>rcases c with _ | c<;>first | exact DY | exact Ez _
  ·show EP S (if _ then _ else _) (if _ then _ else _)
   split<;>try exact Ez _
   show EP S (match S.get id with | .cells c t z true an=>_ | _=>none) (match S.get id with | .cells c t z true an=>_ | _=>none)
   generalize S.get id=b;rcases b with _ | ⟨cc,t,z,_ | _,an⟩ | _<;>first | exact DY | skip
   show EP S (if _ then _ else _) (if _ then _ else _)
   split<;>first | exact DY | exact HP _ _ _ _ _ _
  ·exact DY
 | _=>exact DY
def XB(mx:Bool)(x:Operand)(l:List Operand)(ρ:Operand->Value)(S:St):EP S (R7 mx x l ρ S) (EF (.minmax mx x l) ρ S):=by
 unfold R7;simp only[EF];generalize ρ x=v;cases v<;>first | exact DY | exact JZ _
def eF(e:iG)(l:List Operand)(ρ:Operand->Value)(S:St):EP S (VX e l ρ S) (EF (.extra e l) ρ S):=by
 unfold VX;simp only[EF];exact ky e _ S
noncomputable def kop(o:Gk):(Operand->Value)->St->Option F8:=@Gk.rec (λ_=>(Operand->Value)->St->Option F8) zt er ot eu ew VL VN xG ou ow ox oy zu oz oA PN R3 PO zx VP zy oB zA VQ oC R4 oD VT LG oE R5 R6 ez oF R7 zC VU VX o
def uM{o:Gk}(h1:∀ f args,o≠.call f args)(h2:∀ x args,o≠.callv x args)(ρ:Operand->Value)(S:St):EP S (kop o ρ S) (EF o ρ S):=by
 cases o with
 | mv x=>exact uG x ρ S
 | pick c a b=>exact kz c a b ρ S
 | box t x=>exact oH t x ρ S
 | zero t z=>exact kA t z ρ S
 | load agg sz x=>exact kB agg sz x ρ S
 | store sz a x=>exact eA sz a x ρ S
 | nilck x=>exact eB x ρ S
 | bin op x y=>exact oI op x y ρ S
 | eqb neg x y=>exact oJ neg x y ρ S
 | eqf ks neg x y=>exact oK ks neg x y ρ S
 | eqp neg x y=>exact oL neg x y ρ S
 | eqs neg x y=>exact oM neg x y ρ S
 | un op x=>exact uH op x ρ S
 | cvi k x=>exact oN k x ρ S
 | EX x=>exact oO x ρ S
 | mkIface t x=>exact VZ t x ρ S
 | mkFunc f a b=>exact Xw f a b ρ S
 | mkSlice e esz bytes z l c=>exact V0 e esz bytes z l c ρ S
 | sl esz x lo hi=>exact uI esz x lo hi ρ S
 | slStr x lo hi=>exact eC x lo hi ρ S
 | fa off x=>exact uJ off x ρ S
 | fld agg sz off x=>exact oP agg sz off x ρ S
 | ia esz x i=>exact uK esz x i ρ S
 | iaArr n esz x i=>exact eD n esz x i ρ S
 | idx n agg esz x i=>exact oQ n agg esz x i ρ S
 | idxStr x i=>exact Xx x i ρ S
 | ext x i=>exact oR x i ρ S
 | build z parts=>exact eE z parts ρ S
 | buildSlice e esz n z parts=>exact Rb e esz n z parts ρ S
 | len x=>exact oS x ρ S
 | lenStr x=>exact Xy x ρ S
 | append e esz bytes s x=>exact Xz e esz bytes s x ρ S
 | copy esz d s=>exact kC esz d s ρ S
 | clr esz z x=>exact oT esz z x ρ S
 | minmax mx x l=>exact XB mx x l ρ S
 | call f args=>exact absurd rfl (h1 f args)
 | callv x args=>exact absurd rfl (h2 x args)
 | extra e l=>exact eF e l ρ S
def eG{o:Gk}(h1:∀ f args,o≠.call f args)(h2:∀ x args,o≠.callv x args){ρ:Operand->Value}{S:St}{a:F8}(h:kop o ρ S=some a):EF o ρ S=some (a.run S)/\∀ g l,a≠.call g l:=by
 obtain⟨k1,k2⟩:=uM h1 h2 ρ S;rw[h] at k1 k2;exact⟨k1,λg l e=>k2 g l (by rw[e])⟩
abbrev KV:=Value->Tr FH->Nat->Bool
abbrev KR:=T4->Tr FH->Nat->Bool
abbrev KX:=Ex->T4->Tr FH->Nat->Bool
abbrev JS:=T4->Tr FH->Nat->KX->Bool
abbrev HA:=Go.Fn->List Value->Tr FH->Nat->KV->Bool
noncomputable def IK(env:T4)(x:Operand):Value:=match x with
 | .tmp t=>match TS (pt t) env with
  | some v=>v
  | none=>undef
 | .const v=>v
 | .global g=>.pointer (some ⟨g,0,none⟩)
 | .func f=>.func (.func f) #[] #[]
noncomputable def NM(env:T4):Fi:=λt=>(TS (pt t) env).getD undef
theorem LH(env:T4)(x:Operand):IK env x=NN (NM env) x:=by
 cases x<;>simp only[IK,NN,NM]
 cases TS (pt _) env<;>rfl
noncomputable def oU(env:T4)(d:Option Tmp)(v:Value)(k:T4->Bool):Bool:=@Option.rec Tmp (λ_=>Bool) (k env) (λd=>ku v (pt d) env k) d
theorem Rt{env:T4}{d:Option Tmp}{v:Value}{k:T4->Bool}(h:oU env d v k=true):∃ env',NM env'=Nz (NM env) d v/\k env'=true:=by
 cases d with
 | none=>exact⟨env,rfl,h⟩
 | some d=>
  obtain⟨env',h1,h2⟩:=VJ v (pt d) env k h;refine⟨env',?_,h2⟩;funext t;simp only[NM,Nz,zD,h1];by_cases e:t=d
  ·subst e;simp
  ·rw[if_neg (λh=>e (eh h)),if_neg e]
noncomputable def isB(v:Value)(want:Bool):Bool:=@Value.rec (λ_=>Bool) (λ_=>Unit) (λ_=>Unit) (λb=>@Bool.rec (λ_=>Bool) (@Bool.rec (λ_=>Bool) true false want) want b) (λ_ _=>false) (λ_ _=>false) (λ_ _ _=>false) (λ_=>false) (λ_=>false) (λ_ _ _=>false) (λ_=>false) (λ_=>false) (λ_ _ _ _ _=>false) false (λ_ _ _=>false) false (λ_ _=>false) (λ_ _=>false) (λ_ _=>()) () (λ_ _ _ _=>()) v
noncomputable def iH(env:T4)(g:Option (Tmp × Bool)):Bool:=@Option.rec (Tmp × Bool) (λ_=>Bool) true (λp=>@Prod.rec Tmp Bool (λ_=>Bool) (λt want=>@Option.rec Value (λ_=>Bool) false (λv=>isB v want) (TS (pt t) env)) p) g
theorem XD(env:T4)(g:Option (Tmp × Bool)):iH env g=OP (NM env) g:=by
 rcases g with _ | ⟨t,w⟩
 ·rfl
 ·simp only[iH,OP,NM]
  cases TS (pt t) env with
  | none=>rfl
  | some v=>
   cases v with
   | bool b=>cases b<;>cases w<;>rfl
   | _=>rfl
noncomputable def XE(l:List Nat)(k:Tr FH->Bool):Tr FH->Bool:=@List.rec Nat (λ_=>Tr FH->Bool) (λh=>k h) (λj _ ih h=>IC .gone 40 h j λh=>ih h) l
theorem XH{l:List Nat}{k:Tr FH->Bool}:∀ {h:Tr FH} {nx:Nat},XE l k h=true->∃ h',(St.mk h nx).kill l=St.mk h' nx/\k h'=true:=by
 induction l with
 | nil=>intro h nx hk;exact⟨h,rfl,hk⟩
 | cons j l ih=>
  intro h nx hk;have hk:IC FH.gone 40 h j (λh=>XE l k h)=true:=hk;obtain⟨h',e1,e3⟩:=ih (nx:=nx) (GI _ _ _ _ _ hk);exact⟨h',by rw[<- e1];rfl,e3⟩
noncomputable def V1(cl:HA)(a:F8)(h:Tr FH)(nx:Nat)(k:KV):Bool:=match a with
 | .old v=>fT v λv=>k v h nx
 | .val v=>fV v λv=>k v h nx
 | .new v b=>fV v λv=>zo b λb=>IC b 40 h nx λh=>fN (Nat.succ nx) λnx=>k v h nx
 | .put v id an b=>fV v λv=>zo b λb=>XE an (λh=>IC b 40 h id λh=>k v h nx) h
 | .grow v id b1 b2=>fV v λv=>zo b1 λb1=>zo b2 λb2=>IC b1 40 h id λh=>IC b2 40 h nx λh=>fN (Nat.succ nx) λnx=>k v h nx
 | .call g l=>fTs l λl=>cl g l h nx k
section
structure PR(M:Nat->Gv):Prop where
 mono:∀ n n',n<=n'->Jw (M n) (M n')
 ws:∀ n,Kh (M n)
def KG(M:Nat->Gv)(g:Go.Fn)(args:Array Value)(S:St)(Q:Value->St->Prop):Prop:=WS S->Hl S.next args.toList->∃ n v S',M n g args S=some (v,S')/\Q v S'
def KP(k:KV)(v:Value)(S':St):Prop:=k v S'.heap S'.next=true
def Jo(M:Nat->Gv)(cl:HA):Prop:=∀ g l h nx k,cl g l h nx k=true->KG M g l.toArray ⟨h,nx⟩ (KP k)
variable {M:Nat->Gv}(hM:PR M)
include hM
theorem uN{cl:HA}(hcl:Jo M cl){o:Gk}{ρ:Operand->Value}{h:Tr FH}{nx:Nat}{a:F8}{k:KV}(hok:Fz o=true)(hρ:∀ x,E3 x=true->Sc nx (ρ x))(hw:WS ⟨h,nx⟩)
  (ha:kop o ρ ⟨h,nx⟩=some a) (hk:V1 cl a h nx k=true):∃ n v S',GL (M n) o ρ ⟨h,nx⟩=some (v,S')/\k v S'.heap S'.next=true:=by
 by_cases hc:(∃ f args,o=.call f args)\/∃ x args,o=.callv x args
 ·rcases hc with ⟨f,args,rfl⟩ | ⟨x,args,rfl⟩
  ·obtain rfl:=Aa ha
   simp only[V1,oc] at hk;have hs:=hcl _ _ _ _ _ hk;have e:(args.toList.map ρ).toArray=args.map ρ:=by rw[<- C5]
   rw[e] at hs;exact hs hw (LJ hρ hok)
  ·have h':VU x args ρ ⟨h,nx⟩=some a:=ha
   unfold VU at h';split at h'
   ·rename_i g b c e
    obtain rfl:=Aa h';simp only[V1,oc] at hk;have hs:=hcl _ _ _ _ _ hk;have e2:(b.toList++args.toList.map ρ++c.toList).toArray=b++args.map ρ++c:=iN
    rw[e2] at hs;simp only[Fz,Al] at hok;have hx:=hρ x hok.1;rw[e] at hx;obtain⟨k1,k2⟩:=Nb hx;obtain⟨n,v,S',h1,h2⟩:=hs hw (by
     rw[A4,A4];exact (k1.append (LJ hρ hok.2)).append k2)
    exact⟨n,v,S',by simp only[GL,e];exact h1,h2⟩
   ·cases h'
 ·have n1:∀ f args,o≠.call f args:=λf args e=>hc (.inl ⟨f,args,e⟩)
  have n2:∀ x args,o≠.callv x args:=λx args e=>hc (.inr ⟨x,args,e⟩)
  obtain⟨h1,h2⟩:=eG n1 n2 ha;have hst:GL (M 0) o ρ ⟨h,nx⟩=EF o ρ ⟨h,nx⟩:=by
   unfold GL;split
   ·exact (n1 _ _ rfl).elim
   ·exact (n2 _ _ rfl).elim
   ·rfl
  refine⟨0,(a.run ⟨h,nx⟩).1,(a.run ⟨h,nx⟩).2,by rw[hst,h1],?_⟩;cases a with
  | call g l=>exact absurd rfl (h2 g l)
  | old v=>
   simp only[V1,xD] at hk;exact hk
  | val v=>
   simp only[V1,QB] at hk;exact hk
  | new v b=>
   simp only[V1,QB,eg] at hk;have h1:=GI _ _ _ _ _ hk;simp only[HO] at h1;exact h1
  | put v id an b=>
   simp only[V1,QB,eg] at hk;obtain⟨h1,e1,e3⟩:=XH (nx:=nx) hk;have h2:=GI _ _ _ _ _ e3;show k v (((St.mk h nx).kill an).put id b).heap (((St.mk h nx).kill an).put id b).next=true
   rw[e1];exact h2
  | grow v id b1 b2=>
   simp only[V1,QB,eg] at hk;have h1:=GI _ _ _ _ _ hk;have h2:=GI _ _ _ _ _ h1;simp only[HO] at h2;exact h2
end
noncomputable def qv(env:T4)(x:Operand)(k:Value->Bool):Bool:=@Operand.rec (λ_=>Bool) (λt=>@Option.rec Value (λ_=>Bool) (k undef) (λv=>k v) (TS (pt t) env)) (λv=>k v) (λg=>k (.pointer (some ⟨g,0,none⟩))) (λf=>k (.func (.func f) #[] #[])) x
def HB(env:T4)(x:Operand)(k:Value->Bool):qv env x k=k (IK env x):=by
 cases x with
 | tmp t=>simp only[qv,IK];cases TS (pt t) env<;>rfl
 | _=>rfl
noncomputable def asInt(v:Value)(k:IntKind->Int->Bool):Bool:=@Value.rec (λ_=>Bool) (λ_=>Unit) (λ_=>Unit) (λ_=>false) (λi n=>k i n) (λ_ _=>false) (λ_ _ _=>false) (λ_=>false) (λ_=>false) (λ_ _ _=>false) (λ_=>false) (λ_=>false) (λ_ _ _ _ _=>false) false (λ_ _ _=>false) false (λ_ _=>false) (λ_ _=>false) (λ_ _=>()) () (λ_ _ _ _=>()) v
def Sb{v:Value}{k:IntKind->Int->Bool}(h:asInt v k=true):∃ i n,v=.int i n/\k i n=true:=by
 cases v<;>first | exact⟨_,_,rfl,h⟩ | cases h
noncomputable def asAddr(a:Option Addr)(k:Nat->Nat->Bool):Bool:=@Option.rec Addr (λ_=>Bool) false (λa=>@Addr.rec (λ_=>Bool) (λb o p=>@Option.rec Nat (λ_=>Bool) (k b o) (λ_=>false) p) a) a
def Nc{a:Option Addr}{k:Nat->Nat->Bool}(h:asAddr a k=true):∃ b o,a=some ⟨b,o,none⟩/\k b o=true:=by
 rcases a with _ | ⟨b,o,_ | p⟩
 ·cases h
 ·exact⟨b,o,rfl,h⟩
 ·cases h
noncomputable def Sd(v:Value)(k:Nat->Nat->Bool):Bool:=@Value.rec (λ_=>Bool) (λ_=>Unit) (λ_=>Unit) (λ_=>false) (λi n=>false) (λ_ _=>false) (λ_ _ _=>false) (λ_=>false) (λa=>asAddr a k) (λ_ _ _=>false) (λ_=>false) (λ_=>false) (λ_ _ _ _ _=>false) false (λ_ _ _=>false) false (λ_ _=>false) (λ_ _=>false) (λ_ _=>()) () (λ_ _ _ _=>()) v
def OT{v:Value}{k:Nat->Nat->Bool}(h:Sd v k=true):∃ b o,v=.pointer (some ⟨b,o,none⟩)/\k b o=true:=by
 cases v<;>first | (obtain⟨b,o,rfl,h⟩:=Nc h;exact⟨b,o,rfl,h⟩) | cases h
noncomputable def asSlice(v:Value)(k:Option Addr->Nat->Nat->Bool):Bool:=@Value.rec (λ_=>Bool) (λ_=>Unit) (λ_=>Unit) (λ_=>false) (λi n=>false) (λ_ _=>false) (λ_ _ _=>false) (λ_=>false) (λa=>false) (λa n c=>k a n c) (λ_=>false) (λ_=>false) (λ_ _ _ _ _=>false) false (λ_ _ _=>false) false (λ_ _=>false) (λ_ _=>false) (λ_ _=>()) () (λ_ _ _ _=>()) v
def LM{v:Value}{k:Option Addr->Nat->Nat->Bool}(h:asSlice v k=true):∃ a n c,v=.slice a n c/\k a n c=true:=by
 cases v<;>first | exact⟨_,_,_,rfl,h⟩ | cases h
noncomputable def XT(v:Value)(k:ByteArray->Bool):Bool:=@Value.rec (λ_=>Bool) (λ_=>Unit) (λ_=>Unit) (λ_=>false) (λi n=>false) (λ_ _=>false) (λ_ _ _=>false) (λs=>k s) (λa=>false) (λa n c=>false) (λ_=>false) (λ_=>false) (λ_ _ _ _ _=>false) false (λ_ _ _=>false) false (λ_ _=>false) (λ_ _=>false) (λ_ _=>()) () (λ_ _ _ _=>()) v
def OU{v:Value}{k:ByteArray->Bool}(h:XT v k=true):∃ s,v=.string s/\k s=true:=by
 cases v<;>first | exact⟨_,rfl,h⟩ | cases h
noncomputable def asBool(v:Value)(k:Bool->Bool):Bool:=@Value.rec (λ_=>Bool) (λ_=>Unit) (λ_=>Unit) (λb=>k b) (λi n=>false) (λ_ _=>false) (λ_ _ _=>false) (λs=>false) (λa=>false) (λa n c=>false) (λ_=>false) (λ_=>false) (λ_ _ _ _ _=>false) false (λ_ _ _=>false) false (λ_ _=>false) (λ_ _=>false) (λ_ _=>()) () (λ_ _ _ _=>()) v
def Ux{v:Value}{k:Bool->Bool}(h:asBool v k=true):∃ b,v=.bool b/\k b=true:=by
 cases v<;>first | exact⟨_,rfl,h⟩ | cases h
noncomputable def xO(v:Value)(k:List Value->Bool):Bool:=@Value.rec (λ_=>Bool) (λ_=>Unit) (λ_=>Unit) (λb=>false) (λi n=>false) (λ_ _=>false) (λ_ _ _=>false) (λs=>false) (λa=>false) (λa n c=>false) (λ_=>false) (λ_=>false) (λ_ _ _ _ _=>false) false (λ_ _ _=>false) false (λ_ _=>false) (λa _=>k a.toList) (λ_ _=>()) () (λ_ _ _ _=>()) v
def pq{v:Value}{k:List Value->Bool}(h:xO v k=true):∃ a,v=.tuple a/\k a.toList=true:=by
 cases v<;>first | exact⟨_,rfl,h⟩ | cases h
noncomputable def IP(v:Value):List Value:=@Value.rec (λ_=>List Value) (λ_=>Unit) (λ_=>Unit) (λb=>[v]) (λi n=>[v]) (λ_ _=>[v]) (λ_ _ _=>[v]) (λs=>[v]) (λa=>[v]) (λa n c=>[v]) (λ_=>[v]) (λ_=>[v]) (λ_ _ _ _ _=>[v]) [v] (λ_ _ _=>[v]) [v] (λa _=>a.toList) (λa _=>[v]) (λ_ _=>()) () (λ_ _ _ _=>()) v
def Nd(v:Value):IP v=v.cells.toList:=by cases v<;>rfl
noncomputable def kw(n:Int)(k:Int->Bool):Bool:=fI (IntKind.i64.wrap n) k
def XU(n:Int)(k:Int->Bool):kw n k=k (IntKind.i64.wrap n):=xB _ _
def wrap_small{n:Nat}(h:n<=9223372036854775807):IntKind.i64.wrap (n:Int)=n:=by
 simp only[IntKind.wrap,IntKind.bits,IntKind.signed];have:(n:Int) % 18446744073709551616=n:=Int.emod_eq_of_lt dO dO;simp[this];omega
def pw{n:Nat}(h:n<=9223372036854775807):IntKind.i64.wrap (Int.negSucc n)=Int.negSucc n:=by
 simp only[IntKind.wrap,IntKind.bits,IntKind.signed];have:(Int.negSucc n) % 18446744073709551616=18446744073709551616+Int.negSucc n:=dO
 simp[this];omega
noncomputable def Oh(n:Nat)(k:Int->Bool):Bool:=@Bool.rec (λ_=>Bool) (kw n k) (fN n λn=>k (.ofNat n)) (Nat.ble n 9223372036854775807)
def Nf(n:Nat)(k:Int->Bool):Oh n k=k (IntKind.i64.wrap (n:Int)):=by
 unfold Oh;by_cases h:n<=9223372036854775807
 ·have:Nat.ble n 9223372036854775807=true:=by rw[CB];exact h
  rw[this,wrap_small h];exact HO n _
 ·have:Nat.ble n 9223372036854775807=false:=by rw[<- CM,CB];exact h
  rw[this];exact XU _ _
noncomputable def ML(n:Nat)(k:Int->Bool):Bool:=@Bool.rec (λ_=>Bool) (kw (.negSucc n) k) (fN n λn=>k (.negSucc n)) (Nat.ble n 9223372036854775807)
def Se(n:Nat)(k:Int->Bool):ML n k=k (IntKind.i64.wrap (.negSucc n)):=by
 unfold ML;by_cases h:n<=9223372036854775807
 ·have:Nat.ble n 9223372036854775807=true:=by rw[CB];exact h
  rw[this,pw h];exact HO n _
 ·have:Nat.ble n 9223372036854775807=false:=by rw[<- CM,CB];exact h
  rw[this];exact XU _ _
noncomputable def two(a b:Int)(pp:Nat->Nat->Bool)(pn np nn:Nat->Nat->Bool):Bool:=@Int.rec (λ_=>Bool) (λm=>@Int.rec (λ_=>Bool) (λn=>pp m n) (λn=>pn m n) b) (λm=>@Int.rec (λ_=>Bool) (λn=>np m n) (λn=>nn m n) b) a
def zI(m n:Nat)(pp pn np nn:Nat->Nat->Bool):two (.negSucc m) (.negSucc n) pp pn np nn=nn m n:=rfl
noncomputable def zJ(a b:Int)(k:Int->Bool):Bool:=two a b (λm n=>Oh (Nat.add m n) k)
 (λm n=>@Bool.rec (λ_=>Bool) (ML (Nat.sub n m) k) (Oh (Nat.sub (Nat.sub m n) 1) k) (Nat.ble (Nat.succ n) m))
 (λm n=>@Bool.rec (λ_=>Bool) (ML (Nat.sub m n) k) (Oh (Nat.sub (Nat.sub n m) 1) k) (Nat.ble (Nat.succ m) n)) (λm n=>kw (Int.negSucc m+Int.negSucc n) k)
def XX{a b:Nat}(h:a<=b):Nat.ble a b=true:=by rw[CB];exact h
def XY{a b:Nat}(h:¬ a<=b):Nat.ble a b=false:=by rw[<- CM,CB];exact h
def uY(a b:Int)(k:Int->Bool):zJ a b k=k (IntKind.i64.wrap (a+b)):=by
 cases a with
 | ofNat m=>
  cases b with
  | ofNat n=>exact (Nf (m+n) k).trans rfl
  | negSucc n=>
   show @Bool.rec (λ_=>Bool) (ML (n - m) k) (Oh (m - n - 1) k) (Nat.ble (n+1) m)=_
   by_cases h:n+1<=m
   ·rw[XX h]
    show Oh (m - n - 1) k=_
    rw[Nf];congr 2;simp only[Be];omega
   ·rw[XY h]
    show ML (n - m) k=_
    rw[Se];congr 2;simp only[Be];omega
 | negSucc m=>
  cases b with
  | ofNat n=>
   show @Bool.rec (λ_=>Bool) (ML (m - n) k) (Oh (n - m - 1) k) (Nat.ble (m+1) n)=_
   by_cases h:m+1<=n
   ·rw[XX h]
    show Oh (n - m - 1) k=_
    rw[Nf];congr 2;simp only[Be];omega
   ·rw[XY h]
    show ML (m - n) k=_
    rw[Se];congr 2;simp only[Be];omega
  | negSucc n=>
   unfold zJ;rw[zI,XU]
noncomputable def AbC(a b:Int)(k:Int->Bool):Bool:=two a b (λm n=>@Bool.rec (λ_=>Bool) (ML (Nat.sub (Nat.sub n m) 1) k) (Oh (Nat.sub m n) k) (Nat.ble n m))
 (λm n=>Oh (Nat.succ (Nat.add m n)) k) (λm n=>kw (Int.negSucc m - Int.ofNat n) k) (λm n=>kw (Int.negSucc m - Int.negSucc n) k)
def uZ(a b:Int)(k:Int->Bool):AbC a b k=k (IntKind.i64.wrap (a - b)):=by
 cases a with
 | ofNat m=>
  cases b with
  | ofNat n=>
   show @Bool.rec (λ_=>Bool) (ML (n - m - 1) k) (Oh (m - n) k) (Nat.ble n m)=_
   by_cases h:n<=m
   ·rw[XX h]
    show Oh (m - n) k=_
    rw[Nf];congr 2;simp only[Be];omega
   ·rw[XY h]
    show ML (n - m - 1) k=_
    rw[Se];congr 2;simp only[Be];omega
  | negSucc n=>
   show Oh (m+n+1) k=_
   rw[Nf];congr 2
 | negSucc m=>cases b<;>exact XU _ _
noncomputable def AbD(a b:Int)(k:Int->Bool):Bool:=two a b (λm n=>Oh (Nat.mul m n) k) (λm n=>kw (Int.ofNat m * Int.negSucc n) k) (λm n=>kw (Int.negSucc m * Int.ofNat n) k) (λm n=>kw (Int.negSucc m * Int.negSucc n) k)
def u7(a b:Int)(k:Int->Bool):AbD a b k=k (IntKind.i64.wrap (a * b)):=by
 cases a<;>cases b<;>first | exact (Nf _ k).trans rfl | exact XU _ _
noncomputable def ilt(a b:Int)(k:Bool->Bool):Bool:=two a b (λm n=>fB (Nat.ble (Nat.succ m) n) k) (λ_ _=>k false) (λ_ _=>k true) (λm n=>fB (Nat.ble (Nat.succ n) m) k)
def iR{a b:Nat}{p:Prop}[Decidable p](h:a<=b↔p):Nat.ble a b=decide p:=by
 by_cases hp:p
 ·rw[XX (h.2 hp),decide_eq_true hp]
 ·rw[XY (λe=>hp (h.1 e)),decide_eq_false hp]
def V5(a b:Int)(k:Bool->Bool):ilt a b k=k (decide (a < b)):=by
 cases a with
 | ofNat m=>
  cases b with
  | ofNat n=>exact (NL _ k).trans (by rw[iR (p:=Int.ofNat m < Int.ofNat n)];simp only[Be];omega)
  | negSucc n=>show k false=_;rw[decide_eq_false (by simp only[Be];omega)]
 | negSucc m=>
  cases b with
  | ofNat n=>show k true=_;rw[decide_eq_true (by simp only[Be];omega)]
  | negSucc n=>exact (NL _ k).trans (by rw[iR (p:=Int.negSucc m < Int.negSucc n)];omega)
noncomputable def ieq(a b:Int)(k:Bool->Bool):Bool:=two a b (λm n=>fB (Nat.beq m n) k) (λ_ _=>k false) (λ_ _=>k false) (λm n=>fB (Nat.beq m n) k)
def iS{a b:Nat}{p:Prop}[Decidable p](h:a=b↔p):Nat.beq a b=decide p:=by
 by_cases hp:p
 ·rw[RY (h.2 hp),decide_eq_true hp]
 ·rw[Me (λe=>hp (h.1 e)),decide_eq_false hp]
def px(a b:Int)(k:Bool->Bool):ieq a b k=k (a == b):=by
 have hb:(a == b)=decide (a=b):=rfl;rw[hb];cases a with
 | ofNat m=>
  cases b with
  | ofNat n=>exact (NL _ k).trans (by rw[iS (p:=Int.ofNat m=Int.ofNat n)];simp only[Be];omega)
  | negSucc n=>show k false=_;rw[decide_eq_false iN]
 | negSucc m=>
  cases b with
  | ofNat n=>show k false=_;rw[decide_eq_false iN]
  | negSucc n=>exact (NL _ k).trans (by rw[iS (p:=Int.negSucc m=Int.negSucc n)];simp)
noncomputable def eJ(i:IntKind):Bool:=@IntKind.rec (λ_=>Bool) false false false true false false false false i
noncomputable def IQ(op:BinOp)(a b:Value)(k:Value->Bool):Bool:=@Option.rec Value (λ_=>Bool) false (λv=>fV v k) (KE op a b)
noncomputable def eK(op:BinOp)(a b:Int)(k:Value->Bool):Bool:=@BinOp.rec (λ_=>Bool) (zJ a b λn=>k (.int .i64 n)) (AbC a b λn=>k (.int .i64 n)) (AbD a b λn=>k (.int .i64 n))
 (IQ .quo (.int .i64 a) (.int .i64 b) k) (IQ .rem (.int .i64 a) (.int .i64 b) k) (IQ .and (.int .i64 a) (.int .i64 b) k) (IQ .or (.int .i64 a) (.int .i64 b) k) (IQ .xor (.int .i64 a) (.int .i64 b) k) (IQ .shl (.int .i64 a) (.int .i64 b) k) (IQ .shr (.int .i64 a) (.int .i64 b) k) (IQ .andNot (.int .i64 a) (.int .i64 b) k)
 (ieq a b λr=>k (.bool r)) (ieq a b λr=>fB (not r) λr=>k (.bool r)) (ilt a b λr=>k (.bool r)) (ilt b a λr=>fB (not r) λr=>k (.bool r)) (ilt b a λr=>k (.bool r)) (ilt a b λr=>fB (not r) λr=>k (.bool r)) op
def OV{op:BinOp}{a b:Value}{k:Value->Bool}(h:IQ op a b k=true):∃ v,KE op a b=some v/\k v=true:=by
 unfold IQ at h;cases e:KE op a b with
 | none=>rw[e] at h;cases h
 | some v=>
  rw[e] at h;exact⟨v,rfl,(QB v k).symm.trans h⟩
def kH{op:BinOp}{a b:Int}{k:Value->Bool}(h:eK op a b k=true):∃ v,KE op (.int .i64 a) (.int .i64 b)=some v/\k v=true:=by
 cases op
 case add=>exact⟨_,rfl,(uY a b _).symm.trans h⟩
 case sub=>exact⟨_,rfl,(uZ a b _).symm.trans h⟩
 case mul=>exact⟨_,rfl,(u7 a b _).symm.trans h⟩
 case eql=>exact⟨_,rfl,(px a b _).symm.trans h⟩
 case neq=>exact⟨_,rfl,by
  have:=(px a b _).symm.trans h
  rwa [NL] at this⟩
 case lss=>exact⟨_,rfl,(V5 a b _).symm.trans h⟩
 case gtr=>exact⟨_,rfl,(V5 b a _).symm.trans h⟩
 case leq=>exact⟨_,rfl,by
  have:=(V5 b a _).symm.trans h;rw[NL] at this;rw[<- this];congr 2;rw[<- decide_not];exact decide_eq_decide.2 dO⟩
 case geq=>exact⟨_,rfl,by
  have:=(V5 a b _).symm.trans h;rw[NL] at this;rw[<- this];congr 2;rw[<- decide_not];exact decide_eq_decide.2 dO⟩
 all_goals exact OV h
noncomputable def iT(s t:ByteArray):Bool:=Jn s.data.toList t.data.toList
def XZ(s t:ByteArray):iT s t=(s.toList == t.toList):=by
 rw[ByteArray.toList_eq,ByteArray.toList_eq];unfold iT;generalize s.data.toList=l;generalize t.data.toList=m;cases h:Jn l m with
 | true=>rw[RZ h];simp
 | false=>
  symm;rw[beq_eq_false_iff_ne];rintro rfl;rw[VK] at h;cases h
noncomputable def AbF(op:BinOp)(a b:Value)(k:Value->Bool):Bool:=@Value.rec (λ_=>Bool) (λ_=>Unit) (λ_=>Unit) (λ_=>false) (λi m=>@Bool.rec (λ_=>Bool) (IQ op a b k) (asInt b λj n=>@Bool.rec (λ_=>Bool) (IQ op a b k) (eK op m n k) (eJ j)) (eJ i)) (λ_ _=>false) (λ_ _ _=>false) (λs=>@BinOp.rec (λ_=>Bool) (IQ .add a b k) false false false false false false false false false false (XT b λt=>fB (iT s t) λr=>k (.bool r)) (XT b λt=>fB (not (iT s t)) λr=>k (.bool r)) (IQ .lss a b k) (IQ .leq a b k) (IQ .gtr a b k) (IQ .geq a b k) op) (λa=>false) (λa n c=>false) (λ_=>false) (λ_=>false) (λ_ _ _ _ _=>false) false (λ_ _ _=>false) false (λ_ _=>false) (λ_ _=>false) (λ_ _=>()) () (λ_ _ _ _=>()) a
def iU{i:IntKind}(h:eJ i=true):i=.i64:=by cases i<;>first | rfl | cases h
def u9{op:BinOp}{a b:Value}{k:Value->Bool}(h:AbF op a b k=true):∃ v,KE op a b=some v/\k v=true:=by
 cases a with
 | int i m=>
  have h:@Bool.rec (λ_=>Bool) (IQ op (.int i m) b k) (asInt b λj n=>@Bool.rec (λ_=>Bool) (IQ op (.int i m) b k) (eK op m n k) (eJ j)) (eJ i)=true:=h;cases hi:eJ i with
  | false=>rw[hi] at h;exact OV h
  | true=>
   rw[hi] at h;obtain⟨j,n,rfl,h⟩:=Sb h;cases hj:eJ j with
   | false=>rw[hj] at h;exact OV h
   | true=>
    rw[hj] at h;rw[iU hi,iU hj];exact kH h
 | string s=>
  cases op
  case eql=>
   obtain⟨t,rfl,h'⟩:=OU h;rw[NL,XZ] at h';exact⟨_,rfl,h'⟩
  case neq=>
   obtain⟨t,rfl,h'⟩:=OU h;rw[NL,XZ] at h';exact⟨_,rfl,h'⟩
  all_goals first | exact OV h | cases h
 | _=>cases h
noncomputable def iV(n:Nat):List Value->(List Value->Bool)->Bool:=@Nat.rec (λ_=>List Value->(List Value->Bool)->Bool) (λ_ k=>k []) (λ_ ih l k=>@List.rec Value (λ_=>Bool) false (λx t _=>ih t λr=>k (x::r)) l) n
theorem X1:∀ {n:Nat} {l:List Value} {k:List Value->Bool},iV n l k=true->n<=l.length/\k (l.take n)=true:=by
 intro n
 induction n with
 | zero=>intro l k h;exact⟨AM _,h⟩
 | succ n ih=>
  intro l k h;cases l with
  | nil=>cases h
  | cons x t=>
   obtain⟨h1,h2⟩:=ih (l:=t) (k:=λr=>k (x::r)) h;exact⟨Nat.succ_le_succ h1,h2⟩
noncomputable def zK(vs:List Value):List Value->(List Value->Bool)->Bool:=@List.rec Value (λ_=>List Value->(List Value->Bool)->Bool) (λc k=>k c)
 (λv _ ih c k=>@List.rec Value (λ_=>Bool) false (λ_ t _=>@Bool.rec (λ_=>Bool) false (ih t λr=>k (v::r)) v.oneCell') c) vs
theorem vd:∀ {vs c:List Value} {k:List Value->Bool},zK vs c k=true->vs.length<=c.length/\E5 vs=true/\k (vs++c.drop vs.length)=true:=by
 intro vs
 induction vs with
 | nil=>intro c k h;exact⟨AM _,rfl,h⟩
 | cons v vs ih=>
  intro c k h;cases c with
  | nil=>cases h
  | cons x t=>
   have h:@Bool.rec (λ_=>Bool) false (zK vs t λr=>k (v::r)) v.oneCell'=true:=h;cases hv:v.oneCell' with
   | false=>rw[hv] at h;cases h
   | true=>
    rw[hv] at h;obtain⟨h1,h2,h3⟩:=ih (c:=t) (k:=λr=>k (v::r)) h;refine⟨Nat.succ_le_succ h1,?_,h3⟩;unfold E5 at h2 |-;rw[CT,hv,h2];rfl
noncomputable def sto(vs:List Value)(o:Nat):List Value->(List Value->Bool)->Bool:=@Nat.rec (λ_=>List Value->(List Value->Bool)->Bool) (zK vs) (λ_ ih c k=>@List.rec Value (λ_=>Bool) false (λx t _=>ih t λr=>k (x::r)) c) o
theorem pA{vs:List Value}:∀ {o:Nat} {c:List Value} {k:List Value->Bool},sto vs o c k=true->o+vs.length<=c.length/\E5 vs=true/\k (EO c o vs)=true:=by
 intro o
 induction o with
 | zero=>
  intro c k h;obtain⟨h1,h2,h3⟩:=vd h;refine⟨dO,h2,?_⟩;unfold EO;rw[A6,Ba,A8];exact h3
 | succ o ih=>
  intro c k h;cases c with
  | nil=>cases h
  | cons x t=>
   obtain⟨h1,h2,h3⟩:=ih (c:=t) (k:=λr=>k (x::r)) h;refine⟨by simp only[Ag];omega,h2,?_⟩;unfold EO at h3 |-;rw[show o+1+vs.length=(o+vs.length)+1 by omega,BS,Cu];exact h3
noncomputable def zL(news:List Value)(n:Nat):List Value->(List Value->Bool)->Bool:=@Nat.rec (λ_=>List Value->(List Value->Bool)->Bool) (λl k=>@List.rec Value (λ_=>Bool) (k news) (λ_ _ _=>false) l) (λ_ ih l k=>@List.rec Value (λ_=>Bool) false (λx t _=>ih t λr=>k (x::r)) l) n
theorem ve{news:List Value}:∀ {n:Nat} {l:List Value} {k:List Value->Bool},zL news n l k=true->l.length=n/\k (l++news)=true:=by
 intro n
 induction n with
 | zero=>
  intro l k h;cases l with
  | nil=>exact⟨rfl,h⟩
  | cons x t=>cases h
 | succ n ih=>
  intro l k h;cases l with
  | nil=>cases h
  | cons x t=>
   obtain⟨h1,h2⟩:=ih (l:=t) (k:=λr=>k (x::r)) h;exact⟨by rw[Ag,h1],h2⟩
noncomputable def QE(h:Tr FH)(id:Nat)(k:List Value->TypeId->Nat->Bool->List Nat->Bool):Bool:=@Option.rec FH (λ_=>Bool) false (λb=>@FH.rec (λ_=>Bool) false (λc t z m an=>k c t z m an) (λ_=>false) b) (od h id)
theorem OX{h:Tr FH}{id:Nat}{k:List Value->TypeId->Nat->Bool->List Nat->Bool}(hk:QE h id k=true)(nx:Nat):∃ c t z m an,(St.mk h nx).get id=.cells c t z m an/\k c t z m an=true:=by
 unfold QE at hk;rw[VI] at hk;unfold St.get;cases e:h.get id with
 | none=>rw[e] at hk;cases hk
 | some b=>
  rw[e] at hk;cases b with
  | gone=>cases hk
  | obj o=>cases hk
  | cells c t z m an=>exact⟨c,t,z,m,an,rfl,hk⟩
abbrev TU:=HA->T4->Tr FH->Nat->KV->Bool
noncomputable def Iu(o:Gk):TU:=λcl env h nx k=>match kop o (IK env) ⟨h,nx⟩ with
 | some a=>V1 cl a h nx k
 | none=>false
noncomputable def zO(x:Operand):TU:=λcl env h nx k=>qv env x λv=>k v h nx
noncomputable def eM(c a b:Operand):TU:=λcl env h nx k=>qv env c λv=>asBool v λq=>@Bool.rec (λ_=>Bool) (qv env b λv=>k v h nx) (qv env a λv=>k v h nx) q
noncomputable def pB(t:TypeId)(x:Operand):TU:=λcl env h nx k=>qv env x λv=>@Bool.rec (λ_=>Bool) false (fN (IP v).length λn=>IC (.cells (IP v) t n true []) 40 h nx λh=>fN (Nat.succ nx) λnx'=>k (.pointer (some ⟨nx,0,none⟩)) h nx') (E5 (IP v))
noncomputable def eN(t:TypeId)(z:Value):TU:=λcl env h nx k=>fN (IP z).length λn=>IC (.cells (IP z) t n true []) 40 h nx λh=>fN (Nat.succ nx) λnx'=>k (.pointer (some ⟨nx,0,none⟩)) h nx'
noncomputable def pC(agg:Bool)(sz:Nat)(x:Operand):TU:=λcl env h nx k=>@Nat.rec (λ_=>Bool) (Iu (.load agg 0 x) cl env h nx k) (λn _=>qv env x λp=>Sd p λid o=>QE h id λc _ _ _ _=>
 @Bool.rec (λ_=>Bool) (@Bool.rec (λ_=>Bool) false (@List.rec Value (λ_=>Bool) false (λx _ _=>k x h nx) (IZ c o)) (Nat.beq n 0)) (iV (Nat.succ n) (IZ c o) λl=>k (.agg ⟨l⟩) h nx) agg) sz
noncomputable def V6(sz:Nat)(a x:Operand):TU:=λcl env h nx k=>qv env a λp=>Sd p λid o=>qv env x λv=>QE h id λc t z m an=>@Bool.rec (λ_=>Bool) false (@Bool.rec (λ_=>Bool) false
 (sto (IP v) o c λc=>XE an (λh=>IC (.cells c t z true []) 40 h id λh=>k undef h nx) h) (Nat.beq (IP v).length sz)) m
noncomputable def V7(x:Operand):TU:=λcl env h nx k=>qv env x λv=>@Bool.rec (λ_=>Bool) (Iu (.nilck x) cl env h nx k) (k v h nx) (Sd v λ_ _=>true)
noncomputable def pD(op:BinOp)(x y:Operand):TU:=λcl env h nx k=>qv env x λa=>qv env y λb=>AbF op a b λv=>k v h nx
noncomputable def zP(off:Nat)(x:Operand):TU:=λcl env h nx k=>qv env x λp=>Sd p λid o=>fN (Nat.add o off) λo=>k (.pointer (some ⟨id,o,none⟩)) h nx
noncomputable def zQ(esz:Nat)(x i:Operand):TU:=λcl env h nx k=>qv env x λs=>asSlice s λa n c=>asAddr a λid o=>qv env i λi=>asInt i λ_ i=>@Int.rec (λ_=>Bool) (λm=>@Bool.rec (λ_=>Bool) false (fN (Nat.add o (Nat.mul m esz)) λo=>k (.pointer (some ⟨id,o,none⟩)) h nx) (Nat.ble (Nat.succ m) n)) (λ_=>false) i
noncomputable def pE(x:Operand)(i:Nat):TU:=λcl env h nx k=>qv env x λt=>xO t λl=>@List.rec Value (λ_=>Bool) false (λx _ _=>k x h nx) (IZ l i)
noncomputable def iW(env:T4)(ps:List (Nat × Nat × Operand)):List Value->(List Value->Bool)->Bool:=@List.rec (Nat × Nat × Operand) (λ_=>List Value->(List Value->Bool)->Bool) (λl k=>k l)
 (λp _ ih l k=>qv env p.2.2 λv=>@Bool.rec (λ_=>Bool) false (sto (IP v) p.1 l λl=>ih l k) (Nat.beq (IP v).length p.2.1)) ps
noncomputable def iX(z:List Value)(parts:List (Nat × Nat × Operand)):TU:=λcl env h nx k=>iW env parts z λl=>k (.agg ⟨l⟩) h nx
noncomputable def LN(e:TypeId)(esz n:Nat)(z:List Value)(parts:List (Nat × Nat × Operand)):TU:=λcl env h nx k=>@Bool.rec (λ_=>Bool) false (fS (rep n z) λl=>iW env parts l λl=>@Bool.rec (λ_=>Bool) false
 (IC (.cells l e esz true []) 40 h nx λh=>fN (Nat.succ nx) λnx'=>k (.slice (some ⟨nx,0,none⟩) n n) h nx') (E5 l)) (Nat.beq z.length esz)
noncomputable def pF(x:Operand):TU:=λcl env h nx k=>qv env x λs=>asSlice s λa n c=>k (.int .i64 (.ofNat n)) h nx
noncomputable def Sf(x:Operand):TU:=λcl env h nx k=>qv env x λs=>XT s λs=>fN s.data.toList.length λn=>k (.int .i64 (.ofNat n)) h nx
noncomputable def Sg(x i:Operand):TU:=λcl env h nx k=>qv env x λs=>XT s λs=>qv env i λi=>asInt i λ_ i=>@Int.rec (λ_=>Bool) (λm=>@List.rec UInt8 (λ_=>Bool) false (λb _ _=>fN b.toNat λn=>k (.int .u8 (.ofNat n)) h nx) (IZ s.data.toList m)) (λ_=>false) i
noncomputable def X2(env:T4)(l:List Operand):(List Value->Bool)->Bool:=@List.rec Operand (λ_=>(List Value->Bool)->Bool) (λk=>k []) (λx _ ih k=>qv env x λv=>ih λr=>k (v::r)) l
noncomputable def zR(f:FuncId)(args:Array Operand):TU:=λcl env h nx k=>X2 env args.toList λl=>cl (.func f) l h nx k
noncomputable def Sh(e:TypeId)(esz bytes:Nat)(s x:Operand):TU:=λcl env h nx k=>qv env x λxv=>asSlice xv λa m _=>@Nat.rec (λ_=>Bool) (Iu (.append e esz bytes s x) cl env h nx k) (λ_ _=>asAddr a λid2 o2=>QE h id2 λcc2 _ _ _ _=>
 iV (Nat.mul m esz) (IZ cc2 o2) λnews=>@Bool.rec (λ_=>Bool) false (qv env s λsv=>asSlice sv λb n cap=>@Option.rec Addr (λ_=>Bool)
  (@Bool.rec (λ_=>Bool) false (IC (.cells news e esz true []) 40 h nx λh=>fN (Nat.succ nx) λnx'=>k (.slice (some ⟨nx,0,none⟩) m m) h nx') (and (and (Nat.beq n 0) (Nat.beq cap 0)) (Nat.ble (Nat.mul m bytes) reach)))
  (λb=>@Bool.rec (λ_=>Bool) (Iu (.append e esz bytes s x) cl env h nx k) (asAddr (some b) λid o=>QE h id λcc t z Jz an=>@Bool.rec (λ_=>Bool) false
   (zL news (Nat.mul n esz) (IZ cc o) λc2=>fN (Nat.add n m) λn2=>IC (.cells cc t z false an) 40 h id λh=>IC (.cells c2 e z true (id::an)) 40 h nx λh=>fN (Nat.succ nx) λnx'=>k (.slice (some ⟨nx,0,none⟩) n2 n2) h nx')
   (and (and Jz (Nat.beq z esz)) (and (Nat.ble o cc.length) (Nat.ble (Nat.mul (Nat.add n m) bytes) reach)))) (Nat.beq n cap)) b)
  (and (E5 news) (and (Nat.ble 1 esz) (Nat.ble 1 bytes)))) m
def H3(o:Gk)(env:T4)(h:Tr FH)(nx:Nat)(k:KV):Prop:=∃ v S',EF o (IK env) ⟨h,nx⟩=some (v,S')/\k v S'.heap S'.next=true
section
variable {cl:HA}{env:T4}{h:Tr FH}{nx:Nat}{k:KV}
theorem vf{x:Operand}(hk:zO x cl env h nx k=true):H3 (.mv x) env h nx k:=by
 unfold zO at hk;rw[HB] at hk;exact⟨_,_,rfl,hk⟩
theorem kJ{c a b:Operand}(hk:eM c a b cl env h nx k=true):H3 (.pick c a b) env h nx k:=by
 unfold eM at hk;rw[HB,HB,HB] at hk;obtain⟨q,hq,hk⟩:=Ux hk;unfold H3;simp only[EF,hq];cases q<;>exact⟨_,_,rfl,hk⟩
theorem pG{t:TypeId}{x:Operand}(hk:pB t x cl env h nx k=true):H3 (.box t x) env h nx k:=by
 unfold pB at hk;rw[HB,Nd] at hk;unfold H3;simp only[EF];cases ha:E5 (IK env x).cells.toList with
 | false=>rw[ha] at hk;cases hk
 | true=>
  rw[ha] at hk;simp only[HO] at hk;exact⟨_,_,rfl,GI _ _ _ _ _ hk⟩
theorem kK{t:TypeId}{z:Value}(hk:eN t z cl env h nx k=true):H3 (.zero t z) env h nx k:=by
 unfold eN at hk;rw[Nd] at hk;simp only[HO] at hk;exact⟨_,_,rfl,GI _ _ _ _ _ hk⟩
theorem kL{agg:Bool}{sz:Nat}{x:Operand}(hg:Iu (.load agg 0 x) cl env h nx k=true->H3 (.load agg 0 x) env h nx k)(hk:pC agg sz x cl env h nx k=true):H3 (.load agg sz x) env h nx k:=by
 cases sz with
 | zero=>exact hg hk
 | succ n=>
  have hk:(qv env x λp=>Sd p λid o=>QE h id λc _ _ _ _=>
   @Bool.rec (λ_=>Bool) (@Bool.rec (λ_=>Bool) false (@List.rec Value (λ_=>Bool) false (λx _ _=>k x h nx) (IZ c o)) (Nat.beq n 0)) (iV (Nat.succ n) (IZ c o) λl=>k (.agg ⟨l⟩) h nx) agg)=true:=hk
  rw[HB] at hk;obtain⟨id,o,hp,hk⟩:=OT hk;obtain⟨c,t,z,m,an,hb,hk⟩:=OX hk nx;unfold H3;simp only[EF,hp,St.rd,hb];cases agg with
  | true=>
   obtain⟨h1,h2⟩:=X1 hk;rw[Im,AI] at h1;rw[Im] at h2;rw[if_pos dO];exact⟨_,_,rfl,h2⟩
  | false=>
   have hk:@Bool.rec (λ_=>Bool) false (@List.rec Value (λ_=>Bool) false (λx _ _=>k x h nx) (IZ c o)) (Nat.beq n 0)=true:=hk;by_cases hn:n=0
   ·subst hn
    have hk:@List.rec Value (λ_=>Bool) false (λx _ _=>k x h nx) (IZ c o)=true:=hk;rw[Im] at hk;cases e:c.drop o with
    | nil=>rw[e] at hk;cases hk
    | cons y l=>
     rw[e] at hk;have hl:(c.drop o).length=l.length+1:=by rw[e];rfl
     rw[AI] at hl;rw[if_pos dO];exact⟨y,_,rfl,hk⟩
   ·rw[Me hn] at hk;cases hk
theorem eO{sz:Nat}{a x:Operand}(hk:V6 sz a x cl env h nx k=true):H3 (.store sz a x) env h nx k:=by
 unfold V6 at hk;rw[HB] at hk;obtain⟨id,o,hp,hk⟩:=OT hk;rw[HB] at hk;obtain⟨c,t,z,m,an,hb,hk⟩:=OX hk nx;cases m with
 | false=>cases hk
 | true=>
  have hk:@Bool.rec (λ_=>Bool) false (sto (IP (IK env x)) o c λc=>XE an (λh=>IC (.cells c t z true []) 40 h id λh=>k undef h nx) h) (Nat.beq (IP (IK env x)).length sz)=true:=hk;rw[Nd] at hk;by_cases hs:(IK env x).cells.toList.length=sz
  ·rw[RY hs] at hk
   obtain⟨h1,h2,h3⟩:=pA hk;obtain⟨h',e1,e2⟩:=XH (nx:=nx) h3;have e3:=GI _ _ _ _ _ e2;unfold H3;simp only[EF,hp,hb];have hs':(IK env x).cells.size=sz:=by rw[<- Ca];exact hs
   rw[if_pos ⟨hs',dO,h2⟩];refine⟨_,_,rfl,?_⟩;unfold St.write;rw[e1];exact e3
  ·rw[Me hs] at hk;cases hk
theorem eP{x:Operand}(hg:Iu (.nilck x) cl env h nx k=true->H3 (.nilck x) env h nx k)(hk:V7 x cl env h nx k=true):H3 (.nilck x) env h nx k:=by
 unfold V7 at hk;rw[HB] at hk;cases ha:Sd (IK env x) λ_ _=>true with
 | false=>rw[ha] at hk;exact hg hk
 | true=>
  rw[ha] at hk;obtain⟨b,o,hp,_⟩:=OT ha;unfold H3;simp only[EF,hp];rw[hp] at hk;exact⟨_,_,rfl,hk⟩
theorem pH{op:BinOp}{x y:Operand}(hk:pD op x y cl env h nx k=true):H3 (.bin op x y) env h nx k:=by
 unfold pD at hk;rw[HB,HB] at hk;obtain⟨v,h1,h2⟩:=u9 hk;exact⟨v,⟨h,nx⟩,by simp only[EF,h1,AH],h2⟩
theorem vg{off:Nat}{x:Operand}(hk:zP off x cl env h nx k=true):H3 (.fa off x) env h nx k:=by
 unfold zP at hk;rw[HB] at hk;obtain⟨b,o,hp,hk⟩:=OT hk;rw[HO] at hk;unfold H3;simp only[EF,hp];exact⟨_,_,rfl,hk⟩
theorem vj{esz:Nat}{x i:Operand}(hk:zQ esz x i cl env h nx k=true):H3 (.ia esz x i) env h nx k:=by
 unfold zQ at hk;rw[HB] at hk;obtain⟨a,n,c,hs,hk⟩:=LM hk;obtain⟨id,o,rfl,hk2⟩:=Nc hk;clear hk;rw[HB] at hk2;obtain⟨j,i',hi,hk⟩:=Sb hk2;clear hk2;cases i' with
 | negSucc m=>cases hk
 | ofNat m=>
  have hk:@Bool.rec (λ_=>Bool) false (fN (Nat.add o (Nat.mul m esz)) λo=>k (.pointer (some ⟨id,o,none⟩)) h nx) (Nat.ble (Nat.succ m) n)=true:=hk;by_cases hm:Nat.succ m<=n
  ·rw[XX hm] at hk
   have hk:(fN (Nat.add o (Nat.mul m esz)) λo=>k (.pointer (some ⟨id,o,none⟩)) h nx)=true:=hk;rw[HO] at hk;unfold H3;simp only[EF,hs,hi];rw[if_pos ⟨by simp only[Be];omega,by simp only[Be];omega⟩];exact⟨_,_,rfl,hk⟩
  ·rw[XY hm] at hk;cases hk
theorem pI{x:Operand}{i:Nat}(hk:pE x i cl env h nx k=true):H3 (.ext x i) env h nx k:=by
 unfold pE at hk;rw[HB] at hk;obtain⟨a,ha,hk⟩:=pq hk;rw[Im] at hk;unfold H3;simp only[EF,ha];cases e:a.toList.drop i with
 | nil=>rw[e] at hk;cases hk
 | cons y l=>
  rw[e] at hk;have h2:a[i]? = some y:=by
   rw[<- BW,<- DI,e];rfl
  rw[h2];exact⟨_,_,rfl,hk⟩
theorem X3:∀ {ps:List (Nat × Nat × Operand)} {l:List Value} {k:List Value->Bool},iW env ps l k=true->∃ r,Hk l (ps.map λp=>(p.1,p.2.1,IK env p.2.2))=some r/\k r=true:=by
 intro ps
 induction ps with
 | nil=>intro l k hk;exact⟨l,rfl,hk⟩
 | cons p ps ih=>
  intro l k hk;have hk:(qv env p.2.2 λv=>@Bool.rec (λ_=>Bool) false (sto (IP v) p.1 l λl=>iW env ps l k) (Nat.beq (IP v).length p.2.1))=true:=hk;rw[HB,Nd] at hk;by_cases hs:(IK env p.2.2).cells.toList.length=p.2.1
  ·rw[RY hs] at hk
   obtain⟨h1,h2,h3⟩:=pA hk;obtain⟨r,h4,h5⟩:=ih h3;refine⟨r,?_,h5⟩;simp only[Au,Hk];have hs':(IK env p.2.2).cells.size=p.2.1:=by rw[<- Ca];exact hs
   rw[if_pos ⟨hs',dO⟩];exact h4
  ·rw[Me hs] at hk;cases hk
theorem eQ{z:List Value}{parts:List (Nat × Nat × Operand)}(hk:iX z parts cl env h nx k=true):H3 (.build z parts) env h nx k:=by
 obtain⟨r,h1,h2⟩:=X3 hk;exact⟨_,⟨h,nx⟩,by simp only[EF,h1,AH],h2⟩
theorem Rf{e:TypeId}{esz n:Nat}{z:List Value}{parts:List (Nat × Nat × Operand)}(hk:LN e esz n z parts cl env h nx k=true):H3 (.buildSlice e esz n z parts) env h nx k:=by
 unfold LN at hk;by_cases hz:z.length=esz
 ·rw[RY hz] at hk
  have hk:=(nY (rep n z) _).symm.trans hk;obtain⟨r,h1,h2⟩:=X3 hk;unfold H3;simp only[EF,if_pos hz,h1,Az];cases ha:E5 r with
  | false=>rw[ha] at h2;cases h2
  | true=>
   rw[ha] at h2;have h3:=GI _ _ _ _ _ h2;rw[HO] at h3;exact⟨_,_,rfl,h3⟩
 ·rw[Me hz] at hk;cases hk
theorem pJ{x:Operand}(hk:pF x cl env h nx k=true):H3 (.len x) env h nx k:=by
 unfold pF at hk;rw[HB] at hk;obtain⟨a,n,c,hs,hk⟩:=LM hk;unfold H3;simp only[EF,hs];exact⟨_,_,rfl,hk⟩
theorem X4{x:Operand}(hk:Sf x cl env h nx k=true):H3 (.lenStr x) env h nx k:=by
 unfold Sf at hk;rw[HB] at hk;obtain⟨s,hs,hk⟩:=OU hk;rw[HO] at hk;unfold H3;simp only[EF,hs];exact⟨_,_,rfl,hk⟩
theorem X5{x i:Operand}(hk:Sg x i cl env h nx k=true):H3 (.idxStr x i) env h nx k:=by
 unfold Sg at hk;rw[HB] at hk;obtain⟨s,hs,hk⟩:=OU hk;rw[HB] at hk;obtain⟨j,i',hi,hk⟩:=Sb hk;cases i' with
 | negSucc m=>cases hk
 | ofNat m=>
  have hk:@List.rec UInt8 (λ_=>Bool) false (λb _ _=>fN b.toNat λn=>k (.int .u8 (.ofNat n)) h nx) (IZ s.data.toList m)=true:=hk;rw[Im] at hk;unfold H3;simp only[EF,hs,hi];rw[if_pos (by simp only[Be];omega)];cases e:s.data.toList.drop m with
  | nil=>rw[e] at hk;cases hk
  | cons y l=>
   rw[e] at hk;have hk:(fN y.toNat λn=>k (.int .u8 (.ofNat n)) h nx)=true:=hk;rw[HO] at hk;have h2:s[(Int.ofNat m).toNat]? = some y:=by
    have e2:s[m]? = s.data.toList[m]?:=by rw[BW];rfl
    show s[m]? = some y
    rw[e2,<- DI,e];rfl
   rw[h2];exact⟨_,_,rfl,hk⟩
theorem X6{e:TypeId}{esz bytes:Nat}{s x:Operand}(hg:Iu (.append e esz bytes s x) cl env h nx k=true->H3 (.append e esz bytes s x) env h nx k)(hk:Sh e esz bytes s x cl env h nx k=true):H3 (.append e esz bytes s x) env h nx k:=by
 unfold Sh at hk;rw[HB] at hk;obtain⟨a,m,cm,hx,hk⟩:=LM hk;cases m with
 | zero=>exact hg hk
 | succ m=>
 obtain⟨id2,o2,ha,hk⟩:=Nc hk;obtain⟨cc2,t2,z2,m2,an2,hb2,hk⟩:=OX hk nx;obtain⟨hl,hk⟩:=X1 hk;rw[Im] at hk hl;rw[AI] at hl;have hml:Nat.mul (m+1) esz=(m+1) * esz:=rfl;rw[hml] at hk hl;generalize hnews:List.take ((m+1) * esz) (List.drop o2 cc2)=news at hk;cases hal:(E5 news && (Nat.ble 1 esz && Nat.ble 1 bytes)) with
 | false=>rw[hal] at hk;cases hk
 | true=>
 rw[hal] at hk;simp only[Al,CB] at hal;obtain⟨hal,hez,hby⟩:=hal;have hk:=(HB env s _).symm.trans hk;obtain⟨b,n,cap,hsv,hk⟩:=LM hk;have hcond:o2+(m+1) * esz<=cc2.length:=by
  have:1<=(m+1) * esz:=An hez (Nat.le_mul_of_pos_left _ dO);omega
 have hel:St.elems ⟨h,nx⟩ esz (.slice (some ⟨id2,o2,none⟩) (m+1) cm)=some news:=by
  have:St.rd ⟨h,nx⟩ id2 o2 ((m+1) * esz)=some news:=by
   simp only[St.rd,hb2];rw[if_pos hcond,hnews]
  exact this
 have hc2:(E5 news && decide (0 < esz) && decide (0 < bytes))=true:=by
  rw[hal,decide_eq_true (show 0 < esz by omega),decide_eq_true (show 0 < bytes by omega)];rfl
 rw[ha] at hx;cases b with
 | none=>
  have hk:@Bool.rec (λ_=>Bool) false (IC (.cells news e esz true []) 40 h nx λh=>fN (Nat.succ nx) λnx'=>k (.slice (some ⟨nx,0,none⟩) (m+1) (m+1)) h nx') (Nat.beq n 0 && Nat.beq cap 0 && Nat.ble (Nat.mul (m+1) bytes) reach)=true:=hk;cases hq:(Nat.beq n 0 && Nat.beq cap 0 && Nat.ble (Nat.mul (m+1) bytes) reach) with
  | false=>rw[hq] at hk;cases hk
  | true=>
   rw[hq] at hk;simp only[Al,CB] at hq;have hn:=AB hq.1.1;have hcp:=AB hq.1.2;have h3:=GI _ _ _ _ _ hk;rw[HO] at h3;have hr:(m+1) * bytes<=reach:=hq.2;rw[hn,hcp] at hsv;refine⟨.slice (some ⟨nx,0,none⟩) (m+1) (m+1),(St.mk h nx).alloc (.cells news e esz true []),?_,h3⟩;simp only[EF,hx,hsv,G2,hel,MH];rw[if_neg (Nat.succ_ne_zero m),if_pos hc2,if_pos hr]
 | some b=>
  have hk:@Bool.rec (λ_=>Bool) (Iu (.append e esz bytes s x) cl env h nx k) (asAddr (some b) λid o=>QE h id λcc t z Jz an=>@Bool.rec (λ_=>Bool) false
   (zL news (Nat.mul n esz) (IZ cc o) λc2=>fN (Nat.add n (m+1)) λn2=>IC (.cells cc t z false an) 40 h id λh=>IC (.cells c2 e z true (id::an)) 40 h nx λh=>fN (Nat.succ nx) λnx'=>k (.slice (some ⟨nx,0,none⟩) n2 n2) h nx')
   (and (and Jz (Nat.beq z esz)) (and (Nat.ble o cc.length) (Nat.ble (Nat.mul (Nat.add n (m+1)) bytes) reach)))) (Nat.beq n cap)=true:=hk
  by_cases hnc:n=cap
  ·rw[RY hnc] at hk
   obtain⟨id,o,hb,hk⟩:=Nc hk;obtain⟨cc,t,z,Jz,an,hrow,hk⟩:=OX hk nx;cases hq:(and (and Jz (Nat.beq z esz)) (and (Nat.ble o cc.length) (Nat.ble (Nat.mul (Nat.add n (m+1)) bytes) reach))) with
   | false=>rw[hq] at hk;cases hk
   | true=>
    rw[hq] at hk;simp only[Al,CB] at hq;obtain⟨⟨hmine,hz⟩,ho,hr⟩:=hq;have hz:=AB hz;obtain⟨hc,hk⟩:=ve hk;rw[Im] at hk hc;rw[AI] at hc;have hc:cc.length - o=n * esz:=hc;rw[HO] at hk;have h3:=GI _ _ _ _ _ hk;have h4:=GI _ _ _ _ _ h3;rw[HO] at h4;have hr:(n+(m+1)) * bytes<=reach:=hr;rw[hb,<- hnc] at hsv;rw[hmine] at hrow;refine⟨.slice (some ⟨nx,0,none⟩) (n+(m+1)) (n+(m+1)),(St.mk h nx).grow id cc t z an (cc.drop o++news) e,?_,h4⟩;simp only[EF,hx,hsv,G2,hel,MH];rw[if_neg (Nat.succ_ne_zero m),if_pos hc2];simp only[hrow];rw[if_pos ⟨hz,trivial,dO⟩,if_pos hr]
  ·rw[Me hnc] at hk
   exact hg hk
theorem pK:∀ (l:List Operand) (k:List Value->Bool),X2 env l k=k (l.map (IK env)):=by
 intro l
 induction l with
 | nil=>intro k;rfl
 | cons x l ih=>
  intro k;have:X2 env (x::l) k=qv env x λv=>X2 env l λr=>k (v::r):=rfl
  rw[this,HB,ih];rfl
end
noncomputable def pz(o:Gk):TU:=@Gk.rec (λ_=>TU) zO eM pB eN pC V6 V7 pD (λa b c=>Iu (.eqb a b c)) (λa b c d=>Iu (.eqf a b c d)) (λa b c=>Iu (.eqp a b c)) (λa b c=>Iu (.eqs a b c)) (λa b=>Iu (.un a b)) (λa b=>Iu (.cvi a b)) (λa=>Iu (.EX a)) (λa b=>Iu (.mkIface a b)) (λa b c=>Iu (.mkFunc a b c))
 (λa b c d e f=>Iu (.mkSlice a b c d e f)) (λa b c d=>Iu (.sl a b c d)) (λa b c=>Iu (.slStr a b c)) zP (λa b c d=>Iu (.fld a b c d)) zQ (λa b c d=>Iu (.iaArr a b c d)) (λa b c d e=>Iu (.idx a b c d e)) Sg pE iX LN pF Sf Sh (λa b c=>Iu (.copy a b c)) (λa b c=>Iu (.clr a b c)) (λa b c=>Iu (.minmax a b c)) zR (λa b=>Iu (.callv a b)) (λa b=>Iu (.extra a b)) o
section
variable {M:Nat->Gv}(hM:PR M)
include hM
theorem iY{cl:HA}(hcl:Jo M cl){o:Gk}{env:T4}{h:Tr FH}{nx:Nat}{k:KV}(hok:Fz o=true)(hρ:∀ x,E3 x=true->Sc nx (IK env x))(hw:WS ⟨h,nx⟩)
  (hk:Iu o cl env h nx k=true):∃ n v S',GL (M n) o (IK env) ⟨h,nx⟩=some (v,S')/\k v S'.heap S'.next=true:=by
 unfold Iu at hk;split at hk
 ·rename_i a ha
  exact uN hM hcl hok hρ hw ha hk
 ·cases hk
theorem X0{cl:HA}(hcl:Jo M cl){o:Gk}{env:T4}{h:Tr FH}{nx:Nat}{k:KV}(hok:Fz o=true)(hρ:∀ x,E3 x=true->Sc nx (IK env x))(hw:WS ⟨h,nx⟩)
  (hk:pz o cl env h nx k=true):∃ n v S',GL (M n) o (IK env) ⟨h,nx⟩=some (v,S')/\k v S'.heap S'.next=true:=by
 have lift:∀ o:Gk,(∀ f a,o≠.call f a)->(∀ x a,o≠.callv x a)->H3 o env h nx k->∃ n v S',GL (M n) o (IK env) ⟨h,nx⟩=some (v,S')/\k v S'.heap S'.next=true:=by
  rintro o n1 n2 ⟨v,S',h1,h2⟩;refine⟨0,v,S',?_,h2⟩;rw[<- h1];unfold GL;split
  ·exact (n1 _ _ rfl).elim
  ·exact (n2 _ _ rfl).elim
  ·rfl
 have back:∀ o:Gk,(∀ f a,o≠.call f a)->(∀ x a,o≠.callv x a)->Fz o=true->Iu o cl env h nx k=true->H3 o env h nx k:=by
  intro o n1 n2 ho hg;obtain⟨n,v,S',h1,h2⟩:=iY hM hcl ho hρ hw hg;refine⟨v,S',?_,h2⟩;rw[<- h1];unfold GL;split
  ·exact (n1 _ _ rfl).elim
  ·exact (n2 _ _ rfl).elim
  ·rfl
 cases o
 case mv x=>exact lift _ (λ_ _ e=>by cases e) (λ_ _ e=>by cases e) (vf (cl:=cl) hk)
 case pick c a b=>exact lift _ (λ_ _ e=>by cases e) (λ_ _ e=>by cases e) (kJ (cl:=cl) hk)
 case box t x=>exact lift _ (λ_ _ e=>by cases e) (λ_ _ e=>by cases e) (pG (cl:=cl) hk)
 case zero t z=>exact lift _ (λ_ _ e=>by cases e) (λ_ _ e=>by cases e) (kK (cl:=cl) hk)
 case load agg sz x=>exact lift _ (λ_ _ e=>by cases e) (λ_ _ e=>by cases e) (kL (cl:=cl) (back _ (λ_ _ e=>by cases e) (λ_ _ e=>by cases e) hok) hk)
 case store sz a x=>exact lift _ (λ_ _ e=>by cases e) (λ_ _ e=>by cases e) (eO (cl:=cl) hk)
 case nilck x=>exact lift _ (λ_ _ e=>by cases e) (λ_ _ e=>by cases e) (eP (cl:=cl) (back _ (λ_ _ e=>by cases e) (λ_ _ e=>by cases e) hok) hk)
 case bin op x y=>exact lift _ (λ_ _ e=>by cases e) (λ_ _ e=>by cases e) (pH (cl:=cl) hk)
 case fa off x=>exact lift _ (λ_ _ e=>by cases e) (λ_ _ e=>by cases e) (vg (cl:=cl) hk)
 case ia esz x i=>exact lift _ (λ_ _ e=>by cases e) (λ_ _ e=>by cases e) (vj (cl:=cl) hk)
 case ext x i=>exact lift _ (λ_ _ e=>by cases e) (λ_ _ e=>by cases e) (pI (cl:=cl) hk)
 case build z parts=>exact lift _ (λ_ _ e=>by cases e) (λ_ _ e=>by cases e) (eQ (cl:=cl) hk)
 case buildSlice e esz n z parts=>exact lift _ (λ_ _ e=>by cases e) (λ_ _ e=>by cases e) (Rf (cl:=cl) hk)
 case len x=>exact lift _ (λ_ _ e=>by cases e) (λ_ _ e=>by cases e) (pJ (cl:=cl) hk)
 case lenStr x=>exact lift _ (λ_ _ e=>by cases e) (λ_ _ e=>by cases e) (X4 (cl:=cl) hk)
 case idxStr x i=>exact lift _ (λ_ _ e=>by cases e) (λ_ _ e=>by cases e) (X5 (cl:=cl) hk)
 case append e esz bytes s x=>exact lift _ (λ_ _ e=>by cases e) (λ_ _ e=>by cases e) (X6 (cl:=cl) (back _ (λ_ _ e=>by cases e) (λ_ _ e=>by cases e) hok) hk)
 case call f args=>
  have hk:(X2 env args.toList λl=>cl (.func f) l h nx k)=true:=hk;rw[pK] at hk;have hs:=hcl _ _ _ _ _ hk;have e:(args.toList.map (IK env)).toArray=args.map (IK env):=by rw[<- C5]
  rw[e] at hs;exact hs hw (LJ hρ hok)
 all_goals exact iY hM hcl hok hρ hw hk
end
section
variable {M:Nat->Gv}(hM:PR M)
include hM
omit hM in
def KQ(k:KR)(env':Env)(S':St):Prop:=∃ ke,Ki env'=NM ke/\k ke S'.heap S'.next=true
noncomputable def py(cl:HA)(o:EW)(next:KR):KR:=λenv h nx=>
 @Bool.rec (λ_=>Bool) (oU env o.dst undef λenv=>next env h nx)
  (pz o.op cl env h nx λv h nx=>oU env o.dst v λenv=>next env h nx) (iH env o.guard)
noncomputable def zH(cl:HA)(l:List EW):T4->Tr FH->Nat->KR->Bool:=@List.rec EW (λ_=>T4->Tr FH->Nat->KR->Bool) (λenv h nx k=>k env h nx)
 (λo _ ih env h nx k=>py cl o (λenv h nx=>ih env h nx k) env h nx) l
theorem uR{cl:HA}(hcl:Jo M cl){m:Nat}:∀ (l:List EW),W6 m l=true->∀ (env:Env) (ke:T4) (S:St) (k:KR),Ki env=NM ke->m<=env.size->WS S->SE S.next env->zH cl l ke S.heap S.next k=true->
  ∃ n env' S',NA (M n) l env S=some (env',S')/\KQ k env' S':=by
 intro l
 induction l with
 | nil=>intro _ env ke S k he hm hw hs hk;exact⟨0,env,S,rfl,ke,he,hk⟩
 | cons o l ih=>
  intro hwf env ke S k he hm hw hs hk;have hk:py cl o (λenv h nx=>zH cl l env h nx k) ke S.heap S.next=true:=hk;obtain⟨h1,h2,h3⟩:=Jy hwf;unfold py at hk;rw[XD,<- he,<- OW] at hk;have hq:IK ke=env.ev:=by rw[LK,he];exact funext (LH ke)
  cases hwn:G3 o env with
  | false=>
   rw[hwn] at hk;obtain⟨ke',e1,e2⟩:=Rt hk;obtain⟨n,env',S',q1,q2⟩:=ih h3 (env.put o.dst undef) ke' S k (by rw[e1,KN _ _ _ (λt e=>Ar (h2 t e) hm),he]) (by rw[Hm];exact hm) hw (hs.put _ (Sc.undef _)) e2;exact⟨n,env',S',by simp only[NA,hwn,AW,if_false];exact q1,q2⟩
  | true=>
   rw[hwn] at hk;obtain⟨n1,v,S1,q1,q2⟩:=X0 hM hcl h1 (by rw[hq];exact hs.ev) hw hk;rw[hq] at q1
   ·skip
    obtain⟨ke',e1,e2⟩:=Rt q2;obtain⟨k1,k2,k3⟩:=Io (hM.ws n1) hw h1 hs.ev q1;obtain⟨n2,env',S',p1,p2⟩:=ih h3 (env.put o.dst v) ke' S1 k (by rw[e1,KN _ _ _ (λt e=>Ar (h2 t e) hm),he]) (by rw[Hm];exact hm) k1 ((hs.mono k2).put _ k3) e2;refine⟨max n1 n2,env',S',?_,p2⟩;simp only[NA,hwn,if_true];have q1':GL (M n1) o.op env.ev S=some (v,S1):=q1;rw[Jb (hM.mono n1 (max n1 n2) (Bi _ _)) q1'];exact PT (hM.mono n2 (max n1 n2) (Bk _ _)) _ _ _ _ p1
structure Re where
 env:T4
 h:Tr FH
 nx:Nat
 w:Bool
 v:Value
abbrev KRs:=List Re->KR
noncomputable def eL(cl:HA)(o:EW)(next:T4->Tr FH->Nat->KRs->Bool):T4->Tr FH->Nat->KRs->Bool:=λenv h nx k=>
 @Bool.rec (λ_=>Bool) (oU env o.dst undef λenv'=>next env' h nx λR=>k (⟨env,h,nx,false,undef⟩::R))
  (pz o.op cl env h nx λv h' nx'=>oU env o.dst v λenv'=>next env' h' nx' λR=>k (⟨env,h,nx,true,v⟩::R)) (iH env o.guard)
noncomputable def zE(cl:HA)(l:List EW):T4->Tr FH->Nat->KRs->Bool:=@List.rec EW (λ_=>T4->Tr FH->Nat->KRs->Bool) (λenv h nx k=>k [] env h nx)
 (λo _ ih=>eL cl o ih) l
omit hM in
def oY(kr:Re)(r:Rec):Prop:=Ki r.env=NM kr.env/\r.S=⟨kr.h,kr.nx⟩/\r.w=kr.w/\r.v=kr.v
omit hM in
def OQ:List Re->List Rec->Prop
 | [],[]=>True
 | a::l,b::m=>oY a b/\OQ l m
 | _,_=>False
theorem uP{cl:HA}(hcl:Jo M cl){m:Nat}:∀ (l:List EW),W6 m l=true->∀ (env:Env) (ke:T4) (S:St) (k:KRs),Ki env=NM ke->m<=env.size->WS S->SE S.next env->zE cl l ke S.heap S.next k=true->
  ∃ n R env' S' KR',KF (M n) l env S=some (R,env',S')/\OQ KR' R/\KQ (k KR') env' S':=by
 intro l
 induction l with
 | nil=>intro _ env ke S k he hm hw hs hk;exact⟨0,[],env,S,[],rfl,trivial,ke,he,hk⟩
 | cons o l ih=>
  intro hwf env ke S k he hm hw hs hk;have hk:eL cl o (zE cl l) ke S.heap S.next k=true:=hk;obtain⟨h1,h2,h3⟩:=Jy hwf;unfold eL at hk;rw[XD,<- he,<- OW] at hk;have hq:IK ke=env.ev:=by rw[LK,he];exact funext (LH ke)
  cases hwn:G3 o env with
  | false=>
   rw[hwn] at hk;obtain⟨ke',e1,e2⟩:=Rt hk;obtain⟨n,R,env',S',KR',q1,q2,q3⟩:=ih h3 (env.put o.dst undef) ke' S _ (by rw[e1,KN _ _ _ (λt e=>Ar (h2 t e) hm),he]) (by rw[Hm];exact hm) hw (hs.put _ (Sc.undef _)) e2;exact⟨n,⟨env,S,false,undef⟩::R,env',S',⟨ke,S.heap,S.next,false,undef⟩::KR',by simp only[KF,hwn,AW,if_false,q1,AH],⟨⟨he,rfl,rfl,rfl⟩,q2⟩,q3⟩
  | true=>
   rw[hwn] at hk;obtain⟨n1,v,S1,q1,q2⟩:=X0 hM hcl h1 (by rw[hq];exact hs.ev) hw hk;rw[hq] at q1
   ·skip
    obtain⟨ke',e1,e2⟩:=Rt q2;obtain⟨k1,k2,k3⟩:=Io (hM.ws n1) hw h1 hs.ev q1;obtain⟨n2,R,env',S',KR',p1,p2,p3⟩:=ih h3 (env.put o.dst v) ke' S1 _ (by rw[e1,KN _ _ _ (λt e=>Ar (h2 t e) hm),he]) (by rw[Hm];exact hm) k1 ((hs.mono k2).put _ k3) e2;refine⟨max n1 n2,⟨env,S,true,v⟩::R,env',S',⟨ke,S.heap,S.next,true,v⟩::KR',?_,⟨⟨he,rfl,rfl,rfl⟩,p2⟩,p3⟩;have q1':GL (M n1) o.op env.ev S=some (v,S1):=q1;simp only[KF,hwn,if_true,Jb (hM.mono n1 (max n1 n2) (Bi _ _)) q1',Az,PU (hM.mono n2 (max n1 n2) (Bk _ _)) _ _ _ _ p1,AH]
end
def oV:Value->Value->Bool
 | .bool a,.bool b=>a == b
 | .int i a,.int j b=>decide (i=j) && a == b
 | .string s,.string t=>Jn s.data.toList t.data.toList
 | .pointer a,.pointer b=>eqA a b
 | .slice a n c,.slice b m d=>eqA a b && Nat.beq n m && Nat.beq c d
 | .map (some a),.map (some b)=>Nat.beq a b
 | .map none,.map none=>true
 | .nilFunc,.nilFunc=>true
 | .nilIface,.nilIface=>true
 | _,_=>false
theorem V2{a b:Value}(h:oV a b=true):a=b:=by
 unfold oV at h;split at h
 ·simpa using h
 ·simp only[Al,decide_eq_true_eq,beq_iff_eq] at h;rw[h.1,h.2]
 ·rename_i s t
  have:=RZ h;rcases s with ⟨⟨s⟩⟩
  rcases t with ⟨⟨t⟩⟩
  simp only at this;rw[this]
 ·rw[oj h]
 ·simp only[Al] at h;rw[oj h.1.1,AB h.1.2,AB h.2]
 ·rw[AB h]
 ·rfl
 ·rfl
 ·rfl
 ·cases h
def K4(f:Value->Value->Bool):List Value->List Value->Bool
 | [],[]=>true
 | a::l,b::m=>f a b && K4 f l m
 | _,_=>false
theorem H2{f:Value->Value->Bool}(hf:∀ a b,f a b=true->a=b):∀ {l m:List Value},K4 f l m=true->l=m:=by
 intro l
 induction l with
 | nil=>intro m h;cases m<;>simp[K4] at h |-
 | cons a l ih=>
  intro m h;cases m with
  | nil=>simp[K4] at h
  | cons b m=>
   simp only[K4,Al] at h;rw[ih h.2,hf _ _ h.1]
def Rc:Value->Value->Bool
 | .func (.func f) a b,.func (.func g) c d=>Nat.beq f g && K4 oV a.toList c.toList && K4 oV b.toList d.toList
 | a,b=>oV a b
theorem Jp{a b:Value}(h:Rc a b=true):a=b:=by
 unfold Rc at h;split at h
 ·rename_i f a b g c d
  simp only[Al] at h;have h1:=AB h.1.1;have h2:=CN.1 (H2 (λ_ _=>V2) h.1.2);have h3:=CN.1 (H2 (λ_ _=>V2) h.2);rw[h2,h3];have h1:f=g:=h1;rw[h1]
 ·exact V2 h
def iI:Value->Value->Bool
 | .agg a,.agg b=>K4 Rc a.toList b.toList
 | a,b=>Rc a b
theorem Od{a b:Value}(h:iI a b=true):a=b:=by
 unfold iI at h;split at h
 ·rw[CN.1 (H2 (λ_ _=>Jp) h)]
 ·exact Jp h
def kD:List Nat->List Nat->Bool
 | [],[]=>true
 | a::l,b::m=>Nat.beq a b && kD l m
 | _,_=>false
theorem uO:∀ {l m:List Nat},kD l m=true->l=m:=by
 intro l
 induction l with
 | nil=>intro m h;cases m<;>simp[kD] at h |-
 | cons a l ih=>
  intro m h;cases m with
  | nil=>simp[kD] at h
  | cons b m=>
   simp only[kD,Al] at h;rw[ih h.2,AB h.1]
def iJ:FH->FH->Bool
 | .gone,.gone=>true
 | .cells c t z m an,.cells c' t' z' m' an'=>K4 Rc c c' && Nat.beq t t' && Nat.beq z z' && (m == m') && kD an an'
 | .obj (.map [] n),.obj (.map [] n')=>Nat.beq n n'
 | _,_=>false
theorem oW{a b:FH}(h:iJ a b=true):a=b:=by
 unfold iJ at h;split at h
 ·rfl
 ·simp only[Al,beq_iff_eq] at h
  obtain⟨⟨⟨⟨h1,h2⟩,h3⟩,h4⟩,h5⟩:=h;rw[H2 (λ_ _=>Jp) h1,uO h5,h4,AB h3];have:=AB h2;rw[show _=_ from this]
 ·rw[AB h]
 ·cases h
noncomputable def krT(R:List Re)(h:Tr FH)(nx:Nat)(q:Nat):St:=match IZ R q with
 | r::_=>⟨r.h,r.nx⟩
 | []=>⟨h,nx⟩
noncomputable def iK(o:Gk)(r:Re)(i:Nat)(full:List Re)(h:Tr FH)(nx:Nat)(q:Nat):Bool:=
 @Bool.rec (λ_=>Bool) (and
  (@Bool.rec (λ_=>Bool) true (match kop o (IK r.env) (krT full h nx q) with
   | some (.old v)=>iI v r.v
   | some (.val v)=>iI v r.v
   | _=>false) (GA o))
  (@Bool.rec (λ_=>Bool) true (@Bool.rec (λ_=>Bool) true (iJ ((krT full h nx q).get r.nx) ((krT full h nx (i+1)).get r.nx)) (Nat.ble (Nat.succ i) q)) (Hg o))) true (Nat.beq q i)
noncomputable def kE(full:List Re)(h:Tr FH)(nx:Nat):List Re->List EW->List (List Nat)->Nat->Bool
 | r::R,o::ops,st::sts,i=>and (@Bool.rec (λ_=>Bool) true (st.all (iK o.op r i full h nx)) (and r.w (or (GA o.op) (Hg o.op)))) (kE full h nx R ops sts (i+1))
 | _,_,_,_=>true
theorem oX{full:List Re}{h:Tr FH}{nx:Nat}:∀ {R:List Re} {ops:List EW} {sts:List (List Nat)} {i:Nat},kE full h nx R ops sts i=true->∀ j r o,R[j]? = some r->ops[j]? = some o->r.w=true->(GA o.op || Hg o.op)=true->∀ q∈(sts[j]?).getD [],iK o.op r (i+j) full h nx q=true:=by
 intro R
 induction R with
 | nil=>intro ops sts i _ j r o h1;simp at h1
 | cons r0 R ih=>
  intro ops sts i hk j r o h1 h2 hw ha q hq;cases ops with
  | nil=>simp at h2
  | cons o0 ops=>
   cases sts with
   | nil=>simp at hq
   | cons st sts=>
    simp only[kE,Al] at hk;cases j with
    | zero=>
     simp only[BH,AE] at h1 h2;subst h1 h2;have h3:=hk.1;rw[hw,ha] at h3;have h3:st.all (iK o0.op r0 i full h nx)=true:=h3;rw[At] at h3;simpa using h3 q (by simpa using hq)
    | succ j=>
     have:=ih hk.2 j r o ac0 ad0 hw ha q (by simpa using hq)
     rwa [show i+1+j=i+(j+1) by omega] at this
theorem OQ.at{l:List Re}{m:List Rec}(h:OQ l m):l.length=m.length/\∀ i (h1:i < l.length) (h2:i < m.length),oY l[i] m[i]:=by
 induction l generalizing m with
 | nil=>cases m with
  | nil=>exact⟨rfl,λi h=>by simp at h⟩
  | cons b m=>cases h
 | cons a l ih=>
  cases m with
  | nil=>cases h
  | cons b m=>
   obtain⟨h1,h2⟩:=ih h.2;refine⟨by simp[h1],λi h3 h4=>?_⟩;cases i with
   | zero=>exact h.1
   | succ i=>exact h2 i (by simpa using h3) (by simpa using h4)
theorem oZ{l:List Re}{m:List Rec}(hr:OQ l m)(S':St)(q:Nat):krT l S'.heap S'.next q=D7 m S' q:=by
 obtain⟨h1,h2⟩:=hr.at
 unfold krT D7;rw[Im];by_cases hq:q < l.length
 ·rw[A3 hq,Ah dO]
  exact (h2 q hq dO).2.1.symm
 ·rw[Bb dO,AO dO]
section
variable {M:Nat->Gv}(hM:PR M)
include hM
noncomputable def xH(cl:HA)(d:I0):JS:=λenv h nx k=>zE cl d.ops env h nx λR env' h' nx'=>@Bool.rec (λ_=>Bool) false (k .normal env' h' nx') (kE R h' nx' R d.ops d.stages 0)
theorem o7{cl:HA}(hcl:Jo M cl){m:Nat}{d:I0}(hwf:W6 m d.ops=true){env:Env}{ke:T4}{S:St}{k:KX}(he:Ki env=NM ke)(hm:m<=env.size)(hw:WS S)(hs:SE S.next env)(hk:xH cl d ke S.heap S.next k=true) :
  ∃ n env' S',FU (M n) d env S=some (env',S')/\KQ (k .normal) env' S':=by
 obtain⟨n,R,env',S',KR',h1,h2,ke',h3,h4⟩:=uP hM hcl d.ops hwf env ke S _ he hm hw hs hk;have h4:@Bool.rec (λ_=>Bool) false (k .normal ke' S'.heap S'.next) (kE KR' S'.heap S'.next KR' d.ops d.stages 0)=true:=h4;cases hc:kE KR' S'.heap S'.next KR' d.ops d.stages 0 with
 | false=>rw[hc] at h4;cases h4
 | true=>
 rw[hc] at h4;have hfacts:=HQ _ _ _ _ _ _ h1;have hws:=V3 (hM.ws n) d.ops hwf env S R env' S' hw hs h1;obtain⟨hlen,hrel⟩:=h2.at
 have hop:∀ i (hi:i < d.ops.length),Fz d.ops[i].op=true:=by
  intro i hi;have hwf':W6 m d.ops=true:=hwf;simp only[W6,At,Al] at hwf';exact (hwf' _ (Ao hi)).1
 have hchk:o8 d R S':=by
  refine⟨λi hi=>?_,λi r o e1 e2 hwr ha q hq=>?_⟩
  ·have hi':i < d.ops.length:=by rw[<- hfacts.1];exact hi
   obtain⟨r,a1,a2,a3,a4,a5,a6,a7⟩:=hfacts.2.2.2 i hi';have hws':=hws.2.2.2.2 i r a1;rw[a3,a2] at hws';cases hw:r.w with
   | false=>rw[(a6 hw).2];exact Af _
   | true=>exact (Io (hM.ws n) hws'.1 (hop i hi') hws'.2.ev (a5 hw)).2.1
  ·have hi:i < d.ops.length:=(Am.1 e2).1
   have hoi:d.ops[i]=o:=(Am.1 e2).2;obtain⟨r',a1,a2,a3,a4,a5,a6,a7⟩:=hfacts.2.2.2 i hi;rw[e1] at a1;obtain rfl:=Aa a1;have hx:=a5 hwr;rw[hoi,J0 ha,<- a2,<- a3] at hx;have hws':=hws.2.2.2.2 i r e1;have hlt:i < R.length:=(Am.1 e1).1;have hkr:i < KR'.length:=dO
   have hrr:=hrel i hkr hlt;have hri:R[i]=r:=(Am.1 e1).2;rw[hri] at hrr;obtain⟨r1,r2,r3,r4⟩:=hrr;have hk1':=λhha=>oX hc i KR'[i] o (Ah hkr) e2 (by rw[<- r3];exact hwr) hha q hq
   rw[A8] at hk1';by_cases hha:(GA o.op || Hg o.op)=true
   case neg=>
    simp only[Cl,not_or,CM] at hha;exact⟨λhh=>(by rw[hha.1] at hh;cases hh),λhal=>(by rw[hha.2] at hal;cases hal)⟩
   have hk1:=hk1' hha;have hev:IK KR'[i].env=r.env.ev:=by rw[LK,r1];exact funext (LH _)
   have hnx:r.S.next=KR'[i].nx:=by rw[r2]
   unfold iK at hk1;rw[oZ h2,oZ h2,hev] at hk1;by_cases hqi:q=i
   ·subst hqi
    refine⟨λhh=>⟨⟨_,by rw[<- a3];exact hx⟩,λh=>absurd h (DS _)⟩,λ_ h=>absurd h (DS _)⟩
   ·rw[Me hqi] at hk1
    have hk1:=hk1;simp only[Al] at hk1;obtain⟨k1,k2⟩:=hk1;refine⟨λhh=>?_,λhal hlt2=>?_⟩
    ·rw[hh] at k1
     have hT:=Ja hh hx;have hsc:Sc r.S.next r.v:=by
      have:=(V4 hws'.1 (by rw[<- hoi];exact hop i hi) hws'.2.ev hx).2.2;rw[hT] at this;exact this
     refine⟨?_,λ_=>hsc.XI⟩;have k1:(match kop o.op r.env.ev (D7 R S' q) with
      | some (.old v)=>iI v KR'[i].v
      | some (.val v)=>iI v KR'[i].v
      | _=>false)=true:=k1
     split at k1
     ·rename_i v hv
      have hev2:=Od k1;have:=eG (λf args e=>by rw[e] at ha;cases ha) (λx args e=>by rw[e] at ha;cases ha) hv;rw[this.1,r4,<- hev2];exact⟨_,rfl⟩
     ·rename_i v hv
      have hev2:=Od k1;have:=eG (λf args e=>by rw[e] at ha;cases ha) (λx args e=>by rw[e] at ha;cases ha) hv;rw[this.1,r4,<- hev2];exact⟨_,rfl⟩
     ·cases k1
    ·rw[hal] at k2
     have hb:Nat.ble (Nat.succ i) q=true:=by rw[CB];exact hlt2
     rw[hb] at k2;have k2:iJ ((D7 R S' q).get KR'[i].nx) ((D7 R S' (i+1)).get KR'[i].nx)=true:=k2;rw[hnx];exact oW k2
 exact⟨n,env',S',by simp only[FU,h1,Az,if_pos hchk],ke',h3,h4⟩
end
noncomputable def Adg(a b:JS):JS:=λenv h nx k=>a env h nx λe env h nx=>@Ex.rec (λ_=>Bool) (b env h nx k) (λid=>k (.exit id) env h nx) (k .ret env h nx) e
noncomputable def AbB(c:Operand)(x y:JS):JS:=λenv h nx k=>qv env c λv=>asBool v λb=>@Bool.rec (λ_=>Bool) (y env h nx k) (x env h nx k) b
noncomputable def zG(id:Nat)(c:JS):JS:=λenv h nx k=>c env h nx λe env h nx=>@Ex.rec (λ_=>Bool) (k .normal env h nx) (λi=>@Bool.rec (λ_=>Bool) (k (.exit i) env h nx) (k .normal env h nx) (Nat.beq i id)) (k .ret env h nx) e
noncomputable def xI(c:JS)(n:Nat):JS:=@Nat.rec (λ_=>JS) (λ_ _ _ _=>false) (λ_ ih env h nx k=>c env h nx λe env h nx=>@Ex.rec (λ_=>Bool) (ih env h nx k) (λid=>k (.exit id) env h nx) (k .ret env h nx) e) n
noncomputable def uQ(cl:HA)(ops:List EW):JS:=λenv h nx k=>zH cl ops env h nx (k .normal)
noncomputable def iL(n:Nat)(ke:T4):Array Value:=((List.range n).map (NM ke)).toArray
theorem o9{n:Nat}{ke:T4}{env:Env}(he:Ki env=NM ke)(hn:env.size=n):iL n ke=env:=by
 apply DT
 ·simp[iL,hn]
 ·intro i h1 h2
  simp only[iL,List.getElem_toArray,AZ,Ce,<- he,Ki,Ay];rw[Ax h2];rfl
noncomputable def eH(cl:HA)(x:Operand)(L:Kj):JS:=λenv h nx k=>qv env x λv=>match v with
 | .func (.func g) a b=>IC (.obj (.loop (iL L.n env) L none)) 40 h nx λh=>fN (Nat.succ nx) λnx1=>cl (.func g) (a.toList++.func (.yield nx) #[] #[]::b.toList) h nx1 λ_ h2 nx2=>match Xv h2 nx with
  | .obj (.loop _ _ none)=>IC .gone 40 h2 nx λh3=>k .normal env h3 nx2
  | .obj (.loop _ _ (some e))=>IC .gone 40 h2 nx λh3=>k e env h3 nx2
  | _=>false
 | _=>false
noncomputable def R8(cl:HA)(n:Nat)(c:Fh):JS:=@Fh.rec (λ_=>JS) (λenv h nx k=>k .normal env h nx) (λops=>uQ cl ops) (λd=>xH cl d) (λ_ _ a b=>Adg a b) (λc _ _ x y=>AbB c x y) (λid _ c=>zG id c) (λ_ c=>xI c n)
 (λid env h nx k=>k (.exit id) env h nx) (λenv h nx k=>k .ret env h nx) (λx L=>eH cl x L) c
section
variable {M:Nat->Gv}(hM:PR M)
include hM
omit hM in
def iM(M:Nat->Gv)(m:Nat)(c:Fh)(f:JS):Prop:=∀ (env:Env) (ke:T4) (S:St) (k:KX),Ki env=NM ke->env.size=m->WS S->SE S.next env->f ke S.heap S.next k=true->
 ∃ n e env' S',EL FU (M n) n c env S=some (e,env',S')/\KQ (k e) env' S'
theorem pa{m:Nat}{c:Fh}(hwf:Mf m c=true){f:JS}(hf:iM M m c f):∀ j,∀ (env:Env) (ke:T4) (S:St) (k:KX),Ki env=NM ke->env.size=m->WS S->SE S.next env->xI f j ke S.heap S.next k=true->
  ∃ n e env' S',Jx (EL FU (M n) n c) j env S=some (e,env',S')/\KQ (k e) env' S':=by
 intro j
 induction j with
 | zero=>intro env ke S k _ _ _ _ hk;cases hk
 | succ j ih=>
  intro env ke S k he hm hw hs hk;obtain⟨n,e,env1,S1,h1,ke1,h2,h3⟩:=hf env ke S _ he hm hw hs hk;obtain⟨q1,q2,q3,q4⟩:=IL (hM.ws n) c hwf env S _ hw hs h1;cases e with
  | normal=>
   obtain⟨n2,e2,env2,S2,h4,h5⟩:=ih env1 ke1 S1 k h2 (by rw[q4];exact hm) q1 q3 h3;refine⟨max n n2,e2,env2,S2,?_,h5⟩;simp only[Jx];rw[FJ (hM.mono n (max n n2) (Bi _ _)) (Bi _ _) _ _ _ _ h1];exact Kk (λenv S r h=>FJ (hM.mono n2 (max n n2) (Bk _ _)) (Bk _ _) _ _ _ _ h) j j (Af _) _ _ _ h4
  | exit id=>exact⟨n,.exit id,env1,S1,by simp[Jx,h1],ke1,h2,h3⟩
  | ret=>exact⟨n,.ret,env1,S1,by simp[Jx,h1],ke1,h2,h3⟩
theorem R9{cl:HA}(hcl:Jo M cl)(j:Nat){m:Nat}:∀ c:Fh,Mf m c=true->iM M m c (R8 cl j c):=by
 intro c
 induction c with
 | skip=>intro _ env ke S k he hm hw hs hk;exact⟨0,_,_,_,rfl,ke,he,hk⟩
 | exit id=>intro _ env ke S k he hm hw hs hk;exact⟨0,_,_,_,rfl,ke,he,hk⟩
 | ret=>intro _ env ke S k he hm hw hs hk;exact⟨0,_,_,_,rfl,ke,he,hk⟩
 | region ops=>
  intro hwf env ke S k he hm hw hs hk;obtain⟨n,env',S',h1,h2⟩:=uR hM hcl ops hwf env ke S (k .normal) he (Di hm.symm) hw hs hk;exact⟨n,.normal,env',S',by simp[EL,h1],h2⟩
 | draw d=>
  intro hwf env ke S k he hm hw hs hk;simp only[Mf,Al] at hwf;obtain⟨n,env',S',h1,h2⟩:=o7 hM hcl hwf.1 he (Di hm.symm) hw hs hk;exact⟨n,.normal,env',S',by simp[EL,h1],h2⟩
 | seq a b iha ihb=>
  intro hwf env ke S k he hm hw hs hk;simp only[Mf,Al] at hwf;obtain⟨n,e,env1,S1,h1,ke1,h2,h3⟩:=iha hwf.1 env ke S _ he hm hw hs hk;obtain⟨q1,q2,q3,q4⟩:=IL (hM.ws n) a hwf.1 env S _ hw hs h1;cases e with
  | normal=>
   obtain⟨n2,e2,env2,S2,h4,h5⟩:=ihb hwf.2 env1 ke1 S1 k h2 (by rw[q4];exact hm) q1 q3 h3;refine⟨max n n2,e2,env2,S2,?_,h5⟩;simp only[EL];rw[FJ (hM.mono n (max n n2) (Bi _ _)) (Bi _ _) _ _ _ _ h1];exact FJ (hM.mono n2 (max n n2) (Bk _ _)) (Bk _ _) _ _ _ _ h4
  | exit id=>exact⟨n,.exit id,env1,S1,by simp[EL,h1],ke1,h2,h3⟩
  | ret=>exact⟨n,.ret,env1,S1,by simp[EL,h1],ke1,h2,h3⟩
 | cond c x y ihx ihy=>
  intro hwf env ke S k he hm hw hs hk;simp only[Mf,Al] at hwf;have hk:(qv ke c λv=>asBool v λb=>@Bool.rec (λ_=>Bool) (R8 cl j y ke S.heap S.next k) (R8 cl j x ke S.heap S.next k) b)=true:=hk;rw[HB] at hk;obtain⟨b,hb,hk'⟩:=Ux hk;rw[LH,<- he,<- LK] at hb;cases b with
  | true=>
   obtain⟨n,e2,env2,S2,h3,h4⟩:=ihx hwf.1 env ke S k he hm hw hs hk';exact⟨n,e2,env2,S2,by simp[EL,hb,h3],h4⟩
  | false=>
   obtain⟨n,e2,env2,S2,h3,h4⟩:=ihy hwf.2 env ke S k he hm hw hs hk';exact⟨n,e2,env2,S2,by simp[EL,hb,h3],h4⟩
 | block id c ih=>
  intro hwf env ke S k he hm hw hs hk;obtain⟨n,e,env1,S1,h1,ke1,h2,h3⟩:=ih hwf env ke S _ he hm hw hs hk;cases e with
  | normal=>exact⟨n,.normal,env1,S1,by simp[EL,h1],ke1,h2,h3⟩
  | ret=>exact⟨n,.ret,env1,S1,by simp[EL,h1],ke1,h2,h3⟩
  | exit i=>
   have h3:@Bool.rec (λ_=>Bool) (k (.exit i) ke1 S1.heap S1.next) (k .normal ke1 S1.heap S1.next) (Nat.beq i id)=true:=h3;by_cases e:i=id
   ·rw[RY e] at h3
    exact⟨n,.normal,env1,S1,by simp[EL,h1,e],ke1,h2,h3⟩
   ·rw[Me e] at h3
    exact⟨n,.exit i,env1,S1,by simp[EL,h1,e],ke1,h2,h3⟩
 | loop c ih=>
  intro hwf env ke S k he hm hw hs hk;obtain⟨n,e,env',S',h1,h2⟩:=pa hM (c:=c) hwf (ih hwf) j env ke S k he hm hw hs hk;refine⟨max n j,e,env',S',?_,h2⟩;simp only[EL];exact Kk (λenv S r h=>FJ (hM.mono n (max n j) (Bi _ _)) (Bi _ _) _ _ _ _ h) j (max n j) (Bk _ _) _ _ _ h1
 | range x L=>
  intro hwf env ke S k he hm hw hs hk;simp only[Mf,Al,beq_iff_eq] at hwf;have hk:eH cl x L ke S.heap S.next k=true:=hk;unfold eH at hk;rw[HB,LH,<- he,<- LK] at hk;split at hk
  case h_2=>cases hk
  rename_i g a b hx;have hk:=GI _ _ _ _ _ hk;rw[HO,o9 he (hm.trans hwf.2.symm)] at hk;have hsx:=hs.ev x hwf.1;rw[hx] at hsx;obtain⟨k1,k2⟩:=Nb hsx;have e2:(a.toList++Value.func (.yield S.next) #[] #[]::b.toList).toArray=a++#[Value.func (.yield S.next) #[] #[]]++b:=iN
  have hc:=hcl _ _ _ _ _ hk;rw[e2] at hc;obtain⟨n,v,S2,h1,h2⟩:=hc (hw.JJ (b:=.loop env L none) hs.PB) (by
   rw[A4,A4];refine ((k1.mono (DR _)).append ?_).append (k2.mono (DR _));intro u hu;simp at hu;subst hu;exact .yield _ (Nat.lt_succ_self _))
  have h1:M n (.func g) (a++#[Value.func (.yield S.next) #[] #[]]++b) (S.alloc (.loop env L none))=some (v,S2):=h1;have h2:(match Xv S2.heap S.next with
   | .obj (.loop _ _ none)=>IC .gone 40 S2.heap S.next λh3=>k .normal ke h3 S2.next
   | .obj (.loop _ _ (some e))=>IC .gone 40 S2.heap S.next λh3=>k e ke h3 S2.next
   | _=>false)=true:=h2
  rw[Rs S2.heap S2.next] at h2;have h2:(match S2.get S.next with
   | .obj (.loop _ _ none)=>IC .gone 40 S2.heap S.next λh3=>k .normal ke h3 S2.next
   | .obj (.loop _ _ (some e))=>IC .gone 40 S2.heap S.next λh3=>k e ke h3 S2.next
   | _=>false)=true:=h2
  split at h2
  ·rename_i e3
   exact⟨n,.normal,env,S2.put S.next .gone,by simp only[EL,hx,h1,Az,e3],ke,he,GI _ _ _ _ _ h2⟩
  ·rename_i e e3
   exact⟨n,e,env,S2.put S.next .gone,by simp only[EL,hx,h1,Az,e3],ke,he,GI _ _ _ _ _ h2⟩
  ·cases h2
omit hM
noncomputable def QD(env:T4)(S:St):JK->Option Value
 | .tmp t=>some (IK env (.tmp t))
 | .cell a agg sz=>match IK env (.tmp a) with
  | .pointer (some ⟨id,o,none⟩)=>(S.rd id o sz).bind λc=>Hj agg c
  | _=>none
noncomputable def uS(l:List JK)(env:T4)(S:St):Option Value:=(l.mapM (QD env S)).map pack
theorem uT(l:List JK)(env:T4)(S:St):uS l env S=xJ l (NM env) S:=by
 unfold uS xJ;have:QD env S=uU (NM env) S:=by
  funext x;cases x with
  | tmp t=>simp only[QD,uU,LH];rfl
  | cell a agg sz=>simp only[QD,uU,LH];rfl
 rw[this]
noncomputable def XJ(l:List Value)(k:T4->Bool):Nat->T4->Bool:=@List.rec Value (λ_=>Nat->T4->Bool) (λ_ t=>k t) (λv _ ih i t=>ku v (pt i) t λt=>fN (Nat.succ i) λi=>ih i t) l
theorem XK:∀ {l:List Value} {k:T4->Bool} {i:Nat} {t:T4},XJ l k i t=true->∃ t',(∀ j:Nat,NM t' j=if i<=j/\j < i+l.length then l.getD (j - i) undef else NM t j)/\k t'=true:=by
 intro l
 induction l with
 | nil=>intro k i t h;exact⟨t,λj=>by rw[if_neg (by simp only[Ap];omega)],h⟩
 | cons v l ih=>
  intro k i t h;have h:ku v (pt i) t (λt=>fN (Nat.succ i) λi=>XJ l k i t)=true:=h;obtain⟨t1,g1,h1⟩:=VJ _ _ _ _ h;simp only[HO] at h1;obtain⟨t',e1,e2⟩:=ih h1;refine⟨t',λj=>?_,e2⟩;have g2:NM t1 j=if j=i then v else NM t j:=by
   simp only[NM,g1];by_cases e:j=i
   ·subst e;simp
   ·rw[if_neg (λh=>e (eh h)),if_neg e]
  rw[e1,g2];simp only[Ag,Nat.succ_eq_add_one];by_cases hj:j=i
  ·subst hj
   rw[if_neg dO,if_pos rfl,if_pos dO];simp
  ·by_cases hj2:i+1<=j/\j < i+1+l.length
   ·rw[if_pos hj2,if_pos dO]
    obtain⟨m,rfl⟩:∃ m,j=i+1+m:=⟨j - (i+1),dO⟩
    have e3:i+1+m - i=m+1:=dO
    have e4:i+1+m - (i+1)=m:=dO
    rw[e3,e4];simp
   ·rw[if_neg hj2,if_neg hj,if_neg dO]
noncomputable def pb(env:T4)(S:St)(l:List JK):(List Value->Bool)->Bool:=@List.rec JK (λ_=>(List Value->Bool)->Bool) (λk=>k []) (λx _ ih k=>@Option.rec Value (λ_=>Bool) false (λv=>fV v λv=>ih λr=>k (v::r)) (QD env S x)) l
theorem pd{env:T4}{S:St}:∀ {l:List JK} {k:List Value->Bool},pb env S l k=true->∃ vs,l.mapM (QD env S)=some vs/\k vs=true:=by
 intro l
 induction l with
 | nil=>intro k h;exact⟨[],rfl,h⟩
 | cons x l ih=>
  intro k h;have h:@Option.rec Value (λ_=>Bool) false (λv=>fV v λv=>pb env S l λr=>k (v::r)) (QD env S x)=true:=h;cases e:QD env S x with
  | none=>rw[e] at h;cases h
  | some v=>
   rw[e] at h;have h:=(QB v _).symm.trans h;obtain⟨vs,h1,h2⟩:=ih h;exact⟨v::vs,by rw[BF,e,h1];rfl,h2⟩
noncomputable def xK(l:List Value)(k:Value->Bool):Bool:=@List.rec Value (λ_=>Bool) (k (.tuple ⟨[]⟩)) (λx t _=>@List.rec Value (λ_=>Bool) (k x) (λ_ _ _=>k (.tuple ⟨l⟩)) t) l
theorem pf(l:List Value)(k:Value->Bool):xK l k=k (pack l):=by
 rcases l with _ | ⟨x,_ | ⟨y,t⟩⟩<;>rfl
noncomputable def kF(xf:Ed)(env:T4)(h:Tr FH)(nx:Nat)(k:KV):Bool:=pb env ⟨h,nx⟩ xf.results λvs=>xK vs λv=>k v h nx
theorem uV{xf:Ed}{env:T4}{h:Tr FH}{nx:Nat}{k:KV}(hk:kF xf env h nx k=true):∃ v,uS xf.results env ⟨h,nx⟩=some v/\k v h nx=true:=by
 obtain⟨vs,h1,h2⟩:=pd hk;rw[pf] at h2;exact⟨pack vs,by unfold uS;rw[h1];rfl,h2⟩
noncomputable def pg(cl:HA)(n:Nat)(xf:Ed)(args:List Value)(h:Tr FH)(nx:Nat)(k:KV):Bool:=@Bool.rec (λ_=>Bool) false (XJ args (λenv=>R8 cl n xf.body env h nx λe env h nx=>
 @Ex.rec (λ_=>Bool) (kF xf env h nx k) (λ_=>false) (kF xf env h nx k) e) 0 .leaf) (Nat.ble args.length xf.ntmps)
noncomputable def ph(sz:Nat)(k:T4->Bool):List Tmp->List Value->T4->Bool:=@List.rec Tmp (λ_=>List Value->T4->Bool) (λ_ t=>k t) (λp _ ih l t=>@List.rec Value (λ_=>Bool) (k t) (λv l' _=>@Bool.rec (λ_=>Bool) false (ku v (pt p) t λt=>ih l' t) (Nat.ble (Nat.succ p) sz)) l)
noncomputable def eI(P:Program)(cl:HA)(n:Nat)(id:Nat)(args:List Value)(h:Tr FH)(nx:Nat)(k:KV):Bool:=match Xv h id with
 | .obj (.loop env L none)=>@Bool.rec (λ_=>Bool) false (match XL P L with
  | some (xa,xb)=>IC .gone 40 h id λh=>XJ env.toList (λke=>ph env.size (λke=>R8 cl n xa ke h nx λe ke h nx=>@Ex.rec (λ_=>Bool) (R8 cl n xb ke h nx λe _ h nx=>@Ex.rec (λ_=>Bool)
    (IC (.obj (.loop env L none)) 40 h id λh=>k (.bool true) h nx) (λi=>IC (.obj (.loop env L (some (.exit i)))) 40 h id λh=>k (.bool false) h nx) (IC (.obj (.loop env L (some .ret))) 40 h id λh=>k (.bool false) h nx) e)
   (λ_=>false) false e) L.ps.toList args ke) 0 .leaf
  | none=>false) (and (Nat.beq args.length L.ps.size) (Nat.beq env.size L.n))
 | _=>false
noncomputable def KI(P:Program)(Fy:Tr Ed)(pr:FuncId->List Value->Tr FH->Nat->KV->Bool)(n:Nat)(fuel:Nat):HA:=@Nat.rec (λ_=>HA) (λ_ _ _ _ _=>false)
 (λ_ ih g args h nx k=>match g with
  | .func f=>match od Fy f with
   | some xf=>pg ih n xf args h nx k
   | none=>pr f args h nx k
  | .yield id=>eI P ih n id args h nx k
  | _=>false) fuel
end
section
variable {P:Program}[Prim P]
noncomputable def OR(P:Program)[Prim P](Fy:Tr Ed)(n:Nat):Gv:=EZ FU Fy.get (XL P) (Prim.run P) n
def Mg(P:Program)(Fy:Tr Ed):Prop:=∀ f xf,Fy.get f=some xf->XF0 P f=some xf
theorem OS{Fy:Tr Ed}(ht:Mg P Fy):PR (OR P Fy):=by
 refine⟨λn n' h=>G7 _ _ _ n n' h,λn=>?_⟩;unfold OR
 induction n with
 | zero=>
  intro f args S v S' h;cases f with
  | func f=>
   simp only[EZ] at h;split at h
   ·exact Prim.ws (P:=P) _ _ _ _ _ h
   ·cases h
  | yield id=>simp[EZ] at h
  | method _=>simp[EZ] at h
  | methodOf _ _=>simp[EZ] at h
  | via _ _ _ _=>simp[EZ] at h
 | succ n ih=>
  intro f args S v S' h hw hargs;cases f with
  | yield id=>exact Uy ih h hw hargs
  | method _=>simp[EZ] at h
  | methodOf _ _=>simp[EZ] at h
  | via _ _ _ _=>simp[EZ] at h
  | func f=>
  simp only[EZ] at h;split at h
  ·exact Prim.ws (P:=P) _ _ _ _ _ h hw hargs
  rename_i fn hf;simp only[Ae] at h;obtain⟨⟨e,env1,S1⟩,h1,h2⟩:=h;obtain⟨q1,q2,q3,q4⟩:=IL ih fn.body (Sa (ht _ _ hf)).1 _ S _ hw (Ru hargs _) h1;have fin:(TT fn.results env1 S1).map (λv=>(v,S1))=some (v,S')->WS S'/\S.next<=S'.next/\Sc S'.next v:=by
   intro h;simp only[TT,Ab,AA] at h;obtain⟨v0,⟨vs,hvs,rfl⟩,rfl,rfl⟩:=h;refine⟨q1,q2,?_⟩;have hall:Hl S1.next vs:=by
    intro u hu;obtain⟨i,hi,rfl⟩:=AN hu;have hl:=List.Hu hvs;exact XN q1 q3 (List.Hh hvs i dO hi)
   unfold pack;split
   ·exact hall _ iN
   ·exact .tuple _ λi hi=>hall _ iN
  cases e with
  | normal=>exact fin h2
  | ret=>exact fin h2
  | exit id=>cases h2
theorem pj{Fy:Tr Ed}(ht:Mg P Fy){cl:HA}(hcl:Jo (OR P Fy) cl){n:Nat}{f:FuncId}{xf:Ed}(hf:Fy.get f=some xf){args:List Value}{h:Tr FH}{nx:Nat}{k:KV}(hk:pg cl n xf args h nx k=true) :
  KG (OR P Fy) (.func f) args.toArray ⟨h,nx⟩ (KP k):=by
 intro hw hargs;have hk:@Bool.rec (λ_=>Bool) false (XJ args (λenv=>R8 cl n xf.body env h nx λe env h nx=>
  @Ex.rec (λ_=>Bool) (kF xf env h nx k) (λ_=>false) (kF xf env h nx k) e) 0 .leaf) (Nat.ble args.length xf.ntmps)=true:=hk
 have hle:args.length<=xf.ntmps:=by
  cases hb:Nat.ble args.length xf.ntmps with
  | true=>exact DJ hb
  | false=>rw[hb] at hk;cases hk
 rw[Nat.ble_eq_true_of_le hle] at hk;obtain⟨env,e1,e2⟩:=XK hk;have hwf:=(Sa (ht f xf hf)).1;have he:Ki (args.toArray++Array.replicate (xf.ntmps - args.toArray.size) undef)=NM env:=by
  rw[XP];funext t;rw[e1 t];simp only[mY,AM,true_and,A8,DW];split
  ·rfl
  ·rename_i ht
   rw[AY,AO (CO ht)];simp only[NM,Eu]
 obtain⟨N,e,env',S',h1,ke',h2,h3⟩:=R9 (OS ht) hcl n xf.body hwf _ env ⟨h,nx⟩ _ he (by simp only[Dq,Array.size_replicate,CZ];omega) hw (Ru hargs _) e2;have fin:kF xf ke' S'.heap S'.next k=true->∃ v,TT xf.results env' S'=some v/\KP k v S':=by
  intro hm;obtain⟨v,hv,hm⟩:=uV hm;rw[uT,<- h2,<- iO] at hv;exact⟨v,hv,hm⟩
 cases e with
 | normal=>
  obtain⟨v,hv,hq⟩:=fin h3;refine⟨N+1,v,S',?_,hq⟩;simp only[OR,EZ,hf];rw[show EL FU (EZ FU Fy.get (XL P) (Prim.run P) N) N xf.body _ _=_ from h1];simp[hv]
 | ret=>
  obtain⟨v,hv,hq⟩:=fin h3;refine⟨N+1,v,S',?_,hq⟩;simp only[OR,EZ,hf];rw[show EL FU (EZ FU Fy.get (XL P) (Prim.run P) N) N xf.body _ _=_ from h1];simp[hv]
 | exit id=>cases h3
theorem pk{sz:Nat}{k:T4->Bool}:∀ (ps:List Tmp) (l:List Value) (t:T4) (env:Env),Ki env=NM t->env.size=sz->ph sz k ps l t=true->∃ t',Ki ((ps.zip l).foldl (λt (p,v)=>t.setIfInBounds p v) env)=NM t'/\k t'=true:=by
 intro ps
 induction ps with
 | nil=>intro l t env h1 _ h2;exact⟨t,h1,h2⟩
 | cons p ps ih=>
  intro l t env h1 hz h2;cases l with
  | nil=>exact⟨t,h1,h2⟩
  | cons v l=>
   have h2:@Bool.rec (λ_=>Bool) false (ku v (pt p) t λt=>ph sz k ps l t) (Nat.ble (Nat.succ p) sz)=true:=h2;cases hb:Nat.ble (Nat.succ p) sz with
   | false=>rw[hb] at h2;cases h2
   | true=>
    rw[hb] at h2;have hp:p < sz:=DJ hb;obtain⟨t1,g1,h3⟩:=VJ _ _ _ _ h2;refine ih l t1 (env.setIfInBounds p v) ?_ (by simpa using hz) h3;funext j;have g2:NM t1 j=if j=p then v else NM t j:=by
     simp only[NM,g1];by_cases e:j=p
     ·subst e;simp
     ·rw[if_neg (λh=>e (eh h)),if_neg e]
    rw[g2,<- h1];simp only[Ki,Ay,C8];by_cases e:j=p
    ·subst e;simp[hz,hp]
    ·rw[if_neg e,if_neg (BR e)]
theorem kG{Fy:Tr Ed}(ht:Mg P Fy){cl:HA}(hcl:Jo (OR P Fy) cl){n id:Nat}{args:List Value}{h:Tr FH}{nx:Nat}{k:KV}(hk:eI P cl n id args h nx k=true):KG (OR P Fy) (.yield id) args.toArray ⟨h,nx⟩ (KP k):=by
 intro hw hargs;unfold eI at hk;rw[Rs h nx] at hk;split at hk
 case h_2=>cases hk
 rename_i env L hg;have hk:@Bool.rec (λ_=>Bool) false _ (and (Nat.beq args.length L.ps.size) (Nat.beq env.size L.n))=true:=hk;cases hb:and (Nat.beq args.length L.ps.size) (Nat.beq env.size L.n) with
 | false=>rw[hb] at hk;cases hk
 | true=>
  rw[hb] at hk;simp only[Al] at hb;have ha:=AB hb.1;have hz:=AB hb.2;split at hk
  case h_2=>cases hk
  rename_i xa xb hx;obtain⟨_,w1,w2,_⟩:=Uz hx;have hid:=hw.alive (id:=id) (by rw[hg];simp);have henv:=hw.loop id env L none hg;have hk:=GI _ _ _ _ _ hk;obtain⟨ke0,e1,hk⟩:=XK hk;have he0:Ki env=NM ke0:=by
   funext j;rw[e1 j];simp only[Ki,Ay,AM,true_and,A8,DW,Ca,AY,BW];split
   ·rfl
   ·rename_i hj
    rw[BJ (CO hj)];simp only[NM,Eu]<;>rfl
  obtain⟨ke1,he1,hk⟩:=pk L.ps.toList args ke0 env he0 rfl hk;have ef:(L.ps.zip args.toArray).foldl (λt (p,v)=>t.setIfInBounds p v) env=(L.ps.toList.zip args).foldl (λt (p,v)=>t.setIfInBounds p v) env:=by
   rw[<- Dj,Array.toList_zip]
  generalize hE:(L.ps.toList.zip args).foldl (λt (p,v)=>t.setIfInBounds p v) env=env1 at he1;have h0:SE nx env1/\env1.size=env.size:=by rw[<- hE];exact iP _ _ _ (SE.of henv) (by simpa using hargs)
  have hw1:WS ((St.mk h nx).put id .gone):=hw.Oe hid (b:=.gone) trivial;obtain⟨n1,ex,env2,S1,h1,ke2,he2,hk⟩:=R9 (OS ht) hcl n xa w1 env1 ke1 ((St.mk h nx).put id .gone) _ he1 (h0.2.trans hz) hw1 h0.1 hk;obtain⟨q1,q2,q3,q4⟩:=IL ((OS ht).ws n1) xa w1 env1 _ _ hw1 h0.1 h1;cases ex with
  | exit i=>cases hk
  | ret=>cases hk
  | normal=>
   obtain⟨n2,ex2,env3,S2,h3,ke3,_,hk⟩:=R9 (OS ht) hcl n xb w2 env2 ke2 S1 _ he2 (by rw[q4];exact h0.2.trans hz) q1 q3 hk;have hM:=(OS ht).mono;have h1':=FJ (hM n1 (max n1 n2) (Bi _ _)) (Bi n1 n2) _ _ _ _ h1;have h3':=FJ (hM n2 (max n1 n2) (Bk _ _)) (Bk n1 n2) _ _ _ _ h3;have base:∀ v S',(match ex2 with
     | .normal=>(Value.bool true,S2.put id (.loop env L none))
     | e=>(.bool false,S2.put id (.loop env L (some e))))=(v,S')->OR P Fy (max n1 n2+1) (.yield id) args.toArray ⟨h,nx⟩=some (v,S'):=by
    intro v S' hv;show Kl FU (OR P Fy (max n1 n2)) (max n1 n2) (XL P) id args.toArray ⟨h,nx⟩=_
    unfold Kl;simp only[hg,ef,hE,CZ,ha,if_true,hx,Az,h1',h3',AH];rw[<- hv];cases ex2<;>rfl
   cases ex2 with
   | normal=>exact⟨_,_,_,base _ _ rfl,GI _ _ _ _ _ hk⟩
   | exit i=>exact⟨_,_,_,base _ _ rfl,GI _ _ _ _ _ hk⟩
   | ret=>exact⟨_,_,_,base _ _ rfl,GI _ _ _ _ _ hk⟩
def HI(P:Program)[Prim P](Fy:Tr Ed)(pr:FuncId->List Value->Tr FH->Nat->KV->Bool):Prop:=∀ f l h nx k,Fy.get f=none->pr f l h nx k=true->WS ⟨h,nx⟩->Hl nx l->∃ v S',Prim.run P f l.toArray ⟨h,nx⟩=some (v,S')/\KP k v S'
theorem XQ{Fy:Tr Ed}(ht:Mg P Fy){pr:FuncId->List Value->Tr FH->Nat->KV->Bool}(hp:HI P Fy pr)(n:Nat):∀ fuel,Jo (OR P Fy) (KI P Fy pr n fuel):=by
 intro fuel
 induction fuel with
 | zero=>intro g l h nx k hk;cases hk
 | succ fuel ih=>
  intro g l h nx k hk;cases g with
  | func f=>
   have hk:(match od Fy f with
    | some xf=>pg (KI P Fy pr n fuel) n xf l h nx k
    | none=>pr f l h nx k)=true:=hk
   rw[VI] at hk;split at hk
   ·rename_i xf hf
    exact pj ht ih hf hk
   ·rename_i hf
    intro hw hs;obtain⟨v,S',h1,h2⟩:=hp f l h nx k hf hk hw (by simpa using hs);exact⟨0,v,S',by simp only[OR,EZ,hf];exact h1,h2⟩
  | yield id=>exact kG ht ih hk
  | _=>cases hk
end
theorem WS.zero:WS St.zero:=⟨λid _=>rfl,λid c t z mi an h=>(by rw[XR] at h;cases h),λid o h=>(by rw[XR] at h;cases h)⟩
inductive Of(P:Program):Nat->Nat->Tr Ed->Prop where
 | leaf (a d:Nat) (t:Tr Ed) (h:t=.leaf):Of P a d t
 | nd (a d:Nat) (o:Option Ed) (l r:Tr Ed) (h:∀ v,o=some v->XF0 P a=some v) (hl:Of P (a+d) (2 * d) l) (hr:Of P (a+2 * d) (2 * d) r):Of P a d (.node o l r)
theorem Of.node{P:Program}(a d:Nat){v:Ed}(h:XF0 P a=some v){a1 a2 d2:Nat}{l r:Tr Ed}(e1:a+d=a1)(e2:a+2 * d=a2)(e3:2 * d=d2)(hl:Of P a1 d2 l)(hr:Of P a2 d2 r):Of P a d (.node (some v) l r):=by
 subst e1 e2 e3;exact .nd a d _ l r (λw e=>by rw[<- Aa e];exact h) hl hr
theorem Of.at{P:Program}{a d:Nat}{t:Tr Ed}(h:Of P a d t):∀ n v,t.get n=some v->XF0 P (a+d * n)=some v:=by
 induction h with
 | leaf a d t h=>intro n v hv;rw[h] at hv;cases hv
 | nd a d o l r h _ _ ihl ihr=>
  intro n v hv;rw[Tr.get] at hv;split at hv
  ·rename_i h0;subst h0;simpa using h v hv
  ·split at hv
   ·rename_i h0 h1
    have:=ihl _ _ hv;have e:a+d+2 * d * (n / 2)=a+d * n:=by
     have:n=2 * (n / 2)+1:=dO
     generalize n / 2=m at *;subst this;rw[Nat.mul_add,Cb,Nat.mul_comm 2 d,Nat.mul_assoc];omega
    rwa [e] at this
   ·rename_i h0 h1
    have:=ihr _ _ hv;have e:a+2 * d+2 * d * (n / 2 - 1)=a+d * n:=by
     obtain⟨m,rfl⟩:∃ m,n=2 * m+2:=⟨n / 2 - 1,dO⟩
     have:(2 * m+2) / 2 - 1=m:=dO
     rw[this,Nat.mul_add,Nat.mul_comm 2 d,Nat.mul_assoc];omega
    rwa [e] at this
theorem Of.get{P:Program}{t:Tr Ed}(h:Of P 0 1 t){f:FuncId}{xf:Ed}(e:t.get f=some xf):XF0 P f=some xf:=by
 have:=h.at f xf e;simpa using this
theorem Rel.one{φ:Es}{v v':Value}(hf:GN v=true)(h:Rel φ v v')(ψ:Es):Rel ψ v v':=by
 cases h<;>first | (simp[GN] at hf;done) | constructor
section
variable {B:Nat}{φ φ2:Es}{S S2:St}{w w2:World}
theorem E6.PS(hk:E6 w.heap.size (Es.zero φ.Fy) St.zero w φ2 S2 w2):∀ b,b < w.heap.size->w2.heap[b]? = w.heap[b]?:=λb hb=>hk.D8 b hb λid s h=>(Es.LL h).elim
theorem E0.xM(hs:E0 B φ S w)(hsz:w.heap.size<=w2.heap.size)(hh:∀ b,b < w.heap.size->w2.heap[b]? = w.heap[b]?):E0 B φ S w2:=by
 have hb:∀ {id s},φ id=some s->w2.heap[s.b]? = w.heap[s.b]?:=λh=>hh _ (hs.dom _ _ h).2
 refine⟨λid s h=>⟨(hs.dom id s h).1,Ar (hs.dom id s h).2 hsz⟩,hs.gone,λid s c t sz m an h hg=>?_,hs.apart,hs.loops.1.of (Af _) rfl (λb o _ _ e=>by rw[hh b (AR.1 e).1];exact e),λid s o h hg=>?_⟩
 ·obtain⟨a1,a2,a3,cs,t',a4,a5,a6⟩:=hs.IM id s c t sz m an h hg
  exact⟨a1,a2,a3,cs,t',a4.same (hb h),a5,a6⟩
 ·obtain⟨a1,⟨r,a2,a3⟩,a4⟩:=hs.loops.2 id s o h hg
  exact⟨a1,⟨r,by rw[hb h];exact a2,a3⟩,a4⟩
theorem uW(hs:E0 B φ S w)(hs2:E0 w.heap.size φ2 S2 w2)(hk:E6 w.heap.size (Es.zero φ.Fy) St.zero w φ2 S2 w2):E0 B φ S w2/\E6 B φ S w φ S w2:=
 ⟨hs.xM hk.size hk.PS,⟨Es.le.refl _,λ_ _ h h'=>(A0 _ (h.symm.trans h')).elim,λ_ _ h h'=>(A0 _ (h.symm.trans h')).elim,hk.size,Af _,hk.os,hk.tape,hk.output,λb hb _=>hk.PS b hb,λid s h1 h2 _=>⟨id,s,h1,rfl,h2⟩⟩⟩
theorem iQ(hB:B<=w.heap.size)(hs:E0 B φ S w)(hs2:E0 w.heap.size φ2 S2 w2)(hk:E6 w.heap.size (Es.zero φ.Fy) St.zero w φ2 S2 w2){k:Nat}{s0:MK}{c0:List Value}{t0:TypeId}{z0:Nat}{an0:List Nat}(hks:φ2 k=some s0)
  (hkg:S2.get k=.cells c0 t0 z0 true an0) (hc:EC c0=true) (t1:TypeId) :
  E0 B (φ.add S.next s0) (S.alloc (.cells c0 t1 z0 true [])) w2/\E6 B φ S w (φ.add S.next s0) (S.alloc (.cells c0 t1 z0 true [])) w2:=by
 obtain⟨b0,_⟩:=uW hs hs2 hk;have hnone:φ S.next=none:=hs.fresh;have hnew0:w.heap.size<=s0.b:=(hs2.IM k s0 c0 t0 z0 true an0 hks hkg).2.2.1 rfl;have hle:=Es.Og φ S.next s0 hnone;have hold:∀ {id s},(φ.add S.next s0) id=some s->id≠S.next->φ id=some s:=λh hne=>by
  rw[Es.Ep _ _ hne] at h;exact h
 have hnew:∀ {s},(φ.add S.next s0) S.next=some s->s=s0:=λh=>by
  rw[Es.add_same] at h;exact (Aa h).symm
 have hga:∀ id,id≠S.next->(S.alloc (.cells c0 t1 z0 true [])).get id=S.get id:=λid h=>by rw[St.D6,if_neg h]
 have hgs:(S.alloc (.cells c0 t1 z0 true [])).get S.next=.cells c0 t1 z0 true []:=by rw[St.D6,if_pos rfl]
 have hkd:=hs2.dom k s0 hks;have hob:∀ {id s},φ id=some s->s.b < w.heap.size:=λh=>(hs.dom _ _ h).2
 refine⟨⟨λid s h=>?_,λid h=>?_,λid s c t sz m an h hg=>?_,λid s c t sz an h hg j sj cj tj zj mj aj hj hj1 hj2 hb=>?_,b0.loops.1,λid s o h hg=>?_⟩,
  ⟨hle,λid s h h'=>?_,λid s h h'=>?_,hk.size,iN,hk.os,hk.tape,hk.output,λb hb _=>hk.PS b hb,λid s h1 h2 h3=>?_⟩⟩
 ·by_cases e:id=S.next
  ·subst e;obtain rfl:=hnew h;exact⟨iN,hkd.2⟩
  ·have:=b0.dom id s (hold h e);exact⟨aa0,this.2⟩
 ·rw[hga id (by simp at h;omega)];exact hs.gone id (by simp at h;omega)
 ·by_cases e:id=S.next
  ·subst e
   obtain rfl:=hnew h;rw[hgs] at hg;injection hg with e1 e2 e3 e4 e5
   subst e1 e2 e3 e4 e5;obtain⟨a1,a2,a3,cs,t',a4,a5,a6⟩:=hs2.IM k s _ _ _ _ _ hks hkg;refine⟨a1,a2,λh=>An hB (a3 h),cs,t',a4,a5,λi v hv=>?_⟩;obtain⟨q1,v',q2,q3⟩:=a6 i v hv;have hf:GN v=true:=by simp only[EC,At] at hc;exact hc v (AF hv)
   exact⟨q1,v',q2,Rel.one hf q3 _⟩
  ·rw[hga id e] at hg
   obtain⟨a1,a2,a3,cs,t',a4,a5,a6⟩:=b0.IM id s c t sz m an (hold h e) hg;refine⟨a1,a2,a3,cs,t',a4,a5,λi v hv=>?_⟩;obtain⟨q1,v',q2,q3⟩:=a6 i v hv;exact⟨q1,v',q2,q3.mono hle⟩
 ·by_cases e:id=S.next
  ·subst e
   obtain rfl:=hnew h;have h1:=hob (hold hj1 hj);omega
  ·rw[hga id e] at hg
   have h1:=hold h e;by_cases e':j=S.next
   ·subst e'
    obtain rfl:=hnew hj1;have:=hob h1;omega
   ·rw[hga j e'] at hj2
    exact b0.apart id s c t sz an h1 hg j sj cj tj zj mj aj hj (hold hj1 e') hj2 hb
 ·by_cases e:id=S.next
  ·subst e;rw[hgs] at hg;cases hg
  ·rw[hga id e] at hg
   obtain⟨a1,⟨r,a2,a3⟩,a4⟩:=b0.loops.2 id s o (hold h e) hg;refine⟨a1,⟨r,a2,a3.mono hle⟩,λj sj o' hj ej ej2=>?_⟩;by_cases e':j=S.next
   ·subst e';rw[hgs] at ej2;cases ej2
   ·rw[hga j e'] at ej2
    exact a4 j sj o' hj (hold ej e') ej2
 ·by_cases e:id=S.next
  ·subst e
   obtain rfl:=hnew h;exact .inl hnew0
  ·rw[hold h e] at h';cases h'
 ·by_cases e:id=S.next
  ·omega
  ·rw[hold h e] at h';cases h'
 ·by_cases e:id=S.next
  ·subst e
   obtain rfl:=hnew h1;omega
  ·rw[hga id e] at h2
   exact⟨id,s,hold h1 e,rfl,h2⟩
end
section
variable {P:Program}[Prim P]
noncomputable def isTrue(v:Value):Bool:=match v with
 | .bool b=>b
 | _=>false
end
def J1{φ:Es}{v v':Value}(hf:GN v=true)(h:Rel φ v v'):v'=v:=by
 cases h<;>first | rfl | (simp[GN] at hf;done)
def UA{φ:Es}{a a':Array Value}(hf:EC a.toList=true)(hs:a.size=a'.size)(h:∀ i (h:i < a.size) (h':i < a'.size),Rel φ a[i] a'[i]):a'=a:=by
 simp only[EC,At] at hf;apply DT hs.symm;intro i h1 h2;exact J1 (hf _ iN) (h i h2 h1)
def Li{φ:Es}{v v':Value}(hf:FB v=true)(h:Rel φ v v'):v'=v:=by
 cases h with
 | agg a a' hs h=>rw[UA hf hs h]
 | tuple a a' hs h=>rw[UA hf hs h]
 | _=>exact J1 (φ:=φ) hf (by constructor<;>assumption)
def IE:Value->Bool
 | .tuple a=>a.toList.all FB
 | v=>FB v
def UB{φ:Es}{v v':Value}(hf:IE v=true)(h:Rel φ v v'):v'=v:=by
 cases h with
 | tuple a a' hs h=>
  have e:a'=a:=by
   apply DT hs.symm;intro i h1 h2;simp only[IE,At] at hf;exact Li (hf _ iN) (h i h2 h1)
  rw[e]
 | _=>exact Li (φ:=φ) hf (by constructor<;>assumption)
def UC{v:Value}(hf:IE v=true)(φ:Es):Rel φ v v:=by
 unfold IE at hf;split at hf
 ·rename_i a
  simp only[At] at hf;exact .tuple a a rfl λi h _=>HE (hf _ iN) φ
 ·exact HE hf φ
def Sc.IE{m:Nat}{v:Value}(h:IE v=true):Sc m v:=by
 unfold YtkkpchcniicimaaGreat.IE at h;split at h
 ·simp only[At] at h
  exact .tuple _ λi hi=>Sc.FB (h _ iN)
 ·exact Sc.FB h
def Si{φ:Es}{args args':Array Value}(hf:args.toList.all FB=true)(h:Gb φ args args'):args'=args:=by
 apply DT h.1.symm;intro i h1 h2;simp only[At] at hf;exact Li (hf _ iN) (h.2 i h2 h1)
def sZ:Value->Value->Bool
 | .tuple a,.tuple b=>K4 iI a.toList b.toList
 | a,b=>iI a b
def pL{a b:Value}(h:sZ a b=true):a=b:=by
 unfold sZ at h;split at h
 ·rw[CN.1 (H2 (λ_ _=>Od) h)]
 ·exact Od h
section
variable {B:Nat}{φ φ1 φ2:Es}{S S1 S2:St}{w w2:World}
def NP(φ1:Es)(S1:St):Prop:=∀ id s,φ1 id=some s->(S1.get id).wr=false
def E6.xP(hk:E6 w.heap.size φ1 S1 w φ2 S2 w2)(h0:NP φ1 S1):∀ b,b < w.heap.size->w2.heap[b]? = w.heap[b]?:=λb hb=>hk.D8 b hb λid s h _=>h0 id s h
def iZ(hs:E0 B φ S w)(hk:E6 w.heap.size φ1 S1 w φ2 S2 w2)(h0:NP φ1 S1):E0 B φ S w2/\E6 B φ S w φ S w2:=
 ⟨hs.xM hk.size (hk.xP h0),⟨Es.le.refl _,λ_ _ h h'=>(A0 _ (h.symm.trans h')).elim,λ_ _ h h'=>(A0 _ (h.symm.trans h')).elim,hk.size,Af _,hk.os,hk.tape,hk.output,λb hb _=>hk.xP h0 b hb,λid s h1 h2 _=>⟨id,s,h1,rfl,h2⟩⟩⟩
def TN(c:List Value)(t:TypeId)(z:Nat):St:=St.zero.alloc (.cells c t z false [])
def kM(t:Option Nat)(s:MK):Es:=(Es.zero t).add 0 s
def OY{t:Option Nat}{s s':MK}{id:Nat}(h:(kM t s) id=some s'):id=0/\s'=s:=by
 unfold kM at h;rw[Es.PV] at h;split at h
 ·rename_i e;exact⟨e,(Aa h).symm⟩
 ·exact (Es.LL h).elim
def JA(c:List Value)(t:TypeId)(z:Nat)(id:Nat):(TN c t z).get id=if id=0 then .cells c t z false [] else .gone:=by
 unfold TN;rw[St.D6];rfl
def NP.row{t:Option Nat}{s:MK}{c:List Value}{t':TypeId}{z:Nat}:NP (kM t s) (TN c t' z):=λid s' h=>by
 obtain⟨rfl,_⟩:=OY h;rw[JA,if_pos rfl];rfl
def NP.zero{t:Option Nat}:NP (Es.zero t) St.zero:=λid s h=>(Es.LL h).elim
def WS.row{c:List Value}{t:TypeId}{z:Nat}(hc:EC c=true):WS (TN c t z):=by
 refine⟨λid h=>?_,λid c' t' z' mi an h=>?_,λid o h=>?_⟩
 ·have:1<=id:=h
  rw[JA,if_neg dO]
 ·rw[JA] at h
  split at h
  ·cases h;exact Hl.flat hc
  ·cases h
 ·rw[JA] at h
  split at h<;>cases h
def eR{b:FH}{c:List Value}{t:TypeId}{z:Nat}(h:b.look=some (c,t,z)):∃ m an,b=.cells c t z m an:=by
 cases b with
 | cells c' t' z' m an=>
  simp only[FH.look,AE,AA] at h;obtain⟨rfl,rfl,rfl⟩:=h;exact⟨m,an,rfl⟩
 | _=>simp[FH.look] at h
def E0.row(hs:E0 B φ S w)(hB:B<=w.heap.size){id:Nat}{s:MK}(h:φ id=some s){cc:List Value}{t:TypeId}{z:Nat}(hl:(S.get id).look=some (cc,t,z)){o n:Nat}(ho:o+n<=cc.length)(hf:EC ((cc.drop o).take n)=true) :
  E0 w.heap.size (kM φ.Fy ⟨s.b,s.base+o,s.ext - o,s.sz⟩) (TN ((cc.drop o).take n) t z) w:=by
 obtain⟨m,an,hg⟩:=eR hl;obtain⟨a1,a2,a3,cs,t',a4,a5,a6⟩:=hs.IM id s _ _ _ _ _ h hg;have hd:=(hs.dom id s h).2;refine⟨λj sj hj=>?_,λj hj=>?_,λj sj c' t2 sz m' an' hj hgj=>?_,λj sj c' t2 sz an' hj hgj=>?_,hs.loops.1.of hB rfl (λ_ _ _ _ e=>e),λj sj ob hj hgj=>?_⟩
 ·obtain⟨rfl,rfl⟩:=OY hj
  exact⟨by show 0 < 1;omega,hd⟩
 ·have:1<=j:=hj
  rw[JA,if_neg dO]
 ·obtain⟨rfl,rfl⟩:=OY hj
  rw[JA,if_pos rfl] at hgj;cases hgj;refine⟨a1,?_,(λh=>by cases h),cs,t',a4.still,?_,λi v hv=>?_⟩
  ·rw[As,AI];show min n (cc.length - o)<=s.ext - o;omega
  ·show s.base+o+(s.ext - o)<=cs.size;omega
  ·have hfv:GN v=true:=by simp only[EC,At] at hf;exact hf v (AF hv)
   have hv2:cc[o+i]? = some v:=by
    rw[BZ] at hv;split at hv
    ·rw[CU] at hv;exact hv
    ·cases hv
   obtain⟨q1,v',q2,q3⟩:=a6 (o+i) v hv2;exact⟨q1,v',by rw[<- q2];show cs[s.base+o+i]? = _;rw[Bv],Rel.one hfv q3 _⟩
 ·obtain⟨rfl,rfl⟩:=OY hj
  rw[JA,if_pos rfl] at hgj;cases hgj
 ·obtain⟨rfl,rfl⟩:=OY hj
  rw[JA,if_pos rfl] at hgj;cases hgj
end
section
variable {P:Program}[Prim P]
def Sj(hm:P.follows .mixedOrders=true){Fy:Tr Ed}(ht:Mg P Fy){pr:FuncId->List Value->Tr FH->Nat->KV->Bool}(hp:HI P Fy pr){n fuel:Nat}{f:FuncId}{c:List Value}{t:TypeId}{z:Nat}{args:List Value}(hc:EC c=true)(hsc:Hl 1 args){k:KV}(hk:KI P Fy pr n fuel (.func f) args (TN c t z).heap 1 k=true) :
  (∃ fn,P.funcs[f]? = some fn/\fn.body.isSome=true/\(fn.name == "runtime.NumGoroutine")=false)/\∀ w φ1 args',E0 w.heap.size φ1 (TN c t z) w->Gb φ1 args.toArray args'->∃ v S',k v S'.heap S'.next=true/\Calls P f args' w (Mv w.heap.size φ1 (TN c t z) w v S'):=by
 obtain⟨N,v,S',h1,h2⟩:=XQ ht hp n fuel (.func f) args _ _ k hk (WS.row hc) hsc;have hs:∀ B,IS P B (OR P Fy N):=λB=>LO (Rv hm) (λf xf h=>(Sa (ht f xf h)).2) (λL x h=>(Uz h).1) (Prim.ok (P:=P) B) N
 exact⟨(hs 0 (.func f) _ _ _ _ h1).1,λw φ1 args' hsim hr=>⟨v,S',h2,(hs w.heap.size (.func f) _ _ _ _ h1).2 φ1 w _ hr hsim (Af _)⟩⟩
def KO(hm:P.follows .mixedOrders=true){Fy:Tr Ed}(ht:Mg P Fy){pr:FuncId->List Value->Tr FH->Nat->KV->Bool}(hp:HI P Fy pr){n fuel:Nat}{f:FuncId}{args:List Value}(hfl:args.all FB=true){k:KV}(hk:KI P Fy pr n fuel (.func f) args .leaf 0 k=true) :
  (∃ fn,P.funcs[f]? = some fn/\fn.body.isSome=true/\(fn.name == "runtime.NumGoroutine")=false)/\∀ w t,Oi w.heap.size (Es.zero t) w->∃ v S',k v S'.heap S'.next=true/\Calls P f args.toArray w (Mv w.heap.size (Es.zero t) St.zero w v S'):=by
 have hfl':=hfl;simp only[At] at hfl';obtain⟨N,v,S',h1,h2⟩:=XQ ht hp n fuel (.func f) args .leaf 0 k hk WS.zero (λx hx=>Sc.FB (hfl' x hx));have hs:∀ B,IS P B (OR P Fy N):=λB=>LO (Rv hm) (λf xf h=>(Sa (ht f xf h)).2) (λL x h=>(Uz h).1) (Prim.ok (P:=P) B) N
 refine⟨(hs 0 (.func f) _ _ _ _ h1).1,λw t htab=>⟨v,S',h2,?_⟩⟩;have hr:Gb (Es.zero t) args.toArray args.toArray:=⟨rfl,λi h h'=>HE (hfl' _ iN) _⟩
 exact (hs w.heap.size (.func f) _ _ _ _ h1).2 (Es.zero t) w _ hr (KS.Fy htab).sim (Af _)
structure mX(P:Program)(f:FuncId)(args:List Value)(v:Value):Prop where
 fn:∃ fn,P.funcs[f]? = some fn/\fn.body.isSome=true/\(fn.name == "runtime.NumGoroutine")=false
 flat:args.all FB=true
 res:IE v=true
 calls:∀ B φ S w,E0 B φ S w->B<=w.heap.size->Calls P f args.toArray w (Mv B φ S w v S)
def mX.of(hm:P.follows .mixedOrders=true){Fy:Tr Ed}(ht:Mg P Fy){pr:FuncId->List Value->Tr FH->Nat->KV->Bool}(hp:HI P Fy pr){n fuel:Nat}{f:FuncId}{args:List Value}{v:Value}(hfl:args.all FB=true)(hv:IE v=true)(hk:KI P Fy pr n fuel (.func f) args .leaf 0 (λu _ _=>sZ u v)=true):mX P f args v:=by
 obtain⟨h1,h2⟩:=KO hm ht hp hfl hk;refine⟨h1,hfl,hv,λB φ S w hs hB=>?_⟩;obtain⟨u,S2,h3,h4⟩:=h2 w φ.Fy (hs.loops.1.of hB rfl λ_ _ _ _ e=>e);refine h4.mono ?_;rintro e w' ⟨φ2,v',rfl,p1,p2,p3⟩;obtain rfl:=pL h3;obtain rfl:=UB hv p1;obtain⟨q1,q2⟩:=iZ hs p3 NP.zero;exact⟨φ,_,rfl,UC hv _,q1,q2⟩
def pM(n:Nat)(c rest ex:List Value)(S:St)(args:List Value):Prop:=
 ∃ a,args=.agg a::ex/\((∃ id o c0 cc t z,a.toList=.slice (some ⟨id,o,none⟩) n c0::rest/\(S.get id).look=some (cc,t,z)/\o+c.length<=cc.length/\(cc.drop o).take c.length=c)\/(c=[]/\n=0/\a.toList=.slice none 0 0::rest))
structure E1(P:Program)(f:FuncId)(n:Nat)(c rest ex:List Value)(v:Value):Prop where
 fn:∃ fn,P.funcs[f]? = some fn/\fn.body.isSome=true/\(fn.name == "runtime.NumGoroutine")=false
 res:IE v=true
 calls:∀ B φ S w args args',pM n c rest ex S args->Gb φ args.toArray args'->E0 B φ S w->B<=w.heap.size->Calls P f args' w (Mv B φ S w v S)
def E1.of(hm:P.follows .mixedOrders=true){Fy:Tr Ed}(ht:Mg P Fy){pr:FuncId->List Value->Tr FH->Nat->KV->Bool}(hp:HI P Fy pr){m fuel:Nat}{f:FuncId}{n:Nat}{c rest ex:List Value}{v:Value}(hex:ex.all FB=true)(hc:EC c=true)(hr:EC rest=true)(hv:IE v=true)
  (hk:∀ t z,KI P Fy pr m fuel (.func f) (.agg (.slice (some ⟨0,0,none⟩) n n::rest).toArray::ex) (TN c t z).heap 1 (λu _ _=>sZ u v)=true)
  (hk0:c=[]->KI P Fy pr m fuel (.func f) (.agg (.slice none 0 0::rest).toArray::ex) .leaf 0 (λu _ _=>sZ u v)=true):E1 P f n c rest ex v:=by
 have hexm:∀ x∈ex,FB x=true:=by simpa using hex
 have hsc:Hl 1 (Value.agg (.slice (some ⟨0,0,none⟩) n n::rest).toArray::ex):=λx hx=>by
  rcases Aq.1 hx with rfl | hx
  ·refine Hl.agg λy hy=>?_
   rcases Aq.1 hy with rfl | hy
   ·exact .slice _ _ _ _ dO
   ·exact Hl.flat hr y hy
  ·exact Sc.FB (hexm x hx)
 refine⟨(Sj hm ht hp hc hsc (hk 0 0)).1,hv,λB φ S w args args' ha hrel hs hB=>?_⟩;obtain⟨a,rfl,ha⟩:=ha;obtain⟨la⟩:=args';obtain⟨x,rfl⟩:∃ x,la=x::ex:=by
  match la,hrel with
  | x::ex',hrel=>
   refine⟨x,?_⟩;have he:ex'=ex:=by
    have hle:ex.length=ex'.length:=by simpa using hrel.1
    apply B0 hle.symm;intro i h1 h2;have:=hrel.2 (i+1) ad0 ac0;exact Li (hexm _ (Ao h2)) (by simpa using this)
   rw[he]
  | [],hrel=>have:=hrel.1;simp at this
 have hx:Rel φ (.agg a) x:=hrel.2 0 iN iN;have hfin:∀ {φ1 S1 φ2 S2 w2 u v'},NP φ1 S1->sZ u v=true->Rel φ2 u v'->E6 w.heap.size φ1 S1 w φ2 S2 w2->Mv B φ S w v S (.returned v') w2:=by
  intro φ1 S1 φ2 S2 w2 u v' h0 hu hr2 hkeep;obtain rfl:=pL hu;obtain rfl:=UB hv hr2;obtain⟨q1,q2⟩:=iZ hs hkeep h0;exact⟨φ,_,rfl,UC hv _,q1,q2⟩
 rcases ha with ⟨id,o,c0,cc,t,z,hal,hl,hlen,hcc⟩ | ⟨rfl,rfl,hal⟩
 ·cases hx with
  | agg _ a' hs' he=>
   obtain⟨l⟩:=a;obtain⟨l'⟩:=a';have hal:l=_:=hal;subst hal
   match l',hs',he with
   | y::l',hs',he=>
    have h0:Rel φ (.slice (some ⟨id,o,none⟩) n c0) y:=he 0 iN iN;have hl':l'=rest:=by
     have hle:rest.length=l'.length:=by simpa using hs'
     apply B0 hle.symm;intro i h1 h2;have:=he (i+1) ad0 ac0;exact J1 (by simp only[EC,At] at hr;exact hr _ (Ao h2)) (by simpa using this)
    subst hl';have key:∀ s:MK,φ id=some s->∀ s1:MK,s1=⟨s.b,s.base+o,s.ext - o,s.sz⟩->Rel (kM φ.Fy s1) (.slice (some ⟨0,0,none⟩) n n) y->Calls P f ⟨.agg ⟨y::l'⟩::ex⟩ w (Mv B φ S w v S):=by
     intro s hid s1 hs1 hry;have hsim:=hs.row hB hid hl (n:=c.length) hlen (by rw[hcc];exact hc);rw[hcc,<- hs1] at hsim;have hra:Gb (kM φ.Fy s1) (.agg (.slice (some ⟨0,0,none⟩) n n::l').toArray::ex).toArray ⟨.agg ⟨y::l'⟩::ex⟩:=by
      refine⟨rfl,λi h1 h2=>?_⟩;cases i with
      | zero=>
       refine .agg _ _ rfl λj h3 h4=>?_
       cases j with
       | zero=>exact hry
       | succ j=>exact H4 (by simp only[EC,At] at hr;exact hr _ (Ao (by simpa using h3))) _
      | succ i=>exact HE (hexm _ (Ao ac0)) _
     obtain⟨u,S',h2,h3⟩:=(Sj hm ht hp hc hsc (hk t z)).2 w _ _ hsim hra;refine h3.mono ?_;rintro e w' ⟨φ2,v',rfl,p1,p2,p3⟩;exact hfin NP.row h2 p1 p3
    cases h0 with
    | slice _ _ _ _ c' s hid hn hc' hext=>
     refine key s hid _ rfl ?_;exact .slice 0 0 n n c' _ (Es.add_same _ _ _) (Af _) (An hn hc') (by show 0+c' * s.sz<=s.ext - o;omega)
    | sliceEnd _ _ x s hid=>exact key s hid _ rfl (.sliceEnd 0 0 x ⟨s.b,s.base+o,s.ext - o,s.sz⟩ (Es.add_same _ _ _))
   | [],hs',_=>simp at hs'
 ·have hfa:FB (.agg a)=true:=by
   show EC a.toList=true
   rw[hal];exact hr
  obtain rfl:=Li hfa hx;obtain⟨u,S2,h3,h4⟩:=(KO hm ht hp (args:=.agg a::ex) (by rw[CT,hfa,hex];rfl) (f:=f) (by have:=hk0 rfl;rw[<- hal] at this;exact this)).2 w φ.Fy (hs.loops.1.of hB rfl λ_ _ _ _ e=>e);refine h4.mono ?_;rintro e w' ⟨φ2,v',rfl,p1,p2,p3⟩;exact hfin NP.zero h3 p1 p3
def LP(id n:Nat)(rest:List Value)(r:Value):Value:=.tuple #[.agg (.slice (some ⟨id,0,none⟩) n n::rest).toArray,r]
def tp(n:Nat)(c rest:List Value)(z:Nat)(r:Value):KV:=λv h nx=>match v with
 | .tuple ⟨[.agg ⟨.slice (some ⟨k,o,none⟩) n1 n2::rest1⟩,r1]⟩=>(match h.get k with
  | some (.cells c1 _ z1 true _)=>Nat.beq o 0 && Nat.beq n1 n && Nat.beq n2 n && Nat.beq z1 z && K4 Rc rest1 rest && Rc r1 r && K4 Rc c1 c
  | _=>false)
 | _=>false
def pN{n:Nat}{c rest:List Value}{z:Nat}{r v:Value}{h:Tr FH}{nx:Nat}(hk:tp n c rest z r v h nx=true):∃ k t an,v=LP k n rest r/\(St.mk h nx).get k=.cells c t z true an:=by
 unfold tp at hk;split at hk
 ·rename_i k o n1 n2 rest1 r1
  split at hk
  ·rename_i c1 t z1 an hg
   simp only[Al] at hk;obtain⟨⟨⟨⟨⟨⟨h1,h2⟩,h3⟩,h4⟩,h5⟩,h6⟩,h7⟩:=hk;obtain rfl:=AB h1;obtain rfl:=AB h2;obtain rfl:=AB h3;obtain rfl:=AB h4;obtain rfl:=H2 (λ_ _=>Jp) h5;obtain rfl:=Jp h6;obtain rfl:=H2 (λ_ _=>Jp) h7;exact⟨k,t,an,rfl,by unfold St.get;rw[hg];rfl⟩
  ·cases hk
 ·cases hk
structure Ms(P:Program)(f:FuncId)(args:List Value)(n:Nat)(c rest:List Value)(z:Nat)(r:Value):Prop where
 fn:∃ fn,P.funcs[f]? = some fn/\fn.body.isSome=true/\(fn.name == "runtime.NumGoroutine")=false
 flat:args.all FB=true
 restf:EC rest=true
 cells:EC c=true
 one:GN r=true
 calls:∀ t1 B φ S w,E0 B φ S w->B<=w.heap.size->Calls P f args.toArray w (Mv B φ S w (LP S.next n rest r) (S.alloc (.cells c t1 z true [])))
def Ms.of(hm:P.follows .mixedOrders=true){Fy:Tr Ed}(ht:Mg P Fy){pr:FuncId->List Value->Tr FH->Nat->KV->Bool}(hp:HI P Fy pr){m fuel:Nat}{f:FuncId}{args:List Value}{n:Nat}{c rest:List Value}{z:Nat}{r:Value}(hfl:args.all FB=true)(hc:EC c=true)(hr:EC rest=true)(h1r:GN r=true)
  (hk:KI P Fy pr m fuel (.func f) args .leaf 0 (tp n c rest z r)=true):Ms P f args n c rest z r:=by
 obtain⟨h1,h2⟩:=KO hm ht hp hfl hk;refine⟨h1,hfl,hr,hc,h1r,λt1 B φ S w hs hB=>?_⟩;obtain⟨u,S2,h3,h4⟩:=h2 w φ.Fy (hs.loops.1.of hB rfl λ_ _ _ _ e=>e);refine h4.mono ?_;rintro e w' ⟨φ2,v',rfl,p1,p2,p3⟩;obtain⟨k,t,an,rfl,hg⟩:=pN h3;have hg:S2.get k=_:=hg;unfold LP at p1;cases p1 with
 | tuple _ a' hs' he=>
  obtain⟨l'⟩:=a'
  match l',hs',he with
  | [x,y],_,he=>
   have hx:Rel φ2 (.agg (.slice (some ⟨k,0,none⟩) n n::rest).toArray) x:=he 0 iN iN;have hy:Rel φ2 r y:=he 1 iN iN;obtain rfl:=J1 h1r hy;cases hx with
   | agg _ b hb hbe=>
    obtain⟨lb⟩:=b
    match lb,hb,hbe with
    | q::lb,hb,hbe=>
     have hq:Rel φ2 (.slice (some ⟨k,0,none⟩) n n) q:=hbe 0 iN iN;have hlb:lb=rest:=by
      have hle:rest.length=lb.length:=by simpa using hb
      apply B0 hle.symm;intro i h1 h2;have:=hbe (i+1) ad0 ac0;exact J1 (by simp only[EC,At] at hr;exact hr _ (Ao h2)) (by simpa using this)
     subst hlb;have key:∀ s0:MK,φ2 k=some s0->(∀ ψ:Es,ψ S.next=some s0->Rel ψ (.slice (some ⟨S.next,0,none⟩) n n) q)->Mv B φ S w (LP S.next n lb y) (S.alloc (.cells c t1 z true [])) (.returned (.tuple ⟨[.agg ⟨q::lb⟩,y]⟩)) w':=by
      intro s0 hs0 hrq;obtain⟨q1,q2⟩:=iQ hB hs p2 p3 hs0 hg hc t1;refine⟨_,_,rfl,?_,q1,q2⟩;refine .tuple _ _ rfl λi h1 h2=>?_
      match i,h1 with
      | 0,_=>
       refine .agg _ _ rfl λj h3 h4=>?_
       cases j with
       | zero=>exact hrq _ (Es.add_same _ _ _)
       | succ j=>exact H4 (by simp only[EC,At] at hr;exact hr _ (Ao (by simpa using h3))) _
      | 1,_=>exact H4 h1r _
      | i+2,h=>exact absurd h (Dw (by show 2<=i+2;omega))
     cases hq with
     | slice _ _ _ _ c' s hid hn hc' hext=>exact key s hid λψ hψ=>.slice _ _ n n c' s hψ hn hc' hext
     | sliceEnd _ _ x s hid=>exact key s hid λψ hψ=>.sliceEnd _ _ x s hψ
    | [],hb,_=>simp at hb
  | [],hs',_=>simp at hs'
  | [_],hs',_=>simp at hs'
  | _::_::_::_,hs',_=>simp at hs'
end
inductive VV where
 | v (x:Value)
 | ptr (id o:Nat)
 | Ie (n:Nat) (xs:List VV)
 | own (z n:Nat) (xs:List VV) (t:Nat)
 | slice (id o n c:Nat)
 | ep (xs:List VV) (o:Nat)
 | agg (xs:List VV)
 | tup (xs:List VV)
 | fn (f:FuncId) (a b:List VV)
 | yield (id:Nat)
 | map (id:Nat)
 | iface (t:TypeId) (x:VV)
 | Fy
abbrev FV:=Tmp->VV
inductive VB where
 | gone
 | dead
 | cells (c:List VV) (t:TypeId) (z:Nat) (b:Nat)
 | obj (o:V8)
 | loop (fe:FV) (L:Kj) (pe:Option Ex)
structure D1 where
 heap:Nat->VB
 live:Nat->Bool
 next:Nat
 low:Nat
def D1.alloc(σ:D1)(b:VB):D1:={ σ with heap:=λj=>if j=σ.next then b else σ.heap j,next:=σ.next+1 }
def D1.write(σ:D1)(id:Nat)(c:List VV)(t:TypeId)(z b:Nat):D1:={ σ with heap:=λj=>if j=id then .cells c t z b else σ.heap j,low:=min σ.low b }
def D1.kill(σ:D1)(id b:Nat):D1:={ σ with heap:=λj=>if j=id then .dead else σ.heap j,low:=min σ.low b }
def D1.box(σ:D1)(c:List VV)(t:TypeId)(z:Nat):D1:=σ.alloc (.cells c t z σ.next)
def D1.put(σ:D1)(id:Nat)(b:VB):D1:={ σ with heap:=λj=>if j=id then b else σ.heap j,low:=min σ.low id }
def D1.Eg(σ:D1):D1:={ σ with live:=λj=>if j=σ.next then true else σ.live j,next:=σ.next+1 }
def D1.Fx(σ:D1)(t:Nat):D1:={ σ with live:=λj=>if j=σ.next then true else if j=t then false else σ.live j,next:=σ.next+1,low:=min σ.low t }
def D1.fresh(σ:D1):D1:={ σ with low:=σ.next }
def D1.join(σ σ':D1):D1:={ σ' with low:=min σ.low σ'.low }
def D1.G(σ:D1)(id:Nat):Prop:=id < σ.next/\σ.heap id=.gone
inductive Ej(G:Nat->Prop)(S:St):VV->Value->Prop where
 | v (x:Value) (h:GN x=true):Ej G S (.v x) x
 | ptr (id o:Nat):Ej G S (.ptr id o) (.pointer (some ⟨id,o,none⟩))
 | lstNil:Ej G S (.Ie 0 []) (.slice none 0 0)
 | Ie (z id o n c:Nat) (cc:List Value) (t:TypeId) (xs:List VV) (hG:G id) (hl:(S.get id).look=some (cc,t,z)) (hn:n<=c) (hx:xs.length=n * z) (hb:o+xs.length<=cc.length)
   (h:∀ i (h1:i < xs.length) (h2:o+i < cc.length),Ej G S xs[i] cc[o+i]):Ej G S (.Ie n xs) (.slice (some ⟨id,o,none⟩) n c)
 | own (z id n:Nat) (cc:List Value) (t:TypeId) (xs:List VV) (hG:G id) (hl:(S.get id).look=some (cc,t,z)) (hx:xs.length=n * z) (hb:xs.length=cc.length)
   (h:∀ i (h1:i < xs.length) (h2:i < cc.length),Ej G S xs[i] cc[i]):Ej G S (.own z n xs id) (.slice (some ⟨id,0,none⟩) n n)
 | slice (id o n c:Nat):Ej G S (.slice id o n c) (.slice (some ⟨id,o,none⟩) n c)
 | ep (z id o b:Nat) (cc:List Value) (t:TypeId) (xs:List VV) (hG:G id) (hl:(S.get id).look=some (cc,t,z)) (hb:b+xs.length<=cc.length)
   (h:∀ i (h1:i < xs.length) (h2:b+i < cc.length),Ej G S xs[i] cc[b+i]):Ej G S (.ep xs o) (.pointer (some ⟨id,b+o,none⟩))
 | agg (xs:List VV) (a:Array Value) (hs:xs.length=a.size) (h:∀ i (h1:i < xs.length) (h2:i < a.size),Ej G S xs[i] a[i]):Ej G S (.agg xs) (.agg a)
 | tup (xs:List VV) (a:Array Value) (hs:xs.length=a.size) (h:∀ i (h1:i < xs.length) (h2:i < a.size),Ej G S xs[i] a[i]):Ej G S (.tup xs) (.tuple a)
 | fn (f:FuncId) (a b:List VV) (a' b':Array Value) (ha:a.length=a'.size) (hb:b.length=b'.size) (h1:∀ i (h1:i < a.length) (h2:i < a'.size),Ej G S a[i] a'[i]) (h2:∀ i (h1:i < b.length) (h2:i < b'.size),Ej G S b[i] b'[i]) :
   Ej G S (.fn f a b) (.func (.func f) a' b')
 | yield (id:Nat):Ej G S (.yield id) (.func (.yield id) #[] #[])
 | map (id:Nat):Ej G S (.map id) (.map (some id))
 | iface (t:TypeId) (x:VV) (x':Value) (h:Ej G S x x'):Ej G S (.iface t x) (.iface t x')
 | Fy:Ej G S .Fy (.chan (some 0))
def Ee(G:Nat->Prop)(S:St)(xs:List VV)(l:List Value):Prop:=xs.length=l.length/\∀ i (h1:i < xs.length) (h2:i < l.length),Ej G S xs[i] l[i]
section
variable {G G':Nat->Prop}{S S':St}
def Ej.mono(h:∀ id,G id->G' id/\(S'.get id).look=(S.get id).look){x:VV}{x':Value}(hr:Ej G S x x'):Ej G' S' x x':=by
 induction hr with
 | v x h=>exact .v x h
 | ptr id o=>exact .ptr id o
 | lstNil=>exact .lstNil
 | Ie z id o n c cc t xs hG hl hn hx hb _ ih=>exact .Ie z id o n c cc t xs (h id hG).1 (by rw[(h id hG).2];exact hl) hn hx hb ih
 | own z id n cc t xs hG hl hx hb _ ih=>exact .own z id n cc t xs (h id hG).1 (by rw[(h id hG).2];exact hl) hx hb ih
 | slice id o n c=>exact .slice id o n c
 | ep z id o b cc t xs hG hl hb _ ih=>exact .ep z id o b cc t xs (h id hG).1 (by rw[(h id hG).2];exact hl) hb ih
 | agg xs a hs _ ih=>exact .agg xs a hs ih
 | tup xs a hs _ ih=>exact .tup xs a hs ih
 | fn f a b a' b' ha hb _ _ i1 i2=>exact .fn f a b a' b' ha hb i1 i2
 | yield id=>exact .yield id
 | map id=>exact .map id
 | iface t x x' _ ih=>exact .iface t x x' ih
 | Fy=>exact .Fy
def Ee.mono(h:∀ id,G id->G' id/\(S'.get id).look=(S.get id).look){x:List VV}{x':List Value}(hr:Ee G S x x'):Ee G' S' x x':=⟨hr.1,λi h1 h2=>(hr.2 i h1 h2).mono h⟩
def Ee.nil:Ee G S [] []:=⟨rfl,λi h=>by simp at h⟩
def Ee.cons{x:VV}{x':Value}{l:List VV}{l':List Value}(h:Ej G S x x')(hl:Ee G S l l'):Ee G S (x::l) (x'::l'):=
 ⟨by simp[hl.1],λi h1 h2=>by
  cases i with
  | zero=>exact h
  | succ i=>exact hl.2 i ac0 ad0⟩
def Ee.append{a b:List VV}{a' b':List Value}(h:Ee G S a a')(k:Ee G S b b'):Ee G S (a++b) (a'++b'):=by
 refine⟨by simp[h.1,k.1],λi h1 h2=>?_⟩;by_cases hi:i < a.length
 ·rw[BC hi,BC (by rw[<- h.1];exact hi)]
  exact h.2 i hi _
 ·have e:=h.1
  simp only[Ad] at h1 h2;rw[BU dO,BU dO];simp only[<- e];exact k.2 _ dO dO
def Ee.take{a:List VV}{a':List Value}(h:Ee G S a a')(n:Nat):Ee G S (a.take n) (a'.take n):=by
 refine⟨by simp[h.1],λi h1 h2=>?_⟩;simp only[As] at h1 h2;rw[Cp,Cp];exact h.2 i dO dO
def Ee.drop{a:List VV}{a':List Value}(h:Ee G S a a')(n:Nat):Ee G S (a.drop n) (a'.drop n):=by
 refine⟨by simp[h.1],λi h1 h2=>?_⟩;simp only[AI] at h1 h2;rw[Cq,Cq];exact h.2 _ dO dO
def Ee.at{a:List VV}{a':List Value}(h:Ee G S a a'){i:Nat}{x:VV}(hx:a[i]? = some x):∃ x',a'[i]? = some x'/\Ej G S x x':=by
 obtain⟨hi,rfl⟩:=Am.1 hx;have hi':i < a'.length:=by rw[<- h.1];exact hi
 exact⟨a'[i],Ah hi',h.2 i hi hi'⟩
def Ee.part{xs:List VV}{cc:List Value}{o:Nat}(hb:o+xs.length<=cc.length)(h:∀ i (h1:i < xs.length) (h2:o+i < cc.length),Ej G S xs[i] cc[o+i]):Ee G S xs ((cc.drop o).take xs.length):=by
 refine⟨aa0,λi h1 h2=>?_⟩;rw[Cp,Cq];exact h i h1 _
def Ee.wE{xs:List VV}{cc:List Value}{o:Nat}(h:Ee G S xs ((cc.drop o).take xs.length))(hb:o+xs.length<=cc.length):∀ i (h1:i < xs.length) (h2:o+i < cc.length),Ej G S xs[i] cc[o+i]:=by
 intro i h1 h2;have:=h.2 i h1 aa0;rw[Cp,Cq] at this;exact this
def Ee.replicate{x:VV}{x':Value}(h:Ej G S x x')(n:Nat):Ee G S (List.replicate n x) (List.replicate n x'):=by
 refine⟨iN,λi h1 h2=>?_⟩;rw[Dz,Dz];exact h
def Ee.flat{l:List Value}(h:EC l=true):Ee G S (l.map .v) l:=by
 refine⟨iN,λi h1 h2=>?_⟩;rw[AZ];simp only[EC,At] at h;exact .v _ (h _ (Ao _))
def EA:VV:=.v (.slice none 0 0)
def th:Value->VV
 | .slice none 0 0=>.Ie 0 []
 | x=>.v x
def VV.fg:VV->VV
 | .Ie n xs=>.Ie n (xs.map VV.fg)
 | .own _ n xs _=>.Ie n (xs.map VV.fg)
 | .agg xs=>.agg (xs.map VV.fg)
 | .tup xs=>.tup (xs.map VV.fg)
 | .v x=>th x
 | .ptr id o=>.ptr id o
 | .slice id o n c=>.slice id o n c
 | .ep xs o=>.ep xs o
 | .fn f a b=>.fn f a b
 | .yield id=>.yield id
 | .map id=>.map id
 | .iface t x=>.iface t x
 | .Fy=>.Fy
def Ej.th{x:Value}(h:GN x=true):Ej G S (th x) x:=by
 unfold Go.Proofs.YtkkpchcniicimaaGreat.th;split
 ·exact .lstNil
 ·exact .v _ h
def Ej.fg{x:VV}{x':Value}(h:Ej G S x x'):Ej G S x.fg x':=by
 induction h with
 | Ie z id o n c cc t xs hG hl hn hx hb _ ih=>
  rw[VV.fg];exact .Ie z id o n c cc t _ hG hl hn (by simpa using hx) (by simpa using hb) (λi h1 h2=>by simpa using ih i ac0 h2)
 | own z id n cc t xs hG hl hx hb _ ih=>
  rw[VV.fg];refine .Ie z id 0 n n cc t _ hG hl (Af _) (by simpa using hx) (by simp[hb]) (λi h1 h2=>?_);simp only[A8] at h2 |-;simpa using ih i ac0 h2
 | agg xs a hs _ ih=>rw[VV.fg];exact .agg _ a (by simpa using hs) (λi h1 h2=>by simpa using ih i ac0 h2)
 | tup xs a hs _ ih=>rw[VV.fg];exact .tup _ a (by simpa using hs) (λi h1 h2=>by simpa using ih i ac0 h2)
 | lstNil=>rw[VV.fg];exact .lstNil
 | v x h=>rw[VV.fg];exact .th h
 | ptr id o=>rw[VV.fg];exact .ptr id o
 | slice id o n c=>rw[VV.fg];exact .slice id o n c
 | ep z id o b cc t xs hG hl hb h _=>rw[VV.fg];exact .ep z id o b cc t xs hG hl hb h
 | fn f a b a' b' ha hb h1 h2 _ _=>rw[VV.fg];exact .fn f a b a' b' ha hb h1 h2
 | yield id=>rw[VV.fg];exact .yield id
 | map id=>rw[VV.fg];exact .map id
 | iface t x x' h _=>rw[VV.fg];exact .iface t x x' h
 | Fy=>rw[VV.fg];exact .Fy
def Ee.fg{x:List VV}{x':List Value}(h:Ee G S x x'):Ee G S (x.map VV.fg) x':=⟨by simpa using h.1,λi h1 h2=>by simpa using (h.2 i ac0 h2).fg⟩
end
def PW(G:Nat->Prop)(S:St)(dead:Nat->Prop)(id:Nat):VB->Bool->FH->Prop
 | .gone,live,k=>live=true->∃ c t z an,k=.cells c t z true an
 | .dead,live,_=>live=false
 | .cells c t z b,live,k=>live=false/\b<=id/\∃ c' an,k=.cells c' t z true an/\Ee G S c c'/\∀ j∈an,dead j/\b<=j
 | .obj o,live,k=>live=false/\k=.obj o
 | .loop fe L pe,live,k=>live=false/\∃ env,k=.obj (.loop env L pe)/\∀ t,Ej G S (fe t) (Ki env t)
def D1.dead(σ:D1)(id:Nat):Prop:=σ.heap id=.dead
theorem PW.mono{G G':Nat->Prop}{S S':St}{dead dead':Nat->Prop}(h:∀ id,G id->G' id/\(S'.get id).look=(S.get id).look)(hd:∀ id,dead id->dead' id){id:Nat}{b:VB}{l:Bool}{k:FH}(hb:PW G S dead id b l k):PW G' S' dead' id b l k:=by
 cases b with
 | gone=>exact hb
 | dead=>exact hb
 | cells c t z b=>obtain⟨h0,h00,c',an,h1,h2,h3⟩:=hb;exact⟨h0,h00,c',an,h1,h2.mono h,λj hj=>⟨hd j (h3 j hj).1,(h3 j hj).2⟩⟩
 | obj o=>exact hb
 | loop fe L pe=>obtain⟨h0,env,h1,h2⟩:=hb;exact⟨h0,env,h1,λt=>(h2 t).mono h⟩
structure E9(σ:D1)(S:St):Prop where
 next:σ.next=S.next
 hi:∀ id,σ.next<=id->σ.heap id=.gone/\σ.live id=false
 low:σ.low<=σ.next
 IM:∀ id,PW σ.G S σ.dead id (σ.heap id) (σ.live id) (S.get id)
structure ER(σ:D1)(S:St)(σ':D1)(S':St):Prop where
 next:σ.next<=σ'.next
 still:∀ id,σ.G id->σ'.heap id=.gone/\(S'.get id).look=(S.get id).look
 low:σ'.low<=σ.low
 D8:∀ id,id < σ.next->id < σ'.low->σ'.heap id=σ.heap id/\σ'.live id=σ.live id/\S'.get id=S.get id
theorem ER.refl(σ:D1)(S:St):ER σ S σ S:=⟨Af _,λid h=>⟨h.2,rfl⟩,Af _,λ_ _ _=>⟨rfl,rfl,rfl⟩⟩
theorem ER.trans{σ σ' σ'':D1}{S S' S'':St}(h:ER σ S σ' S')(k:ER σ' S' σ'' S''):ER σ S σ'' S'':=
 ⟨An h.next k.next,λid hG=>by
  have h1:=h.still id hG;have h2:=k.still id ⟨Ar hG.1 h.next,h1.1⟩;exact⟨h2.1,h2.2.trans h1.2⟩,An k.low h.low,λid h1 h2=>by
  have a:=h.D8 id h1 (Ar h2 k.low);have b:=k.D8 id (Ar h1 h.next) h2;exact⟨b.1.trans a.1,b.2.1.trans a.2.1,b.2.2.trans a.2.2⟩⟩
theorem ER.rel{σ σ':D1}{S S':St}(h:ER σ S σ' S'):∀ id,σ.G id->σ'.G id/\(S'.get id).look=(S.get id).look:=λid hG=>⟨⟨Ar hG.1 h.next,(h.still id hG).1⟩,(h.still id hG).2⟩
theorem Ej.step{σ σ':D1}{S S':St}{x:VV}{x':Value}(hr:Ej σ.G S x x')(h:ER σ S σ' S'):Ej σ'.G S' x x':=hr.mono h.rel
theorem E9.step{σ σ':D1}{S S':St}(h:E9 σ S)(k:ER σ S σ' S')(hn:σ'.next=S'.next)(hlow:σ'.low<=σ'.next)(hhi:∀ id,σ'.next<=id->σ'.heap id=.gone/\σ'.live id=false)(hd:∀ id,σ.heap id=.dead->σ'.heap id=.dead)
  (hb:∀ id,(σ'.heap id=σ.heap id/\σ'.live id=σ.live id/\S'.get id=S.get id)\/PW σ'.G S' σ'.dead id (σ'.heap id) (σ'.live id) (S'.get id)):E9 σ' S':=by
 refine⟨hn,hhi,hlow,λid=>?_⟩;rcases hb id with ⟨e1,e2,e3⟩ | hb
 ·rw[e1,e2,e3]
  exact (h.IM id).mono k.rel hd
 ·exact hb
section
variable {σ:D1}{S:St}(h:E9 σ S)
include h
theorem E9.H7:σ.heap σ.next=.gone/\σ.live σ.next=false:=h.hi _ (Af _)
theorem E9.JJ(b:VB)(k:FH)(hbG:b≠.gone)(hb:∀ G',(∀ id,σ.G id->G' id/\((S.alloc k).get id).look=(S.get id).look)->PW G' (S.alloc k) (σ.alloc b).dead σ.next b false k) :
  E9 (σ.alloc b) (S.alloc k)/\ER σ S (σ.alloc b) (S.alloc k):=by
 have hn:=h.next;have st:ER σ S (σ.alloc b) (S.alloc k):=by
  refine⟨by simp[D1.alloc],λid hG=>?_,Af _,λid h1 h2=>?_⟩
  ·have h1:=hG.1
   exact⟨by simp only[D1.alloc];rw[if_neg dO];exact hG.2,by rw[St.D6,if_neg dO]⟩
  ·exact⟨by simp only[D1.alloc];rw[if_neg dO],rfl,by rw[St.D6,if_neg dO]⟩
 refine⟨h.step st (by simp[D1.alloc,hn]) (by simp only[D1.alloc];have:=h.low;omega) (λid hid=>?_) (λid hd=>?_) (λid=>?_),st⟩
 ·simp only[D1.alloc] at hid |-
  rw[if_neg dO];exact h.hi id dO
 ·simp only[D1.alloc]
  split
  ·rename_i e;subst e;rw[h.H7.1] at hd;cases hd
  ·exact hd
 ·by_cases e:id=σ.next
  ·right
   subst e;have e1:(σ.alloc b).heap σ.next=b:=by simp[D1.alloc]
   have e2:(σ.alloc b).live σ.next=false:=h.H7.2;have e3:(S.alloc k).get σ.next=k:=by rw[St.D6,if_pos hn]
   rw[e1,e2,e3];exact hb _ st.rel
  ·left
   exact⟨by simp only[D1.alloc];rw[if_neg e],rfl,by rw[St.D6,if_neg dO]⟩
theorem E9.Tt{c:List VV}{c':List Value}(hc:Ee σ.G S c c')(t:TypeId)(z:Nat):E9 (σ.box c t z) (S.alloc (.cells c' t z true []))/\ER σ S (σ.box c t z) (S.alloc (.cells c' t z true [])):=
 h.JJ _ _ iN λG' hG=>⟨rfl,Af _,c',[],rfl,hc.mono hG,iN⟩
theorem E9.rQ(o:V8):E9 (σ.alloc (.obj o)) (S.alloc (.obj o))/\ER σ S (σ.alloc (.obj o)) (S.alloc (.obj o)):=
 h.JJ _ _ iN λG' hG=>⟨rfl,rfl⟩
theorem E9.Eg(c':List Value)(t:TypeId)(z:Nat):E9 σ.Eg (S.alloc (.cells c' t z true []))/\ER σ S σ.Eg (S.alloc (.cells c' t z true []))/\σ.Eg.G σ.next:=by
 have hn:=h.next;have st:ER σ S σ.Eg (S.alloc (.cells c' t z true [])):=by
  refine⟨by simp[D1.Eg],λid hG=>?_,Af _,λid h1 h2=>?_⟩
  ·have h1:=hG.1
   exact⟨hG.2,by rw[St.D6,if_neg dO]⟩
  ·exact⟨rfl,by simp only[D1.Eg];rw[if_neg dO],by rw[St.D6,if_neg dO]⟩
 refine⟨h.step st (by simp[D1.Eg,hn]) (by simp only[D1.Eg];have:=h.low;omega) (λid hid=>?_) (λid hd=>hd) (λid=>?_),st,by simp[D1.Eg],h.H7.1⟩
 ·simp only[D1.Eg] at hid |-
  rw[if_neg dO];exact h.hi id dO
 ·by_cases e:id=σ.next
  ·right
   subst e;have e1:σ.Eg.heap σ.next=.gone:=h.H7.1;have e3:(S.alloc (.cells c' t z true [])).get σ.next=.cells c' t z true []:=by rw[St.D6,if_pos hn]
   rw[e1,e3];exact λ_=>⟨_,_,_,_,rfl⟩
  ·left
   exact⟨rfl,by simp only[D1.Eg];rw[if_neg e],by rw[St.D6,if_neg dO]⟩
theorem E9.RF{t:Nat}(hl:σ.live t=true):t < σ.next/\σ.heap t=.gone:=by
 refine⟨Cw λhle=>absurd ((h.hi t hle).2.symm.trans hl) iN,?_⟩;have:=h.IM t;cases e:σ.heap t with
 | gone=>rfl
 | dead=>rw[e,hl] at this;exact absurd this (by simp[PW])
 | cells c t z b=>rw[e,hl] at this;exact absurd this.1 iN
 | obj o=>rw[e,hl] at this;exact absurd this.1 iN
 | loop fe L pe=>rw[e,hl] at this;exact absurd this.1 iN
theorem E9.Fx{t:Nat}(hl:σ.live t=true){c:List Value}{tt:TypeId}{z:Nat}{m:Bool}{an:List Nat}(hk:S.get t=.cells c tt z m an)(c2:List Value)(t2:TypeId) :
  E9 (σ.Fx t) (S.grow t c tt z an c2 t2)/\ER σ S (σ.Fx t) (S.grow t c tt z an c2 t2)/\(σ.Fx t).G σ.next:=by
 have hn:=h.next;obtain⟨ht,hg⟩:=h.RF hl;have get:∀ id,(S.grow t c tt z an c2 t2).get id=if id=S.next then .cells c2 t2 z true (t::an) else if id=t then .cells c tt z false an else S.get id:=λid=>by
  unfold St.grow;rw[St.D6,St.Gd,St.Lj]
 have st:ER σ S (σ.Fx t) (S.grow t c tt z an c2 t2):=by
  refine⟨by simp[D1.Fx],λid hG=>?_,by simp only[D1.Fx];omega,λid h1 h2=>?_⟩
  ·have h1:=hG.1
   refine⟨hG.2,?_⟩;rw[get,if_neg dO];split
   ·rename_i e;subst e;rw[hk];rfl
   ·rfl
  ·simp only[D1.Fx] at h2
   exact⟨rfl,by simp only[D1.Fx];rw[if_neg dO,if_neg dO],by rw[get,if_neg dO,if_neg dO]⟩
 refine⟨h.step st (by simp[D1.Fx,St.grow,hn]) (by simp only[D1.Fx];have:=h.low;omega) (λid hid=>?_) (λid hd=>hd) (λid=>?_),st,by simp[D1.Fx],h.H7.1⟩
 ·simp only[D1.Fx] at hid |-
  rw[if_neg dO,if_neg dO];exact h.hi id dO
 ·by_cases e:id=σ.next
  ·right
   subst e;have e1:(σ.Fx t).heap σ.next=.gone:=h.H7.1;rw[e1,get,if_pos hn];exact λ_=>⟨_,_,_,_,rfl⟩
  ·by_cases e':id=t
   ·right
    subst e';have e1:(σ.Fx id).heap id=.gone:=hg;have e2:(σ.Fx id).live id=false:=by simp[D1.Fx,e]
    rw[e1,e2];exact λh=>by cases h
   ·left
    exact⟨rfl,by simp only[D1.Fx];rw[if_neg e,if_neg e'],by rw[get,if_neg dO,if_neg e']⟩
theorem E9.AaK{σ':D1}{S':St}{id:Nat}{lo:Nat}(hid:σ.heap id≠.gone)(hdd:σ.heap id≠.dead)(hlo:lo<=id)(hheap:∀ j,j≠id->σ'.heap j=σ.heap j)(hlv:σ'.live=σ.live)(hnx':σ'.next=σ.next)(hlow:σ'.low=min σ.low lo)(hng:σ'.heap id≠.gone)
  (hnx:S'.next=S.next) (hne:∀ j,j≠id->S'.get j=S.get j\/(σ.heap j=.dead/\lo<=j))
  (hk:∀ G',(∀ j,σ.G j->G' j/\(S'.get j).look=(S.get j).look)->PW G' S' σ'.dead id (σ'.heap id) false (S'.get id)):E9 σ' S'/\ER σ S σ' S':=by
 have hn:=h.next;have hlt:id < σ.next:=Cw λhle=>hid (h.hi id hle).1
 have hlive:σ.live id=false:=by
  cases e:σ.live id with
  | false=>rfl
  | true=>exact absurd (h.RF e).2 hid
 have st:ER σ S σ' S':=by
  refine⟨by rw[hnx'];exact Af _,λj hG=>?_,by rw[hlow];omega,λj h1 h2=>?_⟩
  ·have hj:j≠id:=λe=>hid (by rw[<- e];exact hG.2)
   refine⟨by rw[hheap j hj];exact hG.2,?_⟩;rcases hne j hj with e | e
   ·rw[e]
   ·rw[hG.2] at e;exact absurd e.1 iN
  ·rw[hlow] at h2
   have hj:j≠id:=dO
   refine⟨hheap j hj,by rw[hlv],?_⟩;rcases hne j hj with e | e
   ·exact e
   ·omega
 refine⟨h.step st (by rw[hnx',hn,hnx]) (by rw[hlow,hnx'];have:=h.low;omega) (λj hj=>?_) (λj hd=>?_) (λj=>?_),st⟩
 ·rw[hnx'] at hj
  rw[hlv,hheap j dO];exact h.hi j hj
 ·have hj:j≠id:=λe=>hdd (by rw[<- e];exact hd)
  rw[hheap j hj];exact hd
 ·by_cases e:j=id
  ·right
   subst e;rw[hlv,hlive];exact hk _ st.rel
  ·rcases hne j e with e1 | e1
   ·exact .inl ⟨hheap j e,by rw[hlv],e1⟩
   ·right
    rw[hheap j e,e1.1];show σ'.live j=false
    rw[hlv];cases e2:σ.live j with
    | false=>rfl
    | true=>have:=(h.RF e2).2;rw[e1.1] at this;cases this
theorem E9.WT{id:Nat}{c0:List VV}{t:TypeId}{z b:Nat}(hg:σ.heap id=.cells c0 t z b):∃ c0' an,S.get id=.cells c0' t z true an/\Ee σ.G S c0 c0'/\∀ (c:List VV) (c':List Value),Ee σ.G S c c'->E9 (σ.write id c t z b) (S.write id c' t z an)/\ER σ S (σ.write id c t z b) (S.write id c' t z an):=by
 have hb:=h.IM id;rw[hg] at hb;obtain⟨h0,h1,c0',an,h2,h3,h4⟩:=hb;refine⟨c0',an,h2,h3,λc c' hc=>?_⟩;have e1:(σ.write id c t z b).heap id=.cells c t z b:=by simp[D1.write]
 refine h.AaK (id:=id) (lo:=b) (by rw[hg];simp) (by rw[hg];simp) h1 (λj hj=>by simp only[D1.write];rw[if_neg hj]) rfl rfl rfl (by rw[e1];simp) iN (λj hj=>?_) (λG' hG=>?_)
 ·rw[St.F5,if_neg hj]
  split
  ·rename_i hm
   exact .inr (h4 j hm)
  ·exact .inl rfl
 ·rw[e1,St.F5,if_pos rfl]
  exact⟨rfl,h1,c',[],rfl,hc.mono hG,iN⟩
theorem E9.Aeg{id:Nat}{o0:V8}(hg:σ.heap id=.obj o0)(o:V8):S.get id=.obj o0/\E9 (σ.put id (.obj o)) (S.put id (.obj o))/\ER σ S (σ.put id (.obj o)) (S.put id (.obj o)):=by
 have hb:=h.IM id;rw[hg] at hb;have e1:(σ.put id (.obj o)).heap id=.obj o:=by simp[D1.put]
 refine⟨hb.2,h.AaK (id:=id) (lo:=id) (by rw[hg];simp) (by rw[hg];simp) (Af _) (λj hj=>by simp only[D1.put];rw[if_neg hj]) rfl rfl rfl (by rw[e1];simp) iN (λj hj=>?_) (λG' hG=>?_)⟩
 ·rw[St.Gd,if_neg hj];exact .inl rfl
 ·rw[e1,St.Gd,if_pos rfl];exact⟨rfl,rfl⟩
theorem E9.Acf{id:Nat}{c0:List VV}{t:TypeId}{z b:Nat}(hg:σ.heap id=.cells c0 t z b):∃ c0' an,S.get id=.cells c0' t z true an/\Ee σ.G S c0 c0'/\∀ (c:List VV) (c':List Value) (t2:TypeId),Ee σ.G S c c'->
  E9 ((σ.kill id b).alloc (.cells c t2 z b)) (S.grow id c0' t z an c' t2)/\ER σ S ((σ.kill id b).alloc (.cells c t2 z b)) (S.grow id c0' t z an c' t2):=by
 have hb:=h.IM id;have hn:=h.next;rw[hg] at hb;obtain⟨h0,h1,c0',an,h2,h3,h4⟩:=hb;have hlt:id < σ.next:=Cw λhle=>by rw[(h.hi id hle).1] at hg;cases hg
 refine⟨c0',an,h2,h3,λc c' t2 hc=>?_⟩;have get:∀ j,(S.grow id c0' t z an c' t2).get j=if j=S.next then .cells c' t2 z true (id::an) else if j=id then .cells c0' t z false an else S.get j:=λj=>by
  unfold St.grow;rw[St.D6,St.Gd,St.Lj]
 have hget:∀ j,((σ.kill id b).alloc (.cells c t2 z b)).heap j=if j=σ.next then .cells c t2 z b else if j=id then .dead else σ.heap j:=λj=>rfl
 have st:ER σ S ((σ.kill id b).alloc (.cells c t2 z b)) (S.grow id c0' t z an c' t2):=by
  refine⟨by simp[D1.alloc,D1.kill],λj hG=>?_,by simp only[D1.alloc,D1.kill];omega,λj a1 a2=>?_⟩
  ·have hj:=hG.1
   have hj2:j≠id:=λe=>by have:=hG.2;rw[e,hg] at this;cases this
   rw[hget,if_neg dO,if_neg hj2,get,if_neg dO,if_neg hj2];exact⟨hG.2,rfl⟩
  ·simp only[D1.alloc,D1.kill] at a2
   rw[hget,if_neg dO,if_neg dO,get,if_neg dO,if_neg dO];exact⟨rfl,rfl,rfl⟩
 refine⟨h.step st (by simp[D1.alloc,D1.kill,St.grow,hn]) (by simp only[D1.alloc,D1.kill];have:=h.low;omega) (λj hj=>?_) (λj hd=>?_) (λj=>?_),st⟩
 ·simp only[D1.alloc,D1.kill] at hj
  rw[hget,if_neg dO,if_neg dO];exact h.hi j dO
 ·rw[hget]
  split
  ·rename_i e;rw[e,h.H7.1] at hd;cases hd
  ·split
   ·rfl
   ·exact hd
 ·by_cases e:j=σ.next
  ·right
   subst e;rw[hget,if_pos rfl,get,if_pos hn];have:((σ.kill id b).alloc (.cells c t2 z b)).live σ.next=false:=h.H7.2;rw[this];refine⟨rfl,dO,c',id::an,rfl,hc.mono st.rel,λi hi=>?_⟩;rcases Aq.1 hi with rfl | hi
   ·refine⟨?_,h1⟩
    show ((σ.kill i b).alloc (.cells c t2 z b)).heap i=.dead
    rw[hget,if_neg dO,if_pos rfl]
   ·refine⟨?_,(h4 i hi).2⟩
    show ((σ.kill id b).alloc (.cells c t2 z b)).heap i=.dead
    have hd:σ.heap i=.dead:=(h4 i hi).1;have:i≠σ.next:=λe=>by rw[e,h.H7.1] at hd;cases hd
    rw[hget,if_neg this];split
    ·rfl
    ·exact hd
  ·by_cases e':j=id
   ·right
    subst e';rw[hget,if_neg e,if_pos rfl];exact h0
   ·left
    rw[hget,if_neg e,if_neg e',get,if_neg dO,if_neg e'];exact⟨rfl,rfl,rfl⟩
end
def ja:Value->VV
 | .agg a=>.agg (a.toList.map .v)
 | .tuple a=>.tup (a.toList.map .v)
 | x=>.v x
def VV.cs:VV->List VV
 | .agg xs=>xs
 | x=>[x]
def VV.lQ:VV->Bool
 | .agg _=>false
 | .tup _=>false
 | _=>true
def FE(l:List VV):Bool:=l.all VV.lQ
def I1(agg:Bool)(l:List VV):Option VV:=if agg then some (.agg l) else match l with
 | [x]=>some x
 | _=>none
def D0(l:List VV)(o:Nat)(r:List VV):List VV:=l.take o++r++l.drop (o+r.length)
def IV:List VV->List (Nat × Nat × VV)->Option (List VV)
 | l,[]=>some l
 | l,(off,sz,v)::r=>if v.cs.length=sz/\off+sz<=l.length then IV (D0 l off v.cs) r else none
def Gj(v:Option VV)(d:Nat):Option Nat:=match v with
 | none=>some d
 | some (.v (.int _ i))=>if 0<=i then some i.toNat else none
 | _=>none
def Mm:List VV->Option (List Value)
 | []=>some []
 | .v x::r=>(Mm r).map (x::·)
 | _=>none
def rR(σ:D1)(agg:Bool)(sz:Nat)(x:VV):Option VV:=match x with
 | .ptr id o=>match σ.heap id with
  | .cells c _ _ _=>if o+sz<=c.length then I1 agg ((c.drop o).take sz) else none
  | _=>none
 | .ep xs o=>if o+sz<=xs.length then I1 agg ((xs.drop o).take sz) else none
 | _=>none
def vst(σ:D1)(sz:Nat)(p x:VV):Option D1:=match p with
 | .ptr id o=>match σ.heap id with
  | .cells c t z b=>if x.cs.length=sz/\o+sz<=c.length/\FE x.cs=true then some (σ.write id (D0 c o x.cs) t z b) else none
  | _=>none
 | _=>none
def Tu(σ:D1)(esz:Nat)(x:VV)(lo hi:Option VV):Option VV:=match x with
 | .v (.slice none 0 0)=>match Gj lo 0,Gj hi 0 with
  | some l,some h=>if l<=h/\h<=0 then some EA else none
  | _,_=>none
 | .Ie n xs=>match Gj lo 0,Gj hi n with
  | some l,some h=>if l<=h/\h<=n/\xs.length=n * esz then some (.Ie (h - l) ((xs.drop (l * esz)).take ((h - l) * esz))) else none
  | _,_=>none
 | .own _ n xs _=>match Gj lo 0,Gj hi n with
  | some l,some h=>if l<=h/\h<=n/\xs.length=n * esz then some (.Ie (h - l) ((xs.drop (l * esz)).take ((h - l) * esz))) else none
  | _,_=>none
 | .slice id o n c=>match Gj lo 0,Gj hi n,σ.heap id with
  | some l,some h,.cells _ _ z _=>if l<=h/\h<=c/\Mi (some z) esz l=true then some (.slice id (o+l * esz) (h - l) (c - l)) else none
  | _,_,_=>none
 | _=>none
def Uc(x:VV)(off:Nat):Option VV:=match x with
 | .ptr id o=>some (.ptr id (o+off))
 | .ep xs o=>some (.ep xs (o+off))
 | _=>none
def via(esz:Nat)(x i:VV):Option VV:=match x,i with
 | .slice id o n _,.v (.int _ i)=>if 0<=i/\i < n then some (.ptr id (o+i.toNat * esz)) else none
 | .Ie n xs,.v (.int _ i)=>if 0<=i/\i < n/\xs.length=n * esz then some (.ep xs (i.toNat * esz)) else none
 | .own _ n xs _,.v (.int _ i)=>if 0<=i/\i < n/\xs.length=n * esz then some (.ep xs (i.toNat * esz)) else none
 | _,_=>none
def Tv(n esz:Nat)(x i:VV):Option VV:=match i with
 | .v (.int _ i)=>if 0<=i/\i < n then Uc x (i.toNat * esz) else none
 | _=>none
def Acg(agg:Bool)(sz off:Nat)(x:VV):Option VV:=match x with
 | .agg a=>if off+sz<=a.length then I1 agg ((a.drop off).take sz) else none
 | _=>none
def Ach(n:Nat)(agg:Bool)(esz:Nat)(x i:VV):Option VV:=match x,i with
 | .agg a,.v (.int _ i)=>if 0<=i/\i < n/\i.toNat * esz+esz<=a.length then I1 agg ((a.drop (i.toNat * esz)).take esz) else none
 | _,_=>none
def gP(x:VV)(i:Nat):Option VV:=match x with
 | .tup a=>a[i]?
 | _=>none
def Mn(x:VV):Option VV:=match x with
 | .Ie n _=>some (.v (.int .i64 n))
 | .own _ n _ _=>some (.v (.int .i64 n))
 | .slice _ _ n _=>some (.v (.int .i64 n))
 | .v (.slice none 0 0)=>some (.v (.int .i64 0))
 | _=>none
def M1(op:BinOp)(x y:VV):Option VV:=match x,y with
 | .v a,.v b=>(KE op a b).map .v
 | _,_=>none
def Aci(neg:Bool)(x y:VV):Option VV:=match x,y with
 | .v (.bool a),.v (.bool b)=>some (.v (.bool (EU neg (a == b))))
 | _,_=>none
def Pj(ks:List Nat)(neg:Bool)(x y:VV):Option VV:=match x,y with
 | .agg a,.agg b=>(Mm a).bind λa=>(Mm b).bind λb=>(I7 ks a b).map λr=>.v (.bool (EU neg r))
 | _,_=>none
def wB(neg:Bool)(x y:VV):Option VV:=match x,y with
 | .ptr _ _,.v (.pointer none)=>some (.v (.bool (EU neg false)))
 | .ep _ _,.v (.pointer none)=>some (.v (.bool (EU neg false)))
 | .v (.pointer none),.v (.pointer none)=>some (.v (.bool (EU neg true)))
 | _,_=>none
def rT(neg:Bool)(x y:VV):Option VV:=match x,y with
 | .own _ _ _ _,.v (.slice none 0 0)=>some (.v (.bool (EU neg false)))
 | .slice _ _ _ _,.v (.slice none 0 0)=>some (.v (.bool (EU neg false)))
 | .Ie n _,.v (.slice none 0 0)=>if n=0 then none else some (.v (.bool (EU neg false)))
 | .v (.slice none 0 0),.v (.slice none 0 0)=>some (.v (.bool (EU neg true)))
 | _,_=>none
def vun(op:UnOp)(x:VV):Option VV:=match op,x with
 | .neg,.v (.int k n)=>some (.v (.int k (k.wrap (0 - n))))
 | .not,.v (.bool b)=>some (.v (.bool !b))
 | _,_=>none
def Ack(k:IntKind)(x:VV):Option VV:=match x with
 | .v (.int _ n)=>some (.v (.int k (k.wrap n)))
 | _=>none
def Acl(x:VV):Option VV:=match x with
 | .v (.string s)=>some (.v (.string s))
 | _=>none
def WU(x:VV):Option VV:=match x with
 | .ptr id o=>some (.ptr id o)
 | .ep xs o=>some (.ep xs o)
 | .fn f a b=>some (.fn f a b)
 | .iface t x=>some (.iface t x)
 | _=>none
def Zg(c a b:VV):Option VV:=match c with
 | .v (.bool q)=>some (if q then a else b)
 | _=>none
def rU(x:VV)(lo hi:Option VV):Option VV:=match x with
 | .v (.string s)=>match Gj lo 0,Gj hi s.size with
  | some l,some h=>if l<=h/\h<=s.size then some (.v (.string (s.extract l h))) else none
  | _,_=>none
 | _=>none
def jB(x i:VV):Option VV:=match x,i with
 | .v (.string s),.v (.int _ i)=>if 0<=i then (s[i.toNat]?).map λb=>.v (.int .u8 b.toNat) else none
 | _,_=>none
def jC(x:VV):Option VV:=match x with
 | .v (.string s)=>some (.v (.int .i64 s.size))
 | _=>none
def vmm(mx:Bool)(x:VV)(l:List VV):Option VV:=match x with
 | .v (.int k a)=>(Mm l).bind λl=>(H0 mx a k l).map .v
 | _=>none
def H9(σ:D1)(esz:Nat):VV->Option (Nat × List VV)
 | .v (.slice none 0 0)=>some (0,[])
 | .Ie n xs=>if xs.length=n * esz then some (n,xs) else none
 | .own _ n xs _=>if xs.length=n * esz then some (n,xs) else none
 | .slice id o n _=>match σ.heap id with
  | .cells c _ _ _=>if o+n * esz<=c.length then some (n,(c.drop o).take (n * esz)) else none
  | _=>none
 | _=>none
def OC(esz bytes:Nat)(s x:VV)(σ:D1):Option (VV × D1):=(H9 σ esz x).bind λp=>
 if p.1=0 then (match s with
  | .v (.slice none 0 0)=>some (s,σ)
  | .own z n xs t=>some (.own z n xs t,σ)
  | _=>none)
 else if FE p.2 && decide (0 < esz) && decide (0 < bytes) then match s with
  | .v (.slice none 0 0)=>if p.1 * bytes<=reach then some (.own esz p.1 (p.2.map VV.fg) σ.next,σ.Eg) else none
  | .own z n xs t=>if σ.live t=true/\z=esz/\(n+p.1) * bytes<=reach then some (.own esz (n+p.1) (xs++p.2.map VV.fg) σ.next,σ.Fx t) else none
  | _=>none
 else none
def Mo(e:TypeId)(esz bytes:Nat)(s x:VV)(σ:D1):Option (VV × D1):=(H9 σ esz x).bind λp=>
 if p.1=0 then (match s with
  | .v (.slice none 0 0)=>some (s,σ)
  | .slice id o n c=>some (.slice id o n c,σ)
  | _=>none)
 else if FE p.2 && decide (0 < esz) && decide (0 < bytes) then match s with
  | .v (.slice none 0 0)=>if p.1 * bytes<=reach then some (.slice σ.next 0 p.1 p.1,σ.box p.2 e esz) else none
  | .slice id o n c=>match σ.heap id with
   | .cells cc t z b=>if z=esz/\n=c/\o+n * esz=cc.length then
     (if (n+p.1) * bytes<=reach then some (.slice σ.next 0 (n+p.1) (n+p.1),(σ.kill id b).alloc (.cells (cc.drop o++p.2) e esz b)) else none)
    else if z=esz/\n+p.1<=c/\o+(n+p.1) * esz<=cc.length then some (.slice id o (n+p.1) c,σ.write id (D0 cc (o+n * esz) p.2) t z b) else none
   | _=>none
  | _=>none
 else none
def jD(esz:Nat)(d s:VV)(σ:D1):Option (VV × D1):=match d with
 | .slice id o n _=>(H9 σ esz s).bind λp=>if min p.1 n=0 then some (.v (.int .i64 0),σ) else match σ.heap id with
  | .cells cc t z b=>if o+min p.1 n * esz<=cc.length/\FE p.2=true then some (.v (.int .i64 (min p.1 n:Nat)),σ.write id (D0 cc o (p.2.take (min p.1 n * esz))) t z b) else none
  | _=>none
 | _=>none
def wF(esz:Nat)(z:List Value)(x:VV)(σ:D1):Option (VV × D1):=match x with
 | .v (.slice none 0 0)=>some (.tup [],σ)
 | .slice id o n _=>if n=0 then some (.tup [],σ) else match σ.heap id with
  | .cells cc t zz b=>if z.length=esz/\o+n * esz<=cc.length/\EC z=true then some (.tup [],σ.write id (D0 cc o ((rep n z).map .v)) t zz b) else none
  | _=>none
 | _=>none
def xz(e:TypeId)(esz bytes:Nat)(z:List Value)(l c:VV)(σ:D1):Option (VV × D1):=match l,c with
 | .v (.int _ l),.v (.int _ c)=>if 0<=l/\l<=c/\bytes * c.toNat<=reach/\0 < bytes/\z.length=esz/\EC z=true then some (.slice σ.next 0 l.toNat c.toNat,σ.box ((rep c.toNat z).map .v) e esz) else none
 | _,_=>none
def jE(o:Gk)(ρ:Operand->VV)(σ:D1):Option (VV × D1):=
 match o with
 | .mv x=>some (ρ x,σ)
 | .pick c a b=>(Zg (ρ c) (ρ a) (ρ b)).map λv=>(v,σ)
 | .box t x=>if FE (ρ x).cs then some (.ptr σ.next 0,σ.box (ρ x).cs t (ρ x).cs.length) else none
 | .zero t z=>if EC z.cells.toList then some (.ptr σ.next 0,σ.box (z.cells.toList.map .v) t z.cells.toList.length) else none
 | .load agg sz x=>(rR σ agg sz (ρ x)).map λv=>(v,σ)
 | .store sz a x=>(vst σ sz (ρ a) (ρ x)).map λσ'=>(.tup [],σ')
 | .nilck x=>(WU (ρ x)).map λv=>(v,σ)
 | .bin op x y=>(M1 op (ρ x) (ρ y)).map λv=>(v,σ)
 | .eqb neg x y=>(Aci neg (ρ x) (ρ y)).map λv=>(v,σ)
 | .eqf ks neg x y=>(Pj ks neg (ρ x) (ρ y)).map λv=>(v,σ)
 | .eqp neg x y=>(wB neg (ρ x) (ρ y)).map λv=>(v,σ)
 | .eqs neg x y=>(rT neg (ρ x) (ρ y)).map λv=>(v,σ)
 | .un op x=>(vun op (ρ x)).map λv=>(v,σ)
 | .cvi k x=>(Ack k (ρ x)).map λv=>(v,σ)
 | .EX x=>(Acl (ρ x)).map λv=>(v,σ)
 | .mkIface t x=>some (.iface t (ρ x),σ)
 | .mkFunc f a b=>some (.fn f (a.toList.map ρ) (b.toList.map ρ),σ)
 | .mkSlice e esz bytes z l c=>xz e esz bytes z (ρ l) (ρ c) σ
 | .sl esz x lo hi=>(Tu σ esz (ρ x) (lo.map ρ) (hi.map ρ)).map λv=>(v,σ)
 | .slStr x lo hi=>(rU (ρ x) (lo.map ρ) (hi.map ρ)).map λv=>(v,σ)
 | .fa off x=>(Uc (ρ x) off).map λv=>(v,σ)
 | .fld agg sz off x=>(Acg agg sz off (ρ x)).map λv=>(v,σ)
 | .ia esz x i=>(via esz (ρ x) (ρ i)).map λv=>(v,σ)
 | .iaArr n esz x i=>(Tv n esz (ρ x) (ρ i)).map λv=>(v,σ)
 | .idx n agg esz x i=>(Ach n agg esz (ρ x) (ρ i)).map λv=>(v,σ)
 | .idxStr x i=>(jB (ρ x) (ρ i)).map λv=>(v,σ)
 | .ext x i=>(gP (ρ x) i).map λv=>(v,σ)
 | .build z parts=>(IV (z.map .v) (parts.map λp=>(p.1,p.2.1,ρ p.2.2))).map λl=>(.agg l,σ)
 | .len x=>(Mn (ρ x)).map λv=>(v,σ)
 | .lenStr x=>(jC (ρ x)).map λv=>(v,σ)
 | .copy esz d s=>jD esz (ρ d) (ρ s) σ
 | .clr esz z x=>wF esz z (ρ x) σ
 | .minmax mx x l=>(vmm mx (ρ x) (l.map ρ)).map λv=>(v,σ)
 | _=>none
def vbs(e:TypeId)(esz n:Nat)(z:List Value)(parts:List (Nat × Nat × VV))(σ:D1):Option (VV × D1):=if z.length=esz then (IV ((rep n z).map .v) parts).bind λl=>if FE l then some (.own esz n (l.map VV.fg) σ.next,σ.Eg) else none else none
def rV(e:TypeId)(esz n:Nat)(z:List Value)(parts:List (Nat × Nat × VV))(σ:D1):Option (VV × D1):=if z.length=esz then (IV ((rep n z).map .v) parts).bind λl=>if FE l then some (.slice σ.next 0 n n,σ.box l e esz) else none else none
section
variable {G:Nat->Prop}{S:St}
def Ej.ja{v:Value}(h:FB v=true):Ej G S (ja v) v:=by
 unfold FB at h;split at h
 ·rename_i a
  have:=Ee.flat (G:=G) (S:=S) h;exact .agg _ _ iN (λi h1 h2=>by
   have:=this.2 i h1 ad0;rw[Ck] at this;exact this)
 ·rename_i a
  have:=Ee.flat (G:=G) (S:=S) h;exact .tup _ _ iN (λi h1 h2=>by
   have:=this.2 i h1 ad0;rw[Ck] at this;exact this)
 ·rename_i n1 n2
  unfold Go.Proofs.YtkkpchcniicimaaGreat.ja;split
  ·exact (n1 _ rfl).elim
  ·exact (n2 _ rfl).elim
  ·exact .v _ h
def Ej.cells{x:VV}{x':Value}(h:Ej G S x x'):Ee G S x.cs x'.cells.toList:=by
 have one:∀ {x:VV} {x':Value},Ej G S x x'->Ee G S [x] [x']:=λh=>.cons h .nil
 cases h with
 | v x h=>cases x'<;>first | (simp[GN] at h;done) | exact one (.v _ h)
 | agg xs a hs h=>exact⟨by simp[VV.cs,Value.cells,hs],λi h1 h2=>h i h1 h2⟩
 | ptr id o=>exact one (.ptr _ _)
 | lstNil=>exact one .lstNil
 | Ie z id o n c cc t xs hG hl hn hx hb h=>exact one (.Ie z id o n c cc t xs hG hl hn hx hb h)
 | own z id n cc t xs hG hl hx hb h=>exact one (.own z id n cc t xs hG hl hx hb h)
 | slice id o n c=>exact one (.slice _ _ _ _)
 | ep z id o b cc t xs hG hl hb h=>exact one (.ep z id o b cc t xs hG hl hb h)
 | tup xs a hs h=>exact one (.tup xs a hs h)
 | fn f a b a' b' ha hb h1 h2=>exact one (.fn f a b a' b' ha hb h1 h2)
 | yield id=>exact one (.yield _)
 | map id=>exact one (.map _)
 | iface t x x' h=>exact one (.iface t x x' h)
 | Fy=>exact one .Fy
def Ej.lQ{x:VV}{x':Value}(h:Ej G S x x'):x.lQ=x'.oneCell':=by
 cases h with
 | v x h=>rw[P1 h];rfl
 | _=>rfl
def Ee.all{x:List VV}{x':List Value}(h:Ee G S x x'):FE x=E5 x':=by
 obtain⟨h1,h2⟩:=h;rw[Bool.eq_iff_iff];simp only[FE,E5,At];constructor
 ·intro k v hv
  obtain⟨i,hi,rfl⟩:=AN hv;rw[<- (h2 i dO hi).lQ];exact k _ (Ao _)
 ·intro k v hv
  obtain⟨i,hi,rfl⟩:=AN hv;rw[(h2 i hi dO).lQ];exact k _ (Ao _)
def Ee.I1{agg:Bool}{l:List VV}{l':List Value}(h:Ee G S l l'){x:VV}(hx:I1 agg l=some x):∃ x',Hj agg l'=some x'/\Ej G S x x':=by
 unfold Go.Proofs.YtkkpchcniicimaaGreat.I1 at hx;unfold Hj;split at hx
 ·obtain rfl:=Aa hx
  rename_i e;rw[if_pos e];exact⟨_,rfl,.agg _ _ (by simp[h.1]) (λi h1 h2=>by simpa using h.2 i h1 ad0)⟩
 ·rename_i e
  rw[if_neg e];split at hx
  ·obtain rfl:=Aa hx
   obtain⟨h1,h2⟩:=h
   match l',h1,h2 with
   | [y],_,h2=>exact⟨y,rfl,h2 0 iN iN⟩
  ·cases hx
def Ee.D0{l r:List VV}{l' r':List Value}(h:Ee G S l l')(k:Ee G S r r')(o:Nat):Ee G S (D0 l o r) (EO l' o r'):=by
 unfold Go.Proofs.YtkkpchcniicimaaGreat.D0 EO;rw[k.1];exact ((h.take o).append k).append (h.drop _)
def Ee.IV:∀ {ps:List (Nat × Nat × VV)} {ps':List (Nat × Nat × Value)} {l:List VV} {l':List Value},Ee G S l l'->ps.length=ps'.length->(∀ i (h1:i < ps.length) (h2:i < ps'.length),ps[i].1=ps'[i].1/\ps[i].2.1=ps'[i].2.1/\Ej G S ps[i].2.2 ps'[i].2.2)->
  ∀ {r:List VV},IV l ps=some r->∃ r',Hk l' ps'=some r'/\Ee G S r r':=by
 intro ps
 induction ps with
 | nil=>
  intro ps' l l' h hlen hp r hr;obtain rfl:ps'=[]:=Ak (by simpa using hlen.symm);obtain rfl:=Aa hr;exact⟨l',rfl,h⟩
 | cons p ps ih=>
  intro ps' l l' h hlen hp r hr
  match ps' with
  | []=>simp at hlen
  | q::ps'=>
   obtain⟨o,s,v⟩:=p;obtain⟨o',s',v'⟩:=q;obtain⟨e1,e2,e3⟩:=hp 0 iN iN;simp only[BB] at e1 e2 e3;subst e1 e2;simp only[Go.Proofs.YtkkpchcniicimaaGreat.IV] at hr;split at hr
   case isFalse=>cases hr
   rename_i hc;have hcs:=e3.cells;simp only[Hk];rw[if_pos ⟨by have:=hcs.1;simp at this;omega,by rw[<- h.1];exact hc.2⟩];exact ih (h.D0 hcs o) (by simpa using hlen) (λi h1 h2=>hp (i+1) ac0 ad0) hr
def gQ{x:Option VV}{x':Option Value}(h:∀ u,x=some u->∃ u',x'=some u'/\Ej G S u u')(hn:x=none->x'=none){d k:Nat}(hb:Gj x d=some k):bound x' d=some k:=by
 cases x with
 | none=>rw[hn rfl];exact hb
 | some u=>
  obtain⟨u',e,hr⟩:=h u rfl;subst e;unfold Gj at hb;split at hb
  ·rename_i e;cases e
  ·rename_i e
   obtain rfl:=Aa e;cases hr;exact hb
  ·cases hb
def Nw:∀ {l:List VV} {l':List Value} {r:List Value},Ee G S l l'->Mm l=some r->l'=r:=by
 intro l
 induction l with
 | nil=>
  intro l' r h hr;obtain rfl:=Aa hr;exact Ak h.1.symm
 | cons x l ih=>
  intro l' r h hr
  match l',h with
  | y::l',h=>
   have hy:=h.2 0 iN iN;have ht:Ee G S l l':=⟨by simpa using h.1,λi h1 h2=>h.2 (i+1) ac0 ad0⟩
   unfold Mm at hr;split at hr
   ·rename_i e;cases e
   ·rename_i e
    obtain⟨rfl,rfl⟩:=List.cons.inj e;simp only[Ab] at hr;obtain⟨r0,h1,rfl⟩:=hr;simp only[BB] at hy;cases hy;rw[ih ht h1]
   ·cases hr
end
theorem K3{b:FH}{cc:List Value}{t:TypeId}{z:Nat}(h:b.look=some (cc,t,z)):∃ m an,b=.cells cc t z m an:=by
 cases b with
 | gone=>cases h
 | obj o=>cases h
 | cells c t' z' m an=>
  simp only[FH.look,AE,AA] at h;obtain⟨rfl,rfl,rfl⟩:=h;exact⟨m,an,rfl⟩
theorem U6{α:Type}(cc:List α)(b o L sz:Nat)(h:o+sz<=L):(((cc.drop b).take L).drop o).take sz=(cc.drop (b+o)).take sz:=by
 rw[CJ,CK,BV,Bl dO]
section
variable {σ:D1}{S:St}(hs:E9 σ S)
include hs
theorem E9.cells{id:Nat}{c:List VV}{t:TypeId}{z b:Nat}(hg:σ.heap id=.cells c t z b):∃ c' an,S.get id=.cells c' t z true an/\Ee σ.G S c c':=by
 have:=hs.IM id;rw[hg] at this;obtain⟨_,_,c',an,h1,h2,_⟩:=this;exact⟨c',an,h1,h2⟩
theorem U7{agg:Bool}{sz:Nat}{x:VV}{x':Value}(hx:Ej σ.G S x x'){v:VV}(h:rR σ agg sz x=some v):∃ id o c v',x'=.pointer (some ⟨id,o,none⟩)/\S.rd id o sz=some c/\Hj agg c=some v'/\Ej σ.G S v v':=by
 unfold rR at h;split at h
 ·rename_i id o
  split at h
  case h_2=>cases h
  rename_i c t z b hg;split at h
  case isFalse=>cases h
  rename_i hle;obtain⟨c',an,h1,h2⟩:=hs.cells hg;cases hx;obtain⟨v',k1,k2⟩:=((h2.drop o).take sz).I1 h;refine⟨id,o,_,v',rfl,?_,k1,k2⟩;simp only[St.rd,h1];rw[if_pos (by rw[<- h2.1];exact hle)]
 ·rename_i xs o
  split at h
  case isFalse=>cases h
  rename_i hle;cases hx with
  | ep z id _ b cc t _ hG hl hb hx=>
   obtain⟨m,an,hg⟩:=K3 hl;obtain⟨v',k1,k2⟩:=(((Ee.part hb hx).drop o).take sz).I1 h;rw[U6 _ _ _ _ _ hle] at k1;refine⟨id,b+o,_,v',rfl,?_,k1,k2⟩;simp only[St.rd,hg];rw[if_pos dO]
 ·cases h
theorem mJ{sz:Nat}{p x:VV}{p' x':Value}(hp:Ej σ.G S p p')(hx:Ej σ.G S x x'){σ':D1}(h:vst σ sz p x=some σ') :
  ∃ id o c t z an,p'=.pointer (some ⟨id,o,none⟩)/\S.get id=.cells c t z true an/\x'.cells.size=sz/\o+sz<=c.length/\E5 x'.cells.toList=true/\E9 σ' (S.write id (EO c o x'.cells.toList) t z an)/\ER σ S σ' (S.write id (EO c o x'.cells.toList) t z an):=by
 unfold vst at h;split at h
 case h_2=>cases h
 rename_i id o;split at h
 case h_2=>cases h
 rename_i c t z b hg;split at h
 case isFalse=>cases h
 rename_i hc;obtain rfl:=Aa h;cases hp;obtain⟨c',an,h1,h2,h3⟩:=hs.WT hg;have hcs:=hx.cells;have:=h3 _ _ (h2.D0 hcs o);refine⟨id,o,c',t,z,an,rfl,h1,by have:=hcs.1;simp at this;omega,by rw[<- h2.1];exact hc.2.1,by rw[<- hcs.all];exact hc.2.2,this.1,this.2⟩
theorem M3{esz:Nat}{x:VV}{x':Value}(hx:Ej σ.G S x x'){n:Nat}{ys:List VV}(h:H9 σ esz x=some (n,ys)):MH x'=some n/\∃ ys',S.elems esz x'=some ys'/\Ee σ.G S ys ys'/\ys.length=n * esz:=by
 unfold H9 at h;split at h
 ·obtain⟨rfl,rfl⟩:=Ai (Aa h)
  cases hx
  exact⟨rfl,[],rfl,.nil,iN⟩
 ·split at h
  case isFalse=>cases h
  rename_i n' xs hl;obtain⟨rfl,rfl⟩:=Ai (Aa h);cases hx with
  | lstNil=>exact⟨rfl,[],rfl,.nil,iN⟩
  | Ie z id o _ c cc t _ hG hlk hn hx hb hh=>
   obtain⟨m,an,hg⟩:=K3 hlk;refine⟨rfl,(cc.drop o).take xs.length,?_,Ee.part hb hh,hl⟩;simp only[St.elems,St.rd,hg];rw[hl,if_pos dO]
 ·split at h
  case isFalse=>cases h
  rename_i n' xs t' hl;obtain⟨rfl,rfl⟩:=Ai (Aa h);cases hx with
  | own z id _ cc t _ hG hlk hx hb hh=>
   obtain⟨m,an,hg⟩:=K3 hlk;refine⟨rfl,cc,?_,⟨hb,hh⟩,hl⟩;simp only[St.elems,St.rd,hg];rw[if_pos dO,Bu,Aj dO]
 ·rename_i id o n' c'
  split at h
  case h_2=>cases h
  rename_i c t z b hg;split at h
  case isFalse=>cases h
  rename_i hle;obtain⟨rfl,rfl⟩:=Ai (Aa h);cases hx;obtain⟨c',an,h1,h2⟩:=hs.cells hg;refine⟨rfl,(c'.drop o).take (n' * esz),?_,(h2.drop o).take _,aa0⟩;simp only[St.elems,St.rd,h1];rw[if_pos (by rw[<- h2.1];exact hle)]
 ·cases h
theorem mK{esz:Nat}{x:VV}{x':Value}(hx:Ej σ.G S x x'){lo hi:Option VV}{lo' hi':Option Value}(hlo:∀ d k,Gj lo d=some k->bound lo' d=some k)(hhi:∀ d k,Gj hi d=some k->bound hi' d=some k){v:VV}(h:Tu σ esz x lo hi=some v) :
  ∃ a n c l hh v',x'=.slice a n c/\bound lo' 0=some l/\bound hi' n=some hh/\l<=hh/\hh<=c/\H8 S esz l hh c a=some (v',S)/\Ej σ.G S v v':=by
 have Ie:∀ {n l hh:Nat} {xs:List VV},Ej σ.G S (.Ie n xs) x'->l<=hh->hh<=n->xs.length=n * esz->bound lo' 0=some l->bound hi' n=some hh->
   ∃ a n' c l' hh' v',x'=.slice a n' c/\bound lo' 0=some l'/\bound hi' n'=some hh'/\l'<=hh'/\hh'<=c/\H8 S esz l' hh' c a=some (v',S)/\Ej σ.G S (.Ie (hh - l) ((xs.drop (l * esz)).take ((hh - l) * esz))) v':=by
  intro n l hh xs hx h1 h2 h3 hl hh';cases hx with
  | lstNil=>
   obtain rfl:hh=0:=dO
   obtain rfl:l=0:=dO
   exact⟨none,0,0,0,0,.slice none 0 0,rfl,hl,hh',dO,dO,by simp[H8],by simpa using Ej.lstNil⟩
  | Ie z id o _ c cc t _ hG hlk hn hxl hb hxx=>
   obtain⟨m,an,hg⟩:=K3 hlk;have hw:S.width id=some z:=by unfold St.width;rw[hg]
   have hfit:Mi (S.width id) esz l=true:=by
    rw[hw];by_cases hl0:l=0
    ·subst hl0;exact eU _ _
    ·have:z=esz:=by
      have:n * z=n * esz:=dO
      exact Dm dO this
     rw[this];exact Sp _ _
   refine⟨_,n,c,l,hh,.slice (some ⟨id,o+l * esz,none⟩) (hh - l) (c - l),rfl,hl,hh',h1,dO,by simp only[H8,hfit,if_true],?_⟩;have hmul:hh * esz<=n * esz:=AL _ h2;have hmul2:(hh - l) * esz+l * esz=hh * esz:=by rw[<- Bd];congr 1;omega
   have hpart:(xs.drop (l * esz)).take ((hh - l) * esz)=((xs.drop (l * esz)).take ((hh - l) * esz)):=rfl;have hlen:((xs.drop (l * esz)).take ((hh - l) * esz)).length=(hh - l) * esz:=aa0
   refine .Ie z id (o+l * esz) (hh - l) (c - l) cc t _ hG hlk dO ?_ (by rw[hlen];omega) ?_
   ·rw[hlen]
    have e1:n * z=n * esz:=dO
    by_cases hn0:n=0
    ·have:hh=0:=dO
     have:l=0:=dO
     subst l;subst hh;simp
    ·have:z=esz:=Dm dO e1
     rw[this]
   ·refine Ee.wE ?_ (by rw[hlen];omega)
    have:=((Ee.part hb hxx).drop (l * esz)).take ((hh - l) * esz);rw[U6 _ _ _ _ _ dO] at this;rw[hlen];exact this
 unfold Tu at h;split at h
 ·split at h
  case h_2=>cases h
  rename_i l hh e1 e2;split at h
  case isFalse=>cases h
  rename_i hc;obtain rfl:=Aa h;cases hx;have e1:=hlo _ _ e1;have e2:=hhi _ _ e2;exact⟨none,0,0,l,hh,.slice none 0 0,rfl,e1,e2,hc.1,hc.2,by simp[H8],.v _ rfl⟩
 ·split at h
  case h_2=>cases h
  rename_i l hh e1 e2;split at h
  case isFalse=>cases h
  rename_i hc;obtain rfl:=Aa h;exact Ie hx hc.1 hc.2.1 hc.2.2 (hlo _ _ e1) (hhi _ _ e2)
 ·split at h
  case h_2=>cases h
  rename_i z n xs t l hh e1 e2;split at h
  case isFalse=>cases h
  rename_i hc;obtain rfl:=Aa h;refine Ie ?_ hc.1 hc.2.1 hc.2.2 (hlo _ _ e1) (hhi _ _ e2);cases hx with
  | own _ _ _ cc t _ hG hlk hxl hb hx=>exact .Ie _ _ 0 _ _ cc _ _ hG hlk (Af _) hxl (by rw[A8];exact Di hb) (λi h1 h2=>by simpa using hx i h1 dO)
 ·rename_i id o n c
  split at h
  case h_2=>cases h
  rename_i l hh c0 t z b e1 e2 hg;split at h
  case isFalse=>cases h
  rename_i hc;obtain rfl:=Aa h;cases hx;obtain⟨c',an,h1,h2⟩:=hs.cells hg;have hw:S.width id=some z:=by unfold St.width;rw[h1]
  exact⟨_,n,c,l,hh,_,rfl,hlo _ _ e1,hhi _ _ e2,hc.1,hc.2.1,by simp only[H8,hw,hc.2.2,if_true],.slice _ _ _ _⟩
 ·cases h
theorem Tw{x:VV}{x':Value}(hx:Ej σ.G S x x'){off:Nat}{v:VV}(h:Uc x off=some v):∃ id o,x'=.pointer (some ⟨id,o,none⟩)/\Ej σ.G S v (.pointer (some ⟨id,o+off,none⟩)):=by
 unfold Uc at h;split at h
 ·obtain rfl:=Aa h
  cases hx
  exact⟨_,_,rfl,.ptr _ _⟩
 ·obtain rfl:=Aa h
  cases hx with
  | ep z id _ b cc t _ hG hl hb hx=>
   refine⟨_,_,rfl,?_⟩;rw[Bv];exact .ep z id _ b cc t _ hG hl hb hx
 ·cases h
theorem mL{esz:Nat}{x i:VV}{x' i':Value}(hx:Ej σ.G S x x')(hi:Ej σ.G S i i'){v:VV}(h:via esz x i=some v):∃ id o n c k j,x'=.slice (some ⟨id,o,none⟩) n c/\i'=.int k j/\0<=j/\j < n/\Ej σ.G S v (.pointer (some ⟨id,o+j.toNat * esz,none⟩)):=by
 unfold via at h;split at h
 ·split at h
  case isFalse=>cases h
  rename_i hc;obtain rfl:=Aa h;cases hx;cases hi;exact⟨_,_,_,_,_,_,rfl,rfl,hc.1,hc.2,.ptr _ _⟩
 ·split at h
  case isFalse=>cases h
  rename_i hc;obtain rfl:=Aa h;cases hi;cases hx with
  | lstNil=>omega
  | Ie z id o _ c cc t _ hG hlk hn hxl hb hx=>exact⟨_,_,_,_,_,_,rfl,rfl,hc.1,hc.2.1,.ep z id _ o cc t _ hG hlk hb hx⟩
 ·split at h
  case isFalse=>cases h
  rename_i hc;obtain rfl:=Aa h;cases hi;cases hx with
  | own z id _ cc t _ hG hlk hxl hb hx=>
   exact⟨_,_,_,_,_,_,rfl,rfl,hc.1,hc.2.1,.ep _ _ _ 0 cc t _ hG hlk (by rw[A8];exact Di hb) (λi h1 h2=>by simpa using hx i h1 dO)⟩
 ·cases h
theorem Tx{e:TypeId}{esz bytes:Nat}{s x:VV}{s' x':Value}(hsv:Ej σ.G S s s')(hx:Ej σ.G S x x'){v:VV}{σ':D1}(h:OC esz bytes s x σ=some (v,σ')) :
  ∃ v' S',G2 e esz bytes s' x' S=some (v',S')/\E9 σ' S'/\ER σ S σ' S'/\Ej σ'.G S' v v'/\JL S S'/\(s=.v (.slice none 0 0)->Ext S S'):=by
 unfold OC at h;simp only[Ae] at h;obtain⟨⟨m,ys⟩,hc,h⟩:=h;obtain⟨c1,ys',c2,c3,c4⟩:=M3 hs hx hc;unfold G2;rw[c1,c2];simp only at h |-;split at h
 ·rename_i hm
  rw[if_pos hm];split at h
  ·obtain⟨rfl,rfl⟩:=Ai (Aa h)
   cases hsv with
   | v _ hf=>exact⟨_,_,rfl,hs,.refl _ _,.v _ hf,JL.refl _,λ_=>Ext.refl _⟩
  ·obtain⟨rfl,rfl⟩:=Ai (Aa h)
   cases hsv with
   | own _ _ _ cc t _ hG hlk hxl hb hx=>exact⟨_,_,rfl,hs,.refl _ _,.own _ _ _ cc t _ hG hlk hxl hb hx,JL.refl _,λe=>by cases e⟩
  ·cases h
 ·rename_i hm
  rw[if_neg hm];split at h
  case isFalse=>cases h
  rename_i hall;have hall':(E5 ys' && decide (0 < esz) && decide (0 < bytes))=true:=by rw[<- c3.all];exact hall
  rw[if_pos hall'];split at h
  ·split at h
   case isFalse=>cases h
   rename_i hr;obtain⟨rfl,rfl⟩:=Ai (Aa h);cases hsv;simp only;rw[if_pos hr];obtain⟨k1,k2,k3⟩:=hs.Eg ys' e esz;refine⟨_,_,rfl,k1,k2,?_,(Ext.alloc _ _).PB,λ_=>Ext.alloc _ _⟩;rw[<- hs.next];refine .own esz σ.next m ys' e _ k3 (by rw[St.D6,if_pos hs.next];rfl) (by simpa using c4) (by simpa using c3.1) (λi h1 h2=>?_);have:=((c3.mono k2.rel).fg).2 i h1 h2;exact this
  ·rename_i z n xs t
   split at h
   case isFalse=>cases h
   rename_i hcc;obtain⟨rfl,rfl⟩:=Ai (Aa h);obtain⟨hlive,rfl,hreach⟩:=hcc;cases hsv with
   | own _ _ _ cc tt _ hG hlk hxl hb hx=>
    have hbk:=hs.IM t;rw[hG.2,hlive] at hbk;obtain⟨cc0,t0,z0,an,hk⟩:=hbk rfl;rw[hk] at hlk;simp only[FH.look,AE,AA] at hlk;obtain⟨rfl,rfl,rfl⟩:=hlk;simp only[hk];rw[if_pos ⟨trivial,trivial,dO⟩,if_pos hreach];obtain⟨k1,k2,k3⟩:=hs.Fx hlive hk (cc0.drop 0++ys') e;refine⟨_,_,rfl,k1,k2,?_,JL.grow hk _ _,λe=>by cases e⟩;rw[<- hs.next];refine .own z0 σ.next (n+m) (cc0.drop 0++ys') e _ k3 ?_ ?_ ?_ ?_
    ·unfold St.grow
     rw[St.D6,St.Lj,if_pos hs.next];rfl
    ·rw[Ad,AJ,hxl,c4,Bd]
    ·simp[hb,c3.1]
    ·intro i h1 h2
     have h0:Ee σ.G S (xs++ys) (cc0.drop 0++ys'):=by
      rw[Bu];exact Ee.append ⟨hb,hx⟩ c3
     have h0':=h0.mono k2.rel;have ha:Ee (σ.Fx t).G (S.grow t cc0 t0 z0 an (cc0.drop 0++ys') e) (xs++ys.map VV.fg) (cc0.drop 0++ys'):=by
      rw[Bu] at h0' |-;exact Ee.append (Ee.mono k2.rel ⟨hb,hx⟩) (c3.mono k2.rel).fg
     exact ha.2 i h1 h2
  ·cases h
theorem Zh{e:TypeId}{esz bytes:Nat}{s x:VV}{s' x':Value}(hsv:Ej σ.G S s s')(hx:Ej σ.G S x x'){v:VV}{σ':D1}(h:Mo e esz bytes s x σ=some (v,σ')) :
  ∃ v' S',G2 e esz bytes s' x' S=some (v',S')/\E9 σ' S'/\ER σ S σ' S'/\Ej σ'.G S' v v':=by
 unfold Mo at h;simp only[Ae] at h;obtain⟨⟨m,ys⟩,hc,h⟩:=h;obtain⟨c1,ys',c2,c3,c4⟩:=M3 hs hx hc;unfold G2;rw[c1,c2];simp only at h |-;split at h
 ·rename_i hm
  rw[if_pos hm];split at h
  ·obtain⟨rfl,rfl⟩:=Ai (Aa h)
   cases hsv with
   | v _ hf=>exact⟨_,_,rfl,hs,.refl _ _,.v _ hf⟩
  ·obtain⟨rfl,rfl⟩:=Ai (Aa h)
   cases hsv
   exact⟨_,_,rfl,hs,.refl _ _,.slice _ _ _ _⟩
  ·cases h
 ·rename_i hm
  rw[if_neg hm];split at h
  case isFalse=>cases h
  rename_i hall;have hall':(E5 ys' && decide (0 < esz) && decide (0 < bytes))=true:=by rw[<- c3.all];exact hall
  rw[if_pos hall'];split at h
  ·split at h
   case isFalse=>cases h
   rename_i hr;obtain⟨rfl,rfl⟩:=Ai (Aa h);cases hsv;simp only;rw[if_pos hr];obtain⟨k1,k2⟩:=hs.Tt c3 e esz;refine⟨_,_,rfl,k1,k2,?_⟩;rw[<- hs.next];exact .slice _ _ _ _
  ·rename_i id o n c
   split at h
   case h_2=>cases h
   rename_i cc t z b hg;cases hsv;split at h
   ·rename_i hcc
    split at h
    case isFalse=>cases h
    rename_i hr;obtain⟨rfl,rfl⟩:=Ai (Aa h);obtain⟨c0',an,k1,k2,k3⟩:=hs.Acf hg;obtain⟨k4,k5⟩:=k3 (cc.drop o++ys) (c0'.drop o++ys') e ((k2.drop o).append c3);simp only[k1];rw[if_pos ⟨hcc.1,hcc.2.1,by rw[<- k2.1];exact hcc.2.2⟩,if_pos hr];obtain rfl:=hcc.1;refine⟨_,_,rfl,k4,k5,?_⟩;rw[<- hs.next];exact .slice _ _ _ _
   ·rename_i hcc
    split at h
    case isFalse=>cases h
    rename_i hc2;obtain⟨rfl,rfl⟩:=Ai (Aa h);obtain⟨c0',an,k1,k2,k3⟩:=hs.WT hg;obtain⟨k4,k5⟩:=k3 _ _ (k2.D0 c3 (o+n * esz));simp only[k1];rw[if_neg (by rw[<- k2.1];exact hcc),if_pos ⟨hc2.1,hc2.2.1,by rw[<- k2.1];exact hc2.2.2⟩];exact⟨_,_,rfl,k4,k5,.slice _ _ _ _⟩
  ·cases h
end
theorem WW{mx:Bool}{k:IntKind}{r:Value}:∀ {l:List Value} {a:Int},H0 mx a k l=some r->GN r=true:=by
 intro l
 induction l with
 | nil=>intro a h;obtain rfl:=Aa h;rfl
 | cons b l ih=>
  intro a h;cases b with
  | int j b=>
   simp only[H0] at h;split at h
   ·exact ih h
   ·cases h
  | _=>simp[H0] at h
section
variable {σ:D1}{S:St}(hs:E9 σ S)
include hs
theorem Zi{esz:Nat}{d x:VV}{d' x':Value}(hd:Ej σ.G S d d')(hx:Ej σ.G S x x'){v:VV}{σ':D1}(h:jD esz d x σ=some (v,σ')) :
  ∃ v' S',QC esz d' x' S=some (v',S')/\E9 σ' S'/\ER σ S σ' S'/\Ej σ'.G S' v v':=by
 unfold jD at h;split at h
 case h_2=>cases h
 rename_i id o n c;simp only[Ae] at h;obtain⟨⟨m,ys⟩,hc,h⟩:=h;obtain⟨c1,ys',c2,c3,c4⟩:=M3 hs hx hc;cases hd;unfold QC;rw[c1,c2];simp only at h |-;split at h
 ·rename_i h0
  obtain⟨rfl,rfl⟩:=Ai (Aa h);rw[if_pos h0];exact⟨_,_,rfl,hs,.refl _ _,.v _ rfl⟩
 ·rename_i h0
  rw[if_neg h0];split at h
  case h_2=>cases h
  rename_i cc t z b hg;split at h
  case isFalse=>cases h
  rename_i hcc;obtain⟨rfl,rfl⟩:=Ai (Aa h);obtain⟨c0',an,k1,k2,k3⟩:=hs.WT hg;obtain⟨k4,k5⟩:=k3 _ _ (k2.D0 (c3.take (min m n * esz)) o);simp only[k1];rw[if_pos ⟨by rw[<- k2.1];exact hcc.1,by rw[<- c3.all];exact hcc.2⟩];exact⟨_,_,rfl,k4,k5,.v _ rfl⟩
theorem gR{esz:Nat}{z:List Value}{x:VV}{x':Value}(hx:Ej σ.G S x x'){v:VV}{σ':D1}(h:wF esz z x σ=some (v,σ')) :
  ∃ v' S',XA esz z x' S=some (v',S')/\E9 σ' S'/\ER σ S σ' S'/\Ej σ'.G S' v v':=by
 have hu:∀ {G:Nat->Prop} {S:St},Ej G S (.tup []) (.tuple #[]):=.tup _ _ rfl (λi h=>by simp at h);unfold wF at h;split at h
 case h_3=>cases h
 ·obtain⟨rfl,rfl⟩:=Ai (Aa h)
  cases hx
  exact⟨_,_,rfl,hs,.refl _ _,hu⟩
 ·rename_i id o n c
  cases hx
  simp only[XA];split at h
  ·rename_i h0
   obtain⟨rfl,rfl⟩:=Ai (Aa h);rw[if_pos h0];exact⟨_,_,rfl,hs,.refl _ _,hu⟩
  ·rename_i h0
   rw[if_neg h0];split at h
   case h_2=>cases h
   rename_i cc t zz b hg;split at h
   case isFalse=>cases h
   rename_i hcc;obtain⟨rfl,rfl⟩:=Ai (Aa h);obtain⟨c0',an,k1,k2,k3⟩:=hs.WT hg;obtain⟨k4,k5⟩:=k3 _ _ (k2.D0 (Ee.flat (Je hcc.2.2 n)) o);simp only[k1];rw[if_pos ⟨hcc.1,by rw[<- k2.1];exact hcc.2.1,Ll hcc.2.2⟩];exact⟨_,_,rfl,k4,k5,hu⟩
theorem OD{ρ:Operand->VV}{ρ':Operand->Value}(hρ:∀ x,E3 x=true->Ej σ.G S (ρ x) (ρ' x)){ps:List (Nat × Nat × Operand)}(hp:KW ps=true){l:List VV}{l':List Value}(hl:Ee σ.G S l l'){r:List VV}(h:IV l (ps.map λp=>(p.1,p.2.1,ρ p.2.2))=some r) :
  ∃ r',Hk l' (ps.map λp=>(p.1,p.2.1,ρ' p.2.2))=some r'/\Ee σ.G S r r':=by
 refine hl.IV iN (λi h1 h2=>?_) h;simp only[AZ,true_and];refine hρ _ ?_;simp only[KW,At] at hp;exact hp _ (Ao _)
theorem mM{e:TypeId}{esz n:Nat}{z:List Value}(hz:EC z=true){ρ:Operand->VV}{ρ':Operand->Value}(hρ:∀ x,E3 x=true->Ej σ.G S (ρ x) (ρ' x)){ps:List (Nat × Nat × Operand)}(hp:KW ps=true){v:VV}{σ':D1}
  (h:vbs e esz n z (ps.map λp=>(p.1,p.2.1,ρ p.2.2)) σ=some (v,σ')) :
  ∃ v' S',EF (.buildSlice e esz n z ps) ρ' S=some (v',S')/\E9 σ' S'/\ER σ S σ' S'/\Ej σ'.G S' v v':=by
 unfold vbs at h;split at h
 case isFalse=>cases h
 rename_i hze;simp only[Ae] at h;obtain⟨l,hl,h⟩:=h;split at h
 case isFalse=>cases h
 rename_i hall;obtain⟨rfl,rfl⟩:=Ai (Aa h);obtain⟨r',k1,k2⟩:=OD hs hρ hp (Ee.flat (Je hz n)) hl;obtain⟨q1,q2,q3⟩:=hs.Eg r' e esz;refine⟨_,_,by simp only[EF];rw[if_pos hze,k1];simp only[Az];rw[if_pos (by rw[<- k2.all];exact hall)],q1,q2,?_⟩;have hlen:l.length=n * esz:=by
  have hl0:∀ {ps:List (Nat × Nat × VV)} {l r:List VV},IV l ps=some r->r.length=l.length:=by
   intro ps
   induction ps with
   | nil=>intro l r h;obtain rfl:=Aa h;rfl
   | cons p ps ih=>
    intro l r h;obtain⟨o,s,v⟩:=p;simp only[IV] at h;split at h
    case isFalse=>cases h
    rename_i hc;rw[ih h];simp only[D0,Ad,As,AI];omega
  rw[hl0 hl,AJ,rep,List.length_flatten];simp[hze]
 rw[<- hs.next];refine .own esz σ.next n r' e _ q3 (by rw[St.D6,if_pos hs.next];rfl) (by simpa using hlen) (by simpa using k2.1) (λi h1 h2=>?_);exact ((k2.mono q2.rel).fg).2 i h1 h2
theorem gS{e:TypeId}{esz n:Nat}{z:List Value}(hz:EC z=true){ρ:Operand->VV}{ρ':Operand->Value}(hρ:∀ x,E3 x=true->Ej σ.G S (ρ x) (ρ' x)){ps:List (Nat × Nat × Operand)}(hp:KW ps=true){v:VV}{σ':D1}
  (h:rV e esz n z (ps.map λp=>(p.1,p.2.1,ρ p.2.2)) σ=some (v,σ')) :
  ∃ v' S',EF (.buildSlice e esz n z ps) ρ' S=some (v',S')/\E9 σ' S'/\ER σ S σ' S'/\Ej σ'.G S' v v':=by
 unfold rV at h;split at h
 case isFalse=>cases h
 rename_i hze;simp only[Ae] at h;obtain⟨l,hl,h⟩:=h;split at h
 case isFalse=>cases h
 rename_i hall;obtain⟨rfl,rfl⟩:=Ai (Aa h);obtain⟨r',k1,k2⟩:=OD hs hρ hp (Ee.flat (Je hz n)) hl;obtain⟨q1,q2⟩:=hs.Tt k2 e esz;refine⟨_,_,by simp only[EF];rw[if_pos hze,k1];simp only[Az];rw[if_pos (by rw[<- k2.all];exact hall)],q1,q2,?_⟩;rw[<- hs.next];exact .slice _ _ _ _
theorem Ls{o:Gk}{ρ:Operand->VV}{ρ':Operand->Value}(hρ:∀ x,E3 x=true->Ej σ.G S (ρ x) (ρ' x))(hok:Fz o=true){v:VV}{σ':D1}(h:jE o ρ σ=some (v,σ')) :
  ∃ v' S',EF o ρ' S=some (v',S')/\E9 σ' S'/\ER σ S σ' S'/\Ej σ'.G S' v v':=by
 have same:∀ {r:Option VV} {K:Value->Prop},(r.map λv=>(v,σ))=some (v,σ')->(∀ u,r=some u->∃ v',EF o ρ' S=some (v',S)/\Ej σ.G S u v')->∃ v' S',EF o ρ' S=some (v',S')/\E9 σ' S'/\ER σ S σ' S'/\Ej σ'.G S' v v':=by
  intro r _ h1 h2;simp only[Ab,AA] at h1;obtain⟨u,h3,rfl,rfl⟩:=h1;obtain⟨v',h4,h5⟩:=h2 _ h3;exact⟨v',S,h4,hs,.refl _ _,h5⟩
 have hopt:∀ {x:Option Operand},qn x=true->∀ d k,Gj (x.map ρ) d=some k->bound (x.map ρ') d=some k:=by
  intro x hx d k hb;refine gQ (G:=σ.G) (S:=S) (λu hu=>?_) (λe=>?_) hb
  ·cases x with
   | none=>simp at hu
   | some x=>
    simp only[AH,AE] at hu;subst hu;exact⟨_,rfl,hρ x hx⟩
  ·cases x with
   | none=>rfl
   | some x=>simp at e
 have hlist:∀ {l:List Operand},l.all E3=true->Ee σ.G S (l.map ρ) (l.map ρ'):=by
  intro l hl;refine⟨iN,λi h1 h2=>?_⟩;simp only[AZ];simp only[At] at hl;exact hρ _ (hl _ (Ao _))
 cases o<;>simp only[Fz,Al] at hok<;>simp only[jE] at h
 case mv x=>exact same (K:=λ_=>True) (r:=some (ρ x)) h λu hu=>by cases hu;exact⟨_,rfl,hρ x hok⟩
 case pick c a b=>
  refine same (K:=λ_=>True) h λu hu=>?_
  unfold Zg at hu;split at hu
  ·rename_i q e
   have hc:=hρ c hok.1.1;rw[e] at hc;have e2:ρ' c=.bool q:=by
    generalize ρ' c=y at hc;cases hc;rfl
   obtain rfl:=Aa hu;refine⟨if q=true then ρ' a else ρ' b,by simp only[EF,e2],?_⟩;cases q
   ·exact hρ b hok.2
   ·exact hρ a hok.1.2
  ·cases hu
 case box t x=>
  split at h
  case isFalse=>cases h
  rename_i hall;obtain⟨rfl,rfl⟩:=Ai (Aa h);have hc:=(hρ x hok).cells;obtain⟨q1,q2⟩:=hs.Tt hc t (ρ x).cs.length;refine⟨_,_,by simp only[EF];rw[if_pos (by rw[<- hc.all];exact hall)],?_,?_,?_⟩
  ·rw[show (ρ' x).cells.size=(ρ x).cs.length by rw[hc.1];simp];exact q1
  ·rw[show (ρ' x).cells.size=(ρ x).cs.length by rw[hc.1];simp];exact q2
  ·rw[<- hs.next];exact .ptr _ _
 case zero t z=>
  rw[if_pos hok] at h;obtain⟨rfl,rfl⟩:=Ai (Aa h);obtain⟨q1,q2⟩:=hs.Tt (Ee.flat hok) t z.cells.toList.length;refine⟨_,_,rfl,?_,?_,?_⟩
  ·rw[show z.cells.size=z.cells.toList.length by simp];exact q1
  ·rw[show z.cells.size=z.cells.toList.length by simp];exact q2
  ·rw[<- hs.next];exact .ptr _ _
 case load agg sz x=>
  refine same (K:=λ_=>True) h λu hu=>?_
  obtain⟨id,o,c,v',e,h1,h2,h3⟩:=U7 hs (hρ x hok) hu;exact⟨v',by simp only[EF,e,h1,h2,Az,AH],h3⟩
 case store sz a x=>
  simp only[Ab,AA] at h;obtain⟨σ1,h1,rfl,rfl⟩:=h;obtain⟨id,o,c,t,z,an,e,q1,q2,q3,q4,q5,q6⟩:=mJ hs (hρ a hok.1) (hρ x hok.2) h1;refine⟨undef,_,by simp only[EF,e,q1];rw[if_pos ⟨q2,q3,q4⟩],q5,q6,.tup _ _ rfl (λi h=>by simp at h)⟩
 case nilck x=>
  refine same (K:=λ_=>True) h λu hu=>?_
  have hx:=hρ x hok;unfold WU at hu;generalize hy:ρ' x=y at hx;split at hu;all_goals first | (cases hu;done) | (rename_i e;rw[e] at hx;obtain rfl:=Aa hu)
  ·cases hx;exact⟨_,by simp only[EF,hy],.ptr _ _⟩
  ·cases hx with
   | ep z id o b cc t xs hG hl hb hh=>exact⟨_,by simp only[EF,hy],.ep z id _ b cc t _ hG hl hb hh⟩
  ·cases hx with
   | fn _ _ _ a' b' h1 h2 h3 h4=>exact⟨.func (.func _) a' b',by simp only[EF,hy],.fn _ _ _ a' b' h1 h2 h3 h4⟩
  ·cases hx with
   | iface _ _ x' hh=>exact⟨.iface _ x',by simp only[EF,hy],.iface _ _ x' hh⟩
 case bin op x y=>
  refine same (K:=λ_=>True) h λu hu=>?_
  have hx:=hρ x hok.1;have hy:=hρ y hok.2;unfold M1 at hu;generalize hx':ρ' x=x' at hx;generalize hy':ρ' y=y' at hy;split at hu
  case h_2=>cases hu
  rename_i a b e1 e2;rw[e1] at hx;rw[e2] at hy;simp only[Ab] at hu;obtain⟨r,hr,rfl⟩:=hu;cases hx;cases hy;refine⟨r,by simp only[EF,hx',hy',hr,AH],.v _ ?_⟩;unfold KE at hr;split at hr
  ·unfold Mh at hr
   split at hr<;>split at hr<;>first | (cases hr;done) | (obtain rfl:=Aa hr;rfl)
  ·unfold QF at hr
   split at hr<;>first | (cases hr;done) | (obtain rfl:=Aa hr;rfl) | (split at hr<;>first | (cases hr;done) | (obtain rfl:=Aa hr;rfl))
  ·cases hr
 case eqb neg x y=>
  refine same (K:=λ_=>True) h λu hu=>?_
  have hx:=hρ x hok.1;have hy:=hρ y hok.2;unfold Aci at hu;generalize hx':ρ' x=x' at hx;generalize hy':ρ' y=y' at hy;split at hu
  case h_2=>cases hu
  rename_i a b e1 e2;rw[e1] at hx;rw[e2] at hy;obtain rfl:=Aa hu;cases hx;cases hy;exact⟨_,by simp only[EF,hx',hy'],.v _ rfl⟩
 case eqf ks neg x y=>
  refine same (K:=λ_=>True) h λu hu=>?_
  have hx:=hρ x hok.1;have hy:=hρ y hok.2;unfold Pj at hu;generalize hx':ρ' x=x' at hx;generalize hy':ρ' y=y' at hy;split at hu
  case h_2=>cases hu
  rename_i a b e1 e2;rw[e1] at hx;rw[e2] at hy;simp only[Ae,Ab] at hu;obtain⟨a1,h1,b1,h2,r,h3,rfl⟩:=hu;cases hx with
  | agg _ a' hsa ha=>
  cases hy with
  | agg _ b' hsb hb=>
  have ea:a'.toList=a1:=Nw (G:=σ.G) (S:=S) ⟨by simpa using hsa,λi k1 k2=>by simpa using ha i k1 (by simpa using k2)⟩ h1;have eb:b'.toList=b1:=Nw (G:=σ.G) (S:=S) ⟨by simpa using hsb,λi k1 k2=>by simpa using hb i k1 (by simpa using k2)⟩ h2;exact⟨_,by simp only[EF,hx',hy',ea,eb,h3,AH],.v _ rfl⟩
 case eqp neg x y=>
  refine same (K:=λ_=>True) h λu hu=>?_
  have hx:=hρ x hok.1;have hy:=hρ y hok.2;unfold wB at hu;generalize hx':ρ' x=x' at hx;generalize hy':ρ' y=y' at hy;split at hu;all_goals first | (cases hu;done) | (rename_i e1 e2;rw[e1] at hx;rw[e2] at hy;obtain rfl:=Aa hu;cases hx;cases hy;exact⟨_,by simp only[EF,hx',hy',Cg,Ch],.v _ rfl⟩)
 case eqs neg x y=>
  refine same (K:=λ_=>True) h λu hu=>?_
  have hx:=hρ x hok.1;have hy:=hρ y hok.2;unfold rT at hu;generalize hx':ρ' x=x' at hx;generalize hy':ρ' y=y' at hy;split at hu;all_goals first | (cases hu;done) | skip
  all_goals rename_i e1 e2;rw[e1] at hx;rw[e2] at hy
  ·obtain rfl:=Aa hu;cases hx;cases hy;exact⟨_,by simp only[EF,hx',hy',Cg,Ch],.v _ rfl⟩
  ·obtain rfl:=Aa hu;cases hx;cases hy;exact⟨_,by simp only[EF,hx',hy',Cg,Ch],.v _ rfl⟩
  ·split at hu
   ·cases hu
   ·rename_i hn
    obtain rfl:=Aa hu;cases hy;cases hx with
    | lstNil=>exact absurd rfl hn
    | Ie=>exact⟨_,by simp only[EF,hx',hy',Cg,Ch],.v _ rfl⟩
  ·obtain rfl:=Aa hu;cases hx;cases hy;exact⟨_,by simp only[EF,hx',hy',Cg,Ch],.v _ rfl⟩
 case un op x=>
  refine same (K:=λ_=>True) h λu hu=>?_
  have hx:=hρ x hok;unfold vun at hu;generalize hx':ρ' x=x' at hx;split at hu;all_goals first | (cases hu;done) | (rename_i e;rw[e] at hx;obtain rfl:=Aa hu;cases hx;exact⟨_,by simp only[EF,hx'],.v _ rfl⟩)
 case cvi k x=>
  refine same (K:=λ_=>True) h λu hu=>?_
  have hx:=hρ x hok;unfold Ack at hu;generalize hx':ρ' x=x' at hx;split at hu;all_goals first | (cases hu;done) | (rename_i e;rw[e] at hx;obtain rfl:=Aa hu;cases hx;exact⟨_,by simp only[EF,hx'],.v _ rfl⟩)
 case EX x=>
  refine same (K:=λ_=>True) h λu hu=>?_
  have hx:=hρ x hok;unfold Acl at hu;generalize hx':ρ' x=x' at hx;split at hu;all_goals first | (cases hu;done) | (rename_i e;rw[e] at hx;obtain rfl:=Aa hu;cases hx;exact⟨_,by simp only[EF,hx'],.v _ rfl⟩)
 case mkIface t x=>
  obtain⟨rfl,rfl⟩:=Ai (Aa h);exact⟨_,S,rfl,hs,.refl _ _,.iface _ _ _ (hρ x hok)⟩
 case mkFunc f a b=>
  obtain⟨rfl,rfl⟩:=Ai (Aa h);refine⟨_,S,rfl,hs,.refl _ _,.fn f _ _ _ _ iN iN (λi h1 h2=>?_) (λi h1 h2=>?_)⟩
  ·simp only[AZ,Array.getElem_map,Ck]
   exact hρ _ (C2.1 hok.1 i ac0)
  ·simp only[AZ,Array.getElem_map,Ck]
   exact hρ _ (C2.1 hok.2 i ac0)
 case mkSlice e esz bytes z l c=>
  have hx:=hρ l hok.1.1;have hy:=hρ c hok.1.2;unfold xz at h;generalize hx':ρ' l=x' at hx;generalize hy':ρ' c=y' at hy;split at h
  case h_2=>cases h
  rename_i e1 e2;rw[e1] at hx;rw[e2] at hy;split at h
  case isFalse=>cases h
  rename_i hc;obtain⟨rfl,rfl⟩:=Ai (Aa h);cases hx;cases hy;obtain⟨q1,q2⟩:=hs.Tt (Ee.flat (Je hc.2.2.2.2.2 _)) e esz;refine⟨_,_,by simp only[EF,hx',hy'];rw[if_pos ⟨hc.1,hc.2.1,hc.2.2.1,hc.2.2.2.1,hc.2.2.2.2.1,Ll hc.2.2.2.2.2⟩],q1,q2,?_⟩;rw[<- hs.next];exact .slice _ _ _ _
 case sl esz x lo hi=>
  refine same (K:=λ_=>True) h λu hu=>?_
  obtain⟨a,n,c,l,hh,v',e,h1,h2,h3,h4,h5,h6⟩:=mK hs (hρ x hok.1.1) (hopt hok.1.2) (hopt hok.2) hu;exact⟨v',by simp only[EF,e,h1,h2];rw[if_pos ⟨h3,h4⟩];exact h5,h6⟩
 case slStr x lo hi=>
  refine same (K:=λ_=>True) h λu hu=>?_
  have hx:=hρ x hok.1.1;unfold rU at hu;generalize hx':ρ' x=x' at hx;split at hu
  case h_2=>cases hu
  rename_i s e;rw[e] at hx;split at hu
  case h_2=>cases hu
  rename_i l hh e1 e2;split at hu
  case isFalse=>cases hu
  rename_i hc;obtain rfl:=Aa hu;cases hx;have e1:=hopt hok.1.2 _ _ e1;have e2:=hopt hok.2 _ _ e2;exact⟨_,by simp only[EF,hx',e1,e2];rw[if_pos hc],.v _ rfl⟩
 case fa off x=>
  refine same (K:=λ_=>True) h λu hu=>?_
  obtain⟨id,o,e,h1⟩:=Tw hs (hρ x hok) hu;exact⟨_,by simp only[EF,e],h1⟩
 case fld agg sz off x=>
  refine same (K:=λ_=>True) h λu hu=>?_
  have hx:=hρ x hok;unfold Acg at hu;generalize hx':ρ' x=x' at hx;split at hu
  case h_2=>cases hu
  rename_i a e;rw[e] at hx;split at hu
  case isFalse=>cases hu
  rename_i hc;cases hx with
  | agg _ a' hsz ha=>
  have hl:Ee σ.G S a a'.toList:=⟨by simpa using hsz,λi k1 k2=>by simpa using ha i k1 (by simpa using k2)⟩
  obtain⟨v',q1,q2⟩:=((hl.drop off).take sz).I1 hu;exact⟨v',by simp only[EF,hx'];rw[if_pos dO,q1];rfl,q2⟩
 case ia esz x i=>
  refine same (K:=λ_=>True) h λu hu=>?_
  obtain⟨id,o,n,c,k,j,e1,e2,h1,h2,h3⟩:=mL hs (hρ x hok.1) (hρ i hok.2) hu;exact⟨_,by simp only[EF,e1,e2];rw[if_pos ⟨h1,h2⟩],h3⟩
 case iaArr n esz x i=>
  refine same (K:=λ_=>True) h λu hu=>?_
  have hi:=hρ i hok.2;unfold Tv at hu;generalize hi':ρ' i=i' at hi;split at hu
  case h_2=>cases hu
  rename_i k j e;rw[e] at hi;split at hu
  case isFalse=>cases hu
  rename_i hc;cases hi;obtain⟨id,o,e1,h1⟩:=Tw hs (hρ x hok.1) hu;exact⟨_,by simp only[EF,e1,hi'];rw[if_pos hc],h1⟩
 case idx n agg esz x i=>
  refine same (K:=λ_=>True) h λu hu=>?_
  have hx:=hρ x hok.1;have hi:=hρ i hok.2;unfold Ach at hu;generalize hx':ρ' x=x' at hx;generalize hi':ρ' i=i' at hi;split at hu
  case h_2=>cases hu
  rename_i a k j e1 e2;rw[e1] at hx;rw[e2] at hi;split at hu
  case isFalse=>cases hu
  rename_i hc;cases hi;cases hx with
  | agg _ a' hsz ha=>
  have hl:Ee σ.G S a a'.toList:=⟨by simpa using hsz,λi k1 k2=>by simpa using ha i k1 (by simpa using k2)⟩
  obtain⟨v',q1,q2⟩:=((hl.drop (j.toNat * esz)).take esz).I1 hu;exact⟨v',by simp only[EF,hx',hi'];rw[if_pos ⟨hc.1,hc.2.1,dO⟩,q1];rfl,q2⟩
 case idxStr x i=>
  refine same (K:=λ_=>True) h λu hu=>?_
  have hx:=hρ x hok.1;have hi:=hρ i hok.2;unfold jB at hu;generalize hx':ρ' x=x' at hx;generalize hi':ρ' i=i' at hi;split at hu
  case h_2=>cases hu
  rename_i s k j e1 e2;rw[e1] at hx;rw[e2] at hi;split at hu
  case isFalse=>cases hu
  rename_i hc;simp only[Ab] at hu;obtain⟨b,hb,rfl⟩:=hu;cases hx;cases hi;exact⟨_,by simp only[EF,hx',hi',hb];rw[if_pos hc];rfl,.v _ rfl⟩
 case ext x i=>
  refine same (K:=λ_=>True) h λu hu=>?_
  have hx:=hρ x hok;unfold gP at hu;generalize hx':ρ' x=x' at hx;split at hu
  case h_2=>cases hu
  rename_i a e;rw[e] at hx;cases hx with
  | tup _ a' hsz ha=>
  obtain⟨hi,rfl⟩:=Am.1 hu;have hi':i < a'.size:=dO
  exact⟨a'[i],by simp only[EF,hx',Ax hi'];rfl,ha i hi hi'⟩
 case build z parts=>
  simp only[Ab,AA] at h;obtain⟨l,h1,rfl,rfl⟩:=h;obtain⟨r',k1,k2⟩:=OD hs hρ hok.2 (Ee.flat hok.1) h1;exact⟨.agg r'.toArray,S,by simp only[EF,k1,AH],hs,.refl _ _,.agg _ _ k2.1 (λi h1 h2=>k2.2 i h1 h2)⟩
 case len x=>
  refine same (K:=λ_=>True) h λu hu=>?_
  have hx:=hρ x hok;unfold Mn at hu;generalize hx':ρ' x=x' at hx;split at hu;all_goals first | (cases hu;done) | (rename_i e;rw[e] at hx;obtain rfl:=Aa hu;cases hx<;>exact⟨_,by simp only[EF,hx']<;>rfl,.v _ rfl⟩)
 case lenStr x=>
  refine same (K:=λ_=>True) h λu hu=>?_
  have hx:=hρ x hok;unfold jC at hu;generalize hx':ρ' x=x' at hx;split at hu;all_goals first | (cases hu;done) | (rename_i e;rw[e] at hx;obtain rfl:=Aa hu;cases hx;exact⟨_,by simp only[EF,hx'],.v _ rfl⟩)
 case copy esz d s=>exact Zi hs (hρ d hok.1) (hρ s hok.2) h
 case clr esz z x=>exact gR hs (hρ x hok.1) h
 case minmax mx x l=>
  refine same (K:=λ_=>True) h λu hu=>?_
  have hx:=hρ x hok.1;unfold vmm at hu;generalize hx':ρ' x=x' at hx;split at hu
  case h_2=>cases hu
  rename_i k a e;rw[e] at hx;simp only[Ae,Ab] at hu;obtain⟨l1,h1,r,h2,rfl⟩:=hu;cases hx;have el:=Nw (hlist hok.2) h1;refine⟨r,by simp only[EF,hx',el,h2,AH],.v _ ?_⟩;exact WW h2
 all_goals cases h
end
def Zj:VV->Option Value
 | .v x=>some x
 | .agg xs=>(Mm xs).map λl=>.agg l.toArray
 | _=>none
def WX(v:Value)(σ:D1):Option (VV × D1):=if FB v then some (ja v,σ) else none
def AeG(σ:D1):VV->Option (List (Value × Value × Nat) × Nat)
 | .map id=>match σ.heap id with
  | .obj (.map es cl)=>some (es,cl)
  | _=>none
 | _=>none
def rW(z:Value)(ok:Bool)(x k:VV)(σ:D1):Option (VV × D1):=match x,k with
 | .Fy,.v (.int .i64 n)=>if Z3 then (match Ny.lookup n with
  | some f=>some (if ok then .tup [.fn f [] [],.v (.bool true)] else .fn f [] [],σ)
  | none=>WX (FC z ok none) σ) else none
 | _,_=>none
def yd(neg:Bool)(x y:VV)(σ:D1):Option (VV × D1):=match x,y with
 | .v .nilFunc,.v .nilFunc=>some (.v (.bool (EU neg true)),σ)
 | .fn _ _ _,.v .nilFunc=>some (.v (.bool (EU neg false)),σ)
 | _,_=>none
def Ty(e:iG)(l:List VV)(σ:D1):Option (VV × D1):=
 match e,l with
 | .mkMap,[]=>some (.map σ.next,σ.alloc (.obj (.map [] 0)))
 | .lookup ks agg z ok,[x,k]=>(Zj k).bind λk=>(keyOf ks agg k).bind λc=>match x with
  | .v (.map none)=>WX (FC z ok none) σ
  | .map id=>match σ.heap id with
   | .obj (.map es _)=>(GU ks agg c es 0).bind λr=>WX (FC z ok r) σ
   | _=>none
  | _=>none
 | .mapSet ks agg,[x,k,v]=>(Zj k).bind λk=>(Zj v).bind λv=>(keyOf ks agg k).bind λc=>match x with
  | .map id=>match σ.heap id with
   | .obj (.map es cl)=>(GU ks agg c es 0).map λr=>match r with
    | some (i,_)=>(.tup [],σ.put id (.obj (.map (es.modify i λe=>(k,v,e.2.2)) cl)))
    | none=>(.tup [],σ.put id (.obj (.map (es++[(k,v,cl)]) (cl+1))))
   | _=>none
  | _=>none
 | .mapEnt ks agg z,[x,k]=>(Zj k).bind λk=>(keyOf ks agg k).bind λc=>match x with
  | .map id=>match σ.heap id with
   | .obj (.map es cl)=>(GU ks agg c es 0).bind λr=>match r with
    | some (i,v)=>WX (.tuple #[v,.int .i64 (((es[i]?).map (·.2.2)).getD 0:Nat)]) (σ.put id (.obj (.map (es.modify i λe=>(k,e.2.1,e.2.2)) cl)))
    | none=>WX (.tuple #[z,.int .i64 (cl:Nat)]) (σ.put id (.obj (.map (es++[(k,z,cl)]) (cl+1))))
   | _=>none
  | _=>none
 | .entSet,[x,b,v]=>match x,b with
  | .map id,.v (.int .i64 b)=>(Zj v).bind λv=>match σ.heap id with
   | .obj (.map es cl)=>match es.findIdx? λe=>((e.2.2:Nat):Int) == b with
    | some i=>some (.tup [],σ.put id (.obj (.map (es.modify i λe=>(e.1,v,e.2.2)) cl)))
    | none=>none
   | _=>none
  | _,_=>none
 | .mapDel ks agg,[x,k]=>(Zj k).bind λk=>(keyOf ks agg k).bind λc=>match x with
  | .map id=>match σ.heap id with
   | .obj (.map es cl)=>(GU ks agg c es 0).map λr=>match r with
    | some (i,_)=>(.tup [],σ.put id (.obj (.map (es.eraseIdx i) cl)))
    | none=>(.tup [],σ.put id (.obj (.map es cl)))
   | _=>none
  | _=>none
 | .mapLen,[x]=>match x with
  | .v (.map none)=>some (.v (.int .i64 0),σ)
  | .map id=>match σ.heap id with
   | .obj (.map es _)=>some (.v (.int .i64 es.length),σ)
   | _=>none
  | _=>none
 | .iterStr,[x]=>match x with
  | .v (.string s)=>some (.ptr σ.next 0,σ.alloc (.obj (.iter s 0)))
  | _=>none
 | .nextStr,[x]=>match x with
  | .ptr id 0=>match σ.heap id with
   | .obj (.iter s p)=>if p < s.size then some (.tup [.v (.bool true),.v (.int .i64 p),.v (.int .i32 (Utf8.decode s p).1)],σ.put id (.obj (.iter s (p+(Utf8.decode s p).2))))
    else some (.tup [.v (.bool false)],σ)
   | _=>none
  | _=>none
 | .capNil,[x]=>match x with
  | .v (.slice none 0 0)=>some (.v (.int .i64 0),σ)
  | _=>none
 | .gload,[]=>if Z3 then some (.Fy,σ) else none
 | .lookG z ok,[x,k]=>rW z ok x k σ
 | .nilF neg,[x,y]=>yd neg x y σ
 | _,_=>none
def G9:iG->Bool
 | .lookup _ _ _ _=>true
 | .mapLen=>true
 | .capNil=>true
 | .gload=>true
 | .lookG _ _=>true
 | .nilF _=>true
 | _=>false
section
variable {σ:D1}{S:St}(hs:E9 σ S)
include hs
theorem Lt{x:VV}{x' v:Value}(hx:Ej σ.G S x x')(h:Zj x=some v):x'=v:=by
 unfold Zj at h;split at h
 ·obtain rfl:=Aa h
  cases hx;rfl
 ·simp only[Ab] at h
  obtain⟨l,h1,rfl⟩:=h;cases hx with
  | agg _ a hsz ha=>
   have:=Nw (G:=σ.G) (S:=S) (l':=a.toList) ⟨by simpa using hsz,λi k1 k2=>by simpa using ha i k1 (by simpa using k2)⟩ h1;rw[<- this]
 ·cases h
theorem gU{id:Nat}{o:V8}(h:σ.heap id=.obj o):S.get id=.obj o:=by
 have:=hs.IM id;rw[h] at this;exact this.2
theorem JY{G:Nat->Prop}{S:St}:Ej G S (.tup []) (.tuple #[]):=.tup _ _ rfl (λi h=>by simp at h)
theorem WY{e:iG}{l:List VV}{l':List Value}(hl:Ee σ.G S l l'){v:VV}{σ':D1}(h:Ty e l σ=some (v,σ')) :
  ∃ v' S',Ei e l' S=some (v',S')/\E9 σ' S'/\ER σ S σ' S'/\Ej σ'.G S' v v'/\(G9 e=true->S'=S):=by
 have ok1:∀ {x:VV},Ee σ.G S [x] l'->∃ x',l'=[x']/\Ej σ.G S x x':=by
  intro x h
  match l',h with
  | [x'],h=>exact⟨x',rfl,h.2 0 iN iN⟩
 have ok2:∀ {x y:VV},Ee σ.G S [x,y] l'->∃ x' y',l'=[x',y']/\Ej σ.G S x x'/\Ej σ.G S y y':=by
  intro x y h
  match l',h with
  | [x',y'],h=>exact⟨x',y',rfl,h.2 0 iN iN,h.2 1 iN iN⟩
 have ok3:∀ {x y z:VV},Ee σ.G S [x,y,z] l'->∃ x' y' z',l'=[x',y',z']/\Ej σ.G S x x'/\Ej σ.G S y y'/\Ej σ.G S z z':=by
  intro x y z h
  match l',h with
  | [x',y',z'],h=>exact⟨x',y',z',rfl,h.2 0 iN iN,h.2 1 iN iN,h.2 2 iN iN⟩
 have un:Ej σ'.G S (.tup []) undef:=JY hs;have res:∀ {u:Value},WX u σ=some (v,σ')->(Ei e l' S=some (u,S))->∃ v' S',Ei e l' S=some (v',S')/\E9 σ' S'/\ER σ S σ' S'/\Ej σ'.G S' v v'/\(G9 e=true->S'=S):=by
  intro u hu hx;unfold WX at hu;split at hu
  ·rename_i hf
   obtain⟨rfl,rfl⟩:=Ai (Aa hu);exact⟨u,S,hx,hs,.refl _ _,.ja hf,λ_=>rfl⟩
  ·cases hu
 have put:∀ {id:Nat} {o0 o:V8} {u:Value},σ.heap id=.obj o0->G9 e=false->σ'=σ.put id (.obj o)->Ej σ'.G (S.put id (.obj o)) v u->Ei e l' S=some (u,S.put id (.obj o))->∃ v' S',Ei e l' S=some (v',S')/\E9 σ' S'/\ER σ S σ' S'/\Ej σ'.G S' v v'/\(G9 e=true->S'=S):=by
  intro id o0 o u h1 h2 h3 h4 h5;obtain⟨k1,k2,k3⟩:=hs.Aeg h1 o;subst h3;exact⟨u,_,h5,k2,k3,h4,λh=>by rw[h2] at h;cases h⟩
 unfold Ty at h;split at h
 ·obtain⟨rfl,rfl⟩:=Ai (Aa h)
  obtain⟨k1,k2⟩:=hs.rQ (.map [] 0);refine⟨.map (some S.next),_,rfl,k1,k2,by rw[<- hs.next];exact .map _,λh=>by cases h⟩
 ·rename_i ks agg z ok x k
  obtain⟨x',k',rfl,hx,hk⟩:=ok2 hl;simp only[Ae] at h;obtain⟨kv,h1,c,h2,h⟩:=h;obtain rfl:=Lt hs hk h1;split at h
  ·cases hx
   exact res h (by simp only[Ei,h2,Az])
  ·cases hx
   split at h
   case h_2=>cases h
   rename_i es cl hg;simp only[Ae] at h;obtain⟨r,h3,h⟩:=h;exact res h (by simp only[Ei,h2,Az,gU hs hg,h3,AH])
  ·cases h
 ·rename_i ks agg x k w
  obtain⟨x',k',w',rfl,hx,hk,hw⟩:=ok3 hl;simp only[Ae] at h;obtain⟨kv,h1,wv,h0,c,h2,h⟩:=h;obtain rfl:=Lt hs hk h1;obtain rfl:=Lt hs hw h0;split at h
  case h_2=>cases h
  cases hx
  split at h
  case h_2=>cases h
  rename_i es cl hg;simp only[Ab] at h;obtain⟨r,h3,h⟩:=h;have hg':=gU hs hg;split at h
  ·obtain⟨rfl,rfl⟩:=Ai h
   exact put hg rfl rfl (JY hs) (by simp only[Ei,h2,Az,hg',h3,AH]<;>rfl)
  ·obtain⟨rfl,rfl⟩:=Ai h
   exact put hg rfl rfl (JY hs) (by simp only[Ei,h2,Az,hg',h3,AH]<;>rfl)
 ·rename_i ks agg z x k
  obtain⟨x',k',rfl,hx,hk⟩:=ok2 hl;simp only[Ae] at h;obtain⟨kv,h1,c,h2,h⟩:=h;obtain rfl:=Lt hs hk h1;split at h
  case h_2=>cases h
  cases hx
  split at h
  case h_2=>cases h
  rename_i es cl hg;simp only[Ae] at h;obtain⟨r,h3,h⟩:=h;have hg':=gU hs hg;split at h
  ·unfold WX at h
   split at h
   case isFalse=>cases h
   rename_i hf;obtain⟨rfl,rfl⟩:=Ai (Aa h);exact put hg rfl rfl (.ja hf) (by simp only[Ei,h2,Az,hg',h3,AH])
  ·unfold WX at h
   split at h
   case isFalse=>cases h
   rename_i hf;obtain⟨rfl,rfl⟩:=Ai (Aa h);exact put hg rfl rfl (.ja hf) (by simp only[Ei,h2,Az,hg',h3,AH])
 ·rename_i x b w
  obtain⟨x',b',w',rfl,hx,hb,hw⟩:=ok3 hl;split at h
  case h_2=>cases h
  cases hx
  cases hb
  simp only[Ae] at h;obtain⟨wv,h0,h⟩:=h;obtain rfl:=Lt hs hw h0;split at h
  case h_2=>cases h
  rename_i es cl hg;have hg':=gU hs hg;split at h
  case h_2=>cases h
  rename_i i hi;obtain⟨rfl,rfl⟩:=Ai (Aa h);exact put hg rfl rfl (JY hs) (by simp only[Ei,hg',hi]<;>rfl)
 ·rename_i ks agg x k
  obtain⟨x',k',rfl,hx,hk⟩:=ok2 hl;simp only[Ae] at h;obtain⟨kv,h1,c,h2,h⟩:=h;obtain rfl:=Lt hs hk h1;split at h
  case h_2=>cases h
  cases hx
  split at h
  case h_2=>cases h
  rename_i es cl hg;simp only[Ab] at h;obtain⟨r,h3,h⟩:=h;have hg':=gU hs hg;split at h
  ·obtain⟨rfl,rfl⟩:=Ai h
   exact put hg rfl rfl (JY hs) (by simp only[Ei,h2,Az,hg',h3,AH]<;>rfl)
  ·obtain⟨rfl,rfl⟩:=Ai h
   exact put hg rfl rfl (JY hs) (by simp only[Ei,h2,Az,hg',h3,AH]<;>rfl)
 ·rename_i x
  obtain⟨x',rfl,hx⟩:=ok1 hl;split at h
  ·obtain⟨rfl,rfl⟩:=Ai (Aa h)
   cases hx
   exact⟨_,S,rfl,hs,.refl _ _,.v _ rfl,λ_=>rfl⟩
  ·cases hx
   split at h
   case h_2=>cases h
   rename_i es cl hg;obtain⟨rfl,rfl⟩:=Ai (Aa h);have hg':=gU hs hg;exact⟨_,S,by simp only[Ei,hg'],hs,.refl _ _,.v _ rfl,λ_=>rfl⟩
  ·cases h
 ·rename_i x
  obtain⟨x',rfl,hx⟩:=ok1 hl;split at h
  case h_2=>cases h
  rename_i s;obtain⟨rfl,rfl⟩:=Ai (Aa h);cases hx;obtain⟨k1,k2⟩:=hs.rQ (.iter s 0);exact⟨_,_,rfl,k1,k2,by rw[<- hs.next];exact .ptr _ _,λh=>by cases h⟩
 ·rename_i x
  obtain⟨x',rfl,hx⟩:=ok1 hl;split at h
  case h_2=>cases h
  cases hx
  split at h
  case h_2=>cases h
  rename_i s p hg;have hg':=gU hs hg;split at h
  ·rename_i hp
   obtain⟨rfl,rfl⟩:=Ai (Aa h);refine put hg rfl rfl (u:=.tuple #[.bool true,.int .i64 p,.int .i32 (Utf8.decode s p).1]) (.tup _ _ rfl (λi h1 h2=>?_)) (by simp only[Ei,hg'];rw[if_pos hp]);rcases i with _ | _ | _ | i
   ·exact .v _ rfl
   ·exact .v _ rfl
   ·exact .v _ rfl
   ·simp at h1;omega
  ·rename_i hp
   obtain⟨rfl,rfl⟩:=Ai (Aa h);refine⟨.tuple #[.bool false],S,by simp only[Ei,hg'];rw[if_neg hp],hs,.refl _ _,.tup _ _ rfl (λi h1 h2=>?_),λh=>by cases h⟩;rcases i with _ | i
   ·exact .v _ rfl
   ·simp at h1
 ·rename_i x
  obtain⟨x',rfl,hx⟩:=ok1 hl;split at h
  case h_2=>cases h
  obtain⟨rfl,rfl⟩:=Ai (Aa h);cases hx;exact⟨_,S,rfl,hs,.refl _ _,.v _ rfl,λ_=>rfl⟩
 ·split at h
  case isFalse=>cases h
  rename_i hg;obtain⟨rfl,rfl⟩:=Ai (Aa h);obtain rfl:l'=[]:=Ak hl.1.symm;exact⟨.chan (some 0),S,by simp only[Ei];rw[if_pos hg],hs,.refl _ _,.Fy,λ_=>rfl⟩
 ·rename_i z ok x k
  obtain⟨x',k',rfl,hx,hk⟩:=ok2 hl;unfold rW at h;split at h
  case h_2=>cases h
  cases hx
  cases hk
  split at h
  case isFalse=>cases h
  rename_i n hg;split at h
  ·rename_i f hf
   obtain⟨rfl,rfl⟩:=Ai (Aa h);refine⟨FC z ok (some (0,.func (.func f) #[] #[])),S,by simp only[Ei,hf,AH];rw[if_pos hg],hs,.refl _ _,?_,λ_=>rfl⟩;have hfn:Ej σ.G S (.fn f [] []) (.func (.func f) #[] #[]):=.fn _ _ _ _ _ rfl rfl (λi h=>by simp at h) (λi h=>by simp at h);cases ok
   ·exact hfn
   ·refine .tup _ _ rfl λi h1 h2=>?_
    rcases i with _ | _ | i
    ·exact hfn
    ·exact .v _ rfl
    ·simp at h1;omega
  ·rename_i hf
   exact res h (by simp only[Ei,hf,DN];rw[if_pos hg])
 ·rename_i neg x y
  obtain⟨x',y',rfl,hx,hy⟩:=ok2 hl;unfold yd at h;split at h
  ·obtain⟨rfl,rfl⟩:=Ai (Aa h)
   cases hx
   cases hy
   exact⟨_,S,rfl,hs,.refl _ _,.v _ rfl,λ_=>rfl⟩
  ·obtain⟨rfl,rfl⟩:=Ai (Aa h)
   cases hx
   cases hy
   exact⟨_,S,rfl,hs,.refl _ _,.v _ rfl,λ_=>rfl⟩
  ·cases h
 ·cases h
end
def Fb(fe:FV):Operand->VV
 | .tmp t=>fe t
 | .const v=>ja v
 | .global _=>.tup []
 | .func f=>.fn f [] []
def Hf(fe:FV)(d:Tmp)(v:VV):FV:=λt=>if t=d then v else fe t
def Mp(fe:FV):Option Tmp->VV->FV
 | some d,v=>Hf fe d v
 | none,_=>fe
def M4(x:VV)(want:Bool):Bool:=match x with
 | .v (.bool b)=>b == want
 | _=>false
def QZ(fe:FV):Option (Tmp × Bool)->Bool
 | none=>true
 | some (t,want)=>M4 (fe t) want
abbrev OE:VV:=.tup []
def VG(P:Program)[Prim P](g:Go.Fn)(args:List VV)(σ:D1)(Q:VV->D1->Prop):Prop:=
 ∀ S (args':Array Value),E9 σ S->Ee σ.G S args args'.toList->XG P g args' S (λv' S'=>∃ v σ',E9 σ' S'/\ER σ.fresh S σ' S'/\Ej σ'.G S' v v'/\Q v σ')
def VC(P:Program)[Prim P](f:FuncId)(args:List VV)(σ:D1)(Q:VV->D1->Prop):Prop:=VG P (.func f) args σ Q
def VG.mono{P:Program}[Prim P]{g:Go.Fn}{args:List VV}{σ:D1}{Q Q':VV->D1->Prop}(h:VG P g args σ Q)(hq:∀ v σ',Q v σ'->Q' v σ'):VG P g args σ Q':=λS args' h1 h2=>by
 refine XG.mono (h S args' h1 h2) ?_;rintro v' S' ⟨v,σ',k1,k2,k3,k4⟩;exact⟨v,σ',k1,k2,k3,hq _ _ k4⟩
def wG:VV->Option (Go.Fn × List VV × List VV)
 | .fn f a b=>some (.func f,a,b)
 | .yield id=>some (.yield id,[],[])
 | _=>none
def Z4(P:Program)[Prim P](k:Bool × Bool)(g:Go.Fn)(args:List VV)(σ:D1)(K:VV->D1->Bool->Prop):Prop:=
 VG P g args σ (λv σ'=>∃ c:Bool,(c=true->σ.next<=σ'.low)/\((k.1 || k.2)=true->c=true)/\K v (σ.join σ') c)
def VS(P:Program)[Prim P](k:Bool × Bool)(o:Gk)(ρ:Operand->VV)(σ:D1)(K:VV->D1->Bool->Prop):Prop:=
 match o with
 | .call f args=>Z4 P k (.func f) (args.toList.map ρ) σ K
 | .callv x args=>∃ g a b,wG (ρ x)=some (g,a,b)/\Z4 P k g (a++args.toList.map ρ++b) σ K
 | .append e esz bytes s x=>(k.2=false/\∃ r,OC esz bytes (ρ s) (ρ x) σ=some r/\(K r.1 r.2 false\/K r.1.fg r.2 false))\/(k=(false,false)/\∃ r,Mo e esz bytes (ρ s) (ρ x) σ=some r/\K r.1 r.2 false)\/(ρ s=.v (.slice none 0 0)/\∃ r,OC esz bytes (ρ s) (ρ x) σ=some r/\(K r.1 r.2 true\/K r.1.fg r.2 true))
 | .buildSlice e esz n z parts=>(∃ r,vbs e esz n z (parts.map λp=>(p.1,p.2.1,ρ p.2.2)) σ=some r/\K r.1 r.2 true)\/(∃ r,rV e esz n z (parts.map λp=>(p.1,p.2.1,ρ p.2.2)) σ=some r/\K r.1 r.2 true)
 | .extra e l=>(G9 e=true\/k=(false,false))/\∃ r,Ty e (l.map ρ) σ=some r/\K r.1 r.2 (G9 e)
 | .store sz a x=>k=(false,false)/\∃ σ',vst σ sz (ρ a) (ρ x)=some σ'/\K (.tup []) σ' false
 | .copy esz d s=>k=(false,false)/\∃ r,jD esz (ρ d) (ρ s) σ=some r/\K r.1 r.2 false
 | .clr esz z x=>k=(false,false)/\∃ r,wF esz z (ρ x) σ=some r/\K r.1 r.2 false
 | .eqs neg x y=>(∃ v,rT neg (ρ x) (ρ y)=some v/\K v σ true)\/(ρ x=.Ie 0 []/\ρ y=EA/\K (.v (.bool (EU neg true))) σ true/\K (.v (.bool (EU neg false))) σ true)
 | o=>∃ r,jE o ρ σ=some r/\K r.1 r.2 true
def VO(P:Program)[Prim P]:List EW->FV->D1->(FV->D1->Prop)->Prop
 | [],fe,σ,Q=>Q fe σ
 | o::r,fe,σ,Q=>if QZ fe o.guard=true then VS P (false,false) o.op (Fb fe) σ (λv σ' _=>VO P r (Mp fe o.dst v) σ' Q) else VO P r (Mp fe o.dst OE) σ Q
def HV(old:Tmp->Bool):Operand->Bool
 | .tmp t=>old t
 | _=>true
def U8(n0:Nat)(o:Bool):VV->Prop
 | .ptr id _=>id < n0
 | .slice id _ _ _=>id < n0
 | .v _=>True
 | _=>o=true
def WZ(o:Gk)(ρ:Operand->VV)(n0:Nat)(old:Tmp->Bool):Prop:=match o with
 | .load _ _ x=>U8 n0 (HV old x) (ρ x)
 | .sl _ x _ _=>U8 n0 (HV old x) (ρ x)
 | _=>True
def Ev(o:Gk)(old:Tmp->Bool)(cl:Bool):Bool:=match o with
 | .mv x=>HV old x
 | .fa _ x=>HV old x
 | .fld _ _ _ x=>HV old x
 | .ia _ x _=>HV old x
 | .iaArr _ _ x _=>HV old x
 | .idx _ _ _ x _=>HV old x
 | .ext x _=>HV old x
 | .load _ _ x=>HV old x && cl
 | .sl _ x _ _=>HV old x
 | _=>false
def mN(old:Tmp->Bool):Option Tmp->Bool->Tmp->Bool
 | some d,b=>λt=>if t=d then b else old t
 | none,_=>old
def U9:VV->Bool
 | .v _=>true
 | .ptr _ _=>true
 | .slice _ _ _ _=>true
 | _=>false
def rX:VV->Bool
 | .fn _ a b=>a.all U9 && b.all U9
 | x=>U9 x
class M5 where
 it:List (Gk × (Operand->VV))
def Q0(w:Gk × (Operand->VV))(σ σ':D1):Prop:=match w.1 with
 | .load _ n x=>match w.2 x with
  | .ptr id o=>∃ cc t z b cc' t' z' b',σ.heap id=.cells cc t z b/\σ'.heap id=.cells cc' t' z' b'/\cc'.length=cc.length/\(cc'.drop o).take n=(cc.drop o).take n/\((cc.drop o).take n).all rX=true
  | .ep _ _=>True
  | _=>False
 | _=>False
def Nx:Gk->Bool
 | .call _ _=>true
 | .callv _ _=>true
 | .store _ _ _=>true
 | _=>false
def Aco:VV->Bool
 | .ep _ _=>true
 | _=>false
def Ff(fe:FV):List Tmp->List (EW × (Bool × Bool) × Bool)->Bool
 | _,[]=>true
 | as,(o,_,e)::r=>(!e || (match o.op with
  | .load _ _ (.tmp t)=>decide (t ∉ as) && Aco (fe t)
  | _=>false)) && Ff fe (Gw o.dst as) r
def Fk(k:Bool × Bool)(o:Gk)(L:Bool):Bool:=k.1 && !k.2 && Nx o && L
def Lu(k:Bool × Bool)(o:Gk)(L:Bool):Bool × Bool:=if Fk k o L=true then (false,false) else k
def FN(o:Gk)(ρ:Operand->VV)(W:List (Gk × (Operand->VV))):List (Gk × (Operand->VV)):=if GA o=true then (o,ρ)::W else W
def VM(P:Program)[Prim P](n0:Nat):List (EW × (Bool × Bool) × Bool)->[M5]->(Tmp->Bool)->Bool->FV->D1->(FV->D1->Prop)->Prop
 | [],_,_,_,fe,σ,Q=>Q fe σ
 | (o,k,early)::r,W,old,cl,fe,σ,Q=>if QZ fe o.guard=true then
   (early=true->WZ o.op (Fb fe) n0 old)/\VS P (Lu k o.op (Ff fe (Gw o.dst []) r)) o.op (Fb fe) σ (λv σ' c=>(Fk k o.op (Ff fe (Gw o.dst []) r)=true->c=true\/∀ w,w∈W.it->Q0 w σ σ')/\@VM P _ n0 r ⟨FN o.op (Fb fe) W.it⟩ (mN old o.dst (Ev o.op old cl)) (cl && c) (Mp fe o.dst v) σ' Q)
  else @VM P _ n0 r W (mN old o.dst true) cl (Mp fe o.dst OE) σ Q
def VW(P:Program)[Prim P]:Fh->FV->D1->(Ex->FV->D1->Prop)->Prop
 | .skip,fe,σ,Q=>Q .normal fe σ
 | .region ops,fe,σ,Q=>VO P ops fe σ (Q .normal)
 | .draw d,fe,σ,Q=>@VM P _ σ.next (d.ops.zip d.flags) ⟨[]⟩ (λ_=>true) true fe σ (Q .normal)
 | .seq a b,fe,σ,Q=>VW P a fe σ (λe fe' σ'=>match e with
  | .normal=>VW P b fe' σ' Q
  | e=>Q e fe' σ')
 | .cond c x y,fe,σ,Q=>∃ b,Fb fe c=.v (.bool b)/\(b=true->VW P x fe σ Q)/\(b=false->VW P y fe σ Q)
 | .block id c,fe,σ,Q=>VW P c fe σ (λe fe' σ'=>match e with
  | .exit id'=>if id'=id then Q .normal fe' σ' else Q (.exit id') fe' σ'
  | e=>Q e fe' σ')
 | .loop c,fe,σ,Q=>∃ (I:Nat->FV->D1->Prop) (n:Nat),I n fe σ/\∀ k fe σ,I k fe σ->VW P c fe σ (λe fe' σ'=>match e with
  | .normal=>∃ k',k' < k/\I k' fe' σ'
  | e=>Q e fe' σ')
 | .exit id,fe,σ,Q=>Q (.exit id) fe σ
 | .ret,fe,σ,Q=>Q .ret fe σ
 | .range x L,fe,σ,Q=>∃ g a b,Fb fe x=.fn g a b/\VG P (.func g) (a++[.yield σ.next]++b) (σ.alloc (.loop fe L none)) (λ_ σ2=>∃ fe2 L2 pe,σ2.heap σ.next=.loop fe2 L2 pe/\Q (pe.getD .normal) fe ((σ.join σ2).put σ.next .dead))
structure VR(σ:D1)(S:St)(fe:FV)(fe':Fi):Prop where
 sim:E9 σ S
 env:∀ t,Ej σ.G S (fe t) (fe' t)
 ws:WS S
 se:∀ t,Sc S.next (fe' t)
section
variable {P:Program}[Prim P]
def XG.ws{g:Go.Fn}{args:Array Value}{S:St}{Q:Value->St->Prop}(h:XG P g args S Q):XG P g args S (λv S'=>Q v S'/\WS S'/\S.next<=S'.next/\Sc S'.next v):=λh1 h2=>by
 obtain⟨n,v,S',h3,h4⟩:=h h1 h2;exact⟨n,v,S',h3,h4,Ip P n g args S v S' h3 h1 h2⟩
variable {σ:D1}{S:St}{fe:FV}{fe':Fi}
def VR.ev(h:VR σ S fe fe'):∀ x,E3 x=true->Ej σ.G S (Fb fe x) (NN fe' x):=by
 intro x hx;cases x with
 | tmp t=>exact h.env t
 | const v=>exact .ja hx
 | func f=>exact .fn f [] [] #[] #[] rfl rfl (λi h=>by simp at h) (λi h=>by simp at h)
 | global g=>cases hx
def VR.sc(h:VR σ S fe fe'):∀ x,E3 x=true->Sc S.next (NN fe' x):=by
 intro x hx;cases x with
 | tmp t=>exact h.se t
 | const v=>exact Sc.FB hx
 | func f=>exact .func f _ _ (λi h=>by simp at h) (λi h=>by simp at h)
 | global g=>cases hx
def VR.want(h:VR σ S fe fe')(g:Option (Tmp × Bool)):QZ fe g=OP fe' g:=by
 cases g with
 | none=>rfl
 | some p=>
  obtain⟨t,w⟩:=p;have:=h.env t;simp only[QZ,OP];generalize fe t=x at this;generalize fe' t=x' at this;cases this with
  | v x hf=>unfold M4;cases x'<;>rfl
  | _=>rfl
def E9.join{σ':D1}{S':St}(h:E9 σ' S'):E9 (σ.join σ') S':=⟨h.next,h.hi,by simp only[D1.join];have:=h.low;omega,h.IM⟩
def ER.join{σ':D1}{S':St}(h:ER σ.fresh S σ' S'):ER σ S (σ.join σ') S':=
 ⟨h.next,h.still,by simp only[D1.join];omega,λid h1 h2=>by
  simp only[D1.join] at h2 |-;exact h.D8 id h1 dO⟩
def ER.ext{σ':D1}{S':St}(h:ER σ.fresh S σ' S')(hn:σ.next=S.next)(hn':σ'.next=S'.next)(hp:σ.next<=σ'.low):Ext S S':=
 ⟨by rw[<- hn,<- hn'];exact h.next,λid hid=>(h.D8 id (by rw[<- hn] at hid;exact hid) dO).2.2⟩
def E9.fresh(h:E9 σ S):E9 σ.fresh S:=⟨h.next,h.hi,Af _,h.IM⟩
def rY{ρ:Operand->VV}{ρ':Operand->Value}(hρ:∀ x,E3 x=true->Ej σ.G S (ρ x) (ρ' x)){l:List Operand}(hl:l.all E3=true):Ee σ.G S (l.map ρ) (l.map ρ'):=by
 refine⟨iN,λi h1 h2=>?_⟩;simp only[AZ];simp only[At] at hl;exact hρ _ (hl _ (Ao _))
def wH(σ:D1)(S:St)(k:Bool × Bool)(K:VV->D1->Bool->Prop)(v':Value)(S':St):Prop:=
 ∃ v σ' c,E9 σ' S'/\ER σ S σ' S'/\Ej σ'.G S' v v'/\WS S'/\S.next<=S'.next/\Sc S'.next v'/\(c=true->Ext S S')/\(k.1=true->JL S S')/\(k.2=true->Ext S S')/\K v σ' c
def Qq{k:Bool × Bool}{g:Go.Fn}{args:List VV}{args':Array Value}{K:VV->D1->Bool->Prop}(hs:E9 σ S)(hargs:Ee σ.G S args args'.toList)(h:Z4 P k g args σ K):XG P g args' S (wH σ S k K):=by
 refine XG.mono (h S args' hs hargs).ws ?_;rintro v' S' ⟨⟨v,σ',k1,k2,k3,c,c1,c2,k4⟩,w1,w2,w3⟩;have he:(k.1 || k.2)=true->Ext S S':=λhk=>k2.ext hs.next k1.next (c1 (c2 hk))
 exact⟨v,σ.join σ',c,k1.join,k2.join,k3,w1,w2,w3,λhc=>k2.ext hs.next k1.next (c1 hc),λhk=>(he (by simp[hk])).PB,λhk=>he (by simp[hk]),k4⟩
def Zk{k:Bool × Bool}{o:Gk}{K:VV->D1->Bool->Prop}(h:VR σ S fe fe')(hok:Fz o=true)(hv:VS P k o (Fb fe) σ K):XS P o (NN fe') S (wH σ S k K):=by
 have hs:=h.sim;have gen:∀ {r:VV × D1} {c:Bool} {v':Value} {S':St},(∀ f a,o≠.call f a)->(∀ x a,o≠.callv x a)->EF o (NN fe') S=some (v',S')->E9 r.2 S'->ER σ S r.2 S'->Ej r.2.G S' r.1 v'->(c=true->Ext S S')->(k.1=true->JL S S')->(k.2=true->Ext S S')->K r.1 r.2 c->XS P o (NN fe') S (wH σ S k K):=by
  intro r c v' S' n1 n2 hx h1 h2 h3 h4 h5 h6 h7;rw[qA n1 n2];obtain⟨w1,w2,w3⟩:=V4 h.ws hok h.sc hx;exact⟨(v',S'),hx,r.1,r.2,c,h1,h2,h3,w1,w2,w3,h4,h5,h6,h7⟩
 have ff:∀ {Q:Prop} {b:Bool × Bool},b=(false,false)->(b.1=true->Q)/\(b.2=true->Q):=λe=>⟨λh=>(by rw[e] at h;cases h),λh=>(by rw[e] at h;cases h)⟩
 unfold VS at hv;split at hv
 ·rename_i f args
  exact Qq hs (by simpa using rY h.ev (l:=args.toList) (by simpa [Fz] using hok)) hv
 ·rename_i x args
  obtain⟨g,a,b,hf,hv⟩:=hv;simp only[Fz,Al] at hok;have hx:=h.ev x hok.1;have hargs:=rY h.ev (l:=args.toList) (by simpa using hok.2);unfold wG at hf;generalize ex:Fb fe x=xv at hf hx;generalize ex':NN fe' x=xv' at hx;split at hf
  ·obtain⟨rfl,rfl,rfl⟩:=by simpa using hf
   cases hx with
   | fn f _ _ a' b' ha hb h1 h2=>
    refine⟨_,a',b',ex',Qq hs ?_ hv⟩;simp only[A4,C5];exact Ee.append (Ee.append ⟨by simpa using ha,λi k1 k2=>by simpa using h1 i k1 (by simpa using k2)⟩ hargs) ⟨by simpa using hb,λi k1 k2=>by simpa using h2 i k1 (by simpa using k2)⟩
  ·obtain⟨rfl,rfl,rfl⟩:=by simpa using hf
   cases hx
   refine⟨_,#[],#[],ex',Qq hs ?_ hv⟩;simpa using hargs
  ·cases hf
 ·rename_i e esz bytes s x
  simp only[Fz,Al] at hok;rcases hv with ⟨hk,r,hr,hK⟩ | ⟨hk,r,hr,hK⟩ | ⟨hk,r,hr,hK⟩
  ·obtain⟨v',S',k1,k2,k3,k4,k5,_⟩:=Tx (e:=e) hs (h.ev s hok.1) (h.ev x hok.2) hr
   rcases hK with hK | hK
   ·exact gen iN iN (by simpa only[EF] using k1) k2 k3 k4 (λhc=>by cases hc) (λ_=>k5) (λhc=>by rw[hk] at hc;cases hc) hK
   ·exact gen (r:=(r.1.fg,r.2)) iN iN (by simpa only[EF] using k1) k2 k3 k4.fg (λhc=>by cases hc) (λ_=>k5) (λhc=>by rw[hk] at hc;cases hc) hK
  ·obtain⟨v',S',k1,k2,k3,k4⟩:=Zh hs (h.ev s hok.1) (h.ev x hok.2) hr
   exact gen iN iN (by simpa only[EF] using k1) k2 k3 k4 (λhc=>by cases hc) (ff hk).1 (ff hk).2 hK
  ·obtain⟨v',S',k1,k2,k3,k4,_,k5⟩:=Tx (e:=e) hs (h.ev s hok.1) (h.ev x hok.2) hr
   have k6:=k5 hk;rcases hK with hK | hK
   ·exact gen iN iN (by simpa only[EF] using k1) k2 k3 k4 (λ_=>k6) (λ_=>k6.PB) (λ_=>k6) hK
   ·exact gen (r:=(r.1.fg,r.2)) iN iN (by simpa only[EF] using k1) k2 k3 k4.fg (λ_=>k6) (λ_=>k6.PB) (λ_=>k6) hK
 ·rename_i e esz n z parts
  simp only[Fz,Al] at hok;rcases hv with ⟨r,hr,hK⟩ | ⟨r,hr,hK⟩
  ·obtain⟨v',S',k1,k2,k3,k4⟩:=mM hs hok.1 h.ev hok.2 hr
   have he:Ext S S':=Lq (cl:=λ_ _ _=>none) (o:=.buildSlice e esz n z parts) rfl k1;exact gen iN iN k1 k2 k3 k4 (λ_=>he) (λ_=>he.PB) (λ_=>he) hK
  ·obtain⟨v',S',k1,k2,k3,k4⟩:=gS hs hok.1 h.ev hok.2 hr
   have he:Ext S S':=Lq (cl:=λ_ _ _=>none) (o:=.buildSlice e esz n z parts) rfl k1;exact gen iN iN k1 k2 k3 k4 (λ_=>he) (λ_=>he.PB) (λ_=>he) hK
 ·rename_i e l
  simp only[Fz] at hok;obtain⟨hk,r,hr,hK⟩:=hv;obtain⟨v',S',k1,k2,k3,k4,k5⟩:=WY hs (rY h.ev (l:=l) (by simp only[Al] at hok;exact hok.2)) hr;have he:G9 e=true->Ext S S':=λhc=>by rw[k5 hc];exact Ext.refl _
  have he':∀ b:Bool,b=k.1\/b=k.2->b=true->Ext S S':=λb hb hbt=>by
   rcases hk with hk | hk
   ·exact he hk
   ·rw[hk] at hb;rcases hb with rfl | rfl<;>cases hbt
  exact gen iN iN (by simpa only[EF] using k1) k2 k3 k4 he (λhc=>(he' k.1 (.inl rfl) hc).PB) (λhc=>he' k.2 (.inr rfl) hc) hK
 ·rename_i sz a x
  simp only[Fz,Al] at hok;obtain⟨hk,σ',hr,hK⟩:=hv;obtain⟨v',S',k1,k2,k3,k4⟩:=Ls hs (o:=.store sz a x) h.ev (by simp[Fz,hok]) (v:=.tup []) (σ':=σ') (by simp only[jE,hr,AH]);exact gen (r:=(.tup [],σ')) iN iN k1 k2 k3 k4 (λhc=>by cases hc) (ff hk).1 (ff hk).2 hK
 ·rename_i esz d s
  obtain⟨hk,r,hr,hK⟩:=hv;obtain⟨v',S',k1,k2,k3,k4⟩:=Ls hs (o:=.copy esz d s) h.ev hok (v:=r.1) (σ':=r.2) (by simp only[jE];exact hr);exact gen iN iN k1 k2 k3 k4 (λhc=>by cases hc) (ff hk).1 (ff hk).2 hK
 ·rename_i esz z x
  obtain⟨hk,r,hr,hK⟩:=hv;obtain⟨v',S',k1,k2,k3,k4⟩:=Ls hs (o:=.clr esz z x) h.ev hok (v:=r.1) (σ':=r.2) (by simp only[jE];exact hr);exact gen iN iN k1 k2 k3 k4 (λhc=>by cases hc) (ff hk).1 (ff hk).2 hK
 ·rename_i neg x y
  have hok':=hok;simp only[Fz,Al] at hok;rcases hv with ⟨v,hr,hK⟩ | ⟨e1,e2,hK1,hK2⟩
  ·obtain⟨v',S',k1,k2,k3,k4⟩:=Ls hs (o:=.eqs neg x y) h.ev hok' (v:=v) (σ':=σ) (by simp only[jE,hr,AH])
   have he:Ext S S':=Lq (cl:=λ_ _ _=>none) (o:=.eqs neg x y) rfl k1;exact gen (r:=(v,σ)) iN iN k1 k2 k3 k4 (λ_=>he) (λ_=>he.PB) (λ_=>he) hK
  ·have hx:=h.ev x hok.1
   have hy:=h.ev y hok.2;rw[e1] at hx;rw[e2] at hy;generalize ex':NN fe' x=xv' at hx;generalize ey':NN fe' y=yv' at hy;cases hy;cases hx with
   | lstNil=>exact gen (r:=(.v (.bool (EU neg true)),σ)) (c:=true) (S':=S) (v':=.bool (EU neg true)) iN iN (by simp only[EF,ex',ey',Ch]) hs (.refl _ _) (.v _ rfl) (λ_=>Ext.refl _) (λ_=>JL.refl _) (λ_=>Ext.refl _) hK1
   | Ie=>exact gen (r:=(.v (.bool (EU neg false)),σ)) (c:=true) (S':=S) (v':=.bool (EU neg false)) iN iN (by simp only[EF,ex',ey',Cg]) hs (.refl _ _) (.v _ rfl) (λ_=>Ext.refl _) (λ_=>JL.refl _) (λ_=>Ext.refl _) hK2
 ·rename_i n1 n2 n3 n4 n5 n6 n7 n8 n9
  obtain⟨r,hr,hK⟩:=hv;obtain⟨v',S',k1,k2,k3,k4⟩:=Ls hs h.ev hok (v:=r.1) (σ':=r.2) hr;have ha:LV o=false:=by
   cases o<;>first | rfl | (exact (n1 _ _ rfl).elim) | (exact (n2 _ _ rfl).elim) | (exact (n3 _ _ _ _ _ rfl).elim) | (exact (n5 _ _ rfl).elim) | (exact (n6 _ _ _ rfl).elim) | (exact (n7 _ _ _ rfl).elim) | (exact (n8 _ _ _ rfl).elim)
  have he:Ext S S':=Lq (cl:=λ_ _ _=>none) ha (by rw[J0 ha];exact k1);exact gen (λf a e=>n1 f a e) (λx a e=>n2 x a e) k1 k2 k3 k4 (λ_=>he) (λ_=>he.PB) (λ_=>he) hK
end
section
variable {P:Program}[Prim P]
def HG{old:Tmp->Bool}{fe':Fi}{m:Nat}(ho:∀ t,old t=true->Sc m (fe' t)){x:Operand}(hok:E3 x=true)(h:HV old x=true):Sc m (NN fe' x):=by
 cases x with
 | tmp t=>exact ho t h
 | const v=>exact Sc.FB hok
 | func f=>exact .func f _ _ (λi h=>by simp at h) (λi h=>by simp at h)
 | global g=>cases hok
def W0{m:Nat}{agg:Bool}{l:List Value}{v:Value}(h:Hj agg l=some v)(hl:Hl m l):Sc m v:=by
 unfold Hj at h;split at h
 ·obtain rfl:=Aa h
  exact .agg _ λi hi=>hl _ iN
 ·unfold one at h
  split at h
  ·obtain rfl:=Aa h;exact hl _ iN
  ·cases h
def Zm{o:Gk}{old:Tmp->Bool}{cl:Bool}{fe':Fi}{S0 S S':St}{v':Value}(hk:Ev o old cl=true)(ho:∀ t,old t=true->Sc S0.next (fe' t))(hcl:cl=true->Ext S0 S)(hw:WS S0)(hok:Fz o=true)(hx:EF o (NN fe') S=some (v',S')):Sc S0.next v':=by
 cases o<;>simp only[Ev,Al] at hk<;>first | (cases hk;done) | skip
 all_goals simp only[Fz,Al] at hok
 case mv x=>
  obtain⟨rfl,_⟩:=Ai (Aa hx);exact HG ho hok hk
 case load agg sz x=>
  have hs:=HG ho hok hk.1;simp only[EF] at hx;split at hx
  case h_2=>cases hx
  rename_i id o e;rw[e] at hs;simp only[Ae,Ab,AA] at hx;obtain⟨c,hc,u,hu,rfl,_⟩:=hx;cases hs with
  | ptr _ _ hid=>
   refine W0 hu (hw.rd (id:=id) (o:=o) (n:=sz) ?_);rw[<- hc];unfold St.rd;rw[(hcl hk.2).get id hid]
 case sl esz x lo hi=>
  have hs:=HG ho hok.1.1 hk;simp only[EF] at hx;split at hx
  case h_2=>cases hx
  rename_i a n c e;rw[e] at hs;split at hx
  case h_2=>cases hx
  split at hx
  case isFalse=>cases hx
  unfold H8 at hx;split at hx
  ·split at hx
   ·obtain⟨rfl,_⟩:=Ai (Aa hx);exact .sliceNil _ _
   ·cases hx
  ·split at hx
   ·obtain⟨rfl,_⟩:=Ai (Aa hx)
    cases hs with
    | slice _ _ _ _ hid=>exact .slice _ _ _ _ hid
   ·cases hx
  ·cases hx
 case fa off x=>
  have hs:=HG ho hok hk;simp only[EF] at hx;split at hx
  case h_2=>cases hx
  rename_i id o e;rw[e] at hs;obtain⟨rfl,_⟩:=Ai (Aa hx);cases hs with
  | ptr _ _ hid=>exact .ptr _ _ hid
 case fld agg sz off x=>
  have hs:=HG ho hok hk;simp only[EF] at hx;split at hx
  case h_2=>cases hx
  rename_i a e;rw[e] at hs;split at hx
  case isFalse=>cases hx
  simp only[Ab,AA] at hx;obtain⟨u,hu,rfl,_⟩:=hx;cases hs with
  | agg _ ha=>
   refine W0 hu λw hw=>?_
   have:=B5 (Bm hw);obtain⟨i,hi,rfl⟩:=AN this;simpa using ha i (by simpa using hi)
 case ia esz x i=>
  have hs:=HG ho hok.1 hk;simp only[EF] at hx;split at hx
  case h_2=>cases hx
  rename_i id o n c k j e e2;rw[e] at hs;split at hx
  case isFalse=>cases hx
  obtain⟨rfl,_⟩:=Ai (Aa hx);cases hs with
  | slice _ _ _ _ hid=>exact .ptr _ _ hid
 case iaArr n esz x i=>
  have hs:=HG ho hok.1 hk;simp only[EF] at hx;split at hx
  case h_2=>cases hx
  rename_i id o k j e e2;rw[e] at hs;split at hx
  case isFalse=>cases hx
  obtain⟨rfl,_⟩:=Ai (Aa hx);cases hs with
  | ptr _ _ hid=>exact .ptr _ _ hid
 case idx n agg esz x i=>
  have hs:=HG ho hok.1 hk;simp only[EF] at hx;split at hx
  case h_2=>cases hx
  rename_i a k j e e2;rw[e] at hs;split at hx
  case isFalse=>cases hx
  simp only[Ab,AA] at hx;obtain⟨u,hu,rfl,_⟩:=hx;cases hs with
  | agg _ ha=>
   refine W0 hu λw hw=>?_
   have:=B5 (Bm hw);obtain⟨i,hi,rfl⟩:=AN this;simpa using ha i (by simpa using hi)
 case ext x i=>
  have hs:=HG ho hok hk;simp only[EF] at hx;split at hx
  case h_2=>cases hx
  rename_i a e;rw[e] at hs;simp only[Ab,AA] at hx;obtain⟨u,hu,rfl,_⟩:=hx;cases hs with
  | tuple _ ha=>
   obtain⟨hi,rfl⟩:=AR.1 hu;exact ha i hi
def AaM{o:Gk}{ρ:Operand->Value}{S:St}{K:Value->St->Prop}(n1:∀ f a,o≠.call f a)(n2:∀ x a,o≠.callv x a)(h:XS P o ρ S K):XS P o ρ S (λv S'=>K v S'/\EF o ρ S=some (v,S')):=by
 rw[qA n1 n2] at h |-;obtain⟨r,h1,h2⟩:=h;exact⟨r,h1,h2,h1⟩
def VR.put{σ σ':D1}{S S':St}{fe:FV}{fe':Fi}(h:VR σ S fe fe')(hs:E9 σ' S')(k:ER σ S σ' S')(hw:WS S')(hn:S.next<=S'.next)(d:Option Tmp){v:VV}{v':Value}(hv:Ej σ'.G S' v v')(hsc:Sc S'.next v'):VR σ' S' (Mp fe d v) (Nz fe' d v'):=by
 cases d with
 | none=>exact⟨hs,λt=>(h.env t).step k,hw,λt=>(h.se t).mono hn⟩
 | some d=>
  refine⟨hs,λt=>?_,hw,λt=>?_⟩
  ·simp only[Mp,Hf,Nz,zD]
   split
   ·exact hv
   ·exact (h.env t).step k
  ·simp only[Nz,zD]
   split
   ·exact hsc
   ·exact (h.se t).mono hn
def VR.Acp{σ:D1}{S:St}{fe:FV}{fe':Fi}(h:VR σ S fe fe')(d:Option Tmp):VR σ S (Mp fe d OE) (Nz fe' d undef):=
 h.put h.sim (.refl _ _) h.ws (Af _) d (JY h.sim) (Sc.undef _)
def wI{l:List EW}{fe:Fi}{S:St}{Q Q':Fi->St->Prop}(h:∀ fe S,Q fe S->Q' fe S)(hx:XO P l fe S Q):XO P l fe S Q':=XW.mono (c:=.region l) (Q:=λ_=>Q) (Q':=λ_=>Q') (λ_=>h) hx
def wJ{S0:St}:∀ {l:List (EW × (Bool × Bool) × Bool)} {W:jm} {fe:Fi} {S:St} {Q Q':Fi->St->Prop},(∀ fe S,Q fe S->Q' fe S)->@XM P _ S0 l W fe S Q->@XM P _ S0 l W fe S Q':=by
 intro l
 induction l with
 | nil=>intro W fe S Q Q' h hx;exact h _ _ hx
 | cons o l ih=>
  obtain⟨o,k,e⟩:=o;intro W fe S Q Q' h hx;simp only[XM] at hx |-;split at hx
  ·rename_i hw
   rw[if_pos hw];exact⟨hx.1,LY (λv S' hh=>⟨hh.1,ih h hh.2⟩) hx.2⟩
  ·rename_i hw
   rw[if_neg hw];exact ih h hx
def rZ{n:Nat}:∀ (l:List EW),W6 n l=true->∀ (fe:FV) (σ:D1) (Q:FV->D1->Prop) (S:St) (fe':Fi),VR σ S fe fe'->VO P l fe σ Q->XO P l fe' S (λfe'' S'=>∃ fe2 σ',VR σ' S' fe2 fe''/\ER σ S σ' S'/\Q fe2 σ'):=by
 intro l
 induction l with
 | nil=>intro _ fe σ Q S fe' h hv;exact⟨fe,σ,h,.refl _ _,hv⟩
 | cons o l ih=>
  intro hwf fe σ Q S fe' h hv;obtain⟨h1,_,h3⟩:=Jy hwf;simp only[VO,XO] at *;rw[h.want] at hv;split at hv
  ·rename_i hw
   rw[if_pos hw];refine LY (λv' S1 hh=>?_) (Zk h h1 hv);obtain⟨v,σ1,c,k1,k2,k3,k4,k5,k6,_,_,_,k7⟩:=hh;refine wI (λfe2 S2 hh=>?_) (ih h3 _ _ _ _ _ (h.put k1 k2 k4 k5 o.dst k3 k6) k7);obtain⟨fe3,σ3,a1,a2,a3⟩:=hh;exact⟨fe3,σ3,a1,k2.trans a2,a3⟩
  ·rename_i hw
   rw[if_neg hw];exact ih h3 _ _ _ _ _ (h.Acp o.dst) hv
def jF{G G':Nat->Prop}{S S':St}{x:VV}{a b:Value}(h:U9 x=true)(ha:Ej G S x a)(hb:Ej G' S' x b):a=b:=by
 cases x<;>simp[U9] at h
 ·cases ha;cases hb;rfl
 ·cases ha;cases hb;rfl
 ·cases ha;cases hb;rfl
def Zn{G G':Nat->Prop}{S S':St}{l:List VV}{a b:Array Value}(h:l.all U9=true)(la:l.length=a.size)(lb:l.length=b.size)(ha:∀ i (h1:i < l.length) (h2:i < a.size),Ej G S l[i] a[i])(hb:∀ i (h1:i < l.length) (h2:i < b.size),Ej G' S' l[i] b[i]):a=b:=by
 refine DT dO λi h1 h2=>?_
 exact jF (At.1 h _ (Ao dO)) (ha i dO h1) (hb i dO h2)
def AaN{G G':Nat->Prop}{S S':St}{x:VV}{a b:Value}(h:rX x=true)(ha:Ej G S x a)(hb:Ej G' S' x b):a=b:=by
 by_cases hf:∃ f u w,x=.fn f u w
 ·obtain⟨f,u,w,rfl⟩:=hf
  simp only[rX,Al] at h;cases ha with
  | fn _ _ _ a1 b1 la lb ra rb=>
   cases hb with
   | fn _ _ _ a2 b2 la2 lb2 ra2 rb2=>
    rw[Zn h.1 la la2 ra ra2,Zn h.2 lb lb2 rb rb2]
 ·refine jF ?_ ha hb
  cases x<;>simp only[rX] at h<;>first | exact h | (exact absurd ⟨_,_,_,rfl⟩ hf)
def wK{G G':Nat->Prop}{S S':St}{x:List VV}{a b:List Value}(h:x.all rX=true)(ha:Ee G S x a)(hb:Ee G' S' x b):a=b:=by
 refine B0 (by rw[<- ha.1,<- hb.1]) λi h1 h2=>?_
 have hi:i < x.length:=by rw[ha.1];exact h1
 exact AaN (At.1 h _ (Ao hi)) (ha.2 i hi h1) (hb.2 i hi h2)
def Zo{σ σ1:D1}{S S1:St}(hs:E9 σ S)(hs1:E9 σ1 S1)(st:ER σ S σ1 S1){w:Gk × (Operand->VV)}{w':Gk × (Operand->Value)}(e:w.1=w'.1)(hok:Fz w'.1=true)(hr:∀ x,E3 x=true->Ej σ.G S (w.2 x) (w'.2 x))(h:Q0 w σ σ1):US w' S S1:=by
 obtain⟨o,ρ⟩:=w;obtain⟨o',ρ'⟩:=w';have e:o=o':=e;subst e;cases o<;>simp only[Q0] at h
 case load agg n x=>
  intro v S2 hx;have hrx:=hr x hok;have hrd:∀ id p,ρ' x=.pointer (some ⟨id,p,none⟩)->S1.rd id p n=S.rd id p n:=by
   intro id p ep;simp only at hrx;rw[ep] at hrx;generalize ρ x=y at h hrx;cases hrx with
   | ptr _ _=>
    obtain⟨cc,t,z,b,cc',t',z',b',h1,h2,h3,h4,h5⟩:=h;have k1:=hs.IM id;have k2:=hs1.IM id;rw[h1] at k1;rw[h2] at k2;obtain⟨_,_,c,an,g1,g2,_⟩:=k1;obtain⟨_,_,c',an',g3,g4,_⟩:=k2;unfold St.rd;rw[g1,g3];have l1:=g2.1;have l2:=g4.1;have el:((c'.drop p).take n)=((c.drop p).take n):=by
     have r1:=(g4.drop p).take n;rw[h4] at r1;exact wK h5 r1 ((g2.drop p).take n)
    simp only[el];rw[show c'.length=c.length by omega]
   | ep _ _ _ _ _ _ _ hG=>exact jl (st.still _ hG).2 _ _
   | v _ hf=>simp at h
  simp only[EF] at hx |-;split at hx
  ·rename_i id p ep
   have ep:ρ' x=_:=ep;have:=hrd id p ep;simp only[Ae,Ab,AA] at hx |-;obtain⟨c,hc,v0,hv,rfl,_⟩:=hx;exact⟨S1,c,by rw[this];exact hc,v0,hv,rfl,rfl⟩
  ·cases hx
def Zq{σ σ1:D1}{S S1:St}{fe:FV}{fe':Fi}(h:VR σ S fe fe')(st:ER σ S σ1 S1):∀ (r:List (EW × (Bool × Bool) × Bool)) (as:List Tmp),Ff fe as r=true->MV fe' S S1 as r:=by
 intro r
 induction r with
 | nil=>intro as _;trivial
 | cons x r ih=>
  obtain⟨o,k,e⟩:=x;intro as hl;simp only[Ff,Al,Cl,B7] at hl;refine⟨λhe=>?_,ih _ hl.2⟩;rcases hl.1 with h1 | h1
  ·rw[he] at h1;cases h1
  ·split at h1
   ·rename_i agg sz t eo
    rw[Al,decide_eq_true_eq] at h1;refine⟨agg,sz,t,eo,h1.1,λid hid=>?_⟩;rw[eo] at hid;simp only[Hi,NN] at hid;have hv:=h.env t;have h2:=h1.2;unfold Aco at h2;split at h2
    ·rename_i xs po ev
     rw[ev] at hv;generalize fe' t=y at hv hid;cases hv with
     | ep z i o' bb cc tt xs' hG hl' hb hh=>
      simp only[AE] at hid;subst hid;exact (st.still _ hG).2
    ·cases h2
   ·cases h1
def r7{S0:St}(hw0:WS S0){n:Nat}:∀ (l:List (EW × (Bool × Bool) × Bool)),W6 n (l.map (·.1))=true->∀ (W:M5) (W':jm) (old:Tmp->Bool) (cl:Bool) (fe:FV) (σ:D1) (Q:FV->D1->Prop) (S:St) (fe':Fi),VR σ S fe fe'->(∀ t,old t=true->Sc S0.next (fe' t))->(cl=true->Ext S0 S)->
  (∀ w',w'∈W'.it->∃ w,w∈W.it/\w.1=w'.1/\Fz w'.1=true/\∀ x,E3 x=true->Ej σ.G S (w.2 x) (w'.2 x))->
  @VM P _ S0.next l W old cl fe σ Q->@XM P _ S0 l W' fe' S (λfe'' S'=>∃ fe2 σ',VR σ' S' fe2 fe''/\ER σ S σ' S'/\Q fe2 σ'):=by
 intro l
 induction l with
 | nil=>intro _ W W' old cl fe σ Q S fe' h _ _ _ hv;exact⟨fe,σ,h,.refl _ _,hv⟩
 | cons o l ih=>
  obtain⟨o,k,early⟩:=o;intro hwf W W' old cl fe σ Q S fe' h hold hcl hWW hv;obtain⟨h1,_,h3⟩:=Jy hwf;simp only[VM,XM] at *;rw[h.want] at hv;split at hv
  ·rename_i hw
   rw[if_pos hw];obtain⟨he,hv⟩:=hv;refine⟨λhea id hid=>?_,?_⟩
   ·have hE:=he hea
    have key:∀ (x:Operand) (u:Value),E3 x=true->NN fe' x=u->U8 S0.next (HV old x) (Fb fe x)->(∀ a,(u=.pointer (some a)\/∃ n c,u=.slice (some a) n c)->a.block=id->id < S0.next):=by
     intro x u hx hu hl a ha hb;have hr:=h.ev x hx;rw[hu] at hr;have hs:HV old x=true->Sc S0.next u:=λho=>by rw[<- hu];exact HG hold hx ho
     have fin:Sc S0.next u->id < S0.next:=λhsc=>by
      rcases ha with rfl | ⟨n,c,rfl⟩
      ·cases hsc with | ptr _ _ hid=>rw[<- hb];exact hid
      ·cases hsc with | slice _ _ _ _ hid=>rw[<- hb];exact hid
     generalize Fb fe x=y at hr hl;cases hr with
     | ptr id' o'=>
      rcases ha with ha | ⟨_,_,ha⟩
      ·obtain rfl:a=_:=by injection ha with ha;injection ha with ha;exact ha.symm
       rw[<- hb];exact hl
      ·cases ha
     | slice id' o' n' c'=>
      rcases ha with ha | ⟨_,_,ha⟩
      ·cases ha
      ·injection ha with ha _ _
       injection ha with ha
       subst ha;rw[<- hb];exact hl
     | v _ hf=>
      rcases ha with rfl | ⟨_,_,rfl⟩
      ·simp[GN] at hf
      ·simp[GN] at hf
     | _=>exact fin (hs hl)
    cases ho:o.op<;>rw[ho] at hid hE h1<;>simp only[Hi] at hid<;>first | (cases hid;done) | skip
    case load agg sz x=>
     split at hid
     ·rename_i a e
      exact key x _ h1 e hE a (.inl rfl) (Aa hid)
     ·cases hid
    case sl esz x lo hi=>
     simp only[Fz,Al] at h1;split at hid
     ·rename_i a nn cc e
      exact key x _ h1.1.1 e hE a (.inr ⟨_,_,rfl⟩) (Aa hid)
     ·cases hid
   ·have hx:=Zk h h1 hv
    have hx2:XS P o.op (NN fe') S (λv' S'=>wH σ S (Lu k o.op (Ff fe (Gw o.dst []) l)) (λv σ' c=>(Fk k o.op (Ff fe (Gw o.dst []) l)=true->c=true\/∀ w,w∈W.it->Q0 w σ σ')/\@VM P _ S0.next l ⟨FN o.op (Fb fe) W.it⟩ (mN old o.dst (Ev o.op old cl)) (cl && c) (Mp fe o.dst v) σ' Q) v' S'/\(Ev o.op old cl=true->Sc S0.next v')):=by
     by_cases hk:Ev o.op old cl=true
     ·have n1:∀ f a,o.op≠.call f a:=λf a e=>by rw[e] at hk;cases hk
      have n2:∀ x a,o.op≠.callv x a:=λx a e=>by rw[e] at hk;cases hk
      exact LY (λv' S' hh=>⟨hh.1,λ_=>Zm hk hold hcl hw0 h1 hh.2⟩) (AaM n1 n2 hx)
     ·exact LY (λv' S' hh=>⟨hh,λh=>absurd h hk⟩) hx
    refine LY (λv' S1 hh=>?_) hx2;obtain⟨⟨v,σ1,c,k1,k2,k3,k4,k5,k6,k7,k8,k9,krel,k10⟩,hsc⟩:=hh;have hGG:∀ id,σ.G id->σ1.G id/\(S1.get id).look=(S.get id).look:=λid hG=>⟨⟨Ar hG.1 k2.next,(k2.still id hG).1⟩,(k2.still id hG).2⟩
    have kk:(k.1=true->qp W'.it (MV fe' S S1 (Gw o.dst []) l) S S1)/\(k.2=true->Ext S S1):=by
     by_cases hrl:Fk k o.op (Ff fe (Gw o.dst []) l)=true
     ·have hrl':=hrl
      simp only[Fk,Al,B7] at hrl';refine⟨λ_=>?_,λh2=>by rw[hrl'.1.1.2] at h2;cases h2⟩;rcases krel hrl with hc | hW
      ·exact .inl (k7 hc).PB
      ·refine .inr ⟨Zq h k2 _ _ hrl'.2,k5,λw' hw'=>?_⟩
       obtain⟨w,w1,w2,w3,w4⟩:=hWW w' hw';exact Zo h.sim k1 k2 w2 w3 w4 (hW w w1)
     ·have ek:Lu k o.op (Ff fe (Gw o.dst []) l)=k:=by unfold Lu;rw[if_neg hrl]
      rw[ek] at k8 k9;exact⟨λhk=>.inl (k8 hk),k9⟩
    refine⟨kk,wJ (λfe2 S2 hh=>?_) (ih h3 _ _ _ _ _ _ _ _ _ (h.put k1 k2 k4 k5 o.dst k3 k6) (λt ht=>?_) (λhc=>?_) (λw' hw'=>?_) k10)⟩
    ·obtain⟨fe3,σ3,a1,a2,a3⟩:=hh
     exact⟨fe3,σ3,a1,k2.trans a2,a3⟩
    ·cases hd:o.dst with
     | none=>rw[hd] at ht;exact hold t ht
     | some d=>
      rw[hd] at ht;simp only[mN] at ht;simp only[Nz,zD];split at ht
      ·rename_i e;rw[if_pos e];exact hsc ht
      ·rename_i e;rw[if_neg e];exact hold t ht
    ·simp only[Al] at hc
     exact (hcl hc.1).trans (k7 hc.2)
    ·have hw':w'∈watch o.op (NN fe') W'.it:=hw'
     show ∃ w,w∈FN o.op (Fb fe) W.it/\_
     unfold watch at hw';unfold FN;by_cases hh:GA o.op=true
     ·rw[if_pos hh] at hw' |-
      rcases Aq.1 hw' with rfl | hw'
      ·exact⟨_,BP ..,rfl,h1,λx hx=>(h.ev x hx).mono hGG⟩
      ·obtain⟨w,w1,w2,w3,w4⟩:=hWW w' hw'
       exact⟨w,Bo _ w1,w2,w3,λx hx=>(w4 x hx).mono hGG⟩
     ·rw[if_neg hh] at hw' |-
      obtain⟨w,w1,w2,w3,w4⟩:=hWW w' hw';exact⟨w,w1,w2,w3,λx hx=>(w4 x hx).mono hGG⟩
  ·rename_i hw
   rw[if_neg hw];refine ih h3 _ _ _ _ _ _ _ _ _ (h.Acp o.dst) (λt ht=>?_) hcl hWW hv;cases hd:o.dst with
   | none=>rw[hd] at ht;exact hold t ht
   | some d=>
    rw[hd] at ht;simp only[mN] at ht;simp only[Nz,zD];split at ht
    ·rename_i e;rw[if_pos e];exact Sc.undef _
    ·rename_i e;rw[if_neg e];exact hold t ht
def Zr{n:Nat}:∀ (c:Fh),Mf n c=true->∀ (fe:FV) (σ:D1) (Q:Ex->FV->D1->Prop) (S:St) (fe':Fi),VR σ S fe fe'->VW P c fe σ Q->XW P c fe' S (λe fe'' S'=>∃ fe2 σ',VR σ' S' fe2 fe''/\ER σ S σ' S'/\Q e fe2 σ'):=by
 intro c
 induction c with
 | skip=>intro _ fe σ Q S fe' h hv;exact⟨fe,σ,h,.refl _ _,hv⟩
 | exit id=>intro _ fe σ Q S fe' h hv;exact⟨fe,σ,h,.refl _ _,hv⟩
 | ret=>intro _ fe σ Q S fe' h hv;exact⟨fe,σ,h,.refl _ _,hv⟩
 | region ops=>intro hwf fe σ Q S fe' h hv;exact rZ ops hwf fe σ _ S fe' h hv
 | draw d=>
  intro hwf fe σ Q S fe' h hv;simp only[Mf,Al] at hwf;have hv:@VM P _ σ.next (d.ops.zip d.flags) ⟨[]⟩ (λ_=>true) true fe σ (Q .normal):=hv;rw[h.sim.next] at hv;have hl:(flagsOf d.ops d.stages).length=d.ops.length:=by simp[flagsOf]
  refine r7 h.ws (n:=n) _ ?_ _ ⟨[]⟩ _ _ _ _ _ _ _ h (λt _=>h.se t) (λ_=>Ext.refl _) (λw' hw'=>by cases hw') hv;have hf:d.flags=flagsOf d.ops d.stages:=by simpa using hwf.2
  rw[hf,List.map_fst_zip dO];exact hwf.1
 | seq a b iha ihb=>
  intro hwf fe σ Q S fe' h hv;simp only[Mf,Al] at hwf;rw[fR];refine XW.mono (λe fe2 S2 hh=>?_) (iha hwf.1 _ _ _ _ _ h hv);obtain⟨fe3,σ3,k1,k2,k3⟩:=hh;cases e with
  | normal=>
   refine XW.mono (λe fe4 S4 hh=>?_) (ihb hwf.2 _ _ _ _ _ k1 k3);obtain⟨fe5,σ5,a1,a2,a3⟩:=hh;exact⟨fe5,σ5,a1,k2.trans a2,a3⟩
  | exit id=>exact⟨fe3,σ3,k1,k2,k3⟩
  | ret=>exact⟨fe3,σ3,k1,k2,k3⟩
 | cond c x y ihx ihy=>
  intro hwf fe σ Q S fe' h hv;obtain⟨b,e,h1,h2⟩:=hv;have hok:E3 c=true\/E3 c=false:=by cases E3 c<;>simp
  have hc:NN fe' c=.bool b:=by
   cases c with
   | tmp t=>
    have:=h.env t;simp only[Fb] at e;rw[e] at this;simp only[NN];generalize fe' t=y at this;cases this;rfl
   | const v=>
    simp only[Fb] at e;simp only[NN];unfold ja at e;split at e
    ·cases e
    ·cases e
    ·injection e
   | func f=>cases e
   | global g=>cases e
  simp only[Mf,Al] at hwf;exact⟨b,hc,λhb=>ihx hwf.1 _ _ _ _ _ h (h1 hb),λhb=>ihy hwf.2 _ _ _ _ _ h (h2 hb)⟩
 | block id c ih=>
  intro hwf fe σ Q S fe' h hv;rw[SW];refine XW.mono (λe fe2 S2 hh=>?_) (ih hwf _ _ _ _ _ h hv);obtain⟨fe3,σ3,k1,k2,k3⟩:=hh;cases e with
  | normal=>exact⟨fe3,σ3,k1,k2,k3⟩
  | ret=>exact⟨fe3,σ3,k1,k2,k3⟩
  | exit i=>
   simp only[jn] at k3 |-;split at k3
   ·rename_i e;rw[if_pos e];exact⟨fe3,σ3,k1,k2,k3⟩
   ·rename_i e;rw[if_neg e];exact⟨fe3,σ3,k1,k2,k3⟩
 | loop c ih=>
  intro hwf fe σ Q S fe' h hv;obtain⟨I,m,hI,hr⟩:=hv;have:=jo (P:=P) (c:=c) (fe:=fe') (S:=S) (Q:=λe fe'' S'=>∃ fe2 σ',VR σ' S' fe2 fe''/\ER σ S σ' S'/\Q e fe2 σ') (λk fe'' S'=>∃ fe2 σ',VR σ' S' fe2 fe''/\ER σ S σ' S'/\I k fe2 σ') m ⟨fe,σ,h,.refl _ _,hI⟩ ?_
  ·exact this
  ·rintro k fe2 S2 ⟨fe3,σ3,k1,k2,k3⟩
   refine XW.mono (λe fe4 S4 hh=>?_) (ih hwf _ _ _ _ _ k1 (hr _ _ _ k3));obtain⟨fe5,σ5,a1,a2,a3⟩:=hh;cases e with
   | normal=>
    obtain⟨k',hk,hI'⟩:=a3;exact⟨k',hk,fe5,σ5,a1,k2.trans a2,hI'⟩
   | exit i=>exact⟨fe5,σ5,a1,k2.trans a2,a3⟩
   | ret=>exact⟨fe5,σ5,a1,k2.trans a2,a3⟩
 | range x L=>
  intro hwf fe σ Q S fe' h hv;simp only[Mf,Al] at hwf;obtain⟨g,a,b,e,hv⟩:=hv;have hx:=h.ev x hwf.1;rw[e] at hx;have hscx:=h.sc x hwf.1;generalize ex:NN fe' x=xv at hx hscx;cases hx with
  | fn _ _ _ a' b' ha hb h1 h2=>
  refine⟨g,a',b',ex,λenv he hn=>?_⟩;have hse:SE S.next env:=λt=>by rw[he];exact h.se t
  obtain⟨q1,q2⟩:=h.sim.JJ (.loop fe L none) (.obj (.loop env L none)) iN λG' hG=>⟨rfl,env,rfl,λt=>by rw[he];exact (h.env t).mono hG⟩
  have hargs:Ee (σ.alloc (.loop fe L none)).G (S.alloc (.loop env L none)) (a++[.yield σ.next]++b) (a'++#[Value.func (.yield S.next) #[] #[]]++b').toList:=by
   have hm:=q2.rel;simp only[A4];refine Ee.append (Ee.append (Ee.mono hm ⟨by simpa using ha,λi k1 k2=>by simpa using h1 i k1 (by simpa using k2)⟩) ?_) (Ee.mono hm ⟨by simpa using hb,λi k1 k2=>by simpa using h2 i k1 (by simpa using k2)⟩);refine .cons ?_ .nil;rw[h.sim.next];exact .yield _
  refine XC.mono (h:=(hv _ _ q1 hargs).ws) ?_;rintro v' S2 ⟨⟨v,σ2,k1,k2,k3,fe2,L2,pe,k4,k5⟩,w1,w2,w3⟩;have hb2:=k1.IM σ.next;rw[k4] at hb2;obtain⟨_,env2,hg2,_⟩:=hb2;rw[h.sim.next] at hg2;refine⟨env2,L2,pe,hg2,fe,(σ.join σ2).put σ.next .dead,?_⟩;have hj:E9 (σ.join σ2) S2:=k1.join;have hst:ER σ S (σ.join σ2) S2:=q2.trans (ER.join (σ:=σ.alloc (.loop fe L none)) k2);have hlt:S.next < S2.next:=by simp at w2;omega
  have e0:(σ.join σ2).heap σ.next=.loop fe2 L2 pe:=k4;obtain⟨r1,r2⟩:=hj.AaK (σ':=(σ.join σ2).put σ.next .dead) (S':=S2.put S.next .gone) (id:=σ.next) (lo:=σ.next) (by rw[e0];simp) (by rw[e0];simp) (Af _) (λj hj=>by simp only[D1.put];rw[if_neg hj]) rfl rfl rfl (by simp[D1.put]) iN
   (λj hj=>by rw[St.Gd,if_neg (by rw[<- h.sim.next];exact hj)];exact .inl rfl) (λG' hG=>by simp[D1.put,PW])
  have hall:=hst.trans r2;refine⟨⟨r1,λt=>(h.env t).step hall,w1.Oe hlt (b:=.gone) trivial,λt=>(h.se t).mono (by simp;simp at w2;omega)⟩,hall,k5⟩
def Tz(args:List VV):FV:=λt=>args.getD t OE
def Rq(fe:FV)(σ:D1):JK->Option VV
 | .tmp t=>some (fe t)
 | .cell a agg sz=>rR σ agg sz (fe a)
def Acq:List VV->VV
 | [v]=>v
 | vs=>.tup vs
def nh(l:List JK)(fe:FV)(σ:D1):Option VV:=(l.mapM (Rq fe σ)).map Acq
def W1(l:List JK)(Q:VV->D1->Prop):Ex->FV->D1->Prop:=λe fe σ=>(∀ id,e≠.exit id)/\∃ v,nh l fe σ=some v/\Q v σ
def mO{σ:D1}{S:St}{fe:FV}{fe':Fi}(h:VR σ S fe fe'){x:JK}{v:VV}(hv:Rq fe σ x=some v):∃ v',uU fe' S x=some v'/\Ej σ.G S v v':=by
 cases x with
 | tmp t=>obtain rfl:=Aa hv;exact⟨_,rfl,h.env t⟩
 | cell a agg sz=>
  obtain⟨id,o,c,v',e,h1,h2,h3⟩:=U7 h.sim (h.env a) hv;refine⟨v',?_,h3⟩;rw[qB,e,vI,<- qz,h1];exact h2
def Va{σ:D1}{S:St}{fe:FV}{fe':Fi}(h:VR σ S fe fe'){l:List JK}{v:VV}(hv:nh l fe σ=some v):∃ v',xJ l fe' S=some v'/\Ej σ.G S v v':=by
 unfold nh at hv;simp only[Ab] at hv;obtain⟨vs,h1,rfl⟩:=hv;have key:∀ (l:List JK) (vs:List VV),l.mapM (Rq fe σ)=some vs->∃ vs',l.mapM (uU fe' S)=some vs'/\Ee σ.G S vs vs':=by
  intro l
  induction l with
  | nil=>intro vs h1;simp at h1;subst h1;exact⟨[],iN,.nil⟩
  | cons x l ih=>
   intro vs h1;simp only[BF,BT,Ae,Option.pure_def,AE] at h1;obtain⟨u,hu,us,hus,rfl⟩:=h1;obtain⟨u',q1,q2⟩:=mO h hu;obtain⟨us',q3,q4⟩:=ih us hus;exact⟨u'::us',by simp[BF,q1,q3],.cons q2 q4⟩
 obtain⟨vs',q1,q2⟩:=key l vs h1;have hp:xJ l fe' S=some (pack vs'):=by
  unfold xJ;rw[q1];rfl
 refine⟨pack vs',hp,?_⟩
 match vs,vs',q2 with
 | [],[],_=>exact .tup _ _ rfl (λi h=>by simp at h)
 | [x],[y],q=>exact q.2 0 iN iN
 | a::b::r,[],q=>exact absurd q.1 iN
 | a::b::r,[_],q=>exact absurd q.1 iN
 | a::b::r,x::y::s,q=>exact .tup _ _ (by simpa using q.1) (λi h1 h2=>by simpa using q.2 i h1 ad0)
 | [],_::_,q=>exact absurd q.1 iN
 | [_],[],q=>exact absurd q.1 iN
 | [_],_::_::_,q=>exact absurd q.1 iN
def Ea{f:FuncId}{xf:Ed}(hf:XF P f=some xf){args:List VV}{σ:D1}{Q:VV->D1->Prop}(h:VW P xf.body (Tz args) σ.fresh (W1 xf.results Q)):VC P f args σ Q:=by
 intro S args' hs hargs;refine XC.given λhw hsc=>?_
 have hr:VR σ.fresh S (Tz args) (mY args'.toList):=by
  refine⟨hs.fresh,λt=>?_,hw,λt=>?_⟩
  ·show Ej σ.G S (Tz args t) (mY args'.toList t)
   simp only[Tz,mY,AY];cases e:args[t]? with
   | none=>
    have:args'.toList[t]? = none:=by
     rw[Dn] at e |-;rw[<- hargs.1];exact e
    rw[this];exact JY hs
   | some x=>
    obtain⟨x',k1,k2⟩:=hargs.at e;rw[k1];exact k2
  ·simp only[mY,AY]
   cases e:args'.toList[t]? with
   | none=>exact Sc.undef _
   | some x=>exact hsc x (AF e)
 have:=Zr xf.body (UP hf).1 _ _ _ _ _ hr h;refine YB hf (XW.mono (λe fe2 S2 hh=>?_) this);obtain⟨fe3,σ3,k1,k2,k3,v,k4,k5⟩:=hh;obtain⟨v',q1,q2⟩:=Va k1 k4;exact⟨k3,v',q1,v,σ3,k1.sim,k2,q2,k5⟩
end
end Go.Proofs.YtkkpchcniicimaaGreat

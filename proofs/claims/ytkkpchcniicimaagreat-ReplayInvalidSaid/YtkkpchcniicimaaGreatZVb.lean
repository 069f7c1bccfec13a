/- The second view: rules to evaluate a piece of code. The second view: lists of elements, calls that only compute. A law that is shown in the second view. A row that nobody writes any more becomes a val -/
import Derived.Test.YtkkpchcniicimaaGreatZVa
import Derived.Test.YtkkpchcniicimaaGreatZMb
set_option linter.all false
namespace Go.Proofs.YtkkpchcniicimaaGreat
open Go Go.RowKit
abbrev vi(n:Int):VV:=.v (.int .i64 n)
abbrev vb(b:Bool):VV:=.v (.bool b)
def Q1(v:VV)[H:KH (Prop × Prop)]:Prop:=∃ b,v=.v (.bool b)/\(b=true->H.it.1)/\(b=false->H.it.2)
def gV(T F:Prop):@Q1 (.v (.bool true)) ⟨(T,F)⟩=T:=by simp[Q1]
def Zu(T F:Prop):@Q1 (.v (.bool false)) ⟨(T,F)⟩=F:=by simp[Q1]
def gg{b:Bool}{T F:Prop}(h1:b=true->T)(h2:b=false->F):@Q1 (.v (.bool b)) ⟨(T,F)⟩:=⟨b,rfl,h1,h2⟩
def mP{p:Prop}[Decidable p]{T F:Prop}(h1:p->T)(h2:¬ p->F):@Q1 (.v (.bool (decide p))) ⟨(T,F)⟩:=⟨_,rfl,λh=>h1 ae0,λh=>h2 ae0⟩
def JD(v:VV)(want:Bool)[H:KH (Prop × Prop)]:Prop:=if M4 v want=true then H.it.1 else H.it.2
def Zv(T F:Prop):@JD (.v (.bool true)) true ⟨(T,F)⟩=T:=by simp[JD,M4]
def Zw(T F:Prop):@JD (.v (.bool false)) true ⟨(T,F)⟩=F:=by simp[JD,M4]
def Zx(T F:Prop):@JD (.v (.bool true)) false ⟨(T,F)⟩=F:=by simp[JD,M4]
def Zy(T F:Prop):@JD (.v (.bool false)) false ⟨(T,F)⟩=T:=by simp[JD,M4]
def Zz(w:Bool)(T F:Prop):@JD (.tup []) w ⟨(T,F)⟩=F:=by simp[JD,M4]
def jq{b:Bool}{T F:Prop}(h1:b=true->T)(h2:b=false->F):@JD (.v (.bool b)) true ⟨(T,F)⟩:=by
 cases b
 ·rw[Zw];exact h2 rfl
 ·rw[Zv];exact h1 rfl
def jr{b:Bool}{T F:Prop}(h1:b=false->T)(h2:b=true->F):@JD (.v (.bool b)) false ⟨(T,F)⟩:=by
 cases b
 ·rw[Zy];exact h1 rfl
 ·rw[Zx];exact h2 rfl
def M6(K:FV->D1->Prop)(Q:Ex->FV->D1->Prop):Ex->FV->D1->Prop:=λe fe σ=>match e with
 | .normal=>K fe σ
 | e=>Q e fe σ
section
variable (K:FV->D1->Prop)(Q:Ex->FV->D1->Prop)(fe:FV)(σ:D1)
def N0:M6 K Q .normal fe σ=K fe σ:=Av rfl rfl
def Q2(id:Nat):M6 K Q (.exit id) fe σ=Q (.exit id) fe σ:=Av rfl rfl
def TA:M6 K Q .ret fe σ=Q .ret fe σ:=Av rfl rfl
def Ld(id:Nat)(Q:Ex->FV->D1->Prop):Ex->FV->D1->Prop:=λe fe σ=>match e with
 | .exit id'=>if id'=id then Q .normal fe σ else Q (.exit id') fe σ
 | e=>Q e fe σ
def N1(id:Nat):Ld id Q .normal fe σ=Q .normal fe σ:=Av rfl rfl
def TB(id:Nat):Ld id Q .ret fe σ=Q .ret fe σ:=Av rfl rfl
def Q3(id:Nat):Ld id Q (.exit id) fe σ=Q .normal fe σ:=by simp[Ld]
def Vb(id id':Nat)(h:id'≠id):Ld id Q (.exit id') fe σ=Q (.exit id') fe σ:=by simp[Ld,h]
def M7(I:Nat->FV->D1->Prop)(k:Nat)(Q:Ex->FV->D1->Prop):Ex->FV->D1->Prop:=λe fe σ=>match e with
 | .normal=>∃ k',k' < k/\I k' fe σ
 | e=>Q e fe σ
variable (I:Nat->FV->D1->Prop)(k:Nat)
def N2:M7 I k Q .normal fe σ = ∃ k',k' < k/\I k' fe σ:=Av rfl rfl
def Q4(id:Nat):M7 I k Q (.exit id) fe σ=Q (.exit id) fe σ:=Av rfl rfl
def TC:M7 I k Q .ret fe σ=Q .ret fe σ:=Av rfl rfl
def Mc(id:Nat)(R:FV->D1->Prop)(Q:Ex->FV->D1->Prop):Ex->FV->D1->Prop:=λe fe σ=>match e with
 | .exit i=>if i=id then R fe σ else Q (.exit i) fe σ
 | e=>Q e fe σ
variable (R:FV->D1->Prop)
def Px(id:Nat):Mc id R Q (.exit id) fe σ=R fe σ:=by simp[Mc]
def Q5(id:Nat):Mc id R Q .ret fe σ=Q .ret fe σ:=Av rfl rfl
def TD(l:List JK)(Q:VV->D1->Prop)(fe:FV)(σ:D1):W1 l Q .ret fe σ = @Jh _ (nh l fe σ) ⟨λv=>Q v σ⟩:=by simp[W1,Jh]
end
def wL(x:JK)(fe:FV)(σ:D1):nh [x] fe σ=Rq fe σ x:=by
 simp only[nh,BF,Dt];cases Rq fe σ x<;>rfl
def wM(x y:JK)(fe:FV)(σ:D1):nh [x,y] fe σ=(Rq fe σ x).bind λa=>(Rq fe σ y).bind λb=>some (.tup [a,b]):=by
 simp only[nh,BF,Dt];cases Rq fe σ x
 ·rfl
 ·cases Rq fe σ y<;>rfl
def mQ(x y z:JK)(fe:FV)(σ:D1):nh [x,y,z] fe σ=(Rq fe σ x).bind λa=>(Rq fe σ y).bind λb=>(Rq fe σ z).bind λc=>some (.tup [a,b,c]):=by
 simp only[nh,BF,Dt];cases Rq fe σ x
 ·rfl
 ·cases Rq fe σ y
  ·rfl
  ·cases Rq fe σ z<;>rfl
def r8(x y z u:JK)(fe:FV)(σ:D1):nh [x,y,z,u] fe σ=(Rq fe σ x).bind λa=>(Rq fe σ y).bind λb=>(Rq fe σ z).bind λc=>(Rq fe σ u).bind λd=>some (.tup [a,b,c,d]):=by
 simp only[nh,BF,Dt];cases Rq fe σ x
 ·rfl
 ·cases Rq fe σ y
  ·rfl
  ·cases Rq fe σ z
   ·rfl
   ·cases Rq fe σ u<;>rfl
def wO(t:Tmp)(fe:FV)(σ:D1):Rq fe σ (.tmp t)=some (fe t):=Av rfl rfl
def r9(a:Tmp)(agg:Bool)(sz:Nat)(fe:FV)(σ:D1):Rq fe σ (.cell a agg sz)=rR σ agg sz (fe a):=Av rfl rfl
def ZB(fe:FV)(t:Tmp):Fb fe (.tmp t)=fe t:=Av rfl rfl
def ZC(fe:FV)(k:IntKind)(n:Int):Fb fe (.const (.int k n))=.v (.int k n):=Av rfl rfl
def Vc(fe:FV)(b:Bool):Fb fe (.const (.bool b))=.v (.bool b):=Av rfl rfl
def ZD(fe:FV)(s:ByteArray):Fb fe (.const (.string s))=.v (.string s):=Av rfl rfl
def Vd(fe:FV):Fb fe (.const (.slice none 0 0))=.v (.slice none 0 0):=Av rfl rfl
def Ve(fe:FV):Fb fe (.const (.pointer none))=.v (.pointer none):=Av rfl rfl
def Vf(fe:FV)(f:FuncId):Fb fe (.func f)=.fn f [] []:=Av rfl rfl
def FQ(fe:FV)(d:Tmp)(v:VV):Hf fe d v d=v:=by simp[Hf]
def D9(fe:FV)(d t:Tmp)(v:VV)(h:t≠d):Hf fe d v t=fe t:=by simp[Hf,h]
def Vg(a:VV)(l:List VV):Tz (a::l) 0=a:=Av rfl rfl
def Vh(a:VV)(l:List VV)(n:Nat):Tz (a::l) (n+1)=Tz l n:=Av rfl rfl
def Ey(P:Program)[Prim P](f:FuncId)(args:List VV)[H:KH ((Bool × Bool) × D1 × (VV->D1->Bool->Prop))]:Prop:=Z4 P H.it.1 (.func f) args H.it.2.1 H.it.2.2
def Aeh(P:Program)[Prim P](id:Nat)(args:List VV)[H:KH ((Bool × Bool) × D1 × (VV->D1->Bool->Prop))]:Prop:=Z4 P H.it.1 (.yield id) args H.it.2.1 H.it.2.2
def gW(P:Program)[Prim P](v:VV)(args:List VV)[H:KH ((Bool × Bool) × D1 × (VV->D1->Bool->Prop))]:Prop:=∃ g a b,wG v=some (g,a,b)/\Z4 P H.it.1 g (a++args++b) H.it.2.1 H.it.2.2
def ZH(P:Program)[Prim P][H:KH (Fh × FV × D1 × (Ex->FV->D1->Prop))]:Prop:=VW P (.loop H.it.1) H.it.2.1 H.it.2.2.1 H.it.2.2.2
def Aei(P:Program)[Prim P](x:VV)(L:Kj)[H:KH (FV × D1 × (Ex->FV->D1->Prop))]:Prop:=
 ∃ g a b,x=.fn g a b/\VG P (.func g) (a++[.yield H.it.2.1.next]++b) (H.it.2.1.alloc (.loop H.it.1 L none)) (λ_ σ2=>∃ fe2 L2 pe,σ2.heap H.it.2.1.next=.loop fe2 L2 pe/\H.it.2.2 (pe.getD .normal) H.it.1 ((H.it.2.1.join σ2).put H.it.2.1.next .dead))
section
variable {P:Program}[Prim P]{fe:FV}{σ:D1}
def ZI(f:FuncId)(a b args:List VV)(k:Bool × Bool)(σ:D1)(K:VV->D1->Bool->Prop):@gW P _ (.fn f a b) args ⟨(k,σ,K)⟩ = @Ey P _ f (a++args++b) ⟨(k,σ,K)⟩:=by
 simp only[gW,Ey,wG,AE,AA];exact propext ⟨λ⟨_,_,_,⟨rfl,rfl,rfl⟩,h⟩=>h,λh=>⟨_,_,_,⟨rfl,rfl,rfl⟩,h⟩⟩
section
variable {Q:Ex->FV->D1->Prop}
def jG:VW P .skip fe σ Q=Q .normal fe σ:=Av rfl rfl
def jH(id:Nat):VW P (.exit id) fe σ Q=Q (.exit id) fe σ:=Av rfl rfl
def sb:VW P .ret fe σ Q=Q .ret fe σ:=Av rfl rfl
def Vi(ops:List EW):VW P (.region ops) fe σ Q=VO P ops fe σ (Q .normal):=Av rfl rfl
def sf:Tmp->Bool:=λ_=>true
def jI(ops:List EW)(st:List (List Nat))(fl:List ((Bool × Bool) × Bool)):VW P (.draw ⟨ops,st,fl⟩) fe σ Q = @VM P _ σ.next (ops.zip fl) ⟨[]⟩ sf true fe σ (Q .normal):=Av rfl rfl
def gY(a b:Fh):VW P (.seq a b) fe σ Q=VW P a fe σ (M6 (λfe σ=>VW P b fe σ Q) Q):=by
 show VW P a fe σ (λe fe' σ'=>match e with
  | .normal=>VW P b fe' σ' Q
  | e=>Q e fe' σ')=_
 congr 1
def TE(id:Nat)(c:Fh):VW P (.block id c) fe σ Q=VW P c fe σ (Ld id Q):=by
 show VW P c fe σ (λe fe' σ'=>match e with
  | .exit id'=>if id'=id then Q .normal fe' σ' else Q (.exit id') fe' σ'
  | e=>Q e fe' σ')=_
 congr 1
def wP(c:Operand)(a b:Fh):VW P (.cond c a b) fe σ Q = @Q1 (Fb fe c) ⟨(VW P a fe σ Q,VW P b fe σ Q)⟩:=Av rfl rfl
def ZJ(c:Fh):VW P (.loop c) fe σ Q = @ZH P _ ⟨(c,fe,σ,Q)⟩:=Av rfl rfl
def jJ{k:Bool × Bool}{o:Gk}{ρ:Operand->VV}{K K':VV->D1->Bool->Prop}(hk:∀ v σ c,K v σ c->K' v σ c)(h:VS P k o ρ σ K):VS P k o ρ σ K':=by
 have ck:∀ {g:Go.Fn} {args:List VV},Z4 P k g args σ K->Z4 P k g args σ K':=λh=>VG.mono h λv σ' ⟨c,h1,h2,h3⟩=>⟨c,h1,h2,hk _ _ _ h3⟩
 unfold VS at *;split at h
 ·exact ck h
 ·obtain⟨g,a,b,e,h⟩:=h
  exact⟨g,a,b,e,ck h⟩
 ·rcases h with ⟨h1,r,h2,h3⟩ | ⟨h1,r,h2,h3⟩ | ⟨h1,r,h2,h3⟩
  ·exact .inl ⟨h1,r,h2,h3.imp (hk _ _ _) (hk _ _ _)⟩
  ·exact .inr (.inl ⟨h1,r,h2,hk _ _ _ h3⟩)
  ·exact .inr (.inr ⟨h1,r,h2,h3.imp (hk _ _ _) (hk _ _ _)⟩)
 ·rcases h with ⟨r,h2,h3⟩ | ⟨r,h2,h3⟩
  ·exact .inl ⟨r,h2,hk _ _ _ h3⟩
  ·exact .inr ⟨r,h2,hk _ _ _ h3⟩
 ·obtain⟨h1,r,h2,h3⟩:=h;exact⟨h1,r,h2,hk _ _ _ h3⟩
 ·obtain⟨h1,r,h2,h3⟩:=h;exact⟨h1,r,h2,hk _ _ _ h3⟩
 ·obtain⟨h1,r,h2,h3⟩:=h;exact⟨h1,r,h2,hk _ _ _ h3⟩
 ·obtain⟨h1,r,h2,h3⟩:=h;exact⟨h1,r,h2,hk _ _ _ h3⟩
 ·rcases h with ⟨v,h1,h2⟩ | ⟨h1,h2,h3,h4⟩
  ·exact .inl ⟨v,h1,hk _ _ _ h2⟩
  ·exact .inr ⟨h1,h2,hk _ _ _ h3,hk _ _ _ h4⟩
 ·obtain⟨r,h2,h3⟩:=h;exact⟨r,h2,hk _ _ _ h3⟩
def VW.mono{c:Fh}:∀ {fe:FV} {σ:D1} {Q Q':Ex->FV->D1->Prop},(∀ e fe σ,Q e fe σ->Q' e fe σ)->VW P c fe σ Q->VW P c fe σ Q':=by
 have hO:∀ (l:List EW) {fe:FV} {σ:D1} {Q Q':FV->D1->Prop},(∀ fe σ,Q fe σ->Q' fe σ)->VO P l fe σ Q->VO P l fe σ Q':=by
  intro l
  induction l with
  | nil=>intro fe σ Q Q' h hx;exact h _ _ hx
  | cons o l ih=>
   intro fe σ Q Q' h hx;simp only[VO] at hx |-;split at hx
   ·rename_i hw
    rw[if_pos hw];exact jJ (λv σ' _=>ih h) hx
   ·rename_i hw
    rw[if_neg hw];exact ih h hx
 have hM:∀ (n0:Nat) (l:List (EW × (Bool × Bool) × Bool)) {W:M5} {old:Tmp->Bool} {cl:Bool} {fe:FV} {σ:D1} {Q Q':FV->D1->Prop},(∀ fe σ,Q fe σ->Q' fe σ)->@VM P _ n0 l W old cl fe σ Q->@VM P _ n0 l W old cl fe σ Q':=by
  intro n0 l
  induction l with
  | nil=>intro W old cl fe σ Q Q' h hx;exact h _ _ hx
  | cons o l ih=>
   obtain⟨o,k,e⟩:=o;intro W old cl fe σ Q Q' h hx;simp only[VM] at hx |-;split at hx
   ·rename_i hw
    rw[if_pos hw];exact⟨hx.1,jJ (λv σ' c hh=>⟨hh.1,ih h hh.2⟩) hx.2⟩
   ·rename_i hw
    rw[if_neg hw];exact ih h hx
 induction c with
 | skip=>intro fe σ Q Q' h hx;exact h _ _ _ hx
 | exit id=>intro fe σ Q Q' h hx;exact h _ _ _ hx
 | ret=>intro fe σ Q Q' h hx;exact h _ _ _ hx
 | region ops=>intro fe σ Q Q' h hx;exact hO ops (h .normal) hx
 | draw d=>intro fe σ Q Q' h hx;exact hM _ _ (h .normal) hx
 | seq a b iha ihb=>
  intro fe σ Q Q' h hx;rw[gY] at hx |-;refine iha (λe fe σ hh=>?_) hx;cases e with
  | normal=>exact ihb h hh
  | exit id=>exact h _ _ _ hh
  | ret=>exact h _ _ _ hh
 | cond c a b iha ihb=>
  intro fe σ Q Q' h hx;obtain⟨b,e,h1,h2⟩:=hx;exact⟨b,e,λhb=>iha h (h1 hb),λhb=>ihb h (h2 hb)⟩
 | block id c ih=>
  intro fe σ Q Q' h hx;rw[TE] at hx |-;refine ih (λe fe σ hh=>?_) hx;cases e with
  | normal=>exact h _ _ _ hh
  | ret=>exact h _ _ _ hh
  | exit i=>
   simp only[Ld] at hh |-;split at hh
   ·rename_i hi;rw[if_pos hi];exact h _ _ _ hh
   ·rename_i hi;rw[if_neg hi];exact h _ _ _ hh
 | loop c ih=>
  intro fe σ Q Q' h hx;obtain⟨I,n,h1,h2⟩:=hx;refine⟨I,n,h1,λk fe σ hI=>ih (λe fe' σ' hh=>?_) (h2 k fe σ hI)⟩;cases e with
  | normal=>exact hh
  | exit id=>exact h _ _ _ hh
  | ret=>exact h _ _ _ hh
 | range x L=>
  intro fe σ Q Q' h hx;obtain⟨g,a,b,e,hx⟩:=hx;exact⟨g,a,b,e,VG.mono hx λ_ σ2 ⟨fe2,L2,pe,k1,k2⟩=>⟨fe2,L2,pe,k1,h _ _ _ k2⟩⟩
def wQ{c:Fh}{Q:Ex->FV->D1->Prop}(I:Nat->FV->D1->Prop)(n:Nat)(h0:I n fe σ)(h:∀ k fe σ,I k fe σ->VW P c fe σ (M7 I k Q)):@ZH P _ ⟨(c,fe,σ,Q)⟩:=by
 refine⟨I,n,h0,λk fe σ hI=>VW.mono (λe fe σ hh=>?_) (h k fe σ hI)⟩;cases e<;>exact hh
def Ek{c:Fh}{Q:Ex->FV->D1->Prop}(id:Nat)(I:Nat->FV->D1->Prop)(R:FV->D1->Prop)(n:Nat)(h0:I n fe σ)(h:∀ k fe σ,I k fe σ->VW P c fe σ (M7 I k (Mc id R Q)))(hq:∀ fe σ,R fe σ->Q (.exit id) fe σ):@ZH P _ ⟨(c,fe,σ,Q)⟩:=by
 refine wQ I n h0 λk fe σ hI=>VW.mono (λe fe σ hh=>?_) (h k fe σ hI)
 cases e with
 | normal=>exact hh
 | ret=>exact hh
 | exit i=>
  simp only[M7,Mc] at hh |-;split at hh
  ·rename_i e;subst e;exact hq _ _ hh
  ·exact hh
def Z9{c:Fh}{K:FV->D1->Prop}(R:FV->D1->Prop)(h1:VW P c fe σ (M6 R Q))(h2:∀ fe σ,R fe σ->K fe σ):VW P c fe σ (M6 K Q):=by
 refine VW.mono (λe fe σ hh=>?_) h1;cases e with
 | normal=>exact h2 _ _ hh
 | ret=>exact hh
 | exit i=>exact hh
end
section
variable {Q:FV->D1->Prop}
def sg:VO P [] fe σ Q=Q fe σ:=Av rfl rfl
def jK(d:Tmp)(o:Gk)(r:List EW):VO P (⟨some d,o,none⟩::r) fe σ Q=VS P (false,false) o (Fb fe) σ (λv σ' _=>VO P r (Hf fe d v) σ' Q):=by simp[VO,QZ,Mp]
def Py(o:Gk)(r:List EW):VO P (⟨none,o,none⟩::r) fe σ Q=VS P (false,false) o (Fb fe) σ (λ_ σ' _=>VO P r fe σ' Q):=by simp[VO,QZ,Mp]
def ZK(d:Tmp)(o:Gk)(t:Tmp)(w:Bool)(r:List EW):VO P (⟨some d,o,some (t,w)⟩::r) fe σ Q = @JD (fe t) w ⟨(VS P (false,false) o (Fb fe) σ (λv σ' _=>VO P r (Hf fe d v) σ' Q),VO P r (Hf fe d OE) σ Q)⟩:=Av rfl rfl
def KB(old:Tmp->Bool)(d:Tmp)(b:Bool):Tmp->Bool:=λt=>if t=d then b else old t
def mR(old:Tmp->Bool)(d:Tmp)(b:Bool):KB old d b d=b:=by simp[KB]
def wR(old:Tmp->Bool)(d t:Tmp)(b:Bool)(h:t≠d):KB old d b t=old t:=by simp[KB,h]
def Fe(t:Tmp):sf t=true:=Av rfl rfl
def gZ(old:Tmp->Bool)(t:Tmp):HV old (.tmp t)=old t:=Av rfl rfl
def GR(e:Bool)[H:KH (Gk × (Operand->VV) × Nat × (Tmp->Bool) × Prop)]:Prop:=(e=true->WZ H.it.1 H.it.2.1 H.it.2.2.1 H.it.2.2.2.1)/\H.it.2.2.2.2
def N3(o:Gk)(ρ:Operand->VV)(n0:Nat)(old:Tmp->Bool)(K:Prop):@GR false ⟨(o,ρ,n0,old,K)⟩=K:=by simp[GR]
def TF(v:VV)(n0:Nat)(o:Bool)[K:KH Prop]:Prop:=U8 n0 o v/\K.it
def sh(id p n0:Nat)(o:Bool)(K:Prop):@TF (.ptr id p) n0 o ⟨K⟩ = @SX (id < n0) ⟨K⟩:=Av rfl rfl
def jL(xs:List VV)(p n0:Nat)(K:Prop):@TF (.ep xs p) n0 true ⟨K⟩=K:=by simp[TF,U8]
def sm(z n:Nat)(xs:List VV)(t n0:Nat)(K:Prop):@TF (.own z n xs t) n0 true ⟨K⟩=K:=by simp[TF,U8]
def Q6(agg:Bool)(sz:Nat)(x:Operand)(ρ:Operand->VV)(n0:Nat)(old:Tmp->Bool)(K:Prop):@GR true ⟨(.load agg sz x,ρ,n0,old,K)⟩ = @IX _ (ρ x) ⟨λv=>@TF v n0 (HV old x) ⟨K⟩⟩:=by simp[GR,WZ,IX,TF]
def Vj(esz:Nat)(x:Operand)(lo hi:Option Operand)(ρ:Operand->VV)(n0:Nat)(old:Tmp->Bool)(K:Prop):@GR true ⟨(.sl esz x lo hi,ρ,n0,old,K)⟩ = @IX _ (ρ x) ⟨λv=>@TF v n0 (HV old x) ⟨K⟩⟩:=by simp[GR,WZ,IX,TF]
variable {n0:Nat}{old:Tmp->Bool}{cl:Bool}
def sn{W:M5}:@VM P _ n0 [] W old cl fe σ Q=Q fe σ:=Av rfl rfl
def F4(r:Bool)(c:Bool)[H:KH (List (Gk × (Operand->VV)) × D1 × D1 × Prop)]:Prop:=(r=true->c=true\/∀ w,w∈H.it.1->Q0 w H.it.2.1 H.it.2.2.1)/\H.it.2.2.2
def Q7(r:Bool)(W:List (Gk × (Operand->VV)))(σ σ':D1)(K:Prop):@F4 r true ⟨(W,σ,σ',K)⟩=K:=by simp[F4]
def IW(c:Bool)(W:List (Gk × (Operand->VV)))(σ σ':D1)(K:Prop):@F4 false c ⟨(W,σ,σ',K)⟩=K:=by simp[F4]
def F4.intro{r c:Bool}{W:List (Gk × (Operand->VV))}{σ σ':D1}{K:Prop}(h:∀ w,w∈W->Q0 w σ σ')(hk:K):@F4 r c ⟨(W,σ,σ',K)⟩:=⟨λ_=>.inr h,hk⟩
def W2(b:Bool):Bool × Bool:=if b=true then (false,false) else (true,false)
def Vk:W2 true=(false,false):=rfl
def mS(f:FuncId)(a:Array Operand)(r:Bool):Lu (true,false) (.call f a) r=W2 r:=by cases r<;>simp[Lu,Fk,Nx,W2]
def g0(z:Nat)(a x:Operand)(r:Bool):Lu (true,false) (.store z a x) r=W2 r:=by cases r<;>simp[Lu,Fk,Nx,W2]
def Vl(fe:FV)(as:List Tmp):Ff fe as []=true:=rfl
def jM(fe:FV)(as:List Tmp)(o:EW)(k:Bool × Bool)(r:List (EW × (Bool × Bool) × Bool)):Ff fe as ((o,k,false)::r)=Ff fe (Gw o.dst as) r:=by simp[Ff]
def RG{W:M5}(d:Tmp)(o:Gk)(k:Bool × Bool)(e:Bool)(r:List (EW × (Bool × Bool) × Bool)):@VM P _ n0 ((⟨some d,o,none⟩,k,e)::r) W old cl fe σ Q = @GR e ⟨(o,Fb fe,n0,old,VS P (Lu k o (Ff fe (Gw (some d) []) r)) o (Fb fe) σ (λv σ' c=>@F4 (Fk k o (Ff fe (Gw (some d) []) r)) c ⟨(W.it,σ,σ',@VM P _ n0 r ⟨FN o (Fb fe) W.it⟩ (KB old d (Ev o old cl)) (cl && c) (Hf fe d v) σ' Q)⟩))⟩:=by simp[VM,QZ,Mp,GR,F4];intro _;rfl
def Pz{W:M5}(o:Gk)(k:Bool × Bool)(e:Bool)(r:List (EW × (Bool × Bool) × Bool)):@VM P _ n0 ((⟨none,o,none⟩,k,e)::r) W old cl fe σ Q = @GR e ⟨(o,Fb fe,n0,old,VS P (Lu k o (Ff fe (Gw none []) r)) o (Fb fe) σ (λ_ σ' c=>@F4 (Fk k o (Ff fe (Gw none []) r)) c ⟨(W.it,σ,σ',@VM P _ n0 r ⟨FN o (Fb fe) W.it⟩ old (cl && c) fe σ' Q)⟩))⟩:=by simp[VM,QZ,Mp,GR,mN,F4]
def so{W:M5}(d:Tmp)(o:Gk)(t:Tmp)(w:Bool)(k:Bool × Bool)(e:Bool)(r:List (EW × (Bool × Bool) × Bool)):@VM P _ n0 ((⟨some d,o,some (t,w)⟩,k,e)::r) W old cl fe σ Q = @JD (fe t) w ⟨(@GR e ⟨(o,Fb fe,n0,old,VS P (Lu k o (Ff fe (Gw (some d) []) r)) o (Fb fe) σ (λv σ' c=>@F4 (Fk k o (Ff fe (Gw (some d) []) r)) c ⟨(W.it,σ,σ',@VM P _ n0 r ⟨FN o (Fb fe) W.it⟩ (KB old d (Ev o old cl)) (cl && c) (Hf fe d v) σ' Q)⟩))⟩,@VM P _ n0 r W (KB old d true) cl (Hf fe d OE) σ Q)⟩:=Av rfl rfl
section
variable {W:M5}
def Lv{k:Bool × Bool}{o:Gk}{r:Bool}(h:Fk k o r=false):Lu k o r=k:=by simp[Lu,h]
def TG(d:Tmp)(o:Gk)(e:Bool)(r:List (EW × (Bool × Bool) × Bool)):@VM P _ n0 ((⟨some d,o,none⟩,(false,false),e)::r) W old cl fe σ Q = @GR e ⟨(o,Fb fe,n0,old,VS P (false,false) o (Fb fe) σ (λv σ' c=>@VM P _ n0 r ⟨FN o (Fb fe) W.it⟩ (KB old d (Ev o old cl)) (cl && c) (Hf fe d v) σ' Q))⟩:=by
 have hr:Fk (false,false) o (Ff fe (Gw (some d) []) r)=false:=rfl;have hk:=Lv hr;have hVS:(VS P (Lu (false,false) o (Ff fe (Gw (some d) []) r)) o (Fb fe) σ (λv σ' c=>@F4 (Fk (false,false) o (Ff fe (Gw (some d) []) r)) c ⟨(W.it,σ,σ',@VM P _ n0 r ⟨FN o (Fb fe) W.it⟩ (KB old d (Ev o old cl)) (cl && c) (Hf fe d v) σ' Q)⟩))=VS P (false,false) o (Fb fe) σ (λv σ' c=>@VM P _ n0 r ⟨FN o (Fb fe) W.it⟩ (KB old d (Ev o old cl)) (cl && c) (Hf fe d v) σ' Q):=by rw[hk,hr];simp only[IW]
 rw[RG,hVS]
def Mq(o:Gk)(e:Bool)(r:List (EW × (Bool × Bool) × Bool)):@VM P _ n0 ((⟨none,o,none⟩,(false,false),e)::r) W old cl fe σ Q = @GR e ⟨(o,Fb fe,n0,old,VS P (false,false) o (Fb fe) σ (λ_ σ' c=>@VM P _ n0 r ⟨FN o (Fb fe) W.it⟩ old (cl && c) fe σ' Q))⟩:=by
 have hr:Fk (false,false) o (Ff fe (Gw none []) r)=false:=rfl;have hk:=Lv hr;have hVS:(VS P (Lu (false,false) o (Ff fe (Gw none []) r)) o (Fb fe) σ (λ_ σ' c=>@F4 (Fk (false,false) o (Ff fe (Gw none []) r)) c ⟨(W.it,σ,σ',@VM P _ n0 r ⟨FN o (Fb fe) W.it⟩ old (cl && c) fe σ' Q)⟩))=VS P (false,false) o (Fb fe) σ (λ_ σ' c=>@VM P _ n0 r ⟨FN o (Fb fe) W.it⟩ old (cl && c) fe σ' Q):=by rw[hk,hr];simp only[IW]
 rw[Pz,hVS]
def Q8(d:Tmp)(t:Tmp)(w:Bool)(o:Gk)(e:Bool)(r:List (EW × (Bool × Bool) × Bool)):@VM P _ n0 ((⟨some d,o,some (t,w)⟩,(false,false),e)::r) W old cl fe σ Q = @JD (fe t) w ⟨(@GR e ⟨(o,Fb fe,n0,old,VS P (false,false) o (Fb fe) σ (λv σ' c=>@VM P _ n0 r ⟨FN o (Fb fe) W.it⟩ (KB old d (Ev o old cl)) (cl && c) (Hf fe d v) σ' Q))⟩,@VM P _ n0 r W (KB old d true) cl (Hf fe d OE) σ Q)⟩:=by
 have hr:Fk (false,false) o (Ff fe (Gw (some d) []) r)=false:=rfl;have hk:=Lv hr;have hVS:(VS P (Lu (false,false) o (Ff fe (Gw (some d) []) r)) o (Fb fe) σ (λv σ' c=>@F4 (Fk (false,false) o (Ff fe (Gw (some d) []) r)) c ⟨(W.it,σ,σ',@VM P _ n0 r ⟨FN o (Fb fe) W.it⟩ (KB old d (Ev o old cl)) (cl && c) (Hf fe d v) σ' Q)⟩))=VS P (false,false) o (Fb fe) σ (λv σ' c=>@VM P _ n0 r ⟨FN o (Fb fe) W.it⟩ (KB old d (Ev o old cl)) (cl && c) (Hf fe d v) σ' Q):=by rw[hk,hr];simp only[IW]
 rw[so,hVS]
def TH(k:Bool)(d:Tmp)(o:Gk)(e:Bool)(r:List (EW × (Bool × Bool) × Bool)):@VM P _ n0 ((⟨some d,o,none⟩,(k,true),e)::r) W old cl fe σ Q = @GR e ⟨(o,Fb fe,n0,old,VS P (k,true) o (Fb fe) σ (λv σ' c=>@VM P _ n0 r ⟨FN o (Fb fe) W.it⟩ (KB old d (Ev o old cl)) (cl && c) (Hf fe d v) σ' Q))⟩:=by
 have hr:Fk (k,true) o (Ff fe (Gw (some d) []) r)=false:=by simp[Fk]
 have hk:=Lv hr;have hVS:(VS P (Lu (k,true) o (Ff fe (Gw (some d) []) r)) o (Fb fe) σ (λv σ' c=>@F4 (Fk (k,true) o (Ff fe (Gw (some d) []) r)) c ⟨(W.it,σ,σ',@VM P _ n0 r ⟨FN o (Fb fe) W.it⟩ (KB old d (Ev o old cl)) (cl && c) (Hf fe d v) σ' Q)⟩))=VS P (k,true) o (Fb fe) σ (λv σ' c=>@VM P _ n0 r ⟨FN o (Fb fe) W.it⟩ (KB old d (Ev o old cl)) (cl && c) (Hf fe d v) σ' Q):=by rw[hk,hr];simp only[IW]
 rw[RG,hVS]
def TI(d:Tmp)(o:Gk)(ho:Nx o=false)(e:Bool)(r:List (EW × (Bool × Bool) × Bool)):@VM P _ n0 ((⟨some d,o,none⟩,(true,false),e)::r) W old cl fe σ Q = @GR e ⟨(o,Fb fe,n0,old,VS P (true,false) o (Fb fe) σ (λv σ' c=>@VM P _ n0 r ⟨FN o (Fb fe) W.it⟩ (KB old d (Ev o old cl)) (cl && c) (Hf fe d v) σ' Q))⟩:=by
 have hr:Fk (true,false) o (Ff fe (Gw (some d) []) r)=false:=by simp[Fk,ho]
 have hk:=Lv hr;have hVS:(VS P (Lu (true,false) o (Ff fe (Gw (some d) []) r)) o (Fb fe) σ (λv σ' c=>@F4 (Fk (true,false) o (Ff fe (Gw (some d) []) r)) c ⟨(W.it,σ,σ',@VM P _ n0 r ⟨FN o (Fb fe) W.it⟩ (KB old d (Ev o old cl)) (cl && c) (Hf fe d v) σ' Q)⟩))=VS P (true,false) o (Fb fe) σ (λv σ' c=>@VM P _ n0 r ⟨FN o (Fb fe) W.it⟩ (KB old d (Ev o old cl)) (cl && c) (Hf fe d v) σ' Q):=by rw[hk,hr];simp only[IW]
 rw[RG,hVS]
def TJ(d:Tmp)(f:FuncId)(a:Array Operand)(e:Bool)(r:List (EW × (Bool × Bool) × Bool)):@VM P _ n0 ((⟨some d,(Gk.call f a),none⟩,(true,false),e)::r) W old cl fe σ Q = @GR e ⟨((Gk.call f a),Fb fe,n0,old,VS P (W2 ((Ff fe (Gw (some d) []) r))) (Gk.call f a) (Fb fe) σ (λv σ' c=>@F4 ((Ff fe (Gw (some d) []) r)) c ⟨(W.it,σ,σ',@VM P _ n0 r ⟨W.it⟩ (KB old d (Ev (Gk.call f a) old cl)) (cl && c) (Hf fe d v) σ' Q)⟩))⟩:=by
 have hr:Fk (true,false) (Gk.call f a) (Ff fe (Gw (some d) []) r)=(Ff fe (Gw (some d) []) r):=by simp[Fk,Nx]
 have hk:=mS f a (Ff fe (Gw (some d) []) r);have hVS:(VS P (Lu (true,false) (Gk.call f a) (Ff fe (Gw (some d) []) r)) (Gk.call f a) (Fb fe) σ (λv σ' c=>@F4 (Fk (true,false) (Gk.call f a) (Ff fe (Gw (some d) []) r)) c ⟨(W.it,σ,σ',@VM P _ n0 r ⟨FN (Gk.call f a) (Fb fe) W.it⟩ (KB old d (Ev (Gk.call f a) old cl)) (cl && c) (Hf fe d v) σ' Q)⟩))=VS P (W2 ((Ff fe (Gw (some d) []) r))) (Gk.call f a) (Fb fe) σ (λv σ' c=>@F4 ((Ff fe (Gw (some d) []) r)) c ⟨(W.it,σ,σ',@VM P _ n0 r ⟨W.it⟩ (KB old d (Ev (Gk.call f a) old cl)) (cl && c) (Hf fe d v) σ' Q)⟩):=by rw[hk,hr];rfl
 rw[RG,hVS]
def Mr(z:Nat)(a x:Operand)(e:Bool)(r:List (EW × (Bool × Bool) × Bool)):@VM P _ n0 ((⟨none,(Gk.store z a x),none⟩,(true,false),e)::r) W old cl fe σ Q = @GR e ⟨((Gk.store z a x),Fb fe,n0,old,VS P (W2 ((Ff fe (Gw none []) r))) (Gk.store z a x) (Fb fe) σ (λ_ σ' c=>@F4 ((Ff fe (Gw none []) r)) c ⟨(W.it,σ,σ',@VM P _ n0 r ⟨W.it⟩ old (cl && c) fe σ' Q)⟩))⟩:=by
 have hr:Fk (true,false) (Gk.store z a x) (Ff fe (Gw none []) r)=(Ff fe (Gw none []) r):=by simp[Fk,Nx]
 have hk:=g0 z a x (Ff fe (Gw none []) r);have hVS:(VS P (Lu (true,false) (Gk.store z a x) (Ff fe (Gw none []) r)) (Gk.store z a x) (Fb fe) σ (λ_ σ' c=>@F4 (Fk (true,false) (Gk.store z a x) (Ff fe (Gw none []) r)) c ⟨(W.it,σ,σ',@VM P _ n0 r ⟨FN (Gk.store z a x) (Fb fe) W.it⟩ old (cl && c) fe σ' Q)⟩))=VS P (W2 ((Ff fe (Gw none []) r))) (Gk.store z a x) (Fb fe) σ (λ_ σ' c=>@F4 ((Ff fe (Gw none []) r)) c ⟨(W.it,σ,σ',@VM P _ n0 r ⟨W.it⟩ old (cl && c) fe σ' Q)⟩):=by rw[hk,hr];rfl
 rw[Pz,hVS]
end
end
section
variable {k:Bool × Bool}{ρ:Operand->VV}{K:VV->D1->Bool->Prop}
def jN(f:FuncId)(args:List Operand):VS P k (.call f args.toArray) ρ σ K = @Ey P _ f (args.map ρ) ⟨(k,σ,K)⟩:=Av rfl rfl
def ZL(x:Operand)(args:List Operand):VS P k (.callv x args.toArray) ρ σ K = @IX _ (ρ x) ⟨λv=>@gW P _ v (args.map ρ) ⟨(k,σ,K)⟩⟩:=Av rfl rfl
def G6{o:Gk}{r:Option VV}(h:VS P k o ρ σ K = ∃ q,jE o ρ σ=some q/\K q.1 q.2 true)(hr:jE o ρ σ=r.map λv=>(v,σ)):VS P k o ρ σ K = @Jh _ r ⟨λv=>K v σ true⟩:=by
 rw[h,hr];apply propext;unfold Jh;constructor
 ·rintro⟨q,h1,h2⟩
  simp only[Ab] at h1;obtain⟨u,h3,rfl⟩:=h1;exact⟨u,h3,h2⟩
 ·rintro⟨u,h3,h2⟩
  exact⟨(u,σ),by simp[h3],h2⟩
def ye(x:Operand):VS P k (.mv x) ρ σ K = @IX _ (ρ x) ⟨λv=>K v σ true⟩:=by
 rw[G6 (r:=some (ρ x)) rfl rfl,SV];rfl
def jO(c a b:Operand):VS P k (.pick c a b) ρ σ K = @IX _ (ρ c) ⟨λv=>@IX _ (ρ a) ⟨λx=>@IX _ (ρ b) ⟨λy=>@Jh _ (Zg v x y) ⟨λr=>K r σ true⟩⟩⟩⟩:=by rw[G6 rfl rfl];rfl
def jP(agg:Bool)(sz:Nat)(x:Operand):VS P k (.load agg sz x) ρ σ K = @IX _ (ρ x) ⟨λv=>@Jh _ (rR σ agg sz v) ⟨λr=>K r σ true⟩⟩:=by rw[G6 rfl rfl];rfl
def ZM(x:Operand):VS P k (.nilck x) ρ σ K = @IX _ (ρ x) ⟨λv=>@Jh _ (WU v) ⟨λr=>K r σ true⟩⟩:=by rw[G6 rfl rfl];rfl
def sr(op:BinOp)(x y:Operand):VS P k (.bin op x y) ρ σ K = @IX _ (ρ x) ⟨λv=>@IX _ (ρ y) ⟨λu=>@Jh _ (M1 op v u) ⟨λr=>K r σ true⟩⟩⟩:=by rw[G6 rfl rfl];rfl
def ss(ks:List Nat)(neg:Bool)(x y:Operand):VS P k (.eqf ks neg x y) ρ σ K = @IX _ (ρ x) ⟨λv=>@IX _ (ρ y) ⟨λu=>@Jh _ (Pj ks neg v u) ⟨λr=>K r σ true⟩⟩⟩:=by rw[G6 rfl rfl];rfl
def su(neg:Bool)(x y:Operand):VS P k (.eqp neg x y) ρ σ K = @IX _ (ρ x) ⟨λv=>@IX _ (ρ y) ⟨λu=>@Jh _ (wB neg v u) ⟨λr=>K r σ true⟩⟩⟩:=by rw[G6 rfl rfl];rfl
def yf(op:UnOp)(x:Operand):VS P k (.un op x) ρ σ K = @IX _ (ρ x) ⟨λv=>@Jh _ (vun op v) ⟨λr=>K r σ true⟩⟩:=by rw[G6 rfl rfl];rfl
def yg(esz:Nat)(x:Operand)(lo hi:Option Operand):VS P k (.sl esz x lo hi) ρ σ K = @IX _ (ρ x) ⟨λv=>@IX _ (lo.map ρ) ⟨λl=>@IX _ (hi.map ρ) ⟨λh=>@Jh _ (Tu σ esz v l h) ⟨λr=>K r σ true⟩⟩⟩⟩:=by rw[G6 rfl rfl];rfl
def yh(off:Nat)(x:Operand):VS P k (.fa off x) ρ σ K = @IX _ (ρ x) ⟨λv=>@Jh _ (Uc v off) ⟨λr=>K r σ true⟩⟩:=by rw[G6 rfl rfl];rfl
def yi(esz:Nat)(x i:Operand):VS P k (.ia esz x i) ρ σ K = @IX _ (ρ x) ⟨λv=>@IX _ (ρ i) ⟨λu=>@Jh _ (via esz v u) ⟨λr=>K r σ true⟩⟩⟩:=by rw[G6 rfl rfl];rfl
def ZO(n esz:Nat)(x i:Operand):VS P k (.iaArr n esz x i) ρ σ K = @IX _ (ρ x) ⟨λv=>@IX _ (ρ i) ⟨λu=>@Jh _ (Tv n esz v u) ⟨λr=>K r σ true⟩⟩⟩:=by rw[G6 rfl rfl];rfl
def sw(x:Operand)(i:Nat):VS P k (.ext x i) ρ σ K = @IX _ (ρ x) ⟨λv=>@Jh _ (gP v i) ⟨λr=>K r σ true⟩⟩:=by rw[G6 rfl rfl];rfl
def sx(x:Operand):VS P k (.len x) ρ σ K = @IX _ (ρ x) ⟨λv=>@Jh _ (Mn v) ⟨λr=>K r σ true⟩⟩:=by rw[G6 rfl rfl];rfl
def Vm(mx:Bool)(x:Operand)(l:List Operand):VS P k (.minmax mx x l) ρ σ K = @IX _ (ρ x) ⟨λv=>@IX _ (l.map ρ) ⟨λu=>@Jh _ (vmm mx v u) ⟨λr=>K r σ true⟩⟩⟩:=by rw[G6 rfl rfl];rfl
def Vn(f:FuncId)(a b:List Operand):VS P k (.mkFunc f a.toArray b.toArray) ρ σ K = @IX _ (a.map ρ) ⟨λa=>@IX _ (b.map ρ) ⟨λb=>K (.fn f a b) σ true⟩⟩:=by
 rw[G6 (r:=some (.fn f (a.map ρ) (b.map ρ))) rfl rfl,SV];rfl
def ZS(z:List Value)(parts:List (Nat × Nat × Operand)):VS P k (.build z parts) ρ σ K = @Jh _ (IV (z.map .v) (parts.map λp=>(p.1,p.2.1,ρ p.2.2))) ⟨λl=>K (.agg l) σ true⟩:=by
 rw[G6 (r:=(IV (z.map .v) (parts.map λp=>(p.1,p.2.1,ρ p.2.2))).map .agg) rfl (by simp only[jE,Option.map_map];rfl)];unfold Jh;apply propext;constructor
 ·rintro⟨v,h1,h2⟩
  simp only[Ab] at h1;obtain⟨l,h3,rfl⟩:=h1;exact⟨l,h3,h2⟩
 ·rintro⟨l,h3,h2⟩
  exact⟨_,by rw[h3];rfl,h2⟩
def W3{o:Gk}(h:VS P k o ρ σ K = ∃ q,jE o ρ σ=some q/\K q.1 q.2 true):VS P k o ρ σ K = @Jh _ (jE o ρ σ) ⟨λr=>K r.1 r.2 true⟩:=by rw[h];rfl
def sy(t:TypeId)(x:Operand):VS P k (.box t x) ρ σ K = @IX _ (ρ x) ⟨λv=>@IX _ v.cs ⟨λc=>@SX (FE c=true) ⟨@IX _ c.length ⟨λn=>@IX _ σ.next ⟨λm=>K (.ptr m 0) (σ.box c t n) true⟩⟩⟩⟩⟩:=by
 rw[W3 rfl];simp only[jE,IX,SX,Jh];apply propext;constructor
 ·rintro⟨r,h1,h2⟩
  split at h1
  ·rename_i hc;obtain rfl:=Aa h1;exact⟨hc,h2⟩
  ·cases h1
 ·rintro⟨hc,h2⟩
  exact⟨_,if_pos hc,h2⟩
def jQ(t:TypeId)(z:Value):VS P k (.zero t z) ρ σ K = @SX (EC z.cells.toList=true) ⟨@IX _ (z.cells.toList.map VV.v) ⟨λc=>K (.ptr σ.next 0) (σ.box c t c.length) true⟩⟩:=by
 rw[W3 rfl];simp only[jE,IX,SX,Jh];apply propext;constructor
 ·rintro⟨r,h1,h2⟩
  split at h1
  ·rename_i hc;obtain rfl:=Aa h1;exact⟨hc,ad0⟩
  ·cases h1
 ·rintro⟨hc,h2⟩
  exact⟨_,if_pos hc,ad0⟩
def ZT(t:TypeId)(l:List Value):VS P k (.zero t (.agg l.toArray)) ρ σ K = @SX (EC l=true) ⟨@IX _ (l.map VV.v) ⟨λc=>@IX _ c.length ⟨λn=>@IX _ σ.next ⟨λm=>K (.ptr m 0) (σ.box c t n) true⟩⟩⟩⟩:=jQ t _
def ZU(t:TypeId)(j:IntKind)(n:Int):VS P k (.zero t (.int j n)) ρ σ K = @IX _ σ.next ⟨λm=>K (.ptr m 0) (σ.box [.v (.int j n)] t 1) true⟩:=by rw[jQ];simp[SX,IX,EC,GN,Value.cells]
def TK(e:TypeId)(esz bytes:Nat)(z:List Value)(l c:Operand):VS P k (.mkSlice e esz bytes z l c) ρ σ K = @IX _ (ρ l) ⟨λv=>@IX _ (ρ c) ⟨λu=>@Jh _ (xz e esz bytes z v u σ) ⟨λr=>K r.1 r.2 true⟩⟩⟩:=by rw[W3 rfl];rfl
def ZV(sz:Nat)(a x:Operand):VS P (false,false) (.store sz a x) ρ σ K = @IX _ (ρ a) ⟨λp=>@IX _ (ρ x) ⟨λv=>@Jh _ (vst σ sz p v) ⟨λσ'=>K (.tup []) σ' false⟩⟩⟩:=by
 simp only[VS,IX,Jh,true_and]
def Vo(e:iG)(l:List Operand):VS P (false,false) (.extra e l) ρ σ K = @IX _ (l.map ρ) ⟨λv=>@Jh _ (Ty e v σ) ⟨λr=>K r.1 r.2 (G9 e)⟩⟩:=by simp only[VS,IX,Jh,or_true,true_and]
def GC(e:TypeId)(esz n:Nat)(z:List Value)(ps:List (Nat × Nat × VV))[H:KH (D1 × (VV->D1->Bool->Prop))]:Prop:=
 (∃ r,vbs e esz n z ps H.it.1=some r/\H.it.2 r.1 r.2 true)\/(∃ r,rV e esz n z ps H.it.1=some r/\H.it.2 r.1 r.2 true)
def N4(e:TypeId)(esz n:Nat)(z:List Value)(parts:List (Nat × Nat × Operand)):VS P k (.buildSlice e esz n z parts) ρ σ K = @IX _ (parts.map λp=>(p.1,p.2.1,ρ p.2.2)) ⟨λps=>@GC e esz n z ps ⟨(σ,K)⟩⟩:=Av rfl rfl
def GC.own{e:TypeId}{esz n:Nat}{z:List Value}{ps:List (Nat × Nat × VV)}{l:List VV}(h1:z.length=esz)(h2:IV ((rep n z).map .v) ps=some l)(h3:FE l=true)(hk:K (.own esz n (l.map VV.fg) σ.next) σ.Eg true):@GC e esz n z ps ⟨(σ,K)⟩:=
 .inl ⟨_,by unfold vbs;rw[if_pos h1,h2];simp only[Az];rw[if_pos h3],hk⟩
def GC.row{e:TypeId}{esz n:Nat}{z:List Value}{ps:List (Nat × Nat × VV)}{l:List VV}(h1:z.length=esz)(h2:IV ((rep n z).map .v) ps=some l)(h3:FE l=true)(hk:K (.slice σ.next 0 n n) (σ.box l e esz) true):@GC e esz n z ps ⟨(σ,K)⟩:=
 .inr ⟨_,by unfold rV;rw[if_pos h1,h2];simp only[Az];rw[if_pos h3],hk⟩
def D5(e:TypeId)(esz bytes:Nat)(s x:VV)[H:KH ((Bool × Bool) × D1 × (VV->D1->Bool->Prop))]:Prop:=
 (H.it.1.2=false/\∃ r,OC esz bytes s x H.it.2.1=some r/\(H.it.2.2 r.1 r.2 false\/H.it.2.2 r.1.fg r.2 false))\/(H.it.1=(false,false)/\∃ r,Mo e esz bytes s x H.it.2.1=some r/\H.it.2.2 r.1 r.2 false)\/(s=.v (.slice none 0 0)/\∃ r,OC esz bytes s x H.it.2.1=some r/\(H.it.2.2 r.1 r.2 true\/H.it.2.2 r.1.fg r.2 true))
def Vp(e:TypeId)(esz bytes:Nat)(s x:Operand):VS P k (.append e esz bytes s x) ρ σ K = @IX _ (ρ s) ⟨λv=>@IX _ (ρ x) ⟨λu=>@D5 e esz bytes v u ⟨(k,σ,K)⟩⟩⟩:=Av rfl rfl
def D5.own{e:TypeId}{esz bytes:Nat}{s x r:VV}{σ':D1}{b:Bool}(h:OC esz bytes s x σ=some (r,σ'))(hk:K r σ' false):@D5 e esz bytes s x ⟨((b,false),σ,K)⟩:=.inl ⟨rfl,_,h,.inl hk⟩
def D5.Aej{e:TypeId}{esz bytes:Nat}{s x r:VV}{σ':D1}{b:Bool}(h:OC esz bytes s x σ=some (r,σ'))(hk:K r.fg σ' false):@D5 e esz bytes s x ⟨((b,false),σ,K)⟩:=.inl ⟨rfl,_,h,.inr hk⟩
def D5.row{e:TypeId}{esz bytes:Nat}{s x r:VV}{σ':D1}(h:Mo e esz bytes s x σ=some (r,σ'))(hk:K r σ' false):@D5 e esz bytes s x ⟨((false,false),σ,K)⟩:=.inr (.inl ⟨rfl,_,h,hk⟩)
def D5.Aek{e:TypeId}{esz bytes:Nat}{x r:VV}{σ':D1}{kk:Bool × Bool}(h:OC esz bytes (.v (.slice none 0 0)) x σ=some (r,σ'))(hk:K r σ' true):@D5 e esz bytes (.v (.slice none 0 0)) x ⟨(kk,σ,K)⟩:=.inr (.inr ⟨rfl,_,h,.inl hk⟩)
def dL(neg:Bool)(x y:VV)[H:KH (D1 × (VV->D1->Bool->Prop))]:Prop:=
 (∃ v,rT neg x y=some v/\H.it.2 v H.it.1 true)\/(x=.Ie 0 []/\y=EA/\H.it.2 (.v (.bool (EU neg true))) H.it.1 true/\H.it.2 (.v (.bool (EU neg false))) H.it.1 true)
def sA(neg:Bool)(x y:Operand):VS P k (.eqs neg x y) ρ σ K = @IX _ (ρ x) ⟨λv=>@IX _ (ρ y) ⟨λu=>@dL neg v u ⟨(σ,K)⟩⟩⟩:=Av rfl rfl
def dL.Ie{neg:Bool}{n:Nat}{xs:List VV}(hn:n=0->xs=[])(h1:n=0->K (.v (.bool (EU neg true))) σ true)(h2:K (.v (.bool (EU neg false))) σ true):@dL neg (.Ie n xs) (.v (.slice none 0 0)) ⟨(σ,K)⟩:=by
 by_cases h:n=0
 ·subst h
  exact .inr ⟨by rw[hn rfl],rfl,h1 rfl,h2⟩
 ·exact .inl ⟨_,by simp[rT,h],h2⟩
def sB(b:Bool):EU false b=b:=rfl
end
structure Sub(σ σ':D1):Prop where
 next:σ.next<=σ'.next
 heap:∀ id,id < σ.next->σ'.heap id=σ.heap id
 live:∀ id,id < σ.next->σ'.live id=σ.live id
 low:σ'.low=σ.low
def Sub.refl(σ:D1):Sub σ σ:=⟨Af _,λ_ _=>rfl,λ_ _=>rfl,rfl⟩
def Sub.trans{σ σ' σ'':D1}(h:Sub σ σ')(k:Sub σ' σ''):Sub σ σ'':=
 ⟨An h.next k.next,λid hid=>(k.heap id (Ar hid h.next)).trans (h.heap id hid),λid hid=>(k.live id (Ar hid h.next)).trans (h.live id hid),k.low.trans h.low⟩
def Sub.box(σ:D1)(c:List VV)(t:TypeId)(z:Nat):Sub σ (σ.box c t z):=
 ⟨by simp[D1.box,D1.alloc],λid hid=>by simp only[D1.box,D1.alloc];rw[if_neg dO],λ_ _=>rfl,rfl⟩
def Sub.Eg(σ:D1):Sub σ σ.Eg:=
 ⟨by simp[D1.Eg],λid hid=>rfl,λ_ _=>by simp only[D1.Eg];rw[if_neg dO],rfl⟩
def VG.frame{g:Go.Fn}{args:List VV}{Q:VV->D1->Prop}(h:VG P g args σ Q):VG P g args σ (λv σ'=>Q v σ'/\σ.next<=σ'.next/\σ.low<=σ.next/\(∀ id,id < σ.next->id < σ'.low->σ'.heap id=σ.heap id/\σ'.live id=σ.live id)/\σ'.low<=σ.next):=λS args' h1 h2=>by
 refine XG.mono (h S args' h1 h2) ?_;rintro v' S' ⟨v,σ',k1,k2,k3,k4⟩;exact⟨v,σ',k1,k2,k3,k4,k2.next,h1.low,λid a b=>⟨(k2.D8 id a b).1,(k2.D8 id a b).2.1⟩,k2.low⟩
def Ey.pure{f:FuncId}{args:List VV}{k:Bool × Bool}{K:VV->D1->Bool->Prop}{Q:VV->D1->Prop}(h:VC P f args σ (λv σ'=>σ.next<=σ'.low/\Q v σ'))(hj:∀ v σ',Q v σ'->Q v (σ.join σ'))(hq:∀ v σ',Q v σ'->Sub σ σ'->K v σ' true):@Ey P _ f args ⟨(k,σ,K)⟩:=by
 show Z4 P k (.func f) args σ K
 refine VG.mono (VG.frame h) ?_;rintro v σ' ⟨⟨h1,h2⟩,h3,h4,h5,h6⟩;refine⟨true,λ_=>h1,λ_=>rfl,hq _ _ (hj _ _ h2) ⟨h3,λid hid=>(h5 id hid dO).1,λid hid=>(h5 id hid dO).2,?_⟩⟩;simp only[D1.join];omega
def Ey.any{f:FuncId}{args:List VV}{K:VV->D1->Bool->Prop}{Q:VV->D1->Prop}(h:VC P f args σ Q)(hq:∀ v σ',Q v σ'->σ.next<=σ'.next->(∀ id,id < σ.next->id < σ'.low->σ'.heap id=σ.heap id/\σ'.live id=σ.live id)->K v (σ.join σ') false):@Ey P _ f args ⟨((false,false),σ,K)⟩:=by
 show Z4 P (false,false) (.func f) args σ K
 refine VG.mono (VG.frame h) ?_;rintro v σ' ⟨h2,h3,h4,h5,h6⟩;exact⟨false,λh=>(by cases h),λh=>(by cases h),hq _ _ h2 h3 h5⟩
def OJ{f:FuncId}{args:List VV}{k:Bool × Bool}{K:VV->D1->Bool->Prop}(h:∀ σ',σ'=σ->@Ey P _ f args ⟨(k,σ',K)⟩):@Ey P _ f args ⟨(k,σ,K)⟩:=h σ rfl
def Hw{c:Fh}{Q:Ex->FV->D1->Prop}(h:∀ σ',σ'=σ->@ZH P _ ⟨(c,fe,σ',Q)⟩):@ZH P _ ⟨(c,fe,σ,Q)⟩:=h σ rfl
def Fg(a b:VV):Prop:=b=a\/b=a.fg
def UF:List VV->List VV->Prop
 | [],[]=>True
 | a::r,b::s=>Fg a b/\UF r s
 | _,_=>False
def UF.rel{G:Nat->Prop}{S:St}:∀ {a b:List VV} {l:List Value},UF a b->Ee G S a l->Ee G S b l:=by
 intro a
 induction a with
 | nil=>intro b l h hr;cases b with
  | nil=>exact hr
  | cons _ _=>cases h
 | cons x a ih=>
  intro b l h hr
  match b,l,h,hr with
  | [],_,h,_=>cases h
  | y::b,[],_,hr=>exact absurd hr.1 iN
  | y::b,u::l,h,hr=>
   have hx:Ej G S x u:=hr.2 0 iN iN;refine .cons ?_ (ih h.2 ⟨by simpa using hr.1,λi h1 h2=>hr.2 (i+1) ac0 ad0⟩);rcases h.1 with rfl | rfl
   ·exact hx
   ·exact hx.fg
def VG.fg{g:Go.Fn}{args args2:List VV}{Q:VV->D1->Prop}(hf:UF args args2)(h:VG P g args2 σ Q):VG P g args σ Q:=λS args' h1 h2=>h S args' h1 (hf.rel h2)
def VC.fg{f:FuncId}{args args2:List VV}{Q:VV->D1->Prop}(hf:UF args args2)(h:VC P f args2 σ Q):VC P f args σ Q:=VG.fg hf h
end
def Vq(l:List VV):IV l []=some l:=Av rfl rfl
def TL(l:List VV)(o s:Nat)(v:VV)(r:List (Nat × Nat × VV)):IV l ((o,s,v)::r)=if v.cs.length=s/\o+s<=l.length then IV (D0 l o v.cs) r else none:=Av rfl rfl
def W4(op:BinOp)(a b:Value):M1 op (.v a) (.v b)=(KE op a b).map .v:=Av rfl rfl
def sC(a b:Int):M1 .add (vi a) (vi b)=some (vi (G0 (a+b))):=Av rfl rfl
def sD(a b:Int):M1 .sub (vi a) (vi b)=some (vi (G0 (a - b))):=Av rfl rfl
def sF(a b:Int):M1 .mul (vi a) (vi b)=some (vi (G0 (a * b))):=Av rfl rfl
def sG(a b:Int)(h:b≠0):M1 .quo (vi a) (vi b)=some (vi (G0 (a.tdiv b))):=by rw[W4,qC a b h];rfl
def S5(a b:Int)(h:b≠0):M1 .rem (vi a) (vi b)=some (vi (a.tmod b)):=by rw[W4,qD a b h];rfl
def sH(a b:Int):M1 .eql (vi a) (vi b)=some (vb (decide (a=b))):=by rw[W4,qE];rfl
def sI(a b:Int):M1 .neq (vi a) (vi b)=some (vb (decide (a≠b))):=by rw[W4,qF];rfl
def sJ(a b:Int):M1 .lss (vi a) (vi b)=some (vb (decide (a < b))):=Av rfl rfl
def sK(a b:Int):M1 .leq (vi a) (vi b)=some (vb (decide (a<=b))):=Av rfl rfl
def sL(a b:Int):M1 .gtr (vi a) (vi b)=some (vb (decide (a > b))):=Av rfl rfl
def sM(a b:Int):M1 .geq (vi a) (vi b)=some (vb (decide (a >= b))):=Av rfl rfl
def wS(a b:Int):vmm false (vi a) [vi b]=some (vi (if b < a then b else a)):=Av rfl rfl
def wT(a b:Int):vmm true (vi a) [vi b]=some (vi (if b > a then b else a)):=Av rfl rfl
def wU(b:Bool):vun .not (vb b)=some (vb !b):=Av rfl rfl
def wV(n:Int):vun .neg (vi n)=some (vi (G0 (0 - n))):=Av rfl rfl
def wW(a b:VV):Zg (.v (.bool true)) a b=some a:=Av rfl rfl
def wX(a b:VV):Zg (.v (.bool false)) a b=some b:=Av rfl rfl
def sN(id o off:Nat):Uc (.ptr id o) off=some (.ptr id (o+off)):=Av rfl rfl
def wY(xs:List VV)(o off:Nat):Uc (.ep xs o) off=some (.ep xs (o+off)):=Av rfl rfl
def ib(id o:Nat):WU (.ptr id o)=some (.ptr id o):=Av rfl rfl
def mT(a:VV)(l:List VV):gP (.tup (a::l)) 0=some a:=Av rfl rfl
def sO(a b:VV)(l:List VV):gP (.tup (a::b::l)) 1=some b:=Av rfl rfl
def sP(a b c:VV)(l:List VV):gP (.tup (a::b::c::l)) 2=some c:=Av rfl rfl
def ic(a b c d:VV)(l:List VV):gP (.tup (a::b::c::d::l)) 3=some d:=Av rfl rfl
def ZW(id o n c:Nat):Mn (.slice id o n c)=some (vi n):=Av rfl rfl
def Ia(x:Value)(l:List VV):FE (.v x::l)=FE l:=Av rfl rfl
def OA(id o n c:Nat)(l:List VV):FE (.slice id o n c::l)=FE l:=Av rfl rfl
def sQ(id:Nat)(l:List VV):FE (.map id::l)=FE l:=Av rfl rfl
def G5:FE []=true:=Av rfl rfl
def Et(a b:List VV):FE (a++b)=(FE a && FE b):=by simp[FE]
def RN(l:List VV):(VV.agg l).cs=l:=Av rfl rfl
def Ael(x:Value):(VV.v x).cs=[.v x]:=Av rfl rfl
def sR(id o n c:Nat):(VV.slice id o n c).cs=[.slice id o n c]:=Av rfl rfl
def AaO(id:Nat):(VV.map id).cs=[.map id]:=Av rfl rfl
def mU(l:List VV):I1 true l=some (.agg l):=Av rfl rfl
def mV(x:VV):I1 false [x]=some x:=Av rfl rfl
def Acr(b:VB)(agg:Bool)(o sz:Nat):Option VV:=match b with
 | .cells c _ _ _=>if o+sz<=c.length then I1 agg ((c.drop o).take sz) else none
 | _=>none
def jR(σ:D1)(agg:Bool)(sz id o:Nat):rR σ agg sz (.ptr id o)=Acr (σ.heap id) agg o sz:=Av rfl rfl
def ie(c:List VV)(t:TypeId)(z b:Nat)(agg:Bool)(o sz:Nat):Acr (.cells c t z b) agg o sz=if o+sz<=c.length then I1 agg ((c.drop o).take sz) else none:=Av rfl rfl
def GZ(σ:D1)(agg:Bool)(sz:Nat)(xs:List VV)(o:Nat):rR σ agg sz (.ep xs o)=if o+sz<=xs.length then I1 agg ((xs.drop o).take sz) else none:=Av rfl rfl
def AaP(σ:D1)(id sz o:Nat)(cs:List VV)(b:VB):Option D1:=match b with
 | .cells c t z b=>if cs.length=sz/\o+sz<=c.length/\FE cs=true then some (σ.write id (D0 c o cs) t z b) else none
 | _=>none
def jS(σ:D1)(sz id o:Nat)(x:VV):vst σ sz (.ptr id o) x=AaP σ id sz o x.cs (σ.heap id):=Av rfl rfl
def TM(σ:D1)(id sz o:Nat)(cs c:List VV)(t:TypeId)(z b:Nat):AaP σ id sz o cs (.cells c t z b)=if cs.length=sz/\o+sz<=c.length/\FE cs=true then some (σ.write id (D0 c o cs) t z b) else none:=Av rfl rfl
def PA(σ:D1)(c:List VV)(t:TypeId)(z j:Nat):(σ.box c t z).heap j=if j=σ.next then .cells c t z σ.next else σ.heap j:=Av rfl rfl
def Jl(σ:D1)(c:List VV)(t:TypeId)(z:Nat):(σ.box c t z).heap σ.next=.cells c t z σ.next:=by rw[PA,if_pos rfl]
def YN(σ:D1)(c:List VV)(t:TypeId)(z j:Nat)(h:j≠σ.next):(σ.box c t z).heap j=σ.heap j:=by rw[PA,if_neg h]
def HN(σ:D1)(id:Nat)(c:List VV)(t:TypeId)(z b j:Nat):(σ.write id c t z b).heap j=if j=id then .cells c t z b else σ.heap j:=Av rfl rfl
def EY(σ:D1)(id:Nat)(c:List VV)(t:TypeId)(z b:Nat):(σ.write id c t z b).heap id=.cells c t z b:=by rw[HN,if_pos rfl]
def ET(σ:D1)(id:Nat)(c:List VV)(t:TypeId)(z b j:Nat)(h:j≠id):(σ.write id c t z b).heap j=σ.heap j:=by rw[HN,if_neg h]
def ZY(σ:D1):σ.Eg.heap=σ.heap:=Av rfl rfl
def heap_fresh(σ:D1):σ.fresh.heap=σ.heap:=Av rfl rfl
def Js(σ:D1)(c:List VV)(t:TypeId)(z:Nat):(σ.box c t z).next=σ.next+1:=Av rfl rfl
def HR(σ:D1)(id:Nat)(c:List VV)(t:TypeId)(z b:Nat):(σ.write id c t z b).next=σ.next:=Av rfl rfl
def Hq(σ:D1):σ.Eg.next=σ.next+1:=Av rfl rfl
def Lz(σ:D1):σ.fresh.next=σ.next:=Av rfl rfl
def Pk(σ:D1)(c:List VV)(t:TypeId)(z:Nat):(σ.box c t z).low=σ.low:=Av rfl rfl
def H5(σ:D1)(id:Nat)(c:List VV)(t:TypeId)(z b:Nat):(σ.write id c t z b).low=min σ.low b:=Av rfl rfl
def Ji(σ:D1):σ.Eg.low=σ.low:=Av rfl rfl
def UT(σ:D1):σ.fresh.low=σ.next:=Av rfl rfl
class DZ(α:Type) where
 w:Nat
 e:α->List VV
 len:∀ a,(e a).length=w
 all:∀ a,FE (e a)=true
 fgd:∀ a,(e a).map VV.fg=e a
 pos:0 < w
section
variable {α:Type}[DZ α]
def D4(l:List α):List VV:=l.flatMap DZ.e
def Lr:D4 ([]:List α)=[]:=rfl
def Gt(a:α)(l:List α):D4 (a::l)=DZ.e a++D4 l:=rfl
def G1(l m:List α):D4 (l++m)=D4 l++D4 m:=by simp[D4]
def Uk(a:α):D4 [a]=DZ.e a:=by simp[D4]
def ES(l:List α):(D4 l).length=l.length * DZ.w α:=by
 induction l with
 | nil=>simp[Lr]
 | cons a l ih=>rw[Gt,Ad,ih,DZ.len,Ag,Bd];omega
def Lw(l:List α):(D4 l).map VV.fg=D4 l:=by
 induction l with
 | nil=>rfl
 | cons a l ih=>rw[Gt,AX,ih,DZ.fgd]
def Kc(l:List α):FE (D4 l)=true:=by
 induction l with
 | nil=>rfl
 | cons a l ih=>rw[Gt,Et,ih,DZ.all];rfl
def OF(l:List α)(i:Nat):(D4 l).drop (i * DZ.w α)=D4 (l.drop i):=by
 induction i generalizing l with
 | zero=>simp
 | succ i ih=>
  cases l with
  | nil=>simp[Lr]
  | cons a l=>
   simp only[Gt,Cu];rw[show (i+1) * DZ.w α=(DZ.e a).length+i * DZ.w α by rw[DZ.len,Bd];omega,BG,Bb dO];simp[ih]
def OB(l:List α)(i:Nat):(D4 l).take (i * DZ.w α)=D4 (l.take i):=by
 induction i generalizing l with
 | zero=>simp[Lr]
 | succ i ih=>
  cases l with
  | nil=>simp[Lr]
  | cons a l=>
   simp only[Gt,BS];rw[show (i+1) * DZ.w α=(DZ.e a).length+i * DZ.w α by rw[DZ.len,Bd];omega,B4,Aj dO];simp[ih]
def Ox(l:List α)(i:Nat)(hi:i < l.length)(off sz:Nat)(h:off+sz<=DZ.w α):((D4 l).drop (i * DZ.w α+off)).take sz=((DZ.e l[i]).drop off).take sz:=by
 rw[<- BV,OF,A3 hi,Gt,BG,B4,DZ.len];have h0:((DZ.e l[i]).drop off).length=DZ.w α - off:=by simp[DZ.len]
 rw[h0,show sz - (DZ.w α - off)=0 by omega];simp
def Nr(l:List α)(i:Nat)(hi:i < l.length)(a:α):D0 (D4 l) (i * DZ.w α) (DZ.e a)=D4 (l.set i a):=by
 unfold D0;rw[DZ.len,OB,show i * DZ.w α+DZ.w α=(i+1) * DZ.w α by rw[Bd,CY],OF,Cf,if_pos hi];simp[D4]
def vl(l:List α):VV:=.Ie l.length (D4 l)
def vo(l:List α)(t:Nat):VV:=.own (DZ.w α) l.length (D4 l) t
def Z6(l:List α)(i o:Nat):VV:=.ep (D4 l) (i * DZ.w α+o)
def Ii(l:List α):(vl l).fg=vl l:=by simp only[vl,VV.fg,Lw]
def YJ(l:List α)(t:Nat):(vo l t).fg=vl l:=by simp only[vl,vo,VV.fg,Lw]
def AaQ(l:List α):Mn (vl l)=some (vi l.length):=Av rfl rfl
def AaR(l:List α)(t:Nat):Mn (vo l t)=some (vi l.length):=Av rfl rfl
def sS{l:List α}{i:Nat}(h:i < l.length){esz:Nat}(hw:esz=DZ.w α):via esz (vl l) (vi i)=some (Z6 l i 0):=by
 subst hw;unfold vl via Z6;simp only;rw[if_pos ⟨dO,dO,ES l⟩];simp
def ig{l:List α}{t:Nat}{i:Nat}(h:i < l.length){esz:Nat}(hw:esz=DZ.w α):via esz (vo l t) (vi i)=some (Z6 l i 0):=by
 subst hw;unfold vo via Z6;simp only;rw[if_pos ⟨dO,dO,ES l⟩];simp
def sU(l:List α)(i o off:Nat):Uc (Z6 l i o) off=some (Z6 l i (o+off)):=by unfold Z6 Uc;simp[Bv]
def wZ{σ:D1}{agg:Bool}{sz:Nat}{l:List α}{i o:Nat}(h:i < l.length)(hw:o+sz<=DZ.w α):rR σ agg sz (Z6 l i o)=I1 agg (((DZ.e l[i]).drop o).take sz):=by
 unfold Z6 rR;have hm:i * DZ.w α+DZ.w α<=l.length * DZ.w α:=by
  have:=AL (DZ.w α) (show i+1<=l.length by omega);rw[Bd] at this;omega
 simp only;rw[if_pos (by rw[ES];omega),Ox l i h o sz hw]
def sW(l:List α)(i o n0:Nat)(K:Prop):@TF (Z6 l i o) n0 true ⟨K⟩=K:=jL _ _ _ _
def w8(l:List α)(t n0:Nat)(K:Prop):@TF (vo l t) n0 true ⟨K⟩=K:=sm _ _ _ _ _ _
def Gf(σ:D1)(l:List α){esz:Nat}(hw:esz=DZ.w α):H9 σ esz (vl l)=some (l.length,D4 l):=by subst hw;simp only[vl,H9,ES,if_true]
def EN(σ:D1)(l:List α)(t:Nat){esz:Nat}(hw:esz=DZ.w α):H9 σ esz (vo l t)=some (l.length,D4 l):=by subst hw;simp only[vo,H9,ES,if_true]
def Acs(l:List α):(vl l).cs=[vl l]:=Av rfl rfl
def Acu(l:List α)(t:Nat):(vo l t).cs=[vo l t]:=Av rfl rfl
def HJ(l:List α)(m:List VV):FE (vl l::m)=FE m:=Av rfl rfl
def Vt(l:List α)(t:Nat)(m:List VV):FE (vo l t::m)=FE m:=Av rfl rfl
def Qr{σ:D1}{l:List α}{esz:Nat}{lo hi:Option VV}{a b:Nat}(hw:esz=DZ.w α)(h1:Gj lo 0=some a)(h2:Gj hi l.length=some b)(hab:a<=b)(hb:b<=l.length):Tu σ esz (vl l) lo hi=some (vl ((l.take b).drop a)):=by
 subst hw;unfold vl Tu;simp only[h1,h2];rw[if_pos ⟨hab,hb,ES l⟩];have e:((D4 l).drop (a * DZ.w α)).take ((b - a) * DZ.w α)=D4 ((l.take b).drop a):=by
  rw[OF,OB]
  congr 1
  rw[CJ]
 rw[e];simp[AI,As,Bl hb]
def AaS{σ:D1}{l:List α}{t esz:Nat}{lo hi:Option VV}{a b:Nat}(hw:esz=DZ.w α)(h1:Gj lo 0=some a)(h2:Gj hi l.length=some b)(hab:a<=b)(hb:b<=l.length):Tu σ esz (vo l t) lo hi=some (vl ((l.take b).drop a)):=by
 have:=Qr (σ:=σ) hw h1 h2 hab hb;exact this
def Md(a d:Nat):Gj (some (vi a)) d=some a:=by simp[Gj]
def ZZ(d:Nat):Gj none d=some d:=rfl
def AaT{σ:D1}{l:List α}{esz b:Nat}(hw:esz=DZ.w α)(hb:b<=l.length):Tu σ esz (vl l) none (some (vi b))=some (vl (l.take b)):=by
 have:=Qr (σ:=σ) (l:=l) (lo:=none) (hi:=some (vi b)) hw rfl (Md b _) (AM _) hb;simpa using this
def AaU{σ:D1}{l:List α}{esz a:Nat}(hw:esz=DZ.w α)(ha:a<=l.length):Tu σ esz (vl l) (some (vi a)) none=some (vl (l.drop a)):=by
 have:=Qr (σ:=σ) (l:=l) (lo:=some (vi a)) (hi:=none) hw (Md a _) rfl ha (Af _);simpa using this
def sX{σ:D1}{l:List α}{esz a b:Nat}(hw:esz=DZ.w α)(hab:a<=b)(hb:b<=l.length):Tu σ esz (vl l) (some (vi a)) (some (vi b))=some (vl ((l.take b).drop a)):=
 Qr hw (Md a _) (Md b _) hab hb
def App(σ:D1)(b:Nat)(v:VV)(l:List α):Prop:=(v=.v (.slice none 0 0)/\l=[])\/∃ t,v=vo l t/\σ.live t=true/\b<=t/\t < σ.next
def App.nil(σ:D1)(b:Nat):App σ b (.v (.slice none 0 0)) ([]:List α):=.inl ⟨rfl,rfl⟩
def App.fg{σ:D1}{b:Nat}{v:VV}{l:List α}(h:App σ b v l):v.fg=vl l:=by
 rcases h with ⟨rfl,rfl⟩ | ⟨t,rfl,_⟩
 ·rw[VV.fg];rfl
 ·exact YJ _ _
def App.lP{σ:D1}{b b':Nat}{v:VV}{l:List α}(h:App σ b v l)(hb:b'<=b):App σ b' v l:=by
 rcases h with h | ⟨t,h1,h2,h3,h4⟩
 ·exact .inl h
 ·exact .inr ⟨t,h1,h2,dO,h4⟩
def App.D8{σ σ':D1}{b:Nat}{v:VV}{l:List α}(h:App σ b v l)(hn:σ.next<=σ'.next)(hl:∀ t,t < σ.next->b<=t->σ'.live t=σ.live t):App σ' b v l:=by
 rcases h with h | ⟨t,h1,h2,h3,h4⟩
 ·exact .inl h
 ·exact .inr ⟨t,h1,by rw[hl t h4 h3];exact h2,h3,dO⟩
def App.sub{σ σ':D1}{b:Nat}{v:VV}{l:List α}(h:App σ b v l)(k:Sub σ σ'):App σ' b v l:=h.D8 k.next λt ht _=>k.live t ht
def App.cs{σ:D1}{b:Nat}{v:VV}{l:List α}(h:App σ b v l):v.cs=[v]:=by
 rcases h with ⟨rfl,rfl⟩ | ⟨t,rfl,_⟩<;>rfl
def App.all{σ:D1}{b:Nat}{v:VV}{l:List α}(h:App σ b v l)(m:List VV):FE (v::m)=FE m:=by
 rcases h with ⟨rfl,rfl⟩ | ⟨t,rfl,_⟩<;>rfl
def App.len{σ:D1}{b:Nat}{v:VV}{l:List α}(h:App σ b v l):Mn v=some (vi l.length):=by
 rcases h with ⟨rfl,rfl⟩ | ⟨t,rfl,_⟩<;>rfl
def App.via{σ:D1}{b:Nat}{v:VV}{l:List α}(h:App σ b v l){i:Nat}(hi:i < l.length){esz:Nat}(hw:esz=DZ.w α):Go.Proofs.YtkkpchcniicimaaGreat.via esz v (vi i)=some (Z6 l i 0):=by
 rcases h with ⟨rfl,rfl⟩ | ⟨t,rfl,_⟩
 ·exact absurd hi iN
 ·exact ig hi hw
def App.cont{σ:D1}{b:Nat}{v:VV}{l:List α}(h:App σ b v l)(σ':D1){esz:Nat}(hw:esz=DZ.w α):H9 σ' esz v=some (l.length,D4 l):=by
 rcases h with ⟨rfl,rfl⟩ | ⟨t,rfl,_⟩
 ·rfl
 ·exact EN _ _ _ hw
def Rd(v:VV)(l:List α):Prop:=(v=.v (.slice none 0 0)/\l=[])\/(∃ t,v=vo l t)\/v=vl l
def App.rd{σ:D1}{b:Nat}{v:VV}{l:List α}(h:App σ b v l):Rd v l:=by
 rcases h with h | ⟨t,h,_⟩
 ·exact .inl h
 ·exact .inr (.inl ⟨t,h⟩)
def Rd.vl(l:List α):Rd (Go.Proofs.YtkkpchcniicimaaGreat.vl l) l:=.inr (.inr rfl)
def Rd.fg{v:VV}{l:List α}(h:Rd v l):v.fg=Go.Proofs.YtkkpchcniicimaaGreat.vl l:=by
 rcases h with ⟨rfl,rfl⟩ | ⟨t,rfl⟩ | rfl
 ·rw[VV.fg];rfl
 ·exact YJ _ _
 ·exact Ii _
def Rd.cs{v:VV}{l:List α}(h:Rd v l):v.cs=[v]:=by
 rcases h with ⟨rfl,rfl⟩ | ⟨t,rfl⟩ | rfl<;>rfl
def Rd.all{v:VV}{l:List α}(h:Rd v l)(m:List VV):FE (v::m)=FE m:=by
 rcases h with ⟨rfl,rfl⟩ | ⟨t,rfl⟩ | rfl<;>rfl
def Rd.len{v:VV}{l:List α}(h:Rd v l):Mn v=some (vi l.length):=by
 rcases h with ⟨rfl,rfl⟩ | ⟨t,rfl⟩ | rfl<;>rfl
def Rd.via{v:VV}{l:List α}(h:Rd v l){i:Nat}(hi:i < l.length){esz:Nat}(hw:esz=DZ.w α):Go.Proofs.YtkkpchcniicimaaGreat.via esz v (vi i)=some (Z6 l i 0):=by
 rcases h with ⟨rfl,rfl⟩ | ⟨t,rfl⟩ | rfl
 ·exact absurd hi iN
 ·exact ig hi hw
 ·exact sS hi hw
def Rd.cont{v:VV}{l:List α}(h:Rd v l)(σ':D1){esz:Nat}(hw:esz=DZ.w α):H9 σ' esz v=some (l.length,D4 l):=by
 rcases h with ⟨rfl,rfl⟩ | ⟨t,rfl⟩ | rfl
 ·rfl
 ·exact EN _ _ _ hw
 ·exact Gf _ _ hw
structure AaV(σ:D1)(b:Nat)(σ':D1):Prop where
 heap:σ'.heap=σ.heap
 next:σ.next<=σ'.next
 low:min σ.low b<=σ'.low
 low':σ'.low<=σ.low
def App.push{σ:D1}{b:Nat}{v x:VV}{l m:List α}(h:App σ b v l){esz bytes:Nat}(hx:H9 σ esz x=some (m.length,D4 m))(hw:esz=DZ.w α)(hr:(l.length+m.length) * bytes<=reach)(hb:0 < bytes)(hbn:b<=σ.next) :
  ∃ r σ',OC esz bytes v x σ=some (r,σ')/\App σ' b r (l++m)/\AaV σ b σ'/\∀ t,t < b->σ'.live t=σ.live t:=by
 subst hw;unfold OC;rw[hx];simp only[Az];by_cases hm:m.length=0
 ·obtain rfl:m=[]:=Ak hm
  rcases h with ⟨rfl,rfl⟩ | ⟨t,rfl,h1,h2,h3⟩
  ·exact⟨_,σ,rfl,.inl ⟨rfl,rfl⟩,⟨rfl,Af _,dO,Af _⟩,λ_ _=>rfl⟩
  ·exact⟨_,σ,rfl,.inr ⟨t,by rw[AP];rfl,h1,h2,h3⟩,⟨rfl,Af _,dO,Af _⟩,λ_ _=>rfl⟩
 ·rw[if_neg hm,if_pos (by simp[Kc,DZ.pos,hb])]
  rcases h with ⟨rfl,rfl⟩ | ⟨t,rfl,h1,h2,h3⟩
  ·simp only
   rw[if_pos (by simpa using hr)];refine⟨_,_,rfl,.inr ⟨σ.next,by rw[Lw];rfl,by simp[D1.Eg],hbn,by simp[D1.Eg]⟩,⟨rfl,by simp[D1.Eg],by simp only[D1.Eg];omega,Af _⟩,λt ht=>?_⟩;simp only[D1.Eg];rw[if_neg dO]
  ·unfold vo
   simp only;rw[if_pos ⟨h1,trivial,hr⟩];refine⟨_,_,rfl,.inr ⟨σ.next,by unfold vo;rw[Lw,G1,Ad],by simp[D1.Fx],hbn,by simp[D1.Fx]⟩,⟨rfl,by simp[D1.Fx],by simp only[D1.Fx];omega,by simp only[D1.Fx];omega⟩,λt' ht=>?_⟩;simp only[D1.Fx];rw[if_neg dO,if_neg dO]
end
def AaW(x:Value)(h:∀ n c,x≠.slice none n c):(VV.v x).fg=.v x:=by
 rw[VV.fg];unfold th;split
 ·exact absurd rfl (h _ _)
 ·rfl
def Gh(k:IntKind)(n:Int):(VV.v (.int k n)).fg=.v (.int k n):=AaW _ iN
def JX(b:Bool):(VV.v (.bool b)).fg=.v (.bool b):=AaW _ iN
def Vr(s:ByteArray):(VV.v (.string s)).fg=.v (.string s):=AaW _ iN
def Nq:(VV.v (.slice none 0 0)).fg=.Ie 0 []:=by rw[VV.fg];rfl
instance Aem:DZ Int:=⟨1,λn=>[vi n],λ_=>rfl,λ_=>rfl,λ_=>by rw[Au,AD,Gh],iF⟩
instance AcI:DZ Bool:=⟨1,λn=>[vb n],λ_=>rfl,λ_=>rfl,λ_=>by rw[Au,AD,JX],iF⟩
def Aam:DZ.w Int=1:=rfl
def vY(n:Int):DZ.e n=[vi n]:=rfl
def Acv(n:Bool):DZ.e n=[vb n]:=rfl
section
variable {P:Program}[Prim P]
def VD(P:Program)[Prim P](f:FuncId)(args:List VV)(x:VV):Prop:=∀ σ,VC P f args σ (λr σ'=>σ.next<=σ'.low/\r.fg=x)
def VG.ju{g:Go.Fn}{args:List VV}{σ:D1}{Q:VV->D1->Prop}(h:VG P g args σ Q):VG P g args σ (λv σ'=>∃ v0,v=v0.fg/\Q v0 σ'):=λS args' h1 h2=>by
 refine XG.mono (h S args' h1 h2) ?_;rintro v' S' ⟨v,σ',k1,k2,k3,k4⟩;exact⟨v.fg,σ',k1,k2,k3.fg,v,rfl,k4⟩
def Ww(l:List VV):(VV.agg l).fg=.agg (l.map VV.fg):=by rw[VV.fg]
def fX(l:List VV):(VV.tup l).fg=.tup (l.map VV.fg):=by rw[VV.fg]
def fY(id o:Nat):(VV.ptr id o).fg=.ptr id o:=by rw[VV.fg]
def Fg.rfl(a:VV):Fg a a:=.inl (Eq.refl a)
def Fg.of{a b:VV}(h:a.fg=b):Fg a b:=.inr h.symm
end
def D1.begin(S:St):D1:=⟨λ_=>.gone,λ_=>false,S.next,S.next⟩
def E9.begin(S:St):E9 (.begin S) S:=⟨rfl,λ_ _=>⟨rfl,rfl⟩,Af _,λid h=>by cases h⟩
def ij(l:List Int):D4 l=(He l).map VV.v:=by
 induction l with
 | nil=>rfl
 | cons a l ih=>rw[Gt,ih];rfl
def il(l:List Int):EC (He l)=true:=by
 induction l with
 | nil=>rfl
 | cons a l ih=>exact ih
def Ng.vl{S:St}{v:Value}{l:List Int}(h:Ng S v l):Ej (D1.begin S).G S (vl l) v:=by
 rcases h with ⟨rfl,rfl⟩ | ⟨id,o,c,cc,t,mi,an,rfl,hc,hid,hg,hb,he⟩
 ·exact .lstNil
 ·have hw:Fw.w Int=1:=rfl
  rw[hw] at hg hb he;rw[Cb] at hb he;have hlen:(D4 l).length=l.length:=by rw[ES];exact Cb _
  refine .Ie 1 id o l.length c cc t (D4 l) ⟨hid,rfl⟩ (by rw[hg];rfl) hc (by rw[hlen,Cb]) (by rw[hlen];exact hb) λi h1 h2=>?_
  have hi:i < l.length:=dO
  have e1:(D4 l)[i]? = some (.v cc[o+i]):=by
   rw[ij,<- he,BI,BZ,if_pos hi,CU,Ah h2];rfl
  rw[Ah h1,AE] at e1;rw[e1];refine .v _ ?_;have:=il l;rw[<- he] at this;simp only[EC,At] at this;refine this _ ?_;have e2:((cc.drop o).take l.length)[i]? = some cc[o+i]:=by
   rw[BZ,if_pos hi,CU,Ah h2]
  exact AF e2
def Ej.int{G:Nat->Prop}{S:St}(n:Int):Ej G S (vi n) (.int .i64 n):=.v _ rfl
def Ej.bool{G:Nat->Prop}{S:St}(b:Bool):Ej G S (vb b) (.bool b):=.v _ rfl
def VD.law{P:Program}[Prim P]{f:FuncId}{args:List VV}{args':Array Value}{S:St}(h:VD P f args (vb true))(ha:Ee (D1.begin S).G S args args'.toList) :
  XC P f args' S λr S'=>Ext S S'/\r=.bool true:=by
 refine XG.mono (h (.begin S) S args' (E9.begin S) ha) ?_;rintro r S' ⟨v,σ',k1,k2,k3,k4,k5⟩;refine⟨⟨?_,λid hid=>(k2.D8 id hid (Ar hid k4)).2.2⟩,?_⟩
 ·have:=k2.next
  rw[k1.next] at this;exact this
 ·have:=k3.fg
  rw[k5] at this;cases this;rfl
def D1.freeze(σ:D1)(id:Nat):D1:={ σ with heap:=λj=>if j=id then .gone else σ.heap j,low:=min σ.low id }
def Ec(σ:D1)(id j:Nat)(h:j≠id):(σ.freeze id).heap j=σ.heap j:=by simp[D1.freeze,h]
def Z0(σ:D1)(id:Nat):(σ.freeze id).next=σ.next:=rfl
def Fj(σ:D1)(id:Nat):(σ.freeze id).low=min σ.low id:=rfl
def Q9(σ:D1)(id j:Nat):(σ.freeze id).live j=σ.live j:=rfl
def E9.freeze{σ:D1}{S:St}(h:E9 σ S){id:Nat}{cs:List VV}{t:TypeId}{z b:Nat}(hg:σ.heap id=.cells cs t z b) :
  E9 (σ.freeze id) S/\ER σ S (σ.freeze id) S/\∀ o n c,n<=c->o+n * z<=cs.length->Ej (σ.freeze id).G S (.Ie n ((cs.drop o).take (n * z))) (.slice (some ⟨id,o,none⟩) n c):=by
 have hid:id < σ.next:=Cw λhle=>by have:=(h.hi id hle).1;rw[hg] at this;cases this
 have hG:∀ j,σ.G j->(σ.freeze id).G j/\(S.get j).look=(S.get j).look:=λj hj=>by
  refine⟨⟨hj.1,?_⟩,rfl⟩;by_cases e:j=id
  ·simp[D1.freeze,e]
  ·rw[Ec _ _ _ e];exact hj.2
 have hb:=h.IM id;rw[hg] at hb;obtain⟨h0,h00,c',an,h1,h2,h3⟩:=hb;refine⟨⟨h.next,λj hj=>?_,?_,λj=>?_⟩,⟨Af _,λj hj=>⟨(hG j hj).1.2,rfl⟩,?_,λj h1 h2=>⟨?_,rfl,rfl⟩⟩,λo n c hn ho=>?_⟩
 ·have:=h.hi j hj
  refine⟨?_,this.2⟩;by_cases e:j=id
  ·simp[D1.freeze,e]
  ·rw[Ec _ _ _ e];exact this.1
 ·rw[Fj,Z0];have:=h.low;omega
 ·by_cases e:j=id
  ·subst e
   have:(σ.freeze j).heap j=.gone:=by simp[D1.freeze]
   rw[this,Q9,h0];exact λh=>by cases h
  ·rw[Ec _ _ _ e,Q9]
   refine PW.mono hG (λk hk=>?_) (h.IM j);have hk':σ.heap k=.dead:=hk;have:k≠id:=λe=>by rw[e,hg] at hk';cases hk'
   show (σ.freeze id).heap k=.dead
   rw[Ec _ _ _ this];exact hk'
 ·rw[Fj];omega
 ·rw[Fj] at h2
  exact Ec _ _ _ dO
 ·have hlen:((cs.drop o).take (n * z)).length=n * z:=by rw[As,AI];omega
  refine .Ie z id o n c c' t _ ⟨hid,by simp[D1.freeze]⟩ (by rw[h1];rfl) hn hlen (by rw[hlen,<- h2.1];exact ho) λi h3 h4=>?_
  rw[Cp,Cq];exact (h2.2 (o+i) (by rw[hlen] at h3;omega) h4).mono hG
def VG.freeze{P:Program}[Prim P]{g:Go.Fn}{args:List VV}{σ:D1}{Q Q':VV->D1->Prop}(h:VG P g args σ Q)
  (hq:∀ v σ',Q v σ'->∃ id o n c cs t z b,v=.slice id o n c/\σ'.heap id=.cells cs t z b/\n<=c/\o+n * z<=cs.length/\Q' (.Ie n ((cs.drop o).take (n * z))) (σ'.freeze id)):VG P g args σ Q':=λS args' h1 h2=>by
 refine XG.mono (h S args' h1 h2) ?_;rintro v' S' ⟨v,σ',k1,k2,k3,k4⟩;obtain⟨id,o,n,c,cs,t,z,b,rfl,hg,hn,ho,hq'⟩:=hq _ _ k4;obtain⟨f1,f2,f3⟩:=k1.freeze hg;cases k3;exact⟨_,_,f1,k2.trans f2,f3 o n c hn ho,hq'⟩
section
variable {α:Type}[DZ α]
def w9{id n c i w:Nat}(hi:i < n):via w (.slice id 0 n c) (vi i)=some (.ptr id (i * w)):=by
 simp only[via];rw[if_pos ⟨dO,dO⟩];simp
def sY{l:List α}{i w:Nat}(h:i < l.length)(hw:w=DZ.w α)(σ:D1)(id:Nat)(x:α)(t:TypeId)(z b:Nat):AaP σ id w (i * w) (DZ.e x) (.cells (D4 l) t z b)=some (σ.write id (D4 (l.set i x)) t z b):=by
 subst hw;have hb:i * DZ.w α+DZ.w α<=(D4 l).length:=by
  rw[ES,show i * DZ.w α+DZ.w α=(i+1) * DZ.w α by rw[Bd,CY]];exact AL _ h
 rw[TM,if_pos ⟨DZ.len _,hb,DZ.all _⟩,Nr l i h x]
end
structure Ud(σ σ':D1)(id:Nat):Prop where
 next:σ.next<=σ'.next
 heap:∀ j,j < σ.next->j≠id->σ'.heap j=σ.heap j
 live:∀ j,j < σ.next->j≠id->σ'.live j=σ.live j
def Ud.refl(σ:D1)(id:Nat):Ud σ σ id:=⟨Af _,λ_ _ _=>rfl,λ_ _ _=>rfl⟩
def Ud.trans{σ σ' σ'':D1}{id:Nat}(h:Ud σ σ' id)(k:Ud σ' σ'' id):Ud σ σ'' id:=
 ⟨An h.next k.next,λj h1 h2=>(k.heap j (Ar h1 h.next) h2).trans (h.heap j h1 h2),λj h1 h2=>(k.live j (Ar h1 h.next) h2).trans (h.live j h1 h2)⟩
def Ud.write(σ:D1)(id:Nat)(c:List VV)(t:TypeId)(z b:Nat):Ud σ (σ.write id c t z b) id:=⟨Af _,λj _ h=>ET _ _ _ _ _ _ _ h,λ_ _ _=>rfl⟩
def Ud.sub{σ σ':D1}{id:Nat}(h:Sub σ σ'):Ud σ σ' id:=⟨h.next,λj hj _=>h.heap j hj,λj hj _=>h.live j hj⟩
def D1.skip(σ:D1)(n:Nat):D1:={ σ with next:=σ.next+n }
def D1.pu(σ:D1)(n lo:Nat)(lv:Nat->Bool):D1:=⟨σ.heap,lv,σ.next+n,lo⟩
def mW(σ:D1)(n:Nat):(σ.skip n).heap=σ.heap:=Av rfl rfl
def FP(σ:D1)(n:Nat):(σ.skip n).next=σ.next+n:=Av rfl rfl
def GQ(σ:D1)(n:Nat):(σ.skip n).low=σ.low:=Av rfl rfl
def RH(σ:D1)(n lo:Nat)(lv:Nat->Bool):(σ.pu n lo lv).heap=σ.heap:=Av rfl rfl
def RB(σ:D1)(n lo:Nat)(lv:Nat->Bool):(σ.pu n lo lv).next=σ.next+n:=Av rfl rfl
def Qd(σ:D1)(n lo:Nat)(lv:Nat->Bool):(σ.pu n lo lv).low=lo:=Av rfl rfl
def RJ(σ:D1)(n lo:Nat)(lv:Nat->Bool):(σ.pu n lo lv).live=lv:=Av rfl rfl
def Sub.skip(σ:D1)(n:Nat):Sub σ (σ.skip n):=⟨AQ _ _,λ_ _=>rfl,λ_ _=>rfl,rfl⟩
def E9.drop{σ σ':D1}{S S':St}(h:E9 σ S)(k1:E9 σ' S')(k2:ER σ.fresh S σ' S')(hl:σ.next<=σ'.low)(lv:Nat->Bool)(hlv:∀ j,j < σ.next->lv j=σ.live j)(hlv2:∀ j,σ.next<=j->lv j=true->σ'.live j=true) :
  E9 ((σ.pu (σ'.next - σ.next) σ.next lv)) S'/\ER σ.fresh S (σ.pu (σ'.next - σ.next) σ.next lv) S'/\∀ id,σ'.G id->(σ.pu (σ'.next - σ.next) σ.next lv).G id/\(S'.get id).look=(S'.get id).look:=by
 have hn:=h.next;have hn':=k1.next;have hle:σ.next<=σ'.next:=k2.next;have e:(σ.pu (σ'.next - σ.next) σ.next lv).next=σ'.next:=by rw[RB];omega
 have hG:∀ id,σ'.G id->(σ.pu (σ'.next - σ.next) σ.next lv).G id:=λid hid=>by
  refine⟨by rw[e];exact hid.1,?_⟩;rw[RH];by_cases hi:id < σ.next
  ·have:=(k2.D8 id hi dO).1
   rw[heap_fresh] at this;rw[<- this];exact hid.2
  ·exact (h.hi id dO).1
 have hst:∀ id,σ.G id->(σ.pu (σ'.next - σ.next) σ.next lv).heap id=.gone/\(S'.get id).look=(S.get id).look:=λid hid=>⟨hid.2,(k2.still id hid).2⟩
 refine⟨⟨by rw[e];exact hn',λid hid=>?_,by rw[e,Qd];exact hle,λid=>?_⟩,⟨by rw[e];exact hle,hst,by rw[Qd];exact Af _,λid h1 h2=>⟨rfl,hlv id h1,(k2.D8 id h1 (Ar h1 hl)).2.2⟩⟩,λid hid=>⟨hG id hid,rfl⟩⟩
 ·rw[e] at hid
  refine⟨(h.hi id dO).1,?_⟩;rw[RJ];cases hv:lv id with
  | false=>rfl
  | true=>have:=hlv2 id dO hv;rw[(k1.hi id hid).2] at this;cases this
 ·by_cases hi:id < σ.next
  ·rw[RH,RJ,hlv id hi,(k2.D8 id hi (Ar hi hl)).2.2]
   refine (h.IM id).mono (λj hj=>⟨⟨by rw[e];exact Ar hj.1 hle,hj.2⟩,(k2.still j hj).2⟩) (λj hd=>hd)
  ·rw[RH,RJ,(h.hi id dO).1]
   intro hv;have hv':=hlv2 id dO hv;have hb:=k1.IM id;rw[(k1.RF hv').2] at hb;exact hb hv'
section
variable {P:Program}[Prim P]{σ:D1}
def D1.Ns(h:σ.low<=σ.next)(n:Nat)(lv:Nat->Bool):σ.join (σ.pu n σ.next lv)=σ.pu n σ.low lv:=by
 unfold D1.join D1.pu;simp[Bl h]
def D1.Pm(n:Nat):σ.pu n σ.low σ.live=σ.skip n:=rfl
def VG.drop{g:Go.Fn}{args:List VV}{R:VV->D1->Prop}(h:VG P g args σ (λv σ'=>σ.next<=σ'.low/\R v σ')) :
  VG P g args σ (λv τ=>∃ σ' lv,R v σ'/\σ.next<=σ'.next/\(∀ j,j < σ.next->lv j=σ.live j)/\(∀ j,σ.next<=j->lv j=σ'.live j)/\σ.low<=σ.next/\τ=σ.pu (σ'.next - σ.next) σ.next lv):=λS args' h1 h2=>by
 refine XG.mono (h S args' h1 h2) ?_;rintro v' S' ⟨v,σ',k1,k2,k3,hlow,hr⟩;have a1:∀ j,j < σ.next->(λj=>if j < σ.next then σ.live j else σ'.live j) j=σ.live j:=λj hj=>if_pos hj
 have a2:∀ j,σ.next<=j->(λj=>if j < σ.next then σ.live j else σ'.live j) j=σ'.live j:=λj hj=>if_neg dO
 obtain⟨q1,q2,q3⟩:=h1.drop k1 k2 hlow _ a1 (λj hj e=>by have:=a2 j hj;simp only at this e;rw[this] at e;exact e);exact⟨v,_,q1,q2,k3.mono q3,σ',_,hr,k2.next,a1,a2,h1.low,rfl⟩
def VG.YS{g:Go.Fn}{args:List VV}{R:VV->Prop}(h:VG P g args σ (λv σ'=>σ.next<=σ'.low/\R v)) :
  VG P g args σ (λv τ=>∃ n,R v/\σ.low<=σ.next/\τ=σ.pu n σ.next σ.live):=λS args' h1 h2=>by
 refine XG.mono (h S args' h1 h2) ?_;rintro v' S' ⟨v,σ',k1,k2,k3,hlow,hr⟩;obtain⟨q1,q2,q3⟩:=h1.drop k1 k2 hlow σ.live (λ_ _=>rfl) (λj hj e=>by rw[(h1.hi j hj).2] at e;cases e);exact⟨v,_,q1,q2,k3.mono q3,_,hr,h1.low,rfl⟩
def Ey.goC{f:FuncId}{args args2:List VV}{x:VV}{k:Bool × Bool}{K:VV->D1->Bool->Prop}(h:VC P f args2 σ (λr σ'=>σ.next<=σ'.low/\r.fg=x))(hf:UF args args2)(hq:∀ n,K x (σ.skip n) true):@Ey P _ f args ⟨(k,σ,K)⟩:=by
 show Z4 P k (.func f) args σ K
 have h0:VG P (.func f) args σ (λr σ'=>σ.next<=σ'.low/\r=x):=by
  refine VG.mono (VG.ju (VC.fg hf h)) ?_;rintro v σ' ⟨v0,rfl,h1,h2⟩;exact⟨h1,h2⟩
 refine VG.mono (VG.YS (R:=λv=>v=x) h0) ?_;rintro v τ ⟨n,rfl,hlow,rfl⟩;refine⟨true,λ_=>Af _,λ_=>rfl,?_⟩;rw[D1.Ns hlow,D1.Pm];exact hq n
def Ey.go{f:FuncId}{args args2:List VV}{x:VV}{k:Bool × Bool}{K:VV->D1->Bool->Prop}(h:VD P f args2 x)(hf:UF args args2)(hq:∀ n,K x (σ.skip n) true):@Ey P _ f args ⟨(k,σ,K)⟩:=Ey.goC (h σ) hf hq
def Ey.goA{α:Type}[DZ α]{f:FuncId}{args args2:List VV}{l:List α}{k:Bool × Bool}{K:VV->D1->Bool->Prop}(h:VC P f args2 σ (λr σ'=>σ.next<=σ'.low/\App σ' σ.next r l))(hf:UF args args2)
  (hq:∀ v n lv,App (σ.pu n σ.low lv) σ.next v l->(∀ t,t < σ.next->lv t=σ.live t)->K v (σ.pu n σ.low lv) true):@Ey P _ f args ⟨(k,σ,K)⟩:=by
 show Z4 P k (.func f) args σ K
 refine VG.mono (VG.drop (R:=λv σ'=>App σ' σ.next v l) (VC.fg hf h)) ?_;rintro v τ ⟨σ',lv,ha,hle,h1,h2,hlow,rfl⟩;refine⟨true,λ_=>Af _,λ_=>rfl,?_⟩;rw[D1.Ns hlow];refine hq v _ lv ?_ h1;rcases ha with ha | ⟨t,rfl,a1,a2,a3⟩
 ·exact .inl ha
 ·refine .inr ⟨t,rfl,?_,a2,?_⟩
  ·rw[RJ,h2 t a2];exact a1
  ·rw[RB];omega
section
variable {α:Type}[DZ α]{k:Bool × Bool}{K:VV->D1->Bool->Prop}
def GC.enc{e:TypeId}{esz n:Nat}{z:List Value}{ps:List (Nat × Nat × VV)}(l:List α){cs:List VV}(h1:z.length=esz)(h2:IV ((rep n z).map .v) ps=some cs)(h3:FE cs=true)(hw:esz=DZ.w α)(hn:n=l.length)(hc:cs.map VV.fg=D4 l)(hk:K (vo l σ.next) σ.Eg true):@GC e esz n z ps ⟨(σ,K)⟩:=by
 refine GC.own h1 h2 h3 ?_;rw[hc,hn,hw];exact hk
def D5.app{e:TypeId}{esz bytes:Nat}{s x:VV}{b:Nat}{l m:List α}{kk:Bool}(h:App σ b s l)(hx:H9 σ esz x=some (m.length,D4 m))(hw:esz=DZ.w α)(hr:(l.length+m.length) * bytes<=reach)(hb:0 < bytes)(hbn:b<=σ.next)
  (hk:∀ r n lo lv,App (σ.pu n lo lv) b r (l++m)->min σ.low b<=lo->lo<=σ.low->(∀ t,t < b->lv t=σ.live t)->K r (σ.pu n lo lv) false):@D5 e esz bytes s x ⟨((kk,false),σ,K)⟩:=by
 obtain⟨r,σ',h1,h2,h3,h4⟩:=h.push hx hw hr hb hbn;refine D5.own h1 ?_;have e:σ'=σ.pu (σ'.next - σ.next) σ'.low σ'.live:=by
  obtain⟨hp,lv,nx,lo⟩:=σ';have:=h3.heap;have hn:=h3.next;simp only at this hn |-;subst this;unfold D1.pu
  congr 1
  omega
 rw[e] at h2 |-;exact hk r _ _ _ h2 h3.low h3.low' h4
end
section
variable {α:Type}[DZ α]{b:Nat}{v:VV}{l:List α}
def App.skip(h:App σ b v l)(n:Nat):App (σ.skip n) b v l:=h.D8 (AQ _ _) λ_ _ _=>rfl
def App.box(h:App σ b v l)(c:List VV)(t:TypeId)(z:Nat):App (σ.box c t z) b v l:=h.D8 (AQ _ _) λ_ _ _=>rfl
def App.write(h:App σ b v l)(id:Nat)(c:List VV)(t:TypeId)(z q:Nat):App (σ.write id c t z q) b v l:=h.D8 (Af _) λ_ _ _=>rfl
def App.Eg(h:App σ b v l):App σ.Eg b v l:=h.D8 (AQ _ _) λt ht _=>by simp only[D1.Eg];rw[if_neg dO]
def App.alloc(h:App σ b v l)(k:VB):App (σ.alloc k) b v l:=h.D8 (AQ _ _) λ_ _ _=>rfl
def App.put(h:App σ b v l)(id:Nat)(k:VB):App (σ.put id k) b v l:=h.D8 (Af _) λ_ _ _=>rfl
end
end
section
variable {P:Program}[Prim P]{σ:D1}
def UF.map:∀ (args:List VV),UF args (args.map VV.fg)
 | []=>trivial
 | a::r=>⟨.inr rfl,UF.map r⟩
def Ey.dP{f:FuncId}{args args2:List VV}{x:VV}{k:Bool × Bool}{K:VV->D1->Bool->Prop}(ha:args.map VV.fg=args2)(h:VD P f args2 x)(hq:∀ n,K x (σ.skip n) true):@Ey P _ f args ⟨(k,σ,K)⟩:=Ey.go h (by rw[<- ha];exact UF.map args) hq
def Ey.goG{f:FuncId}{args args2:List VV}{x:VV}{k:Bool × Bool}{K:VV->D1->Bool->Prop}(ha:args.map VV.fg=args2)(h:VC P f args2 σ (λr σ'=>σ.next<=σ'.low/\r.fg=x))(hq:∀ n,K x (σ.skip n) true):@Ey P _ f args ⟨(k,σ,K)⟩:=Ey.goC h (by rw[<- ha];exact UF.map args) hq
end
def fZ{p:Prop}[Decidable p]{T F:Prop}(h1:p->decide p=true->T)(h2:¬ p->decide p=false->F):@Q1 (.v (.bool (decide p))) ⟨(T,F)⟩:=mP (λh=>h1 h (decide_eq_true h)) (λh=>h2 h (decide_eq_false h))
def qL{p:Prop}[Decidable p]{T F:Prop}(h1:p->decide p=true->T)(h2:¬ p->decide p=false->F):@JD (.v (.bool (decide p))) true ⟨(T,F)⟩:=jq (λh=>h1 (of_decide_eq_true h) h) (λh=>h2 (of_decide_eq_false h) h)
def qM{p:Prop}[Decidable p]{T F:Prop}(h1:¬ p->decide p=false->T)(h2:p->decide p=true->F):@JD (.v (.bool (decide p))) false ⟨(T,F)⟩:=jr (λh=>h1 (of_decide_eq_false h) h) (λh=>h2 (of_decide_eq_true h) h)
section
variable {α:Type}[DZ α]{l:List α}{esz:Nat}{K:VV->Prop}
def Ih{i:Int}(h0:0<=i)(h:i < l.length)(hw:esz=DZ.w α)(hk:K (Z6 l i.toNat 0)):@Jh _ (via esz (vl l) (vi i)) ⟨K⟩:=by
 obtain⟨j,rfl⟩:=Bw h0;exact⟨_,sS dO hw,hk⟩
def PE{t:Nat}{i:Int}(h0:0<=i)(h:i < l.length)(hw:esz=DZ.w α)(hk:K (Z6 l i.toNat 0)):@Jh _ (via esz (vo l t) (vi i)) ⟨K⟩:=by
 obtain⟨j,rfl⟩:=Bw h0;exact⟨_,ig dO hw,hk⟩
def HK{σ:D1}{agg:Bool}{sz i o:Nat}(h:i < l.length)(hw:o+sz<=DZ.w α)(hk:@Jh _ (I1 agg (((DZ.e l[i]).drop o).take sz)) ⟨K⟩):@Jh _ (rR σ agg sz (Z6 l i o)) ⟨K⟩:=by
 rw[wZ h hw];exact hk
def qO{v:VV}(h:Rd v l)(hk:K (vi l.length)):@Jh _ (Mn v) ⟨K⟩:=⟨_,h.len,hk⟩
end
section
variable {α:Type}[DZ α]{l:List α}{esz:Nat}{σ:D1}{K:VV->Prop}
def vO(hw:esz=DZ.w α)(hk:K (vl l)):@Jh _ (Tu σ esz (vl l) none none) ⟨K⟩:=⟨_,by rw[Qr hw rfl rfl (AM _) (Af _)];simp,hk⟩
end
def Rw{α:Type}[DZ α](σ:D1)(b:Nat)(v:VV)(l:List α):Prop:=∃ (id:Nat) (t:TypeId) (q:Nat),v=.slice id 0 l.length l.length/\b<=q/\q<=id/\id < σ.next/\σ.heap id=.cells (D4 l) t (DZ.w α) q
def D1.own(σ:D1)(id:Nat):D1:={ σ with heap:=λj=>if j=id then .gone else σ.heap j,live:=λj=>if j=id then true else σ.live j,low:=min σ.low id }
def E9.own{σ:D1}{S:St}(h:E9 σ S){id:Nat}{cs:List VV}{t:TypeId}{z b n:Nat}(hg:σ.heap id=.cells cs t z b)(hn:cs.length=n * z) :
  E9 (σ.own id) S/\ER σ S (σ.own id) S/\Ej (σ.own id).G S (.own z n cs id) (.slice (some ⟨id,0,none⟩) n n):=by
 have hid:id < σ.next:=Cw λhle=>by have:=(h.hi id hle).1;rw[hg] at this;cases this
 have hne:∀ j,j≠id->(σ.own id).heap j=σ.heap j:=λj e=>by simp[D1.own,e]
 have hse:(σ.own id).heap id=.gone:=by simp[D1.own]
 have hG:∀ j,σ.G j->(σ.own id).G j/\(S.get j).look=(S.get j).look:=λj hj=>by
  refine⟨⟨hj.1,?_⟩,rfl⟩;by_cases e:j=id
  ·rw[e];exact hse
  ·rw[hne j e];exact hj.2
 have hb:=h.IM id;rw[hg] at hb;obtain⟨h0,h00,c',an,h1,h2,h3⟩:=hb;refine⟨⟨h.next,λj hj=>?_,?_,λj=>?_⟩,⟨Af _,λj hj=>⟨(hG j hj).1.2,rfl⟩,BY _ _,λj a1 a2=>?_⟩,?_⟩
 ·have:=h.hi j hj
  have e:j≠id:=λe=>by rw[e] at hj;have:σ.next<=id:=hj;omega
  exact⟨(hne j e).trans this.1,by simp[D1.own,e,this.2]⟩
 ·exact An (BY _ _) h.low
 ·by_cases e:j=id
  ·subst e
   rw[hse];exact λ_=>⟨c',t,z,an,h1⟩
  ·have e2:(σ.own id).live j=σ.live j:=by simp[D1.own,e]
   rw[hne j e,e2];refine PW.mono hG (λk hk=>?_) (h.IM j);have hk':σ.heap k=.dead:=hk;have:k≠id:=λe=>by rw[e,hg] at hk';cases hk'
   show (σ.own id).heap k=.dead
   rw[hne k this];exact hk'
 ·have:j≠id:=λe=>by subst e;have:j < min σ.low j:=a2;omega
  exact⟨hne j this,by simp[D1.own,this],rfl⟩
 ·exact .own z id n c' t cs ⟨hid,hse⟩ (by rw[h1];rfl) hn (by rw[<- h2.1]) λi k1 k2=>(h2.2 i k1 k2).mono hG
def VG.own{P:Program}[Prim P]{α:Type}[DZ α]{g:Go.Fn}{args:List VV}{σ:D1}{l:List α}(h:VG P g args σ (λv σ'=>σ.next<=σ'.low/\Rw σ' σ.next v l)):VG P g args σ (λv σ'=>σ.next<=σ'.low/\App σ' σ.next v l):=λS args' h1 h2=>by
 refine XG.mono (h S args' h1 h2) ?_;rintro v' S' ⟨v,σ',k1,k2,k3,hlo,id,t,q,rfl,hq,hqi,hin,hg⟩;obtain⟨f1,f2,f3⟩:=k1.own hg (ES l);cases k3;refine⟨_,_,f1,k2.trans f2,f3,?_,.inr ⟨id,rfl,by simp[D1.own],dO,hin⟩⟩;show σ.next<=min σ'.low id
 omega
def VD.I3{P:Program}[Prim P]{α:Type}[DZ α]{f:FuncId}{args:List VV}{l:List α}(h:∀ σ,VC P f args σ (λv σ'=>σ.next<=σ'.low/\App σ' σ.next v l)):VD P f args (vl l):=λσ=>VG.mono (h σ) λv σ' ⟨a,b⟩=>⟨a,b.fg⟩
section
variable {P:Program}[Prim P]{α:Type}[DZ α]{σ:D1}{K:VV->D1->Bool->Prop}{b id q:Nat}{l m:List α}{t:TypeId}
def LA(σ:D1)(b id:Nat)(l:List α):Prop:=∃ (t:TypeId) (q:Nat),b<=q/\q<=id/\id < σ.next/\σ.heap id=.cells (D4 l) t (DZ.w α) q
def LA.rw{σ:D1}{b id:Nat}{l:List α}(h:LA σ b id l){n:Nat}(hn:n=l.length):Rw σ b (.slice id 0 n n) l:=by
 obtain⟨t,q,h1,h2,h3,h4⟩:=h;subst hn;exact⟨id,t,q,rfl,h1,h2,h3,h4⟩
def HZ{n c esz:Nat}{i:Int}{K:VV->Prop}(h0:0<=i)(h:i < n)(hk:K (.ptr id (i.toNat * esz))):@Jh _ (via esz (.slice id 0 n c) (vi i)) ⟨K⟩:=by
 obtain⟨j,rfl⟩:=Bw h0;exact⟨_,w9 dO,hk⟩
def D5.rw{e:TypeId}{esz bytes n:Nat}{x:VV}(h:LA σ b id l)(hn:n=l.length)(hx:H9 σ esz x=some (m.length,D4 m))(hw:esz=DZ.w α)(hr:(l.length+m.length) * bytes<=reach)(hb:0 < bytes)
  (hk:∀ id' τ,LA τ b id' (l++m)->σ.next<=τ.next->min σ.low b<=τ.low->τ.low<=σ.low->(∀ j,j < σ.next->j≠id->τ.heap j=σ.heap j)->(∀ j,j < σ.next->τ.live j=σ.live j)->K (.slice id' 0 (l.length+m.length) (l.length+m.length)) τ false):@D5 e esz bytes (.slice id 0 n n) x ⟨((false,false),σ,K)⟩:=by
 obtain⟨t,q,h1,h2,h3,h4⟩:=h;subst hw hn;by_cases hm:m.length=0
 ·obtain rfl:=Ak hm
  refine D5.row (r:=.slice id 0 l.length l.length) (σ':=σ) ?_ (hk id σ ⟨t,q,h1,h2,h3,by rw[AP];exact h4⟩ (Af _) (BY _ _) (Af _) (λ_ _ _=>rfl) (λ_ _=>rfl));unfold Mo;rw[hx];simp
 ·refine D5.row (r:=.slice σ.next 0 (l.length+m.length) (l.length+m.length)) (σ':=(σ.kill id q).alloc (.cells (D4 (l++m)) e (DZ.w α) q)) ?_ (hk σ.next _ ⟨e,q,h1,dO,by simp[D1.alloc,D1.kill],by simp[D1.alloc,D1.kill]⟩ (by simp[D1.alloc,D1.kill]) (by simp only[D1.alloc,D1.kill];omega) (by simp only[D1.alloc,D1.kill];omega) (λj hj hne=>by simp[D1.alloc,D1.kill,hne];intro e;omega) (λj hj=>rfl))
  unfold Mo;rw[hx];simp only[Az,hm,if_false,h4];rw[if_pos (by simp[Kc,DZ.pos,hb]),if_pos ⟨trivial,trivial,by rw[ES];omega⟩,if_pos hr,Bu,<- G1]
def D5.rw0{e:TypeId}{esz bytes:Nat}{x:VV}(hx:H9 σ esz x=some (m.length,D4 m))(hw:esz=DZ.w α)(hr:m.length * bytes<=reach)(hb:0 < bytes)(hm:m.length≠0)
  (hk:K (.slice σ.next 0 m.length m.length) (σ.box (D4 m) e esz) false):@D5 e esz bytes (.v (.slice none 0 0)) x ⟨((false,false),σ,K)⟩:=by
 subst hw;refine D5.row ?_ hk;unfold Mo;rw[hx];simp only[Az,hm,if_false];rw[if_pos (by simp[Kc,DZ.pos,hb]),if_pos hr]
def vW{i esz o:Nat}{x:α}{K:D1->Prop}(hg:σ.heap id=.cells (D4 l) t esz q)(hi:i < l.length)(hw:esz=DZ.w α)(ho:o=i * esz)(hk:K (σ.write id (D4 (l.set i x)) t esz q)){v:VV}(hv:v.cs=DZ.e x):@Jh _ (vst σ esz (.ptr id o) v) ⟨K⟩:=by
 refine⟨_,?_,hk⟩;rw[jS,hg,hv,ho];exact sY hi hw _ _ _ _ _ _
end
section
variable {P:Program}[Prim P]{α:Type}[DZ α]{σ:D1}
def Ey.yH{f:FuncId}{args args2:List VV}{l:List α}{k:Bool × Bool}{K:VV->D1->Bool->Prop}(ha:args.map VV.fg=args2)(h:VC P f args2 σ (λr σ'=>σ.next<=σ'.low/\App σ' σ.next r l))
  (hq:∀ v n lv,App (σ.pu n σ.low lv) σ.next v l->(∀ t,t < σ.next->lv t=σ.live t)->K v (σ.pu n σ.low lv) true):@Ey P _ f args ⟨(k,σ,K)⟩:=Ey.goA h (by rw[<- ha];exact UF.map args) hq
def App.new{b:Nat}{l:List α}(hb:b<=σ.next):App σ.Eg b (vo l σ.next) l:=.inr ⟨σ.next,rfl,by simp[D1.Eg],hb,by simp[D1.Eg]⟩
def App.lZ{b t:Nat}{l:List α}(ht:t=σ.next)(hb:b<=σ.next):App σ.Eg b (vo l t) l:=by rw[ht];exact App.new hb
end
section
variable {α:Type}[DZ α]{l:List α}{esz:Nat}{σ:D1}{K:VV->Prop}{v:VV}
def im{v:VV}(hv:Rd v l){lo hi:Option VV}{a b:Nat}(hw:esz=DZ.w α)(h1:Gj lo 0=some a)(h2:Gj hi l.length=some b)(hab:a<=b)(hb:b<=l.length):∃ r,Tu σ esz v lo hi=some r/\Rd r ((l.take b).drop a):=by
 rcases hv with ⟨rfl,rfl⟩ | ⟨t,rfl⟩ | rfl
 ·simp only[Ap] at hb h2
  obtain rfl:b=0:=dO
  obtain rfl:a=0:=dO
  refine⟨EA,?_,.inl ⟨rfl,rfl⟩⟩;unfold Tu;simp[h1,h2]
 ·exact⟨_,AaS hw h1 h2 hab hb,.inr (.inr rfl)⟩
 ·exact⟨_,Qr hw h1 h2 hab hb,.inr (.inr rfl)⟩
def KC{b:Int}(h:0<=b)(d:Nat):Gj (some (vi b)) d=some b.toNat:=by simp[Gj,h]
def vM{b:Int}(h0:0<=b)(hb:b<=l.length)(hw:esz=DZ.w α)(hk:K (vl (l.take b.toNat))):@Jh _ (Tu σ esz (vl l) none (some (vi b))) ⟨K⟩:=by
 obtain⟨c,rfl⟩:=Bw h0;exact⟨_,AaT hw dO,by simpa using hk⟩
def Wx{b:Int}(h0:0<=b)(hb:b<=l.length)(hw:esz=DZ.w α)(hk:K (vl (l.drop b.toNat))):@Jh _ (Tu σ esz (vl l) (some (vi b)) none) ⟨K⟩:=by
 obtain⟨c,rfl⟩:=Bw h0;exact⟨_,AaU hw dO,by simpa using hk⟩
def lU{a b:Int}(h0:0<=a)(hab:a<=b)(hb:b<=l.length)(hw:esz=DZ.w α)(hk:K (vl ((l.take b.toNat).drop a.toNat))):@Jh _ (Tu σ esz (vl l) (some (vi a)) (some (vi b))) ⟨K⟩:=by
 obtain⟨c,rfl⟩:=Bw h0;obtain⟨d,rfl⟩:=Bw (show (0:Int)<=b by omega);exact⟨_,sX hw dO dO,by simpa using hk⟩
def vP{t:Nat}{lo hi:Option VV}(h:@Jh _ (Tu σ esz (vl l) lo hi) ⟨K⟩):@Jh _ (Tu σ esz (vo l t) lo hi) ⟨K⟩:=h
def vS{b:Int}(hv:Rd v l)(h0:0<=b)(hb:b<=l.length)(hw:esz=DZ.w α)(hk:∀ r,Rd r (l.take b.toNat)->K r):@Jh _ (Tu σ esz v none (some (vi b))) ⟨K⟩:=by
 obtain⟨r,h1,h2⟩:=im (σ:=σ) (lo:=none) (hi:=some (vi b)) hv hw rfl (KC h0 _) (AM _) (by omega:b.toNat<=l.length);exact⟨r,h1,hk r ad0⟩
def vU{b:Int}(hv:Rd v l)(h0:0<=b)(hb:b<=l.length)(hw:esz=DZ.w α)(hk:∀ r,Rd r (l.drop b.toNat)->K r):@Jh _ (Tu σ esz v (some (vi b)) none) ⟨K⟩:=by
 obtain⟨r,h1,h2⟩:=im (σ:=σ) (lo:=some (vi b)) (hi:=none) hv hw (KC h0 _) rfl (by omega:b.toNat<=l.length) (Af _);exact⟨r,h1,hk r ad0⟩
def lY{a b:Int}(hv:Rd v l)(h0:0<=a)(hab:a<=b)(hb:b<=l.length)(hw:esz=DZ.w α)(hk:∀ r,Rd r ((l.take b.toNat).drop a.toNat)->K r):@Jh _ (Tu σ esz v (some (vi a)) (some (vi b))) ⟨K⟩:=by
 obtain⟨r,h1,h2⟩:=im (σ:=σ) hv hw (KC h0 _) (KC (by omega:(0:Int)<=b) _) (by omega:a.toNat<=b.toNat) (by omega:b.toNat<=l.length);exact⟨r,h1,hk r h2⟩
def lX{i:Int}(hv:Rd v l)(h0:0<=i)(h:i < l.length)(hw:esz=DZ.w α)(hk:K (Z6 l i.toNat 0)):@Jh _ (via esz v (vi i)) ⟨K⟩:=by
 obtain⟨j,rfl⟩:=Bw h0;exact⟨_,hv.via dO hw,hk⟩
end
section
variable {α:Type}[DZ α]{σ:D1}{K:VV->D1->Bool->Prop}
def D5.AbV{e:TypeId}{esz bytes:Nat}{s x:VV}{b:Nat}{l m:List α}{kk:Bool}(hm:m.length≠0)(h:App σ b s l)(hx:H9 σ esz x=some (m.length,D4 m))(hw:esz=DZ.w α)(hr:(l.length+m.length) * bytes<=reach)(hb:0 < bytes)(hbn:b<=σ.next)
  (hk:∀ t n lo lv,App (σ.pu n lo lv) b (vo (l++m) t) (l++m)->min σ.low b<=lo->lo<=σ.low->(∀ t,t < b->lv t=σ.live t)->K (vo (l++m) t) (σ.pu n lo lv) false):@D5 e esz bytes s x ⟨((kk,false),σ,K)⟩:=by
 refine D5.app h hx hw hr hb hbn λr n lo lv ha h1 h2 h3=>?_
 rcases ha with ⟨rfl,e⟩ | ⟨t,rfl,q⟩
 ·simp at e;exact absurd (by simp[e.2]) hm
 ·exact hk t n lo lv (.inr ⟨t,rfl,q⟩) h1 h2 h3
def D5.AdX{e:TypeId}{esz bytes:Nat}{t0:Nat}{x:VV}{b:Nat}{l m:List α}{kk:Bool}(h:App σ b (vo l t0) l)(hx:H9 σ esz x=some (m.length,D4 m))(hw:esz=DZ.w α)(hr:(l.length+m.length) * bytes<=reach)(hb:0 < bytes)(hbn:b<=σ.next)
  (hk:∀ t n lo lv,App (σ.pu n lo lv) b (vo (l++m) t) (l++m)->min σ.low b<=lo->lo<=σ.low->(∀ t,t < b->lv t=σ.live t)->K (vo (l++m) t) (σ.pu n lo lv) false):@D5 e esz bytes (vo l t0) x ⟨((kk,false),σ,K)⟩:=by
 by_cases hm:m.length=0
 ·obtain rfl:=Ak hm
  refine D5.own (r:=vo l t0) (σ':=σ) ?_ ?_
  ·unfold OC
   rw[hx];rfl
  ·have h0:=hk t0 0 σ.low σ.live (by rw[AP];exact h.skip 0) (BY _ _) (Af _) λ_ _=>rfl
   rw[AP] at h0;exact h0
 ·exact D5.AbV hm h hx hw hr hb hbn hk
end
def vQ{a b:Int}{K:VV->Prop}(h:b≠0)(hk:K (vi (G0 (a.tdiv b)))):@Jh _ (M1 .quo (vi a) (vi b)) ⟨K⟩:=⟨_,sG a b h,hk⟩
def vR{a b:Int}{K:VV->Prop}(h:b≠0)(hk:K (vi (a.tmod b))):@Jh _ (M1 .rem (vi a) (vi b)) ⟨K⟩:=⟨_,S5 a b h,hk⟩
structure OG where
 v:VV
 z:Nat
 n:Nat
 xs:List VV
def GB{α:Type}[DZ α](v:VV)(l:List α):OG:=⟨v,DZ.w α,l.length,D4 l⟩
def jT:VV->Option Nat
 | .own _ _ _ t=>some t
 | _=>none
def jU(σ:D1)(b:Nat)(e:OG):Prop:=(e.v=.v (.slice none 0 0)/\e.n=0/\e.xs=[])\/∃ t,e.v=.own e.z e.n e.xs t/\σ.live t=true/\b<=t/\t < σ.next
structure FT(σ:D1)(b:Nat)(L:List OG):Prop where
 ok:∀ e∈L,jU σ b e
 nd:(L.filterMap λe=>jT e.v).Nodup
def jU.app{α:Type}[DZ α]{σ:D1}{b:Nat}{v:VV}{l:List α}(h:jU σ b (GB v l)):App σ b v l:=by
 rcases h with ⟨h1,h2,h3⟩ | ⟨t,h1,h2,h3,h4⟩
 ·exact .inl ⟨h1,Ak h2⟩
 ·exact .inr ⟨t,h1,h2,h3,h4⟩
def App.jU{α:Type}[DZ α]{σ:D1}{b:Nat}{v:VV}{l:List α}(h:App σ b v l):jU σ b (GB v l):=by
 rcases h with ⟨h1,h2⟩ | ⟨t,h1,h2,h3,h4⟩
 ·subst h2;exact .inl ⟨h1,rfl,rfl⟩
 ·exact .inr ⟨t,h1,h2,h3,h4⟩
def jU.D8{σ σ':D1}{b:Nat}{e:OG}(h:jU σ b e)(hn:σ.next<=σ'.next)(hl:∀ t,t < σ.next->jT e.v=some t->σ'.live t=σ.live t):jU σ' b e:=by
 rcases h with h | ⟨t,h1,h2,h3,h4⟩
 ·exact .inl h
 ·exact .inr ⟨t,h1,by rw[hl t h4 (by rw[h1];rfl)];exact h2,h3,dO⟩
def jU.tk{σ:D1}{b:Nat}{e:OG}(h:jU σ b e){t:Nat}(ht:jT e.v=some t):e.v=.own e.z e.n e.xs t/\σ.live t=true/\b<=t/\t < σ.next:=by
 rcases h with h | ⟨t',h1,h2,h3,h4⟩
 ·rw[h.1] at ht;cases ht
 ·rw[h1] at ht;cases ht;exact⟨h1,h2,h3,h4⟩
def FT.D8{σ σ':D1}{b:Nat}{L:List OG}(h:FT σ b L)(hn:σ.next<=σ'.next)(hl:∀ t,t < σ.next->b<=t->σ'.live t=σ.live t):FT σ' b L:=
 ⟨λe he=>(h.ok e he).D8 hn λt ht htk=>hl t ht ((h.ok e he).tk htk).2.2.1,h.nd⟩
def FT.app{α:Type}[DZ α]{σ:D1}{b:Nat}{L:List OG}(h:FT σ b L){v:VV}{l:List α}(he:GB v l∈L):App σ b v l:=(h.ok _ he).app
def FT.nil(σ:D1)(b:Nat):FT σ b []:=⟨λ_ h=>by simp at h,iN⟩
def FT.skip{σ:D1}{b:Nat}{L:List OG}(h:FT σ b L)(n:Nat):FT (σ.skip n) b L:=h.D8 (AQ _ _) λ_ _ _=>rfl
def FT.box{σ:D1}{b:Nat}{L:List OG}(h:FT σ b L)(c:List VV)(t:TypeId)(z:Nat):FT (σ.box c t z) b L:=h.D8 (AQ _ _) λ_ _ _=>rfl
def FT.write{σ:D1}{b:Nat}{L:List OG}(h:FT σ b L)(id:Nat)(c:List VV)(t:TypeId)(z q:Nat):FT (σ.write id c t z q) b L:=h.D8 (Af _) λ_ _ _=>rfl
def FT.Eg{σ:D1}{b:Nat}{L:List OG}(h:FT σ b L):FT σ.Eg b L:=h.D8 (AQ _ _) λt ht _=>by simp only[D1.Eg];rw[if_neg dO]
def FT.Gr{σ:D1}{b:Nat}{L:List OG}(h:FT σ b L){α:Type}[DZ α]:FT σ b (GB (.v (.slice none 0 0)) ([]:List α)::L):=
 ⟨λe he=>by
  rcases Aq.1 he with rfl | he
  ·exact .inl ⟨rfl,rfl,rfl⟩
  ·exact h.ok e he,by simpa [GB,jT] using h.nd⟩
def FT.put{σ σ':D1}{b:Nat}{L1 L2:List OG}{e e':OG}(h:FT σ b (L1++e::L2))(hn:σ.next<=σ'.next)(he:jU σ' b e')(hl:∀ t,t < σ.next->jT e.v≠some t->σ'.live t=σ.live t)(ht:∀ t,jT e'.v=some t->jT e.v=some t\/σ.next<=t):FT σ' b (L1++e'::L2):=by
 have hnd:=h.nd;rw[DP,List.filterMap_cons] at hnd;have dis:∀ x∈L1++L2,∀ t,jT x.v=some t->jT e.v≠some t:=by
  intro x hx t hxt het;rw[het] at hnd;rcases Aw.1 hx with hx | hx
  ·exact (B9.1 hnd).2.2 t (Cy.2 ⟨x,hx,hxt⟩) t iN rfl
  ·have:=(B9.1 hnd).2.1
   exact (Co.1 this).1 (Cy.2 ⟨x,hx,hxt⟩)
 have old:∀ x∈L1++L2,jU σ b x:=λx hx=>h.ok x (by
  rcases Aw.1 hx with hx | hx
  ·exact B6 _ hx
  ·exact Ci _ (Bo _ hx))
 refine⟨λx hx=>?_,?_⟩
 ·rcases Aw.1 hx with hx | hx
  ·exact (old x (B6 _ hx)).D8 hn λt ht2 htk=>hl t ht2 (dis x (B6 _ hx) t htk)
  ·rcases Aq.1 hx with rfl | hx
   ·exact he
   ·exact (old x (Ci _ hx)).D8 hn λt ht2 htk=>hl t ht2 (dis x (Ci _ hx) t htk)
 ·rw[DP,List.filterMap_cons]
  have base:(L1.filterMap (λe=>jT e.v)++L2.filterMap λe=>jT e.v).Nodup:=by
   cases hte:jT e.v with
   | none=>rw[hte] at hnd;exact hnd
   | some t=>
    rw[hte] at hnd;obtain⟨n1,n2,n3⟩:=B9.1 hnd;exact B9.2 ⟨n1,(Co.1 n2).2,λa ha c hc=>n3 a ha c (by simp[hc])⟩
  cases hte:jT e'.v with
  | none=>exact base
  | some t=>
   have fresh:∀ x∈L1++L2,jT x.v≠some t:=λx hx hxt=>by
    rcases ht t hte with h1 | h1
    ·exact dis x hx t hxt h1
    ·have:=((old x hx).tk hxt).2.2.2;omega
   obtain⟨n1,n2,n3⟩:=B9.1 base;refine B9.2 ⟨n1,Co.2 ⟨λhm=>?_,n2⟩,λa ha c hc=>?_⟩
   ·obtain⟨x,hx,hxt⟩:=Cy.1 hm
    exact fresh x (Ci _ hx) hxt
   ·rcases Aq.1 hc with rfl | hc
    ·intro e2;subst e2
     obtain⟨x,hx,hxt⟩:=Cy.1 ha;exact fresh x (B6 _ hx) hxt
    ·exact n3 a ha c hc
def D5.La{α:Type}[DZ α]{σ:D1}{K:VV->D1->Bool->Prop}{e:TypeId}{esz bytes:Nat}{s x:VV}{b:Nat}{l m:List α}{kk:Bool}(L1 L2:List OG)(h:FT σ b (L1++GB s l::L2))(hx:H9 σ esz x=some (m.length,D4 m))(hw:esz=DZ.w α)(hr:(l.length+m.length) * bytes<=reach)(hb:0 < bytes)(hbn:b<=σ.next)
  (hk:∀ r n lo lv,FT (σ.pu n lo lv) b (L1++GB r (l++m)::L2)->min σ.low b<=lo->lo<=σ.low->(∀ t,t < b->lv t=σ.live t)->K r (σ.pu n lo lv) false):@D5 e esz bytes s x ⟨((kk,false),σ,K)⟩:=by
 subst hw;have ha:jU σ b (GB s l):=h.ok _ (Ci _ (BP ..));by_cases hm:m.length=0
 ·obtain rfl:=Ak hm
  refine D5.own (r:=s) (σ':=σ) ?_ ?_
  ·unfold OC
   rw[hx];rcases ha with ⟨h1,_,_⟩ | ⟨t,h1,_⟩
   ·have h1:s=_:=h1
    subst h1;rfl
   ·have h1:s=vo l t:=h1
    subst h1;rfl
  ·have:=hk s 0 σ.low σ.live (by rw[AP];exact h.skip 0) (BY _ _) (Af _) λ_ _=>rfl
   exact this
 ·rcases ha with ⟨h1,h2,h3⟩ | ⟨t,h1,h2,h3,h4⟩
  ·have h1:s=_:=h1
   obtain rfl:l=[]:=Ak h2;subst h1;refine D5.own (r:=vo m σ.next) (σ':=σ.Eg) ?_ ?_
   ·unfold OC
    rw[hx];simp only[Az,hm,if_false];rw[if_pos (by simp[Kc,DZ.pos,hb]),if_pos (by simpa using hr),Lw];rfl
   ·refine hk (vo m σ.next) 1 σ.low σ.Eg.live ?_ (BY _ _) (Af _) λt ht=>by simp only[D1.Eg];rw[if_neg dO]
    refine h.put (σ':=σ.Eg) (AQ _ _) ?_ (λt ht _=>by simp only[D1.Eg];rw[if_neg dO]) (λt ht=>.inr ?_)
    ·rw[Ba];exact (App.new hbn).jU
    ·cases ht;exact Af _
  ·have h1:s=vo l t:=h1
   subst h1;refine D5.own (r:=vo (l++m) σ.next) (σ':=σ.Fx t) ?_ ?_
   ·unfold OC
    rw[hx];simp only[Az,hm,if_false,vo];rw[if_pos (by simp[Kc,DZ.pos,hb]),if_pos ⟨h2,trivial,hr⟩,Lw,G1,Ad]
   ·refine hk (vo (l++m) σ.next) 1 (min σ.low t) (σ.Fx t).live ?_ (by have:b<=t:=h3;omega) (BY _ _) λt' ht'=>by
     have:b<=t:=h3;simp only[D1.Fx];rw[if_neg dO,if_neg dO]
    refine h.put (σ':=σ.Fx t) (AQ _ _) ?_ (λt' ht' hne=>?_) (λt' ht'=>.inr ?_)
    ·exact .inr ⟨σ.next,rfl,by simp[D1.Fx],hbn,by simp[D1.Fx]⟩
    ·have:t'≠t:=λe=>hne (by rw[e];rfl)
     simp only[D1.Fx];rw[if_neg dO,if_neg this]
    ·cases ht';exact Af _
def Kx{n esz id o:Nat}{i:Int}{K:VV->Prop}(h0:0<=i)(h:i < n)(hk:K (.ptr id (o+i.toNat * esz))):@Jh _ (Tv n esz (.ptr id o) (vi i)) ⟨K⟩:=⟨.ptr id (o+i.toNat * esz),by unfold Tv;simp[h0,h,Uc],hk⟩
def Gm(id z:Nat)(cs:List VV):VV->VV
 | .slice i o n c=>if i=id/\n<=c/\o+n * z<=cs.length then .Ie n ((cs.drop o).take (n * z)) else .slice i o n c
 | .agg xs=>.agg (xs.map (Gm id z cs))
 | .tup xs=>.tup (xs.map (Gm id z cs))
 | .v x=>.v x
 | .ptr i o=>.ptr i o
 | .Ie n xs=>.Ie n xs
 | .own z n xs t=>.own z n xs t
 | .ep xs o=>.ep xs o
 | .fn f a b=>.fn f a b
 | .yield id=>.yield id
 | .map id=>.map id
 | .iface t x=>.iface t x
 | .Fy=>.Fy
def Ej.fz{σ:D1}{S:St}(h:E9 σ S){id:Nat}{cs:List VV}{t:TypeId}{z b:Nat}(hg:σ.heap id=.cells cs t z b){v:VV}{v':Value}(hr:Ej σ.G S v v'):Ej (σ.freeze id).G S (Gm id z cs v) v':=by
 obtain⟨f1,f2,f3⟩:=h.freeze hg
 induction hr with
 | slice i o n c=>
  rw[Gm];split
  ·rename_i hc
   obtain⟨rfl,h1,h2⟩:=hc;exact f3 o n c h1 h2
  ·exact .slice i o n c
 | agg xs a hs hx ih=>rw[Gm];exact .agg _ a (by simpa using hs) (λi h1 h2=>by simpa using ih i ac0 h2)
 | tup xs a hs hx ih=>rw[Gm];exact .tup _ a (by simpa using hs) (λi h1 h2=>by simpa using ih i ac0 h2)
 | v x hf=>rw[Gm];exact .v x hf
 | ptr i o=>rw[Gm];exact .ptr i o
 | lstNil=>rw[Gm];exact .lstNil
 | Ie zz i o n c cc tt xs hG hl hn hx hb hh ih=>rw[Gm];exact (Ej.Ie zz i o n c cc tt xs hG hl hn hx hb hh).step f2
 | own zz i n cc tt xs hG hl hx hb hh ih=>rw[Gm];exact (Ej.own zz i n cc tt xs hG hl hx hb hh).step f2
 | ep zz i o bb cc tt xs hG hl hb hh ih=>rw[Gm];exact (Ej.ep zz i o bb cc tt xs hG hl hb hh).step f2
 | fn f a b a' b' ha hb h1 h2 ih1 ih2=>rw[Gm];exact (Ej.fn f a b a' b' ha hb h1 h2).step f2
 | yield i=>rw[Gm];exact .yield i
 | map i=>rw[Gm];exact .map i
 | iface tt x x' hx ih=>rw[Gm];exact (Ej.iface tt x x' hx).step f2
 | Fy=>rw[Gm];exact .Fy
def VG.fz{P:Program}[Prim P]{g:Go.Fn}{args:List VV}{σ:D1}{Q Q':VV->D1->Prop}(h:VG P g args σ Q)
  (hq:∀ v σ',Q v σ'->∃ id cs t z b,σ'.heap id=.cells cs t z b/\Q' (Gm id z cs v) (σ'.freeze id)):VG P g args σ Q':=λS args' h1 h2=>by
 refine XG.mono (h S args' h1 h2) ?_;rintro v' S' ⟨v,σ',k1,k2,k3,k4⟩;obtain⟨id,cs,t,z,b,hg,hq'⟩:=hq _ _ k4;obtain⟨f1,f2,f3⟩:=k1.freeze hg;exact⟨_,_,f1,k2.trans f2,k3.fz k1 hg,hq'⟩
def Ey.tg{P:Program}[Prim P]{σ:D1}{f:FuncId}{args args2:List VV}{R:VV->Prop}{k:Bool × Bool}{K:VV->D1->Bool->Prop}(ha:args.map VV.fg=args2)(h:VC P f args2 σ (λr σ'=>σ.next<=σ'.low/\R r.fg))(hq:∀ v n,R v->K v (σ.skip n) true):@Ey P _ f args ⟨(k,σ,K)⟩:=by
 show Z4 P k (.func f) args σ K
 have h0:VG P (.func f) args σ (λr σ'=>σ.next<=σ'.low/\R r):=by
  refine VG.mono (VG.ju (VC.fg (by rw[<- ha];exact UF.map args) h)) ?_;rintro v σ' ⟨v0,rfl,h1,h2⟩;exact⟨h1,h2⟩
 refine VG.mono (VG.YS h0) ?_;rintro v τ ⟨n,hr,hlow,rfl⟩;refine⟨true,λ_=>Af _,λ_=>rfl,?_⟩;rw[D1.Ns hlow,D1.Pm];exact hq v n hr
def LZ{σ:D1}{id n c esz:Nat}{cc:List VV}{t:TypeId}{z q:Nat}{b:Int}{K:VV->Prop}(hg:σ.heap id=.cells cc t z q)(h0:0<=b)(hb:b<=c)(hk:K (.slice id 0 b.toNat c)):@Jh _ (Tu σ esz (.slice id 0 n c) none (some (vi b))) ⟨K⟩:=by
 refine⟨_,?_,hk⟩;unfold Tu;simp only[ZZ,KC h0,hg];rw[if_pos ⟨AM _,dO,by simp[Mi]⟩];simp
structure CE where
 f:FuncId
 cond:St->List Value->Prop
 out:St->Value × St
structure CE.Good(P:Program)(e:CE):Prop where
 fn:∃ fn,P.funcs[e.f]? = some fn/\fn.body.isSome=true/\(fn.name == "runtime.NumGoroutine")=false
 ws:∀ S args,e.cond S args->WS S->Hl S.next args->WS (e.out S).2/\S.next<=(e.out S).2.next/\Sc (e.out S).2.next (e.out S).1
 ok:∀ B φ S w args args',e.cond S args->Gb φ args.toArray args'->E0 B φ S w->B<=w.heap.size->Calls P e.f args' w (Mv B φ S w (e.out S).1 (e.out S).2)
open Classical in
noncomputable def UD(L:List CE):vp:=λf args S=>(L.find? λe=>decide (e.f=f/\e.cond S args.toList)).map λe=>e.out S
open Classical in
def UE{L:List CE}{f:FuncId}{args:Array Value}{S:St}{v:Value}{S':St}(h:UD L f args S=some (v,S')):∃ e∈L,e.f=f/\e.cond S args.toList/\e.out S=(v,S'):=by
 unfold UD at h;rw[Ab] at h;obtain⟨e,h1,h2⟩:=h;have h3:=CS h1;have h4:=of_decide_eq_true h3;exact⟨e,Bs h1,h4.1,h4.2,h2⟩
open Classical in
def Sk{L:List CE}{f:FuncId}{args:Array Value}{S:St}(h:∃ e∈L,e.f=f/\e.cond S args.toList):∃ e∈L,e.f=f/\e.cond S args.toList/\UD L f args S=some (e.out S):=by
 obtain⟨e,h1,h2⟩:=h;have h3:(L.find? λe=>decide (e.f=f/\e.cond S args.toList)).isSome=true:=List.find?_isSome.2 ⟨e,h1,decide_eq_true h2⟩;obtain⟨e',h4⟩:=Option.isSome_iff_exists.1 h3;have h5:e'.f=f/\e'.cond S args.toList:=of_decide_eq_true (CS (p:=λe:CE=>decide (e.f=f/\e.cond S args.toList)) h4);exact⟨e',Bs h4,h5.1,h5.2,by unfold UD;rw[h4];rfl⟩
def AbI(P:Program):=Prim P
noncomputable def JF{P:Program}(L:List CE)(hg:∀ e∈L,e.Good P):AbI P:=show Prim P from ⟨UD L,λf args S v S' h hw hsc=>by
 obtain⟨e,h1,h2,h3,h4⟩:=UE h;have:=(hg e h1).ws S _ h3 hw hsc;rw[h4] at this;exact this,λB g args S v S' h=>by
 cases g with
 | func f=>
  obtain⟨e,h1,rfl,h3,h4⟩:=UE h;refine⟨(hg e h1).fn,λφ w args' hr hs hB=>?_⟩;have:=(hg e h1).ok B φ S w _ args' h3 hr hs hB;rw[h4] at this;exact this
 | _=>cases h⟩
def xQ(f:FuncId)(args:List Value)(v:Value):CE:=⟨f,λS a=>a=args,λS=>(v,S)⟩
def ceR(f:FuncId)(n:Nat)(c rest ex:List Value)(v:Value):CE:=⟨f,λS a=>pM n c rest ex S a,λS=>(v,S)⟩
def ceG(f:FuncId)(args:List Value)(n:Nat)(c rest:List Value)(z:Nat)(r:Value)(t:TypeId):CE:=⟨f,λS a=>a=args,λS=>(LP S.next n rest r,S.alloc (.cells c t z true []))⟩
def mX.F7{P:Program}{f:FuncId}{args:List Value}{v:Value}(h:mX P f args v):(xQ f args v).Good P:=by
 refine⟨h.fn,λS a ha hw hsc=>⟨hw,Af _,Sc.IE h.res⟩,λB φ S w a a' ha hr hs hB=>?_⟩;obtain rfl:a=args:=ha;obtain rfl:=Si (by simpa using h.flat) hr;exact h.calls B φ S w hs hB
def E1.F7{P:Program}{f:FuncId}{n:Nat}{c rest ex:List Value}{v:Value}(h:E1 P f n c rest ex v):(ceR f n c rest ex v).Good P:=
 ⟨h.fn,λS a ha hw hsc=>⟨hw,Af _,Sc.IE h.res⟩,λB φ S w a a' ha hr hs hB=>h.calls B φ S w a a' ha hr hs hB⟩
def Ms.F7{P:Program}{f:FuncId}{args:List Value}{n:Nat}{c rest:List Value}{z:Nat}{r:Value}(h:Ms P f args n c rest z r)(t:TypeId):(ceG f args n c rest z r t).Good P:=by
 refine⟨h.fn,λS a ha hw hsc=>?_,λB φ S w a a' ha hr hs hB=>?_⟩
 ·show WS (S.alloc (.cells c t z true []))/\S.next<=S.next+1/\Sc (S.next+1) (LP S.next n rest r)
  refine⟨⟨λid hid=>?_,λid c' t' z' mi an hg=>?_,λid o hg=>?_⟩,dO,.tuple _ λi hi=>?_⟩
  ·have:S.next+1<=id:=hid
   rw[St.D6,if_neg dO];exact hw.gone id dO
  ·rw[St.D6] at hg
   split at hg
   ·cases hg;exact Hl.flat h.cells
   ·exact λx hx=>(hw.cell id _ _ _ _ _ hg x hx).mono (by show S.next<=S.next+1;omega)
  ·rw[St.D6] at hg
   split at hg
   ·cases hg
   ·exact (hw.obj id o hg).mono (by show S.next<=S.next+1;omega)
  ·match i,hi with
   | 0,_=>
    refine Hl.agg λy hy=>?_
    rcases Aq.1 hy with rfl | hy
    ·exact .slice _ _ _ _ dO
    ·exact Hl.flat h.restf y hy
   | 1,_=>exact Sc.GN h.one
   | i+2,h=>exact absurd h (Dw (by show 2<=i+2;omega))
 ·obtain rfl:a=args:=ha
  obtain rfl:=Si (by simpa using h.flat) hr;exact h.calls t B φ S w hs hB
section
variable {P:Program}{L:List CE}{hg:∀ e∈L,e.Good P}{f:FuncId}{args:List VV}{σ:D1}{Q:VV->D1->Prop}
def xR(hf:XF P f=none)(hq:∀ S (args':Array Value),E9 σ S->Ee σ.G S args args'.toList->(∃ e∈L,e.f=f/\e.cond S args'.toList)/\∀ e∈L,e.f=f->e.cond S args'.toList->∃ v σ',E9 σ' (e.out S).2/\ER σ.fresh S σ' (e.out S).2/\Ej σ'.G (e.out S).2 v (e.out S).1/\Q v σ'):@VC P (JF L hg) f args σ Q:=λS args' h1 h2=>by
 obtain⟨k1,k2⟩:=hq S args' h1 h2;obtain⟨e,e1,e2,e3,e4⟩:=Sk k1;exact @vq P (JF L hg) f hf _ _ _ ⟨_,_,e4,k2 e e1 e2 e3⟩
def vr:Value->VV
 | .tuple a=>.tup (a.toList.map ja)
 | v=>ja v
def Ej.vr{G:Nat->Prop}{S:St}{v:Value}(h:IE v=true):Ej G S (vr v) v:=by
 unfold IE at h;unfold Go.Proofs.YtkkpchcniicimaaGreat.vr;split at h
 ·rename_i a
  simp only[At] at h;exact .tup _ _ iN λi h1 h2=>by
   rw[AZ];exact .ja (h _ iN)
 ·rename_i n1
  split
  ·exact (n1 _ rfl).elim
  ·exact .ja h
def Ej.Adi{G:Nat->Prop}{S:St}{x y:Value}(h:Ej G S (.v x) y):y=x:=by cases h;rfl
def Ee.jb{G:Nat->Prop}{S:St}{l:List Value}{l':List Value}(h:Ee G S (l.map .v) l'):l'=l:=by
 have hl:l.length=l'.length:=by simpa using h.1
 apply B0 hl.symm;intro i h1 h2;have:=h.2 i ad0 h1;rw[AZ] at this;exact this.Adi
def pO{S:St}{n:Nat}{c rest:List Value}{xs ys:List VV}{args':Array Value}(hx:xs=c.map .v)(hy:ys=rest.map .v)(h:Ee σ.G S [.agg (.Ie n xs::ys)] args'.toList):pM n c rest [] S args'.toList:=by
 obtain⟨l'⟩:=args'
 match l',h with
 | [x'],h=>
  have hx':Ej σ.G S (.agg (.Ie n xs::ys)) x':=h.2 0 iN iN;cases hx' with
  | agg _ a hs he=>
   refine⟨a,rfl,?_⟩;obtain⟨la⟩:=a
   match la,hs,he with
   | q::la,hs,he=>
    have hq:Ej σ.G S (.Ie n xs) q:=he 0 iN iN;have hla:la=rest:=by
     apply Ee.jb (G:=σ.G) (S:=S);rw[<- hy];exact⟨by simpa using hs,λi h1 h2=>by
      have:=he (i+1) ac0 ad0;simpa using this⟩
    subst hla;cases hq with
    | lstNil=>
     right;exact⟨List.map_eq_nil_iff.1 hx.symm,rfl,rfl⟩
    | Ie z id o _ c0 cc t _ hG hl hn hxz hb hr=>
     left;subst hx;rw[AJ] at hb;refine⟨id,o,c0,cc,t,z,rfl,hl,hb,?_⟩;have hp:=Ee.part (xs:=c.map .v) (by rw[AJ];exact hb) hr;rw[AJ] at hp;exact Ee.jb hp
   | [],hs,_=>simp at hs
 | [],h=>simp[Ee] at h
 | _::_::_,h=>simp[Ee] at h
def zS(hf:XF P f=none){n:Nat}{xs ys:List VV}(c rest:List Value)(v:Value)(hx:xs=c.map .v)(hy:ys=rest.map .v)(hin:ceR f n c rest [] v∈L)(hun:∀ e∈L,e.f=f->∀ S,e.out S=(v,S))(hv:IE v=true):@VC P (JF L hg) f [.agg (.Ie n xs::ys)] σ (λr σ'=>σ.next<=σ'.low/\r=vr v):=
 xR hf λS args' h1 h2=>⟨⟨_,hin,rfl,pO hx hy h2⟩,λe he hef hc=>by
  rw[hun e he hef S];exact⟨vr v,σ.fresh,h1.fresh,.refl _ _,.vr hv,Af _,rfl⟩⟩
def E9.lay{S:St}(h:E9 σ S)(c:List Value)(t:TypeId)(z:Nat):E9 { σ.fresh with next:=σ.next+1 } (S.alloc (.cells c t z true []))/\ER σ.fresh S { σ.fresh with next:=σ.next+1 } (S.alloc (.cells c t z true [])):=by
 have hn:=h.next;have st:ER σ.fresh S { σ.fresh with next:=σ.next+1 } (S.alloc (.cells c t z true [])):=
  ⟨AQ _ _,λid hid=>⟨hid.2,by rw[St.D6,if_neg (by have:id < σ.next:=hid.1;omega)]⟩,Af _,λid h1 h2=>⟨rfl,rfl,by rw[St.D6,if_neg (by have:id < σ.next:=h1;omega)]⟩⟩
 refine⟨⟨by show σ.next+1=S.next+1;rw[hn],λid hid=>?_,by show σ.next<=σ.next+1;omega,λid=>?_⟩,st⟩
 ·have:σ.next+1<=id:=hid
  exact h.hi id dO
 ·by_cases e:id=σ.next
  ·subst e
   have h1:=h.hi σ.next (Af _);show PW _ _ _ _ (σ.heap σ.next) (σ.live σ.next) _
   rw[h1.1,h1.2];exact λh=>by cases h
  ·show PW _ _ _ _ (σ.heap id) (σ.live id) _
   rw[St.D6,if_neg dO];exact (h.IM id).mono (λj hj=>⟨⟨Ar hj.1 (AQ _ _),hj.2⟩,by rw[St.D6,if_neg (by have:j < σ.next:=hj.1;omega)]⟩) λ_ hd=>hd
def Ej.LP{S:St}{n z:Nat}{c rest:List Value}{r:Value}{t:TypeId}(h:E9 σ S)(hc:EC c=true)(hr:EC rest=true)(h1:GN r=true)(hn:c.length=n * z) :
  Ej ({ σ.fresh with next:=σ.next+1 }:D1).G (S.alloc (.cells c t z true [])) (.tup [.agg (.Ie n (c.map .v)::rest.map .v),.v r]) (LP S.next n rest r):=by
 have hnx:=h.next;refine .tup _ _ rfl λi h2 h3=>?_
 match i,h2 with
 | 0,_=>
  refine .agg _ _ iN λj h4 h5=>?_
  cases j with
  | zero=>
   refine .Ie z S.next 0 n n c t _ ⟨by show S.next < σ.next+1;omega,?_⟩ (by rw[St.D6,if_pos rfl];rfl) (Af _) (by rw[AJ];exact hn) (by rw[AJ];omega) λk h6 h7=>?_
   ·show σ.heap S.next=.gone
    exact (h.hi _ dO).1
   ·rw[AZ]
    simp only[A8];exact .v _ (by simp only[EC,At] at hc;exact hc _ (Ao _))
  | succ j=>
   simp only[Cx,AZ];exact .v _ (by simp only[EC,At] at hr;exact hr _ iN)
 | 1,_=>exact .v _ h1
 | i+2,h=>exact absurd h (Dw (by show 2<=i+2;omega))
end
def UF.refl:∀ (args:List VV),UF args args
 | []=>trivial
 | a::r=>⟨.inl rfl,UF.refl r⟩
def Em:=Ac @jG (Ac @jH (Ac @sb (Ac @Vi (Ac @jI (Ac @gY (Ac @TE (Ac @wP (Ac @ZJ (Ac @N0 (Ac @Q2 (Ac @TA (Ac @N1 (Ac @TB (Ac @Q3 (Ac @Vb (Ac @N2 (Ac @Q4 (Ac @TC (Ac @Px (Ac @Q5 (Ac @TD (Ac @sg (Ac @jK (Ac @Py (Ac @ZK (Ac @Q7 (Ac @Vk (Ac @Vl (Ac @jM (Ac @sn (Ac @TG (Ac @TH (Ac @TI (Ac @TJ (Ac @Mq (Ac @Mr (Ac @Q8 (Ac @N3 (Ac @Q6 (Ac @Vj (Ac @ye (Ac @jN (Ac @ZL (Ac @jP (Ac @yh (Ac @yi (Ac @ZO (Ac @sr (Ac @sx (Ac @sw (Ac @ss (Ac @su (Ac @sA (Ac @yf (Ac @ZM (Ac @jO (Ac @Vn (Ac @ZS (Ac @sy (Ac @ZT (Ac @ZU (Ac @ZV (Ac @N4 (Ac @Vp (Ac @yg (Ac @TK (Ac @Vm (Ac @Vo (Ac @ZB (Ac @ZC (Ac @Vc (Ac @ZD (Ac @Vd (Ac @Ve (Ac @Vf (Ac @FQ (Ac @D9 (Ac @Vg (Ac @Vh @jR)))))))))))))))))))))))))))))))))))))))))))))))))))))))))))))))))))))))))))))))
def wsC:=Ac @jG (Ac @jH (Ac @sb (Ac @Vi (Ac @jI (Ac @gY (Ac @TE (Ac @ZJ (Ac @N0 (Ac @Q2 (Ac @TA (Ac @N1 (Ac @TB (Ac @Q3 (Ac @Vb (Ac @N2 (Ac @Q4 (Ac @TC (Ac @Px (Ac @Q5 (Ac @TD (Ac @sg (Ac @jK (Ac @Py (Ac @ZK (Ac @Q7 (Ac @Vk (Ac @Vl (Ac @jM (Ac @sn (Ac @TG (Ac @TH (Ac @TI (Ac @TJ (Ac @Mq (Ac @Mr (Ac @Q8 (Ac @N3 (Ac @Q6 (Ac @Vj (Ac @ye (Ac @jN (Ac @ZL (Ac @jP (Ac @yh (Ac @yi (Ac @ZO (Ac @sr (Ac @sx (Ac @sw (Ac @ss (Ac @su (Ac @sA (Ac @yf (Ac @ZM (Ac @jO (Ac @Vn (Ac @ZS (Ac @sy (Ac @ZT (Ac @ZU (Ac @ZV (Ac @N4 (Ac @Vp (Ac @yg (Ac @TK (Ac @Vm (Ac @Vo (Ac @ZB (Ac @ZC (Ac @Vc (Ac @ZD (Ac @Vd (Ac @Ve (Ac @Vf (Ac @FQ (Ac @D9 (Ac @Vg (Ac @Vh @jR))))))))))))))))))))))))))))))))))))))))))))))))))))))))))))))))))))))))))))))
def wsU:=Ac @sh (Ac @jL (Ac @sW (Ac @w8 (Ac @mR (Ac @wR (Ac @gZ (Ac @vH (Ac @SV (Ac @gV (Ac @Zu (Ac @Zv (Ac @Zw (Ac @Zx (Ac @Zy (Ac @Zz (Ac @wL (Ac @wM (Ac @mQ (Ac @r8 (Ac @wO (Ac @r9 (Ac @ie (Ac @jS (Ac @TM (Ac @sN (Ac @wY (Ac @sU (Ac @ib (Ac @mT (Ac @sO (Ac @sP (Ac @ic (Ac @AaQ (Ac @AaR (Ac @ZW (Ac @mU (Ac @mV (Ac @RN (Ac @Ael (Ac @Acs (Ac @Acu (Ac @sR (Ac @AaO (Ac @Ia (Ac @HJ (Ac @Vt (Ac @OA (Ac @sQ (Ac @G5 (Ac @ZI (Ac @lN (Ac @wW (Ac @wX (Ac @sB (Ac @wU (Ac @Js (Ac @HR (Ac @Hq (Ac @Lz (Ac @Aam (Ac @vY (Ac @Acv (Ac @sC (Ac @sD (Ac @sF (Ac @sH (Ac @sI (Ac @sJ (Ac @sK (Ac @sL (Ac @sM (Ac @wS (Ac @wT (Ac @wV (Ac @mW (Ac @FP (Ac @GQ (Ac @RH (Ac @RB (Ac @Qd (Ac @Pk (Ac @H5 (Ac @Ji @UT)))))))))))))))))))))))))))))))))))))))))))))))))))))))))))))))))))))))))))))))))))
def wmU:=Ac @PA (Ac @HN (Ac @ZY @heap_fresh))
def wfU:=Ac @Vq (Ac @TL (Ac @Gh (Ac @JX (Ac @Vr (Ac @Ii (Ac @YJ (Ac @Nq (Ac @Ww (Ac @fX @fY)))))))))
instance AcG{α:Type}[DZ α]:DZ (List α):=⟨1,λl=>[vl l],λ_=>rfl,λ_=>rfl,λl=>by rw[Au,AD,Ii],iF⟩
def AbT{α:Type}[DZ α]:DZ.w (List α)=1:=rfl
def Gz(n:Nat)(f:Nat->Int):List VV:=(List.range n).map λi=>vi (f i)
def Eo(n:Nat)(f:Nat->Int):(Gz n f).length=n:=by simp[Gz]
def No(n:Nat)(f:Nat->Int):(Gz n f).map VV.fg=Gz n f:=by
 unfold Gz;rw[BN];exact BM λi _=>Gh _ _
def EM(n:Nat)(f:Nat->Int):FE (Gz n f)=true:=by simp[Gz,FE,VV.lQ]
def FG(f:Nat->Int)(i:Nat)(x:Int):Nat->Int:=λj=>if j=i then x else f j
def YE(l:List VV)(i:Nat)(x:VV)(h:i < l.length):D0 l i [x]=l.set i x:=by
 unfold D0;rw[Cf,if_pos h];simp
def Pg(n:Nat)(f:Nat->Int)(i:Nat)(x:Int)(h:i < n):D0 (Gz n f) i [vi x]=Gz n (FG f i x):=by
 rw[YE _ _ _ (by rw[Eo];exact h)];unfold Gz;apply B0
 ·simp
 ·intro j h1 h2
  simp only[List.getElem_set,AZ,Ce,FG];by_cases e:i=j
  ·subst e;simp
  ·simp[e,BR e]
def Ph(n:Nat)(f:Nat->Int)(i:Nat)(h:i < n):((Gz n f).drop i).take 1=[vi (f i)]:=by
 rw[A3 (by rw[Eo];exact h)];simp[Gz]
structure KD where
 node:Int
 handler:Int
 count:Int
 index:Int
 copy:Int
 deriving DecidableEq,Inhabited
instance Adt:DZ KD:=⟨5,λa=>[vi a.node,vi a.handler,vi a.count,vi a.index,vi a.copy],λ_=>rfl,λ_=>rfl,λ_=>by simp only[Au,AD,Gh],iF⟩
def Adu(a:KD):DZ.e a=[vi a.node,vi a.handler,vi a.count,vi a.index,vi a.copy]:=rfl
structure Fu where
 kind:Int
 node:Int
 arg:Int
 msg:KD
 deriving DecidableEq,Inhabited
instance Adv:DZ Fu:=⟨8,λa=>[vi a.kind,vi a.node,vi a.arg,vi a.msg.node,vi a.msg.handler,vi a.msg.count,vi a.msg.index,vi a.msg.copy],λ_=>rfl,λ_=>rfl,λ_=>by simp only[Au,AD,Gh],iF⟩
def Iw(a:Fu):DZ.e a=[vi a.kind,vi a.node,vi a.arg,vi a.msg.node,vi a.msg.handler,vi a.msg.count,vi a.msg.index,vi a.msg.copy]:=rfl
def Qc(a:Fu):(DZ.e a).length=8:=DZ.len a
structure GF where
 msg:KD
 to:Int
 kind:Int
 a:Int
 b:Int
 deriving DecidableEq,Inhabited
instance Adw:DZ GF:=⟨9,λa=>[vi a.msg.node,vi a.msg.handler,vi a.msg.count,vi a.msg.index,vi a.msg.copy,vi a.to,vi a.kind,vi a.a,vi a.b],λ_=>rfl,λ_=>rfl,λ_=>by simp only[Au,AD,Gh],iF⟩
def Adx(a:GF):DZ.e a=[vi a.msg.node,vi a.msg.handler,vi a.msg.count,vi a.msg.index,vi a.msg.copy,vi a.to,vi a.kind,vi a.a,vi a.b]:=rfl
structure Qn where
 node:Int
 handler:Int
 count:Int
 kind:Int
 index:Int
 deriving DecidableEq,Inhabited
instance Aet:DZ Qn:=⟨5,λa=>[vi a.node,vi a.handler,vi a.count,vi a.kind,vi a.index],λ_=>rfl,λ_=>rfl,λ_=>by simp only[Au,AD,Gh],iF⟩
def eQn(a:Qn):DZ.e a=[vi a.node,vi a.handler,vi a.count,vi a.kind,vi a.index]:=rfl
structure Gy where
 q:Qn
 n:Int
 deriving DecidableEq,Inhabited
instance Ady:DZ Gy:=⟨6,λa=>[vi a.q.node,vi a.q.handler,vi a.q.count,vi a.q.kind,vi a.q.index,vi a.n],λ_=>rfl,λ_=>rfl,λ_=>by simp only[Au,AD,Gh],iF⟩
def Adz(a:Gy):DZ.e a=[vi a.q.node,vi a.q.handler,vi a.q.count,vi a.q.kind,vi a.q.index,vi a.n]:=rfl
structure Ask where
 q:Qn
 arity:Int
 n:Int
 deriving DecidableEq,Inhabited
instance AdA:DZ Ask:=⟨7,λa=>[vi a.q.node,vi a.q.handler,vi a.q.count,vi a.q.kind,vi a.q.index,vi a.arity,vi a.n],λ_=>rfl,λ_=>rfl,λ_=>by simp only[Au,AD,Gh],iF⟩
def AdB(a:Ask):DZ.e a=[vi a.q.node,vi a.q.handler,vi a.q.count,vi a.q.kind,vi a.q.index,vi a.arity,vi a.n]:=rfl
structure JE where
 op:Int
 n:Int
 deriving DecidableEq,Inhabited
instance AdC:DZ JE:=⟨2,λa=>[vi a.op,vi a.n],λ_=>rfl,λ_=>rfl,λ_=>by simp only[Au,AD,Gh],iF⟩
def AdD(a:JE):DZ.e a=[vi a.op,vi a.n]:=rfl
structure Act where
 kind:Int
 a:Int
 b:Int
 c:Int
 d:Int
 deriving DecidableEq,Inhabited
instance AdE:DZ Act:=⟨5,λa=>[vi a.kind,vi a.a,vi a.b,vi a.c,vi a.d],λ_=>rfl,λ_=>rfl,λ_=>by simp only[Au,AD,Gh],iF⟩
def AdF(a:Act):DZ.e a=[vi a.kind,vi a.a,vi a.b,vi a.c,vi a.d]:=rfl
structure NH where
 var:Int
 value:Int
 deriving DecidableEq,Inhabited
instance AdG:DZ NH:=⟨2,λa=>[vi a.var,vi a.value],λ_=>rfl,λ_=>rfl,λ_=>by simp only[Au,AD,Gh],iF⟩
def AdH(a:NH):DZ.e a=[vi a.var,vi a.value]:=rfl
structure Vs where
 node:Int
 op:Int
 key:Int
 arg:Int
 deriving DecidableEq,Inhabited
instance AdI:DZ Vs:=⟨4,λa=>[vi a.node,vi a.op,vi a.key,vi a.arg],λ_=>rfl,λ_=>rfl,λ_=>by simp only[Au,AD,Gh],iF⟩
def AdJ(a:Vs):DZ.e a=[vi a.node,vi a.op,vi a.key,vi a.arg]:=rfl
structure te where
 reply:Bool
 request:Int
 node:Int
 epoch:Int
 value:Int
 deriving DecidableEq,Inhabited
instance AdK:DZ te:=⟨5,λa=>[vb a.reply,vi a.request,vi a.node,vi a.epoch,vi a.value],λ_=>rfl,λ_=>rfl,λ_=>by simp only[Au,AD,Gh,JX],iF⟩
structure Np where
 node:Int
 handler:Int
 count:Int
 code:Int
 deriving DecidableEq,Inhabited
instance AdL:DZ Np:=⟨4,λa=>[vi a.node,vi a.handler,vi a.count,vi a.code],λ_=>rfl,λ_=>rfl,λ_=>by simp only[Au,AD,Gh],iF⟩
structure PG where
 cells:List (Int)
 pending:List (NH)
 deriving Inhabited
instance AdM:DZ PG:=⟨2,λa=>[vl a.cells,vl a.pending],λ_=>rfl,λ_=>rfl,λ_=>by simp only[Au,AD,Ii],iF⟩
def AdN(a:PG):DZ.e a=[vl a.cells,vl a.pending]:=rfl
structure I6 where
 ev:Fu
 asks:List (Ask)
 obs:Bool
 sent:List (KD)
 deriving Inhabited
instance AdO:DZ I6:=⟨11,λa=>[vi a.ev.kind,vi a.ev.node,vi a.ev.arg,vi a.ev.msg.node,vi a.ev.msg.handler,vi a.ev.msg.count,vi a.ev.msg.index,vi a.ev.msg.copy,vl a.asks,vb a.obs,vl a.sent],λ_=>rfl,λ_=>rfl,λ_=>by simp only[Au,AD,Gh,JX,Ii],iF⟩
def AdP(a:I6):DZ.e a=[vi a.ev.kind,vi a.ev.node,vi a.ev.arg,vi a.ev.msg.node,vi a.ev.msg.handler,vi a.ev.msg.count,vi a.ev.msg.index,vi a.ev.msg.copy,vl a.asks,vb a.obs,vl a.sent]:=rfl
def Kv(a:I6):(DZ.e a).length=11:=DZ.len a
structure tf where
 events:List (Fu)
 answers:List (Gy)
 deriving Inhabited
instance AdQ:DZ tf:=⟨2,λa=>[vl a.events,vl a.answers],λ_=>rfl,λ_=>rfl,λ_=>by simp only[Au,AD,Ii],iF⟩
def AdR(a:tf):DZ.e a=[vl a.events,vl a.answers]:=rfl
structure HW where
 code:List (JE)
 entry:Nat->Int
 durable:Int
 volatile:Int
 deriving Inhabited
instance AdS:DZ HW:=⟨43,λa=>[vl a.code]++(Gz 40 a.entry++([vi a.durable,vi a.volatile])),λa=>by simp only[Ad,Eo,Ag,Ap]<;>rfl,λa=>by simp only[Et,EM,Ia,HJ,G5,Cs],λ_=>by simp only[AX,Au,AD,Gh,Ii,No],iF⟩
def yI:DZ.w HW=43:=rfl
def AcJ(a:HW):DZ.e a=[vl a.code]++(Gz 40 a.entry++([vi a.durable,vi a.volatile])):=rfl
def PD(a:HW):(DZ.e a).length=43:=DZ.len a
structure FZ where
 up:Bool
 version:Int
 epoch:Int
 clock:Int
 disk:PG
 vol:List (Int)
 timers:List (Int)
 counts:Nat->Int
 waiting:Int
 dropped:Int
 doubled:Int
 deriving Inhabited
instance AdT:DZ FZ:=⟨52,λa=>[vb a.up,vi a.version,vi a.epoch,vi a.clock]++(DZ.e a.disk++([vl a.vol,vl a.timers]++(Gz 41 a.counts++([vi a.waiting,vi a.dropped,vi a.doubled])))),λa=>by simp only[Ad,Eo,DZ.len,Ag,Ap]<;>rfl,λa=>by simp only[Et,EM,DZ.all,Ia,HJ,G5,Cs],λ_=>by simp only[AX,Au,AD,Gh,JX,Ii,No,DZ.fgd],iF⟩
def SY:DZ.w FZ=52:=rfl
def EG(a:FZ):(DZ.e a).length=52:=DZ.len a
structure I2 where
 programs:List (HW)
 first:List (Int)
 restarts:List (Int)
 requests:List (Vs)
 crashes:Int
 drops:Int
 dups:Int
 drift:Int
 deriving Inhabited
instance AdU:DZ I2:=⟨8,λa=>[vl a.programs,vl a.first,vl a.restarts,vl a.requests,vi a.crashes,vi a.drops,vi a.dups,vi a.drift],λ_=>rfl,λ_=>rfl,λ_=>by simp only[Au,AD,Gh,Ii],iF⟩
def SZ(a:I2):DZ.e a=[vl a.programs,vl a.first,vl a.restarts,vl a.requests,vi a.crashes,vi a.drops,vi a.dups,vi a.drift]:=rfl
def JN(a:I2):(DZ.e a).length=8:=DZ.len a
structure E4 where
 c:I2
 nodes:List (FZ)
 flight:List (GF)
 next:List (Int)
 obs:List (te)
 failures:List (List (Np))
 traces:List (List (List (Int)))
 covered:List (JE)
 steps:Int
 deriving Inhabited
instance AdV:DZ E4:=⟨16,λa=>DZ.e a.c++([vl a.nodes,vl a.flight,vl a.next,vl a.obs,vl a.failures,vl a.traces,vl a.covered,vi a.steps]),λa=>by simp only[Ad,DZ.len,Ag,Ap]<;>rfl,λa=>by simp only[Et,DZ.all,Ia,HJ,G5,Cs],λ_=>by simp only[AX,Au,AD,Gh,Ii,DZ.fgd],iF⟩
def lR(a:E4):DZ.e a=DZ.e a.c++([vl a.nodes,vl a.flight,vl a.next,vl a.obs,vl a.failures,vl a.traces,vl a.covered,vi a.steps]):=rfl
def EH(a:E4):(DZ.e a).length=16:=DZ.len a
def YF{a b c:List VV}{o i n:Nat}(ho:a.length=o)(h:i+n<=b.length):((a++(b++c)).drop (o+i)).take n=(b.drop i).take n:=by
 rw[BG,Bb dO,Ba,show o+i - a.length=i by omega,BG,B4,AI,show n - (b.length - i)=0 by omega,A6,AP]
def fU{a b c x:List VV}{o i:Nat}(ho:a.length=o)(h:i+x.length<=b.length):D0 (a++(b++c)) (o+i) x=a++(D0 b i x++c):=by
 unfold D0;rw[B4,Aj dO,show o+i - a.length=i by omega,B4,show i - b.length=0 by omega,A6,AP,BG,Bb dO,Ba,show o+i+x.length - a.length=i+x.length by omega,BG,show i+x.length - b.length=0 by omega,Bu];simp only[AU]
def qG(a:HW):(DZ.e a).take 1=[vl a.code]:=rfl
def Wu(a:HW)(h:Nat)(hh:h < 40):((DZ.e a).drop (1+h)).take 1=[vi (a.entry h)]:=by
 show ((([vl a.code])++(Gz 40 a.entry++[vi a.durable,vi a.volatile])).drop (1+h)).take 1=_
 rw[YF (o:=1) rfl (by rw[Eo];omega),Ph _ _ _ hh]
def YG(a:HW):((DZ.e a).drop 41).take 1=[vi a.durable]:=rfl
def Wv(a:HW):((DZ.e a).drop 42).take 1=[vi a.volatile]:=rfl
def Rk(a:FZ)(x:Int):D0 (DZ.e a) 1 ([vi x])=DZ.e { a with version:=x }:=rfl
def lS(a:FZ):((DZ.e a).drop 2).take 1=[vi a.epoch]:=rfl
def T8(a:FZ)(x:Int):D0 (DZ.e a) 2 ([vi x])=DZ.e { a with epoch:=x }:=rfl
def lT(a:FZ):((DZ.e a).drop 3).take 1=[vi a.clock]:=rfl
def T9(a:FZ)(x:Int):D0 (DZ.e a) 3 ([vi x])=DZ.e { a with clock:=x }:=rfl
def qH(a:FZ):((DZ.e a).drop 4).take 2=DZ.e a.disk:=rfl
def vJ(a:FZ):((DZ.e a).drop 6).take 1=[vl a.vol]:=rfl
def YH(a:FZ)(x:List (Int)):D0 (DZ.e a) 6 ([vl x])=DZ.e { a with vol:=x }:=rfl
def fW(a:FZ):((DZ.e a).drop 7).take 1=[vl a.timers]:=rfl
def S3(a:FZ)(x:List (Int)):D0 (DZ.e a) 7 ([vl x])=DZ.e { a with timers:=x }:=rfl
def HF(a:FZ)(h:Nat)(hh:h < 41):((DZ.e a).drop (8+h)).take 1=[vi (a.counts h)]:=by
 show ((([vb a.up,vi a.version,vi a.epoch,vi a.clock]++(DZ.e a.disk++[vl a.vol,vl a.timers]))++(Gz 41 a.counts++[vi a.waiting,vi a.dropped,vi a.doubled])).drop (8+h)).take 1=_
 rw[YF (o:=8) rfl (by rw[Eo];omega),Ph _ _ _ hh]
def Kw(a:FZ)(h:Nat)(hh:h < 41)(x:Int):D0 (DZ.e a) (8+h) [vi x]=DZ.e { a with counts:=FG a.counts h x }:=by
 show D0 (([vb a.up,vi a.version,vi a.epoch,vi a.clock]++(DZ.e a.disk++[vl a.vol,vl a.timers]))++(Gz 41 a.counts++[vi a.waiting,vi a.dropped,vi a.doubled])) (8+h) [vi x]=_
 rw[fU (o:=8) rfl (by rw[Eo];simp only[Ag,Ap];omega),Pg _ _ _ _ hh];rfl
def YI(a:FZ):((DZ.e a).drop 49).take 1=[vi a.waiting]:=rfl
def Rl(a:FZ)(x:Int):D0 (DZ.e a) 49 ([vi x])=DZ.e { a with waiting:=x }:=rfl
def MW(a b:Int):(a == b)=decide (a=b):=by by_cases h:a=b<;>simp[h]
def qI(neg:Bool)(a b:KD):Pj [1,1,1,1,1] neg (.agg [vi a.node,vi a.handler,vi a.count,vi a.index,vi a.copy]) (.agg [vi b.node,vi b.handler,vi b.count,vi b.index,vi b.copy])=some (vb (EU neg (decide (a=b)))):=by
 simp only[Pj,Mm,AH,Az,I7,X9,if_true];rcases a with ⟨a0,a1,a2,a3,a4⟩;rcases b with ⟨b0,b1,b2,b3,b4⟩
 simp[KD.mk.injEq,MW]
def qJ(neg:Bool)(a b:Fu):Pj [1,1,1,1,1,1,1,1] neg (.agg [vi a.kind,vi a.node,vi a.arg,vi a.msg.node,vi a.msg.handler,vi a.msg.count,vi a.msg.index,vi a.msg.copy]) (.agg [vi b.kind,vi b.node,vi b.arg,vi b.msg.node,vi b.msg.handler,vi b.msg.count,vi b.msg.index,vi b.msg.copy])=some (vb (EU neg (decide (a=b)))):=by
 simp only[Pj,Mm,AH,Az,I7,X9,if_true];rcases a with ⟨a0,a1,a2,a3⟩;rcases b with ⟨b0,b1,b2,b3⟩
 rcases a3 with ⟨a3_0,a3_1,a3_2,a3_3,a3_4⟩
 rcases b3 with ⟨b3_0,b3_1,b3_2,b3_3,b3_4⟩
 simp[KD.mk.injEq,Fu.mk.injEq,MW]
def vK(neg:Bool)(a b:Qn):Pj [1,1,1,1,1] neg (.agg [vi a.node,vi a.handler,vi a.count,vi a.kind,vi a.index]) (.agg [vi b.node,vi b.handler,vi b.count,vi b.kind,vi b.index])=some (vb (EU neg (decide (a=b)))):=by
 simp only[Pj,Mm,AH,Az,I7,X9,if_true];rcases a with ⟨a0,a1,a2,a3,a4⟩;rcases b with ⟨b0,b1,b2,b3,b4⟩
 simp[Qn.mk.injEq,MW]
def qK(neg:Bool)(a b:JE):Pj [1,1] neg (.agg [vi a.op,vi a.n]) (.agg [vi b.op,vi b.n])=some (vb (EU neg (decide (a=b)))):=by
 simp only[Pj,Mm,AH,Az,I7,X9,if_true];rcases a with ⟨a0,a1⟩;rcases b with ⟨b0,b1⟩
 simp[JE.mk.injEq,MW]
def AdW:=Ac @qI (Ac @qJ (Ac @vK (Ac @qK (Ac @Adu (Ac @Iw (Ac @Adx (Ac @eQn (Ac @Adz (Ac @AdB (Ac @AdD (Ac @AdF (Ac @AdH (Ac @AdJ (Ac @AdN (Ac @AdP (Ac @AdR (Ac @SZ (Ac @lR (Ac @yI (Ac @SY (Ac @AbT (Ac @PD (Ac @EG (Ac @qG (Ac @YG (Ac @Wv (Ac @lS (Ac @lT (Ac @qH (Ac @vJ (Ac @fW (Ac @YI @Eo))))))))))))))))))))))))))))))))
def K9:=Ac @Rk (Ac @T8 (Ac @T9 (Ac @YH (Ac @S3 @Rl))))
def wA:=Ac @wsU (Ac @List.zip_cons_cons.{0,0} (Ac @List.zip_nil_left.{0,0} (Ac @Cs (Ac @Bool.and_false (Ac @Az.{0,0} (Ac @AH.{0,0} (Ac @DN.{0,0} (Ac @Au.{0,0} (Ac @AD.{0,0} (Ac @ne_eq.{1} (Ac @AP.{0} (Ac @Ba.{0} (Ac @Cv.{0} (Ac @Dh (Ac @Bool.not_false (Ac @DU (Ac @wmU (Ac @Nat.left_eq_add (Ac @Nat.add_eq_left (Ac @Nat.add_right_cancel_iff (Ac @Nat.add_left_cancel_iff (Ac @Ag.{0} (Ac @Ap.{0} (Ac @Bu.{0} (Ac @Cu.{0} (Ac @BS.{0} (Ac @A6.{0} (Ac @A8 (Ac @Bv (Ac @Nat.lt_add_right_iff_pos (Ac @Nat.add_lt_add_iff_left (Ac @Nat.lt_add_one (Ac @true_and (Ac @and_true (Ac @and_self (Ac @wfU (Ac @BL.{0} (Ac @List.replicate_zero.{0} (Ac @Dr.{0} (Ac @List.flatten_nil.{0} (Ac @AU.{0} (Ac @Gh (Ac @JX (Ac @Vr (Ac @Ii (Ac @YJ (Ac @Nq (Ac @Ww (Ac @fX (Ac @fY (Ac @DZ.fgd (Ac @AdW (Ac @Af (Ac @VV.v.injEq (Ac @Value.int.injEq (Ac @Value.bool.injEq (Ac @VV.agg.injEq (Ac @VV.tup.injEq (Ac @DL.{0} (Ac @Nat.le_min (Ac @AQ (Ac @B8 (Ac @Int.toNat_zero (Ac @Int.toNat_one (Ac @DZ.all (Ac @Cb (Ac @decide_true @decide_false)))))))))))))))))))))))))))))))))))))))))))))))))))))))))))))))))))
def lW:=Ac @GQ (Ac @Pk (Ac @H5 (Ac @Ji (Ac @UT (Ac @Qd (Ac @FP (Ac @Js (Ac @HR (Ac @Hq (Ac @Lz @RB))))))))))
def fG:=Ac @Au.{0,0} (Ac @AD.{0,0} (Ac @Gh (Ac @JX (Ac @Vr (Ac @Ii (Ac @YJ (Ac @Nq (Ac @Ww (Ac @fX (Ac @fY @DZ.fgd))))))))))
theorem ah0{p:Prop}(h:p:=by simp only[lW];omega):p:=h
def mg(x0 x1 x2:Nat)(h:x0≠x1/\x0≠x2/\x1≠x2):(x0=x1)=False/\(x1=x0)=False/\(x0=x2)=False/\(x2=x0)=False/\(x1=x2)=False/\(x2=x1)=False:=by
 obtain⟨h0,h1,h2⟩:=h;exact⟨eq_false h0,eq_false h0.symm,eq_false h1,eq_false h1.symm,eq_false h2,eq_false h2.symm⟩
def rh(x0 x1 x2 x3:Nat)(h:x0≠x1/\x0≠x2/\x0≠x3/\x1≠x2/\x1≠x3/\x2≠x3):(x0=x1)=False/\(x1=x0)=False/\(x0=x2)=False/\(x2=x0)=False/\(x0=x3)=False/\(x3=x0)=False/\(x1=x2)=False/\(x2=x1)=False/\(x1=x3)=False/\(x3=x1)=False/\(x2=x3)=False/\(x3=x2)=False:=by
 obtain⟨h0,h1,h2,h3,h4,h5⟩:=h;exact⟨eq_false h0,eq_false h0.symm,eq_false h1,eq_false h1.symm,eq_false h2,eq_false h2.symm,eq_false h3,eq_false h3.symm,eq_false h4,eq_false h4.symm,eq_false h5,eq_false h5.symm⟩
def AdZ(x0 x1 x2 x3 x4:Nat)(h:x0≠x1/\x0≠x2/\x0≠x3/\x0≠x4/\x1≠x2/\x1≠x3/\x1≠x4/\x2≠x3/\x2≠x4/\x3≠x4):(x0=x1)=False/\(x1=x0)=False/\(x0=x2)=False/\(x2=x0)=False/\(x0=x3)=False/\(x3=x0)=False/\(x0=x4)=False/\(x4=x0)=False/\(x1=x2)=False/\(x2=x1)=False/\(x1=x3)=False/\(x3=x1)=False/\(x1=x4)=False/\(x4=x1)=False/\(x2=x3)=False/\(x3=x2)=False/\(x2=x4)=False/\(x4=x2)=False/\(x3=x4)=False/\(x4=x3)=False:=by
 obtain⟨h0,h1,h2,h3,h4,h5,h6,h7,h8,h9⟩:=h;exact⟨eq_false h0,eq_false h0.symm,eq_false h1,eq_false h1.symm,eq_false h2,eq_false h2.symm,eq_false h3,eq_false h3.symm,eq_false h4,eq_false h4.symm,eq_false h5,eq_false h5.symm,eq_false h6,eq_false h6.symm,eq_false h7,eq_false h7.symm,eq_false h8,eq_false h8.symm,eq_false h9,eq_false h9.symm⟩
def AdY(x0 x1 x2 x3 x4 x5:Nat)(h:x0≠x1/\x0≠x2/\x0≠x3/\x0≠x4/\x0≠x5/\x1≠x2/\x1≠x3/\x1≠x4/\x1≠x5/\x2≠x3/\x2≠x4/\x2≠x5/\x3≠x4/\x3≠x5/\x4≠x5):(x0=x1)=False/\(x1=x0)=False/\(x0=x2)=False/\(x2=x0)=False/\(x0=x3)=False/\(x3=x0)=False/\(x0=x4)=False/\(x4=x0)=False/\(x0=x5)=False/\(x5=x0)=False/\(x1=x2)=False/\(x2=x1)=False/\(x1=x3)=False/\(x3=x1)=False/\(x1=x4)=False/\(x4=x1)=False/\(x1=x5)=False/\(x5=x1)=False/\(x2=x3)=False/\(x3=x2)=False/\(x2=x4)=False/\(x4=x2)=False/\(x2=x5)=False/\(x5=x2)=False/\(x3=x4)=False/\(x4=x3)=False/\(x3=x5)=False/\(x5=x3)=False/\(x4=x5)=False/\(x5=x4)=False:=by
 obtain⟨h0,h1,h2,h3,h4,h5,h6,h7,h8,h9,h10,h11,h12,h13,h14⟩:=h;exact⟨eq_false h0,eq_false h0.symm,eq_false h1,eq_false h1.symm,eq_false h2,eq_false h2.symm,eq_false h3,eq_false h3.symm,eq_false h4,eq_false h4.symm,eq_false h5,eq_false h5.symm,eq_false h6,eq_false h6.symm,eq_false h7,eq_false h7.symm,eq_false h8,eq_false h8.symm,eq_false h9,eq_false h9.symm,eq_false h10,eq_false h10.symm,eq_false h11,eq_false h11.symm,eq_false h12,eq_false h12.symm,eq_false h13,eq_false h13.symm,eq_false h14,eq_false h14.symm⟩
def ND(x0 x1 x2 x3 x4 x5 x6:Nat)(h:x0≠x1/\x0≠x2/\x0≠x3/\x0≠x4/\x0≠x5/\x0≠x6/\x1≠x2/\x1≠x3/\x1≠x4/\x1≠x5/\x1≠x6/\x2≠x3/\x2≠x4/\x2≠x5/\x2≠x6/\x3≠x4/\x3≠x5/\x3≠x6/\x4≠x5/\x4≠x6/\x5≠x6):(x0=x1)=False/\(x1=x0)=False/\(x0=x2)=False/\(x2=x0)=False/\(x0=x3)=False/\(x3=x0)=False/\(x0=x4)=False/\(x4=x0)=False/\(x0=x5)=False/\(x5=x0)=False/\(x0=x6)=False/\(x6=x0)=False/\(x1=x2)=False/\(x2=x1)=False/\(x1=x3)=False/\(x3=x1)=False/\(x1=x4)=False/\(x4=x1)=False/\(x1=x5)=False/\(x5=x1)=False/\(x1=x6)=False/\(x6=x1)=False/\(x2=x3)=False/\(x3=x2)=False/\(x2=x4)=False/\(x4=x2)=False/\(x2=x5)=False/\(x5=x2)=False/\(x2=x6)=False/\(x6=x2)=False/\(x3=x4)=False/\(x4=x3)=False/\(x3=x5)=False/\(x5=x3)=False/\(x3=x6)=False/\(x6=x3)=False/\(x4=x5)=False/\(x5=x4)=False/\(x4=x6)=False/\(x6=x4)=False/\(x5=x6)=False/\(x6=x5)=False:=by
 obtain⟨h0,h1,h2,h3,h4,h5,h6,h7,h8,h9,h10,h11,h12,h13,h14,h15,h16,h17,h18,h19,h20⟩:=h;exact⟨eq_false h0,eq_false h0.symm,eq_false h1,eq_false h1.symm,eq_false h2,eq_false h2.symm,eq_false h3,eq_false h3.symm,eq_false h4,eq_false h4.symm,eq_false h5,eq_false h5.symm,eq_false h6,eq_false h6.symm,eq_false h7,eq_false h7.symm,eq_false h8,eq_false h8.symm,eq_false h9,eq_false h9.symm,eq_false h10,eq_false h10.symm,eq_false h11,eq_false h11.symm,eq_false h12,eq_false h12.symm,eq_false h13,eq_false h13.symm,eq_false h14,eq_false h14.symm,eq_false h15,eq_false h15.symm,eq_false h16,eq_false h16.symm,eq_false h17,eq_false h17.symm,eq_false h18,eq_false h18.symm,eq_false h19,eq_false h19.symm,eq_false h20,eq_false h20.symm⟩
def Uf(n:Int):Prop:=-9223372036854775808<=n/\n<=9223372036854775807
def Uf.of{n:Int}(h0:0<=n)(h1:n<=1000000):Uf n:=by unfold Uf;omega
def Fv{i:Nat}(h:i<=1000000):G0 ((i:Int)+1)=((i+1:Nat):Int):=by rw[Er dO dO];omega
def Z1(l x:List VV)(h:l.length=x.length):D0 l 0 x=x:=by
 unfold D0;rw[A6,Ba,A8,<- h,List.drop_length,AP]
def Acw(x:Nat):(1+x=0)=False:=eq_false dO
def AaX(x:Nat):(1=2+x)=False:=eq_false dO
def Acx(x:Nat):(5+x=0)=False:=eq_false dO
def AaY(x:Nat):(1=5+x)=False:=eq_false dO
def AaZ(x:Nat):(2=5+x)=False:=eq_false dO
def Aa0(x:Nat):(3=5+x)=False:=eq_false dO
def Acy(x:Nat):(5+x=4)=False:=eq_false dO
def Aa1(x:Nat):(4=5+x)=False:=eq_false dO
def PC:=Ac @Acw (Ac @AaX (Ac @Acx (Ac @AaY (Ac @AaZ (Ac @Aa0 (Ac @Acy @Aa1))))))
def Ey.goX{P:Program}[Prim P]{σ:D1}{f:FuncId}{args:List VV}{x:VV}{k:Bool × Bool}{K:VV->D1->Bool->Prop}(h:VC P f args σ (λr σ'=>σ.next<=σ'.low/\r=x))(hq:∀ n,K x (σ.skip n) true):@Ey P _ f args ⟨(k,σ,K)⟩:=by
 show Z4 P k (.func f) args σ K
 refine VG.mono (VG.YS (R:=λv=>v=x) h) ?_;rintro v τ ⟨n,rfl,hlow,rfl⟩;refine⟨true,λ_=>Af _,λ_=>rfl,?_⟩;rw[D1.Ns hlow,D1.Pm];exact hq n
def nu(σ:D1):Ty .mkMap [] σ=some (.map σ.next,σ.alloc (.obj (.map [] 0))):=Av rfl rfl
def Vz(σ:D1)(b:VB)(j:Nat):(σ.alloc b).heap j=if j=σ.next then b else σ.heap j:=Av rfl rfl
def PF(σ:D1)(b:VB):(σ.alloc b).next=σ.next+1:=Av rfl rfl
def xA(σ:D1)(b:VB):(σ.alloc b).low=σ.low:=Av rfl rfl
def ns(id z n:Nat)(cs:List VV)(h:cs.length=n * z):Gm id z cs (.slice id 0 n n)=.Ie n cs:=by
 rw[Gm,if_pos ⟨rfl,Af _,dO⟩,Bu,Aj dO]
def Ey.goW{P:Program}[Prim P]{α:Type}[DZ α]{σ:D1}{f:FuncId}{args:List VV}{l:List α}{K:VV->D1->Bool->Prop}(h:VC P f args σ (λr σ'=>σ.next<=σ'.low/\Rw σ' σ.next r l))
  (hq:∀ id τ t q,σ.next<=q->q<=id->id < τ.next->τ.heap id=.cells (D4 l) t (DZ.w α) q->σ.next<=τ.next->min σ.low σ.next<=τ.low->τ.low<=σ.low->(∀ j,j < σ.next->τ.heap j=σ.heap j)->(∀ j,j < σ.next->τ.live j=σ.live j)->K (.slice id 0 l.length l.length) τ false):@Ey P _ f args ⟨((false,false),σ,K)⟩:=by
 refine Ey.any h ?_;rintro v σ' ⟨hlo,id,t,q,rfl,a1,a2,a3,a4⟩ hn hk;exact hq id (σ.join σ') t q a1 a2 a3 a4 hn (by show _<=min σ.low σ'.low;omega) (BY _ _) (λj hj=>(hk j hj dO).1) (λj hj=>(hk j hj dO).2)
def rH(id z:Nat)(cs:List VV)(xs:List VV):Gm id z cs (.agg xs)=.agg (xs.map (Gm id z cs)):=by rw[Gm]
def gL(id z:Nat)(cs:List VV)(x:Value):Gm id z cs (.v x)=.v x:=by rw[Gm]
def WJ{α:Type}[DZ α](id z:Nat)(cs:List VV)(l:List α):Gm id z cs (vl l)=vl l:=by unfold vl;rw[Gm]
def LA.put{α:Type}[DZ α]{σ:D1}{b id j:Nat}{l:List α}(h:LA σ b id l)(hj:id≠j)(cs:List VV)(t:TypeId)(z q:Nat):LA (σ.write j cs t z q) b id l:=by
 obtain⟨t',q',a1,a2,a3,a4⟩:=h;exact⟨t',q',a1,a2,a3,by rw[ET _ _ _ _ _ _ _ hj];exact a4⟩
def Acz(x:Nat):(0 < 1+x)=True:=eq_true dO
def m9:=@Acz
def Aen(n:Nat):(rep n [.int .i64 0]).map VV.v=D4 (List.replicate n (0:Int)):=by
 induction n with
 | zero=>rfl
 | succ n ih=>
  rw[BL,Gt,<- ih];simp[rep,BL,vY]
def xY(n:Int)(e:TypeId)(σ:D1)(h0:0<=n)(h:n<=1000000):xz e 1 8 [.int .i64 0] (vi n) (vi n) σ=some (.slice σ.next 0 n.toNat n.toNat,σ.box (D4 (List.replicate n.toNat (0:Int))) e 1):=by
 simp only[xz];rw[if_pos ⟨dO,dO,by unfold reach;omega,iF,rfl,rfl⟩];simp only[Aen]
def Ab0{α:Type}[DZ α](l:List α)(e:TypeId)(σ:D1)(h:l.length<=1000000):xz e 1 8 [.int .i64 0] (vi l.length) (vi l.length) σ=some (.slice σ.next 0 l.length l.length,σ.box (D4 (List.replicate l.length (0:Int))) e 1):=by
 have:=xY (l.length:Int) e σ dO dO
 rwa [B8] at this
def D5.wq{σ:D1}{K:VV->D1->Bool->Prop}{α:Type}[DZ α]{e:TypeId}{esz bytes:Nat}{s x:VV}{b:Nat}{l m:List α}{kk:Bool}(h:App σ b s l)(hx:H9 σ esz x=some (m.length,D4 m))(hw:esz=DZ.w α)(hr:(l.length+m.length) * bytes<=reach)(hb:0 < bytes)(hbn:b<=σ.next)
  (hk:∀ n lo lv,min σ.low b<=lo->lo<=σ.low->(∀ t,t < b->lv t=σ.live t)->K (vl (l++m)) (σ.pu n lo lv) false):@D5 e esz bytes s x ⟨((kk,false),σ,K)⟩:=by
 obtain⟨r,σ',h1,h2,h3,h4⟩:=h.push hx hw hr hb hbn;refine D5.Aej h1 ?_;have e:σ'=σ.pu (σ'.next - σ.next) σ'.low σ'.live:=by
  obtain⟨hp,lv,nx,lo⟩:=σ';have:=h3.heap;have hn:=h3.next;simp only at this hn |-;subst this;unfold D1.pu
  congr 1
  omega
 rw[h2.fg];rw[e];exact hk _ _ _ h3.low h3.low' h4
def D5.Aay{σ:D1}{K:VV->D1->Bool->Prop}{α:Type}[DZ α]{e:TypeId}{esz bytes:Nat}{x:VV}{b:Nat}{m:List α}{kk:Bool × Bool}(hx:H9 σ esz x=some (m.length,D4 m))(hw:esz=DZ.w α)(hr:m.length * bytes<=reach)(hb:0 < bytes)(hbn:b<=σ.next)
  (hk:∀ r n lo lv,App (σ.pu n lo lv) b r m->min σ.low b<=lo->lo<=σ.low->(∀ t,t < b->lv t=σ.live t)->K r (σ.pu n lo lv) true):@D5 e esz bytes (.v (.slice none 0 0)) x ⟨(kk,σ,K)⟩:=by
 obtain⟨r,σ',h1,h2,h3,h4⟩:=(App.nil (α:=α) σ b).push hx hw (by simpa using hr) hb hbn;refine D5.Aek h1 ?_;have e:σ'=σ.pu (σ'.next - σ.next) σ'.low σ'.live:=by
  obtain⟨hp,lv,nx,lo⟩:=σ';have:=h3.heap;have hn:=h3.next;simp only at this hn |-;subst this;unfold D1.pu
  congr 1
  omega
 rw[Ba] at h2;rw[e] at h2 |-;exact hk r _ _ _ h2 h3.low h3.low' h4
def JQ{i:Nat}(h:i<=1000000000):G0 ((i:Int)+1)=((i+1:Nat):Int):=by rw[Er dO dO];omega
def s9:VV->Option Nat
 | .slice id _ _ _=>some id
 | _=>none
def Mt{α:Type}[DZ α](σ:D1)(b:Nat)(v:VV)(l:List α):Prop:=(l=[]/\v=EA)\/∃ id,v=.slice id 0 l.length l.length/\LA σ b id l
def Mt.D8{α:Type}[DZ α]{σ τ:D1}{b:Nat}{v:VV}{l:List α}(h:Mt σ b v l)(hn:σ.next<=τ.next)(hh:∀ j,j < σ.next->s9 v=some j->τ.heap j=σ.heap j):Mt τ b v l:=by
 rcases h with h | ⟨id,rfl,t,q,h1,h2,h3,h4⟩
 ·exact .inl h
 ·exact .inr ⟨id,rfl,t,q,h1,h2,dO,by rw[hh id h3 rfl];exact h4⟩
def Mt.lt{α:Type}[DZ α]{σ:D1}{b:Nat}{v:VV}{l:List α}(h:Mt σ b v l){id:Nat}(hi:s9 v=some id):b<=id/\id < σ.next:=by
 rcases h with ⟨_,rfl⟩ | ⟨id',rfl,t,q,h1,h2,h3,h4⟩
 ·cases hi
 ·cases hi;omega
def Mt.s7{α:Type}[DZ α]{σ:D1}{b:Nat}{v:VV}{l:List α}(h:Mt σ b v l):v.cs=[v]:=by
 rcases h with ⟨_,rfl⟩ | ⟨id',rfl,_⟩<;>rfl
def Mt.FE{α:Type}[DZ α]{σ:D1}{b:Nat}{v:VV}{l:List α}(h:Mt σ b v l)(r:List VV):Go.Proofs.YtkkpchcniicimaaGreat.FE (v::r)=Go.Proofs.YtkkpchcniicimaaGreat.FE r:=by
 rcases h with ⟨_,rfl⟩ | ⟨id',rfl,_⟩
 ·exact Ia _ _
 ·exact OA _ _ _ _ _
def D5.rwN{α:Type}[DZ α]{σ:D1}{K:VV->D1->Bool->Prop}{b:Nat}{l m:List α}{e:TypeId}{esz bytes:Nat}{v x:VV}(h:Mt σ b v l)(hbn:b<=σ.next)(hm:m.length≠0)(hx:H9 σ esz x=some (m.length,D4 m))(hw:esz=DZ.w α)(hr:(l.length+m.length) * bytes<=reach)(hb:0 < bytes)
  (hk:∀ id' τ,LA τ b id' (l++m)->σ.next=id'->σ.next<=τ.next->min σ.low b<=τ.low->τ.low<=σ.low->(∀ j,j < σ.next->s9 v≠some j->τ.heap j=σ.heap j)->K (.slice id' 0 (l.length+m.length) (l.length+m.length)) τ false):@D5 e esz bytes v x ⟨((false,false),σ,K)⟩:=by
 subst hw;rcases h with ⟨rfl,rfl⟩ | ⟨id,rfl,t,q,h1,h2,h3,h4⟩
 ·refine D5.rw0 hx rfl (by simpa using hr) hb hm ?_
  have:=hk σ.next (σ.box (D4 m) e (DZ.w α)) ⟨e,σ.next,hbn,Af _,by rw[Js];omega,Jl _ _ _ _⟩ rfl (by rw[Js];omega) (by rw[Pk];omega) (by rw[Pk];exact Af _) (λj hj _=>by rw[PA,if_neg dO]);simpa using this
 ·refine D5.row (r:=.slice σ.next 0 (l.length+m.length) (l.length+m.length)) (σ':=(σ.kill id q).alloc (.cells (D4 (l++m)) e (DZ.w α) q)) ?_ (hk σ.next _ ⟨e,q,h1,dO,by simp[D1.alloc,D1.kill],by simp[D1.alloc,D1.kill]⟩ rfl (by simp[D1.alloc,D1.kill]) (by simp only[D1.alloc,D1.kill];omega) (by simp only[D1.alloc,D1.kill];omega) (λj hj hne=>?_))
  ·unfold Mo
   rw[hx];simp only[Az,hm,if_false,h4];rw[if_pos (by simp[Kc,DZ.pos,hb]),if_pos ⟨trivial,trivial,by rw[ES];omega⟩,if_pos hr,Bu,<- G1]
  ·have hji:j≠id:=λe=>hne (by rw[e];rfl)
   simp[D1.alloc,D1.kill,hji];intro e;omega
def El(P:Program)[Prim P](n:Nat)(c:Fh)(fe:FV)(σ:D1)(Q:Ex->FV->D1->Prop):Prop:=Mf n c=true->∀ S fe',VR σ S fe fe'->XW P c fe' S (λe fe'' S'=>∃ fe2 σ',VR σ' S' fe2 fe''/\ER σ S σ' S'/\Q e fe2 σ')
def Gi{w:Gk × (Operand->VV)}{agg:Bool}{n o:Nat}{x:Operand}{xs:List VV}{σ σ':D1}(h1:w.1=.load agg n x)(h2:w.2 x=.ep xs o):Q0 w σ σ':=by
 obtain⟨op,ρ⟩:=w;dsimp only at h1 h2;subst h1;simp only[Q0,h2]
def K2{fe:FV}{d:Tmp}{v:VV}(h:fe d=v):Hf fe d v=fe:=by
 funext t;unfold Hf;split
 ·rename_i e;rw[e,h]
 ·rfl
def El.of{P:Program}[Prim P]{n:Nat}{c:Fh}{fe:FV}{σ:D1}{Q:Ex->FV->D1->Prop}(h:VW P c fe σ Q):El P n c fe σ Q:=λhwf S fe' hr=>Zr c hwf fe σ Q S fe' hr h
def El.seq{P:Program}[Prim P]{n:Nat}{a b:Fh}{fe:FV}{σ:D1}{Q:Ex->FV->D1->Prop}(h:El P n a fe σ (M6 (λfe σ=>El P n b fe σ Q) Q)):El P n (.seq a b) fe σ Q:=λhwf S fe' hr=>by
 simp only[Mf,Al] at hwf;rw[fR];refine XW.mono (λe fe2 S2 hh=>?_) (h hwf.1 S fe' hr);obtain⟨fe3,σ3,k1,k2,k3⟩:=hh;cases e with
 | normal=>
  refine XW.mono (λe fe4 S4 hh=>?_) (k3 hwf.2 S2 fe2 k1);obtain⟨fe5,σ5,a1,a2,a3⟩:=hh;exact⟨fe5,σ5,a1,k2.trans a2,a3⟩
 | exit id=>exact⟨fe3,σ3,k1,k2,k3⟩
 | ret=>exact⟨fe3,σ3,k1,k2,k3⟩
def El.mono{P:Program}[Prim P]{n:Nat}{c:Fh}{fe:FV}{σ:D1}{Q Q':Ex->FV->D1->Prop}(hq:∀ e fe σ,Q e fe σ->Q' e fe σ)(h:El P n c fe σ Q):El P n c fe σ Q':=λhwf S fe' hr=>by
 refine XW.mono (λe fe2 S2 hh=>?_) (h hwf S fe' hr);obtain⟨fe3,σ3,k1,k2,k3⟩:=hh;exact⟨fe3,σ3,k1,k2,hq _ _ _ k3⟩
def El.Pr{P:Program}[Prim P]{n:Nat}{a b:Fh}{fe:FV}{σ:D1}{Q:Ex->FV->D1->Prop}(R:FV->D1->Prop)(h1:El P n a fe σ (M6 R Q))(h2:∀ fe' σ',R fe' σ'->El P n b fe' σ' Q):El P n (.seq a b) fe σ Q:=El.seq (h1.mono λe fe σ hh=>by
 cases e with
 | normal=>exact h2 _ _ hh
 | ret=>exact hh
 | exit i=>exact hh)
def El.jy{P:Program}[Prim P]{n:Nat}{c:Fh}{fe:FV}{σ:D1}{Q:Ex->FV->D1->Prop}(id:Nat)(I:Nat->FV->D1->Prop)(R:FV->D1->Prop)(m:Nat)(h0:I m fe σ)(h:∀ k fe σ,I k fe σ->El P n c fe σ (M7 I k (Mc id R Q)))(hq:∀ fe σ,R fe σ->Q (.exit id) fe σ):El P n (.loop c) fe σ Q:=λhwf S fe' hr=>by
 have:=jo (P:=P) (c:=c) (fe:=fe') (S:=S) (Q:=λe fe'' S'=>∃ fe2 σ',VR σ' S' fe2 fe''/\ER σ S σ' S'/\Q e fe2 σ') (λk fe'' S'=>∃ fe2 σ',VR σ' S' fe2 fe''/\ER σ S σ' S'/\I k fe2 σ') m ⟨fe,σ,hr,.refl _ _,h0⟩ ?_
 ·exact this
 ·rintro k fe2 S2 ⟨fe3,σ3,k1,k2,k3⟩
  refine XW.mono (λe fe4 S4 hh=>?_) (h _ _ _ k3 (by simpa only[Mf] using hwf) S2 fe2 k1);obtain⟨fe5,σ5,a1,a2,a3⟩:=hh;cases e with
  | normal=>
   obtain⟨k',hk,hI'⟩:=a3;exact⟨k',hk,fe5,σ5,a1,k2.trans a2,hI'⟩
  | exit i=>
   refine⟨fe5,σ5,a1,k2.trans a2,?_⟩;unfold M7 Mc at a3;dsimp only at a3;split at a3
   ·rename_i e;rw[e];exact hq _ _ a3
   ·exact a3
  | ret=>exact⟨fe5,σ5,a1,k2.trans a2,a3⟩
def El.block{P:Program}[Prim P]{n id:Nat}{c:Fh}{fe:FV}{σ:D1}{Q:Ex->FV->D1->Prop}(h:El P n c fe σ (Ld id Q)):El P n (.block id c) fe σ Q:=λhwf S fe' hr=>by
 rw[SW];refine XW.mono (λe fe2 S2 hh=>?_) (h hwf S fe' hr);obtain⟨fe3,σ3,k1,k2,k3⟩:=hh;cases e with
 | normal=>exact⟨fe3,σ3,k1,k2,k3⟩
 | ret=>exact⟨fe3,σ3,k1,k2,k3⟩
 | exit i=>
  simp only[jn,Ld] at k3 |-;split at k3
  ·rename_i e;rw[if_pos e];exact⟨fe3,σ3,k1,k2,k3⟩
  ·rename_i e;rw[if_neg e];exact⟨fe3,σ3,k1,k2,k3⟩
def El.cond{P:Program}[Prim P]{n t:Nat}{x y:Fh}{fe:FV}{σ:D1}{Q:Ex->FV->D1->Prop}(b:Bool)(hc:fe t=.v (.bool b))(h:El P n (cond b x y) fe σ Q):El P n (.cond (.tmp t) x y) fe σ Q:=λhwf S fe' hr=>by
 simp only[Mf,Al] at hwf;have hv:=hr.env t;rw[hc] at hv;have hb:fe' t=.bool b:=by
  generalize fe' t=u at hv;cases hv;rfl
 refine⟨b,hb,λe=>?_,λe=>?_⟩
 ·subst e;exact h hwf.1 S fe' hr
 ·subst e;exact h hwf.2 S fe' hr
def El.rC{P:Program}[Prim P]{n t:Nat}{x y:Fh}{fe:FV}{σ:D1}{Q:Ex->FV->D1->Prop}(hc:fe t=.v (.bool true))(h:El P n x fe σ Q):El P n (.cond (.tmp t) x y) fe σ Q:=El.cond true hc h
def El.jz{P:Program}[Prim P]{n t:Nat}{x y:Fh}{fe:FV}{σ:D1}{Q:Ex->FV->D1->Prop}(hc:fe t=.v (.bool false))(h:El P n y fe σ Q):El P n (.cond (.tmp t) x y) fe σ Q:=El.cond false hc h
def El.fg{P:Program}[Prim P]{n:Nat}{c:Fh}{fe:FV}{σ:D1}{Q:Ex->FV->D1->Prop}(d:Tmp){v:VV}(hv:(fe d).fg=v)(h:El P n c (Hf fe d v) σ Q):El P n c fe σ Q:=λhwf S fe' hr=>by
 refine h hwf S fe' ⟨hr.sim,λu=>?_,hr.ws,hr.se⟩;unfold Hf;split
 ·rename_i e
  rw[e,<- hv];exact (hr.env d).fg
 ·exact hr.env u
def El.at{P:Program}[Prim P]{n:Nat}{c:Fh}{fe:FV}{σ:D1}{Q:Ex->FV->D1->Prop}(h:∀ fe2 σ2,fe2=fe->σ2=σ->El P n c fe2 σ2 Q):El P n c fe σ Q:=h _ _ rfl rfl
def E9.xc{σ:D1}{S:St}(h:E9 σ S){id:Nat}{cs:List VV}{t:TypeId}{z b:Nat}(hg:σ.heap id=.cells cs t z b):Ej (σ.freeze id).G S (.ep cs 0) (.pointer (some ⟨id,0,none⟩)):=by
 have hid:id < σ.next:=Cw λhle=>by have:=(h.hi id hle).1;rw[hg] at this;cases this
 have hG:∀ j,σ.G j->(σ.freeze id).G j/\(S.get j).look=(S.get j).look:=λj hj=>by
  refine⟨⟨hj.1,?_⟩,rfl⟩;by_cases e:j=id
  ·simp[D1.freeze,e]
  ·rw[Ec _ _ _ e];exact hj.2
 have hb:=h.IM id;rw[hg] at hb;obtain⟨h0,h00,c',an,h1,h2,h3⟩:=hb;exact .ep z id 0 0 c' t cs ⟨hid,by simp[D1.freeze]⟩ (by rw[h1];rfl) (by rw[A8,h2.1];exact Af _) λi k1 k2=>(by simpa using (h2.2 i k1 (by simpa using k2)).mono hG)
def El.freeze{P:Program}[Prim P]{n:Nat}{c:Fh}{fe:FV}{σ:D1}{Q:Ex->FV->D1->Prop}{d:Tmp}{id:Nat}{cs:List VV}{t:TypeId}{z b:Nat}(hf:fe d=.ptr id 0)(hg:σ.heap id=.cells cs t z b)(h:El P n c (Hf fe d (.ep cs 0)) (σ.freeze id) Q):El P n c fe σ Q:=λhwf S fe' hr=>by
 obtain⟨f1,f2,_⟩:=hr.sim.freeze hg;refine XW.mono (λe fe2 S2 hh=>?_) (h hwf S fe' ⟨f1,λu=>?_,hr.ws,hr.se⟩)
 ·obtain⟨fe3,σ3,k1,k2,k3⟩:=hh
  exact⟨fe3,σ3,k1,f2.trans k2,k3⟩
 ·unfold Hf
  split
  ·rename_i e
   have hu:=hr.env u;rw[e,hf] at hu;have:fe' u=.pointer (some ⟨id,0,none⟩):=by
    rw[e];generalize fe' d=y at hu;cases hu;rfl
   rw[this];exact hr.sim.xc hg
  ·exact (hr.env u).step f2
def HU{P:Program}[Prim P]{f:FuncId}{xf:Ed}(hf:XF P f=some xf){args:List VV}{σ:D1}{Q:VV->D1->Prop}(h:∀ n,El P n xf.body (Tz args) σ.fresh (W1 xf.results Q)):VC P f args σ Q:=by
 intro S args' hs hargs;refine XC.given λhw hsc=>?_
 have hr:VR σ.fresh S (Tz args) (mY args'.toList):=by
  refine⟨hs.fresh,λt=>?_,hw,λt=>?_⟩
  ·show Ej σ.G S (Tz args t) (mY args'.toList t)
   simp only[Tz,mY,AY];cases e:args[t]? with
   | none=>
    have:args'.toList[t]? = none:=by
     rw[Dn] at e |-;rw[<- hargs.1];exact e
    rw[this];exact JY hs
   | some x=>
    obtain⟨x',k1,k2⟩:=hargs.at e;rw[k1];exact k2
  ·simp only[mY,AY]
   cases e:args'.toList[t]? with
   | none=>exact Sc.undef _
   | some x=>exact hsc x (AF e)
 have:=h _ (UP hf).1 S _ hr;refine YB hf (XW.mono (λe fe2 S2 hh=>?_) this);obtain⟨fe3,σ3,k1,k2,k3,v,k4,k5⟩:=hh;obtain⟨v',q1,q2⟩:=Va k1 k4;exact⟨k3,v',q1,v,σ3,k1.sim,k2,q2,k5⟩
def GC.one{α:Type}[DZ α]{σ:D1}{K:VV->D1->Bool->Prop}{e:TypeId}{esz w:Nat}{z:List Value}(x:α){v:VV}(h1:z.length=esz)(hw:esz=DZ.w α)(hw2:w=esz)(hv:v.cs=DZ.e x)(hk:K (vo [x] σ.next) σ.Eg true):@GC e esz 1 z [(0,w,v)] ⟨(σ,K)⟩:=by
 have hz:((rep 1 z).map VV.v).length=esz:=by simp[rep,h1]
 refine GC.own (l:=DZ.e x) h1 ?_ (DZ.all x) ?_
 ·rw[TL,if_pos ⟨by rw[hv,hw2,hw,DZ.len],by rw[hz,hw2];omega⟩,Vq,hv,Z1 _ _ (by rw[hz,hw,DZ.len])]
 ·have:=hk
  unfold vo at this;rw[Uk,<- hw] at this;rw[DZ.fgd];exact this
end Go.Proofs.YtkkpchcniicimaaGreat

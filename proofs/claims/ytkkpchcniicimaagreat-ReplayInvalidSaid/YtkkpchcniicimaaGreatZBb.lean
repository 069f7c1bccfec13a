/- The world, as the reference has it: an execution is recorded. The world, in the reference: a handler is executed. The world, in the reference: an event is executed; what its parts share. The world, in -/
import Derived.Test.YtkkpchcniicimaaGreatZBa
import Derived.Test.YtkkpchcniicimaaGreatZCa
set_option linter.all false
namespace Go.Proofs.YtkkpchcniicimaaGreat
open Go Go.RowKit
def Hb:List VV:=[EA,EA,EA,EA,vi 0,vi 0,vi 0,vi 0,EA,EA,EA,EA,EA,EA,EA,vi 0]
structure Ps(σ:D1)(b:Nat)(w:E4)(A:Ig)(RL:List VV)(Z:D1):Prop where
 low:b<=Z.low
 nx:σ.next+3<=Z.next
 wc:Z.heap σ.next=.cells (WV w A) 68 16 σ.next
 rc:Z.heap (σ.next+1)=.cells RL 160 67 (σ.next+1)
 zc:Z.heap (σ.next+2)=.cells Hb 68 16 (σ.next+2)
 wr:WR Z b w A
 fr:∀ j,j < σ.next->¬ A.has j->Z.heap j=σ.heap j
def Ps.put{σ:D1}{b:Nat}{w w':E4}{A:Ig}{RL:List VV}{Z Z':D1}(h:Ps σ b w A RL Z)(hA:∀ j,A.has j->j < σ.next)(e1:w'.nodes=w.nodes)(e2:w'.next=w.next)(e3:w'.failures=w.failures)(e4:w'.traces=w.traces)(hn:Z.next<=Z'.next)(hl:b<=Z'.low)(hk:∀ j,j < Z.next->j≠σ.next->Z'.heap j=Z.heap j)(hc:Z'.heap σ.next=.cells (WV w' A) 68 16 σ.next):Ps σ b w' A RL Z':=by
 have hnx:=h.nx;have hh:∀ j,A.has j->Z'.heap j=Z.heap j:=λj hj=>hk j (by have:=hA j hj;omega) (by have:=hA j hj;omega)
 refine⟨hl,dO,hc,by rw[hk _ dO dO];exact h.rc,by rw[hk _ dO dO];exact h.zc,?_,λj hj hne=>by rw[hk j dO dO];exact h.fr j hj hne⟩;have hw:=h.wr.D8 hn hh;exact { hw with n:=by rw[e1];exact hw.n,x:=by rw[e2];exact hw.x,f:=by rw[e3];exact hw.f,t:=by rw[e4];exact hw.t }
def Ps.Aat{σ:D1}{b:Nat}{w:E4}{A:Ig}{RL:List VV}{Z Z':D1}(h:Ps σ b w A RL Z)(hA:∀ j,A.has j->j < σ.next){n:Nat}{x:List Np}{t:TypeId}{q:Nat}(hq:b<=q/\q<=A.f)(hn:Z.next<=Z'.next)(hl:b<=Z'.low)(hk:∀ j,j < Z.next->j≠A.f->Z'.heap j=Z.heap j)(hc:Z'.heap A.f=.cells (D4 (w.failures.set n x)) t 1 q):Ps σ b { w with failures:=w.failures.set n x } A RL Z':=by
 have hnx:=h.nx;have hf:=hA A.f (.inr (.inr (.inl rfl)));refine⟨hl,dO,by rw[Aax,hk _ dO dO];exact h.wc,by rw[hk _ dO dO];exact h.rc,by rw[hk _ dO dO];exact h.zc,?_,λj hj hne=>by rw[hk j dO (λe=>hne (.inr (.inr (.inl e))))];exact h.fr j hj hne⟩;exact h.wr.Aat (t:=t) (q:=q) hq hc hn (λj hj hne=>hk j (by have:=hA j hj;omega) hne) rfl rfl rfl
def rD{α:Type}{l:List α}{n:Nat}{x:α}(h:l[n]? = some x):l.set n x=l:=by
 obtain⟨hn,rfl⟩:=Am.1 h;exact List.set_getElem_self hn
def Y9:∀ (m l:List GF),(m.foldl Kf l).length<=l.length+m.length
 | [],l=>Af _
 | x::m,l=>by
  have h1:=Xj l x;have h2:=Y9 m (Kf l x);rw[Bg,Ag];omega
section
variable [Prim Tryz.prog]
set_option maxHeartbeats 4000000 in
set_option maxRecDepth 100000 in
def QY(w:E4){A:Ig}{b:Nat}(σ:D1)(hb:b<=σ.next)(hr:WR σ b w A)(n:Nat)(hn:n < w.nodes.length){tr:List (List Int)}(ht:w.traces[n]? = some tr)(htl:tr.length<=1000000){fa:List Np}(hf:w.failures[n]? = some fa)(R:LB)(hd:F1 R.s.disk)(hv:R.s.vol.length<=16)(k1:w.flight.length+R.sent.length<=100000)(k2:w.obs.length<=1000000)(k3:fa.length+R.fails.length<=10000000)(k4:w.covered.length+R.covered.length<=100000000)(waiting:Int)(rv:VV)(hR:NF R rv) :
  VC Tryz.prog 91 [.agg (WV w A),vi n,rv,vi waiting] σ (λr σ'=>r=.agg (WV (Ht w n R waiting) A)/\WQ σ b (Ht w n R waiting) A σ'):=by
 obtain⟨o1,o2,o3,o4,o5,o6,rfl,⟨c1,d1⟩,⟨c2,d2⟩,⟨c3,d3⟩,⟨c4,d4⟩,⟨c5,d5⟩,⟨c6,d6⟩⟩:=hR;obtain⟨RL,hRL⟩:∃ RL,RL=DZ.e R.s++[vl R.asks,vl R.sent,vb R.replied,vi R.value,vl R.fails,vi R.cause.node,vi R.cause.handler,vi R.cause.count,o1,o2,o3,o4,o5,o6,vl R.covered]:=⟨_,rfl⟩
 obtain⟨tN,qN,n1,n2,n3,zN⟩:=hr.n;rw[SY] at zN;have hs:w.nodes[n]? = some w.nodes[n]:=Ah hn;obtain⟨e1,e2⟩:=Rp (z:=52) rfl hs;have a1:∀ x,(A.n=σ.next+x)=False:=λx=>eq_false dO
 have a2:(A.n=σ.next)=False:=eq_false dO;have a7:∀ x,(σ.next+x=A.n)=False:=λx=>eq_false dO
 have a8:(σ.next=A.n)=False:=eq_false dO;have b1:∀ x,(A.n < σ.next+x)=True:=λx=>eq_true dO
 unfold JP;refine Ea XF91 ?_
 (repeat' (first | simp +decide only[↓Em,wA,↓reduceIte,Nat.reduceAdd,Nat.reduceLeDiff,D0,xf91,IY,zN,e2,a1,a2,rf,EI,Et,Ad,d1,d2,d3,d4,d5,d6] | ((with_reducible refine HZ ?_ ?_ ?_);(omega);(omega))))
 refine Hw (λZ hZ=>?_);have hA:∀ j,A.has j->j < σ.next:=λj hj=>(hr.lt hj).2
 obtain⟨w1,hw1⟩:∃ w1:E4,w1={ w with nodes:=w.nodes.set n R.s }:=⟨_,rfl⟩
 have hI:Ps σ b w1 A RL Z:=by
  have hk:∀ j,j < σ.next->j≠A.n->Z.heap j=σ.heap j:=λj hj hne=>by
   have q1:∀ x,(j=σ.next+x)=False:=λx=>eq_false dO
   have q2:(j=σ.next)=False:=eq_false dO;have q3:(j=A.n)=False:=eq_false hne;rw[hZ];simp +decide only[wA,↓reduceIte,Nat.reduceAdd,q1,q2,q3]
  have hx:σ.next+3<=Z.next:=by rw[hZ];simp +decide only[wA,Nat.reduceAdd]<;>omega
  refine⟨by rw[hZ];simp only[lW];omega,hx,?_,?_,?_,?_,λj hj hne=>hk j hj λe=>hne (.inl e)⟩
  ·rw[hw1,xZ,hZ];simp +decide only[wA,↓reduceIte,Nat.reduceAdd,a8]
  ·rw[hRL,hZ];simp +decide only[wA,↓reduceIte,Nat.reduceAdd,a7]
  ·rw[hZ];simp +decide only[wA,↓reduceIte,Nat.reduceAdd,a7];rfl
  ·rw[hw1]
   refine hr.Il (t:=tN) (q:=qN) ⟨n1,n2⟩ ?_ dO (λj hj hne=>hk j (hA j hj) hne) rfl rfl rfl;rw[hZ,<- RC (z:=52) rfl hn R.s];simp +decide only[wA,↓reduceIte]
 clear hZ;have g1:w1.flight=w.flight:=by rw[hw1]
 refine Ek 0 (λm fe Z=>fe 1=vi n/\fe 3=vi waiting/\fe 4=.ptr σ.next 0/\fe 6=.ptr (σ.next+1) 0/\fe 8=.ptr (σ.next+2) 0/\∃ i:Nat,fe 9=vi i/\m+i=R.sent.length/\Ps σ b { w1 with flight:=(R.sent.take i).foldl Kf w.flight } A RL Z)
  (λfe Z=>fe 1=vi n/\fe 3=vi waiting/\fe 4=.ptr σ.next 0/\fe 6=.ptr (σ.next+1) 0/\fe 8=.ptr (σ.next+2) 0/\Ps σ b { w1 with flight:=R.sent.foldl Kf w.flight } A RL Z) R.sent.length ?_ ?_ ?_
 ·refine Zy0 ?_
  refine⟨0,rfl,rfl,?_⟩;rw[A6,CL,<- g1];exact hI
 ·rintro m fe Y ⟨f1,f3,f4,f6,f8,i,f9,hm,hY⟩
  have y0:=hY.wc;have y1:=hY.rc;rw[hRL] at y1;have hnx:=hY.nx;have hfl:((R.sent.take i).foldl Kf w.flight).length<=w.flight.length+i:=by
   have:=Y9 (R.sent.take i) w.flight;rw[As] at this;omega
  (repeat' (first | refine Zz0 (ru ((R.sent.take i).foldl Kf w.flight) (R.sent[i]' dO) dO) λgn=>?_ | refine Zb (λ_ gd=>?_) λ_ gd=>?_ | simp +decide only[↓Em,wA,↓reduceIte,Nat.reduceAdd,Nat.reduceLeDiff,D0,f1,f3,f4,f6,f8,f9,y0,y1,IY,JO,Ad,Nat.reduceSub] | ((with_reducible refine Ih ?_ ?_ ?_ ?_);(omega);(omega);(rfl)) | ((with_reducible refine HK ?_ ?_ ?_);(omega);(decide)) | fail))
  ·refine⟨m - 1,dO,i+1,Fv dO,dO,?_⟩
   refine hY.put (w':={ w1 with flight:=(R.sent.take (i+1)).foldl Kf w.flight }) hA rfl rfl rfl rfl ah0 (by have:=hY.low;simp only[lW];omega) (λj hj hne=>by rw[ET _ _ _ _ _ _ _ hne];rfl) ?_;rw[EY,PK Kf _ _ i dO];rfl
  ·obtain rfl:i=R.sent.length:=dO
   rw[BK] at hY;exact hY
 ·rintro fe Y ⟨f1,f3,f4,f6,f8,hY⟩
  have y0:=hY.wc;have y1:=hY.rc;rw[hRL] at y1;have hnx:=hY.nx;have p0:(σ.next < Y.next)=True:=eq_true dO;have p1:(σ.next+1 < Y.next)=True:=eq_true dO
  (repeat' (first | simp +decide only[wA,↓wsC,↓reduceIte,Nat.reduceAdd,Nat.reduceLeDiff,f6,y1,JO,Ad,Nat.reduceSub]))
  obtain⟨w2,hw2⟩:∃ w2:E4,w2={ w1 with flight:=R.sent.foldl Kf w.flight }:=⟨_,rfl⟩
  rw[<- hw2] at hY y0;have g2:w2.obs=w.obs:=by rw[hw2,hw1]
  refine Z9 (λfe Y=>fe 1=vi n/\fe 3=vi waiting/\fe 4=.ptr σ.next 0/\fe 6=.ptr (σ.next+1) 0/\fe 8=.ptr (σ.next+2) 0/\Ps σ b { w2 with obs:=if R.replied then w.obs++[⟨true,waiting,n,R.s.epoch,R.value⟩] else w.obs } A RL Y) ?_ ?_
  ·have hep:((DZ.e R.s).drop 2).take 1=[vi R.s.epoch]:=rfl
   cases hrp:R.replied
   ·refine Zl (J6 f1 f3 f4 f6 f8 hrp) ?_
    rw[<- g2];exact hY
   ·(repeat' (first | simp +decide only[↓Em,wA,↓reduceIte,Nat.reduceAdd,Nat.reduceLeDiff,f4,y0,g2,IY]))
    refine D5.Aay (α:=te) (b:=σ.next) (m:=w.obs) (Gf _ _ rfl) rfl (by unfold reach;omega) iF dO (λr gn lo lv ga l1 l2 l3=>?_)
    (repeat' (first | refine ZE trivial [(⟨true,waiting,n,R.s.epoch,R.value⟩:te)] ?_ | simp +decide only[↓Em,wA,Fe,Ev,↓reduceIte,Nat.reduceAdd,Nat.reduceLeDiff,D0,f1,f3,f6,hrp,y1,hep,p1,Rm,JO,Ad,Nat.reduceSub] | fail))
    refine D5.wq (α:=te) (b:=σ.next) (l:=w.obs) (m:=[⟨true,waiting,n,R.s.epoch,R.value⟩]) ga.Eg (EN _ _ _ rfl) rfl (by unfold reach;simp;omega) iF ah0 (λgn2 lo2 lv2 l4 l5 l6=>?_)
    (repeat' (first | simp +decide only[↓Em,wA,↓reduceIte,Nat.reduceAdd,Nat.reduceLeDiff,D0,f1,f3,f4,f6,f8,y0,IY]))
    have:=hY.low;simp only[lW] at l1 l2 l4 l5;refine hY.put (w':={ w2 with obs:=w.obs++[⟨true,waiting,n,R.s.epoch,R.value⟩] }) hA rfl rfl rfl rfl ah0 ah0 (λj hj hne=>by rw[ET _ _ _ _ _ _ _ hne];rfl) ?_;rw[EY];rfl
  ·rintro fe Y ⟨f1,f3,f4,f6,f8,hY⟩
   obtain⟨w3,hw3⟩:∃ w3:E4,w3={ w2 with obs:=if R.replied then w.obs++[⟨true,waiting,n,R.s.epoch,R.value⟩] else w.obs }:=⟨_,rfl⟩
   rw[<- hw3] at hY;have g3:w3.failures=w.failures:=by rw[hw3,hw2,hw1]
   have hnf:n < w.failures.length:=(Am.1 hf).1;refine Ek 2 (λm fe Y=>fe 1=vi n/\fe 3=vi waiting/\fe 4=.ptr σ.next 0/\fe 6=.ptr (σ.next+1) 0/\fe 8=.ptr (σ.next+2) 0/\∃ i:Nat,fe 13=vi i/\m+i=R.fails.length/\Ps σ b { w3 with failures:=w3.failures.set n (fa++(R.fails.take i).map λk=>(⟨R.cause.node,R.cause.handler,R.cause.count,k⟩:Np)) } A RL Y)
    (λfe Y=>fe 1=vi n/\fe 3=vi waiting/\fe 4=.ptr σ.next 0/\fe 6=.ptr (σ.next+1) 0/\fe 8=.ptr (σ.next+2) 0/\Ps σ b { w3 with failures:=w3.failures.set n (fa++R.fails.map λk=>(⟨R.cause.node,R.cause.handler,R.cause.count,k⟩:Np)) } A RL Y) R.fails.length ?_ ?_ ?_
   ·refine Zl (J5 f1 f3 f4 f6 f8) ?_
    refine⟨0,rfl,rfl,?_⟩;rw[A6,AD,AP,g3,rD hf,<- g3];exact hY
   ·rintro m fe Y ⟨f1,f3,f4,f6,f8,i,f13,hm,hY⟩
    have y0:=hY.wc;have y1:=hY.rc;rw[hRL] at y1;have hnx:=hY.nx;have hlow:=hY.low;obtain⟨t1,q1,r1,r2,r3,zF⟩:=hY.wr.f;have hAf:=hA A.f (.inr (.inr (.inl rfl)));have m1:(A.f=σ.next)=False:=eq_false dO;have m2:∀ x,(A.f=σ.next+x)=False:=λx=>eq_false dO
    have m3:(σ.next=A.f)=False:=eq_false dO;have m4:∀ x,(σ.next+x=A.f)=False:=λx=>eq_false dO
    have p0:(σ.next < Y.next)=True:=eq_true dO;have p1:(σ.next+1 < Y.next)=True:=eq_true dO;have p2:(A.f < Y.next)=True:=eq_true dO;obtain⟨fl,hfl⟩:∃ fl:List Np,fl=fa++(R.fails.take i).map λk=>(⟨R.cause.node,R.cause.handler,R.cause.count,k⟩:Np):=⟨_,rfl⟩
    have hfll:fl.length<=fa.length+R.fails.length:=by rw[hfl,Ad,AJ,As];omega
    rw[<- hfl] at zF hY y0;rw[g3] at zF hY y0;have hfn:(w.failures.set n fl)[n]? = some fl:=KJ hnf fl;obtain⟨e3,e4⟩:=Aas rfl hfn;have e5:DZ.e fl=[vl fl]:=rfl
    (repeat' (first | refine Zb (λ_ gd=>?_) λ_ gd=>?_ | simp +decide only[↓Em,wA,↓reduceIte,Nat.reduceAdd,Nat.reduceLeDiff,f1,f3,f4,f6,f8,f13,y0,y1,zF,e3,e4,e5,A7,IY,JO,Ad,Nat.reduceSub] | ((with_reducible refine HZ ?_ ?_ ?_);(omega);(omega)) | fail))
    ·refine D5.Aay (α:=Np) (b:=σ.next) (m:=fl) (Gf _ _ rfl) rfl (by unfold reach;omega) iF dO (λr gn lo lv ga l1 l2 l3=>?_)
     (repeat' (first | refine ZE trivial [(⟨R.cause.node,R.cause.handler,R.cause.count,R.fails[i]' dO⟩:Np)] ?_ | simp +decide only[↓Em,wA,Fe,Ev,↓reduceIte,Nat.reduceAdd,Nat.reduceLeDiff,D0,f6,f13,y1,p1,JO,Ad,Nat.reduceSub] | ((with_reducible refine Ih ?_ ?_ ?_ ?_);(omega);(omega);(rfl)) | ((with_reducible refine HK ?_ ?_ ?_);(omega);(decide)) | fail))
     refine D5.wq (α:=Np) (b:=σ.next) (l:=fl) (m:=[⟨R.cause.node,R.cause.handler,R.cause.count,R.fails[i]' dO⟩]) ga.Eg (EN _ _ _ rfl) rfl (by unfold reach;simp;omega) iF ah0 (λgn2 lo2 lv2 l4 l5 l6=>?_)
     (repeat' (first | simp +decide only[↓Em,wA,↓reduceIte,D0,f1,f3,f4,f6,f8,f13,zF,e4] | ((with_reducible refine HZ ?_ ?_ ?_);(omega);(omega))))
     simp only[lW] at l1 l2 l4 l5;refine⟨m - 1,dO,i+1,JQ dO,dO,?_⟩;have hv:=Y7 (l:=w.failures.set n fl) (n:=n) (by rw[A7];exact hnf) (fl++[⟨R.cause.node,R.cause.handler,R.cause.count,R.fails[i]' dO⟩]);rw[hv,List.set_set];have hst:fa++(R.fails.take (i+1)).map (λk=>(⟨R.cause.node,R.cause.handler,R.cause.count,k⟩:Np))=fl++[⟨R.cause.node,R.cause.handler,R.cause.count,R.fails[i]' dO⟩]:=by
      rw[hfl,map_take _ _ i dO,AU]
     rw[hst];have:=λZ'=>hY.Aat (Z':=Z') (n:=n) (x:=fl++[⟨R.cause.node,R.cause.handler,R.cause.count,R.fails[i]' dO⟩]) (t:=t1) (q:=q1) hA ⟨r1,r2⟩
     dsimp only at this;simp only[List.set_set] at this;rw[g3];exact this _ ah0 ah0 (λj hj hne=>by rw[ET _ _ _ _ _ _ _ hne];rfl) (by rw[EY])
    ·obtain rfl:i=R.fails.length:=dO
     rw[BK] at hfl;rw[<- hfl,g3];exact hY
   ·rintro fe Y ⟨f1,f3,f4,f6,f8,hY⟩
    obtain⟨w4,hw4⟩:∃ w4:E4,w4={ w3 with failures:=w3.failures.set n (fa++R.fails.map λk=>(⟨R.cause.node,R.cause.handler,R.cause.count,k⟩:Np)) }:=⟨_,rfl⟩
    rw[<- hw4] at hY;have g4:w4.covered=w.covered:=by rw[hw4,hw3,hw2,hw1]
    have hver:((DZ.e R.s).drop 1).take 1=[vi R.s.version]:=rfl
    refine Zl (J5 f1 f3 f4 f6 f8) ?_
    refine Ek 4 (λm fe Y=>fe 1=vi n/\fe 3=vi waiting/\fe 4=.ptr σ.next 0/\fe 6=.ptr (σ.next+1) 0/\fe 8=.ptr (σ.next+2) 0/\∃ i:Nat,fe 15=vi i/\m+i=R.covered.length/\Ps σ b { w4 with covered:=((R.covered.take i).map λi=>(⟨R.s.version,i⟩:JE)).foldl II w.covered } A RL Y)
     (λfe Y=>fe 1=vi n/\fe 3=vi waiting/\fe 4=.ptr σ.next 0/\fe 6=.ptr (σ.next+1) 0/\fe 8=.ptr (σ.next+2) 0/\Ps σ b { w4 with covered:=(R.covered.map λi=>(⟨R.s.version,i⟩:JE)).foldl II w.covered } A RL Y) R.covered.length ?_ ?_ ?_
    ·refine Zl (J5 f1 f3 f4 f6 f8) ?_
     refine⟨0,rfl,rfl,?_⟩;rw[A6,AD,CL,<- g4];exact hY
    ·rintro m fe Y ⟨f1,f3,f4,f6,f8,i,f15,hm,hY⟩
     have y0:=hY.wc;have y1:=hY.rc;rw[hRL] at y1;have hnx:=hY.nx;have hlow:=hY.low;have p0:(σ.next < Y.next)=True:=eq_true dO;have p1:(σ.next+1 < Y.next)=True:=eq_true dO;obtain⟨cl,hcl⟩:∃ cl:List JE,cl=((R.covered.take i).map λi=>(⟨R.s.version,i⟩:JE)).foldl II w.covered:=⟨_,rfl⟩
     have hcll:cl.length<=w.covered.length+R.covered.length:=by
      have:=Ob ((R.covered.take i).map λi=>(⟨R.s.version,i⟩:JE)) w.covered;rw[AJ,As] at this;rw[hcl];omega
     rw[<- hcl] at hY y0
     (repeat' (first | refine Zz0 (gI cl ⟨R.s.version,R.covered[i]' dO⟩ dO) λgn=>?_ | refine Zb (λ_ gd=>?_) λ_ gd=>?_ | simp +decide only[↓Em,wA,↓reduceIte,Nat.reduceAdd,Nat.reduceLeDiff,D0,f1,f3,f4,f6,f8,f15,y0,y1,hver,IY,Rm,JO,Ad,Nat.reduceSub] | ((with_reducible refine Ih ?_ ?_ ?_ ?_);(omega);(omega);(rfl)) | ((with_reducible refine HK ?_ ?_ ?_);(omega);(decide)) | fail))
     ·refine⟨m - 1,dO,i+1,JQ dO,dO,?_⟩
      refine hY.put (w':={ w4 with covered:=((R.covered.take (i+1)).map λi=>(⟨R.s.version,i⟩:JE)).foldl II w.covered }) hA rfl rfl rfl rfl ah0 ah0 (λj hj hne=>by rw[ET _ _ _ _ _ _ _ hne];rfl) ?_;rw[EY,map_take _ _ i dO,Cm,<- hcl];rfl
     ·obtain rfl:i=R.covered.length:=dO
      rw[BK] at hcl;rw[<- hcl];exact hY
    ·rintro fe Y ⟨f1,f3,f4,f6,f8,hY⟩
     obtain⟨w5,hw5⟩:∃ w5:E4,w5={ w4 with covered:=(R.covered.map λi=>(⟨R.s.version,i⟩:JE)).foldl II w.covered }:=⟨_,rfl⟩
     rw[<- hw5] at hY;have y0:=hY.wc;have y2:=hY.zc;have hnx:=hY.nx;have hlow:=hY.low
     (repeat' (first | simp +decide only[↓Em,wA,↓reduceIte,f1,f4,y0,IY]))
     have hs5:w5.nodes[n]? = some R.s:=by rw[hw5,hw4,hw3,hw2,hw1];exact KJ hn R.s
     have ht5:w5.traces[n]? = some tr:=by rw[hw5,hw4,hw3,hw2,hw1];exact ht
     refine Ey.any (QX w5 Y dO hY.wr n hs5 hd hv ht5 htl) ?_;rintro _ F ⟨rfl,q1,q2,q3,q4⟩ q5 q6;have hnA:∀ j,σ.next<=j->¬ A.has j:=λj hj hA2=>by have:=hA j hA2;omega
     have u0:(Y.join F).heap (σ.next+2)=.cells Hb 68 16 (σ.next+2):=(q4 _ dO (hnA _ dO)).trans y2;have hfin:Ht w n R waiting=Ir w5 n:=by
      unfold Ht;rw[hw5,hw4,hw3,hw2,hw1,getD_some hf]
     (repeat' (first | simp +decide only[↓Em,wA,↓reduceIte,D0,f8,u0,IY,Ad]))
     have z16:WV w5 A++List.drop 16 Hb=WV w5 A:=by rw[show List.drop 16 Hb=[] from rfl,AP]
     rw[z16,Ab8,hfin,Ql];have hh:∀ j,j≠σ.next+2->((Y.join F).write (σ.next+2) (WV w5 A) 68 16 (σ.next+2)).heap j=F.heap j:=λj hj=>by rw[ET _ _ _ _ _ _ _ hj];rfl
     refine⟨rfl,?_,?_,q3.D8 (Af _) (λj hj=>hh j λe=>hnA _ dO hj),λj hj hne=>?_⟩
     ·show b<=min (min Y.low F.low) (σ.next+2)
      omega
     ·show σ.next<=F.next
      omega
     ·rw[hh j dO,q4 j dO hne]
      exact hY.fr j hj hne
end
section
variable [Prim Tryz.prog]
set_option maxHeartbeats 4000000 in
set_option maxRecDepth 100000 in
def Mb(w:E4){k o:Int}(h:WI w k o)(hk:0<=k/\k < 5000)(ho:o<=1000000){A:Ig}{b:Nat}(σ:D1)(hb:b<=σ.next)(hr:WR σ b w A){n:Nat}{s:FZ}(hs:w.nodes[n]? = some s)(hup:s.up=true){hd:Nat}(hh:hd < 40){nm:Nat->Int}(hnm:∀ i,i < 9->D2 (nm i))(la:List Gy)(hl:la.length<=100000) :
  VC Tryz.prog 92 [.agg (WV w A),vi n,vi hd,.agg (Gz 9 nm),vl la] σ (λr σ'=>∃ rv,r=.tup [.agg (WV (GG w n hd nm la).1 A),rv]/\NF (GG w n hd nm la).2 rv/\WQ σ b (GG w n hd nm la).1 A σ'):=by
 obtain⟨hn,hs'⟩:=Am.1 hs;have hnd:=h.node s (by rw[<- hs'];exact Ao hn);obtain⟨p,hp,hv0,hdl,hvl⟩:=hnd.up hup;obtain⟨D,hD⟩:=h.cfg.prog p (AF hp);have hf:=h.cfg.first
 have hres:=N8 h.cfg hD hnd ⟨hk.1,dO⟩ hup hv0 hp hdl hvl hh (self:=n) (I4 (by have:=h.nl;omega)) hnm la;have e:GG w n hd nm la=(Ht w n (FR s p hd n w.c.first.length w.c.drift nm la) s.waiting,FR s p hd n w.c.first.length w.c.drift nm la):=by
  unfold GG;dsimp only;rw[getD_some hs,getD_some hp,h.nl]
 rw[e];obtain⟨R,hR⟩:∃ R,R=FR s p hd n w.c.first.length w.c.drift nm la:=⟨_,rfl⟩
 rw[<- hR] at hres |-;obtain⟨tN,qN,n1,n2,n3,zN⟩:=hr.n;rw[SY] at zN;obtain⟨e1,e2⟩:=Rp (z:=52) rfl hs;have a1:∀ x,(A.n=σ.next+x)=False:=λx=>eq_false dO
 have a2:(A.n=σ.next)=False:=eq_false dO;have a7:∀ x,(σ.next+x=A.n)=False:=λx=>eq_false dO
 have a8:(σ.next=A.n)=False:=eq_false dO;refine HU XF92 (λN=>?_);unfold xf92;dsimp only;refine El.seq (El.of ?_)
 refine Zl (J9 @IY @EM @Eo @zN e1 e2 a1 a2 (J2 a7 a8)) ?_
 refine El.seq (El.of ?_)
 refine Zl (J9 @IY @EM @Eo @zN e1 e2 a1 a2 (J2 a7 a8)) ?_
 refine El.seq (El.of ?_);have t9:(Gz 9 nm).take 9=Gz 9 nm:=Aj (by rw[Eo];omega);have q1:((DZ.e s).drop 1).take 1=[vi s.version]:=rfl;have hpl:s.version.toNat < w.c.programs.length:=(Am.1 hp).1;have hpe:w.c.programs[s.version.toNat]'hpl=p:=(Am.1 hp).2
 refine Zl (J9 @IY @EM @Eo @zN e1 e2 a1 a2 (J7 a7 a8 q1 hpe @EI @Pl t9)) ?_
 have hvars:((GK s).length:Int)=p.durable+p.volatile:=by
  unfold GK Gp;rw[Ad,F2];omega
 have hvs:∀ x∈GK s,D2 x:=hnd.vars;have hself:D2 (n:Int):=I4 (by have:=h.nl;omega);have hnodes:D2 (w.c.first.length:Int):=I4 dO;have hclk:=hnd.clk;have hcnt:=hnd.cnt hd dO;refine Ey.tg (R:=λv=>NF R v) (args2:=[.agg (DZ.e s),.agg (DZ.e p),vi hd,vi n,vi w.c.first.length,vi w.c.drift,.agg (Gz 9 nm),vl la]) (by simp only[No,h.nl,fG]) (by rw[hR];exact QT s p D hD hd hh n w.c.first.length w.c.drift h.cfg.drift nm la hl hnd.disk (by have:=hnd.timl;omega) hnd.voll hvars hvs ⟨hclk.1,dO⟩ ⟨hcnt.1,dO⟩ hself hnodes hnm _) (λrv g hv=>?_);obtain⟨o1,o2,o3,o4,o5,o6,rv2,⟨c1,d1⟩,⟨c2,d2⟩,⟨c3,d3⟩,⟨c4,d4⟩,⟨c5,d5⟩,⟨c6,d6⟩⟩:=id hv;unfold JP at rv2
 (repeat' (first | simp +decide only[↓Em,wA,↓reduceIte,Nat.reduceAdd,D0,rv2,Et,Ad,d1,d2,d3,d4,d5,d6]))
 obtain⟨RL,hRL⟩:∃ RL,RL=DZ.e R.s++[vl R.asks,vl R.sent,vb R.replied,vi R.value,vl R.fails,vi R.cause.node,vi R.cause.handler,vi R.cause.count,o1,o2,o3,o4,o5,o6,vl R.covered]:=⟨_,rfl⟩
 have hRLl:RL.length=67:=by rw[hRL,Ad,EG];rfl
 refine El.at (λfe Y hfe hY=>?_);have f1:fe 1=vi n:=by rw[hfe];simp +decide only[↓Em,wA]
 have f5:fe 5=.ptr σ.next 0:=by rw[hfe];simp +decide only[↓Em,wA]
 have f10:fe 10=.ptr (σ.next+2) 0:=by rw[hfe];simp +decide only[↓Em,wA]
 have f11:fe 11=.ptr (σ.next+3) 0:=by rw[hfe];simp +decide only[↓Em,wA]
 have f12:fe 12=.ptr (σ.next+4) 0:=by rw[hfe];simp +decide only[↓Em,wA]
 have f13:fe 13=.ptr (σ.next+(5+g)) 0:=by rw[hfe];simp +decide only[↓Em,eq_self]
 have y5:Y.heap σ.next=.cells (WV w A) 68 16 σ.next:=by rw[hY];simp +decide only[wA,↓reduceIte,Nat.reduceAdd,PC]
 have y10:Y.heap (σ.next+2)=.cells Hb 68 16 (σ.next+2):=by rw[hY];simp +decide only[wA,↓reduceIte,Nat.reduceAdd,PC];rfl
 have y11:∃ cs:List VV,cs.length=67/\Y.heap (σ.next+3)=.cells cs 160 67 (σ.next+3):=by
  refine⟨_,?_,by rw[hY];simp +decide only[wA,↓reduceIte,Nat.reduceAdd,PC];rfl⟩;rfl
 have y12:Y.heap (σ.next+4)=.cells (DZ.e s) 124 52 (σ.next+4):=by rw[hY];simp +decide only[wA,↓reduceIte,Nat.reduceAdd,PC]
 have y13:Y.heap (σ.next+(5+g))=.cells RL 160 67 (σ.next+(5+g)):=by rw[hY,hRL];simp +decide only[wA,↓reduceIte]
 have yl:σ.next<=Y.low:=by rw[hY];simp only[lW];omega
 have yn:σ.next+(5+g) < Y.next:=by rw[hY];simp only[lW];omega
 have yk:∀ j,j < σ.next->Y.heap j=σ.heap j:=λj hj=>by
  have u1:∀ x,(j=σ.next+x)=False:=λx=>eq_false dO
  have u2:(j=σ.next)=False:=eq_false dO;rw[hY];simp +decide only[wA,↓reduceIte,Nat.reduceAdd,u1,u2]
 clear hY hfe;obtain⟨cs11,hc11,y11⟩:=y11;refine El.freeze (d:=5) f5 y5 ?_;refine El.freeze (d:=12) (id:=σ.next+4) (by rw[D9 _ _ _ _ iF];exact f12) (by rw[Ec _ _ _ dO];exact y12) ?_;refine El.freeze (d:=13) (id:=σ.next+(5+g)) (by rw[D9 _ _ _ _ iF,D9 _ _ _ _ iF];exact f13) (by rw[Ec _ _ _ dO,Ec _ _ _ dO];exact y13) ?_;refine El.at (λfe2 X hfe hX=>?_);have g1:fe2 1=vi n:=by rw[hfe];simp +decide only[D9];exact f1
 have g5:fe2 5=.ep (WV w A) 0:=by rw[hfe];simp +decide only[D9,FQ]
 have g10:fe2 10=.ptr (σ.next+2) 0:=by rw[hfe];simp +decide only[D9];exact f10
 have g11:fe2 11=.ptr (σ.next+3) 0:=by rw[hfe];simp +decide only[D9];exact f11
 have g12:fe2 12=.ep (DZ.e s) 0:=by rw[hfe];simp +decide only[D9,FQ]
 have g13:fe2 13=.ep RL 0:=by rw[hfe];simp +decide only[FQ]
 have xk:∀ j,j≠σ.next->j≠σ.next+4->j≠σ.next+(5+g)->X.heap j=Y.heap j:=λj h1 h2 h3=>by rw[hX,Ec _ _ _ h3,Ec _ _ _ h2,Ec _ _ _ h1]
 have xn:X.next=Y.next:=by rw[hX];rfl
 have xl:σ.next<=X.low:=by rw[hX];simp only[Fj];omega
 clear hX hfe f1 f5 f10 f11 f12 f13;have x10:=(xk (σ.next+2) dO dO dO).trans y10;have x11:=(xk (σ.next+3) dO dO dO).trans y11;have hw:WR X b w A:=hr.D8 dO (λj hj=>by
  have:=(hr.lt hj).2;rw[xk j dO dO dO,yk j this])
 rw[show fe2=Hf fe2 13 (.ep RL 0) from (K2 g13).symm];refine El.of ?_;have allRL:FE RL=true:=by
  rw[hRL,Et,DZ.all,CC];simp only[HJ,Ia,G5,d1,d2,d3,d4,d5,d6]
 have d67:cs11.drop 67=[]:=Bj dO;have z16:List.drop 16 Hb=[]:=rfl;have tRL:RL.take 67=RL:=Aj dO;have lRL:(0+67<=RL.length)=True:=eq_true dO;have q49:((DZ.e s).drop 49).take 1=[vi s.waiting]:=rfl
 refine Zl (J9 g1 g5 g10 g11 g12 g13 x10 x11 (J7 @IY @GZ @tRL @lRL hRLl q49 @EG)) ?_
 have hnf:n < w.failures.length:=by rw[h.fal,<- h.nl];exact hn
 have hnt:n < w.traces.length:=by rw[h.trl,<- h.nl];exact hn
 have hfa:=h.fai _ (Ao hnf);have htr:=h.tr _ (Ao hnt);have hfl:=h.fl;have hol:=h.ol;have hcv:=h.cov;have hsent:=hres.sent;have hfails:=hres.fails;have hcovs:=hres.cov;have hv':NF R (.agg RL):=by rw[hRL];rw[rv2] at hv;exact hv
 refine Ey.any (QY w X dO hw n hn (Ah hnt) dO (Ah hnf) R hres.s.disk hres.s.voll dO dO dO dO s.waiting (.agg RL) hv') ?_;rintro _ F ⟨rfl,u1,u2,u3,u4⟩ u5 u6;refine F4.intro (λw hw=>?_) ?_
 ·simp only[FN,GA,if_true,AW,if_false,Aq,AK,or_false] at hw
  rcases hw with rfl | rfl | rfl
  ·exact Gi rfl (by simp +decide only[↓Em];rfl)
  ·exact Gi rfl (by simp +decide only[↓Em,ne_eq];rfl)
  ·exact Gi rfl (by simp +decide only[↓Em,ne_eq,g5];rfl)
 have hnA:∀ j,σ.next<=j->¬ A.has j:=λj hj hA2=>by have:=(hr.lt hA2).2;omega
 have v10:(X.join F).heap (σ.next+2)=.cells Hb 68 16 (σ.next+2):=(u4 _ dO (hnA _ dO)).trans x10;have v11:(X.join F).heap (σ.next+3)=.cells cs11 160 67 (σ.next+3):=(u4 _ dO (hnA _ dO)).trans x11
 refine Zl (J9 g1 g5 g10 g11 g12 g13 v10 v11 (J9 hc11 @allRL d67 z16 @IY @GZ @tRL @lRL (J3 hRLl q49 @EG))) ?_
 refine F4.intro (λw hw=>?_) ?_
 ·simp only[FN,GA,if_true,AW,if_false,Aq,AK,or_false] at hw
  rcases hw with rfl | rfl | rfl | rfl
  ·exact Gi rfl (by simp +decide only[↓Em,ne_eq];rfl)
  ·exact Gi rfl (by simp +decide only[↓Em];rfl)
  ·exact Gi rfl (by simp +decide only[↓Em,ne_eq];rfl)
  ·exact Gi rfl (by simp +decide only[↓Em,ne_eq,g5];rfl)
 refine Zl (J9 g1 g5 g10 g11 g12 g13 v10 v11 (J9 hc11 @allRL d67 z16 @IY @GZ @tRL @lRL (J3 hRLl q49 @EG))) ?_
 refine⟨_,rfl,hv',?_⟩;have hh:∀ j,j≠σ.next+2->j≠σ.next+3->(((X.join F).write (σ.next+2) (WV (Ht w n R s.waiting) A) 68 16 (σ.next+2)).write (σ.next+3) RL 160 67 (σ.next+3)).heap j=F.heap j:=λj h1 h2=>by rw[ET _ _ _ _ _ _ _ h2,ET _ _ _ _ _ _ _ h1];rfl
 refine⟨?_,?_,u3.D8 (Af _) (λj hj=>hh j (λe=>hnA _ dO hj) (λe=>hnA _ dO hj)),λj hj hne=>?_⟩
 ·show b<=min (min (min X.low F.low) (σ.next+2)) (σ.next+3)
  omega
 ·show σ.next<=F.next
  omega
 ·rw[hh j dO dO,u4 j dO hne,xk j dO dO dO]
  exact yk j hj
end
def MZ{α:Type}[DZ α]{l:List α}{n z:Nat}{x y:α}(hw:z=DZ.w α)(h:l[n]? = some x)(o:Nat)(v:VV)(ho:o+1<=z)(hv:D0 (DZ.e x) o [v]=DZ.e y):List.take (n * z+o) (D4 l)++v::List.drop (n * z+o+1) (D4 l)=D4 (l.set n y):=by
 obtain⟨hn,rfl⟩:=Am.1 h;subst hw;have hlen:n * DZ.w α+DZ.w α<=(D4 l).length:=by
  have:(n+1) * DZ.w α<=l.length * DZ.w α:=AL _ hn;rw[Bd,CY] at this;rw[ES];omega
 rw[<- Nr l n hn y,<- hv];unfold D0;obtain⟨p1,_⟩:=Rp (z:=DZ.w α) rfl (Ah hn);rw[<- p1];have q1:(List.take o (List.take (DZ.w α) (List.drop (n * DZ.w α) (D4 l)))++[v]++List.drop (o+[v].length) (List.take (DZ.w α) (List.drop (n * DZ.w α) (D4 l)))).length=DZ.w α:=by
  simp only[Ad,As,AI,Ag,Ap];omega
 rw[q1,List.take_add,CK,Bl dO,CJ,BV];simp only[AU,Cv,Ba,Ag,Ap,A8]
 congr 3
 have q2:n * DZ.w α+DZ.w α=n * DZ.w α+o+1+(DZ.w α - (o+1)):=dO
 have q3:∀ (L:List VV) (m k:Nat),List.take k (List.drop m L)++List.drop (m+k) L=List.drop m L:=λL m k=>by rw[<- BV,List.take_append_drop]
 rw[q2,<- Bv,q3]
def NF.cs{R:LB}{rv:VV}(h:NF R rv):∃ L,rv=.agg L/\L.length=67/\FE L=true/\L.take 67=L:=by
 obtain⟨o1,o2,o3,o4,o5,o6,rfl,⟨c1,d1⟩,⟨c2,d2⟩,⟨c3,d3⟩,⟨c4,d4⟩,⟨c5,d5⟩,⟨c6,d6⟩⟩:=h;have hl:(DZ.e R.s++JP (vl R.asks) (vl R.sent) R.replied R.value (vl R.fails) R.cause o1 o2 o3 o4 o5 o6 (vl R.covered)).length=67:=by rw[Ad,EG];rfl
 refine⟨_,rfl,hl,?_,Aj dO⟩;rw[Et,DZ.all,CC];unfold JP;simp only[HJ,Ia,G5,d1,d2,d3,d4,d5,d6]
def Acb(R:LB)(rv:VV):Prop:=∃ (L:List VV) (aV sV:VV),rv=.agg L/\L.length=67/\FE L=true/\(L.drop 52).take 1=[aV]/\(L.drop 53).take 1=[sV]/\Rd aV R.asks/\Rd sV R.sent
def NF.b{R:LB}{rv:VV}(h:NF R rv):Acb R rv:=by
 obtain⟨L,rfl,h1,h2,h3⟩:=h.cs;obtain⟨o1,o2,o3,o4,o5,o6,e,⟨c1,d1⟩,⟨c2,d2⟩,⟨c3,d3⟩,⟨c4,d4⟩,⟨c5,d5⟩,⟨c6,d6⟩⟩:=h;injection e with e
 refine⟨L,vl R.asks,vl R.sent,rfl,h1,h2,?_,?_,.inr (.inr rfl),.inr (.inr rfl)⟩
 ·rw[e,JO _ _ _ dO];rfl
 ·rw[e,JO _ _ _ dO];rfl
abbrev rE(σ:D1)(b:Nat)(x:E4 × LB)(A:Ig):VV->D1->Prop:=λr σ'=>∃ rv,r=.tup [.agg (WV x.1 A),rv]/\Acb x.2 rv/\WQ σ b x.1 A σ'
structure ExB(σ:D1)(b:Nat)(w:E4)(A:Ig)(cs:List VV)(Z:D1):Prop where
 low:b<=Z.low
 nx:σ.next+5<=Z.next
 w6:Z.heap (σ.next+2)=.cells Hb 68 16 (σ.next+2)
 w7:Z.heap (σ.next+3)=.cells cs 160 67 (σ.next+3)
 hc:cs.length=67
 wr:WR Z b w A
 fr:∀ j,j < σ.next->¬ A.has j->Z.heap j=σ.heap j
def WR.same{τ:D1}{b:Nat}{w w':E4}{A:Ig}(k:WR τ b w A)(e1:w'.nodes=w.nodes)(e2:w'.next=w.next)(e3:w'.failures=w.failures)(e4:w'.traces=w.traces):WR τ b w' A:=⟨by rw[e1];exact k.n,by rw[e2];exact k.x,by rw[e3];exact k.f,by rw[e4];exact k.t,k.nx,k.nf,k.nt,k.xf,k.xt,k.ft⟩
def ExB.fin{σ:D1}{b:Nat}{w w':E4}{A:Ig}{cs L:List VV}{Z F:D1}(h:ExB σ b w A cs Z)(hA:∀ j,A.has j->j < σ.next)(q:WQ Z b w' A F)(hb:b<=σ.next) :
  (Z.join F).heap (σ.next+2)=.cells Hb 68 16 (σ.next+2)/\(Z.join F).heap (σ.next+3)=.cells cs 160 67 (σ.next+3)/\
   WQ σ b w' A (((Z.join F).write (σ.next+2) (WV w' A) 68 16 (σ.next+2)).write (σ.next+3) L 160 67 (σ.next+3)):=by
 obtain⟨u1,u2,u3,u4⟩:=q;have hnx:=h.nx;have hlw:=h.low;have hnA:∀ j,σ.next<=j->¬ A.has j:=λj hj hA2=>by have:=hA j hA2;omega
 have hh:∀ j,j≠σ.next+2->j≠σ.next+3->(((Z.join F).write (σ.next+2) (WV w' A) 68 16 (σ.next+2)).write (σ.next+3) L 160 67 (σ.next+3)).heap j=F.heap j:=λj h1 h2=>by rw[ET _ _ _ _ _ _ _ h2,ET _ _ _ _ _ _ _ h1];rfl
 refine⟨(u4 _ dO (hnA _ dO)).trans h.w6,(u4 _ dO (hnA _ dO)).trans h.w7,?_,?_,u3.D8 (Af _) (λj hj=>hh j (λe=>hnA _ dO hj) (λe=>hnA _ dO hj)),λj hj hne=>?_⟩
 ·show b<=min (min (min Z.low F.low) (σ.next+2)) (σ.next+3)
  omega
 ·show σ.next<=F.next
  omega
 ·rw[hh j dO dO,u4 j dO hne]
  exact h.fr j hj hne
def rF(w:E4)(A:Ig)(x:List GF):List.take 9 (WV w A)++vl x::List.drop 10 (WV w A)=WV { w with flight:=x } A:=rfl
def gK(w:E4)(A:Ig)(x:List te):List.take 11 (WV w A)++vl x::List.drop 12 (WV w A)=WV { w with obs:=x } A:=rfl
def rG(w:E4)(A:Ig)(x:Int):List.take 15 (WV w A)++vi x::List.drop 16 (WV w A)=WV { w with steps:=x } A:=rfl
def RD(w:E4)(A:Ig)(n:Nat)(f:FZ->FZ):WV (Il w n f) A=WV w A:=xZ w A n _
def NZ:List.drop 16 Hb=[]:=rfl
section
variable [Prim Tryz.prog]
set_option maxHeartbeats 8000000 in
set_option maxRecDepth 100000 in
def AaA(w:E4)(h:JI w)(hst:w.steps < 5000){e:Fu}(la:List Gy)(hl:la.length<=100000){A:Ig}{b:Nat}(σ:D1)(hb:b<=σ.next)(hr:WR σ b w A){n:Nat}{s:FZ}(hs:w.nodes[n]? = some s)(hen:e.node=n)(h1:e.kind=3)(h2:s.up=true){m:GF}(h3:m∈w.flight)(h4:m.msg=e.msg) :
  VC Tryz.prog 58 [.agg (WV w A),.agg (DZ.e e),vl la] σ (rE σ b (Eh w e la) A):=by
 obtain⟨hn,hs'⟩:=Am.1 hs;have hi:=h.inv;have hk:0<=w.steps/\w.steps<=5000:=h.st;have hnd:=hi.node s (by rw[<- hs'];exact Ao hn);have hf:=hi.cfg.first
 have hnl:=hi.nl;have hnt:e.node.toNat=n:=by rw[hen];rfl
 have hsn:w.nodes.getD n Fl=s:=getD_some hs;have hfl:=hi.fl;have hol:=hi.ol;have hA:∀ j,A.has j->j < σ.next:=λj hj=>(hr.lt hj).2
 obtain⟨tN,qN,n1,n2,n3,zN⟩:=hr.n;rw[SY] at zN;obtain⟨e1,e2⟩:=Rp (z:=52) rfl hs;have a1:∀ x,(A.n=σ.next+x)=False:=λx=>eq_false dO
 have a2:(A.n=σ.next)=False:=eq_false dO;have a7:∀ x,(σ.next+x=A.n)=False:=λx=>eq_false dO
 have a8:(σ.next=A.n)=False:=eq_false dO;have b1:∀ x,(A.n < σ.next+x)=True:=λx=>eq_true dO
 have b2:(A.n < σ.next)=True:=eq_true n3;obtain⟨x,hx⟩:∃ x,JR e.msg w.flight=some x:=by
  cases hfd:JR e.msg w.flight with
  | some x=>exact⟨x,rfl⟩
  | none=>
   have:=CR.1 hfd m h3;simp[h4] at this
 obtain⟨p1,p2,p3,p4,p5,p6,p7⟩:=hi.evl x (Bs hx);obtain⟨w1,hw1⟩:∃ w1:E4,w1={ w with flight:=Gq e.msg w.flight }:=⟨_,rfl⟩
 have hi1:WI w1 w.steps (2 * w.steps):=by
  rw[hw1];exact { hi with evl:=λy hy=>hi.evl y (MB hy),fl:=by have:=LD w.flight e.msg;have:=hi.fl;dsimp only;omega,fs:=LC _ hi.fs }
 have hs1:w1.nodes[n]? = some s:=by rw[hw1];exact hs
 have ex1:GG w1 n (10+x.kind.toNat) (FG (FG (FG (λ_=>0) 3 x.msg.node) 4 x.a) 5 x.b) la=Eh w e la:=by
  unfold Eh;dsimp only;rw[if_neg dO,if_neg dO,if_pos h1,hnt,hx,hw1]<;>rfl
 have hge:(JR e.msg w.flight).getD ⟨Jj,0,0,0,0⟩=x:=by rw[hx];rfl
 have w10:G0 (10+x.kind)=((10+x.kind.toNat:Nat):Int):=by rw[Er dO dO];omega
 rw[<- ex1];refine Ea XF58 ?_
 (repeat' (first | refine Zl (J9 @xf58.eq_1 @IY @Iw h1 hen hge w10 @rF (J6 @EM @Eo a1 a2 a7 a8)) ?_ | refine Zz0 (Nv w.flight e.msg dO) λgn=>?_ | refine Zz0 (QU w.flight e.msg dO) λgn=>?_ | fail))
 refine OJ (λZ hZ=>?_);have zk:∀ j,j < σ.next->Z.heap j=σ.heap j:=λj hj=>by
  have u1:∀ x,(j=σ.next+x)=False:=λx=>eq_false dO
  have u2:(j=σ.next)=False:=eq_false dO;rw[hZ];simp +decide only[wA,↓reduceIte,Nat.reduceAdd,u1,u2]
 have z7:∃ cs:List VV,cs.length=67/\Z.heap (σ.next+3)=.cells cs 160 67 (σ.next+3):=by
  refine⟨_,?_,by rw[hZ];simp +decide only[wA,↓reduceIte,Nat.reduceAdd,PC];rfl⟩;rfl
 obtain⟨cs,hcs,z7⟩:=z7;have zB:ExB σ b w1 A cs Z:=by
  have hx:σ.next+5<=Z.next:=by rw[hZ];simp +decide only[wA,Nat.reduceAdd]<;>omega
  refine⟨?_,hx,?_,z7,hcs,?_,λj hj hne=>zk j hj⟩
  ·rw[hZ];simp only[lW];omega
  ·rw[hZ];simp +decide only[wA,↓reduceIte,Nat.reduceAdd,PC];rfl
  ·rw[hw1];exact (hr.D8 dO (λj hj=>zk j (hA j hj))).same rfl rfl rfl rfl
 clear hZ;have hznx:=zB.nx;subst hw1;refine Ey.any (Mb _ hi1 ⟨hk.1,hst⟩ dO Z dO zB.wr hs1 h2 (hd:=10+x.kind.toNat) dO (nm:=FG (FG (FG (λ_=>0) 3 x.msg.node) 4 x.a) 5 x.b) (Fs (Fs (Fs (λ_ _=>Iq) p7) p5) p6) la hl) ?_;rintro _ F ⟨rv,rfl,hv,hq⟩ q5 q6;obtain⟨L,rfl,hL1,hL2,hL3⟩:=hv.cs;have d67:cs.drop 67=[]:=Bj dO;obtain⟨v6,v7,hfin⟩:=zB.fin (L:=L) hA hq hb
 refine Zl (J9 v6 v7 @IY hL1 hL2 hL3 hcs d67 @NZ) ?_
 exact⟨_,rfl,hv.b,hfin⟩
end
section
variable [Prim Tryz.prog]
set_option maxHeartbeats 8000000 in
set_option maxRecDepth 100000 in
def AaB(w:E4)(h:JI w)(hst:w.steps < 5000){e:Fu}(la:List Gy)(hl:la.length<=100000){A:Ig}{b:Nat}(σ:D1)(hb:b<=σ.next)(hr:WR σ b w A){n:Nat}{s:FZ}(hs:w.nodes[n]? = some s)(hen:e.node=n)(h1:e.kind=2)(h2:s.up=true)(h3:s.waiting < 0)(h4:0<=e.arg)(h5:e.arg < w.c.requests.length) :
  VC Tryz.prog 58 [.agg (WV w A),.agg (DZ.e e),vl la] σ (rE σ b (Eh w e la) A):=by
 obtain⟨hn,hs'⟩:=Am.1 hs;have hi:=h.inv;have hk:0<=w.steps/\w.steps<=5000:=h.st;have hnd:=hi.node s (by rw[<- hs'];exact Ao hn);have hf:=hi.cfg.first
 have hnl:=hi.nl;have hnt:e.node.toNat=n:=by rw[hen];rfl
 have hsn:w.nodes.getD n Fl=s:=getD_some hs;have hfl:=hi.fl;have hol:=hi.ol;have hA:∀ j,A.has j->j < σ.next:=λj hj=>(hr.lt hj).2
 obtain⟨tN,qN,n1,n2,n3,zN⟩:=hr.n;rw[SY] at zN;obtain⟨e1,e2⟩:=Rp (z:=52) rfl hs;have a1:∀ x,(A.n=σ.next+x)=False:=λx=>eq_false dO
 have a2:(A.n=σ.next)=False:=eq_false dO;have a7:∀ x,(σ.next+x=A.n)=False:=λx=>eq_false dO
 have a8:(σ.next=A.n)=False:=eq_false dO;have b1:∀ x,(A.n < σ.next+x)=True:=λx=>eq_true dO
 have b2:(A.n < σ.next)=True:=eq_true n3;obtain⟨q,hq,hqm⟩:∃ q,w.c.requests[e.arg.toNat]? = some q/\q∈w.c.requests:=⟨w.c.requests[e.arg.toNat]' dO,Ah _,Ao _⟩
 have hqe:w.c.requests[e.arg.toNat]' dO=q:=(Am.1 hq).2;obtain⟨r1,r2,r3,r4,r5⟩:=hi.cfg.req q hqm;have hrq:=hi.cfg.reqs;have hnx:n < w.next.length:=by rw[hi.xl,<- hnl];exact hn
 obtain⟨w1,hw1⟩:∃ w1:E4,w1={ Il w n (λs=>{ s with waiting:=e.arg }) with next:=w.next.set n (E8 w.c n e.arg),obs:=w.obs++[⟨false,e.arg,n,(w.nodes.getD n Fl).epoch,0⟩] }:=⟨_,rfl⟩
 have hnn:Iy w.c w.steps { s with waiting:=e.arg }:={ hnd with wait:=⟨ab0,h5⟩ }
 have hi1:WI w1 w.steps (2 * w.steps+1):=by
  have h0:=Kg hi hn (f:=λs=>{ s with waiting:=e.arg }) (by rw[hsn];exact hnn);rw[hw1];refine { h0 with xl:=?_,next:=λx hx=>?_,ol:=?_ }
  ·show (w.next.set _ _).length=_;rw[A7];exact hi.xl
  ·rcases M8 hx with hx | rfl
   ·exact hi.next x hx
   ·have:=LF w.c n e.arg;exact⟨this.1,this.2.2⟩
  ·show ((w.obs++[_]).length:Int)<=_
   rw[Ad,Br];have:=hi.ol;omega
 have hs1:w1.nodes[n]? = some { s with waiting:=e.arg }:=by
  rw[hw1];show (w.nodes.set n _)[n]? = _
  rw[KJ hn,hsn]
 have ex1:GG w1 n 1 (FG (FG (FG (FG (λ_=>0) 6 e.arg) 7 q.op) 8 q.key) 4 q.arg) la=Eh w e la:=by
  unfold Eh;dsimp only;rw[if_neg dO,if_pos h1,hnt,getD_some hq,hw1]
 rw[<- ex1];obtain⟨tX,qX,m1,m2,m3,zX⟩:=hr.x;rw[show DZ.w Int=1 from rfl] at zX;have hnxx:=hr.nx;have x1:∀ x,(A.x=σ.next+x)=False:=λx=>eq_false dO
 have x2:(A.x=σ.next)=False:=eq_false dO;have x3:∀ x,(σ.next+x=A.x)=False:=λx=>eq_false dO
 have x4:(σ.next=A.x)=False:=eq_false dO;have x5:(A.x=A.n)=False:=eq_false (BR hnxx);have x6:(A.n=A.x)=False:=eq_false hnxx;have x7:∀ x,(A.x < σ.next+x)=True:=λx=>eq_true dO
 obtain⟨i1,i2⟩:=Y6 (z:=52) rfl hs 2 1 iF;obtain⟨i3,i4⟩:=Y6 (z:=52) rfl hs 49 1 iF;have i5:((DZ.e s).drop 2).take 1=[vi s.epoch]:=rfl;have i6:=MZ (z:=52) (l:=w.nodes) rfl hs (y:={ s with waiting:=e.arg }) 49 (vi e.arg) iF rfl;have i7:=rz (l:=w.next) hnx (E8 w.c n e.arg);have i8:(n+1<=(D4 w.next).length)=True:=(Aas (l:=w.next) rfl (Ah hnx)).2;have ha:=QW w.c n e.arg ⟨dO,dO⟩ dO;refine Ea XF58 ?_
 refine Zl (J9 @xf58.eq_1 @IY @Iw h1 hen hqe @zN @zX (J9 i1 i2 i3 i4 i5 i6 i7 i8 (J9 x1 x2 x3 x4 x5 x6 x7 b1 (J8 b2 @gK @EM @Eo a1 a2 a7 a8)))) ?_
 refine D5.Aay (α:=te) (b:=σ.next) (m:=w.obs) (Gf _ _ rfl) rfl (by unfold reach;omega) iF ah0 (λr gn lo lv ga l1 l2 l3=>?_);simp only[lW] at l1 l2
 (repeat' (first | refine Zl (J9 @IY @Iw h1 hen hqe @zN @zX i1 (J9 i2 i3 i4 i5 i6 i7 i8 x1 (J9 x2 x3 x4 x5 x6 x7 b1 b2 (J7 @gK @EM @Eo a1 a2 a7 a8)))) ?_ | refine ZE trivial [(⟨false,e.arg,n,s.epoch,0⟩:te)] ?_ | fail))
 refine D5.wq (α:=te) (b:=σ.next) (l:=w.obs) (m:=[⟨false,e.arg,n,s.epoch,0⟩]) ga.Eg (EN _ _ _ rfl) rfl (by unfold reach;simp;omega) iF ah0 (λgn2 lo2 lv2 l4 l5 l6=>?_);simp only[lW] at l4 l5
 (repeat' (first | refine Zl (J9 @IY @Iw h1 hen hqe @zN @zX i1 (J9 i2 i3 i4 i5 i6 i7 i8 x1 (J9 x2 x3 x4 x5 x6 x7 b1 b2 (J7 @gK @EM @Eo a1 a2 a7 a8)))) ?_ | refine Zz0 ha λgn=>?_ | fail))
 refine OJ (λZ hZ=>?_);have zk:∀ j,j < σ.next->j≠A.n->j≠A.x->Z.heap j=σ.heap j:=λj hj hq1 hq2=>by
  have u1:∀ x,(j=σ.next+x)=False:=λx=>eq_false dO
  have u2:(j=σ.next)=False:=eq_false dO;have u3:(j=A.n)=False:=eq_false hq1;have u4:(j=A.x)=False:=eq_false hq2;rw[hZ];simp +decide only[wA,↓reduceIte,Nat.reduceAdd,u1,u2,u3,u4]
 have zN2:Z.heap A.n=.cells (D4 (w.nodes.set n { s with waiting:=e.arg })) tN 52 qN:=by rw[hZ];simp +decide only[wA,↓reduceIte,a1,x6]
 have zX2:Z.heap A.x=.cells (D4 (w.next.set n (E8 w.c n e.arg))) tX 1 qX:=by rw[hZ];simp +decide only[wA,↓reduceIte,x1]
 have hWV:WV w1 A=WV { w with obs:=w.obs++[⟨false,e.arg,n,s.epoch,0⟩] } A:=by
  rw[hw1,hsn];unfold Il WV;simp only[A7]
 have z7:∃ cs:List VV,cs.length=67/\Z.heap (σ.next+3)=.cells cs 160 67 (σ.next+3):=by
  refine⟨_,?_,by rw[hZ];simp +decide only[wA,↓reduceIte,Nat.reduceAdd,a7,x3];rfl⟩;rfl
 obtain⟨cs,hcs,z7⟩:=z7;have zB:ExB σ b w1 A cs Z:=by
  have hx:σ.next+5<=Z.next:=by rw[hZ];simp +decide only[wA,Nat.reduceAdd]<;>omega
  refine⟨?_,hx,?_,z7,hcs,?_,λj hj hne=>zk j hj (λe=>hne (.inl e)) (λe=>hne (.inr (.inl e)))⟩
  ·rw[hZ];simp only[lW];omega
  ·rw[hZ];simp +decide only[wA,↓reduceIte,Nat.reduceAdd,a7,x3];rfl
  ·have hxn:σ.next<=Z.next:=dO
   have k1:WR Z b { w with nodes:=w.nodes.set n { s with waiting:=e.arg },next:=w.next.set n (E8 w.c n e.arg) } A:={
    n:=⟨tN,qN,n1,n2,dO,zN2⟩
    x:=⟨tX,qX,m1,m2,dO,zX2⟩
    f:=hr.f.D8 hxn (zk _ (hA _ (.inr (.inr (.inl rfl)))) (BR hr.nf) (BR hr.xf))
    t:=hr.t.D8 hxn (zk _ (hA _ (.inr (.inr (.inr rfl)))) (BR hr.nt) (BR hr.xt))
    nx:=hr.nx,nf:=hr.nf,nt:=hr.nt,xf:=hr.xf,xt:=hr.xt,ft:=hr.ft }
   rw[hw1];refine k1.same ?_ rfl rfl rfl;show w.nodes.set n _=_
   rw[hsn]
 clear hZ;have hznx:=zB.nx;rw[<- hWV];refine Ey.any (Mb _ hi1 ⟨hk.1,hst⟩ dO Z dO zB.wr hs1 h2 (hd:=1) iF (nm:=FG (FG (FG (FG (λ_=>0) 6 e.arg) 7 q.op) 8 q.key) 4 q.arg) (Fs (Fs (Fs (Fs (λ_ _=>Iq) (by unfold D2;omega)) r3) r4) r5) la hl) ?_;rintro _ F ⟨rv,rfl,hv,hq⟩ q5 q6;obtain⟨L,rfl,hL1,hL2,hL3⟩:=hv.cs;have d67:cs.drop 67=[]:=Bj dO;obtain⟨v6,v7,hfin⟩:=zB.fin (L:=L) hA hq hb
 refine Zl (J9 v6 v7 @IY hL1 hL2 hL3 hcs d67 @NZ) ?_
 exact⟨_,rfl,hv.b,hfin⟩
end
section
variable [Prim Tryz.prog]
set_option maxHeartbeats 8000000 in
set_option maxRecDepth 100000 in
def AaC(w:E4)(h:JI w)(hst:w.steps < 5000){e:Fu}(la:List Gy)(hl:la.length<=100000){A:Ig}{b:Nat}(σ:D1)(hb:b<=σ.next)(hr:WR σ b w A){n:Nat}{s:FZ}(hs:w.nodes[n]? = some s)(hen:e.node=n)(h1:e.kind=4)(h2:s.up=true)(h3:e.arg∈s.timers) :
  VC Tryz.prog 58 [.agg (WV w A),.agg (DZ.e e),vl la] σ (rE σ b (Eh w e la) A):=by
 obtain⟨hn,hs'⟩:=Am.1 hs;have hi:=h.inv;have hk:0<=w.steps/\w.steps<=5000:=h.st;have hnd:=hi.node s (by rw[<- hs'];exact Ao hn);have hf:=hi.cfg.first
 have hnl:=hi.nl;have hnt:e.node.toNat=n:=by rw[hen];rfl
 have hsn:w.nodes.getD n Fl=s:=getD_some hs;have hfl:=hi.fl;have hol:=hi.ol;have hA:∀ j,A.has j->j < σ.next:=λj hj=>(hr.lt hj).2
 obtain⟨tN,qN,n1,n2,n3,zN⟩:=hr.n;rw[SY] at zN;obtain⟨e1,e2⟩:=Rp (z:=52) rfl hs;have a1:∀ x,(A.n=σ.next+x)=False:=λx=>eq_false dO
 have a2:(A.n=σ.next)=False:=eq_false dO;have a7:∀ x,(σ.next+x=A.n)=False:=λx=>eq_false dO
 have a8:(σ.next=A.n)=False:=eq_false dO;have b1:∀ x,(A.n < σ.next+x)=True:=λx=>eq_true dO
 have b2:(A.n < σ.next)=True:=eq_true n3;have ht:=hnd.tim _ h3;have htl:=hnd.timl;obtain⟨w1,hw1⟩:∃ w1:E4,w1=Il w n λs=>{ s with timers:=s.timers.filter λk=>decide (k≠e.arg) }:=⟨_,rfl⟩
 have hnn:Iy w.c w.steps { s with timers:=s.timers.filter λk=>decide (k≠e.arg) }:=
  { hnd with timl:=An (Bh _ _) hnd.timl,tim:=λt ht=>hnd.tim t (Bz.1 ht).1,tims:=CF _ hnd.tims }
 have hi1:WI w1 w.steps (2 * w.steps):=by
  rw[hw1];exact Kg hi hn (by rw[hsn];exact hnn)
 have hs1:w1.nodes[n]? = some { s with timers:=s.timers.filter λk=>decide (k≠e.arg) }:=by
  rw[hw1];show (w.nodes.set n _)[n]? = _
  rw[KJ hn,hsn]
 have ex1:GG w1 n (2+e.arg.toNat) (λ_=>0) la=Eh w e la:=by
  unfold Eh;dsimp only;rw[if_neg dO,if_neg dO,if_neg dO,if_pos h1,hnt,hw1]
 rw[<- ex1];obtain⟨i1,i2⟩:=Y6 (z:=52) rfl hs 7 1 iF;have i5:((DZ.e s).drop 7).take 1=[vl s.timers]:=rfl;have w2:G0 (2+e.arg)=((2+e.arg.toNat:Nat):Int):=by rw[Er dO dO];omega
 refine HU XF58 (λN=>?_);unfold xf58;dsimp only;refine El.seq (El.of ?_)
 refine Zl (J9 @IY @Iw h1 hen @zN i1 i2 i5 (J8 b1 b2 @EM @Eo a1 a2 a7 a8)) ?_
 refine El.seq (El.of ?_)
 refine Zl (J9 @IY @Iw h1 hen @zN i1 i2 i5 (J8 b1 b2 @EM @Eo a1 a2 a7 a8)) ?_
 refine El.seq (El.of ?_)
 refine Zl (J9 @IY @Iw h1 hen @zN i1 i2 i5 (J8 b1 b2 @EM @Eo a1 a2 a7 a8)) ?_
 refine El.seq ?_;refine El.seq (El.of ?_)
 refine Zl (J9 @IY @Iw h1 hen @zN i1 i2 i5 (J8 b1 b2 @EM @Eo a1 a2 a7 a8)) ?_
 refine El.block ?_;refine El.seq (El.of ?_)
 refine Zl (J9 @IY @Iw h1 hen @zN i1 i2 i5 (J8 b1 b2 @EM @Eo a1 a2 a7 a8)) ?_
 refine El.jz (by simp +decide only[↓Em,eq_self]) ?_;refine El.seq (El.of ?_)
 refine Zl (J9 @IY @Iw h1 hen @zN i1 i2 i5 (J8 b1 b2 @EM @Eo a1 a2 a7 a8)) ?_
 refine El.jz (by simp +decide only[↓Em,eq_self]) ?_;refine El.seq (El.of ?_)
 refine Zl (J9 @IY @Iw h1 hen @zN i1 i2 i5 (J8 b1 b2 @EM @Eo a1 a2 a7 a8)) ?_
 refine El.jz (by simp +decide only[↓Em,eq_self]) ?_;refine El.seq (El.of ?_)
 refine Zl (J9 @IY @Iw h1 hen @zN i1 i2 i5 (J8 b1 b2 @EM @Eo a1 a2 a7 a8)) ?_
 refine El.rC (by simp +decide only[↓Em,eq_self]) ?_;refine El.seq (El.of ?_)
 refine Zl (J9 @IY @Iw h1 hen @zN i1 i2 i5 (J8 b1 b2 @EM @Eo a1 a2 a7 a8)) ?_
 refine El.seq (El.of ?_)
 refine Zl (J9 @IY @Iw h1 hen @zN i1 i2 i5 (J8 b1 b2 @EM @Eo a1 a2 a7 a8)) ?_
 refine Hw (λY hY=>?_);have yW:Y.heap σ.next=.cells (WV w A) 68 16 σ.next:=by rw[hY];simp +decide only[wA,↓reduceIte,Nat.reduceAdd]
 have yE:Y.heap (σ.next+1)=.cells (DZ.e e) 74 8 (σ.next+1):=by rw[hY];simp +decide only[wA,↓reduceIte,Nat.reduceAdd,h1,hen]
 have y6:Y.heap (σ.next+2)=.cells Hb 68 16 (σ.next+2):=by rw[hY];simp +decide only[wA,↓reduceIte,Nat.reduceAdd];rfl
 have y7:∃ cs:List VV,cs.length=67/\Y.heap (σ.next+3)=.cells cs 160 67 (σ.next+3):=by
  refine⟨_,?_,by rw[hY];simp +decide only[wA,↓reduceIte,Nat.reduceAdd];rfl⟩;rfl
 have y9:Y.heap (σ.next+4)=.cells (Gz 9 λ_=>0) 190 9 (σ.next+4):=by rw[hY];simp +decide only[wA,↓reduceIte,Nat.reduceAdd];rfl
 have yN:Y.heap A.n=.cells (D4 w.nodes) tN 52 qN:=by rw[hY];simp +decide only[wA,↓reduceIte,Nat.reduceAdd,a1,a2];exact zN
 have yk:∀ j,j < σ.next->Y.heap j=σ.heap j:=λj hj=>by
  have u1:∀ x,(j=σ.next+x)=False:=λx=>eq_false dO
  have u2:(j=σ.next)=False:=eq_false dO;rw[hY];simp +decide only[wA,↓reduceIte,Nat.reduceAdd,u1,u2]
 have yl:σ.next<=Y.low:=by rw[hY];simp only[lW];omega
 have yn:σ.next+5<=Y.next:=by rw[hY];simp only[lW];omega
 obtain⟨cs,hcs,y7⟩:=y7;clear hY;have hst0:=hst;obtain⟨FL,hFL⟩:∃ FL:List Int->List Int,FL=λl=>l.filter λk=>decide (k≠e.arg):=⟨_,rfl⟩
 have hst:∀ i (hi:i < s.timers.length),FL (s.timers.take (i+1))=if s.timers[i]=e.arg then FL (s.timers.take i) else FL (s.timers.take i)++[s.timers[i]]:=λi hi=>by
  rw[hFL];show List.filter _ _=if s.timers[i]=e.arg then List.filter _ _ else List.filter _ _++_
  rw[Bn,Ah hi,Option.toList,Cc];split
  ·rename_i hq;simp[hq]
  ·rename_i hq;simp[hq]
 refine Ek 1 (λm fe Z=>fe 2=vl la/\fe 3=.ptr σ.next 0/\fe 4=.ptr (σ.next+1) 0/\fe 6=.ptr (σ.next+2) 0/\fe 7=.ptr (σ.next+3) 0/\fe 8=vi n/\fe 9=.ptr (σ.next+4) 0/\σ.next<=Z.low/\Y.next<=Z.next/\Z.heap=Y.heap/\∃ (i:Nat) (av:VV),fe 16=vi i/\fe 15=av/\m+i=s.timers.length/\App Z σ.next av (FL (s.timers.take i)))
  (λfe Z=>fe 2=vl la/\fe 3=.ptr σ.next 0/\fe 4=.ptr (σ.next+1) 0/\fe 6=.ptr (σ.next+2) 0/\fe 7=.ptr (σ.next+3) 0/\fe 8=vi n/\fe 9=.ptr (σ.next+4) 0/\σ.next<=Z.low/\Y.next<=Z.next/\Z.heap=Y.heap/\∃ (av:VV),fe 15=av/\App Z σ.next av (FL s.timers)) s.timers.length ?_ ?_ ?_
 ·refine Zl hen ?_
  exact⟨yl,0,_,rfl,rfl,rfl,by rw[hFL];exact App.nil _ _⟩
 ·rintro m fe Z ⟨f2,f3,f4,f6,f7,f8,f9,zl,zn,zh,i,av,f16,f15,hm,ha⟩
  have hlen:(FL (s.timers.take i)).length<=s.timers.length:=by rw[hFL];refine An (Bh _ _) ?_;rw[As];omega
  have v1:(A.n < Z.next)=True:=eq_true dO;have v2:(σ.next < Z.next)=True:=eq_true dO;have v3:(σ.next+1 < Z.next)=True:=eq_true dO
  (repeat' (first | refine Zl (J9 f2 f3 f4 f6 f7 f8 f9 f15 (J9 f16 zh @yW @yE @yN @IY @Iw h1 (J9 hen i1 i2 i5 v1 v2 v3 a1 (J3 a2 a7 a8)))) ?_ | refine Zb (λ_ gd=>?_) λ_ gd=>?_ | refine ZE trivial [((s.timers[i]' dO):Int)] ?_ | refine ZP (zp Int σ.next) λgt gn glo glv ga g1 g2 g3=>?_ | fail))
  ·refine⟨m - 1,dO,dO,dO,i+1,_,Fv dO,rfl,dO,?_⟩
   rw[hst i dO,if_neg IF];exact ga
  ·refine⟨m - 1,dO,dO,dO,i+1,_,Fv dO,rfl,dO,?_⟩
   rw[hst i dO,if_pos dO];exact ha
  ·obtain rfl:i=s.timers.length:=dO
   rw[BK] at ha;exact⟨zl,zn,_,rfl,ha⟩
 ·rintro fe Z ⟨f2,f3,f4,f6,f7,f8,f9,zl,zn,zh,av,f15,ha⟩
  have hlen:(FL s.timers).length<=s.timers.length:=by rw[hFL];exact Bh _ _
  refine Zl (J7 f2 f3 f4 f6 f7 f8 f9) ?_
  refine El.fg 15 (v:=vl (FL s.timers)) (by rw[f15];exact ha.fg) ?_;refine El.of ?_;have v1:(A.n < Z.next)=True:=eq_true dO;have i6:=MZ (z:=52) (l:=w.nodes) rfl hs (y:={ s with timers:=FL s.timers }) 7 (vl (FL s.timers)) iF rfl
  refine Zl (J9 f2 f3 f4 f6 f7 f8 f9 zh (J9 @yW @yE @yN y9 @IY @Iw h1 hen (J9 i1 i2 i5 i6 v1 w2 @EM @Eo (J4 a1 a2 a7 a8)))) ?_
  refine OJ (λX hZ=>?_);have xk0:∀ j,j≠A.n->X.heap j=Y.heap j:=λj hj=>by rw[hZ,ET _ _ _ _ _ _ _ hj,zh]
  have xN:X.heap A.n=.cells (D4 (w.nodes.set n { s with timers:=FL s.timers })) tN 52 qN:=by rw[hZ,EY]
  have xl:b<=X.low:=by rw[hZ];simp only[H5];omega
  have xn:Y.next<=X.next:=by rw[hZ];simp only[HR];omega
  clear hZ;have hWV:WV w1 A=WV w A:=by rw[hw1,RD]
  have zB:ExB σ b w1 A cs X:=by
   refine⟨xl,dO,(xk0 _ dO).trans y6,(xk0 _ dO).trans y7,hcs,?_,λj hj hne=>(xk0 j (λe=>hne (.inl e))).trans (yk j hj)⟩;rw[hw1];unfold Il;rw[hsn];refine hr.Il (t:=tN) (q:=qN) ⟨n1,n2⟩ ?_ dO (λj hj hne=>(xk0 j hne).trans (yk j (hA j hj))) rfl rfl rfl;rw[hFL] at xN;exact xN
  have hznx:=zB.nx;rw[<- hWV];refine Ey.any (Mb w1 hi1 ⟨hk.1,hst0⟩ dO X dO zB.wr hs1 h2 (hd:=2+e.arg.toNat) dO (nm:=λ_=>0) (λ_ _=>Iq) la hl) ?_;rintro _ F ⟨rv,rfl,hv,hq⟩ q5 q6;obtain⟨L,rfl,hL1,hL2,hL3⟩:=hv.cs;have d67:cs.drop 67=[]:=Bj dO;obtain⟨v6,v7,hfin⟩:=zB.fin (L:=L) hA hq hb
  refine Zl (J9 f2 f3 f4 f6 f7 f8 f9 v6 (J8 v7 @IY hL1 hL2 hL3 hcs d67 @NZ)) ?_
  exact⟨_,rfl,hv.b,hfin⟩
end
section
variable [Prim Tryz.prog]
set_option maxHeartbeats 8000000 in
set_option maxRecDepth 100000 in
def AaD(w:E4)(h:JI w)(hst:w.steps < 5000){e:Fu}(la:List Gy)(hl:la.length<=100000){A:Ig}{b:Nat}(σ:D1)(hb:b<=σ.next)(hr:WR σ b w A){n:Nat}{s:FZ}(hs:w.nodes[n]? = some s)(hen:e.node=n)(h1:e.kind=5)  :
  VC Tryz.prog 58 [.agg (WV w A),.agg (DZ.e e),vl la] σ (rE σ b (Eh w e la) A):=by
 obtain⟨hn,hs'⟩:=Am.1 hs;have hi:=h.inv;have hk:0<=w.steps/\w.steps<=5000:=h.st;have hnd:=hi.node s (by rw[<- hs'];exact Ao hn);have hf:=hi.cfg.first
 have hnl:=hi.nl;have hnt:e.node.toNat=n:=by rw[hen];rfl
 have hsn:w.nodes.getD n Fl=s:=getD_some hs;have hfl:=hi.fl;have hol:=hi.ol;have hA:∀ j,A.has j->j < σ.next:=λj hj=>(hr.lt hj).2
 obtain⟨tN,qN,n1,n2,n3,zN⟩:=hr.n;rw[SY] at zN;obtain⟨e1,e2⟩:=Rp (z:=52) rfl hs;have a1:∀ x,(A.n=σ.next+x)=False:=λx=>eq_false dO
 have a2:(A.n=σ.next)=False:=eq_false dO;have a7:∀ x,(σ.next+x=A.n)=False:=λx=>eq_false dO
 have a8:(σ.next=A.n)=False:=eq_false dO;have b1:∀ x,(A.n < σ.next+x)=True:=λx=>eq_true dO
 have b2:(A.n < σ.next)=True:=eq_true n3;have ex1:(Il { w with flight:=Gq e.msg w.flight } n λs=>{ s with dropped:=s.dropped+1 },Xn)=Eh w e la:=by
  unfold Eh;dsimp only;rw[if_neg dO,if_neg dO,if_neg dO,if_neg dO,if_pos h1,hnt]
 rw[<- ex1];have hdr:=hnd.drop;obtain⟨i1,i2⟩:=Y6 (z:=52) rfl hs 50 1 iF;have i5:((DZ.e s).drop 50).take 1=[vi s.dropped]:=rfl;have i6:=MZ (z:=52) (l:=w.nodes) rfl hs (y:={ s with dropped:=s.dropped+1 }) 50 (vi (s.dropped+1)) iF rfl;have w1:G0 (s.dropped+1)=s.dropped+1:=Er dO dO;refine Ea XF58 ?_
 (repeat' (first | refine Zl (J9 @xf58.eq_1 @IY @Iw h1 hen @zN i1 i2 (J9 i5 i6 w1 b1 b2 @rF a1 a2 (J2 a7 a8))) ?_ | refine Zz0 (QU w.flight e.msg dO) λgn=>?_ | fail))
 unfold rE;dsimp only;rw[RD];refine⟨_,rfl,⟨_,EA,EA,rfl,rfl,rfl,rfl,rfl,.inl ⟨rfl,rfl⟩,.inl ⟨rfl,rfl⟩⟩,?_⟩
 ·refine rB λF hF=>?_
  have hk:∀ j,j < σ.next->j≠A.n->F.heap j=σ.heap j:=λj hj hne=>by
   have q1:∀ x,(j=σ.next+x)=False:=λx=>eq_false dO
   have q2:(j=σ.next)=False:=eq_false dO;have q3:(j=A.n)=False:=eq_false hne;rw[hF];simp +decide only[wA,↓reduceIte,Nat.reduceAdd,q1,q2,q3]
  have hlo:b<=F.low:=by rw[hF];simp only[lW];omega
  have hx:σ.next<=F.next:=by rw[hF];simp only[lW];omega
  have hc:F.heap A.n=.cells (D4 (w.nodes.set n { s with dropped:=s.dropped+1 })) tN 52 qN:=by
   rw[hF];simp +decide only[wA,↓reduceIte,a1]
  have hsn2:({ w with flight:=Gq e.msg w.flight }:E4).nodes.getD n Fl=s:=hsn;refine⟨hlo,hx,hr.Il (t:=tN) (q:=qN) ⟨n1,n2⟩ ?_ hx (λj hj hne=>hk j (hA j hj) hne) rfl rfl rfl,λj hj hne=>hk j hj λe=>hne (.inl e)⟩;unfold Il;dsimp only;rw[hsn2];exact hc
end
section
variable [Prim Tryz.prog]
set_option maxHeartbeats 8000000 in
set_option maxRecDepth 100000 in
def AaE(w:E4)(h:JI w)(hst:w.steps < 5000){e:Fu}(la:List Gy)(hl:la.length<=100000){A:Ig}{b:Nat}(σ:D1)(hb:b<=σ.next)(hr:WR σ b w A){n:Nat}{s:FZ}(hs:w.nodes[n]? = some s)(hen:e.node=n)(h1:e.kind=6)  :
  VC Tryz.prog 58 [.agg (WV w A),.agg (DZ.e e),vl la] σ (rE σ b (Eh w e la) A):=by
 obtain⟨hn,hs'⟩:=Am.1 hs;have hi:=h.inv;have hk:0<=w.steps/\w.steps<=5000:=h.st;have hnd:=hi.node s (by rw[<- hs'];exact Ao hn);have hf:=hi.cfg.first
 have hnl:=hi.nl;have hnt:e.node.toNat=n:=by rw[hen];rfl
 have hsn:w.nodes.getD n Fl=s:=getD_some hs;have hfl:=hi.fl;have hol:=hi.ol;have hA:∀ j,A.has j->j < σ.next:=λj hj=>(hr.lt hj).2
 obtain⟨tN,qN,n1,n2,n3,zN⟩:=hr.n;rw[SY] at zN;obtain⟨e1,e2⟩:=Rp (z:=52) rfl hs;have a1:∀ x,(A.n=σ.next+x)=False:=λx=>eq_false dO
 have a2:(A.n=σ.next)=False:=eq_false dO;have a7:∀ x,(σ.next+x=A.n)=False:=λx=>eq_false dO
 have a8:(σ.next=A.n)=False:=eq_false dO;have b1:∀ x,(A.n < σ.next+x)=True:=λx=>eq_true dO
 have b2:(A.n < σ.next)=True:=eq_true n3;have hdb:=hnd.dbl;obtain⟨F0,hF0⟩:∃ F0,F0=(match JR e.msg w.flight with
   | none=>[]
   | some m=>if TO { e.msg with copy:=s.doubled+1 } w.flight then [] else Oa { m with msg:={ m.msg with copy:=s.doubled+1 } } w.flight):=⟨_,rfl⟩
 have hcp:(QV w.flight e.msg (s.doubled+1)).1=F0:=by
  rw[hF0];unfold QV;cases hf:JR e.msg w.flight with
  | none=>rfl
  | some m=>
   have hme:m.msg=e.msg:=by have:=CS hf;simpa using this
   dsimp only;rw[hme];split<;>rfl
 have ex1:(Il { w with flight:=F0 } n λs=>{ s with doubled:=(w.nodes.getD n Fl).doubled+1 },Xn)=Eh w e la:=by
  unfold Eh;dsimp only;rw[if_neg dO,if_neg dO,if_neg dO,if_neg dO,if_neg dO,if_pos h1,hnt,hF0,hsn]<;>rfl
 rw[<- ex1];obtain⟨i1,i2⟩:=Y6 (z:=52) rfl hs 51 1 iF;have i5:((DZ.e s).drop 51).take 1=[vi s.doubled]:=rfl;have i6:=MZ (z:=52) (l:=w.nodes) rfl hs (y:={ s with doubled:=s.doubled+1 }) 51 (vi (s.doubled+1)) iF rfl;have hs2:(w.nodes.set n { s with doubled:=s.doubled+1 })[n]? = some { s with doubled:=s.doubled+1 }:=KJ hn _;obtain⟨i7,i8⟩:=Y6 (z:=52) rfl hs2 51 1 iF;have i9:((DZ.e { s with doubled:=s.doubled+1 }).drop 51).take 1=[vi (s.doubled+1)]:=rfl;have w1:G0 (s.doubled+1)=s.doubled+1:=Er dO dO;have hc:=mq w.flight e.msg (s.doubled+1) dO;rw[hcp] at hc;refine Ea XF58 ?_
 (repeat' (first | refine Zl (J9 @xf58.eq_1 @IY @Iw h1 hen @zN i1 i2 (J9 i5 i6 i7 i8 i9 w1 b1 b2 (J5 @rF a1 a2 a7 a8))) ?_ | refine Zz0 hc λgn=>?_ | fail))
 unfold rE;dsimp only;rw[RD];refine⟨_,rfl,⟨_,EA,EA,rfl,rfl,rfl,rfl,rfl,.inl ⟨rfl,rfl⟩,.inl ⟨rfl,rfl⟩⟩,?_⟩
 ·refine rB λF hF=>?_
  have hk:∀ j,j < σ.next->j≠A.n->F.heap j=σ.heap j:=λj hj hne=>by
   have q1:∀ x,(j=σ.next+x)=False:=λx=>eq_false dO
   have q2:(j=σ.next)=False:=eq_false dO;have q3:(j=A.n)=False:=eq_false hne;rw[hF];simp +decide only[wA,↓reduceIte,Nat.reduceAdd,q1,q2,q3]
  have hlo:b<=F.low:=by rw[hF];simp only[lW];omega
  have hx:σ.next<=F.next:=by rw[hF];simp only[lW];omega
  have hc:F.heap A.n=.cells (D4 (w.nodes.set n { s with doubled:=s.doubled+1 })) tN 52 qN:=by
   rw[hF];simp +decide only[wA,↓reduceIte,Nat.reduceAdd,a1,a2]
  have hsn2:({ w with flight:=F0 }:E4).nodes.getD n Fl=s:=hsn;refine⟨hlo,hx,hr.Il (t:=tN) (q:=qN) ⟨n1,n2⟩ ?_ hx (λj hj hne=>hk j (hA j hj) hne) rfl rfl rfl,λj hj hne=>hk j hj λe=>hne (.inl e)⟩;unfold Il;dsimp only;rw[hsn2];exact hc
end
section
variable [Prim Tryz.prog]
set_option maxHeartbeats 8000000 in
set_option maxRecDepth 100000 in
def AaF(w:E4)(h:JI w)(hst:w.steps < 5000){e:Fu}(la:List Gy)(hl:la.length<=100000){A:Ig}{b:Nat}(σ:D1)(hb:b<=σ.next)(hr:WR σ b w A){n:Nat}{s:FZ}(hs:w.nodes[n]? = some s)(hen:e.node=n)(h1:e.kind=1)(h2:s.up=false)(h3:0<=e.arg/\e.arg < w.c.programs.length) :
  VC Tryz.prog 58 [.agg (WV w A),.agg (DZ.e e),vl la] σ (rE σ b (Eh w e la) A):=by
 obtain⟨hn,hs'⟩:=Am.1 hs;have hi:=h.inv;have hk:0<=w.steps/\w.steps<=5000:=h.st;have hnd:=hi.node s (by rw[<- hs'];exact Ao hn);have hf:=hi.cfg.first
 have hnl:=hi.nl;have hnt:e.node.toNat=n:=by rw[hen];rfl
 have hsn:w.nodes.getD n Fl=s:=getD_some hs;have hfl:=hi.fl;have hol:=hi.ol;have hA:∀ j,A.has j->j < σ.next:=λj hj=>(hr.lt hj).2
 obtain⟨tN,qN,n1,n2,n3,zN⟩:=hr.n;rw[SY] at zN;obtain⟨e1,e2⟩:=Rp (z:=52) rfl hs;have a1:∀ x,(A.n=σ.next+x)=False:=λx=>eq_false dO
 have a2:(A.n=σ.next)=False:=eq_false dO;have a7:∀ x,(σ.next+x=A.n)=False:=λx=>eq_false dO
 have a8:(σ.next=A.n)=False:=eq_false dO;have b1:∀ x,(A.n < σ.next+x)=True:=λx=>eq_true dO
 have b2:(A.n < σ.next)=True:=eq_true n3;have hpl:e.arg.toNat < w.c.programs.length:=dO
 obtain⟨p,hp⟩:∃ p,w.c.programs[e.arg.toNat]? = some p:=⟨_,Ah hpl⟩
 have hpe:w.c.programs[e.arg.toNat]'hpl=p:=(Am.1 hp).2;obtain⟨D,hD⟩:=hi.cfg.prog p (AF hp);have hsm:D2 (n:Int):=I4 dO;have hnodes:D2 (w.c.first.length:Int):=I4 dO;have hres:=Un hi.cfg hD hnd hk h3.1 hp hsm la;obtain⟨R,hR⟩:∃ R,R=JH s p e.arg n w.c.first.length w.c.drift la:=⟨_,rfl⟩
 have ex1:(Ht w n R (-1),R)=Eh w e la:=by
  unfold Eh;dsimp only;rw[if_pos h1,hnt,hsn,getD_some hp,hnl,hR]
 rw[<- ex1];rw[<- hR] at hres;have hds:∀ x∈Gp s.disk,D2 x:=λx hx=>hnd.vars x (B6 _ hx)
 have hclk:=hnd.clk;have hcnt:=hnd.cnt 0 iF;refine HU XF58 (λN=>?_);unfold xf58;dsimp only;refine El.seq (El.of ?_)
 refine Zl (J9 @IY @Iw h1 hen @zN e1 e2 b1 (J7 b2 @EM @Eo a1 a2 a7 a8)) ?_
 refine El.seq (El.of ?_)
 refine Zl (J9 @IY @Iw h1 hen @zN e1 e2 b1 (J7 b2 @EM @Eo a1 a2 a7 a8)) ?_
 refine El.seq (El.of ?_)
 refine Zl (J9 @IY @Iw h1 hen @zN e1 e2 b1 (J7 b2 @EM @Eo a1 a2 a7 a8)) ?_
 refine El.seq ?_;refine El.seq (El.of ?_)
 refine Zl (J9 @IY @Iw h1 hen @zN e1 e2 b1 (J7 b2 @EM @Eo a1 a2 a7 a8)) ?_
 refine El.block ?_;refine El.seq (El.of ?_)
 refine Zl (J9 @IY @Iw h1 hen @zN e1 e2 b1 (J7 b2 @EM @Eo a1 a2 a7 a8)) ?_
 refine El.rC (by simp +decide only[↓Em,eq_self]) ?_;refine El.seq (El.of ?_)
 refine Zl (J9 @IY @Iw h1 hen @zN e1 e2 b1 (J9 b2 @EM @Eo a1 a2 a7 a8 hpe (J2 @EI @Pl))) ?_
 refine Ey.tg (R:=λv=>NF R v) (args2:=[.agg (DZ.e s),.agg (DZ.e p),vi e.arg,vi n,vi w.c.first.length,vi w.c.drift,vl la]) (by simp only[hnl,fG]) (by rw[hR];exact gC s p D hD e.arg n w.c.first.length w.c.drift hi.cfg.drift la hl hnd.disk hds ⟨hclk.1,dO⟩ ⟨hcnt.1,dO⟩ hsm hnodes _) (λrv g hv=>?_);obtain⟨RL,rv2,hRLl,allRL,tRL⟩:=hv.cs
 refine Zl (J4 rv2 hRLl @allRL @tRL) ?_
 refine El.at (λfe Y hfe hY=>?_);have f8:fe 8=vi n:=by rw[hfe];simp +decide only[↓Em,wA]
 have f3:fe 3=.ptr σ.next 0:=by rw[hfe];simp +decide only[↓Em,wA]
 have f6:fe 6=.ptr (σ.next+2) 0:=by rw[hfe];simp +decide only[↓Em,wA]
 have f7:fe 7=.ptr (σ.next+3) 0:=by rw[hfe];simp +decide only[↓Em,wA]
 have f10:fe 10=.ptr (σ.next+(5+g)) 0:=by rw[hfe];simp +decide only[↓Em,eq_self]
 have y3:Y.heap σ.next=.cells (WV w A) 68 16 σ.next:=by rw[hY];simp +decide only[wA,↓reduceIte,Nat.reduceAdd,PC]
 have y6:Y.heap (σ.next+2)=.cells Hb 68 16 (σ.next+2):=by rw[hY];simp +decide only[wA,↓reduceIte,Nat.reduceAdd,PC];rfl
 have y7:∃ cs:List VV,cs.length=67/\Y.heap (σ.next+3)=.cells cs 160 67 (σ.next+3):=by
  refine⟨_,?_,by rw[hY];simp +decide only[wA,↓reduceIte,Nat.reduceAdd,PC];rfl⟩;rfl
 have y10:Y.heap (σ.next+(5+g))=.cells RL 160 67 (σ.next+(5+g)):=by rw[hY];simp +decide only[wA,↓reduceIte]
 have yl:σ.next<=Y.low:=by rw[hY];simp only[lW];omega
 have yn:σ.next+(5+g) < Y.next:=by rw[hY];simp only[lW];omega
 have yk:∀ j,j < σ.next->Y.heap j=σ.heap j:=λj hj=>by
  have u1:∀ x,(j=σ.next+x)=False:=λx=>eq_false dO
  have u2:(j=σ.next)=False:=eq_false dO;rw[hY];simp +decide only[wA,↓reduceIte,Nat.reduceAdd,u1,u2]
 clear hY hfe;obtain⟨cs,hcs,y7⟩:=y7;refine El.freeze (d:=3) f3 y3 ?_;refine El.freeze (d:=10) (id:=σ.next+(5+g)) (by rw[D9 _ _ _ _ iF];exact f10) (by rw[Ec _ _ _ dO];exact y10) ?_;refine El.at (λfe2 X hfe hX=>?_);have g8:fe2 8=vi n:=by rw[hfe];simp +decide only[D9];exact f8
 have g3:fe2 3=.ep (WV w A) 0:=by rw[hfe];simp +decide only[D9,FQ]
 have g6:fe2 6=.ptr (σ.next+2) 0:=by rw[hfe];simp +decide only[D9];exact f6
 have g7:fe2 7=.ptr (σ.next+3) 0:=by rw[hfe];simp +decide only[D9];exact f7
 have g10:fe2 10=.ep RL 0:=by rw[hfe];simp +decide only[FQ]
 have xk:∀ j,j≠σ.next->j≠σ.next+(5+g)->X.heap j=Y.heap j:=λj h1 h3=>by rw[hX,Ec _ _ _ h3,Ec _ _ _ h1]
 have xn:X.next=Y.next:=by rw[hX];rfl
 have xl:σ.next<=X.low:=by rw[hX];simp only[Fj];omega
 clear hX hfe f3 f6 f7 f8 f10;have x6:=(xk (σ.next+2) dO dO).trans y6;have x7:=(xk (σ.next+3) dO dO).trans y7;have hw:WR X b w A:=hr.D8 dO (λj hj=>by
  have:=hA j hj;rw[xk j dO dO,yk j this])
 have zB:ExB σ b w A cs X:=⟨dO,dO,x6,x7,hcs,hw,λj hj hne=>(xk j dO dO).trans (yk j hj)⟩
 have d67:cs.drop 67=[]:=Bj dO;have lRL:(0+67<=RL.length)=True:=eq_true dO;rw[show fe2=Hf fe2 10 (.ep RL 0) from (K2 g10).symm];refine El.of ?_
 refine Zl (J9 g3 g6 g7 g8 g10 x6 x7 @IY (J4 @GZ @tRL @lRL hRLl)) ?_
 have hnf:n < w.failures.length:=by rw[hi.fal,<- hnl];exact hn
 have hnt2:n < w.traces.length:=by rw[hi.trl,<- hnl];exact hn
 have hfa:=hi.fai _ (Ao hnf);have htr:=hi.tr _ (Ao hnt2);have hcv:=hi.cov;have hsent:=hres.sent;have hfails:=hres.fails;have hcovs:=hres.cov;have hv':NF R (.agg RL):=by rw[rv2] at hv;exact hv
 refine Ey.any (QY w X dO hw n hn (Ah hnt2) dO (Ah hnf) R hres.s.disk hres.s.voll dO dO dO dO (-1) (.agg RL) hv') ?_;rintro _ F ⟨rfl,hq⟩ u5 u6;refine F4.intro (λw hw=>?_) ?_
 ·simp only[FN,GA,if_true,AW,if_false,Aq,AK,or_false] at hw
  rcases hw with rfl | rfl
  ·exact Gi rfl (by simp +decide only[↓Em,ne_eq];rfl)
  ·exact Gi rfl (by simp +decide only[↓Em,ne_eq,g3];rfl)
 obtain⟨v6,v7,hfin⟩:=zB.fin (L:=RL) hA hq hb
 refine Zl (J9 g3 g6 g7 g8 g10 v6 v7 hcs (J8 @allRL d67 @NZ @IY @GZ @tRL @lRL hRLl)) ?_
 refine F4.intro (λw hw=>?_) ?_
 ·simp only[FN,GA,if_true,AW,if_false,Aq,AK,or_false] at hw
  rcases hw with rfl | rfl | rfl
  ·exact Gi rfl (by simp +decide only[↓Em,ne_eq];rfl)
  ·exact Gi rfl (by simp +decide only[↓Em,ne_eq];rfl)
  ·exact Gi rfl (by simp +decide only[↓Em,ne_eq,g3];rfl)
 refine Zl (J9 g3 g6 g7 g8 g10 v6 v7 hcs (J8 @allRL d67 @NZ @IY @GZ @tRL @lRL hRLl)) ?_
 exact⟨_,rfl,hv'.b,hfin⟩
end
section
variable [Prim Tryz.prog]
set_option maxHeartbeats 8000000 in
set_option maxRecDepth 100000 in
def AaG(w:E4)(h:JI w)(hst:w.steps < 5000){e:Fu}(la:List Gy)(hl:la.length<=100000){A:Ig}{b:Nat}(σ:D1)(hb:b<=σ.next)(hr:WR σ b w A){n:Nat}{s:FZ}(hs:w.nodes[n]? = some s)(hen:e.node=n)(h1:e.kind=7)(h2:s.up=true) :
  VC Tryz.prog 58 [.agg (WV w A),.agg (DZ.e e),vl la] σ (rE σ b (Eh w e la) A):=by
 obtain⟨hn,hs'⟩:=Am.1 hs;have hi:=h.inv;have hk:0<=w.steps/\w.steps<=5000:=h.st;have hnd:=hi.node s (by rw[<- hs'];exact Ao hn);have hf:=hi.cfg.first
 have hnl:=hi.nl;have hnt:e.node.toNat=n:=by rw[hen];rfl
 have hsn:w.nodes.getD n Fl=s:=getD_some hs;have hfl:=hi.fl;have hol:=hi.ol;have hA:∀ j,A.has j->j < σ.next:=λj hj=>(hr.lt hj).2
 obtain⟨tN,qN,n1,n2,n3,zN⟩:=hr.n;rw[SY] at zN;obtain⟨e1,e2⟩:=Rp (z:=52) rfl hs;have a1:∀ x,(A.n=σ.next+x)=False:=λx=>eq_false dO
 have a2:(A.n=σ.next)=False:=eq_false dO;have a7:∀ x,(σ.next+x=A.n)=False:=λx=>eq_false dO
 have a8:(σ.next=A.n)=False:=eq_false dO;have b1:∀ x,(A.n < σ.next+x)=True:=λx=>eq_true dO
 have b2:(A.n < σ.next)=True:=eq_true n3;have hep:=hnd.ep;have hcnt:=hnd.cnt 40 iF;have hres:=Uo hnd n la;obtain⟨R,hR⟩:∃ R,R=GX s n la:=⟨_,rfl⟩
 have ex1:(Ir (Il w n λ_=>R.s) n,R)=Eh w e la:=by
  unfold Eh;dsimp only;rw[if_neg dO,if_neg dO,if_neg dO,if_neg dO,if_neg dO,if_neg dO,hnt,hsn,hR]
 rw[<- ex1];rw[<- hR] at hres;have i6:=RC (z:=52) (l:=w.nodes) rfl hn R.s;refine HU XF58 (λN=>?_);unfold xf58;dsimp only;refine El.seq (El.of ?_)
 refine Zl (J9 @IY @Iw h1 hen @zN e1 e2 b1 (J7 b2 @EM @Eo a1 a2 a7 a8)) ?_
 refine El.seq (El.of ?_)
 refine Zl (J9 @IY @Iw h1 hen @zN e1 e2 b1 (J7 b2 @EM @Eo a1 a2 a7 a8)) ?_
 refine El.seq (El.of ?_)
 refine Zl (J9 @IY @Iw h1 hen @zN e1 e2 b1 (J7 b2 @EM @Eo a1 a2 a7 a8)) ?_
 refine El.seq (El.of ?_)
 refine Zl (J9 @IY @Iw h1 hen @zN e1 e2 b1 (J7 b2 @EM @Eo a1 a2 a7 a8)) ?_
 refine El.seq (El.of ?_)
 refine Zl (J9 @IY @Iw h1 hen @zN e1 e2 b1 (J8 b2 @EM @Eo a1 a2 a7 a8 @EI)) ?_
 refine Ey.tg (R:=λv=>NF R v) (args2:=[.agg (DZ.e s),vi n,vl la]) (by simp only[fG]) (by rw[hR];exact YV s n la hl hnd.disk hnd.voll ⟨hcnt.1,dO⟩ ⟨hep.1,dO⟩ _) (λrv g hv=>?_);obtain⟨RL,rv2,hRLl,allRL,tRL⟩:=hv.cs;obtain⟨o1,o2,o3,o4,o5,o6,rv3,_⟩:=id hv;have hRL52:RL.take 52=DZ.e R.s:=by
  rw[rv2] at rv3;injection rv3 with rv3
  rw[rv3,rf _ _ _ dO,EI]
 have l52:(52<=RL.length)=True:=eq_true dO
 refine Zl (J4 rv2 hRLl @allRL @tRL) ?_
 refine El.seq (El.of ?_)
 refine Zl (J9 @IY @Iw h1 hen @zN e1 e2 b1 (J9 b2 @EM @Eo a1 a2 a7 a8 hRLl (J5 @hRL52 l52 @tRL @EG i6))) ?_
 refine El.at (λfe Y hfe hY=>?_);have f8:fe 8=vi n:=by rw[hfe];simp +decide only[↓Em,wA]
 have f3:fe 3=.ptr σ.next 0:=by rw[hfe];simp +decide only[↓Em,wA]
 have f6:fe 6=.ptr (σ.next+2) 0:=by rw[hfe];simp +decide only[↓Em,wA]
 have f7:fe 7=.ptr (σ.next+3) 0:=by rw[hfe];simp +decide only[↓Em,wA]
 have f20:fe 20=.ptr (σ.next+(5+g)) 0:=by rw[hfe];simp +decide only[↓Em,wA]
 have y3:Y.heap σ.next=.cells (WV w A) 68 16 σ.next:=by rw[hY];simp +decide only[wA,↓reduceIte,Nat.reduceAdd,PC,a8]
 have y6:Y.heap (σ.next+2)=.cells Hb 68 16 (σ.next+2):=by rw[hY];simp +decide only[wA,↓reduceIte,Nat.reduceAdd,PC,a7];rfl
 have y7:∃ cs:List VV,cs.length=67/\Y.heap (σ.next+3)=.cells cs 160 67 (σ.next+3):=by
  refine⟨_,?_,by rw[hY];simp +decide only[wA,↓reduceIte,Nat.reduceAdd,PC,a7];rfl⟩;rfl
 have y20:Y.heap (σ.next+(5+g))=.cells RL 160 67 (σ.next+(5+g)):=by rw[hY];simp +decide only[wA,↓reduceIte,a7]
 have yl:b<=Y.low:=by rw[hY];simp only[lW];omega
 have yn:σ.next+(5+g) < Y.next:=by rw[hY];simp only[lW];omega
 have yk:∀ j,j < σ.next->j≠A.n->Y.heap j=σ.heap j:=λj hj hq1=>by
  have u3:(j=A.n)=False:=eq_false hq1;have u1:∀ x,(j=σ.next+x)=False:=λx=>eq_false dO
  have u2:(j=σ.next)=False:=eq_false dO;rw[hY];simp +decide only[wA,↓reduceIte,Nat.reduceAdd,u1,u2,u3]
 have yN:Y.heap A.n=.cells (D4 (w.nodes.set n R.s)) tN 52 qN:=by rw[hY];simp +decide only[wA,↓reduceIte]
 clear hY hfe;obtain⟨cs,hcs,y7⟩:=y7;refine El.freeze (d:=3) f3 y3 ?_;refine El.freeze (d:=20) (id:=σ.next+(5+g)) (by rw[D9 _ _ _ _ iF];exact f20) (by rw[Ec _ _ _ dO];exact y20) ?_;refine El.at (λfe2 X hfe hX=>?_);have g8:fe2 8=vi n:=by rw[hfe];simp +decide only[D9];exact f8
 have g3:fe2 3=.ep (WV w A) 0:=by rw[hfe];simp +decide only[D9,FQ]
 have g6:fe2 6=.ptr (σ.next+2) 0:=by rw[hfe];simp +decide only[D9];exact f6
 have g7:fe2 7=.ptr (σ.next+3) 0:=by rw[hfe];simp +decide only[D9];exact f7
 have g20:fe2 20=.ep RL 0:=by rw[hfe];simp +decide only[FQ]
 have xk:∀ j,j≠σ.next->j≠σ.next+(5+g)->X.heap j=Y.heap j:=λj h1 h3=>by rw[hX,Ec _ _ _ h3,Ec _ _ _ h1]
 have xn:X.next=Y.next:=by rw[hX];rfl
 have xl:b<=X.low:=by rw[hX];simp only[Fj];omega
 clear hX hfe f3 f6 f7 f8 f20;have x6:=(xk (σ.next+2) dO dO).trans y6;have x7:=(xk (σ.next+3) dO dO).trans y7;have hww:({ w with nodes:=w.nodes.set n R.s }:E4)=Il w n λ_=>R.s:=rfl
 have hw:WR X b (Il w n λ_=>R.s) A:=by
  rw[<- hww];refine hr.Il (t:=tN) (q:=qN) ⟨n1,n2⟩ ?_ dO (λj hj hne=>by have:=hA j hj;rw[xk j dO dO,yk j this hne]) rfl rfl rfl;rw[xk _ dO dO];exact yN
 have zB:ExB σ b (Il w n λ_=>R.s) A cs X:=⟨dO,dO,x6,x7,hcs,hw,λj hj hne=>(xk j dO dO).trans (yk j hj (λe=>hne (.inl e)))⟩
 have d67:cs.drop 67=[]:=Bj dO;have lRL:(0+67<=RL.length)=True:=eq_true dO;rw[show fe2=Hf fe2 20 (.ep RL 0) from (K2 g20).symm];refine El.of ?_
 refine Zl (J9 g3 g6 g7 g8 g20 x6 x7 @IY (J4 @GZ @tRL @lRL hRLl)) ?_
 have hnt2:n < w.traces.length:=by rw[hi.trl,<- hnl];exact hn
 have htr:=hi.tr _ (Ao hnt2);have hv':NF R (.agg RL):=by rw[rv2] at hv;exact hv
 rw[<- RD w A n λ_=>R.s];refine Ey.any (QX (Il w n λ_=>R.s) X dO hw n (s:=R.s) (KJ hn R.s) hres.s.disk hres.s.voll (tr:=w.traces[n]) (Ah hnt2) dO) ?_;rintro _ F ⟨rfl,hq⟩ u5 u6;refine F4.intro (λw hw=>?_) ?_
 ·simp only[FN,GA,if_true,AW,if_false,Aq,AK,or_false] at hw
  subst hw;exact Gi rfl (by simp +decide only[↓Em,ne_eq,g3];rfl)
 obtain⟨v6,v7,hfin⟩:=zB.fin (L:=RL) hA hq hb
 refine Zl (J9 g3 g6 g7 g8 g20 v6 v7 hcs (J8 @allRL d67 @NZ @IY @GZ @tRL @lRL hRLl)) ?_
 refine F4.intro (λw hw=>?_) ?_
 ·simp only[FN,GA,if_true,AW,if_false,Aq,AK,or_false] at hw
  rcases hw with rfl | rfl
  ·exact Gi rfl (by simp +decide only[↓Em,ne_eq];rfl)
  ·exact Gi rfl (by simp +decide only[↓Em,ne_eq,g3];rfl)
 refine Zl (J9 g3 g6 g7 g8 g20 v6 v7 hcs (J8 @allRL d67 @NZ @IY @GZ @tRL @lRL hRLl)) ?_
 rw[Ql] at hfin;unfold rE;dsimp only;rw[Ql];exact⟨_,rfl,hv'.b,hfin⟩
end
section
variable [Prim Tryz.prog]
def WG(w:E4)(h:JI w)(hst:w.steps < 5000){e:Fu}(he:e∈FO w)(la:List Gy)(hl:la.length<=100000){A:Ig}{b:Nat}(σ:D1)(hb:b<=σ.next)(hr:WR σ b w A) :
  VC Tryz.prog 58 [.agg (WV w A),.agg (DZ.e e),vl la] σ (rE σ b (Eh w e la) A):=by
 obtain⟨n,s,hs,hen,his⟩:=RU h.inv he;rcases his with ⟨h1,h2,h3,h4⟩ | ⟨h1,h2,h3,h4,h5⟩ | ⟨h1,h2,m,h3,h4,h5⟩ | ⟨h1,h2,h3⟩ | ⟨h1,m,h3,h4,h5⟩ | ⟨h1,m,h3,h4,h5⟩ | ⟨h1,h2⟩
 ·exact AaF w h hst la hl σ hb hr hs hen h1 h2 ⟨h3,h4⟩
 ·exact AaB w h hst la hl σ hb hr hs hen h1 h2 h3 h4 h5
 ·exact AaA w h hst la hl σ hb hr hs hen h1 h2 h3 h4
 ·exact AaC w h hst la hl σ hb hr hs hen h1 h2 h3
 ·exact AaD w h hst la hl σ hb hr hs hen h1
 ·exact AaE w h hst la hl σ hb hr hs hen h1
 ·exact AaG w h hst la hl σ hb hr hs hen h1 h2
end
section
variable [Prim Tryz.prog]
set_option maxHeartbeats 1000000 in
def M0(w:E4){k o:Int}(h:WI w k o)(hk:k<=5000)(e:Fu):VD Tryz.prog 57 [.agg (DZ.e w),.agg (DZ.e e)] (vb (decide (e∈FO w))):=by
 intro σ;have hlen:(FO w).length<=10000000:=by
  rw[<- Y4];have h1:=Qi (Oz w w.nodes.length) [];have h2:=Y5 h hk w.nodes.length (Af _);have h3:=h.cfg.first
  have h4:=h.nl;simp only[Ap,A8] at h1;have:w.nodes.length * 302000<=12 * 302000:=AL _ dO;omega
 obtain⟨E,hE⟩:∃ E,E=FO w:=⟨_,rfl⟩
 have hen:=Pq w h hk;rw[<- hE] at hen hlen |-;refine Ea XF57 ?_
 (repeat' (first | refine Zl (J2 @xf57.eq_1 @E7) ?_ | refine Zz0 hen λgn=>?_ | fail))
 refine Ek 0 (λm fe Z=>fe 5=vl E/\fe 3=.ptr (σ.next+1) 0/\σ.next<=Z.low/\Z.heap (σ.next+1)=.cells (DZ.e e) 74 8 (σ.next+1)/\σ.next+2<=Z.next/\∃ i:Nat,fe 6=vi i/\m+i=E.length/\∀ j (hj:j < E.length),j < i->E[j]≠e)
  (λfe Z=>σ.next<=Z.low/\e ∉ E) E.length ?_ ?_ ?_
 ·refine Zy0 ?_
  exact⟨dO,0,rfl,rfl,λj _ hj=>dO⟩
 ·rintro m fe Z ⟨f5,f3,hlo,z1,hn,i,f6,hm,hno⟩
  have p1:(σ.next+1 < Z.next)=True:=eq_true dO
  (repeat' (first | refine Zl (J6 f3 f5 f6 z1 p1 @F3) ?_ | refine Zb (λ_ gd=>?_) λ_ gd=>?_ | fail))
  ·rename_i x1 x2 x3
   exact⟨hlo,(decide_eq_true (x3▸Ao _)).symm⟩
  ·rename_i x1 x2 x3
   refine⟨m - 1,dO,hlo,hn,i+1,JQ dO,dO,λj hj hji=>?_⟩;rcases (show j < i\/j=i by omega) with q | q
   ·exact hno j hj q
   ·subst q
    exact x3
  ·exact⟨hlo,λhm=>by
    obtain⟨j,hj,rfl⟩:=AN hm;exact hno j hj dO rfl⟩
 ·rintro fe Z ⟨hlo,hno⟩
  refine Zy0 ?_
  exact⟨hlo,by simp[hno]⟩
def Ts:List VV:=[vi 0,vi 0,vi 0,vi 0,vi 0,vi 0,vi 0,vi 0,EA,vb false,EA]
def CpQ(σ:D1)(w:E4)(r:VV)(σ':D1):Prop:=r=.agg (WV w ⟨σ.next+2,σ.next+3,σ.next+4,σ.next+5⟩)/\σ.next<=σ'.next/\WR σ' σ.next w ⟨σ.next+2,σ.next+3,σ.next+4,σ.next+5⟩
def mB(w:E4){k o:Int}(h:WI w k o)(σ:D1):VC Tryz.prog 59 [.agg (DZ.e w)] σ (λr σ'=>σ.next<=σ'.low/\CpQ σ w r σ'):=
 VG.mono (Y8 w h σ) λv σ' q=>⟨q.2.1,q.1,q.2.2.1,q.2.2.2⟩
def Lc(e:Fu)(a:VV)(ob:Bool)(x:VV):List VV:=[vi e.kind,vi e.node,vi e.arg,vi e.msg.node,vi e.msg.handler,vi e.msg.count,vi e.msg.index,vi e.msg.copy,a,vb ob,x]
def StQ(σ:D1)(w:E4)(e:Fu)(la:List Gy)(r:VV)(σ':D1):Prop:=σ.next<=σ'.low/\∃ (A:Ig) (a x:VV),r=.tup [.agg (WV (EK w e la).1 A),.agg (Lc (EK w e la).2.1.ev a (EK w e la).2.1.obs x),vi (EK w e la).2.2]/\Rd a (EK w e la).2.1.asks/\Rd x (EK w e la).2.1.sent/\WR σ' σ.next (EK w e la).1 A
set_option maxHeartbeats 4000000 in
set_option maxRecDepth 100000 in
def mC(w:E4)(h:JI w)(e:Fu)(la:List Gy)(hl:la.length<=100000)(h5:w.steps < 5000)(he:e∈FO w)(σ:D1):VC Tryz.prog 34 [.agg (DZ.e w),.agg (DZ.e e),vl la] σ (StQ σ w e la):=by
 have hst:=h.st;have hi:=h.inv;have q15:((DZ.e w).drop 15).take 1=[vi w.steps]:=rfl;have k5:(w.steps >= 5000)=False:=eq_false dO;have hd:decide (e∈FO w)=true:=decide_eq_true he;have hen:=M0 w hi dO e;rw[hd] at hen;refine HU XF34 (λN=>?_);unfold xf34;dsimp only;refine El.seq (El.of ?_)
 refine Zy0 ?_
 refine El.seq (El.of ?_)
 refine Zl (J5 q15 k5 @E7 @F3 @EH) ?_
 refine El.seq (El.of ?_)
 (repeat' (first | refine Zl (J3 @E7 @F3 @EH) ?_ | refine Zz0 hen λgn=>?_ | fail))
 refine El.seq (El.of ?_)
 refine Zy0 ?_
 refine El.at (λfe Y hfe hY=>?_);have f2:fe 2=vl la:=by rw[hfe];simp +decide only[↓Em,wA]
 have f3:fe 3=.ptr σ.next 0:=by rw[hfe];simp +decide only[↓Em,wA]
 have f4:fe 4=.ptr (σ.next+1) 0:=by rw[hfe];simp +decide only[↓Em,wA]
 have f6:fe 6=.ptr (σ.next+2) 0:=by rw[hfe];simp +decide only[↓Em,wA]
 have f7:fe 7=.ptr (σ.next+3) 0:=by rw[hfe];simp +decide only[↓Em,wA]
 have y3:Y.heap σ.next=.cells (DZ.e w) 68 16 σ.next:=by rw[hY];simp +decide only[wA,↓reduceIte,Nat.reduceAdd]
 have y4:Y.heap (σ.next+1)=.cells (DZ.e e) 74 8 (σ.next+1):=by rw[hY];simp +decide only[wA,↓reduceIte,Nat.reduceAdd]
 have y6:Y.heap (σ.next+2)=.cells Hb 68 16 (σ.next+2):=by rw[hY];simp +decide only[wA,↓reduceIte,Nat.reduceAdd];rfl
 have y7:Y.heap (σ.next+3)=.cells Ts 78 11 (σ.next+3):=by rw[hY];simp +decide only[wA,↓reduceIte,Nat.reduceAdd];rfl
 have yl:σ.next<=Y.low:=by rw[hY];simp only[lW];omega
 have yn:σ.next+4<=Y.next:=by rw[hY];simp only[lW];omega
 clear hY hfe;refine El.freeze (d:=3) f3 y3 ?_;refine El.freeze (d:=4) (id:=σ.next+1) (by rw[D9 _ _ _ _ iF];exact f4) (by rw[Ec _ _ _ dO];exact y4) ?_;refine El.at (λfe2 X hfe hX=>?_);have g2:fe2 2=vl la:=by rw[hfe];simp +decide only[D9];exact f2
 have g3:fe2 3=.ep (DZ.e w) 0:=by rw[hfe];simp +decide only[D9,FQ]
 have g4:fe2 4=.ep (DZ.e e) 0:=by rw[hfe];simp +decide only[FQ]
 have g6:fe2 6=.ptr (σ.next+2) 0:=by rw[hfe];simp +decide only[D9];exact f6
 have g7:fe2 7=.ptr (σ.next+3) 0:=by rw[hfe];simp +decide only[D9];exact f7
 have xk:∀ j,j≠σ.next->j≠σ.next+1->X.heap j=Y.heap j:=λj h1 h3=>by rw[hX,Ec _ _ _ h3,Ec _ _ _ h1]
 have xn:X.next=Y.next:=by rw[hX];rfl
 have xl:σ.next<=X.low:=by rw[hX];simp only[Fj];omega
 clear hX hfe f2 f3 f4 f6 f7;have x6:=(xk (σ.next+2) dO dO).trans y6;have x7:=(xk (σ.next+3) dO dO).trans y7;clear xk y3 y4 y6 y7;refine El.seq (El.of ?_);rw[show fe2=Hf fe2 3 (.ep (DZ.e w) 0) from (K2 g3).symm]
 refine Zl (J9 g2 g3 g4 g6 g7 @E7 @F3 @EH @GZ) ?_
 refine Ey.pure (mB w hi _) (λv σ' q=>⟨q.1,q.2.1,q.2.2.D8 (Af _) (λ_ _=>rfl)⟩) ?_;rintro r τ ⟨rfl,u1,u2⟩ hsub;have x6:=(hsub.heap _ dO).trans x6;have x7:=(hsub.heap _ dO).trans x7;have tl:τ.low=X.low:=hsub.low;obtain⟨A,hA⟩:∃ A:Ig,A=⟨X.next+2,X.next+3,X.next+4,X.next+5⟩:=⟨_,rfl⟩
 rw[<- hA] at u2 |-;clear hA
 refine Zl (J9 g2 g3 g4 g6 g7 @E7 @F3 @Qc @GZ) ?_
 refine Ey.any (WG w h h5 he la hl τ u1 u2) ?_;rintro _ F ⟨rv,rfl,⟨L,aV,sV,rfl,hL,aL,l52,l53,rA,rS⟩,hq⟩ n1 _;obtain⟨v1,v2,v3,v4⟩:=hq;have v1:σ.next<=(τ.join F).low:=by show _<=min τ.low F.low;omega
 have v2:τ.next<=(τ.join F).next:=v2;have v3:WR (τ.join F) X.next (Eh w e la).1 A:=v3.D8 (Af _) (λ_ _=>rfl);have v4:∀ j,j < τ.next->¬ A.has j->(τ.join F).heap j=τ.heap j:=v4;generalize τ.join F=F at *
 refine Zl (J9 g2 g3 g4 g6 g7 @E7 @F3 @Qc (J5 @GZ hL @aL @Qj @Qk)) ?_
 have w1:G0 (w.steps+1)=w.steps+1:=Er dO dO;obtain⟨x1,hx1⟩:∃ x1,x1=Eh w e la:=⟨_,rfl⟩
 rw[<- hx1] at rA rS v3;have d67:L.take 67=L:=Aj dO;have l1:(52+1<=L.length)=True:=eq_true dO;have l2:(53+1<=L.length)=True:=eq_true dO;refine El.seq (El.of ?_)
 refine Zl (J9 g2 g3 g4 g6 g7 @E7 @F3 @Qc (J9 @GZ hL @aL @Qj @Qk q15 @EH @IY (J3 @rG w1 hx1.symm))) ?_
 refine El.seq (El.of ?_);have q11:((DZ.e w).drop 11).take 1=[vl w.obs]:=rfl
 refine Zl (J9 g2 g3 g4 g6 g7 @E7 @F3 @Qc (J9 @GZ hL @aL @Qj @Qk q15 q11 @EH (J9 @IY @rG w1 hx1.symm l52 @rA.cs @rA.all d67 l1))) ?_
 have hnA:∀ j,j < X.next->¬ A.has j:=λj hj hh=>by have:=(u2.lt hh).1;omega
 have x6:=(v4 _ dO (hnA _ dO)).trans x6;have x7:=(v4 _ dO (hnA _ dO)).trans x7;have hA:∀ j,A.has j->j < F.next:=λj hj=>(v3.lt hj).2
 refine El.at (λfe3 Z hfe hZ=>?_);have f6:fe3 6=.ptr (σ.next+2) 0:=by rw[hfe];simp +decide only[↓Em,ne_eq];exact g6
 have f7:fe3 7=.ptr (σ.next+3) 0:=by rw[hfe];simp +decide only[↓Em,ne_eq];exact g7
 have f10:fe3 10=.ptr F.next 0:=by rw[hfe];simp +decide only[↓Em,wA]
 have f11:fe3 11=.ptr (F.next+1) 0:=by rw[hfe];simp +decide only[↓Em,wA]
 have f12:fe3 12=.ptr (F.next+2) 0:=by rw[hfe];simp +decide only[↓Em,eq_self]
 have z0:∀ j,j < F.next->Z.heap j=F.heap j:=λj hj=>by
  have u1:∀ x,(j=F.next+x)=False:=λx=>eq_false dO
  have u2:(j=F.next)=False:=eq_false dO;rw[hZ];simp +decide only[wA,↓reduceIte,Nat.reduceAdd,u1,u2]
 have z10:Z.heap F.next=.cells (WV { x1.1 with steps:=w.steps+1 } A) 68 16 F.next:=by rw[hZ];simp +decide only[wA,↓reduceIte,Nat.reduceAdd]
 have z11:Z.heap (F.next+1)=.cells L 160 67 (F.next+1):=by rw[hZ];simp +decide only[wA,↓reduceIte,Nat.reduceAdd]
 have z12:Z.heap (F.next+2)=.cells (Lc e aV (decide (w.obs.length < x1.1.obs.length)) EA) 78 11 (F.next+2):=by
  rw[hZ];simp +decide only[wA,↓reduceIte];simp only[Lc,gt_iff_lt,Int.ofNat_lt];rfl
 have zl:σ.next<=Z.low:=by rw[hZ];simp only[lW];omega
 have zn:F.next+3<=Z.next:=by rw[hZ];simp only[lW];omega
 have zw:WR Z σ.next { x1.1 with steps:=w.steps+1 } A:=by
  have:=v3.D8 (τ':=Z) dO (λj hj=>z0 j (hA j hj));have hR:∀ {α:Type} [DZ α] {id:Nat} {l:List α},LA Z X.next id l->LA Z σ.next id l:=λh=>by
   obtain⟨t,q,h1,h2,h3,h4⟩:=h;exact⟨t,q,dO,h2,h3,h4⟩
  exact⟨hR this.n,hR this.x,hR this.f,hR this.t,this.nx,this.nf,this.nt,this.xf,this.xt,this.ft⟩
 clear hZ hfe;have z6:=(z0 _ dO).trans x6;have z7:=(z0 _ dO).trans x7;refine El.freeze (d:=11) f11 z11 ?_;refine El.at (λfe4 V hfe hV=>?_);have g6:fe4 6=.ptr (σ.next+2) 0:=by rw[hfe];simp +decide only[D9];exact f6
 have g7:fe4 7=.ptr (σ.next+3) 0:=by rw[hfe];simp +decide only[D9];exact f7
 have g10:fe4 10=.ptr F.next 0:=by rw[hfe];simp +decide only[D9];exact f10
 have g11:fe4 11=.ep L 0:=by rw[hfe];simp +decide only[FQ]
 have g12:fe4 12=.ptr (F.next+2) 0:=by rw[hfe];simp +decide only[D9];exact f12
 have vk:∀ j,j≠F.next+1->V.heap j=Z.heap j:=λj h1=>by rw[hV,Ec _ _ _ h1]
 have y6:=(vk _ dO).trans z6;have y7:=(vk _ dO).trans z7;have y10:=(vk _ dO).trans z10;have y12:=(vk _ dO).trans z12;have vl':σ.next<=V.low:=by rw[hV];simp only[Fj];omega
 have vn:F.next+3<=V.next:=by rw[hV];exact zn
 have vw:WR V σ.next { x1.1 with steps:=w.steps+1 } A:=zw.D8 (by rw[hV];exact Af _) (λj hj=>vk j (by have:=hA j hj;omega));clear hV hfe f6 f7 f10 f11 f12 z6 z7 z10 z11 z12 zl zn zw vk z0;rw[show fe4=Hf fe4 11 (.ep L 0) from (K2 g11).symm];obtain⟨ob,hob⟩:∃ ob,ob=decide (w.obs.length < x1.1.obs.length):=⟨_,rfl⟩
 rw[<- hob] at y12;obtain⟨w2,hw2⟩:∃ w2:E4,w2={ x1.1 with steps:=w.steps+1 }:=⟨_,rfl⟩
 rw[<- hw2] at vw y10;have hsl:x1.2.sent.length<=20:=by
  have:=(Ur h e la).2;unfold EK at this;rw[if_neg dO,if_pos he,<- hx1] at this;simpa using this
 have hl3:Mn sV=some (vi x1.2.sent.length):=rS.len;have hnA2:∀ j,A.has j->σ.next+4<=j/\j < F.next:=λj hj=>⟨by have:=(u2.lt hj).1;omega,hA j hj⟩
 have e1:(σ.next+2=F.next+2)=False:=eq_false dO;have e2:(σ.next+3=F.next+2)=False:=eq_false dO;refine El.Pr (λfe Z=>fe 6=.ptr (σ.next+2) 0/\fe 7=.ptr (σ.next+3) 0/\fe 10=.ptr F.next 0/\fe 12=.ptr (F.next+2) 0/\Z.heap (σ.next+2)=.cells Hb 68 16 (σ.next+2)/\Z.heap (σ.next+3)=.cells Ts 78 11 (σ.next+3)/\Z.heap F.next=.cells (WV w2 A) 68 16 F.next/\σ.next<=Z.low/\F.next+3<=Z.next/\WR Z σ.next w2 A/\∃ (x:VV),Z.heap (F.next+2)=.cells (Lc e aV ob x) 78 11 (F.next+2)/\App Z σ.next x (x1.2.sent.map GF.msg)) (El.of ?_) ?_
 refine Zy0 ?_
 refine Ek 0 (λm fe Z=>fe 6=.ptr (σ.next+2) 0/\fe 7=.ptr (σ.next+3) 0/\fe 10=.ptr F.next 0/\fe 11=.ep L 0/\fe 12=.ptr (F.next+2) 0/\Z.heap (σ.next+2)=.cells Hb 68 16 (σ.next+2)/\Z.heap (σ.next+3)=.cells Ts 78 11 (σ.next+3)/\Z.heap F.next=.cells (WV w2 A) 68 16 F.next/\σ.next<=Z.low/\F.next+3<=Z.next/\WR Z σ.next w2 A/\∃ (i:Nat) (x:VV),fe 13=vi i/\m+i=x1.2.sent.length/\Z.heap (F.next+2)=.cells (Lc e aV ob x) 78 11 (F.next+2)/\App Z σ.next x ((x1.2.sent.take i).map GF.msg))
  (λfe Z=>fe 6=.ptr (σ.next+2) 0/\fe 7=.ptr (σ.next+3) 0/\fe 10=.ptr F.next 0/\fe 12=.ptr (F.next+2) 0/\Z.heap (σ.next+2)=.cells Hb 68 16 (σ.next+2)/\Z.heap (σ.next+3)=.cells Ts 78 11 (σ.next+3)/\Z.heap F.next=.cells (WV w2 A) 68 16 F.next/\σ.next<=Z.low/\F.next+3<=Z.next/\WR Z σ.next w2 A/\∃ (x:VV),Z.heap (F.next+2)=.cells (Lc e aV ob x) 78 11 (F.next+2)/\App Z σ.next x (x1.2.sent.map GF.msg)) x1.2.sent.length ?_ ?_ ?_
 ·refine Zl (J5 g6 g7 g10 g11 g12) ?_
  exact⟨y6,y7,y10,vl',vn,vw,0,EA,rfl,rfl,y12,App.nil _ _⟩
 ·rintro m fe Z ⟨f6,f7,f10,f11,f12,z6,z7,z10,zl,zn,zw,i,x,f13,hm,z12,hx⟩
  unfold Lc at z12
  (repeat' (first | refine Zl (J9 f6 f7 f10 f11 f12 f13 z6 z7 (J9 z10 z12 @GZ hL l53 l2 hl3 @hx.cs (J4 @hx.all @rS.cs @rA.all @rA.cs))) ?_ | refine Zb (λ_ gd=>?_) λ_ gd=>?_ | refine ZR (zr GF) ?_ | fail))
  ·refine GC.one (x1.2.sent[i]' dO).msg rfl rfl rfl (by rfl) ?_
   (repeat' (first | refine Zl (J9 f6 f7 f10 f11 f12 f13 z6 z7 (J9 z10 z12 @GZ hL l53 l2 hl3 @hx.cs (J4 @hx.all @rS.cs @rA.all @rA.cs))) ?_ | refine ZP (zp KD σ.next) λgt gn glo glv ga g1 g2 g3=>?_ | fail))
   have e3:(σ.next=F.next)=False:=eq_false dO;have e4:(σ.next+1=F.next)=False:=eq_false dO;simp only[e3,e4,if_false];have hx':(x1.2.sent.take (i+1)).map GF.msg=(x1.2.sent.take i).map GF.msg++[(x1.2.sent[i]' dO).msg]:=by
    rw[BE dO,AX];rfl
   refine⟨m - 1,dO,trivial,trivial,⟨dO,dO⟩,dO,zw.D8 ah0 (λj hj=>by rw[ET _ _ _ _ _ _ _ (by have:=hnA2 j hj;omega)];rfl),i+1,_,JQ dO,dO,rfl,?_⟩;rw[hx'];exact ga.write _ _ _ _ _
  ·obtain rfl:i=x1.2.sent.length:=dO
   rw[BK] at hx;exact⟨zl,zn,zw,x,rfl,hx⟩
 ·rintro fe Z h
  refine Zy0 ?_
  exact h
 rintro fe5 Z ⟨f6,f7,f10,f12,z6,z7,z10,zl,zn,zw,x,z12,hx⟩;refine El.freeze (d:=10) f10 z10 ?_;refine El.freeze (d:=12) (id:=F.next+2) (by rw[D9 _ _ _ _ iF];exact f12) (by rw[Ec _ _ _ dO];exact z12) ?_;refine El.at (λfe6 U hfe hU=>?_);have g6:fe6 6=.ptr (σ.next+2) 0:=by rw[hfe];simp +decide only[D9];exact f6
 have g7:fe6 7=.ptr (σ.next+3) 0:=by rw[hfe];simp +decide only[D9];exact f7
 have g10:fe6 10=.ep (WV w2 A) 0:=by rw[hfe];simp +decide only[D9,FQ]
 have g12:fe6 12=.ep (Lc e aV ob x) 0:=by rw[hfe];simp +decide only[FQ]
 have uk:∀ j,j≠F.next->j≠F.next+2->U.heap j=Z.heap j:=λj h1 h3=>by rw[hU,Ec _ _ _ h3,Ec _ _ _ h1]
 have un:U.next=Z.next:=by rw[hU];rfl
 have ul:σ.next<=U.low:=by rw[hU];simp only[Fj];omega
 clear hU hfe;have y6:=(uk _ dO dO).trans z6;have y7:=(uk _ dO dO).trans z7;have yw:WR U σ.next w2 A:=zw.D8 dO (λj hj=>by have:=hnA2 j hj;exact uk j dO dO);rw[show fe6=Hf fe6 10 (.ep (WV w2 A) 0) from (K2 g10).symm];have s11:(Lc e aV ob x).take 11=Lc e aV ob x:=rfl;have sl:(Lc e aV ob x).length=11:=rfl;have sa:FE (Lc e aV ob x)=true:=by unfold Lc;simp only[Ia,G5,rA.all,hx.all]
 have sd:Ts.drop 11=[]:=rfl;refine El.of ?_
 refine Zl (J9 g6 g7 g10 g12 y6 y7 @GZ @Qj (J7 @Qk @IY @NZ s11 sl sa sd)) ?_
 refine F4.intro (λw hw=>?_) ?_
 ·simp only[FN,GA,if_true,Aq,AK,or_false] at hw
  rcases hw with rfl | rfl
  ·exact Gi rfl (by simp +decide only[↓Em,ne_eq,g12];rfl)
  ·exact Gi rfl (by simp +decide only[↓Em];rfl)
 refine Zl (J9 g6 g7 g10 g12 y6 y7 @GZ @Qj (J7 @Qk @IY @NZ s11 sl sa sd)) ?_
 have hE:EK w e la=(w2,⟨e,x1.2.asks,ob,x1.2.sent.map GF.msg⟩,0):=by
  unfold EK;rw[if_neg dO,if_pos he];simp only[<- hx1,hob,hw2]
 refine⟨by simp only[H5];omega,A,aV,x,?_,?_,?_,?_⟩
 ·rw[hE]
 ·rw[hE];exact rA
 ·rw[hE];exact hx.rd
 ·rw[hE]
  exact yw.D8 (Af _) (λj hj=>by
   have:=hnA2 j hj;rw[ET _ _ _ _ _ _ _ dO,ET _ _ _ _ _ _ _ dO])
def x8(w:E4)(a b c d:VV):List VV:=[vl w.c.programs,vl w.c.first,vl w.c.restarts,vl w.c.requests,vi w.c.crashes,vi w.c.drops,vi w.c.dups,vi w.c.drift,a,vl w.flight,b,vl w.obs,c,d,vl w.covered,vi w.steps]
def WH(id z:Nat)(cs:List VV)(w:E4)(a b c d:VV):Gm id z cs (.agg (x8 w a b c d))=.agg (x8 w (Gm id z cs a) (Gm id z cs b) (Gm id z cs c) (Gm id z cs d)):=by
 rw[rH];unfold x8;simp only[Au,AD,WJ,gL]
def U5{id j:Nat}(h:j≠id)(z n:Nat)(cs:List VV):Gm id z cs (.slice j 0 n n)=.slice j 0 n n:=by
 rw[Gm,if_neg (λe=>h e.1)]
def WK{α:Type}[DZ α](id:Nat)(l:List α):Gm id (DZ.w α) (D4 l) (.slice id 0 l.length l.length)=vl l:=
 ns id _ _ _ (ES l)
def Rd.fz{α:Type}[DZ α]{v:VV}{l:List α}(h:Rd v l)(id z:Nat)(cs:List VV):Gm id z cs v=v:=by
 rcases h with ⟨rfl,_⟩ | ⟨t,rfl⟩ | rfl
 ·rw[Gm]
 ·unfold vo;rw[Gm]
 ·rw[WJ]
def RE{id z:Nat}{cs:List VV}{e:Fu}{a x:VV}{ob:Bool}(ha:Gm id z cs a=a)(hx:Gm id z cs x=x):Gm id z cs (.agg (Lc e a ob x))=.agg (Lc e a ob x):=by
 rw[rH];unfold Lc;simp only[Au,AD,gL,ha,hx]
def jA(id z:Nat)(cs:List VV)(xs:List VV):Gm id z cs (.tup xs)=.tup (xs.map (Gm id z cs)):=by rw[Gm]
def LA.fz{α:Type}[DZ α]{σ:D1}{b i id:Nat}{l:List α}(h:LA σ b i l)(hne:i≠id):LA (σ.freeze id) b i l:=by
 obtain⟨t,q,h1,h2,h3,h4⟩:=h;exact⟨t,q,h1,h2,h3,by rw[Ec _ _ _ hne];exact h4⟩
def VG.fzW{P:Program}[Prim P]{g:Go.Fn}{args:List VV}{σ:D1}{b:Nat}{w:E4}{s:I6}{n:Int}(h:VG P g args σ (λr σ'=>b<=σ'.low/\∃ (A:Ig) (a x:VV),r=.tup [.agg (WV w A),.agg (Lc s.ev a s.obs x),vi n]/\Rd a s.asks/\Rd x s.sent/\WR σ' b w A)) :
  VG P g args σ (λr σ'=>b<=σ'.low/\r.fg=.tup [.agg (DZ.e w),.agg (DZ.e s),vi n]):=by
 have k1:=VG.fz (Q':=λr σ'=>b<=σ'.low/\∃ (A:Ig) (a x:VV),r=.tup [.agg (x8 w (vl w.nodes) (.slice A.x 0 w.next.length w.next.length) (.slice A.f 0 w.failures.length w.failures.length) (.slice A.t 0 w.traces.length w.traces.length)),.agg (Lc s.ev a s.obs x),vi n]/\Rd a s.asks/\Rd x s.sent/\LA σ' b A.x w.next/\LA σ' b A.f w.failures/\LA σ' b A.t w.traces/\A.x≠A.f/\A.x≠A.t/\A.f≠A.t) h (by
  rintro v σ' ⟨hlo,A,a,x,rfl,ha,hx,hw⟩;obtain⟨t,q,h1,h2,h3,h4⟩:=hw.n;refine⟨_,_,_,_,_,h4,by rw[Fj];omega,A,a,x,?_,ha,hx,hw.x.fz (BR hw.nx),hw.f.fz (BR hw.nf),hw.t.fz (BR hw.nt),hw.xf,hw.xt,hw.ft⟩;rw[jA];simp only[Au,AD,gL,RE (ha.fz _ _ _) (hx.fz _ _ _)];rw[show WV w A=x8 w (.slice A.n 0 w.nodes.length w.nodes.length) (.slice A.x 0 w.next.length w.next.length) (.slice A.f 0 w.failures.length w.failures.length) (.slice A.t 0 w.traces.length w.traces.length) from rfl,WH,WK,U5 (BR hw.nx),U5 (BR hw.nf),U5 (BR hw.nt)])
 have k2:=VG.fz (Q':=λr σ'=>b<=σ'.low/\∃ (A:Ig) (a x:VV),r=.tup [.agg (x8 w (vl w.nodes) (vl w.next) (.slice A.f 0 w.failures.length w.failures.length) (.slice A.t 0 w.traces.length w.traces.length)),.agg (Lc s.ev a s.obs x),vi n]/\Rd a s.asks/\Rd x s.sent/\LA σ' b A.f w.failures/\LA σ' b A.t w.traces/\A.f≠A.t) k1 (by
  rintro v σ' ⟨hlo,A,a,x,rfl,ha,hx,hwx,hwf,hwt,e1,e2,e3⟩;obtain⟨t,q,h1,h2,h3,h4⟩:=hwx;refine⟨_,_,_,_,_,h4,by rw[Fj];omega,A,a,x,?_,ha,hx,hwf.fz (BR e1),hwt.fz (BR e2),e3⟩;rw[jA];simp only[Au,AD,gL,RE (ha.fz _ _ _) (hx.fz _ _ _)];rw[WH,WJ,WK,U5 (BR e1),U5 (BR e2)])
 have k3:=VG.fz (Q':=λr σ'=>b<=σ'.low/\∃ (A:Ig) (a x:VV),r=.tup [.agg (x8 w (vl w.nodes) (vl w.next) (vl w.failures) (.slice A.t 0 w.traces.length w.traces.length)),.agg (Lc s.ev a s.obs x),vi n]/\Rd a s.asks/\Rd x s.sent/\LA σ' b A.t w.traces) k2 (by
  rintro v σ' ⟨hlo,A,a,x,rfl,ha,hx,hwf,hwt,e3⟩;obtain⟨t,q,h1,h2,h3,h4⟩:=hwf;refine⟨_,_,_,_,_,h4,by rw[Fj];omega,A,a,x,?_,ha,hx,hwt.fz (BR e3)⟩;rw[jA];simp only[Au,AD,gL,RE (ha.fz _ _ _) (hx.fz _ _ _)];rw[WH,WJ,WJ,WK,U5 (BR e3)])
 refine VG.fz k3 ?_;rintro v σ' ⟨hlo,A,a,x,rfl,ha,hx,hwt⟩;obtain⟨t,q,h1,h2,h3,h4⟩:=hwt;refine⟨_,_,_,_,_,h4,by rw[Fj];omega,?_⟩;rw[jA];simp only[Au,AD,gL,RE (ha.fz _ _ _) (hx.fz _ _ _)];rw[WH,WJ,WJ,WJ,WK];unfold x8 Lc;simp only[ha.fg,hx.fg,fG];rfl
set_option maxHeartbeats 1000000 in
def Qo(w:E4)(h:JI w)(e:Fu)(la:List Gy)(hl:la.length<=100000):VD Tryz.prog 34 [.agg (DZ.e w),.agg (DZ.e e),vl la] (.tup [.agg (DZ.e (EK w e la).1),.agg (DZ.e (EK w e la).2.1),vi (EK w e la).2.2]):=by
 intro σ;have hst:=h.st;have hi:=h.inv;have q15:((DZ.e w).drop 15).take 1=[vi w.steps]:=rfl;have hen:=M0 w hi dO e;rcases (show 5000<=w.steps\/w.steps < 5000 by omega) with h5 | h5
 ·refine Ea XF34 ?_
  have hE:EK w e la=(w,Ut,2):=by unfold EK;rw[if_pos h5]
  have k5:(w.steps >= 5000)=True:=eq_true h5;rw[hE]
  refine Zl (J6 @xf34.eq_1 q15 k5 @E7 @F3 @EH) ?_
  exact⟨rfl,rfl⟩
 ·have k5:(w.steps >= 5000)=False:=eq_false dO
  by_cases he:e∈FO w
  ·exact VG.fzW (mC w h e la hl h5 he σ)
  ·have hd:decide (e∈FO w)=false:=decide_eq_false he
   rw[hd] at hen;have hE:EK w e la=(w,Ut,21):=by unfold EK;rw[if_neg dO,if_neg he]
   rw[hE];refine Ea XF34 ?_
   (repeat' (first | refine Zl (J7 @xf34.eq_1 q15 k5 @E7 @F3 @EH hd) ?_ | refine Zz0 hen λgn=>?_ | fail))
   exact⟨rfl,rfl⟩
end
def GJ(s:I6):(Eb s).length=s.asks.length:=by unfold Eb;rw[AJ]
def WL{s:I6}{i:Nat}(hi:i < (Eb s).length)(h2:i < s.asks.length):(Eb s)[i]'hi=⟨s.asks[i].q,s.asks[i].n⟩:=AZ _
def VG.Aec{P:Program}[Prim P]{α:Type}[DZ α]{g:Go.Fn}{args:List VV}{σ:D1}{l:List α}(h:VG P g args σ (λv σ'=>σ.next<=σ'.low/\Mt σ' σ.next v l/\(l=[]->v=EA))):VG P g args σ (λv σ'=>σ.next<=σ'.low/\v.fg=vl l):=by
 by_cases hl:l=[]
 ·subst hl
  exact VG.mono h λv σ' ⟨h1,_,h3⟩=>⟨h1,by rw[h3 rfl];exact (App.nil σ' 0).fg⟩
 ·refine VG.mono (VG.own (l:=l) (VG.mono h λv σ' ⟨h1,h2,_⟩=>⟨h1,?_⟩)) λv σ' ⟨a,b⟩=>⟨a,b.fg⟩
  rcases h2 with ⟨h2,_⟩ | ⟨id,rfl,h3⟩
  ·exact absurd h2 hl
  ·exact h3.rw rfl
section
variable [Prim Tryz.prog]
set_option maxHeartbeats 1000000 in
def Pt(s:I6)(ha:s.asks.length<=1000)(σ:D1):VC Tryz.prog 16 [.agg (DZ.e s)] σ (λr σ'=>σ.next<=σ'.low/\Mt σ' σ.next r (Eb s)/\(Eb s=[]->r=EA)):=by
 have q8:((DZ.e s).drop 8).take 1=[vl s.asks]:=rfl;refine HU XF16 (λN=>?_);unfold xf16;dsimp only;refine El.seq (El.of ?_)
 refine Zl @Kv ?_
 refine El.at (λfe Y hfe hY=>?_);have f1:fe 1=.ptr σ.next 0:=by rw[hfe];simp +decide only[↓Em,wA]
 have y1:Y.heap σ.next=.cells (DZ.e s) 78 11 σ.next:=by rw[hY];simp +decide only[wA,↓reduceIte]
 have yl:σ.next<=Y.low:=by rw[hY];simp only[lW];omega
 have yn:σ.next<=Y.next:=by rw[hY];simp only[lW];omega
 clear hY hfe;refine El.freeze (d:=1) f1 y1 ?_;refine El.of ?_
 refine Zy0 ?_
 refine Ek 0 (λm fe Z=>fe 1=.ep (DZ.e s) 0/\σ.next<=Z.low/\σ.next<=Z.next/\∃ (i:Nat) (x:VV),fe 4=vi i/\fe 3=x/\m+i=s.asks.length/\Mt Z σ.next x ((Eb s).take i)/\(i=0->x=EA))
  (λfe Z=>σ.next<=Z.low/\∃ x,fe 3=x/\Mt Z σ.next x (Eb s)/\(Eb s=[]->x=EA)) s.asks.length ?_ ?_ ?_
 ·refine Zy0 ?_
  refine⟨by simp only[Fj];omega,yn,0,EA,rfl,rfl,rfl,.inl ⟨rfl,rfl⟩,λ_=>rfl⟩
 ·rintro m fe Z ⟨f1,zl,zn,i,x,f4,f3,hm,hx,h0⟩
  (repeat' (first | refine Zl (J8 f1 f3 f4 q8 @Kv @GZ @hx.s7 @hx.FE) ?_ | refine Zb (λ_ gd=>?_) λ_ gd=>?_ | fail))
  ·have hi:i < (Eb s).length:=by rw[GJ];omega
   refine GC.one ((Eb s)[i]'hi) rfl rfl rfl (by rw[WL hi dO];rfl) ?_
   refine Zl (J8 f1 f3 f4 q8 @Kv @GZ @hx.s7 @hx.FE) ?_
   refine D5.rwN (b:=σ.next) (l:=(Eb s).take i) (m:=[(Eb s)[i]'hi]) (hx.D8 (by simp only[Hq];omega) (λj hj hr=>by simp +decide only[wA])) (by simp only[Hq];omega) iN (EN _ _ _ rfl) rfl (by rw[As];unfold reach;simp;omega) iF ?_;intro id1 τ k1 k2 k3 k4 k5 k6;simp only[lW] at k2 k3 k4 k5 k6
   refine Zl (J3 f1 f3 f4) ?_
   rw[<- BE hi] at k1;have hl:((Eb s).take i).length+1=((Eb s).take (i+1)).length:=by rw[As,As];omega
   refine⟨m - 1,dO,dO,dO,i+1,_,JQ dO,rfl,dO,.inr ⟨id1,by rw[<- hl],k1⟩,λh=>dO⟩
  ·have e:(Eb s).take i=Eb s:=Aj (by rw[GJ];omega)
   rw[e] at hx;exact⟨zl,x,rfl,hx,λh=>h0 (by have:=GJ s;rw[h] at this;simp only[Ap] at this;omega)⟩
 ·rintro fe Z ⟨zl,x,f3,hx,h0⟩
  refine Zl f3 ?_
  exact⟨zl,hx,h0⟩
def Pu(s:I6)(ha:s.asks.length<=1000):VD Tryz.prog 16 [.agg (DZ.e s)] (vl (Eb s)):=λσ=>VG.Aec (Pt s ha σ)
def WM(s:I6)(ha:s.asks.length<=1000)(h0:s.asks≠[])(σ:D1):VC Tryz.prog 16 [.agg (DZ.e s)] σ (λr σ'=>σ.next<=σ'.low/\Rw σ' σ.next r (Eb s)):=by
 refine VG.mono (Pt s ha σ) λv σ' ⟨h1,h2,_⟩=>⟨h1,?_⟩
 rcases h2 with ⟨h2,_⟩ | ⟨id,rfl,h3⟩
 ·have:=GJ s
  rw[h2] at this;exact absurd (Ak this.symm) h0
 ·exact h3.rw rfl
end
def W5.n4{w:E4}{e:Fu}{s:I6}(h:W5 w e s)(hw:JI w)(hD:KL w.c):s.asks.length<=4/\∀ a∈s.asks,0<=a.n/\a.n < a.arity/\a.arity<=4:=by
 obtain⟨la,ha,_⟩:=h.asks hw hD;exact⟨ha.len,λa h=>by have:=ha.range h;have:=ha.ok a h;omega⟩
def W5.val{w:E4}{e:Fu}{s:I6}(h:W5 w e s)(hw:JI w)(hD:KL w.c):Mu 4 s.asks < 625:=iy 4 s.asks λa ha=>by have:=(h.n4 hw hD).2 a ha;omega
def mD{s:I6}{k:Nat}{a:Ask}(h:s.asks[k]? = some a):((Eb s).set k ⟨a.q,a.n+1⟩).take (k+1)=IJ s k:=by
 obtain⟨hk,rfl⟩:=Am.1 h;have hl:=GJ s;unfold IJ;rw[BE (by rw[A7];omega),List.take_set_of_le (Af _),List.getElem_set_self,List.getD,h];rfl
def Ey.fzL{P:Program}[Prim P]{σ:D1}{f:FuncId}{args args2:List VV}{R:VV->Prop}{K:VV->D1->Bool->Prop}{id z q:Nat}{cs:List VV}{t:TypeId}(hg:σ.heap id=.cells cs t z q)(ha:(args.map (Gm id z cs)).map VV.fg=args2)(h:∀ τ,VC P f args2 τ (λr σ'=>τ.next<=σ'.low/\R r.fg))
  (hq:∀ v σ',R v->v.fg=v->σ.next<=σ'.next->min σ.low id<=σ'.low->(∀ j,j < σ.next->j≠id->σ'.heap j=σ.heap j)->(∀ j,j < σ.next->σ'.live j=σ.live j)->K v σ' false):@Ey P _ f args ⟨((false,false),σ,K)⟩:=by
 show Z4 P (false,false) (.func f) args σ K
 have h0:VG P (.func f) (args.map (Gm id z cs)) (σ.freeze id) (λr σ'=>(σ.freeze id).next<=σ'.low/\R r/\r.fg=r):=by
  refine VG.mono (VG.ju (VC.fg (by rw[<- ha];exact UF.map _) (h (σ.freeze id)))) ?_;rintro v σ' ⟨v0,rfl,h1,h2⟩;exact⟨h1,h2,U1 _⟩
 have h1:=VG.YS h0;intro S args' a1 a2;obtain⟨f1,f2,f3⟩:=a1.freeze hg;refine XG.mono (h1 S args' f1 ⟨by rw[AJ];exact a2.1,λi b1 b2=>by rw[AZ];exact (a2.2 i (by rw[AJ] at b1;exact b1) b2).fz a1 hg⟩) ?_;rintro v' S' ⟨v,τ,k1,k2,k3,n,⟨hr,hfg⟩,hlow,rfl⟩;have t1:=f2.trans k2.join;refine⟨v,_,k1.join,⟨t1.next,t1.still,An t1.low a1.low,t1.D8⟩,k3,false,λh=>(by cases h),λh=>(by cases h),?_⟩;rw[D1.Ns hlow,D1.Pm];refine hq v _ hr hfg (AQ _ _) ?_ (λj hj hne=>?_) (λj hj=>rfl)
 ·show _<=min σ.low (min σ.low id);omega
 ·show (σ.freeze id).heap j=_
  exact Ec _ _ _ hne
structure ChI(σ:D1)(w:E4)(e:Fu)(b:Nat)(fe:FV)(Z:D1):Prop where
 f2:fe 2=.ep (DZ.e w) 0
 f3:fe 3=.ep (DZ.e e) 0
 f6:fe 6=.ptr b 0
 low:σ.next<=Z.low
 lb:σ.next<=b
 nb:b < Z.next
section
variable [Prim Tryz.prog]
set_option maxHeartbeats 1000000 in
def WN(w:E4)(h:JI w)(hD:KL w.c)(h5:w.steps < 5000)(e:Fu)(he:e∈FO w)(σ:D1):VC Tryz.prog 33 [.agg (DZ.e w),.agg (DZ.e e)] σ (λr σ'=>σ.next<=σ'.low/\∃ L:List I6,r.fg=vl L/\L≠[]/\(∀ s∈L,W5 w e s)/\L.length<=625):=by
 obtain⟨s0,hs0,hS0⟩:∃ s0,s0=(EK w e []).2.1/\(EK w e []).2.2=0:=by
  refine⟨_,rfl,?_⟩;unfold EK;rw[if_neg dO,if_pos he]
 have hI0:W5 w e s0:=⟨[],by rw[hs0,<- hS0]⟩
 have hstep:=Qo w h e [] iN;rw[<- hs0,hS0] at hstep;refine HU XF33 (λN=>?_);unfold xf33;dsimp only;refine El.seq (El.of ?_)
 refine Zl (J2 @EH @Qc) ?_
 refine El.at (λfe Y hfe hY=>?_);have f2:fe 2=.ptr σ.next 0:=by rw[hfe];simp +decide only[↓Em,wA]
 have f3:fe 3=.ptr (σ.next+1) 0:=by rw[hfe];simp +decide only[↓Em,wA]
 have y2:Y.heap σ.next=.cells (DZ.e w) 68 16 σ.next:=by rw[hY];simp +decide only[wA,↓reduceIte]
 have y3:Y.heap (σ.next+1)=.cells (DZ.e e) 74 8 (σ.next+1):=by rw[hY];simp +decide only[wA,↓reduceIte]
 have yl:σ.next<=Y.low:=by rw[hY];simp only[lW];omega
 have yn:σ.next+2<=Y.next:=by rw[hY];simp only[lW];omega
 clear hY hfe;refine El.freeze (d:=2) f2 y2 ?_;refine El.freeze (d:=3) (id:=σ.next+1) (by rw[D9 _ _ _ _ iF];exact f3) (by rw[Ec _ _ _ dO];exact y3) ?_;refine El.at (λfe2 X hfe hX=>?_);have g2:fe2 2=.ep (DZ.e w) 0:=by rw[hfe];simp +decide only[D9,FQ]
 have g3:fe2 3=.ep (DZ.e e) 0:=by rw[hfe];simp +decide only[FQ]
 have xn:X.next=Y.next:=by rw[hX];rfl
 have xl:σ.next<=X.low:=by rw[hX];simp only[Fj];omega
 clear hX hfe f2 f3;refine El.seq (El.of ?_);rw[show fe2=Hf fe2 3 (.ep (DZ.e e) 0) from (K2 g3).symm]
 (repeat' (first | refine Zl (J8 g2 g3 @E7 @F3 @EH @Qc @Kv @GZ) ?_ | refine Zz0 hstep λgn=>?_ | fail))
 refine El.seq (El.of ?_)
 refine Zl (J2 g2 g3) ?_
 refine El.seq (El.of ?_)
 refine Zl (J2 g2 g3) ?_
 refine El.at (λfe3 Z hfe hZ=>?_);have hI:ChI σ w e (X.next+gn+1) fe3 Z:=⟨by rw[hfe];simp +decide only[↓Em,wA];exact g2,by rw[hfe];simp +decide only[↓Em,wA],by rw[hfe];simp +decide only[↓Em,wA],by rw[hZ];simp only[lW];omega,dO,by rw[hZ];simp only[lW];omega⟩
 have z6:Z.heap (X.next+gn+1)=.cells (DZ.e s0) 78 11 (X.next+gn+1):=by
  rw[hZ,Bv];simp +decide only[wA,↓reduceIte]
 have f8:fe3 8=EA:=by rw[hfe];simp +decide only[↓Em];rfl
 clear hfe hZ;refine El.Pr (λfe Z=>σ.next<=Z.low/\∃ L:List I6,App Z σ.next (fe 8) L/\L≠[]/\(∀ s∈L,W5 w e s)/\L.length<=625) ?_ ?_
 ·refine El.block ?_
  generalize X.next+gn+1=b at *;refine El.jy 0 (λm fe Z=>ChI σ w e b fe Z/\∃ (s:I6) (L:List I6),Z.heap b=.cells (DZ.e s) 78 11 b/\W5 w e s/\App Z σ.next (fe 8) L/\(∀ s∈L,W5 w e s)/\L.length<=Mu 4 s.asks/\m+Mu 4 s.asks=625)
   (λfe Z=>σ.next<=Z.low/\∃ L:List I6,App Z σ.next (fe 8) L/\L≠[]/\(∀ s∈L,W5 w e s)/\L.length<=625) (625 - Mu 4 s0.asks) ?_ ?_ ?_
  ·exact⟨hI,s0,[],z6,hI0,by rw[f8];exact App.nil _ _,iN,iN,by have:=hI0.val h hD;omega⟩
  ·rintro m fe Z ⟨hI,s,L,z6,hS,hL,hLs,hLl,hm⟩
   obtain⟨g2,g3,g6,hlo,hlb,hnb⟩:=hI;have q8:((DZ.e s).drop 8).take 1=[vl s.asks]:=rfl;have n4:=hS.n4 h hD;have hv:=hS.val h hD;refine El.block ?_;refine El.seq (El.of ?_)
   refine Zl (J6 g2 g3 g6 z6 @Kv @F3) ?_
   refine GC.one s rfl rfl rfl (by rfl) ?_
   refine Zl (J4 g2 g3 g6 z6) ?_
   refine D5.app (α:=I6) (b:=σ.next) (l:=L) (m:=[s]) hL.Eg (EN _ _ _ rfl) rfl (by unfold reach;simp;omega) iF (by simp only[Hq];omega) (λr gn lo lv ga l1 l2 l3=>?_);simp only[Ji] at l1 l2
   refine Zl (J4 g2 g3 g6 z6) ?_
   refine El.seq (El.of ?_)
   refine Zl (J7 g2 g3 g6 z6 @Kv @F3 q8) ?_
   refine El.at (λfe3 V hfe hV=>?_);have k9:fe3 9=vi ((s.asks.length:Nat) - 1:Int):=by
    rw[hfe];simp +decide only[↓Em,wA];rw[Er dO dO]
   have kI:ChI σ w e b fe3 V:=⟨by rw[hfe];simp +decide only[↓Em,wA];exact g2,by rw[hfe];simp +decide only[↓Em,wA];exact g3,by rw[hfe];simp +decide only[↓Em,ne_eq];exact g6,by rw[hV];simp only[Qd];omega,hlb,by rw[hV];simp only[lW];omega⟩
   have k6:V.heap b=.cells (DZ.e s) 78 11 b:=by rw[hV];simp +decide only[wA];exact z6
   have k8:App V σ.next (fe3 8) (L++[s]):=by rw[hfe,hV];simp +decide only[↓Em,ne_eq];exact ga
   clear hfe hV g2 g3 g6 z6 hL ga hlo hnb;refine El.Pr (λfe Z=>ChI σ w e b fe Z/\Z.heap b=.cells (DZ.e s) 78 11 b/\App Z σ.next (fe 8) (L++[s])/\∃ j:Nat,fe 9=vi (j - 1:Int)/\j<=s.asks.length/\(j=0\/∃ k a,j=k+1/\s.asks[k]? = some a/\a.n+1≠a.arity)) ?_ ?_
   ·refine El.block ?_
    refine El.jy 2 (λm fe Z=>ChI σ w e b fe Z/\Z.heap b=.cells (DZ.e s) 78 11 b/\App Z σ.next (fe 8) (L++[s])/\fe 9=vi (m - 1:Int)/\m<=s.asks.length)
     (λfe Z=>ChI σ w e b fe Z/\Z.heap b=.cells (DZ.e s) 78 11 b/\App Z σ.next (fe 8) (L++[s])/\∃ j:Nat,fe 9=vi (j - 1:Int)/\j<=s.asks.length/\(j=0\/∃ k a,j=k+1/\s.asks[k]? = some a/\a.n+1≠a.arity)) s.asks.length ⟨kI,k6,k8,k9,Af _⟩ ?_ ?_
    ·rintro m fe Z ⟨⟨g2,g3,g6,hlo,hlb,hnb⟩,z6,hL,f9,hm⟩
     refine El.of ?_;rcases m with _ | k
     ·have e1:((((0:Nat):Int) - 1) >= 0)=False:=eq_false dO
      refine Zl (J7 g2 g3 g6 z6 f9 e1 q8) ?_
      exact⟨⟨by simp +decide only[D9];exact g2,by simp +decide only[D9];exact g3,by simp +decide only[D9];exact g6,hlo,hlb,hnb⟩,hL,0,rfl,AM _,.inl rfl⟩
     ·have e2:(((k+1:Nat):Int) - 1)=(k:Int):=dO
      have e1:((k:Int) >= 0)=True:=eq_true dO;rw[e2] at f9;have hn:=n4.2 _ (Ao (show k < s.asks.length by omega));have e3:G0 ((s.asks[k]' dO).n+1)=(s.asks[k]' dO).n+1:=Er dO dO;have e4:G0 ((k:Int) - 1)=(k:Int) - 1:=Er dO dO
      (repeat' (first | refine Zl (J9 g2 g3 g6 z6 f9 e1 q8 e3 e4) ?_ | refine Zb (λ_ gd=>?_) λ_ gd=>?_ | fail))
      ·exact⟨k,dO,⟨by simp +decide only[D9];exact g2,by simp +decide only[D9];exact g3,by simp +decide only[D9];exact g6,hlo,hlb,hnb⟩,hL,rfl,dO⟩
      ·refine⟨⟨by simp +decide only[D9];exact g2,by simp +decide only[D9];exact g3,by simp +decide only[D9];exact g6,hlo,hlb,hnb⟩,hL,k+1,dO,dO,.inr ⟨k,_,rfl,Ah dO,?_⟩⟩
       assumption
    ·rintro fe Z h
     exact h
   ·rintro fe Z ⟨⟨g2,g3,g6,hlo,hlb,hnb⟩,z6,hL,j,f9,hj,hjj⟩
    rcases hjj with rfl | ⟨k,a,rfl,hka,han⟩
    ·have e1:((((0:Nat):Int) - 1) < 0)=True:=eq_true dO
     refine El.seq (El.of ?_)
     refine Zl (J7 g2 g3 g6 z6 f9 e1 q8) ?_
     exact⟨hlo,L++[s],hL,iN,λx hx=>by
      rcases Aw.mp hx with hx | hx
      ·exact hLs x hx
      ·rw[AG.mp hx];exact hS,by rw[Ad,Br];omega⟩
    ·have e2:(((k+1:Nat):Int) - 1)=(k:Int):=dO
     have e1:((k:Int) < 0)=False:=eq_false dO;have e3:=JQ (show k<=1000000000 by omega);rw[e2] at f9;obtain⟨hb1,hb2,hb3⟩:=hS.Adb h hD hka han;obtain⟨s',hs'⟩:∃ s',s'=(EK w e (IJ s k)).2.1:=⟨_,rfl⟩
     rw[<- hs'] at hb1 hb2;refine El.seq (El.of ?_)
     refine Zl (J7 g2 g3 g6 z6 f9 e1 q8) ?_
     refine El.seq (El.of ?_)
     refine Zl (J9 g2 g3 g6 z6 f9 e1 q8 @Kv @F3) ?_
     refine Ey.goW (WM s dO (by intro hh;rw[hh] at hj;simp at hj) _) ?_;intro id τ t q q1 q2 q3 q4 q5 q6 q7 q8 q9;have r6:=(q8 b hnb).trans z6
     (repeat' (first | simp +decide only[↓Em,wA,f9,e3]))
     have hal:=GJ s;have hka2:(Eb s)[k]? = some ⟨a.q,a.n⟩:=by unfold Eb;rw[BI,hka];rfl
     have ha3:G0 (a.n+1)=a.n+1:=by have:=n4.2 a (AF hka);exact Er dO dO
     refine LZ q4 dO dO ?_;rw[B8]
     (repeat' (first | simp +decide only[↓Em,wsU]))
     refine El.at (λfe4 U hfe hU=>?_);have k10:fe4 10=.slice id 0 (k+1) (Eb s).length:=by rw[hfe];simp +decide only[↓Em,eq_self]
     have k9:fe4 9=vi k:=by rw[hfe];simp +decide only[↓Em,ne_eq];exact f9
     have k8:fe4 8=fe 8:=by rw[hfe];simp +decide only[↓Em,wA]
     have k2:fe4 2=.ep (DZ.e w) 0:=by rw[hfe];simp +decide only[↓Em,wA];exact g2
     have k3:fe4 3=.ep (DZ.e e) 0:=by rw[hfe];simp +decide only[↓Em,wA];exact g3
     have k6:fe4 6=.ptr b 0:=by rw[hfe];simp +decide only[↓Em,ne_eq];exact g6
     have uL:App U σ.next (fe 8) (L++[s]):=hL.D8 (by rw[hU];exact q5) (λt ht _=>by rw[hU];exact q9 t ht);have u6:U.heap b=.cells (DZ.e s) 78 11 b:=by rw[hU];exact r6
     have u10:U.heap id=.cells (D4 (Eb s)) t 6 q:=by rw[hU];exact q4
     have ul:σ.next<=U.low:=by rw[hU];omega
     have un:b < U.next:=by rw[hU];omega
     have un2:id < U.next:=by rw[hU];omega
     have hbi:b < id:=dO
     have uq:σ.next<=q:=dO
     clear hfe hU q1 q2 q3 q4 q5 q6 q7 q8 q9 r6 hL g2 g3 g6 z6 f9;obtain⟨p1,p2⟩:=Y6 (z:=6) rfl hka2 5 1 iF;refine El.seq (El.of ?_)
     (repeat' (first | simp +decide only[↓Em,wA,↓reduceIte,Nat.reduceAdd,D0,k9,k10,u10,p1,p2,ha3] | ((with_reducible refine HZ ?_ ?_ ?_);(omega);(omega))))
     refine El.at (λfe5 T hfe hT=>?_);have j10:fe5 10=.slice id 0 (k+1) (Eb s).length:=by rw[hfe];simp +decide only[↓Em,ne_eq];exact k10
     have j8:fe5 8=fe 8:=by rw[hfe];simp +decide only[↓Em,ne_eq];exact k8
     have j2:fe5 2=.ep (DZ.e w) 0:=by rw[hfe];simp +decide only[↓Em,wA];exact k2
     have j3:fe5 3=.ep (DZ.e e) 0:=by rw[hfe];simp +decide only[↓Em,wA];exact k3
     have j6:fe5 6=.ptr b 0:=by rw[hfe];simp +decide only[↓Em,ne_eq];exact k6
     have tL:App T σ.next (fe 8) (L++[s]):=by rw[hT];exact uL.write _ _ _ _ _
     have b1:(b=id)=False:=eq_false dO;have t6:T.heap b=.cells (DZ.e s) 78 11 b:=by rw[hT];simp +decide only[wA,↓reduceIte,b1];exact u6
     have t10:T.heap id=.cells (D4 ((Eb s).set k ⟨a.q,a.n+1⟩)) t 6 q:=by
      rw[hT,<- MZ (z:=6) rfl hka2 5 (vi (a.n+1)) iF rfl];simp +decide only[wA,↓reduceIte,Nat.reduceAdd]
     have tl:σ.next<=T.low:=by rw[hT];simp only[H5];omega
     have tn:b < T.next:=by rw[hT];simp only[HR];exact un
     have tn2:id < T.next:=by rw[hT];simp only[HR];exact un2
     clear hfe hT k2 k3 k6 k8 k9 k10 u6 u10 ul un un2 uL;have hst:=Qo w h e (IJ s k) (by unfold IJ;rw[Ad,As,Br];omega);rw[<- hs',hb3] at hst;refine El.seq (El.of ?_);rw[show fe5=Hf fe5 2 (.ep (DZ.e w) 0) from (K2 j2).symm]
     (repeat' (first | simp +decide only[↓Em,wA,↓reduceIte,Nat.reduceAdd,j3,j10,GZ]))
     have q0:Gm id 6 (D4 ((Eb s).set k ⟨a.q,a.n+1⟩)) (.slice id 0 (k+1) (Eb s).length)=vl (IJ s k):=by
      have hl:((Eb s).set k ⟨a.q,a.n+1⟩).length=(Eb s).length:=A7;rw[Gm,if_pos ⟨rfl,dO,by rw[ES,hl];have:(k+1) * 6<=(Eb s).length * 6:=AL _ dO;rw[A8];exact this⟩,Bu,<- mD hka];have ht:=OB ((Eb s).set k ⟨a.q,a.n+1⟩) (k+1);unfold vl;rw[<- ht,As,hl,Bl dO];rfl
     refine Ey.fzL (id:=id) (z:=6) (t:=t) (q:=q) (cs:=D4 ((Eb s).set k ⟨a.q,a.n+1⟩)) (R:=λv=>v=.tup [.agg (DZ.e (EK w e (IJ s k)).1),.agg (DZ.e s'),vi 0]) t10 ?_ (λτ=>hst τ) (λv σ' hv hvf hn hlow hh hlv=>?_)
     ·simp only[rH,WJ,gL,q0,fG]
      rfl
     ·subst hv
      have hk6:=(hh b tn dO).trans t6;have hL2:App σ' σ.next (fe 8) (L++[s]):=tL.D8 hn (λt ht _=>hlv t ht);have hbn:(b < σ'.next)=True:=eq_true dO
      (repeat' (first | simp +decide only[↓Em,wA,↓reduceIte,Nat.reduceAdd,D0]))
      refine El.at (λfe6 W hfe hW=>?_);have m2:fe6 2=.ep (DZ.e w) 0:=by rw[hfe];simp +decide only[↓Em,wA]
      have m3:fe6 3=.ep (DZ.e e) 0:=by rw[hfe];simp +decide only[↓Em,wA];exact j3
      have m6:fe6 6=.ptr b 0:=by rw[hfe];simp +decide only[↓Em,ne_eq];exact j6
      have m8:fe6 8=fe 8:=by rw[hfe];simp +decide only[↓Em,ne_eq];exact j8
      have m12:fe6 12=.ptr (σ'.next+1) 0:=by rw[hfe];simp +decide only[↓Em,wA]
      have n12:W.heap (σ'.next+1)=.cells (DZ.e s') 78 11 (σ'.next+1):=by rw[hW];simp +decide only[wA,↓reduceIte]
      have b2:∀ x,(b=σ'.next+x)=False:=λx=>eq_false dO
      have b3:(b=σ'.next)=False:=eq_false dO;have n6:W.heap b=.cells (DZ.e s) 78 11 b:=by rw[hW];simp +decide only[wA,↓reduceIte,b2,b3];exact hk6
      have nl:σ.next<=W.low:=by rw[hW];simp only[lW];omega
      have nn:b < W.next:=by rw[hW];simp only[lW];omega
      have nL:App W σ.next (fe 8) (L++[s]):=by rw[hW];exact hL2.D8 ah0 (λt ht _=>rfl)
      clear hfe hW;refine El.of ?_
      (repeat' (first | simp +decide only[↓Em,wA,↓reduceIte,Nat.reduceAdd,D0,m6,m12,n12,n6]))
      have hv':=hb1.val h hD;refine⟨625 - Mu 4 s'.asks,dO,⟨by simp +decide only[D9];exact m2,by simp +decide only[D9];exact m3,by simp +decide only[D9];exact m6,by simp only[H5];omega,hlb,by simp only[HR];omega⟩,s',L++[s],rfl,hb1,by rw[m8];exact nL.write _ _ _ _ _,λx hx=>by
       rcases Aw.mp hx with hx | hx
       ·exact hLs x hx
       ·rw[AG.mp hx];exact hS,by rw[Ad,Br];omega,dO⟩
  ·rintro fe Z h
   exact h
 ·rintro fe Z ⟨hlo,L,hL,hL0,hLs,hLl⟩
  refine El.of ?_
  refine Zy0 ?_
  exact⟨hlo,L,hL.fg,hL0,hLs,hLl⟩
end
structure tm(σ:D1)(l:List Int)(b:Nat)(w:E4)(fe:FV)(Z:D1):Prop where
 f1:fe 1=vl l
 f5:fe 5=.ptr (σ.next+1) 0
 f6:fe 6=.ptr b 0
 low:σ.next<=Z.low
 lb:σ.next+2<=b
 nb:b < Z.next
 z5:Z.heap (σ.next+1)=.cells Hb 68 16 (σ.next+1)
 z6:Z.heap b=.cells (DZ.e w) 68 16 b
def tm.mv{σ:D1}{l:List Int}{b:Nat}{w:E4}{fe fe':FV}{Z:D1}(h:tm σ l b w fe Z)(e1:fe' 1=fe 1)(e5:fe' 5=fe 5)(e6:fe' 6=fe 6):tm σ l b w fe' Z:=⟨e1.trans h.f1,e5.trans h.f5,e6.trans h.f6,h.low,h.lb,h.nb,h.z5,h.z6⟩
section
variable [Prim Tryz.prog]
set_option maxHeartbeats 1000000 in
def mE(c:I2)(hc:Qs c)(hD:KL c)(hf:c.first.length<=12)(hq:c.requests.length<=100000)(l:List Int)(hl:l.length<=1000000)(hli:∀ x∈l,Uf x)(σ:D1):VC Tryz.prog 15 [.agg (DZ.e c),vl l] σ (λr σ'=>σ.next<=σ'.low/\∃ (run:List I6) (w:E4),r.fg=.tup [vl run,.agg (DZ.e w)]/\Ju (JU c) run w/\run.length<=30):=by
 have hnew:=mz c hf hq;refine HU XF15 (λN=>?_);unfold xf15;dsimp only;refine El.seq (El.of ?_)
 refine Zl @JN ?_
 refine El.seq (El.of ?_)
 (repeat' (first | refine Zl (J3 @F3 @EH @JN) ?_ | refine Zz0 hnew λgn=>?_ | fail))
 refine El.seq (El.of ?_)
 refine Zy0 ?_
 refine El.at (λfe Y hfe hY=>?_);have hI:tm σ l (σ.next+(2+gn)) (JU c) fe Y:=⟨by rw[hfe];simp +decide only[↓Em,wA],by rw[hfe];simp +decide only[↓Em,wA],by rw[hfe];simp +decide only[↓Em,wA],by rw[hY];simp only[lW];omega,dO,by rw[hY];simp only[lW];omega,by rw[hY];simp +decide only[wA,↓reduceIte,Nat.reduceAdd,PC];rfl,by rw[hY];simp +decide only[wA,↓reduceIte]⟩
 have f7:fe 7=EA:=by rw[hfe];simp +decide only[↓Em];rfl
 clear hY hfe;generalize σ.next+(2+gn)=b at *;refine El.Pr (λfe Z=>∃ (w:E4) (b:Nat) (run:List I6),tm σ l b w fe Z/\Ju (JU c) run w/\run.length<=30/\App Z σ.next (fe 7) run) ?_ ?_
 ·refine El.seq (El.of ?_)
  refine Zy0 ?_
  refine El.block ?_;refine El.jy 0 (λm fe Z=>∃ (w:E4) (run:List I6) (i:Nat),tm σ l b w fe Z/\Ju (JU c) run w/\run.length=i/\i<=30/\m+i=30/\fe 8=vi i/\App Z σ.next (fe 7) run)
   (λfe Z=>∃ (w:E4) (b:Nat) (run:List I6),tm σ l b w fe Z/\Ju (JU c) run w/\run.length<=30/\App Z σ.next (fe 7) run) 30 ?_ ?_ ?_
  ·obtain⟨a1,a2,a3,a4,a5,a6,a7,a8⟩:=hI
   exact⟨JU c,[],0,⟨by simp +decide only[D9];exact a1,by simp +decide only[D9];exact a2,by simp +decide only[D9];exact a3,a4,a5,a6,a7,a8⟩,.nil,rfl,dO,rfl,by simp +decide only[FQ];rfl,by simp +decide only[D9];rw[f7];exact App.nil _ _⟩
  ·rintro m fe Z ⟨w,run,i,hI,hrun,hri,hi30,hm,f8,hL⟩
   obtain⟨f1,f5,f6,hlo,hlb,hnb,z5,z6⟩:=hI;obtain⟨hw,hwc⟩:=hrun.inv (Xk hc);have hws:w.steps=run.length:=by
    have:=hrun.steps;rw[this,show (JU c).steps=0 from rfl,Int.zero_add]
   have hDw:KL w.c:=by rw[hwc];exact hD
   have hen:=Pq w hw.inv dO;refine El.seq (El.of ?_);rcases (show ¬ (i < l.length/\i < 30)\/(i < l.length/\i < 30) by omega) with hstop | ⟨hil,hi3⟩
   ·have hW:tm σ l b w fe Z:=⟨f1,f5,f6,hlo,hlb,hnb,z5,z6⟩
    have hR:∀ fe':FV,fe' 1=fe 1->fe' 5=fe 5->fe' 6=fe 6->∃ (w:E4) (b:Nat) (run:List I6),tm σ l b w fe' Z/\Ju (JU c) run w/\run.length<=30/\App Z σ.next (fe 7) run:=λfe' a1 a5 a6=>⟨w,b,run,hW.mv a1 a5 a6,hrun,dO,hL⟩
    rcases (show ¬ (i < l.length)\/(i < l.length/\¬ i < 30) by omega) with h1 | ⟨h1,h2⟩
    ·have e2:((i:Int) < (l.length:Int))=False:=eq_false dO
     refine Zl (J3 f1 f8 e2) ?_
     exact hR _ (by simp +decide only[D9]) (by simp +decide only[D9]) (by simp +decide only[D9])
    ·have e2:((i:Int) < (l.length:Int))=True:=eq_true dO
     have e1:((i:Int) < 30)=False:=eq_false dO
     refine Zl (J4 f1 f8 e1 e2) ?_
     exact hR _ (by simp +decide only[D9]) (by simp +decide only[D9]) (by simp +decide only[D9])
   ·have e1:((i:Int) < 30)=True:=eq_true dO
    have e2:((i:Int) < (l.length:Int))=True:=eq_true dO
    refine Zl (J4 f1 f8 e1 e2) ?_
    refine El.seq ?_;refine El.block ?_;have har:=HC (n:=l[i]) (m:=1000000) (hli _ (Ao _)) dO;have haa:=Ly (l[i]) 1000000 dO;refine El.seq (El.of ?_)
    (repeat' (first | refine Zl (J2 f1 f8) ?_ | refine Zz0 haa λgn=>?_ | fail))
    refine El.seq (El.of ?_)
    (repeat' (first | refine Zl (J4 f6 z6 @E7 @EH) ?_ | refine Zz0 hen λgn=>?_ | fail))
    refine El.at (λfe2 Y hfe hY=>?_);obtain⟨n,hn⟩:∃ n,n=HY l[i] 1000000:=⟨_,rfl⟩
    obtain⟨E,hE⟩:∃ E,E=FO w:=⟨_,rfl⟩
    rw[<- hn] at har;have k9:fe2 9=vi n:=by rw[hfe];simp +decide only[↓Em,wA,hn]
    have k10:fe2 10=vl E:=by rw[hfe];simp +decide only[↓Em,eq_self,hE]
    have k1:fe2 1=vl l:=by rw[hfe];simp +decide only[↓Em,ne_eq];exact f1
    have k5:fe2 5=.ptr (σ.next+1) 0:=by rw[hfe];simp +decide only[↓Em,ne_eq];exact f5
    have k6:fe2 6=.ptr b 0:=by rw[hfe];simp +decide only[↓Em,ne_eq];exact f6
    have k7:fe2 7=fe 7:=by rw[hfe];simp +decide only[↓Em,wA]
    have k8:fe2 8=vi i:=by rw[hfe];simp +decide only[↓Em,ne_eq];exact f8
    have y5:Y.heap (σ.next+1)=.cells Hb 68 16 (σ.next+1):=by rw[hY];simp +decide only[wsU];exact z5
    have y6:Y.heap b=.cells (DZ.e w) 68 16 b:=by rw[hY];simp +decide only[wA];exact z6
    have yl:σ.next<=Y.low:=by rw[hY];simp only[GQ];exact hlo
    have yn:b < Y.next:=by rw[hY];simp only[FP];omega
    have yL:App Y σ.next (fe 7) run:=hL.D8 (by rw[hY];simp only[FP];omega) (λt ht _=>by rw[hY];rfl);clear hfe hY f1 f5 f6 z5 z6 hlo hnb hL haa hn;rcases Nat.eq_zero_or_pos E.length with hE0 | hE0
    ·have e3:((E.length:Int)=0)=True:=eq_true dO
     refine El.seq (El.of ?_)
     refine Zl (J2 k10 e3) ?_
     exact⟨w,b,run,(tm.mk k1 k5 k6 yl hlb yn y5 y6).mv (by simp +decide only[D9]) (by simp +decide only[D9]) (by simp +decide only[D9]),hrun,dO,by rw[k7];exact yL⟩
    ·have e3:((E.length:Int)=0)=False:=eq_false dO
     obtain⟨j,hj,hjl⟩:∃ j:Nat,n.tmod E.length=j/\j < E.length:=by
      have h1:=Bf (E.length:Int) har.1;have h2:=A2 n (show (0:Int) < E.length by omega);exact⟨(n.tmod E.length).toNat,dO,dO⟩
     have he:E[j]∈FO w:=by rw[<- hE];exact Ao _
     refine El.seq (El.of ?_)
     refine Zl (J2 k10 e3) ?_
     refine El.seq (El.of ?_)
     refine Zl (J8 k6 k9 k10 y6 @E7 @EH @F3 hj) ?_
     refine Ey.tg (R:=λv=>∃ L:List I6,v=vl L/\L≠[]/\(∀ s∈L,W5 w E[j] s)/\L.length<=625) (args2:=[.agg (DZ.e w),.agg (DZ.e E[j])]) (by simp only[fG];rfl) (WN w hw hDw dO _ he _) ?_;rintro _ g ⟨L,rfl,hL0,hLs,hLl⟩;have hLp:0 < L.length:=List.length_pos_iff.mpr hL0;obtain⟨k,hk,hkl⟩:∃ k:Nat,(n.tdiv 50).tmod L.length=k/\k < L.length:=by
      have h1:=Bf (L.length:Int) (DA har.1 (show (0:Int)<=50 by omega));have h2:=A2 (n.tdiv 50) (show (0:Int) < L.length by omega);exact⟨((n.tdiv 50).tmod L.length).toNat,dO,dO⟩
     have hS:=hLs _ (Ao hkl);obtain⟨hse,hss⟩:=hS.self hw hDw;have n4:=hS.n4 hw hDw;generalize hs:L[k]=s at *;obtain⟨w',hw'⟩:∃ w',w'=(EK w s.ev (Eb s)).1:=⟨_,rfl⟩
     have hst2:EK w s.ev (Eb s)=(w',s,0):=by rw[hw',<- hss]
     have hst:=Qo w hw s.ev (Eb s) (by rw[GJ];omega);rw[hst2] at hst;have hans:=Pu s dO;have w5:G0 (n.tdiv 50)=n.tdiv 50:=by
      rw[CD har.1];exact Er dO dO
     refine Zl (J8 k6 k9 k10 y6 @E7 @EH @F3 hj) ?_
     refine El.seq (El.of ?_)
     refine Zl (J9 k6 k9 k10 y6 @E7 @EH @F3 @Kv (J3 hk hs w5)) ?_
     refine El.at (λfe3 X hfe hX=>?_);have j1:fe3 1=vl l:=by rw[hfe];simp +decide only[↓Em,ne_eq];exact k1
     have j5:fe3 5=.ptr (σ.next+1) 0:=by rw[hfe];simp +decide only[↓Em,ne_eq];exact k5
     have j6:fe3 6=.ptr b 0:=by rw[hfe];simp +decide only[↓Em,ne_eq];exact k6
     have j7:fe3 7=fe 7:=by rw[hfe];simp +decide only[↓Em,ne_eq];exact k7
     have j8:fe3 8=vi i:=by rw[hfe];simp +decide only[↓Em,ne_eq];exact k8
     have j12:fe3 12=.ptr (Y.next+g) 0:=by rw[hfe];simp +decide only[↓Em,eq_self]
     have c1:∀ x,(b=Y.next+x)=False:=λx=>eq_false dO
     have c2:∀ x,(σ.next+1=Y.next+x)=False:=λx=>eq_false dO
     have x5:X.heap (σ.next+1)=.cells Hb 68 16 (σ.next+1):=by rw[hX];simp +decide only[wA,↓reduceIte,c2];exact y5
     have x6:X.heap b=.cells (DZ.e w) 68 16 b:=by rw[hX];simp +decide only[wA,↓reduceIte,c1];exact y6
     have x12:X.heap (Y.next+g)=.cells (DZ.e s) 78 11 (Y.next+g):=by rw[hX];simp +decide only[wA,↓reduceIte]
     have xl:σ.next<=X.low:=by rw[hX];simp only[lW];omega
     have xn:b < X.next:=by rw[hX];simp only[lW];omega
     have xn2:Y.next+g < X.next:=by rw[hX];simp only[lW];omega
     have xL:App X σ.next (fe 7) run:=yL.D8 (by rw[hX];simp only[lW];omega) (λt ht _=>by rw[hX];rfl);have xb:b < Y.next+g:=dO
     clear hfe hX yL y5 y6 yl k1 k5 k6 k7 k8 k9 k10 yn c1 c2;generalize Y.next+g=p at *;refine El.seq (El.of ?_)
     (repeat' (first | refine Zl (J8 j6 j12 x6 x12 @E7 @EH @F3 @Kv) ?_ | refine Zz0 hans λgn=>?_ | refine Zz0 hst λgn=>?_ | fail))
     refine El.at (λfe4 V hfe hV=>?_);have m1:fe4 1=vl l:=by rw[hfe];simp +decide only[↓Em,ne_eq];exact j1
     have m5:fe4 5=.ptr (σ.next+1) 0:=by rw[hfe];simp +decide only[↓Em,ne_eq];exact j5
     have m6:fe4 6=.ptr b 0:=by rw[hfe];simp +decide only[↓Em,ne_eq];exact j6
     have m7:fe4 7=fe 7:=by rw[hfe];simp +decide only[↓Em,ne_eq];exact j7
     have m8:fe4 8=vi i:=by rw[hfe];simp +decide only[↓Em,ne_eq];exact j8
     have m12:fe4 12=.ptr p 0:=by rw[hfe];simp +decide only[↓Em,ne_eq];exact j12
     have m13:∃ y,fe4 13=.ptr (X.next+y) 0/\V.heap (X.next+y)=.cells (DZ.e w') 68 16 (X.next+y):=by
      refine⟨_,by rw[hfe];simp +decide only[↓Em,ne_eq];rfl,by rw[hV];simp +decide only[wA,↓reduceIte]⟩
     have c1:∀ x,(b=X.next+x)=False:=λx=>eq_false dO
     have c2:∀ x,(σ.next+1=X.next+x)=False:=λx=>eq_false dO
     have c3:∀ x,(p=X.next+x)=False:=λx=>eq_false dO
     have v5:V.heap (σ.next+1)=.cells Hb 68 16 (σ.next+1):=by rw[hV];simp +decide only[wA,↓reduceIte,c2];exact x5
     have v12:V.heap p=.cells (DZ.e s) 78 11 p:=by rw[hV];simp +decide only[wA,↓reduceIte,c3];exact x12
     have v6:V.heap b=.cells (DZ.e w) 68 16 b:=by rw[hV];simp +decide only[wA,↓reduceIte,c1];exact x6
     have vl':σ.next<=V.low:=by rw[hV];simp only[lW];omega
     have vn:b < V.next:=by rw[hV];simp only[lW];omega
     have vn2:p < V.next:=by rw[hV];simp only[lW];omega
     have vL:App V σ.next (fe 7) run:=xL.D8 (by rw[hV];simp only[lW];omega) (λt ht _=>by rw[hV];rfl);clear hfe hV xL x5 x6 x12 xl xn xn2 j1 j5 j6 j7 j8 j12 c3;obtain⟨y,m13,v13⟩:=m13;have b2:(p=b)=False:=eq_false dO;have b3:(σ.next+1=b)=False:=eq_false dO;refine El.seq (El.of ?_)
     refine Zl (J9 m6 m12 m13 v6 v12 v13 @E7 @EH (J2 @F3 @Kv)) ?_
     refine El.of ?_
     refine Zl (J9 m6 m7 m12 m13 v6 v12 v13 b2 (J4 @E7 @EH @F3 @Kv)) ?_
     refine GC.one s rfl rfl rfl (by rfl) ?_
     refine Zl (J2 m6 m7) ?_
     refine D5.app (α:=I6) (b:=σ.next) (l:=run) (m:=[s]) (vL.write _ _ _ _ _).Eg (EN _ _ _ rfl) rfl (by unfold reach;simp;omega) iF ah0 (λr gn lo lv ga l1 l2 l3=>?_);simp only[lW] at l1 l2
     refine Zl (J2 m6 m7) ?_
     refine El.of ?_
     refine Zl m8 ?_
     have hrun2:Ju (JU c) (run++[s]) w':=.snoc hrun hst2;refine⟨m - 1,dO,w',run++[s],i+1,?_,hrun2,by rw[Ad,Br];omega,dO,dO,JQ dO,ga⟩;exact⟨by simp +decide only[D9];exact m1,by simp +decide only[D9];exact m5,by simp +decide only[D9];exact m6,by simp only[Qd];omega,hlb,ah0,by simp +decide only[wA,↓reduceIte,b3];exact v5,by simp +decide only[wA,↓reduceIte]⟩
  ·rintro fe Z h
   exact h
 ·rintro fe Z ⟨w,b,run,⟨f1,f5,f6,hlo,hlb,hnb,z5,z6⟩,hrun,hr30,hL⟩
  have b1:(σ.next+1=b)=False:=eq_false dO;refine El.of ?_
  refine Zl (J8 f1 f5 f6 z5 z6 @E7 @EH @NZ) ?_
  exact⟨hlo,run,w,⟨hL.fg,rfl,rfl,rfl,rfl,rfl,rfl,rfl,rfl,rfl,rfl,rfl,rfl,rfl,rfl,rfl,rfl⟩,hrun,hr30⟩
end
def x9(run:List I6):tf:=⟨run.map I6.ev,run.flatMap Eb⟩
def Ju.asks{w0 w:E4}{run:List I6}(h:Ju w0 run w)(h0:JI w0):∀ s∈run,s.asks.length<=501:=by
 induction h with
 | nil=>intro s hs;simp at hs
 | snoc hr hst ih=>
  rename_i l w w' s;intro x hx;rcases Aw.mp hx with hx | hx
  ·exact ih x hx
  ·rw[AG.mp hx]
   have:=(Ur (hr.inv h0).1 s.ev (Eb s)).1;rw[hst] at this;exact this
def mF(run:List I6)(h:∀ s∈run,s.asks.length<=501):(run.flatMap Eb).length<=run.length * 501:=by
 induction run with
 | nil=>simp
 | cons x run ih=>
  rw[Ds,Ad,GJ,Ag,Bd];have h1:=h x iN;have h2:=ih (λs hs=>h s (by simp[hs]));omega
section
variable [Prim Tryz.prog]
set_option maxHeartbeats 1000000 in
def mG(c:I2)(hc:Qs c)(hD:KL c)(hf:c.first.length<=12)(hq:c.requests.length<=100000)(l:List Int)(hl:l.length<=1000000)(hli:∀ x∈l,Uf x)(σ:D1):VC Tryz.prog 5 [.agg (DZ.e c),vl l] σ (λr σ'=>σ.next<=σ'.low/\∃ (run:List I6) (w:E4),r.fg=.agg (DZ.e (x9 run))/\Ju (JU c) run w/\run.length<=30):=by
 refine HU XF5 (λN=>?_);unfold xf5;dsimp only;refine El.seq (El.of ?_)
 refine Zl @JN ?_
 refine El.seq (El.of ?_)
 refine Zl (J3 @F3 @EH @JN) ?_
 refine Ey.tg (R:=λv=>∃ (run:List I6) (w:E4),v=.tup [vl run,.agg (DZ.e w)]/\Ju (JU c) run w/\run.length<=30) (args2:=[.agg (DZ.e c),vl l]) (by simp only[fG];rfl) (mE c hc hD hf hq l hl hli _) ?_;rintro _ g ⟨run,w,rfl,hrun,hr30⟩;have has:=hrun.asks (Xk hc)
 refine Zl (J3 @F3 @E7 @EH) ?_
 refine El.seq (El.of ?_)
 refine Zy0 ?_
 refine El.at (λfe Y hfe hY=>?_);have f4:fe 4=.ptr (σ.next+1) 0:=by rw[hfe];simp +decide only[↓Em,wA]
 have f5:fe 5=vl run:=by rw[hfe];simp +decide only[↓Em,wA]
 have f7:fe 7=.ptr (σ.next+(2+g)+1) 0:=by rw[hfe];simp +decide only[↓Em,wA]
 have y4:Y.heap (σ.next+1)=.cells [EA,EA] 31 2 (σ.next+1):=by rw[hY];simp +decide only[wA,↓reduceIte,Nat.reduceAdd,PC];rfl
 have y7:Y.heap (σ.next+(2+g)+1)=.cells [EA,EA] 31 2 (σ.next+(2+g)+1):=by rw[hY];simp +decide only[wA,↓reduceIte,Nat.reduceAdd];rfl
 have yl:σ.next<=Y.low:=by rw[hY];simp only[lW];omega
 have yn:σ.next+(2+g)+1 < Y.next:=by rw[hY];simp only[lW];omega
 clear hfe hY;obtain⟨b,hb⟩:∃ b,b=σ.next+(2+g)+1:=⟨_,rfl⟩
 rw[<- hb] at f7 y7 yn;have own0:FT Y σ.next [GB EA ([]:List Fu),GB EA ([]:List Gy)]:=((FT.nil _ _).Gr (α:=Gy)).Gr (α:=Fu);refine El.of ?_
 refine Zy0 ?_
 refine Ek 0 (λm fe Z=>fe 4=.ptr (σ.next+1) 0/\fe 5=vl run/\fe 7=.ptr b 0/\Z.heap (σ.next+1)=.cells [EA,EA] 31 2 (σ.next+1)/\σ.next<=Z.low/\b < Z.next/\∃ (i:Nat) (EV AV:VV),fe 8=vi i/\m+i=run.length/\Z.heap b=.cells [EV,AV] 31 2 b/\FT Z σ.next [GB EV ((run.take i).map I6.ev),GB AV ((run.take i).flatMap Eb)])
  (λfe Z=>fe 4=.ptr (σ.next+1) 0/\fe 7=.ptr b 0/\Z.heap (σ.next+1)=.cells [EA,EA] 31 2 (σ.next+1)/\σ.next<=Z.low/\b < Z.next/\∃ (EV AV:VV),Z.heap b=.cells [EV,AV] 31 2 b/\FT Z σ.next [GB EV (run.map I6.ev),GB AV (run.flatMap Eb)]) run.length ?_ ?_ ?_
 ·refine Zl (J3 f4 f5 f7) ?_
  exact⟨y4,yl,yn,0,EA,EA,rfl,rfl,y7,own0⟩
 ·rintro m fe Z ⟨f4,f5,f7,z4,zl,zn,i,EV,AV,f8,hm,z7,own⟩
  have b1:(σ.next+1=b)=False:=eq_false dO;have hE:=own.app (v:=EV) (l:=(run.take i).map I6.ev) iN;have hA:=own.app (v:=AV) (l:=(run.take i).flatMap Eb) iN;have c1:=hE.cs;have c2:=hA.cs;have c3:=hE.all;have c4:=hA.all;rcases (show i < run.length\/i=run.length by omega) with hi | hi
  ·have ha:=Pu run[i] (by have:=has _ (Ao hi);omega)
   have al:=mF (run.take i) (λs hs=>has s (Bm hs));rw[As,Bl dO] at al;have al2:=has _ (Ao hi)
   (repeat' (first | refine Zl (J9 f4 f5 f7 f8 z4 z7 b1 c1 (J3 c2 c3 c4)) ?_ | refine Zb (λ_ gd=>?_) λ_ gd=>?_ | fail))
   ·refine GC.one run[i].ev rfl rfl rfl (by rfl) ?_
    refine Zl (J9 f4 f5 f7 f8 z4 z7 b1 c1 (J3 c2 c3 c4)) ?_
    refine D5.La (l:=(run.take i).map I6.ev) (m:=[run[i].ev]) [] [GB AV ((run.take i).flatMap Eb)] own.Eg (EN _ _ _ rfl) rfl (by rw[AJ,As];unfold reach;simp only[Ag,Ap];omega) iF (by simp only[Hq];omega) (λra gn lo lv gown l1 l2 l3=>?_);have gA:=gown.app (v:=ra) (l:=(run.take i).map I6.ev++[run[i].ev]) iN;have c5:=gA.cs;have c6:=gA.all;simp only[Ji] at l1 l2
    (repeat' (first | refine Zl (J9 f4 f5 f7 f8 z4 z7 b1 c1 (J6 c2 c3 c4 c5 c6 @F3)) ?_ | refine Zz0 ha λgn=>?_ | fail))
    refine D5.La (l:=(run.take i).flatMap Eb) (m:=Eb run[i]) [GB ra ((run.take i).map I6.ev++[run[i].ev])] [] (gown.D8 ah0 (λt ht _=>rfl)) (Gf _ _ rfl) rfl (by rw[GJ];unfold reach;omega) iF ah0 (λrb gn2 lo2 lv2 gown2 l4 l5 l6=>?_);simp only[lW] at l4 l5
    refine Zl (J9 f4 f5 f7 f8 z4 z7 b1 c1 (J6 c2 c3 c4 c5 c6 @F3)) ?_
    have gB:=gown2.app (v:=rb) (l:=(run.take i).flatMap Eb++Eb run[i]) iN;have c7:=gB.cs;have c8:=gB.all
    refine Zl (J9 f4 f5 f7 f8 z4 z7 b1 c1 (J8 c2 c3 c4 c5 c6 c7 c8 @F3)) ?_
    have e1:(run.take (i+1)).map I6.ev=(run.take i).map I6.ev++[run[i].ev]:=by rw[BE hi,AX];rfl
    have e2:(run.take (i+1)).flatMap Eb=(run.take i).flatMap Eb++Eb run[i]:=by rw[BE hi,Df,Ds,List.flatMap_nil,AP]
    rw[<- e1,<- e2] at gown2;exact⟨m - 1,dO,dO,dO,i+1,ra,rb,JQ dO,dO,rfl,gown2.write _ _ _ _ _⟩
   ·omega
  ·subst hi
   (repeat' (first | refine Zl (J9 f4 f5 f7 f8 z4 z7 b1 c1 (J3 c2 c3 c4)) ?_ | refine Zb (λ_ gd=>?_) λ_ gd=>?_ | fail))
   ·omega
   ·rw[BK] at own
    exact⟨zl,zn,EV,AV,rfl,own⟩
 ·rintro fe Z ⟨f4,f7,z4,zl,zn,EV,AV,z7,own⟩
  have b1:(σ.next+1=b)=False:=eq_false dO;have hE:=own.app (v:=EV) (l:=run.map I6.ev) iN;have hA:=own.app (v:=AV) (l:=run.flatMap Eb) iN;have c1:=hE.cs;have c2:=hA.cs;have c3:=hE.all;have c4:=hA.all;have hlt:(σ.next+1 < Z.next)=True:=eq_true dO
  refine Zl (J9 f4 f7 z4 z7 b1 hlt c1 c2 (J2 c3 c4)) ?_
  exact⟨zl,run,w,⟨hE.fg,hA.fg⟩,hrun,hr30⟩
def wu(l:List Int)(n:Nat)(hn:n<=100000)(σ:D1):VC Tryz.prog 17 [vl l,vi n] σ (λv σ'=>σ.next<=σ'.low/\App σ' σ.next v (l.take n)):=by
 have hmin:(if (n:Int) < l.length then (n:Int) else l.length).toNat<=n:=by split<;>omega
 refine Ea XF17 ?_
 (repeat' (first | refine Zl @xf17.eq_1 ?_ | refine ZN (zp Int σ.next) λgr gn glo glv ga g1 g2 g3=>?_ | fail))
 refine⟨dO,?_⟩;have e:l.take (if (n:Int) < l.length then (n:Int) else l.length).toNat=l.take n:=by
  split
  ·rw[B8]
  ·rw[Aj dO,Aj dO]
 rw[<- e];exact ga
def wx(l:List Int):VD Tryz.prog 6 [vl l] (vl (l.take 20)):=by
 intro σ;have hint:=wu l 20 dO;refine Ea XF6 ?_
 (repeat' (first | refine Zl @xf6.eq_1 ?_ | refine ZA (za Int) trivial (hint _) λgv gn glv ga gl=>?_ | fail))
 exact ga.fg
end
def mH{c:I2}(h:Qs c):GV c=true:=by
 unfold GV;rw[Al,Al];have h1:=h.progs;have h2:=h.first;have h3:=h.reqs;have h4:=h.crashes;have h5:=h.drops;have h6:=h.dups;have h7:=h.drift
 refine⟨decide_eq_true ?_,At.2 λv hv=>?_,At.2 λr hr=>?_⟩
 ·unfold Lg;omega
 ·unfold s8
  rcases Aw.1 hv with hv | hv
  ·have:=h.firsts v hv;exact decide_eq_true dO
  ·have:=h.restarts v hv;exact decide_eq_true dO
 ·obtain⟨a,b,c1,c2,c3⟩:=h.req r hr
  unfold D2 at c1 c2 c3;simp only[RO,s8,CT,List.all_nil,Cs,Al,decide_eq_true_eq];omega
def wy:List VV:=[vi 0,vi 0,vi 0,vi 0,vi 0,vi 0,vb false]
section
variable [Prim Tryz.prog][OH]
def gM(d:I2)(hp:GD d)(hv:GV d=false)(σ:D1):VC Tryz.prog 21 [.agg (DZ.e d)] σ (λr σ'=>σ.next<=σ'.low/\r=.tup [.v (.pointer none),vi 20]):=VG.mono (ir d hp σ) λr σ' ⟨h1,h2⟩=>⟨h1,by rw[hv,if_neg iF] at h2;exact h2⟩
def wz(c:I2)(hp:GD c)(hv:GV c=true)(σ:D1):VC Tryz.prog 21 [.agg (DZ.e c)] σ (λr σ'=>σ.next<=σ'.low/\∃ x,r.fg=.tup [x,vi 0]):=VG.mono (ir c hp σ) λr σ' ⟨h1,h2⟩=>⟨h1,by
 rw[hv,if_pos rfl] at h2;obtain⟨b,idN,idX,_,rfl,_⟩:=h2;exact⟨(VV.ptr (b+3) 0).fg,by rw[VV.fg];simp only[Au,AD];rw[Gh]⟩⟩
def rI(d:I2)(hp:GD d)(hv:GV d=false)(t:tf)(g:VV)(σ:D1):VC Tryz.prog 18 [.agg (DZ.e d),.agg (DZ.e t),g] σ (λr σ'=>σ.next<=σ'.low/\r=.tup [EA,.v (.pointer none),vi 20]):=by
 refine Ea XF18 ?_
 (repeat' (first | refine Zl (J3 @xf18.eq_1 @F3 @JN) ?_ | refine ZX (gM d hp hv _) λgn=>?_ | fail))
 rfl
def mI(d:I2)(hp:GD d)(hv:GV d=false)(t:tf):VD Tryz.prog 8 [.agg (DZ.e d),.agg (DZ.e t)] (.tup [vl ([]:List Int),.v (.pointer none),vi 0,vi 20]):=by
 intro σ;refine Ea XF8 ?_
 (repeat' (first | refine Zl (J3 @xf8.eq_1 @F3 @JN) ?_ | refine ZX (rI d hp hv t _ _) λgn=>?_ | fail))
 exact⟨(App.nil (α:=Int) σ 0).fg,by rw[VV.fg];rfl⟩
def gO(d:I2)(hp:GD d)(hv:GV d=false)(t:tf):VD Tryz.prog 9 [.agg (DZ.e d),.agg (DZ.e t)] (.tup [vl ([]:List Int),.v (.pointer none),vi 20]):=by
 intro σ;refine Ea XF9 ?_
 (repeat' (first | refine Zl (J3 @xf9.eq_1 @F3 @JN) ?_ | refine ZX (rI d hp hv t _ _) λgn=>?_ | fail))
 exact⟨(App.nil (α:=Int) σ 0).fg,by rw[VV.fg];rfl⟩
def Za(d c:I2)(hp:GD d)(hv:GV d=false)(t:tf):VD Tryz.prog 10 [.agg (DZ.e d),.agg (DZ.e c),.agg (DZ.e t)] (.tup [.agg wy,vi 20]):=by
 intro σ;refine Ea XF10 ?_
 (repeat' (first | refine Zl (J3 @xf10.eq_1 @F3 @JN) ?_ | refine ZX (gM d hp hv _) λgn=>?_ | fail))
 rfl
def Ze(d c:I2)(hp:GD d)(hv:GV d=false)(hpc:GD c)(hvc:GV c=true)(t:tf):VD Tryz.prog 10 [.agg (DZ.e c),.agg (DZ.e d),.agg (DZ.e t)] (.tup [.agg wy,vi 20]):=by
 intro σ;refine Ea XF10 ?_
 refine Zl (J3 @xf10.eq_1 @F3 @JN) ?_
 refine Ey.tg (R:=λv=>∃ x,v=.tup [x,vi 0]) (args2:=[.agg (DZ.e c)]) (by simp only[fG];rfl) (wz c hpc hvc _) ?_;rintro _ n ⟨x,rfl⟩
 (repeat' (first | refine Zl (J2 @F3 @JN) ?_ | refine ZX (gM d hp hv _) λgn=>?_ | fail))
 rfl
end
class WO[Prim Tryz.prog]:Prop where
 lives:VD Tryz.prog 11 [] (vb true)
def GD.of{c d:I2}(h:Mx c)(h1:d.programs=c.programs\/d.programs=[])(h2:d.first.length<=1000)(h3:d.restarts=c.restarts)(h4:d.requests.length<=1000):GD d:=by
 obtain⟨j1,j2,j3,j4,j5,j6,j7,j8,j9,j10,j11,j12⟩:=h;refine⟨?_,h2,by rw[h3];omega,h4,?_⟩
 ·rcases h1 with h1 | h1<;>rw[h1]
  ·omega
  ·simp
 ·rcases h1 with h1 | h1<;>rw[h1]
  ·exact j2
  ·simp
def Pv{d:I2}(h:¬ Lg d):GV d=false:=by
 unfold GV;rw[decide_eq_false h,DQ]
def Aed(σ:D1)(c:I2)(t:tf)(fe:FV)(Z:D1):Prop:=∃ (p7 p8 p9:Nat) (d:I2) (ds:List VV),fe 7=.ptr p7 0/\fe 8=.ptr p8 0/\fe 9=.ptr p9 0/\Z.heap p7=.cells (DZ.e c) 26 8 p7/\Z.heap p8=.cells (DZ.e t) 31 2 p8/\Z.heap p9=.cells ds 26 8 p9/\σ.next<=Z.low/\σ.next<=p7/\p7 < p8/\p8 < p9/\p9 < Z.next/\GV d=false/\GD d/\(VV.agg ds).fg=.agg (DZ.e d)/\ds.length=8/\FE ds=true
def AaH:wB false (.v (.pointer none)) (.v (.pointer none))=some (vb true):=rfl
section
variable [Prim Tryz.prog][OH][WO]
set_option maxHeartbeats 1000000 in
def Pw(l walk:List Int)(how:Int)(hl:∀ x∈l,Uf x)(hw:∀ x∈walk,Uf x)(hh:Uf how)(σ:D1):VC Tryz.prog 3 [vl l,vl walk,vi how] σ (λr σ'=>σ.next<=σ'.low/\r.fg=vb true):=by
 have hlv:=WO.lives;have hfew:=wx walk;have har:=HC (n:=how) (m:=5) hh dO;have haa:=Ly how 5 dO;refine HU XF3 (λN=>?_);unfold xf3;dsimp only;refine El.seq (El.of ?_)
 refine Zy0 ?_
 refine El.seq (El.of ?_)
 refine Zy0 ?_
 refine Ey.tg (R:=λv=>∃ c,Mx c/\v=.agg (DZ.e c)) (by rw[Au,AD,Ii]) (Z8 l hl _) ?_;rintro _ n0 ⟨c,hc,rfl⟩;have hck:=hc.ok;have hv:=mH hck;have hdr:=hc.draw;have hpc:=GD.of hc (.inl rfl) (by have:=hc.first;omega) rfl (by have:=hc.reqs;omega)
 refine Zl @F3 ?_
 refine El.seq (El.of ?_)
 (repeat' (first | refine Zl (J2 @F3 @JN) ?_ | refine Zz0 hfew λgn=>?_ | fail))
 refine Ey.tg (R:=λv=>∃ t:tf,v=.agg (DZ.e t)) (args2:=[.agg (DZ.e c),vl (walk.take 20)]) (by simp only[fG];rfl) (VG.mono (mG c hck hdr (by have:=hc.first;omega) (by have:=hc.reqs;omega) (walk.take 20) (by rw[As];omega) (λx hx=>hw x (Bm hx)) _) λr σ' ⟨a1,run,w,a2,_⟩=>⟨a1,x9 run,a2⟩) ?_;rintro _ n1 ⟨t,rfl⟩
 refine Zl @F3 ?_
 refine El.seq (El.of ?_)
 refine Zl (J2 @F3 @JN) ?_
 refine El.at (λfe Y hfe hY=>?_);have hst:∃ (p7 p8 p9:Nat),fe 7=.ptr p7 0/\fe 8=.ptr p8 0/\fe 9=.ptr p9 0/\Y.heap p7=.cells (DZ.e c) 26 8 p7/\Y.heap p8=.cells (DZ.e t) 31 2 p8/\Y.heap p9=.cells (DZ.e c) 26 8 p9/\σ.next<=Y.low/\σ.next<=p7/\p7 < p8/\p8 < p9/\p9 < Y.next/\fe 2=vi how:=by
  refine⟨_,_,_,by rw[hfe];simp +decide only[↓Em,ne_eq];rfl,by rw[hfe];simp +decide only[↓Em,ne_eq];rfl,by rw[hfe];simp +decide only[↓Em];rfl,by rw[hY];simp +decide only[wA,↓reduceIte,PC],by rw[hY];simp +decide only[wA,↓reduceIte],by rw[hY];simp +decide only[wA,↓reduceIte],by rw[hY];simp only[lW];omega,dO,dO,dO,by rw[hY];simp only[lW];omega,by rw[hfe];simp +decide only[↓Em,wA]⟩
 clear hfe hY;obtain⟨p7,p8,p9,f7,f8,f9,y7,y8,y9,yl,k7,k8,k9,kn,f2⟩:=hst;have e1:(p7=p9)=False:=eq_false dO;have e2:(p8=p9)=False:=eq_false dO;refine El.Pr (λfe Z=>Aed σ c t fe Z) (El.of ?_) ?_
 ·obtain⟨j1,j2,j3,j4,j5,j6,j7,j8,j9,j10,j11,j12⟩:=id hc
  generalize HY how 5=k at *;rcases (show k=0\/k=1\/k=2\/k=3\/k=4 by omega) with rfl | rfl | rfl | rfl | rfl
  ·(repeat' (first | refine Zl (J9 f2 f7 f8 f9 y7 y8 y9 e1 (J2 e2 @SZ)) ?_ | refine Zz0 haa λgn=>?_ | fail))
   exact⟨p7,p8,p9,{ c with drift:=4 },_,by simp +decide only[D9];exact f7,by simp +decide only[D9];exact f8,by simp +decide only[D9];exact f9,by simp +decide only[wA,↓reduceIte,e1];exact y7,by simp +decide only[wA,↓reduceIte,e2];exact y8,by rw[EY],ah0,k7,k8,k9,ah0,Pv (by unfold Lg;dsimp only;omega),GD.of hc (.inl rfl) ab0 rfl ab0,by simp only[fG];rfl,rfl,by simp only[Ia,HJ,G5]⟩
  ·(repeat' (first | refine Zl (J9 f2 f7 f8 f9 y7 y8 y9 e1 (J2 e2 @SZ)) ?_ | refine Zz0 haa λgn=>?_ | fail))
   exact⟨p7,p8,p9,{ c with first:=[] },_,by simp +decide only[D9];exact f7,by simp +decide only[D9];exact f8,by simp +decide only[D9];exact f9,by simp +decide only[wA,↓reduceIte,e1];exact y7,by simp +decide only[wA,↓reduceIte,e2];exact y8,by rw[EY],ah0,k7,k8,k9,ah0,Pv (by unfold Lg;dsimp only;simp),GD.of hc (.inl rfl) iN rfl ab0,by simp only[fG];rfl,rfl,by simp only[Ia,HJ,G5]⟩
  ·(repeat' (first | refine Zl (J9 f2 f7 f8 f9 y7 y8 y9 e1 (J2 e2 @SZ)) ?_ | refine Zz0 haa λgn=>?_ | fail))
   exact⟨p7,p8,p9,{ c with programs:=[] },_,by simp +decide only[D9];exact f7,by simp +decide only[D9];exact f8,by simp +decide only[D9];exact f9,by simp +decide only[wA,↓reduceIte,e1];exact y7,by simp +decide only[wA,↓reduceIte,e2];exact y8,by rw[EY],ah0,k7,k8,k9,ah0,Pv (by unfold Lg;dsimp only;simp),GD.of hc (.inr rfl) ab0 rfl ab0,by simp only[fG];rfl,rfl,by simp only[Ia,HJ,G5]⟩
  ·(repeat' (first | refine Zl (J9 f2 f7 f8 f9 y7 y8 y9 e1 (J2 e2 @SZ)) ?_ | refine Zz0 haa λgn=>?_ | fail))
   exact⟨p7,p8,p9,{ c with crashes:=-1 },_,by simp +decide only[D9];exact f7,by simp +decide only[D9];exact f8,by simp +decide only[D9];exact f9,by simp +decide only[wA,↓reduceIte,e1];exact y7,by simp +decide only[wA,↓reduceIte,e2];exact y8,by rw[EY],ah0,k7,k8,k9,ah0,Pv (by unfold Lg;dsimp only;omega),GD.of hc (.inl rfl) ab0 rfl ab0,by simp only[fG];rfl,rfl,by simp only[Ia,HJ,G5]⟩
  ·(repeat' (first | refine Zl (J9 f2 f7 f8 f9 y7 y8 y9 e1 (J2 e2 @SZ)) ?_ | refine Zz0 haa λgn=>?_ | refine ZE trivial ([]:List (Vs)) ?_ | refine ZE trivial [(⟨12,0,0,0⟩:Vs)] ?_ | refine ZP (zp Vs σ.next) λgt gn glo glv ga g1 g2 g3=>?_ | fail))
   have hbad:GV { c with requests:=c.requests++[(⟨12,0,0,0⟩:Vs)] }=false:=by
    have:RO { c with requests:=c.requests++[(⟨12,0,0,0⟩:Vs)] } ⟨12,0,0,0⟩=false:=by
     unfold RO s8;dsimp only;rw[decide_eq_false dO,DQ]
    unfold GV;simp only[DD,CT,this,DQ,Bool.and_false]
   exact⟨p7,p8,p9,{ c with requests:=c.requests++[⟨12,0,0,0⟩] },_,by simp +decide only[D9];exact f7,by simp +decide only[D9];exact f8,by simp +decide only[D9];exact f9,by simp +decide only[wA,↓reduceIte,e1];exact y7,by simp +decide only[wA,↓reduceIte,e2];exact y8,by rw[EY],ah0,k7,k8,k9,ah0,hbad,GD.of hc (.inl rfl) ab0 rfl (by dsimp only;rw[Ad];simp;omega),by simp only[fG];rfl,rfl,by simp only[Ia,HJ,Vt,G5]⟩
 ·rintro fe2 Z ⟨p7,p8,p9,d,ds,f7,f8,f9,z7,z8,z9,zl,k7,k8,k9,kn,hvd,hpd,hdf,hdl,hda⟩
  have d8:ds.take 8=ds:=Aj dO;have l8:(0+8<=ds.length)=True:=eq_true dO;have ft:(VV.agg [vl t.events,vl t.answers]).fg=.agg (DZ.e t):=by rw[VV.fg];simp only[Au,AD,Ii];rfl
  have fc:(VV.agg [vl c.programs,vl c.first,vl c.restarts,vl c.requests,vi c.crashes,vi c.drops,vi c.dups,vi c.drift]).fg=.agg (DZ.e c):=by rw[VV.fg];simp only[fG];rfl
  refine El.of ?_
  refine Zl (J9 f7 f8 f9 z7 z8 z9 d8 l8 (J3 hdl hda @F3)) ?_
  refine Ey.dP (args2:=[.agg (DZ.e d),.agg (DZ.e t)]) (by rw[Au,Au,AD,hdf,ft]) (mI d hpd hvd t) (λn2=>?_)
  refine Zl (J9 f7 f8 f9 z7 z8 z9 d8 l8 (J3 hdl hda @F3)) ?_
  refine Ey.dP (args2:=[.agg (DZ.e d),.agg (DZ.e t)]) (by rw[Au,Au,AD,hdf,ft]) (gO d hpd hvd t) (λn3=>?_)
  refine Zl (J9 f7 f8 f9 z7 z8 z9 d8 l8 (J3 hdl hda @F3)) ?_
  refine Ey.dP (args2:=[.agg (DZ.e d),.agg (DZ.e c),.agg (DZ.e t)]) (by rw[Au,Au,Au,AD,hdf,ft,fc]) (Za d c hpd hvd t) (λn4=>?_);have g7:∀ x,(p7=Z.next+x)=False:=λx=>eq_false dO
  have g8:∀ x,(p8=Z.next+x)=False:=λx=>eq_false dO
  have g9:∀ x,(p9=Z.next+x)=False:=λx=>eq_false dO
  (repeat' (first | simp +decide only[↓Em,wA,↓reduceIte,Nat.reduceAdd,D0,f7,f8,f9,z7,z8,z9,g7,g8,g9,d8,hdl,wy]))
  refine Ey.dP (args2:=[.agg (DZ.e c),.agg (DZ.e d),.agg (DZ.e t)]) (by rw[Au,Au,Au,AD,hdf,ft,fc]) (Ze d c hpd hvd hpc hv t) (λn5=>?_);have hq:∀ neg,Pj [1,1,1,1,1,1,0] neg (.agg [vi 0,vi 0,vi 0,vi 0,vi 0,vi 0,vb false]) (.agg [vi 0,vi 0,vi 0,vi 0,vi 0,vi 0,vb false])=some (vb (EU neg true)):=λneg=>by cases neg<;>rfl
  (repeat' (first | refine Zz0 hlv λgn=>?_ | simp +decide only[↓Em,wA,↓reduceIte,Nat.reduceAdd,D0,PC,wy,hq,EU,AaH] | fail))
  exact⟨⟨zl,dO⟩,dO⟩
end
end Go.Proofs.YtkkpchcniicimaaGreat

/- Configurations out of numbers. The sources' programs draw little. Small configurations; they may be run. slices.Clone at the simulation's types (printed by a program). The world: configurations checke -/
import Derived.Test.YtkkpchcniicimaaGreatZAa
import Derived.Test.YtkkpchcniicimaaGreatZCa
import Derived.Test.YtkkpchcniicimaaGreatZVb
set_option linter.all false
namespace Go.Proofs.YtkkpchcniicimaaGreat
open Go Go.RowKit
def HC{n m:Int}(h:Uf n)(hm:1<=m):0<=HY n m/\HY n m < m:=by
 unfold Uf at h;unfold HY;split
 ·rw[Er (n:=n+1) dO dO,Er dO dO]
  exact⟨Bf _ dO,A2 _ dO⟩
 ·exact⟨Bf _ dO,A2 _ dO⟩
def W9{l:List Int}(h:∀ x∈l,Uf x)(i:Nat){m:Int}(hm:1<=m):0<=Ug l i m/\Ug l i m < m:=by
 unfold Ug;split
 ·rename_i x hx
  exact HC (h x (AF hx)) hm
 ·omega
class OH[Prim Tryz.prog]:Prop where
 build:∀ i,i < 12->VD Tryz.prog 13 [.v (.string (Hv i))] (.tup [.agg (DZ.e (Gu i)),vi 0])
 verify:∀ i,i < 12->VD Tryz.prog 65 [.agg (DZ.e (Gu i))] (vi 0)
structure Mx(c:I2):Prop where
 progs:1<=c.programs.length/\c.programs.length<=2
 prog:∀ p∈c.programs,∃ i,i < 12/\p=Gu i
 first:1<=c.first.length/\c.first.length<=3
 firsts:∀ v∈c.first,0<=v/\v < c.programs.length
 restarts:∀ v∈c.restarts,0<=v/\v < c.programs.length
 rlen:c.restarts.length<=2
 reqs:c.requests.length<=6
 req:∀ r∈c.requests,0<=r.node/\r.node < c.first.length/\0<=r.op/\r.op<=4/\1<=r.key/\r.key<=2/\1<=r.arg/\r.arg<=6
 crashes:0<=c.crashes/\c.crashes<=1
 drops:0<=c.drops/\c.drops<=1
 dups:0<=c.dups/\c.dups<=1
 drift:0<=c.drift/\c.drift<=1
def Uh(s:HW):(DZ.e s).take 43=DZ.e s:=Aj (by rw[PD];exact Af _)
def Lx{a m:Int}(h0:0<=a)(h1:a<=1000000)(hm:0 < m):G0 (a.tdiv m)=a.tdiv m/\0<=G0 (a.tdiv m)/\G0 (a.tdiv m)<=1000000:=by
 have hp:0<=a.tdiv m:=DA h0 dO;have hq:a.tdiv m<=a:=by
  rw[CD h0];exact Int.ediv_le_self _ h0
 rw[Er dO dO];exact⟨rfl,hp,dO⟩
def Xa{x m q:Int}(h0:0<=x)(hm:0 < m)(hq:0 < q)(hmq:m<=2 * q):0<=G0 ((x.tmod m).tdiv q)/\G0 ((x.tmod m).tdiv q)<=1:=by
 have a:=Bf m h0;have b:=A2 x hm;have c:(x.tmod m).tdiv q < 2:=by
  rw[CD a];exact Int.ediv_lt_of_lt_mul hq dO
 have d:0<=(x.tmod m).tdiv q:=DA a dO;rw[Er dO dO];omega
def nk(n:Int)(r:Vs):Prop:=0<=r.node/\r.node < n/\0<=r.op/\r.op<=4/\1<=r.key/\r.key<=2/\1<=r.arg/\r.arg<=6
def Abp(x:Int)(h0:0<=x):∀ h:(x.tmod 8).toNat < ([0,1,2,3,4,0,1,3]:List Int).length,0<=([0,1,2,3,4,0,1,3]:List Int)[(x.tmod 8).toNat]'h/\([0,1,2,3,4,0,1,3]:List Int)[(x.tmod 8).toNat]'h<=4:=λh=>
 (show ∀ y∈([0,1,2,3,4,0,1,3]:List Int),0<=y/\y<=4 by decide) _ (Ao h)
def nq{i:Nat}(h:i<=1000000):G0 (6+(i:Int))=((6+i:Nat):Int):=by rw[Er dO dO];omega
def Rd.FE{α:Type}[DZ α]{v:VV}{l:List α}(h:Rd v l):∀ r,Go.Proofs.YtkkpchcniicimaaGreat.FE (v::r)=Go.Proofs.YtkkpchcniicimaaGreat.FE r:=λr=>by
 rcases h with ⟨rfl,_⟩ | ⟨t,rfl⟩ | rfl
 ·exact Ia _ _
 ·exact Vt _ _ _
 ·exact HJ _ _
def Rd.s7{α:Type}[DZ α]{v:VV}{l:List α}(h:Rd v l):v.cs=[v]:=by
 rcases h with ⟨rfl,_⟩ | ⟨t,rfl⟩ | rfl
 ·rfl
 ·rfl
 ·rfl
def AcN(ps:List HW):Prop:=1<=ps.length/\ps.length<=2/\∀ p∈ps,∃ i,i < 12/\p=Gu i
def Lf:List VV:=[EA,EA,EA,EA,vi 0,vi 0,vi 0,vi 0]
section
variable [Prim Tryz.prog]
set_option maxRecDepth 100000 in
def Xb:VD Tryz.prog 30 [] (vl ym):=by
 intro σ;refine Ea XF30 ?_
 (repeat' (first | refine Zl @xf30.eq_1 ?_ | refine ZE trivial [(⟨_⟩:Z2),(⟨_⟩:Z2),(⟨_⟩:Z2),(⟨_⟩:Z2),(⟨_⟩:Z2),(⟨_⟩:Z2),(⟨_⟩:Z2),(⟨_⟩:Z2),(⟨_⟩:Z2),(⟨_⟩:Z2),(⟨_⟩:Z2),(⟨_⟩:Z2)] ?_ | fail))
 rfl
def RM(n:Int)(hn:Uf n):VD Tryz.prog 14 [vi n] (.v (.string (Hv (HY n 12).toNat))):=by
 intro σ;have hr:=HC hn (show (1:Int)<=12 by decide);have hl:=W7;refine Ea XF14 ?_
 (repeat' (first | refine Zl (J4 @xf14.eq_1 @W7 @AcM @AcL) ?_ | refine Zz0 Xb λgn=>?_ | refine Zz0 (Ly n 12 iF) λgn=>?_ | fail))
 unfold Hv;rw[List.getD,Ah dO];rfl
variable [OH]
def Ui(i:Nat)(hi:i < 12):VD Tryz.prog 13 [.v (.string (Hv i))] (.tup [.agg (DZ.e (Gu i)),vi 0]):=OH.build i hi
set_option maxHeartbeats 4000000 in
set_option maxRecDepth 100000 in
def Z8(l:List Int)(hl:∀ x∈l,Uf x)(σ:D1):VC Tryz.prog 4 [vl l] σ (λr σ'=>σ.next<=σ'.low/\∃ c,Mx c/\r.fg=.agg (DZ.e c)):=by
 refine Ea XF4 ?_
 refine Zl @xf4.eq_1 ?_
 refine Ek 0 (λk fe Z=>fe 0=vl l/\fe 2=.ptr σ.next 0/\σ.next<=Z.low/\σ.next+1<=Z.next/\Z.heap σ.next=.cells Lf 26 8 σ.next/\∃ i:Nat,fe 4=vi i/\k+i=14/\∃ ks:List Int,App Z σ.next (fe 3) ks/\ks.length=i/\∀ x∈ks,0<=x/\x < 1000000)
  (λfe Z=>fe 2=.ptr σ.next 0/\σ.next<=Z.low/\σ.next+1<=Z.next/\Z.heap σ.next=.cells Lf 26 8 σ.next/\∃ ks:List Int,App Z σ.next (fe 3) ks/\ks.length=14/\∀ x∈ks,0<=x/\x < 1000000) 14 ?_ ?_ ?_
 ·refine Zy0 ?_
  exact⟨rfl,0,rfl,rfl,[],.nil _ _,rfl,λx hx=>by simp at hx⟩
 ·rintro k fe Z ⟨f0,f2,hlo,hn,z0,i,f4,hk,ks,ha,hkl,hks⟩
  (repeat' (first | refine Zl (J4 f0 f2 f4 z0) ?_ | refine Zz0 (nr l i 1000000 iF) λgn=>?_ | refine Zb (λ_ gd=>?_) λ_ gd=>?_ | refine ZE trivial [(_:Int)] ?_ | refine ZP (zp Int σ.next) λgt gn glo glv ga g1 g2 g3=>?_ | fail))
  ·have hp:=W9 hl i (m:=1000000) iF
   refine⟨k - 1,dO,dO,dO,i+1,Fv dO,dO,_,ga,by rw[Ad,hkl];rfl,λx hx=>?_⟩;rcases Aw.1 hx with hx | hx
   ·exact hks x hx
   ·rw[AG.1 hx];exact hp
  ·exact⟨hlo,hn,ks,ha,dO,hks⟩
 ·rintro fe Z ⟨f2,hlo,hn,z0,ks,ha,hkl,hks⟩
  have hI:∀ (i:Nat) (h:i < ks.length),Uf ks[i]:=λi h=>by have:=hks _ (Ao h);exact Uf.of this.1 dO
  have hQ:∀ (i:Nat) (h:i < ks.length) (m:Int),0 < m->Uf (G0 (ks[i].tdiv m)):=λi h m hm=>by have:=hks _ (Ao h);have:=Lx this.1 (show ks[i]<=1000000 by omega) hm;exact Uf.of this.2.1 this.2.2
  have hBQ:∀ (i:Nat) (h:i < ks.length) (m:Int),0 < m->(HY (G0 (ks[i].tdiv m)) 12).toNat < 12:=λi h m hm=>by have:=HC (hQ i h m hm) (show (1:Int)<=12 by decide);omega
  have hB:∀ (i:Nat) (h:i < ks.length),(HY ks[i] 12).toNat < 12:=λi h=>by have:=HC (hI i h) (show (1:Int)<=12 by decide);omega
  (repeat' (first | refine Zc (J3 f2 z0 @Uh) ?_ | refine Zz0 (RM _ (hI _ _)) λgn=>?_ | refine Zz0 (Ui _ (hB _ _)) λgn=>?_ | refine ZR (zr Int) ?_ | fail))
  refine GC.one (Gu (HY ks[0] 12).toNat) rfl rfl rfl (RN _) ?_
  (repeat' (first | refine Zc (J3 f2 z0 @Uh) ?_ | refine ZR (zr Int) ?_ | fail))
  have hrk:=ha.rd;have e0:(σ.next=Z.next)=False:=eq_false dO;have e1:∀ x,(σ.next=Z.next+x)=False:=λx=>eq_false dO
  have e2:(Z.next=σ.next)=False:=eq_false dO;have e3:∀ x,(Z.next+x=σ.next)=False:=λx=>eq_false dO
  refine Z9 (λfe' A=>fe' 2=.ptr σ.next 0/\fe' 3=fe 3/\fe' 5=.ptr Z.next 0/\σ.next<=A.low/\Z.next+1<=A.next/\A.heap σ.next=.cells Lf 26 8 σ.next/\∃ (pv:VV) (ps:List HW),Rd pv ps/\AcN ps/\A.heap Z.next=.cells [pv,EA,EA,EA,vi 0,vi 0,vi 0,vi 0] 26 8 Z.next) ?_ ?_
  ·(repeat' (first | refine Zl (J7 f2 z0 @Uh e0 e1 e2 e3) ?_ | refine Zz0 (RM _ (hQ _ _ 3 iF)) λgn=>?_ | refine Zz0 (Ui _ (hBQ _ _ 3 iF)) λgn=>?_ | refine Zb (λ_ gd=>?_) λ_ gd=>?_ | refine ZR (zr Int) ?_ | fail))
   ·refine GC.one (Gu (HY (G0 (ks[1].tdiv 3)) 12).toNat) rfl rfl rfl (RN _) ?_
    (repeat' (first | refine Zl (J7 f2 z0 @Uh e0 e1 e2 e3) ?_ | refine ZP (zp HW σ.next) λgt gn glo glv ga g1 g2 g3=>?_ | fail))
    exact⟨⟨dO,dO⟩,dO,_,_,.inr (.inl ⟨_,rfl⟩),⟨iN,iN,λp hp=>by
     rcases Aq.1 hp with rfl | hp
     ·exact⟨_,hB 0 dO,rfl⟩
     ·rw[AG.1 hp];exact⟨_,hBQ 1 dO 3 iF,rfl⟩⟩,rfl⟩
   ·exact⟨⟨⟨dO,dO⟩,dO⟩,dO,_,_,.inr (.inl ⟨_,rfl⟩),⟨iN,iN,λp hp=>by
     rw[AG.1 hp];exact⟨_,hB 0 dO,rfl⟩⟩,rfl⟩
  ·rintro fe1 A ⟨a2,a3,a5,alo,an,az,pv,ps,hpv,hps,aq⟩
   have d0:(σ.next=A.next)=False:=eq_false dO;have d1:∀ x,(σ.next=A.next+x)=False:=λx=>eq_false dO
   have d2:(Z.next=A.next)=False:=eq_false dO;have d3:∀ x,(Z.next=A.next+x)=False:=λx=>eq_false dO
   (repeat' (first | refine Zc (J9 a2 a3 a5 az aq @Uh d0 d1 (J2 d2 d3)) ?_ | refine ZR (zr Int) ?_ | fail))
   obtain⟨nn,hnn⟩:∃ nn:Int,nn=G0 (1+(G0 (ks[2]+1)).tmod 3):=⟨_,rfl⟩
   have hnr:1<=nn/\nn<=3:=by
    have h2:=hks _ (Ao (show 2 < ks.length by omega));rw[Er (n:=ks[2]+1) dO dO] at hnn;have a:=Bf 3 (show 0<=ks[2]+1 by omega);have b:=A2 (ks[2]+1) (show (0:Int) < 3 by decide);rw[Er dO dO] at hnn;omega
   have hp1:=hps.1;refine Ek 2 (λk fe' B=>fe' 2=.ptr σ.next 0/\fe' 3=fe 3/\fe' 5=.ptr Z.next 0/\fe' 10=vi nn/\σ.next<=B.low/\Z.next+1<=B.next/\B.heap σ.next=.cells Lf 26 8 σ.next/\∃ (fv:VV) (fs:List Int) (i:Nat),B.heap Z.next=.cells [pv,fv,EA,EA,vi 0,vi 0,vi 0,vi 0] 26 8 Z.next/\App B σ.next fv fs/\fe' 11=vi i/\fs.length=i/\k+i=3/\(i:Int)<=nn/\∀ v∈fs,0<=v/\v < ps.length)
    (λfe' B=>fe' 2=.ptr σ.next 0/\fe' 3=fe 3/\fe' 5=.ptr Z.next 0/\fe' 10=vi nn/\σ.next<=B.low/\Z.next+1<=B.next/\B.heap σ.next=.cells Lf 26 8 σ.next/\∃ (fv:VV) (fs:List Int),B.heap Z.next=.cells [pv,fv,EA,EA,vi 0,vi 0,vi 0,vi 0] 26 8 Z.next/\Rd fv fs/\(fs.length:Int)=nn/\∀ v∈fs,0<=v/\v < ps.length) 3 ?_ ?_ ?_
   ·refine Zl (J6 a2 a3 a5 az aq hnn.symm) ?_
    exact⟨hnn.symm,alo,an,_,[],0,rfl,.nil _ _,rfl,rfl,rfl,dO,λv hv=>by simp at hv⟩
   ·rintro k fe2 B ⟨b2,b3,b5,b10,blo,bn,bz,fv,fs,i,bq,bA,b11,bl,bk,bi,bf⟩
    (repeat' (first | refine Zl (J9 b2 b3 b5 b10 b11 bz bq e0 (J2 e2 (Fv (show i<=1000000 by omega)))) ?_ | refine Zb (λ_ gd=>?_) λ_ gd=>?_ | refine ZR (zr Int) ?_ | refine ZR (zr HW) ?_ | refine ZE trivial [(_:Int)] ?_ | refine ZP (zp Int σ.next) λgt gn glo glv ga g1 g2 g3=>?_ | fail))
    ·have h2:=hks _ (Ao (show 2 < ks.length by omega))
     have q1:=Lx h2.1 (show ks[2]<=1000000 by omega) (show (0:Int) < 3 by decide);have q2:=Lx q1.2.1 q1.2.2 (show (0:Int) < ((i+1:Nat):Int) by omega);refine⟨k - 1,dO,⟨dO,dO⟩,dO,_,_,i+1,rfl,ga.write _ _ _ _ _,rfl,by rw[Ad,bl];rfl,dO,dO,λv hv=>?_⟩;rcases Aw.1 hv with hv | hv
     ·exact bf v hv
     ·rw[AG.1 hv]
      exact⟨Bf _ q2.2.1,A2 _ dO⟩
    ·exact⟨blo,bn,_,fs,rfl,bA.rd,dO,bf⟩
   ·rintro fe2 B ⟨b2,b3,b5,b10,blo,bn,bz,fv,fs,bq,bR0,bl0,bf0⟩
    (repeat' (first | refine Zc (J6 b2 b3 b5 b10 bz bq) ?_ | refine ZR (zr Int) ?_ | fail))
    refine Z9 (λfe' C=>fe' 2=.ptr σ.next 0/\fe' 3=fe 3/\fe' 5=.ptr Z.next 0/\fe' 10=vi nn/\σ.next<=C.low/\Z.next+1<=C.next/\C.heap σ.next=.cells Lf 26 8 σ.next/\∃ (rv:VV) (rs:List Int),C.heap Z.next=.cells [pv,fv,rv,EA,vi 0,vi 0,vi 0,vi 0] 26 8 Z.next/\Rd rv rs/\rs.length<=2/\∀ v∈rs,0<=v/\v < ps.length) ?_ ?_
    ·(repeat' (first | refine Zl (J8 b2 b3 b5 b10 bz bq e0 e2) ?_ | refine Zb (λ_ gd=>?_) λ_ gd=>?_ | refine ZR (zr HW) ?_ | refine ZR (zr Int) ?_ | refine ZE trivial [(_:Int),(_:Int)] ?_ | fail))
     ·have h3:=hks _ (Ao (show 3 < ks.length by omega))
      have q1:=Lx h3.1 (show ks[3]<=1000000 by omega) (show (0:Int) < 3 by decide);refine⟨⟨blo,dO⟩,dO,_,_,rfl,.inr (.inl ⟨_,rfl⟩),iN,λv hv=>?_⟩;rcases Aq.1 hv with rfl | hv
      ·exact⟨Bf _ q1.2.1,A2 _ dO⟩
      ·rw[AG.1 hv];omega
     ·exact⟨blo,bn,_,[],rfl,.inl ⟨rfl,rfl⟩,iN,λv hv=>by simp at hv⟩
    ·rintro fe3 C ⟨c2,c3,c5,c10,clo,cn,cz,rv,rs,cq,cR,cl,cr⟩
     (repeat' (first | refine Zc (J8 c2 c3 c5 c10 cz cq e0 e2) ?_ | refine ZR (zr Int) ?_ | fail))
     have h4:=hks _ (Ao (show 4 < ks.length by omega));have h5:=hks _ (Ao (show 5 < ks.length by omega));have w3:=Lx h4.1 (show ks[4]<=1000000 by omega) (show (0:Int) < 3 by decide);have w12:=Lx h4.1 (show ks[4]<=1000000 by omega) (show (0:Int) < 12 by decide);have w48:=Lx h4.1 (show ks[4]<=1000000 by omega) (show (0:Int) < 48 by decide);have hm:=Bf 7 h5.1;have hm7:=A2 ks[5] (show (0:Int) < 7 by decide);refine Ek 4 (λk fe' B=>fe' 2=.ptr σ.next 0/\fe' 3=fe 3/\fe' 5=.ptr Z.next 0/\fe' 10=vi nn/\σ.next<=B.low/\Z.next+1<=B.next/\B.heap σ.next=.cells Lf 26 8 σ.next/\∃ (qv:VV) (qs:List Vs) (i:Nat) (x y z t:Int),B.heap Z.next=.cells [pv,fv,rv,qv,vi x,vi y,vi z,vi t] 26 8 Z.next/\App B σ.next qv qs/\fe' 12=vi i/\qs.length=i/\k+i=6/\(i:Int)<=ks[5].tmod 7/\(∀ r∈qs,nk nn r)/\(0<=x/\x<=1)/\(0<=y/\y<=1)/\(0<=z/\z<=1)/\(0<=t/\t<=1))
      (λfe' B=>fe' 2=.ptr σ.next 0/\fe' 5=.ptr Z.next 0/\σ.next<=B.low/\Z.next+1<=B.next/\B.heap σ.next=.cells Lf 26 8 σ.next/\∃ (qv:VV) (qs:List Vs) (x y z t:Int),B.heap Z.next=.cells [pv,fv,rv,qv,vi x,vi y,vi z,vi t] 26 8 Z.next/\Rd qv qs/\qs.length<=6/\(∀ r∈qs,nk nn r)/\(0<=x/\x<=1)/\(0<=y/\y<=1)/\(0<=z/\z<=1)/\(0<=t/\t<=1)) 6 ?_ ?_ ?_
     ·refine Zl (J8 c2 c3 c5 c10 cz cq e0 e2) ?_
      exact⟨⟨⟨⟨⟨clo,dO⟩,dO⟩,dO⟩,dO⟩,cn,_,[],0,_,_,_,_,rfl,.nil _ _,rfl,rfl,rfl,dO,λr hr=>by simp at hr,Xa h4.1 iF iF iF,Xa w3.2.1 iF iF iF,Xa w12.2.1 iF iF iF,Xa w48.2.1 iF iF iF⟩
     ·rintro k fe2 B ⟨b2,b3,b5,b10,blo,bn,bz,qv,qs,i,x,y,z,t,bq,bA,b12,bl,bk,bi,bf,bx⟩
      have h6:=hks _ (Ao (show 6+i < ks.length by omega));have v3:=Lx h6.1 (show ks[6+i]<=1000000 by omega) (show (0:Int) < 3 by decide);have v24:=Lx h6.1 (show ks[6+i]<=1000000 by omega) (show (0:Int) < 24 by decide);have n8a:=Bf 8 v3.2.1;have n8b:=A2 (G0 (ks[6+i].tdiv 3)) (show (0:Int) < 8 by decide)
      (repeat' (first | refine Zl (J9 b2 b3 b5 b10 b12 bz bq e0 (J3 e2 (Fv (show i<=1000000 by omega)) (nq (show i<=1000000 by omega)))) ?_ | refine Zb (λ_ gd=>?_) λ_ gd=>?_ | refine ZR (zr Int) ?_ | refine ZE trivial [(_:Int),(_:Int),(_:Int),(_:Int),(_:Int),(_:Int),(_:Int),(_:Int)] ?_ | simp +decide only[↓Em,wA] | ((with_reducible refine HK ?_ ?_ ?_);(omega);(decide)) | fail))
      ·refine HK (by (show _ < 8);omega) iF ?_
       refine Zl (J9 b2 b3 b5 b10 b12 bz bq e0 (J3 e2 (Fv (show i<=1000000 by omega)) (nq (show i<=1000000 by omega)))) ?_
       have ho:=Abp (G0 (ks[6+i].tdiv 3)) v3.2.1 (by (show _ < 8);omega);have hy2:=Xa (x:=G0 (ks[6+i].tdiv 24)) (m:=5) (q:=4) v24.2.1 iF iF iF;have hn0:=Bf nn h6.1;have hn1:=A2 ks[6+i] (show 0 < nn by omega);have hk2:G0 (1+G0 (((G0 (ks[6+i].tdiv 24)).tmod 5).tdiv 4))=1+G0 (((G0 (ks[6+i].tdiv 24)).tmod 5).tdiv 4):=Er dO dO;have hi2:G0 (1+(i:Int))=1+(i:Int):=Er dO dO
       try rw[hk2]
       try rw[hi2]
       generalize ([0,1,2,3,4,0,1,3]:List Int)[((G0 (ks[6+i].tdiv 3)).tmod 8).toNat]'_=oo at ho |-;generalize ks[6+i].tmod nn=o1 at hn0 hn1 |-;generalize G0 (((G0 (ks[6+i].tdiv 24)).tmod 5).tdiv 4)=o2 at hy2 |-;obtain⟨o3,ho3⟩:∃ o3:Int,o3=1+o2:=⟨_,rfl⟩
       obtain⟨o4,ho4⟩:∃ o4:Int,o4=1+(i:Int):=⟨_,rfl⟩
       rw[<- ho3,<- ho4]
       (repeat' (first | refine Zl (J9 b2 b3 b5 b10 b12 bz bq e0 (J3 e2 (Fv (show i<=1000000 by omega)) (nq (show i<=1000000 by omega)))) ?_ | refine ZE trivial [(⟨_,_,_,_⟩:Vs)] ?_ | refine ZP (zp Vs σ.next) λgt gn glo glv ga g1 g2 g3=>?_ | fail))
       refine⟨k - 1,dO,⟨dO,dO⟩,dO,_,_,i+1,_,_,_,_,rfl,ga.write _ _ _ _ _,rfl,by rw[Ad,bl];rfl,dO,dO,λr hr=>?_,bx⟩;rcases Aw.1 hr with hr | hr
       ·exact bf r hr
       ·rw[AG.1 hr]
        exact⟨hn0,hn1,ho.1,ho.2,ab0,ab0,ab0,ab0⟩
      ·exact⟨blo,bn,_,qs,_,_,_,_,rfl,bA.rd,dO,bf,bx⟩
     ·rintro fe2 B ⟨b2,b5,blo,bn,bz,qv,qs,x,y,z,t,bq,bR,bl,bf,bx⟩
      have bFR:=bR0
      (repeat' (first | simp +decide only[↓Em,wA,↓reduceIte,Nat.reduceAdd,D0,b2,b5,bz,bq,hpv.FE,bFR.FE,cR.FE,bR.FE,Lf]))
      refine⟨blo,⟨ps,fs,rs,qs,x,y,z,t⟩,⟨⟨hps.1,hps.2.1⟩,hps.2.2,⟨ab0,ab0⟩,bf0,cr,cl,bl,λr hr=>?_,bx.1,bx.2.1,bx.2.2.1,bx.2.2.2⟩,hpv.fg,bFR.fg,cR.fg,bR.fg,rfl,rfl,rfl,rfl⟩;have:=bf r hr;unfold nk at this;dsimp only;rw[bl0];exact this
end
section
set_option maxRecDepth 1000000
def nN:Iz (Gu 0):=⟨Is (Gu 0),af0,of_decide_eq_true af0⟩
def nO:Iz (Gu 1):=⟨Is (Gu 1),af0,of_decide_eq_true af0⟩
def nP:Iz (Gu 2):=⟨Is (Gu 2),af0,of_decide_eq_true af0⟩
def nQ:Iz (Gu 3):=⟨Is (Gu 3),af0,of_decide_eq_true af0⟩
def nR:Iz (Gu 4):=⟨Is (Gu 4),af0,of_decide_eq_true af0⟩
def nS:Iz (Gu 5):=⟨Is (Gu 5),af0,of_decide_eq_true af0⟩
def nT:Iz (Gu 6):=⟨Is (Gu 6),af0,of_decide_eq_true af0⟩
def nU:Iz (Gu 7):=⟨Is (Gu 7),af0,of_decide_eq_true af0⟩
def nV:Iz (Gu 8):=⟨Is (Gu 8),af0,of_decide_eq_true af0⟩
def nX:Iz (Gu 9):=⟨Is (Gu 9),af0,of_decide_eq_true af0⟩
def kp:Iz (Gu 10):=⟨Is (Gu 10),af0,of_decide_eq_true af0⟩
def kq:Iz (Gu 11):=⟨Is (Gu 11),af0,of_decide_eq_true af0⟩
def uE{i:Nat}(h:i < 12):Iz (Gu i):=by
 rcases jV h with rfl | rfl | rfl | rfl | rfl | rfl | rfl | rfl | rfl | rfl | rfl | rfl
 ·exact nN
 ·exact nO
 ·exact nP
 ·exact nQ
 ·exact nR
 ·exact nS
 ·exact nT
 ·exact nU
 ·exact nV
 ·exact nX
 ·exact kp
 ·exact kq
def Mx.draw{c:I2}(h:Mx c):KL c:=λp hp=>by
 obtain⟨i,hi,rfl⟩:=h.prog p hp;exact uE hi
end
def Mx.ok{c:I2}(h:Mx c):Qs c:=by
 obtain⟨h1,h2,h3,h4,h5,h6,h7,h8,h9,h10,h11,h12⟩:=h;refine⟨dO,λp hp=>?_,dO,h4,h5,dO,dO,λr hr=>?_,dO,dO,dO,dO⟩
 ·obtain⟨i,hi,rfl⟩:=h2 p hp
  exact xx hi
 ·have:=h8 r hr
  unfold D2;omega
structure Abq(c:I2):Prop where
 gen:Mx c
 drift:c.drift=0
 first:c.first.length<=2
 reqs:c.requests.length<=2
section
variable [Prim Tryz.prog][OH]
end
section
variable [Prim Tryz.prog]
def OI(l:List Int)(hl:l.length<=100000)(σ:D1):VC Tryz.prog 66 [vl l] σ (λr σ'=>σ.next<=σ'.low/\App σ' σ.next r l):=by
 refine Ea XF66 ?_
 refine Zl @xf66.eq_1 ?_
 refine dL.Ie (λh=>by rw[Ak h];rfl) (λh=>?_) ?_
 ·refine Zy0 ?_
  rw[Ak h];exact .nil _ _
 ·(repeat' (first | refine Zy0 ?_ | refine ZE trivial ([]:List (Int)) ?_ | refine ZP (zp Int σ.next) λgt gn glo glv ga g1 g2 g3=>?_ | fail))
  exact⟨dO,by simpa using ga⟩
def Vu(l:List Int)(hl:l.length<=100000):VD Tryz.prog 66 [vl l] (vl l):=VD.I3 (OI l hl)
def Vv(l:List HW)(h1:1<=l.length)(hl:l.length<=100000)(σ:D1):VC Tryz.prog 67 [vl l] σ (λv σ'=>σ.next<=σ'.low/\Rw σ' σ.next v l):=by
 refine Ea XF67 ?_
 refine Zl @xf67.eq_1 ?_
 refine dL.Ie (λh=>by rw[Ak h];rfl) (λh=>absurd h dO) ?_
 refine Zy0 ?_
 refine GC.row (l:=[]) rfl rfl rfl ?_
 refine Zy0 ?_
 refine D5.rw (l:=([]:List HW)) (m:=l) (b:=σ.next) ⟨58,σ.next,Af _,Af _,by simp[Js,Lz],Jl _ _ _ _⟩ rfl (Gf _ _ rfl) rfl (by unfold reach;simp;omega) iF (λid τ hR h1 h2 h3 h4 h5=>?_);simp only[DB,lW] at h2;simp only[Ba] at hR
 (repeat' (first | simp +decide only[↓Em,wA]))
 exact⟨h2,hR.rw rfl⟩
def Vw(l:List JE)(hl:l.length<=100000)(σ:D1):VC Tryz.prog 68 [vl l] σ (λr σ'=>σ.next<=σ'.low/\App σ' σ.next r l):=by
 refine Ea XF68 ?_
 refine Zl @xf68.eq_1 ?_
 refine dL.Ie (λh=>by rw[Ak h];rfl) (λh=>?_) ?_
 ·refine Zy0 ?_
  rw[Ak h];exact .nil _ _
 ·(repeat' (first | refine Zy0 ?_ | refine ZE trivial ([]:List (JE)) ?_ | refine ZP (zp JE σ.next) λgt gn glo glv ga g1 g2 g3=>?_ | fail))
  exact⟨dO,by simpa using ga⟩
def Vx(l:List Vs)(hl:l.length<=100000)(σ:D1):VC Tryz.prog 69 [vl l] σ (λr σ'=>σ.next<=σ'.low/\App σ' σ.next r l):=by
 refine Ea XF69 ?_
 refine Zl @xf69.eq_1 ?_
 refine dL.Ie (λh=>by rw[Ak h];rfl) (λh=>?_) ?_
 ·refine Zy0 ?_
  rw[Ak h];exact .nil _ _
 ·(repeat' (first | refine Zy0 ?_ | refine ZE trivial ([]:List (Vs)) ?_ | refine ZP (zp Vs σ.next) λgt gn glo glv ga g1 g2 g3=>?_ | fail))
  exact⟨dO,by simpa using ga⟩
def Vy(l:List Vs)(hl:l.length<=100000):VD Tryz.prog 69 [vl l] (vl l):=VD.I3 (Vx l hl)
end
def Jt{α:Type}(P:α->Bool)(L:List α)(i:Nat)(hi:i < L.length):(L.take (i+1)).all P=((L.take i).all P && P L[i]):=by
  rw[<- CP hi,DD];simp
section
variable [Prim Tryz.prog]
def Xc:VD Tryz.prog 38 [] (.agg (DZ.e Fl)):=by
  intro σ;refine Ea XF38 ?_
  refine Zl @xf38.eq_1 ?_
  rfl
def jW(c:I2)(id:Nat)(n i:Int)(hi : -1<=i/\i<=1000000)(hr:c.requests.length<=100000)(σ:D1){t:TypeId}{q:Nat}{a8 a9 a10 a11 a12 a13 a14 a15:VV}(hg:σ.heap id=.cells [vl c.programs,vl c.first,vl c.restarts,vl c.requests,vi c.crashes,vi c.drops,vi c.dups,vi c.drift,a8,a9,a10,a11,a12,a13,a14,a15] t 16 q) :
    VC Tryz.prog 39 [.ptr id 0,vi n,vi i] σ (λr σ'=>σ.next<=σ'.low/\r.fg=vi (E8 c n i)):=by
  refine Ea XF39 ?_
  (repeat' (first | simp +decide only[↓Em,wA,xf39]))
  refine Ek 0 (λk fe Z=>fe 0=.ptr id 0/\fe 1=vi n/\σ.next<=Z.low/\Z.heap id=σ.heap id/\∃ j:Nat,fe 7=vi j/\i < j/\k+j=c.requests.length+1000001/\∀ m (hm:m < c.requests.length),i < m->m < j->c.requests[m].node≠n)
    (λfe Z=>σ.next<=Z.low/\E8 c n i = -1) (c.requests.length+1000001 - (i+1).toNat) ?_ ?_ ?_
  · (repeat' (first | simp +decide only[↓Em,wA]))
    exact⟨(i+1).toNat,by rw[Er dO dO];omega,dO,dO,λm hm h1 h2=>dO⟩
  · rintro k fe Z ⟨f0,f1,hlo,hz,j,f7,hij,hk,hno⟩
    rw[hg] at hz
    (repeat' (first | refine Zb (λ_ gd=>?_) λ_ gd=>?_ | simp +decide only[↓Em,wA,↓reduceIte,Nat.reduceAdd,Nat.reduceLeDiff,f0,f1,f7,hz] | ((with_reducible refine Ih ?_ ?_ ?_ ?_);(omega);(omega);(rfl)) | ((with_reducible refine HK ?_ ?_ ?_);(omega);(decide)) | fail))
    · exact⟨hlo,(Qt c n i j dO hij IF λm hm him=>hno m dO him hm).symm⟩
    · refine⟨k - 1,dO,hlo,by rw[hg],j+1,Fv dO,dO,dO,λm hm h1 h2=>?_⟩
      rcases BD.mp h2 with h | h
      · exact hno m hm h1 h
      · subst h;assumption
    · exact⟨hlo,Qu c n i λm hm him=>hno m hm him dO⟩
  · rintro fe Z ⟨hlo,he⟩
    (repeat' (first | simp +decide only[↓Em,wA,he]))
    exact hlo
def GD(c:I2):Prop:=c.programs.length<=1000/\c.first.length<=1000/\c.restarts.length<=1000/\c.requests.length<=1000/\∀ p∈c.programs,∃ i,i < 12/\p=Gu i
def s8(n a b:Int):Bool:=decide (a<=n/\n<=b)
def Lg(c:I2):Prop:=(1<=(c.first.length:Int)/\(c.first.length:Int)<=12)/\(1<=(c.programs.length:Int)/\(c.programs.length:Int)<=64)/\(c.requests.length:Int)<=300/\(0<=c.crashes/\c.crashes<=10)/\(0<=c.drops/\c.drops<=10)/\(0<=c.dups/\c.dups<=10)/\(0<=c.drift/\c.drift<=3)
instance(c:I2):Decidable (Lg c):=by unfold Lg;infer_instance
def RO(c:I2)(r:Vs):Bool:=s8 r.node 0 ((c.first.length:Int) - 1) && [r.op,r.key,r.arg].all (λn=>s8 n (-2147483647) 2147483647)
def GV(c:I2):Bool:=decide (Lg c) && ((c.first++c.restarts).all (λv=>s8 v 0 ((c.programs.length:Int) - 1)) && c.requests.all (RO c))
variable [OH]
def dM(c:I2)(hp:c.programs.length<=1000)(id:Nat)(v:Int)(σ:D1){t:TypeId}{q:Nat}(hg:σ.heap id=.cells (DZ.e c) t 8 q) :
    VC Tryz.prog 63 [vi v,.ptr id 0] σ (λr σ'=>σ.next<=σ'.low/\r.fg=vb (s8 v 0 ((c.programs.length:Int) - 1))):=by
  refine Ea XF63 ?_;have w1:G0 ((c.programs.length:Int) - 1)=(c.programs.length:Int) - 1:=Er dO dO
  (repeat' (first | refine Zz0 (Ke _ _ _) λgn=>?_ | simp +decide only[↓Em,wA,↓reduceIte,Nat.reduceAdd,Nat.reduceLeDiff,xf63,hg,w1] | fail))
  rfl
def dN(p:HW)(h:∃ i,i < 12/\p=Gu i):VD Tryz.prog 65 [.agg (DZ.e p)] (vi 0):=by
  obtain⟨i,hi,rfl⟩:=h;exact OH.verify i hi
set_option maxHeartbeats 1000000 in
def Uj(c:I2)(hp:GD c):VD Tryz.prog 36 [.agg (DZ.e c)] (vi (if GV c then 0 else 20)):=by
  intro σ;refine Ea XF36 ?_;obtain⟨hp1,hp2,hp3,hp4,hp5⟩:=hp
  (repeat' (first | refine Zl @xf36.eq_1 ?_ | refine Zz0 (Ke _ _ _) λgn=>?_ | refine Zb (λ_ gd=>?_) λ_ gd=>?_ | refine Zt (λgd=>?_) λgd=>?_ | fail))
  all_goals first
    | (show (20:Int)=_
       (try simp only[B7,decide_eq_false_iff_not,decide_eq_true_eq] at *)
       rw[if_neg];intro hv;simp only[GV,Al,decide_eq_true_eq] at hv;have h1:=hv.1;unfold Lg at h1;omega)
    | skip
  have hH:Lg c:=by
    simp only[Bool.not_eq_false',decide_eq_true_eq] at gd;unfold Lg;omega
  refine Ek 0 (λk fe Z=>fe 1=.ptr σ.next 0/\fe 3=.fn 63 [] [.ptr σ.next 0]/\fe 4=vb true/\σ.next<=Z.low/\σ.next+1<=Z.next/\Z.heap σ.next=.cells (DZ.e c) 26 8 σ.next/\fe 54=vl c.programs/\fe 55=vi c.programs.length/\∃ i:Nat,fe 56=vi i/\k+i=c.programs.length)
    (λfe Z=>fe 1=.ptr σ.next 0/\fe 3=.fn 63 [] [.ptr σ.next 0]/\fe 4=vb true/\σ.next<=Z.low/\σ.next+1<=Z.next/\Z.heap σ.next=.cells (DZ.e c) 26 8 σ.next) c.programs.length ?_ ?_ ?_
  · refine Zy0 ?_
    exact⟨decide_eq_true hH.2.2.2.2.2.2,dO,0,rfl,rfl⟩
  · rintro k fe Z ⟨f1,f3,f4,hlo,hn,hz,f54,f55,i,f56,hk⟩
    have d0:(σ.next=Z.next)=False:=eq_false dO;have d1:∀ x,(σ.next=Z.next+x)=False:=λx=>eq_false dO
    (repeat' (first | refine Zl (J9 f1 f3 f4 f54 f55 f56 hz @Uh (J3 d0 d1 (Fv (show i<=1000000 by omega)))) ?_ | refine Zz0 (dN _ (hp5 _ (Ao _))) λgn=>?_ | refine Zb (λ_ gd=>?_) λ_ gd=>?_ | fail))
    · exact⟨k - 1,dO,⟨dO,dO⟩,dO,i+1,rfl,dO⟩
    · exact⟨hlo,hn⟩
  · rintro fe Z ⟨f1,f3,f4,hlo,hn,hz⟩
    have hlt:(σ.next < Z.next)=True:=eq_true dO
    (repeat' (first | refine Zl (J5 f1 f3 f4 hz hlt) ?_ | refine ZR (zr Int) ?_ | refine ZN (zp Int σ.next) λgr gn glo glv ga g1 g2 g3=>?_ | ((with_reducible apply Ey.yH (α:=Int));((try simp only[Au,AD,Ii]);exact rfl);(exact OI _ dO _);intro gv gn glv ga gl;try simp only[lW] at ga gl) | fail))
    obtain⟨L,hL⟩:∃ L,L=c.first++c.restarts:=⟨_,rfl⟩
    have hLl:L.length<=2000:=by rw[hL,Ad];omega
    obtain⟨P,hP⟩:∃ P:Int->Bool,P=λv=>s8 v 0 ((c.programs.length:Int) - 1):=⟨_,rfl⟩
    refine Ek 2 (λk fe Z=>fe 1=.ptr σ.next 0/\fe 3=.fn 63 [] [.ptr σ.next 0]/\σ.next<=Z.low/\σ.next+1<=Z.next/\Z.heap σ.next=.cells (DZ.e c) 26 8 σ.next/\fe 73=vi L.length/\∃ (i:Nat) (tv:VV) (acc:Bool),fe 72=tv/\Rd tv L/\fe 74=vi i/\k+i=L.length/\fe 4=vb acc/\acc=(L.take i).all P)
      (λfe Z=>fe 1=.ptr σ.next 0/\σ.next<=Z.low/\σ.next+1<=Z.next/\Z.heap σ.next=.cells (DZ.e c) 26 8 σ.next/\fe 4=vb (L.all P)) L.length ?_ ?_ ?_
    · refine Zl (J5 f1 f3 f4 hz hlt) ?_
      exact⟨dO,dO,by rw[hL],0,_,true,rfl,by rw[hL];exact App.rd IF,rfl,rfl,rfl,rfl⟩
    · rintro k fe Z ⟨f1,f3,hlo,hn,hz,f73,i,tv,acc,f72,hR,f74,hk,f4,hacc⟩
      cases acc
      · (repeat' (first | refine Zl (J8 f1 f3 f4 f72 f73 f74 hz (Fv (show i<=1000000 by omega))) ?_ | refine Zb (λ_ gd=>?_) λ_ gd=>?_ | refine ZR (zr Int) ?_ | fail))
        · exact⟨k - 1,dO,hlo,hn,i+1,tv,false,rfl,hR,rfl,dO,rfl,by rw[Jt P L i dO,<- hacc];rfl⟩
        · exact⟨hlo,hn,by rw[Aj dO] at hacc;exact hacc⟩
      · (repeat' (first | refine Zl (J8 f1 f3 f4 f72 f73 f74 hz (Fv (show i<=1000000 by omega))) ?_ | refine ZG trivial (dM c hp1 σ.next _ _ hz) λgn=>?_ | refine Zb (λ_ gd=>?_) λ_ gd=>?_ | refine ZR (zr Int) ?_ | fail))
        · exact⟨k - 1,dO,hlo,dO,i+1,tv,_,rfl,hR,rfl,dO,rfl,by rw[Jt P L i dO,<- hacc,hP];rfl⟩
        · exact⟨hlo,hn,by rw[Aj dO] at hacc;exact hacc⟩
    · rintro fe Z ⟨f1,hlo,hn,hz,f4⟩
      have w1:G0 ((c.first.length:Int) - 1)=(c.first.length:Int) - 1:=Er dO dO
      refine Zl (J3 f1 f4 hz) ?_
      refine Ek 4 (λk fe Z=>fe 1=.ptr σ.next 0/\σ.next<=Z.low/\σ.next+1<=Z.next/\Z.heap σ.next=.cells (DZ.e c) 26 8 σ.next/\fe 86=vl c.requests/\fe 87=vi c.requests.length/\∃ (i:Nat) (acc:Bool),fe 88=vi i/\k+i=c.requests.length/\fe 4=vb acc/\acc=(L.all P && (c.requests.take i).all (RO c)))
        (λfe Z=>σ.next<=Z.low/\fe 4=vb (L.all P && c.requests.all (RO c))) c.requests.length ?_ ?_ ?_
      · refine Zl (J3 f1 f4 hz) ?_
        exact⟨hlo,hn,0,_,rfl,rfl,rfl,iN⟩
      · rintro k fe Z ⟨f1,hlo,hn,hz,f86,f87,i,acc,f88,hk,f4,hacc⟩
        have d0:(σ.next=Z.next)=False:=eq_false dO;have d1:∀ x,(σ.next=Z.next+x)=False:=λx=>eq_false dO
        obtain⟨Q,hQ⟩:∃ Q:Int->Bool,Q=λn=>s8 n (-2147483647) 2147483647:=⟨_,rfl⟩
        rcases (show i < c.requests.length\/c.requests.length<=i by omega) with hil | hil
        · obtain⟨l3,hl3⟩:∃ l3,l3=[c.requests[i].op,c.requests[i].key,c.requests[i].arg]:=⟨_,rfl⟩
          have hl3l:l3.length=3:=by rw[hl3];rfl
          cases acc
          · (repeat' (first | refine Zl (J9 f1 f4 f86 f87 f88 hz d0 d1 (J2 w1 (Fv (show i<=1000000 by omega)))) ?_ | refine Zb (λ_ gd=>?_) λ_ gd=>?_ | refine ZE trivial [(_:Int),(_:Int),(_:Int)] ?_ | fail))
            · obtain⟨a1,ha1⟩:∃ a1:Bool,a1=false:=⟨_,rfl⟩
              refine Ek 6 (λk fe B=>fe 1=.ptr σ.next 0/\σ.next<=B.low/\σ.next+1<=B.next/\B.heap σ.next=.cells (DZ.e c) 26 8 σ.next/\fe 86=vl c.requests/\fe 87=vi c.requests.length/\fe 88=vi i/\fe 109=vi 3/\∃ (j tk:Nat) (a:Bool),fe 108=vo l3 tk/\fe 110=vi j/\k+j=3/\fe 4=vb a/\a=(a1 && (l3.take j).all Q))
                (λfe B=>fe 1=.ptr σ.next 0/\σ.next<=B.low/\σ.next+1<=B.next/\B.heap σ.next=.cells (DZ.e c) 26 8 σ.next/\fe 86=vl c.requests/\fe 87=vi c.requests.length/\fe 88=vi i/\fe 4=vb (a1 && l3.all Q)) 3 ?_ ?_ ?_
              · refine Zl (J8 f1 f4 f86 f87 f88 hz d0 d1) ?_
                exact⟨⟨hlo,dO⟩,dO,0,_,_,by rw[hl3],rfl,rfl,rfl,by rw[ha1,A6];rfl⟩
              · rintro m fe B ⟨h1,hlo,hn,hz,h86,h87,h88,h109,j,tk,a,h108,h110,hm,h4,ha⟩
                have hj3:j<=3:=dO
                cases a
                · (repeat' (first | refine Zl (J9 h1 h4 h86 h87 h88 h108 h109 h110 (J2 hz (Fv (show j<=1000000 by omega)))) ?_ | refine Zb (λ_ gd=>?_) λ_ gd=>?_ | fail))
                  · exact⟨m - 1,dO,hlo,hn,j+1,_,_,rfl,rfl,dO,rfl,by rw[Jt Q l3 j dO,<- CG,<- ha];rfl⟩
                  · exact⟨hlo,hn,by rw[Aj dO] at ha;exact ha⟩
                · (repeat' (first | refine Zl (J9 h1 h4 h86 h87 h88 h108 h109 h110 (J2 hz (Fv (show j<=1000000 by omega)))) ?_ | refine Zz0 (Ke _ _ _) λgn=>?_ | refine Zb (λ_ gd=>?_) λ_ gd=>?_ | simp +decide only[↓Em,wA,h108,h110] | ((with_reducible refine PE ?_ ?_ ?_ ?_);(omega);(omega);(rfl)) | ((with_reducible refine HK ?_ ?_ ?_);(omega);(decide)) | fail))
                  · exact⟨m - 1,dO,hlo,dO,j+1,_,_,rfl,rfl,dO,rfl,by rw[Jt Q l3 j dO,<- CG,<- ha,hQ];rfl⟩
                  · exact⟨hlo,hn,by rw[Aj dO] at ha;exact ha⟩
              · rintro fe B ⟨h1,hlo,hn,hz,h86,h87,h88,h4⟩
                refine Zl (J7 h1 h4 h86 h87 h88 hz (Fv (show i<=1000000 by omega))) ?_
                exact⟨k - 1,dO,hlo,hn,i+1,_,rfl,dO,rfl,by rw[Jt (RO c) c.requests i dO,<- CG,<- hacc,RO,ha1,hl3,hQ];rfl⟩
            · exact⟨hlo,by rw[Aj dO] at hacc;exact hacc⟩
          · (repeat' (first | refine Zl (J9 f1 f4 f86 f87 f88 hz d0 d1 (J2 w1 (Fv (show i<=1000000 by omega)))) ?_ | refine Zz0 (Ke _ _ _) λgn=>?_ | refine Zb (λ_ gd=>?_) λ_ gd=>?_ | refine ZE trivial [(_:Int),(_:Int),(_:Int)] ?_ | fail))
            · obtain⟨a1,ha1⟩:∃ a1:Bool,a1=s8 c.requests[i].node 0 ((c.first.length:Int) - 1):=⟨_,rfl⟩
              refine Ek 6 (λk fe B=>fe 1=.ptr σ.next 0/\σ.next<=B.low/\σ.next+1<=B.next/\B.heap σ.next=.cells (DZ.e c) 26 8 σ.next/\fe 86=vl c.requests/\fe 87=vi c.requests.length/\fe 88=vi i/\fe 109=vi 3/\∃ (j tk:Nat) (a:Bool),fe 108=vo l3 tk/\fe 110=vi j/\k+j=3/\fe 4=vb a/\a=(a1 && (l3.take j).all Q))
                (λfe B=>fe 1=.ptr σ.next 0/\σ.next<=B.low/\σ.next+1<=B.next/\B.heap σ.next=.cells (DZ.e c) 26 8 σ.next/\fe 86=vl c.requests/\fe 87=vi c.requests.length/\fe 88=vi i/\fe 4=vb (a1 && l3.all Q)) 3 ?_ ?_ ?_
              · refine Zl (J8 f1 f4 f86 f87 f88 hz d0 d1) ?_
                exact⟨⟨hlo,dO⟩,dO,0,_,_,by rw[hl3],rfl,rfl,rfl,by rw[ha1,A6];(rw[List.all_nil,Cs];rfl)⟩
              · rintro m fe B ⟨h1,hlo,hn,hz,h86,h87,h88,h109,j,tk,a,h108,h110,hm,h4,ha⟩
                have hj3:j<=3:=dO
                cases a
                · (repeat' (first | refine Zl (J9 h1 h4 h86 h87 h88 h108 h109 h110 (J2 hz (Fv (show j<=1000000 by omega)))) ?_ | refine Zb (λ_ gd=>?_) λ_ gd=>?_ | fail))
                  · exact⟨m - 1,dO,hlo,hn,j+1,_,_,rfl,rfl,dO,rfl,by rw[Jt Q l3 j dO,<- CG,<- ha];rfl⟩
                  · exact⟨hlo,hn,by rw[Aj dO] at ha;exact ha⟩
                · (repeat' (first | refine Zl (J9 h1 h4 h86 h87 h88 h108 h109 h110 (J2 hz (Fv (show j<=1000000 by omega)))) ?_ | refine Zz0 (Ke _ _ _) λgn=>?_ | refine Zb (λ_ gd=>?_) λ_ gd=>?_ | simp +decide only[↓Em,wA,h108,h110] | ((with_reducible refine PE ?_ ?_ ?_ ?_);(omega);(omega);(rfl)) | ((with_reducible refine HK ?_ ?_ ?_);(omega);(decide)) | fail))
                  · exact⟨m - 1,dO,hlo,dO,j+1,_,_,rfl,rfl,dO,rfl,by rw[Jt Q l3 j dO,<- CG,<- ha,hQ];rfl⟩
                  · exact⟨hlo,hn,by rw[Aj dO] at ha;exact ha⟩
              · rintro fe B ⟨h1,hlo,hn,hz,h86,h87,h88,h4⟩
                refine Zl (J7 h1 h4 h86 h87 h88 hz (Fv (show i<=1000000 by omega))) ?_
                exact⟨k - 1,dO,hlo,hn,i+1,_,rfl,dO,rfl,by rw[Jt (RO c) c.requests i dO,<- CG,<- hacc,RO,ha1,hl3,hQ];rfl⟩
            · exact⟨hlo,by rw[Aj dO] at hacc;exact hacc⟩
        · (repeat' (first | refine Zl (J6 f1 f4 f86 f87 f88 hz) ?_ | refine Zb (λ_ gd=>?_) λ_ gd=>?_ | refine Zt (λgd=>?_) λgd=>?_ | fail))
          all_goals first
            | omega
            | exact⟨hlo,by rw[Aj dO] at hacc;exact hacc⟩
      · rintro fe Z ⟨hlo,f4⟩
        cases hb:(L.all P && c.requests.all (RO c))
        · rw[hb] at f4
          refine Zl f4 ?_
          refine⟨hlo,?_⟩;rw[if_neg];rw[GV,decide_eq_true hH,<- hL,<- hP,hb];decide
        · rw[hb] at f4
          refine Zl f4 ?_
          refine⟨hlo,?_⟩;rw[if_pos];rw[GV,decide_eq_true hH,<- hL,<- hP,hb];rfl
end
section
variable [Prim Tryz.prog]
set_option maxHeartbeats 1000000 in
def tw(c:I2)(h1:1<=c.programs.length)(hp:c.programs.length<=1000/\c.first.length<=1000/\c.restarts.length<=1000/\c.requests.length<=1000)(hc:∀ p∈c.programs,p.code.length<=1000)(σ:D1) :
  VC Tryz.prog 37 [.agg (DZ.e c)] σ (λr σ'=>σ.next<=σ'.low/\∃ (id:Nat) (A:List VV) (t:TypeId) (q:Nat),σ.next<=id/\σ'.heap id=.cells A t 43 q/\A.map VV.fg=D4 c.programs/\r=.agg [.slice id 0 c.programs.length c.programs.length,vl c.first,vl c.restarts,vl c.requests,vi c.crashes,vi c.drops,vi c.dups,vi c.drift]):=by
 refine Ea XF37 ?_
 refine Zl @xf37.eq_1 ?_
 refine Ey.goW (Vv c.programs h1 dO _) ?_;intro id τ t q q1 q2 q3 q4 q5 q6 q7 q8 q9;simp only[lW] at q1 q5 q6 q7 q8 q9;have z1:τ.heap σ.next=.cells (DZ.e c) 26 8 σ.next:=by rw[q8 σ.next dO];simp +decide only[wA,↓reduceIte]
 have z2:τ.heap (σ.next+1)=.cells Lf 26 8 (σ.next+1):=by rw[q8 (σ.next+1) dO];simp +decide only[wA,↓reduceIte];rfl
 clear q8;have n1:(σ.next=id)=False:=eq_false dO;have n2:(σ.next+1=id)=False:=eq_false dO;have n3:(id=σ.next)=False:=eq_false dO;have n4:(id=σ.next+1)=False:=eq_false dO
 (repeat' (first | simp +decide only[↓Em,wA,↓reduceIte,Nat.reduceAdd,Nat.reduceLeDiff,D0,z1]))
 refine Ek 0 (λk fe Z=>fe 1=.ptr σ.next 0/\fe 2=.ptr (σ.next+1) 0/\fe 10=vi c.programs.length/\σ.next<=Z.low/\id < Z.next/\Z.heap σ.next=.cells [.slice id 0 c.programs.length c.programs.length,vl c.first,vl c.restarts,vl c.requests,vi c.crashes,vi c.drops,vi c.dups,vi c.drift] 26 8 σ.next/\Z.heap (σ.next+1)=.cells Lf 26 8 (σ.next+1)/\∃ (i:Nat) (A:List VV),fe 11=vi i/\k+i=c.programs.length/\i<=c.programs.length/\Z.heap id=.cells (A++D4 (c.programs.drop i)) t 43 q/\A.length=i * 43/\A.map VV.fg=D4 (c.programs.take i))
  (λfe Z=>fe 1=.ptr σ.next 0/\fe 2=.ptr (σ.next+1) 0/\σ.next<=Z.low/\id < Z.next/\Z.heap σ.next=.cells [.slice id 0 c.programs.length c.programs.length,vl c.first,vl c.restarts,vl c.requests,vi c.crashes,vi c.drops,vi c.dups,vi c.drift] 26 8 σ.next/\Z.heap (σ.next+1)=.cells Lf 26 8 (σ.next+1)/\∃ A:List VV,Z.heap id=.cells A t 43 q/\A.map VV.fg=D4 c.programs) c.programs.length ?_ ?_ ?_
 ·(repeat' (first | simp +decide only[↓Em,wA,↓reduceIte,z2,q4,n3]))
  exact⟨dO,q3,0,[],rfl,rfl,AM _,rfl,iN,rfl⟩
 ·rintro k fe Z ⟨f1,f2,f10,hlo,hn,y1,y2,i,A,f11,hk,hi,y3,hA,hAf⟩
  rcases (show i < c.programs.length\/c.programs.length<=i by omega) with hil | hil
  ·have r1:((A++D4 (c.programs.drop i)).drop (i * 43)).take 1=[vl c.programs[i].code]:=by
    rw[<- hA,List.drop_left,A3 hil,Gt];rfl
   have r2:(i * 43+1<=(A++D4 (c.programs.drop i)).length)=True:=eq_true (by rw[Ad,hA,ES,yI,AI];omega)
   (repeat' (first | refine Zb (λ_ gd=>?_) λ_ gd=>?_ | simp +decide only[↓Em,wA,↓reduceIte,Nat.reduceAdd,Nat.reduceLeDiff,D0,f1,f2,f10,f11,y1,y2,y3,r1,r2] | ((with_reducible apply Ey.yH (α:=JE));((try simp only[Au,AD,Ii]);exact rfl);(exact Vw _ (by have:=hc _ (Ao hil);omega) _);intro gv gn glv ga gl;try simp only[lW] at ga gl) | ((with_reducible refine HZ ?_ ?_ ?_);(omega);(omega)) | fail))
   ·have e1:(A++D4 (c.programs.drop i)).take (i * 43)=A:=by rw[<- hA,List.take_left]
    have e2:(A++D4 (c.programs.drop i)).drop (i * 43+1)=(DZ.e c.programs[i]).drop 1++D4 (c.programs.drop (i+1)):=by
     rw[<- BV,<- hA,List.drop_left,A3 hil,Gt,By (by rw[PD];decide)]
    have r3:=ga.rd.s7;have r4:=ga.rd.FE
    (repeat' (first | simp +decide only[↓Em,wA,↓reduceIte,f1,f2,f10,f11,y1,y2,n1,n2,r3,r4,e1,e2,Fv (show i<=1000000 by omega)]))
    refine⟨k - 1,dO,dO,dO,i+1,A++(gv::(DZ.e c.programs[i]).drop 1),rfl,dO,dO,by rw[AU];rfl,?_,?_⟩
    ·rw[Ad,Ag,AI,PD,hA];omega
    ·rw[AX,Au,hAf,ga.rd.fg,List.map_drop,DZ.fgd,<- CP hil,G1,Uk]
     rfl
   ·omega
  ·(repeat' (first | refine Zb (λ_ gd=>?_) λ_ gd=>?_ | simp +decide only[↓Em,wA,↓reduceIte,Nat.reduceAdd,Nat.reduceLeDiff,f1,f2,f10,f11,y1,y2,y3] | ((with_reducible refine HZ ?_ ?_ ?_);(omega);(omega)) | fail))
   all_goals first
    | omega
    | skip
   refine⟨hlo,hn,A,?_,?_⟩
   ·rw[Bj dO];exact congrArg (λx=>VB.cells x t 43 q) (AP A)
   ·rw[Aj dO] at hAf;exact hAf
 ·rintro fe Z ⟨f1,f2,hlo,hn,y1,y2,A,y3,hAf⟩
  have hlt:(σ.next < Z.next)=True:=eq_true dO
  (repeat' (first | simp +decide only[↓Em,wA,Fe,Ev,↓reduceIte,Nat.reduceAdd,Nat.reduceLeDiff,D0,f1,f2,y1,y2,hlt,Lf] | ((with_reducible apply Ey.dP);((try simp only[Au,AD,Ii]);exact rfl);(first | exact Vu _ dO | exact Vy _ dO);intro gn)))
  exact⟨hlo,id,A,t,q,dO,by simp only[n3,n4,if_false];exact y3,hAf,rfl⟩
def tA(c:I2)(h1:1<=c.programs.length)(hp:c.programs.length<=1000/\c.first.length<=1000/\c.restarts.length<=1000/\c.requests.length<=1000)(hc:∀ p∈c.programs,p.code.length<=1000):VD Tryz.prog 37 [.agg (DZ.e c)] (.agg (DZ.e c)):=λσ=>by
 refine VG.fz (tw c h1 hp hc σ) ?_;rintro v σ' ⟨hlo,id,A,t,q,hid,hg,hA,rfl⟩;refine⟨id,A,t,43,q,hg,by rw[Fj];omega,?_⟩;have hlen:A.length=c.programs.length * 43:=by
  have:=congrArg List.length hA
  rwa [AJ,ES,yI] at this
 have q0:Gm id 43 A (.slice id 0 c.programs.length c.programs.length)=.Ie c.programs.length A:=ns id 43 _ A (by rw[hlen]);have q1:∀ {α:Type} [DZ α] (l:List α),Gm id 43 A (vl l)=vl l:=λl=>by unfold vl;rw[Gm]
 have q2:∀ n:Int,Gm id 43 A (vi n)=vi n:=λn=>by rw[Gm]
 rw[Gm];simp only[q0,q1,q2,VV.fg,hA,fG];rfl
end
def jX{c:I2}(h:∀ p∈c.programs,∃ i,i < 12/\p=Gu i):∀ p∈c.programs,p.code.length<=1000:=λp hp=>by
 obtain⟨i,hi,rfl⟩:=h p hp;obtain⟨D,hD⟩:=xx hi;have:=hD.code;omega
def xy(n:Int)(e:TypeId)(σ:D1)(h0:0<=n)(h:n<=1000000):xz e 1 24 [.slice none 0 0] (vi n) (vi n) σ=some (.slice σ.next 0 n.toNat n.toNat,σ.box (List.replicate n.toNat EA) e 1):=by
 simp only[xz];rw[if_pos ⟨dO,dO,by unfold reach;omega,iF,rfl,rfl⟩];have:(rep n.toNat [Value.slice none 0 0]).map VV.v=List.replicate n.toNat EA:=by
  generalize n.toNat=m
  induction m with
  | zero=>rfl
  | succ m ih=>rw[BL,<- ih];simp[rep,BL,EA]
 simp only[this]
structure tB(τ:D1)(b idN idX:Nat)(c:I2):Prop where
 next:b+4<=τ.next
 fails:τ.heap b=.cells (List.replicate c.first.length EA) 229 1 b
 traces:τ.heap (b+1)=.cells (List.replicate c.first.length EA) 238 1 (b+1)
 cov:τ.heap (b+2)=.obj (.map [] 0)
 ne:idN≠idX
 nodes:LA τ (b+4) idN (List.replicate c.first.length Fl)
 nexts:LA τ (b+4) idX ((List.range c.first.length).map λ(j:Nat)=>E8 c j (-1))
 world:τ.heap (b+3)=.cells [vl c.programs,vl c.first,vl c.restarts,vl c.requests,vi c.crashes,vi c.drops,vi c.dups,vi c.drift,.slice idN 0 c.first.length c.first.length,EA,.slice idX 0 c.first.length c.first.length,EA,.slice b 0 c.first.length c.first.length,.slice (b+1) 0 c.first.length c.first.length,.map (b+2),vi 0] 118 16 (b+3)
section
variable [Prim Tryz.prog][OH]
set_option maxHeartbeats 1000000 in
def ir(c:I2)(hp:GD c)(σ:D1) :
  VC Tryz.prog 21 [.agg (DZ.e c)] σ (λr σ'=>σ.next<=σ'.low/\if GV c then ∃ b idN idX,σ.next<=b/\r=.tup [.ptr (b+3) 0,vi 0]/\tB σ' b idN idX c else r=.tup [.v (.pointer none),vi 20]):=by
 have vm:=λ(n:Int) e τ=>xy n e τ
 obtain⟨hp1,hp2,hp3,hp4,hp5⟩:=hp;have hcode:=jX hp5;refine Ea XF21 ?_;cases hv:GV c
 ·have hk:=Uj c ⟨hp1,hp2,hp3,hp4,hp5⟩
  rw[hv] at hk
  (repeat' (first | with_reducible exact trivial | refine Zl @xf21.eq_1 ?_ | refine Zz0 hk λgn=>?_ | fail))
 ·have hk:=Uj c ⟨hp1,hp2,hp3,hp4,hp5⟩
  rw[hv] at hk;have hf:1<=c.first.length/\c.first.length<=12/\1<=c.programs.length:=by
   rw[GV,Al,decide_eq_true_eq] at hv;have h1:=hv.1;unfold Lg at h1;omega
  have vm:=λe τ=>xy c.first.length e τ dO dO
  (repeat' (first | refine Zl (J7 @xf21.eq_1 vm @B8 @nu @Vz @PF @xA) ?_ | refine Zz0 hk λgn=>?_ | refine Zz0 (tA c dO dO hcode) λgn=>?_ | fail))
  rename_i g1;refine Hw (λA hA=>?_);obtain⟨n,hn⟩:∃ n,n=c.first.length:=⟨_,rfl⟩
  obtain⟨b,hb⟩:∃ b,b=σ.next+(1+(g1+gn)):=⟨_,rfl⟩
  have zF:A.heap b=.cells (List.replicate n EA) 229 1 b:=by rw[hA,hb,hn];simp +decide only[wA,↓reduceIte,Nat.reduceAdd,Vz,PF]
  have zT:A.heap (b+1)=.cells (List.replicate n EA) 238 1 (b+1):=by rw[hA,hb,hn];simp +decide only[wA,↓reduceIte,Nat.reduceAdd,Vz,PF]
  have zM:A.heap (b+2)=.obj (.map [] 0):=by rw[hA,hb];simp +decide only[wA,↓reduceIte,Nat.reduceAdd,Vz,PF]
  have zW:A.heap (b+3)=.cells [vl c.programs,vl c.first,vl c.restarts,vl c.requests,vi c.crashes,vi c.drops,vi c.dups,vi c.drift,EA,EA,EA,EA,.slice b 0 n n,.slice (b+1) 0 n n,.map (b+2),vi 0] 118 16 (b+3):=by rw[hA,hb,hn];simp +decide only[wA,↓reduceIte,Nat.reduceAdd,PF];rfl
  have zn:A.next=b+4:=by rw[hA,hb];simp +decide only[wA,Nat.reduceAdd,PF]
  have zl:A.low=σ.next:=by rw[hA];simp +decide only[wA,xA]
  clear hA;obtain⟨nx,hnx⟩:∃ nx:List Int,nx=(List.range n).map λ(j:Nat)=>E8 c j (-1):=⟨_,rfl⟩
  have hnxl:nx.length=n:=by rw[hnx,AJ,BO]
  refine Ek 0 (λk fe Z=>fe 6=.ptr (b+3) 0/\fe 25=vi n/\σ.next<=Z.low/\b+4<=Z.next/\Z.heap b=.cells (List.replicate n EA) 229 1 b/\Z.heap (b+1)=.cells (List.replicate n EA) 238 1 (b+1)/\Z.heap (b+2)=.obj (.map [] 0)/\∃ (i:Nat) (NV XV:VV),fe 26=vi i/\k+i=n/\Z.heap (b+3)=.cells [vl c.programs,vl c.first,vl c.restarts,vl c.requests,vi c.crashes,vi c.drops,vi c.dups,vi c.drift,NV,EA,XV,EA,.slice b 0 n n,.slice (b+1) 0 n n,.map (b+2),vi 0] 118 16 (b+3)/\
    Mt Z (b+4) NV (List.replicate i Fl)/\Mt Z (b+4) XV (nx.take i)/\∀ j,s9 NV=some j->s9 XV≠some j)
   (λfe Z=>fe 6=.ptr (b+3) 0/\σ.next<=Z.low/\b+4<=Z.next/\Z.heap b=.cells (List.replicate n EA) 229 1 b/\Z.heap (b+1)=.cells (List.replicate n EA) 238 1 (b+1)/\Z.heap (b+2)=.obj (.map [] 0)/\∃ idN idX,idN≠idX/\LA Z (b+4) idN (List.replicate n Fl)/\LA Z (b+4) idX nx/\Z.heap (b+3)=.cells [vl c.programs,vl c.first,vl c.restarts,vl c.requests,vi c.crashes,vi c.drops,vi c.dups,vi c.drift,.slice idN 0 n n,EA,.slice idX 0 n n,EA,.slice b 0 n n,.slice (b+1) 0 n n,.map (b+2),vi 0] 118 16 (b+3)) n ?_ ?_ ?_
  ·refine Zl (J2 hn.symm hb.symm) ?_
   exact⟨by rw[hb];congr 1,dO,dO,zF,zT,zM,0,EA,EA,rfl,rfl,zW,.inl ⟨rfl,rfl⟩,.inl ⟨rfl,rfl⟩,λj hj=>by cases hj⟩
  ·rintro k fe Z ⟨f6,f25,lo,nx4,y0,y1,y2,i,NV,XV,f26,hk,y3,hN,hX,hd⟩
   have hs1:∀ x,s9 NV=some x->b+4<=x:=λx hx=>(hN.lt hx).1
   have hs2:∀ x,s9 XV=some x->b+4<=x:=λx hx=>(hX.lt hx).1
   have c1:=hN.s7;have c2:=hX.s7;have c3:=hN.FE;have c4:=hX.FE
   (repeat' (first | refine Zl (J7 f6 f25 f26 y0 y1 y2 y3) ?_ | refine Zz0 Xc λgn=>?_ | refine Zb (λ_ gd=>?_) λ_ gd=>?_ | fail))
   ·refine GC.one Fl rfl rfl rfl (RN _) ?_
    refine Zl (J7 f6 f25 f26 y0 y1 y2 y3) ?_
    refine D5.rwN (b:=b+4) (l:=List.replicate i Fl) (m:=[Fl]) (hN.D8 ah0 (λj hj hr=>by simp +decide only[wA])) ah0 iF (EN _ _ _ rfl) rfl (by rw[AS];unfold reach;simp;omega) iF ?_;intro id1 τ k1 k2 k3 k4 k5 k6;simp only[lW] at k2 k3 k4 k5 k6;have ne:∀ x,x < b+4->s9 NV≠some x:=λx hx h=>by have:=hs1 x h;omega
    have u0:τ.heap b=.cells (List.replicate n EA) 229 1 b:=by rw[k6 b dO (ne b dO)];simp +decide only[wA];exact y0
    have u1:τ.heap (b+1)=.cells (List.replicate n EA) 238 1 (b+1):=by rw[k6 _ dO (ne _ dO)];simp +decide only[wA];exact y1
    have u2:τ.heap (b+2)=.obj (.map [] 0):=by rw[k6 _ dO (ne _ dO)];simp +decide only[wA];exact y2
    have u3:=(k6 (b+3) dO (ne _ dO)).trans (show _=_ from by simp +decide only[wA];exact y3);have uX:Mt τ (b+4) XV (nx.take i):=hX.D8 dO (λj hj hr=>by rw[k6 j dO (λh=>hd j h hr)];simp +decide only[wA]);clear k6
    refine Zl (J9 f6 f25 f26 u0 u1 u2 u3 c1 (J4 c2 c3 c4 @AS.{0})) ?_
    refine OJ (λB hB=>?_);have nb:∀ x,x < b+3->((x=b+3)=False):=λx hx=>eq_false dO
    have v0:B.heap b=.cells (List.replicate n EA) 229 1 b:=by rw[hB,HN,if_neg dO];exact u0
    have v1:B.heap (b+1)=.cells (List.replicate n EA) 238 1 (b+1):=by rw[hB,HN,if_neg dO];exact u1
    have v2:B.heap (b+2)=.obj (.map [] 0):=by rw[hB,HN,if_neg dO];exact u2
    have v3:=(congrArg (λs:D1=>s.heap (b+3)) hB).trans (EY _ _ _ _ _ _);have vN:LA B (b+4) id1 (List.replicate i Fl++[Fl]):=by
     obtain⟨t,q,a1,a2,a3,a4⟩:=k1;exact⟨t,q,a1,a2,by rw[hB];exact a3,by rw[hB,HN,if_neg dO];exact a4⟩
    have vX:Mt B (b+4) XV (nx.take i):=uX.D8 (by rw[hB];exact Af _) (λj hj hr=>by rw[hB,HN,if_neg (by have:=hs2 j hr;omega)]);have vl1:B.low=min τ.low (b+3):=by rw[hB];rfl
    have vn1:B.next=τ.next:=by rw[hB];rfl
    have hid1:∀ j,s9 XV=some j->j≠id1:=λj hj=>by
     have:=(hX.lt hj).2;omega
    clear hB;refine Ey.goG (by simp only[fG]) (jW c (b+3) i (-1) ⟨dO,dO⟩ dO B v3) ?_;intro gn2
    (repeat' (first | refine Zl (J9 f6 f25 f26 v0 v1 v2 v3 c2 c4) ?_ | refine ZE trivial [(_:Int)] ?_ | fail))
    have hX1:(nx.take i).length=i:=by rw[As,hnxl];omega
    refine D5.rwN (b:=b+4) (l:=nx.take i) (m:=[E8 c i (-1)]) (vX.D8 ah0 (λj hj hr=>by simp +decide only[wA])) ah0 iN (EN _ _ _ rfl) rfl (by rw[hX1];unfold reach;simp;omega) iF ?_;intro id2 τ2 l1 l2 l3 l4 l5 l6;simp only[lW] at l2 l3 l4 l5 l6;have ne2:∀ x,x < b+4->s9 XV≠some x:=λx hx h=>by have:=hs2 x h;omega
    have w0:τ2.heap b=.cells (List.replicate n EA) 229 1 b:=by rw[l6 b dO (ne2 b dO)];simp +decide only[wA];exact v0
    have w1:τ2.heap (b+1)=.cells (List.replicate n EA) 238 1 (b+1):=by rw[l6 _ dO (ne2 _ dO)];simp +decide only[wA];exact v1
    have w2:τ2.heap (b+2)=.obj (.map [] 0):=by rw[l6 _ dO (ne2 _ dO)];simp +decide only[wA];exact v2
    have w3:=(l6 (b+3) dO (ne2 _ dO)).trans (show _=_ from by simp +decide only[wA];exact v3);have wN:LA τ2 (b+4) id1 (List.replicate i Fl++[Fl]):=by
     obtain⟨t,q,a1,a2,a3,a4⟩:=vN;exact⟨t,q,a1,a2,dO,by rw[l6 id1 dO (λh=>hid1 id1 h rfl)];simp +decide only[wA];exact a4⟩
    clear l6
    refine Zl (J9 f6 f25 f26 w0 w1 w2 w3 hX1 (Fv (show i<=1000000 by omega))) ?_
    have hil:i < n:=dO
    have e1:List.replicate i Fl++[Fl]=List.replicate (i+1) Fl:=Cj.symm;have e2:nx.take i++[E8 c i (-1)]=nx.take (i+1):=by
     rw[<- CP (show i < nx.length by omega)];simp[hnx]
    rw[e1] at wN;rw[e2] at l1;have hb1:id1≠b+3:=by obtain⟨t,q,a1,a2,_⟩:=wN;omega
    have hb2:id2≠b+3:=by obtain⟨t,q,a1,a2,_⟩:=l1;omega
    exact⟨k - 1,dO,⟨dO,dO⟩,dO,i+1,_,_,rfl,dO,rfl,.inr ⟨id1,by rw[AS],wN.put hb1 _ _ _ _⟩,.inr ⟨id2,by rw[As,Bl dO],l1.put hb2 _ _ _ _⟩,λj hj hj2=>by cases hj;cases hj2;omega⟩
   ·have hin:i=n:=dO
    subst hin;rcases hN with ⟨h,_⟩ | ⟨idN,rfl,hN⟩
    ·have:=congrArg List.length h;rw[AS,Ap] at this;omega
    rcases hX with ⟨h,_⟩ | ⟨idX,rfl,hX⟩
    ·have:=congrArg List.length h;rw[As,hnxl,DB,Ap] at this;omega
    rw[Aj dO] at hX;refine⟨lo,nx4,idN,idX,λe=>hd idN rfl (by rw[e];rfl),hN,hX,?_⟩;rw[AS,As,hnxl,DB]
  ·rintro fe Z ⟨f6,lo,nx4,y0,y1,y2,idN,idX,hne,hN,hX,y3⟩
   refine Zl (J5 f6 y0 y1 y2 y3) ?_
   refine⟨lo,?_⟩;subst hn;subst hnx;exact⟨b,idN,idX,dO,rfl,nx4,y0,y1,y2,hne,hN,hX,y3⟩
end
def tB.D8{τ τ':D1}{b idN idX:Nat}{c:I2}(h:tB τ b idN idX c)(hn:τ.next<=τ'.next)(hh:∀ j,j < τ.next->τ'.heap j=τ.heap j):tB τ' b idN idX c:=by
 have h1:=h.next;have rw1:∀ {α:Type} [DZ α] {id:Nat} {l:List α},LA τ (b+4) id l->LA τ' (b+4) id l:=λ⟨t,q,a1,a2,a3,a4⟩=>⟨t,q,a1,a2,dO,by rw[hh _ a3];exact a4⟩
 exact⟨dO,by rw[hh b dO];exact h.fails,by rw[hh _ dO];exact h.traces,by rw[hh _ dO];exact h.cov,h.ne,rw1 h.nodes,rw1 h.nexts,by rw[hh _ dO];exact h.world⟩
section
variable [Prim Tryz.prog]
def Hr{i n:Nat}(h:i < n)(hn:n<=1000000):G0 ((i:Int)+1)=((i+1:Nat):Int):=by rw[Er dO dO];omega
def YK(cs:List Int)(l:List NH)(i:Nat)(hi:i < l.length):GW cs (l.take (i+1))=(GW cs (l.take i)).set l[i].var.toNat l[i].value:=by
 rw[Bn,Ah hi,Option.toList,NU];rfl
def gj(cs:List Int)(l:List NH)(hc:cs.length<=1000)(hl:l.length<=1000)(hv:∀ w∈l,0<=w.var/\w.var < cs.length)(σ:D1) :
  VC Tryz.prog 149 [vl cs,vl l] σ (λv σ'=>σ.next<=σ'.low/\Rw σ' σ.next v (GW cs l)):=by
 refine Ea XF149 ?_
 refine Zl @xf149.eq_1 ?_
 refine GC.row (l:=[]) rfl rfl rfl ?_
 refine Zy0 ?_
 refine D5.rw (l:=([]:List Int)) (m:=cs) (b:=σ.next) ⟨3,σ.next,Af _,Af _,by simp[Js,Lz],Jl _ _ _ _⟩ rfl (Gf _ _ rfl) rfl (by unfold reach;simp;omega) iF (λid τ hR h1 h2 h3 h4 h5=>?_);simp only[DB,lW] at h2;simp only[Ba] at hR;obtain⟨t,q,q1,q2,q3,q4⟩:=hR
 (repeat' (first | simp +decide only[↓Em,wA]))
 refine Ek 0 (λk fe Z=>fe 1=vl l/\fe 5=.slice id 0 cs.length cs.length/\σ.next<=Z.low/\id < Z.next/\∃ i:Nat,fe 6=vi i/\k+i=l.length/\Z.heap id=.cells (D4 (GW cs (l.take i))) t 1 q)
  (λfe Z=>fe 5=.slice id 0 cs.length cs.length/\σ.next<=Z.low/\id < Z.next/\Z.heap id=.cells (D4 (GW cs l)) t 1 q) l.length ?_ ?_ ?_
 ·(repeat' (first | simp +decide only[↓Em,wA]))
  exact⟨h2,q3,0,rfl,dO,q4⟩
 ·rintro k fe Z ⟨f1,f5,hlo,hn,i,f6,hk,hg⟩
  (repeat' (first | refine Zb (λ_ gd=>?_) λ_ gd=>?_ | simp +decide only[↓Em,wA,f1,f5,f6] | ((with_reducible refine Ih ?_ ?_ ?_ ?_);(omega);(omega);(rfl)) | ((with_reducible refine HK ?_ ?_ ?_);(omega);(decide)) | fail))
  ·have hi:i < l.length:=dO
   obtain⟨v1,v2⟩:=hv l[i] (Ao _)
   (repeat' (first | simp +decide only[↓Em,wA] | ((with_reducible refine HZ ?_ ?_ ?_);(omega);(omega))))
   refine vW (l:=GW cs (l.take i)) (i:=l[i].var.toNat) (x:=l[i].value) (v:=vi l[i].value) hg (by rw[F2];omega) rfl iN ?_ rfl;rw[<- YK cs l i hi]
   (repeat' (first | simp +decide only[↓Em,wA,↓reduceIte,f1,f5,f6,Hr hi dO]))
   exact⟨k - 1,dO,dO,hn,i+1,rfl,dO,rfl⟩
  ·rw[Aj dO] at hg
   exact⟨hlo,hn,hg⟩
 ·rintro fe Z ⟨f5,hlo,hn,hg⟩
  (repeat' (first | simp +decide only[↓Em,wsU,f5]))
  have:=LA.rw (l:=GW cs l) (σ:=Z) (b:=σ.next) (id:=id) ⟨t,q,q1,q2,hn,hg⟩ (n:=cs.length) (by rw[F2]);exact⟨hlo,this⟩
def S6(cs:List Int)(l:List NH)(hc:cs.length<=1000)(hl:l.length<=1000)(hv:∀ w∈l,0<=w.var/\w.var < cs.length)(σ:D1) :
  VC Tryz.prog 149 [vl cs,vl l] σ (λv σ'=>σ.next<=σ'.low/\App σ' σ.next v (GW cs l)):=VG.own (gj cs l hc hl hv σ)
def S7(cs:List Int)(l:List NH)(hc:cs.length<=1000)(hl:l.length<=1000)(hv:∀ w∈l,0<=w.var/\w.var < cs.length) :
  VD Tryz.prog 149 [vl cs,vl l] (vl (GW cs l)):=VD.I3 (S6 cs l hc hl hv)
def F1.small{d:PG}(h:F1 d):d.cells.length<=1000/\d.pending.length<=1000:=by have:=h.cells;have:=h.pend;omega
def Qe(d:PG)(h:F1 d)(σ:D1):VC Tryz.prog 143 [.agg (DZ.e d)] σ (λv σ'=>σ.next<=σ'.low/\App σ' σ.next v (Gp d)):=by
 refine Ea XF143 ?_
 (repeat' (first | refine Zl @xf143.eq_1 ?_ | refine ZA (za Int) trivial (S6 _ _ h.small.1 h.small.2 h.var _) λgv gn glv ga gl=>?_ | fail))
 exact ga.lP dO
def ma(d:PG)(h:F1 d):VD Tryz.prog 143 [.agg (DZ.e d)] (vl (Gp d)):=VD.I3 (Qe d h)
def mb(d:PG)(h:F1 d):VD Tryz.prog 174 [.agg (DZ.e d)] (.agg (DZ.e (Xf d))):=by
 intro σ;refine Ea XF174 ?_
 (repeat' (first | refine Zl @xf174.eq_1 ?_ | refine Zz0 (ma d h) λgn=>?_ | fail))
 exact⟨rfl,rfl⟩
def gm(d:PG)(h:F1 d)(c v:Int):VD Tryz.prog 173 [.agg (DZ.e d),vi c,vi v] (.agg (DZ.e (JG d c v))):=by
 intro σ;obtain⟨s1,s2⟩:=h.small;refine Ea XF173 ?_
 (repeat' (first | refine Zl @xf173.eq_1 ?_ | refine Zb (λ_ gd=>?_) λ_ gd=>?_ | refine ZE trivial ([]:List (NH)) ?_ | refine ZE trivial [(⟨_,_⟩:NH)] ?_ | refine ZP (zp NH σ.next) λgt gn glo glv ga g1 g2 g3=>?_ | ((with_reducible apply Ey.dP);((try simp only[Au,AD,Ii]);exact rfl);(first | exact S7 _ _ s1 (by rw[As];omega) (λw hw=>OM d h c v IF IF w (Bm hw)));intro gn) | fail))
 ·rw[JG,if_pos (.inr dO)];exact⟨rfl,rfl⟩
 ·rw[JG,if_neg dO,if_pos dO]
  exact⟨dO,rfl,rfl⟩
 ·rw[JG,if_neg dO,if_neg dO]
  exact⟨dO,rfl,rfl⟩
 ·rw[JG,if_pos (.inl dO)];exact⟨rfl,rfl⟩
def S8(l:List NH)(k:List Bool)(i:Nat)(h1:i < l.length)(h2:i < k.length):Hx (l.take (i+1)) k=Hx (l.take i) k++(if k[i] then [l[i]] else []):=by
 induction l generalizing k i with
 | nil=>simp at h1
 | cons w l ih=>
  cases k with
  | nil=>simp at h2
  | cons b k=>
   cases i with
   | zero=>cases b<;>cases l<;>simp[Hx]
   | succ i=>
    have:=ih k i ac0 ad0;simp only[BS,Hx,Cx,this];cases b<;>simp
def UU(l:List NH)(k:List Bool)(i:Nat)(h:l.length<=i\/k.length<=i):Hx (l.take i) k=Hx l k:=by
 rcases h with h | h
 ·rw[Aj h]
 ·induction l generalizing k i with
  | nil=>simp
  | cons w l ih=>
   cases k with
   | nil=>cases i<;>simp[Hx]
   | cons b k=>
    cases i with
    | zero=>simp at h
    | succ i=>simp only[BS,Hx,ih k i ae0]
def mc(l:List NH)(k:List Bool)(w:NH)(h:w∈Hx l k):w∈l:=by
 induction l generalizing k with
 | nil=>simp[Hx] at h
 | cons x l ih=>
  cases k with
  | nil=>simp[Hx] at h
  | cons b k=>
   simp only[Hx] at h;split at h
   ·rcases Aq.1 h with rfl | h
    ·simp
    ·simp[ih k h]
   ·simp[ih k h]
def UW(l:List NH)(k:List Bool):(Hx l k).length<=l.length:=by
 induction l generalizing k with
 | nil=>simp[Hx]
 | cons x l ih=>
  cases k with
  | nil=>simp[Hx]
  | cons b k=>
   simp only[Hx];have:=ih k;split<;>simp<;>omega
def gp(d:PG)(h:F1 d)(D8:List Bool)(hk:D8.length<=1000):VD Tryz.prog 123 [.agg (DZ.e d),vl D8] (.agg (DZ.e (PI d D8))):=by
 intro σ;obtain⟨s1,s2⟩:=h.small;refine Ea XF123 ?_
 refine Zl @xf123.eq_1 ?_
 generalize hA:(σ.fresh.box _ _ _).box _ _ _=A;have nA:A.next=σ.next+2:=by rw[<- hA];rfl
 have lA:A.low=σ.next:=by rw[<- hA];rfl
 have a1:A.heap σ.next=.cells [vl d.cells,vl d.pending] 121 2 σ.next:=by rw[<- hA];simp +decide only[wA,↓reduceIte]
 have a2:A.heap (σ.next+1)=.cells [.v (.slice none 0 0),.v (.slice none 0 0)] 121 2 (σ.next+1):=by rw[<- hA];simp +decide only[wA,↓reduceIte]
 clear hA;refine Ek 0 (λk fe Z=>fe 1=vl D8/\fe 2=.ptr σ.next 0/\fe 4=.ptr (σ.next+1) 0/\σ.next<=Z.low/\Z.heap=A.heap/\A.next<=Z.next/\∃ i:Nat,fe 6=vi i/\k+i=d.pending.length/\App Z σ.next (fe 5) (Hx (d.pending.take i) D8))
  (λfe Z=>fe 2=.ptr σ.next 0/\fe 4=.ptr (σ.next+1) 0/\σ.next<=Z.low/\Z.heap=A.heap/\A.next<=Z.next/\App Z σ.next (fe 5) (Hx d.pending D8)) d.pending.length ?_ ?_ ?_
 ·refine Zy0 ?_
  exact⟨dO,0,rfl,dO,by rw[A6];exact App.nil _ _⟩
 ·rintro k fe Z ⟨f1,f2,f4,hlo,hZ,hn,i,f6,hk,ga⟩
  have hkl:=UW (d.pending.take i) D8;simp only[As] at hkl
  (repeat' (first | refine Zl (J6 f1 f2 f4 f6 hZ a1) ?_ | refine Zb (λ_ gd=>?_) λ_ gd=>?_ | refine Zt (λgd=>?_) λgd=>?_ | refine ZE trivial [(⟨_,_⟩:NH)] ?_ | refine ZP (zp NH σ.next) λgt gn glo glv ga g1 g2 g3=>?_ | fail))
  ·have hi:i < d.pending.length:=dO
   refine⟨k - 1,dO,dO,dO,i+1,Hr hi dO,dO,?_⟩;rw[S8 _ _ _ hi dO,if_pos IF];exact ga
  ·have hi:i < d.pending.length:=dO
   have gd':D8[i]=false:=IF
   refine⟨k - 1,dO,hlo,hn,i+1,Hr hi dO,dO,?_⟩;rw[S8 _ _ _ hi dO,gd'];simpa using ga
  ·rw[UU _ _ _ dO] at ga;exact⟨hlo,hn,ga⟩
  ·rw[UU _ _ _ dO] at ga;exact⟨hlo,hn,ga⟩
 ·rintro fe Z ⟨f2,f4,hlo,hZ,hn,ga⟩
  have hkl:=UW d.pending D8;have gf:=ga.fg
  (repeat' (first | refine Zl (J6 f2 f4 hZ a1 a2 gf) ?_ | ((with_reducible apply Ey.dP);((try simp only[Au,AD,Ii,gf]);exact rfl);(first | exact S7 _ _ s1 dO (λw hw=>h.var w (mc _ _ _ hw)));intro gn) | fail))
  exact⟨dO,rfl,rfl⟩
def YL(d:PG)(h:F1 d)(n:Nat)(hn:n<=1000):VD Tryz.prog 116 [.agg (DZ.e d),vi n] (.agg (DZ.e (Hs d n))):=by
 intro σ;obtain⟨s1,s2⟩:=h.small;refine Ea XF116 ?_
 (repeat' (first | refine Zl @xf116.eq_1 ?_ | refine ZA (za Int) trivial (Qe d h _) λgv gn glv ga gl=>?_ | fail))
 have vL:(Gp d).length=d.cells.length:=F2 _ _;refine Hw (λA hA=>?_);have ga:App A σ.next gv (Gp d):=by rw[hA];exact ga.lP dO
 have nA:σ.next+2<=A.next:=by rw[hA];simp +decide only[wA,Nat.reduceAdd];omega
 have lA:A.low=σ.next:=by rw[hA];rfl
 have a1:A.heap (σ.next+1)=.cells [.v (.slice none 0 0),.v (.slice none 0 0)] 121 2 (σ.next+1):=by rw[hA];simp +decide only[wA,↓reduceIte]
 clear hA;refine Ek 0 (λk fe Z=>fe 1=vi n/\fe 4=.ptr (σ.next+1) 0/\σ.next<=Z.low/\Z.heap=A.heap/\A.next<=Z.next/\∃ i:Nat,k+i=n - (Gp d).length/\App Z σ.next (fe 5) (Gp d++List.replicate i 0))
  (λfe Z=>fe 1=vi n/\fe 4=.ptr (σ.next+1) 0/\σ.next<=Z.low/\Z.heap=A.heap/\A.next<=Z.next/\App Z σ.next (fe 5) (Gp d++List.replicate (n - (Gp d).length) 0)) (n - (Gp d).length) ?_ ?_ ?_
 ·refine Zy0 ?_
  exact⟨dO,0,rfl,by simpa using ga⟩
 ·rintro k fe Z ⟨f1,f4,hlo,hZ,hz,i,hk,ga⟩
  have hl:(Gp d++List.replicate i (0:Int)).length=d.cells.length+i:=by rw[Ad,AS,vL]
  (repeat' (first | refine Zl (J3 f1 f4 hZ) ?_ | refine Zb (λ_ gd=>?_) λ_ gd=>?_ | refine ZR (zr Int) ?_ | refine ZE trivial [(_:Int)] ?_ | refine ZP (zp Int σ.next) λgt gn glo glv ga g1 g2 g3=>?_ | fail))
  ·refine⟨k - 1,dO,dO,dO,i+1,dO,?_⟩
   rw[Cj,<- AU];exact ga
  ·obtain rfl:i=n - (Gp d).length:=dO
   exact⟨hlo,hz,ga⟩
 ·rintro fe Z ⟨f1,f4,hlo,hZ,hz,ga⟩
  have hl:(Gp d++List.replicate (n - (Gp d).length) (0:Int)).length=d.cells.length+(n - d.cells.length):=by rw[Ad,AS,vL]
  (repeat' (first | refine Zl (J4 f1 f4 hZ a1) ?_ | refine ZQ (zr Int) λgr grd=>?_ | fail))
  have q1:=grd.cs;have q2:=λm=>grd.all m
  have q3:=grd.fg
  refine Zl (J6 q1 q2 q3 f4 hZ a1) ?_
  exact⟨dO,rfl,rfl⟩
end
section
variable [Prim Tryz.prog]
def S9(l:List Int)(x:Int)(hl:l.length<=100000):VD Tryz.prog 202 [vl l,vi x] (vb (l.contains x)):=by
  intro σ;refine Ea XF202 ?_
  refine Zl @xf202.eq_1 ?_
  refine Ek 0 (λk fe Z=>fe 0=vl l/\fe 1=vi x/\Z=σ.fresh/\∃ i:Nat,fe 5=vi i/\k+i=l.length/\∀ j (h:j < l.length),j < i->l[j]≠x) (λfe Z=>Z=σ.fresh/\∀ j (h:j < l.length),l[j]≠x) l.length ?_ ?_ ?_
  · refine Zy0 ?_
    exact⟨0,rfl,dO,λ_ _ h=>dO⟩
  · rintro k fe Z ⟨f0,f1,rfl,i,f5,hk,hall⟩
    (repeat' (first | refine Zl (J3 f0 f1 f5) ?_ | refine Zb (λ_ gd=>?_) λ_ gd=>?_ | fail))
    · have:l.contains x=true:=by rw[Cz,<- (by assumption:l[i]=x)];exact Ao _
      rw[this]
    · have hi:i < l.length:=dO
      refine⟨k - 1,dO,i+1,Hr hi dO,dO,λj hj hlt=>?_⟩;by_cases e:j=i
      · subst e;assumption
      · exact hall j hj dO
    · exact λj hj=>hall j hj dO
  · rintro fe Z ⟨rfl,hall⟩
    refine Zy0 ?_
    symm;rw[Bq,ne_eq,Cz];intro hm;obtain⟨j,hj,rfl⟩:=AN hm;exact hall j hj rfl
def UX(l:List Int)(n:Nat)(hl:l.length<=100000)(σ:D1):VC Tryz.prog 17 [vl l,vi n] σ (λv σ'=>σ.next<=σ'.low/\App σ' σ.next v (l.take n)):=by
  refine Ea XF17 ?_
  (repeat' (first | refine Zl @xf17.eq_1 ?_ | refine ZN (zp Int σ.next) λgr gn glo glv ga g1 g2 g3=>?_ | fail))
  refine⟨dO,?_⟩;have e:l.take (if (n:Int) < l.length then (n:Int) else l.length).toNat=l.take n:=by
    split
    · rw[B8]
    · rw[Aj dO,Aj dO]
  rw[<- e];exact ga
def QP(l:List Gy)(q:Qn)(i:Nat)(hi:i < l.length):GH (l.take (i+1)) q=if l[i].q=q then max l[i].n 0 else GH (l.take i) q:=by
  rw[Bn,Ah hi,Option.toList,Ua]
def Ta(l:List Gy)(q:Qn)(hl:l.length<=100000):VD Tryz.prog 148 [vl l,.agg (DZ.e q)] (vi (GH l q)):=by
  intro σ;refine Ea XF148 ?_
  refine Zl @xf148.eq_1 ?_
  refine Hw (λA hA=>?_);have lA:A.low=σ.next:=by rw[hA];rfl
  have a1:A.heap σ.next=.cells (DZ.e q) 47 5 σ.next:=by rw[hA];simp +decide only[wA,↓reduceIte]
  clear hA;refine Ek 0 (λk fe Z=>fe 0=vl l/\fe 3=.ptr σ.next 0/\Z=A/\∃ i:Nat,fe 6=vi i/\k+i=l.length/\fe 5=vi (GH (l.take i) q)) (λfe Z=>Z=A/\fe 5=vi (GH l q)) l.length ?_ ?_ ?_
  · refine Zy0 ?_
    exact⟨0,rfl,dO,rfl⟩
  · rintro k fe Z ⟨f0,f3,rfl,i,f6,hk,f5⟩
    (repeat' (first | refine Zl (J5 f0 f3 f5 f6 a1) ?_ | refine Zb (λ_ gd=>?_) λ_ gd=>?_ | fail))
    · have hi:i < l.length:=dO
      refine⟨k - 1,dO,i+1,Hr hi dO,dO,?_⟩;rw[QP _ _ _ hi,if_pos (c:=l[i].q=q) IF];split<;>omega
    · have hi:i < l.length:=dO
      refine⟨k - 1,dO,i+1,Hr hi dO,dO,?_⟩;rw[QP _ _ _ hi,if_neg (c:=l[i].q=q) IF]
    · rw[Aj dO]
  · rintro fe Z ⟨rfl,f5⟩
    refine Zl f5 ?_
    omega
def KY(l:List Gy)(q:Qn)(ar:Int)(hl:l.length<=100000)(ha:ar≠0):VD Tryz.prog 122 [vl l,.agg (DZ.e q),vi ar] (vi (EJ l q ar)):=by
  intro σ;refine Ea XF122 ?_
  (repeat' (first | refine Zz0 (Ta _ q hl) λgn=>?_ | simp +decide only[↓Em,wA,↓reduceIte,Nat.reduceAdd,xf122,S5 _ _ ha,EJ] | fail))
def Qf(s:FZ)(h:F1 s.disk)(hv:s.vol.length<=1000)(σ:D1):VC Tryz.prog 124 [.agg (DZ.e s)] σ (λv σ'=>σ.next<=σ'.low/\App σ' σ.next v (GK s)):=by
  have vL:(Gp s.disk).length=s.disk.cells.length:=F2 _ _;have:=h.cells;refine Ea XF124 ?_
  (repeat' (first | refine Zl (J2 @xf124.eq_1 @EG) ?_ | refine ZA (za Int) trivial (Qe _ h _) λgv gn glv ga gl=>?_ | refine ZN (zp Int σ.next) λgr gn glo glv ga g1 g2 g3=>?_ | fail))
  exact⟨dO,ga⟩
def Wy(l:List Int)(k:Int)(set:Bool)(i:Nat):((List.range (i+1)).filter λ(i:Nat)=>if (i:Int)=k then set else l.contains (i:Int)).map (λ(i:Nat)=>(i:Int))=((List.range i).filter λ(i:Nat)=>if (i:Int)=k then set else l.contains (i:Int)).map (λ(i:Nat)=>(i:Int))++(if (if (i:Int)=k then set else l.contains (i:Int))=true then [(i:Int)] else []):=by
  rw[CW,Cc,AX]
  congr 1
  simp only[List.filter_cons,List.filter_nil];split<;>(split<;>rfl)
def QQ(l:List Int)(k:Int)(set:Bool)(hl:l.length<=1000):VD Tryz.prog 175 [vl l,vi k,vb set] (vl (Jm l k set)):=by
  refine VD.I3 λσ=>?_
  refine Ea XF175 ?_
  refine Zl @xf175.eq_1 ?_
  refine Ek 0 (λm fe Z=>fe 0=vl l/\fe 1=vi k/\fe 2=vb set/\σ.next<=Z.low/\σ.next<=Z.next/\∃ i:Nat,fe 8=vi i/\m+i=8/\App Z σ.next (fe 7) (((List.range i).filter λ(i:Nat)=>if (i:Int)=k then set else l.contains (i:Int)).map (λ(i:Nat)=>(i:Int))))
    (λfe Z=>σ.next<=Z.low/\App Z σ.next (fe 7) (Jm l k set)) 8 ?_ ?_ ?_
  · refine Zy0 ?_
    exact⟨0,rfl,dO,App.nil _ _⟩
  · rintro m fe Z ⟨f0,f1,f2,hlo,hz,i,f8,hm,ga⟩
    have hlen:=Bh (λ(i:Nat)=>if (i:Int)=k then set else l.contains (i:Int)) (List.range i);rw[BO] at hlen;have hst:=Wy l k set i;cases set<;>(repeat' (first | refine Zl (J4 f0 f1 f2 f8) ?_ | refine Zz0 (S9 l _ dO) λgn=>?_ | refine Zb (λ_ gd=>?_) λ_ gd=>?_ | refine Zt (λgd=>?_) λgd=>?_ | refine ZE trivial [(_:Int)] ?_ | refine ZP (zp Int σ.next) λgt gn glo glv ga g1 g2 g3=>?_ | fail))
    all_goals first
      | (obtain rfl:i=8:=dO
         exact⟨hlo,ga⟩)
      | (refine⟨m - 1,dO,dO,dO,i+1,Hr (n:=8) dO dO,dO,?_⟩
         first | rw[if_pos (by assumption:(i:Int)=k)] at hst | rw[if_neg (by assumption:¬ (i:Int)=k)] at hst
         (try rw[(by assumption:l.contains (i:Int)=true)] at hst)
         (try rw[(by assumption:l.contains (i:Int)=false)] at hst)
         simp only[if_true,if_false,AW,AP] at hst;rw[hst];first | exact ga | exact ga.skip _)
  · rintro fe Z ⟨hlo,ga⟩
    refine Zy0 ?_
    exact⟨hlo,ga⟩
end
section
variable [Prim Tryz.prog]
def gq(n:Int):VD Tryz.prog 203 [vi n] (vi (Xo n)):=by
 intro σ;refine Ea XF203 ?_
 refine Zl @xf203.eq_1 ?_
 unfold Xo;split<;>split<;>omega
def Tb(b:Bool):VD Tryz.prog 171 [vb b] (vi (NK b)):=by
 intro σ;refine Ea XF171 ?_;cases b<;>(repeat' (first | with_reducible exact trivial | refine Zl @xf171.eq_1 ?_ | fail))
 all_goals rfl
def Ix(op y x:Int)(hy:D2 y)(hx:D2 x):VD Tryz.prog 170 [vi op,vi y,vi x] (vi (Hp op y x)):=by
 intro σ;refine Ea XF170 ?_
 (repeat' (first | refine Zl (J4 @xf170.eq_1 (uz hy hx) (uA hy hx) (uB hy hx)) ?_ | refine Zz0 (gq _) λgn=>?_ | refine Zz0 (Tb _) λgn=>?_ | refine Zb (λ_ gd=>?_) λ_ gd=>?_ | fail))
 all_goals simp only[Hp, *,if_true,if_false,Int.reduceEq]
 all_goals (try rw[uC hy])
def YM(l:List Int)(i:Nat)(k:Int)(hk:2<=k/\k<=4)(hl:∀ x∈l,0<=x):VD Tryz.prog 169 [vl l,vi i,vi k] (vi ((l.getD i 0).tmod k)):=by
 intro σ;refine Ea XF169 ?_
 (repeat' (first | refine Zl @xf169.eq_1 ?_ | refine Zb (λ_ gd=>?_) λ_ gd=>?_ | fail))
 ·rw[AY,AO dO];simp
 ·have h0:=hl l[i] (Ao _)
  have h1:=Bf k h0;have h2:=A2 l[i] (by omega:0 < k);rw[Er dO dO,AY,Ah dO,B2,Int.tmod_eq_emod_of_nonneg dO,Int.add_emod_right,Int.emod_eq_of_lt h1 h2]
 ·omega
def Tc(l:List Act)(i:Nat)(hi:i < l.length):Ij (l.take (i+1))=Ij (l.take i)+if l[i].kind=3 then 1 else 0:=by
 unfold Ij;rw[Bn,Ah hi,Cc,Ad];by_cases h:l[i].kind=3<;>simp[h]
def qP(l:List Act):Ij l<=l.length:=Bh _ _
def me(l:List Act)(hl:l.length<=100000):VD Tryz.prog 172 [vl l] (vi (Ij l)):=by
 intro σ;refine Ea XF172 ?_
 refine Zl @xf172.eq_1 ?_
 refine Ek 0 (λk fe Z=>fe 0=vl l/\Z=σ.fresh/\∃ i:Nat,fe 4=vi i/\k+i=l.length/\fe 3=vi (Ij (l.take i))) (λfe Z=>Z=σ.fresh/\fe 3=vi (Ij l)) l.length ?_ ?_ ?_
 ·refine Zy0 ?_
  exact⟨0,rfl,dO,rfl⟩
 ·rintro k fe Z ⟨f0,rfl,i,f4,hk,f3⟩
  (repeat' (first | refine Zl (J3 f0 f4 f3) ?_ | refine Zb (λ_ gd=>?_) λ_ gd=>?_ | fail))
  ·have hi:i < l.length:=dO
   have h1:=qP (l.take i);rw[As] at h1;refine⟨k - 1,dO,i+1,Hr hi dO,dO,?_⟩;rw[Tc _ _ hi,if_pos IF,Er dO dO];rfl
  ·have hi:i < l.length:=dO
   refine⟨k - 1,dO,i+1,Hr hi dO,dO,?_⟩;rw[Tc _ _ hi,if_neg IF];rfl
  ·rw[Aj dO]
 ·rintro fe Z ⟨rfl,f3⟩
  (repeat' (first | with_reducible exact trivial | refine Zl f3 ?_ | fail))
def Ow{α:Type}(p:α->Bool):∀ (l:List α) (i:Nat),i<=l.length->(∀ j (h:j < l.length),j < i->p l[j]=true)->(∀ h:i < l.length,p l[i]=false)->l.takeWhile p=l.take i/\l.dropWhile p=l.drop i
 | [],i,hi,_,_=>iN
 | a::l,0,_,_,h=>by
  have:=h iN;simp only[BB] at this;simp[this]
 | a::l,i+1,hi,h1,h2=>by
  have h0:=h1 0 iN dO;simp only[BB] at h0;obtain⟨q1,q2⟩:=Ow p l i (by simpa using hi) (λj hj hji=>h1 (j+1) (by simpa using hj) dO) (λh=>h2 ae0);simp[h0,q1,q2]
def qQ(l:List Int)(n:Int)(hl:l.length<=100000)(hc:l.contains n=false)(σ:D1):VC Tryz.prog 168 [vl l,vi n] σ (λv σ'=>σ.next<=σ'.low/\App σ' σ.next v (Fp l n)):=by
 refine Ea XF168 ?_;have hput:Fp l n=l.takeWhile (λx=>decide (x < n))++n::l.dropWhile (λx=>decide (x < n)):=by
  unfold Fp;rw[if_neg];intro h;rw[Cz.2 h] at hc;cases hc
 (repeat' (first | refine Zl (J2 @xf168.eq_1 hc) ?_ | refine Zz0 (S9 l n hl) λgn=>?_ | fail))
 refine Ek 0 (λk fe Z=>fe 0=vl l/\fe 1=vi n/\σ.next<=Z.low/\σ.next<=Z.next/\∃ i:Nat,fe 6=vi i/\k+i=l.length/\App Z σ.next (fe 5) (l.take i)/\∀ j (h:j < l.length),j < i->decide (l[j] < n)=true)
  (λfe Z=>fe 0=vl l/\fe 1=vi n/\σ.next<=Z.low/\σ.next<=Z.next/\∃ i:Nat,i<=l.length/\fe 6=vi i/\App Z σ.next (fe 5) (l.take i)/\l.takeWhile (λx=>decide (x < n))=l.take i/\l.dropWhile (λx=>decide (x < n))=l.drop i) l.length ?_ ?_ ?_
 ·refine Zy0 ?_
  exact⟨0,rfl,dO,App.nil _ _,λ_ _ h=>dO⟩
 ·rintro k fe Z ⟨f0,f1,hlo,hz,i,f6,hk,ga,hall⟩
  (repeat' (first | refine Zl (J3 f0 f1 f6) ?_ | refine Zb (λ_ gd=>?_) λ_ gd=>?_ | refine ZE trivial [(_:Int)] ?_ | refine ZP (zp Int σ.next) λgt gn glo glv ga g1 g2 g3=>?_ | fail))
  ·have hi:i < l.length:=dO
   refine⟨k - 1,dO,dO,dO,i+1,Hr hi dO,dO,?_,λj hj hji=>?_⟩
   ·rw[Bn,Ah hi];exact ga
   ·by_cases e:j=i
    ·subst e;assumption
    ·exact hall j hj dO
  ·refine⟨hlo,hz,i,dO,rfl,ga,?_⟩
   exact Ow _ l i dO hall λ_=>IF
  ·refine⟨hlo,hz,i,dO,rfl,ga,?_⟩
   exact Ow _ l i dO hall λ_=>dO
 ·rintro fe Z ⟨f0,f1,hlo,hz,i,hi,f6,ga,e1,e2⟩
  rw[hput,e1,e2]
  (repeat' (first | refine Zl (J3 f0 f1 f6) ?_ | refine ZE trivial [(_:Int)] ?_ | refine ZP (zp Int σ.next) λgt gn glo glv ga g1 g2 g3=>?_ | fail))
  exact⟨dO,by simpa using ga⟩
def qR(l:List Int)(n:Int)(hl:l.length<=100000):VD Tryz.prog 168 [vl l,vi n] (vl (Fp l n)):=by
 intro σ;cases hc:l.contains n with
 | false=>exact VD.I3 (λσ=>qQ l n hl hc σ) σ
 | true=>
  refine Ea XF168 ?_
  (repeat' (first | refine Zl (J2 @xf168.eq_1 hc) ?_ | refine Zz0 (S9 l n hl) λgn=>?_ | fail))
  unfold Fp;rw[if_pos (Cz.1 hc)]
end
def qS(σ:D1)(b:Nat)(X:List Nat)(v:VV)(l:List Int):Prop:=(v=.v (.slice none 0 0)/\l=[])\/∃ (id c:Nat) (t:TypeId) (q:Nat) (cc:List VV),v=.slice id 0 l.length c/\b<=q/\q<=id/\id < σ.next/\id ∉ X/\σ.heap id=.cells cc t 1 q/\cc.length=c/\l.length<=c/\cc.take l.length=D4 l.reverse
def qS.D8{σ σ':D1}{b:Nat}{X:List Nat}{v:VV}{l:List Int}(h:qS σ b X v l)(hn:σ.next<=σ'.next)(hh:∀ j,j < σ.next->j ∉ X->σ'.heap j=σ.heap j):qS σ' b X v l:=by
 rcases h with h | ⟨id,c,t,q,cc,h1,h2,h3,h4,h5,h6,h7⟩
 ·exact .inl h
 ·exact .inr ⟨id,c,t,q,cc,h1,h2,h3,dO,h5,by rw[hh id h4 h5];exact h6,h7⟩
def qS.len{σ:D1}{b:Nat}{X:List Nat}{v:VV}{l:List Int}(h:qS σ b X v l):Mn v=some (vi l.length):=by
 rcases h with ⟨rfl,rfl⟩ | ⟨id,c,t,q,cc,rfl,_⟩<;>rfl
def L0(x:Int)(l:List Int):D4 (x::l).reverse=D4 l.reverse++[vi x]:=by rw[List.reverse_cons,G1];rfl
def Ha(l:List Int):(D4 l).length=l.length:=by rw[ES];exact Cb _
def Fa{cc:List VV}{l r:List Int}{x:Int}{n:Nat}(h:cc.take n=D4 (l++x::r).reverse)(hn:n=(l++x::r).length)(hc:n<=cc.length):(cc.drop r.length).take 1=[vi x]:=by
 have h1:((cc.take n).drop r.length).take 1=[vi x]:=by
  rw[h];have e:D4 (l++x::r).reverse=D4 r.reverse++(vi x::D4 l.reverse):=by
   rw[List.reverse_append,List.reverse_cons,G1,G1];simp[Gt,vY,Lr]
  rw[e,BG,Bb (by rw[Ha];simp),Ba,Ha,List.length_reverse,Nat.sub_self];rfl
 rw[CJ,CK] at h1;rw[Bl (by simp at hn;omega)] at h1;exact h1
section
variable {P:Program}[Prim P]{σ:D1}{K:VV->D1->Bool->Prop}
def D5.Ky{e:TypeId}{y:VV}{b:Nat}{X:List Nat}{v:VV}{l:List Int}{x:Int}(h:qS σ b X v l)(hX:∀ j∈X,j < σ.next)(hy:H9 σ 1 y=some (1,[vi x]))(hl:l.length<=1000)(hb:b<=σ.next)
  (hk:∀ r τ,qS τ b X r (x::l)->σ.next<=τ.next->min σ.low b<=τ.low->τ.low<=σ.low->(∀ j∈X,τ.heap j=σ.heap j)->(∀ j,j < σ.next->τ.live j=σ.live j)->K r τ false):@D5 e 1 8 v y ⟨((false,false),σ,K)⟩:=by
 have hv1:FE [vi x]=true:=rfl;rcases h with ⟨rfl,rfl⟩ | ⟨id,c,t,q,cc,rfl,h2,h3,h4,h5,h6,h7,h8,h9⟩
 ·refine D5.row (r:=.slice σ.next 0 1 1) (σ':=σ.box [vi x] e 1) ?_ (hk _ _ (.inr ⟨σ.next,1,e,σ.next,[vi x],rfl,hb,Af _,by rw[Js];omega,λhm=>by have:=hX _ hm;omega,Jl _ _ _ _,rfl,Af _,rfl⟩) (by rw[Js];omega) (by rw[Pk];omega) (Af _) (λj hj=>YN _ _ _ _ _ (by have:=hX j hj;omega)) (λj hj=>rfl))
  unfold Mo;rw[hy];rfl
 ·by_cases hc:l.length=c
  ·refine D5.row (r:=.slice σ.next 0 (l.length+1) (l.length+1)) (σ':=(σ.kill id q).alloc (.cells (cc++[vi x]) e 1 q)) ?_ (hk _ _ (.inr ⟨σ.next,l.length+1,e,q,cc++[vi x],rfl,h2,dO,by simp[D1.alloc,D1.kill],λhm=>by have:=hX _ hm;omega,by simp[D1.alloc,D1.kill],aa0,iN,?_⟩) (by simp[D1.alloc,D1.kill]) (by simp only[D1.alloc,D1.kill];omega) (by simp only[D1.alloc,D1.kill];omega) (λj hj=>?_) (λj hj=>rfl))
   ·unfold Mo
    rw[hy];simp only[Az,Nat.one_ne_zero,if_false,hv1,h6];rw[if_pos iF,if_pos ⟨trivial,hc,dO⟩,if_pos (by unfold reach;omega),Bu]
   ·rw[Aj aa0,L0,<- h9,Aj dO]
   ·have hj1:=hX j hj
    have hj2:j≠id:=λe=>h5 (e▸hj)
    simp[D1.alloc,D1.kill,hj2];intro e;omega
  ·refine D5.row (r:=.slice id 0 (l.length+1) c) (σ':=σ.write id (D0 cc l.length [vi x]) t 1 q) ?_ (hk _ _ (.inr ⟨id,c,t,q,_,rfl,h2,h3,h4,h5,EY _ _ _ _ _ _,by simp[D0];omega,aa0,?_⟩) (Af _) (by rw[H5];omega) (by rw[H5];omega) (λj hj=>ET _ _ _ _ _ _ _ λe=>h5 (e▸hj)) (λj hj=>rfl))
   ·unfold Mo
    rw[hy];simp only[Az,Nat.one_ne_zero,if_false,hv1,h6];rw[if_pos iF,if_neg (λh=>hc h.2.1),if_pos ⟨trivial,dO,dO⟩,Cb,A8]
   ·rw[L0,<- h9]
    unfold D0;simp only[Ag];rw[A9 aa0,Aj aa0]
def qS.cons{b:Nat}{X:List Nat}{v:VV}{x:Int}{r:List Int}(h:qS σ b X v (x::r)):∃ (id c:Nat) (t:TypeId) (q:Nat) (cc:List VV),v=.slice id 0 (r.length+1) c/\b<=q/\q<=id/\id < σ.next/\id ∉ X/\σ.heap id=.cells cc t 1 q/\cc.length=c/\r.length+1<=c/\cc.take (r.length+1)=D4 (x::r).reverse:=by
 rcases h with ⟨_,h⟩ | ⟨id,c,t,q,cc,h⟩
 ·cases h
 ·exact⟨id,c,t,q,cc,h⟩
def Ge{cc:List VV}{x:Int}{r:List Int}(h:cc.take (r.length+1)=D4 (x::r).reverse):cc.take r.length=D4 r.reverse:=by
 have:=congrArg (List.take r.length) h;rw[CK,Bl dO,L0,A9 (by rw[Ha];simp)] at this;rw[this];exact Aj (by rw[Ha];simp)
def It{cc:List VV}{x y:Int}{r:List Int}(h:cc.take (r.length+1)=D4 (x::r).reverse)(hc:r.length+1<=cc.length):(D0 cc r.length [vi y]).take (r.length+1)=D4 (y::r).reverse:=by
 unfold D0;rw[Ge h,L0,A9 (by rw[Ad,Ha];simp),Aj (by rw[Ad,Ha];simp)]
def Gx{cc:List VV}{y:VV}{n:Nat}(h:n+1<=cc.length):(D0 cc n [y]).length=cc.length:=by simp[D0];omega
def gu{X:List Nat}{v:VV}{l:List Int}{b:Nat}{K:VV->Prop}(h:qS σ b X v l)(hk:K (vi l.length)):@Jh _ (Mn v) ⟨K⟩:=⟨_,h.len,hk⟩
end
structure vZ(b:Nat)(p:HW)(nm:Nat->Int)(sa:List Int)(vid po:Nat)(tv:TypeId)(qv:Nat)(fe:FV)(Z:D1)(k:Nat)(s:ID)(va vc vk:VV):Prop where
 f4:fe 4=vl sa
 f5:fe 5=.ptr b 0
 f8:fe 8=.ptr (b+1) 0
 f10:fe 10=.ptr (b+2) 0
 f11:fe 11=.ptr po 0
 f12:fe 12=vi s.pc
 low:b<=Z.low
 next:po < Z.next
 h5:Z.heap b=.cells (DZ.e p) 58 43 b
 h8:Z.heap (b+1)=.cells (Gz 9 nm) 190 9 (b+1)
 h10:Z.heap (b+2)=.cells [.v (.slice none 0 0),.v (.slice none 0 0),vi 0,vb false,.v (.slice none 0 0),.v (.slice none 0 0)] 158 6 (b+2)
 h11:Z.heap po=.cells [.slice vid 0 s.vars.length s.vars.length,va,vi k,vb false,vc,vk] 158 6 po
 hv:Z.heap vid=.cells (D4 s.vars) tv 1 qv
 rc:Rd vc s.covered
 own:FT Z b [GB va s.acts,GB vk s.asked]
 Ky:qS Z b [b,b+1,b+2,po,vid] (fe 13) s.stack
 lens:s.acts.length<=k/\s.asked.length<=k/\s.covered.length<=k
section
variable [Prim Tryz.prog]
def v8(s:ID)(r:VV):Prop:=∃ (k:Int) (b:Bool),r=.agg [vl s.vars,vl s.acts,vi k,vb b,vl s.covered,vl s.asked]
def v9(b:Nat)(s:ID)(r:VV)(σ':D1):Prop:=b<=σ'.low/\∃ (vid:Nat) (tv:TypeId) (qv:Nat) (k:Int) (sp:Bool) (va vc vk:VV),r=.agg [.slice vid 0 s.vars.length s.vars.length,va,vi k,vb sp,vc,vk]/\b<=vid/\σ'.heap vid=.cells (D4 s.vars) tv 1 qv/\va.fg=vl s.acts/\vc.fg=vl s.covered/\vk.fg=vl s.asked/\(∀ cs,Gm vid 1 cs va=va/\Gm vid 1 cs vc=vc/\Gm vid 1 cs vk=vk)
def Td{α:Type}[DZ α]{σ:D1}{b:Nat}{v:VV}{l:List α}(h:App σ b v l)(id z:Nat)(cs:List VV):Gm id z cs v=v:=by
 rcases h with ⟨rfl,_⟩ | ⟨t,rfl,_⟩<;>(first | rfl | (unfold vo;rw[Gm]) | rw[Gm])
def xX{α:Type}[DZ α]{v:VV}{l:List α}(h:Rd v l)(id z:Nat)(cs:List VV):Gm id z cs v=v:=by
 rcases h with ⟨rfl,_⟩ | ⟨t,rfl⟩ | rfl
 ·rw[Gm]
 ·unfold vo;rw[Gm]
 ·unfold vl;rw[Gm]
def vZ.end{b:Nat}{p:HW}{nm:Nat->Int}{sa:List Int}{vid po:Nat}{tv:TypeId}{qv:Nat}{fe:FV}{Z:D1}{k:Nat}{s:ID}{va vc vk:VV}(h:vZ b p nm sa vid po tv qv fe Z k s va vc vk)(hb:b<=vid){σ':D1}(hl:b<=σ'.low)(hh:σ'.heap vid=Z.heap vid)(sp:Bool):v9 b s (.agg [.slice vid 0 s.vars.length s.vars.length,va,vi k,vb sp,vc,vk]) σ':=by
 have a1:App Z b va s.acts:=h.own.app iN;have a2:App Z b vk s.asked:=h.own.app iN;exact⟨hl,vid,tv,qv,k,sp,va,vc,vk,rfl,hb,by rw[hh];exact h.hv,a1.fg,h.rc.fg,a2.fg,λcs=>⟨Td a1 _ _ _,xX h.rc _ _ _,Td a2 _ _ _⟩⟩
set_option maxHeartbeats 4000000 in
set_option maxRecDepth 100000 in
def qU(p:HW)(D:List Nat)(hp:Hc p D)(h:Nat)(hh:h < 40)(vars:List Int)(hv:(vars.length:Int)=p.durable+p.volatile)(hvs:∀ x∈vars,D2 x)(nm:Nat->Int)(hnm:∀ i,i < 9->D2 (nm i))(sa:List Int)(han:∀ x∈sa,0<=x)(σ:D1) :
  VC Tryz.prog 144 [.agg (DZ.e p),vi h,vl vars,.agg (Gz 9 nm),vl sa] σ (v9 σ.next (FF p h vars nm λi m=>(sa.getD i 0).tmod m)):=by
 have hvl:vars.length<=16:=by have:=hp.vars;omega
 have hent:=Wu p h hh;refine Ea XF144 ?_
 refine Zl (J2 @xf144.eq_1 @EM) ?_
 refine GC.row (l:=[]) rfl rfl rfl ?_
 refine Zy0 ?_
 refine D5.rw (l:=([]:List Int)) (m:=vars) (b:=σ.next+3) ⟨3,σ.next+3,Af _,Af _,by simp +decide only[wA,Nat.reduceAdd],by simp +decide only[wA,↓reduceIte,Nat.reduceAdd];rfl⟩ rfl (Gf _ _ rfl) rfl (by unfold reach;simp;omega) iF (λvid τ hR h1 h2 h3 h4 h5=>?_);obtain⟨tv,qv,q1,q2,q3,q4⟩:=hR;rw[Ba] at q4;have t5:=h4 σ.next (by simp +decide only[wA,Nat.reduceAdd]) dO;have t8:=h4 (σ.next+1) (by simp +decide only[wA,Nat.reduceAdd]) dO;have t10:=h4 (σ.next+2) (by simp +decide only[wA,Nat.reduceAdd]) dO;simp +decide only[wA,↓reduceIte,Nat.reduceAdd] at h1 h2 t5 t8 t10;have n1:(σ.next=τ.next)=False:=eq_false dO;have n2:(σ.next+1=τ.next)=False:=eq_false dO;have n3:(σ.next+2=τ.next)=False:=eq_false dO;have n4:(vid=τ.next)=False:=eq_false dO;clear h3 h4 h5;have c1:(1+(h+1)<=43)=True:=eq_true dO
 (repeat' (first | refine Zl (J9 c1 t5 t8 t10 q4 n1 n2 n3 (J3 n4 @PD hent)) ?_ | refine Zb (λ_ gd=>?_) λ_ gd=>?_ | fail))
 ·have he:FF p h vars nm (λi m=>(sa.getD i 0).tmod m)=Gn p h vars:=by unfold FF;rw[if_pos IF]
  rw[he];have hlo:σ.next<=τ.low:=dO
  refine⟨?_,vid,tv,qv,0,false,.v (.slice none 0 0),.v (.slice none 0 0),.v (.slice none 0 0),rfl,dO,?_,?_,?_,?_,?_⟩
  ·simp only[lW];omega
  ·have n5:(vid=σ.next+2)=False:=eq_false dO
   simp +decide only[wA,↓reduceIte,q4,n4,n5];rfl
  ·rw[Nq];rfl
  ·rw[Nq];rfl
  ·rw[Nq];rfl
  ·exact λcs=>⟨by rw[Gm],by rw[Gm],by rw[Gm]⟩
 ·obtain⟨F,hF⟩:∃ F,F=FF p h vars nm (λi m=>(sa.getD i 0).tmod m):=⟨_,rfl⟩
  rw[<- hF];have hentry:¬ p.entry h < 0:=IF
  unfold FF at hF;rw[if_neg hentry] at hF;refine Ek 0 (λm fe Z=>∃ k s va vc vk,vZ σ.next p nm sa vid τ.next tv qv fe Z k s va vc vk/\Xd p D s/\m+k=500/\F=F9 p nm (λi m=>(sa.getD i 0).tmod m) m s)
   (λfe Z=>∃ va vc vk,vZ σ.next p nm sa vid τ.next tv qv fe Z 500 F va vc vk) 500 ?_ ?_ ?_
  ·refine Zl (J9 c1 t5 t8 t10 q4 n1 n2 n3 n4) ?_
   have hen:0<=p.entry h/\D[(p.entry h).toNat]? = some 0:=by
    rcases hp.entry h hh with e | e
    ·omega
    ·exact e
   refine⟨0,Gn p h vars,.v (.slice none 0 0),.v (.slice none 0 0),.v (.slice none 0 0),⟨?_,?_,?_,?_,?_,?_,?_,?_,?_,?_,?_,?_,?_,?_,?_,?_,?_⟩,⟨hen.1,hen.2,AM _,hv,by simp[Gn],hvs⟩,rfl,hF⟩;all_goals first | rfl | (simp +decide only[↓Em,wA,↓reduceIte,t5,t8,t10,q4,n1,n2,n3,n4];done) | skip
   all_goals first | (simp only[lW];omega) | (rw[EY];rfl) | (simp +decide only[↓Em,wA,↓reduceIte,q4,n4];rfl) | exact .inl ⟨rfl,rfl⟩ | exact ((FT.nil _ _).Gr (α:=Int)).Gr (α:=Act) | exact⟨Af _,Af _,Af _⟩ | skip
  ·rintro m fe Z ⟨k,s,va,vc,vk,hI,hok,hmk,hF⟩
   obtain⟨f4,f5,f8,f10,f11,f12,hlo,hnx,z5,z8,z10,z11,zv,rc,own,Ky,l1,l2,l3⟩:=hI;have a1:App Z σ.next va s.acts:=own.app iN;have a2:App Z σ.next vk s.asked:=own.app iN;have va1:=λm=>a1.all m
   have va2:=λm=>a2.all m
   have va3:=λm=>rc.all m
   have vc1:=a1.cs;have vc2:=a2.cs;have vc3:=rc.cs;have gf:=rc.fg;by_cases hk5:k < 500
   ·obtain⟨⟨op,n⟩,i1,i2,i3,i4,i5,i6,i7,i8⟩:=hp.at hok.pc hok.d16
    have hpc:((s.pc.toNat:Nat):Int)=s.pc:=Ct hok.pc0;have hget:p.code[s.pc.toNat]=⟨op,n⟩:=by rw[Ah i2] at i1;exact Aa i1
    have ne:=AdY (σ.next) (σ.next+1) (σ.next+2) (vid) (τ.next) (Z.next) dO
    (repeat' (first | refine Zl (J9 ne f4 f5 f8 f10 f11 f12 z5 (J9 z8 z10 z11 zv va1 va2 va3 vc1 (J4 vc2 vc3 gf hget))) ?_ | refine Zb (λ_ gd=>?_) λ_ gd=>?_ | ((with_reducible apply Ey.dP);((try simp only[gf,fG]);exact rfl);(first | exact qR _ _ dO);intro gn) | fail))
    refine gu Ky ?_;have ops:op=1\/op=2\/op=3\/op=4\/op=5\/op=6\/op=7\/op=8\/op=9\/op=10\/op=11\/op=12\/op=13\/op=14\/op=15\/op=16\/op=17\/op=18\/op=19\/op=20\/op=21\/op=22\/op=23:=by simp only at i3 i4;omega
    have cl:=Xp s.covered s.pc;have han':∀ (i:Nat) (k:Int),2<=k->k<=4->D2 ((sa.getD i 0).tmod k):=λi k k1 k2=>by
     have h0:0<=sa.getD i 0:=by
      rw[AY];rcases e:sa[i]? with _ | x
      ·exact Db _
      ·exact han x (AF e)
     have:=Bf k h0;have:=A2 (sa.getD i 0) (show 0 < k by omega);unfold D2;omega
    have hw1:G0 ((k:Int)+1)=((k+1:Nat):Int):=Hr hk5 dO;have hw2:G0 (s.pc+1)=s.pc+1:=Er dO (by have:=hp.code;omega);have hstep:∀ s',Gc p nm (λi m=>(sa.getD i 0).tmod m) ⟨op,n⟩ (Fm s)=some s'->Xd p D s'/\F=F9 p nm (λi m=>(sa.getD i 0).tmod m) (m - 1) s':=λs' e=>by
     have hne:op≠23:=λe2=>by subst e2;simp[Gc] at e
     obtain⟨s2,e3,e4⟩:=VA hp hnm han' hok i1 hne;rw[e] at e3;obtain rfl:=Aa e3;refine⟨e4,?_⟩;obtain⟨m',rfl⟩:∃ m',m=m'+1:=⟨m - 1,dO⟩
     rw[hF,F9,i1];simp only[hne,if_false];have e':Gc p nm (λi m=>(sa.getD i 0).tmod m) ⟨op,n⟩ { vars:=s.vars,acts:=s.acts,covered:=Fp s.covered s.pc,asked:=s.asked,stack:=s.stack,pc:=s.pc+1 }=some s':=e;rw[e'];rfl
    have hX:∀ j∈[σ.next,σ.next+1,σ.next+2,τ.next,vid],j < Z.next:=λj hj=>by
     simp only[Aq,AK,or_false] at hj;omega
    have hXo:∀ j,j ∉ [σ.next,σ.next+1,σ.next+2,τ.next,vid]->j≠τ.next:=λj hj e=>hj (by simp[e])
    rcases ops with rfl | rfl | rfl | rfl | rfl | rfl | rfl | rfl | rfl | rfl | rfl | rfl | rfl | rfl | rfl | rfl | rfl | rfl | rfl | rfl | rfl | rfl | rfl
    ·
     obtain⟨ok',hF'⟩:=hstep ({ vars:=s.vars,acts:=s.acts,covered:=Fp s.covered s.pc,asked:=s.asked,stack:=n::s.stack,pc:=s.pc+1 }:ID) rfl
     (repeat' (first | refine Zl (J9 ne f4 f5 f8 f10 f11 f12 z5 (J9 z8 z10 z11 zv va1 va2 va3 vc1 (J2 vc2 vc3))) ?_ | refine ZE trivial [(_:Int)] ?_ | fail))
     refine D5.Ky (x:=n) (b:=σ.next) (Ky.D8 ah0 (λj hj1 hj2=>?_)) (λj hj=>by simp only[lW];have:=hX j hj;omega) rfl (by have:=hok.d16;omega) ah0 (λr υ s1 s2 s3 s4 s5 s6=>?_)
     ·have x1:(j=Z.next)=False:=eq_false dO
      have x2:(j=τ.next)=False:=eq_false (hXo j hj2);simp +decide only[wA,↓reduceIte,x1,x2]
     simp only[lW] at s2 s3 s4;have live:∀ j,j < Z.next->υ.live j=Z.live j:=λj hj=>by
      rw[s6 j ah0];simp only[D1.Eg,lW];rw[if_neg dO]<;>rfl
     refine Zl (J8 hw1 hw2 f4 f5 f8 f10 f11 f12) ?_
     refine⟨m - 1,dO,k+1,_,va,vl (Fp s.covered s.pc),vk,⟨?_,?_,?_,?_,?_,?_,?_,?_,?_,?_,?_,?_,?_,?_,?_,?_,?_⟩,ok',dO,hF'⟩;all_goals first
      | (simp +decide only[↓Em,wA,f4,f5,f8,f10,f11];done)
      | omega
      | exact Rd.vl _
      | (simp only[];omega)
      | (rw[s5 _ iN];simp +decide only[wA,↓reduceIte,ne,z5,z8,z10,zv,hw1];done)
      | exact own.D8 dO (λt ht _=>live t ht)
      | (simp +decide only[↓Em];exact s1)
      | exact⟨dO,dO,dO⟩
    ·
     have hvl2:=hok.vars;have hn0:0<=n/\n < p.durable+p.volatile:=by simpa [N5] using i5
     have hn2:n.toNat < s.vars.length:=by have:=hok.vars;omega
     have hvn:((D4 s.vars).drop n.toNat).take 1=[vi s.vars[n.toNat]]:=by have:=Ox s.vars n.toNat hn2 0 1 iF;rw[Aam,Cb,Dh,vY] at this;exact this
     have hvc:(n.toNat+1<=(D4 s.vars).length)=True:=eq_true (by rw[Ha];omega);obtain⟨ok',hF'⟩:=hstep ({ vars:=s.vars,acts:=s.acts,covered:=Fp s.covered s.pc,asked:=s.asked,stack:=s.vars[n.toNat]::s.stack,pc:=s.pc+1 }:ID) (by simp only[Gc,Fm,Int.reduceEq,if_false,if_true];rw[Ah hn2];rfl)
     (repeat' (first | refine Zl (J9 ne f4 f5 f8 f10 f11 f12 z5 (J9 z8 z10 z11 zv va1 va2 va3 vc1 (J4 vc2 vc3 hvn hvc))) ?_ | refine ZE trivial [(_:Int)] ?_ | fail))
     refine D5.Ky (x:=s.vars[n.toNat]) (b:=σ.next) (Ky.D8 ah0 (λj hj1 hj2=>?_)) (λj hj=>by simp only[lW];have:=hX j hj;omega) rfl (by have:=hok.d16;omega) ah0 (λr υ s1 s2 s3 s4 s5 s6=>?_)
     ·have x1:(j=Z.next)=False:=eq_false dO
      have x2:(j=τ.next)=False:=eq_false (hXo j hj2);simp +decide only[wA,↓reduceIte,x1,x2]
     simp only[lW] at s2 s3 s4;have live:∀ j,j < Z.next->υ.live j=Z.live j:=λj hj=>by
      rw[s6 j ah0];simp only[D1.Eg,lW];rw[if_neg dO]<;>rfl
     refine Zl (J8 hw1 hw2 f4 f5 f8 f10 f11 f12) ?_
     refine⟨m - 1,dO,k+1,_,va,vl (Fp s.covered s.pc),vk,⟨?_,?_,?_,?_,?_,?_,?_,?_,?_,?_,?_,?_,?_,?_,?_,?_,?_⟩,ok',dO,hF'⟩;all_goals first
      | (simp +decide only[↓Em,wA,f4,f5,f8,f10,f11];done)
      | omega
      | exact Rd.vl _
      | (simp only[];omega)
      | (rw[s5 _ iN];simp +decide only[wA,↓reduceIte,ne,z5,z8,z10,zv,hw1];done)
      | exact own.D8 dO (λt ht _=>live t ht)
      | (simp +decide only[↓Em];exact s1)
      | exact⟨dO,dO,dO⟩
    ·
     have hd:=i6;simp only[JV,Int.reduceEq,if_true,if_false,or_true,or_false,or_self] at hd;obtain⟨x,r,hst⟩:∃ x r,s.stack=x::r:=by
      match hs:s.stack,hd with
      | [],h0=>exact absurd h0 iN
      | a::r,_=>exact⟨a,r,rfl⟩
     have hsm:=hok.st;have hd16:=hok.d16;rw[hst] at hsm hd16;simp only[Aq,forall_eq_or_imp,Ag] at hsm hd16;obtain⟨ok',hF'⟩:=hstep ({ vars:=s.vars.set n.toNat x,acts:=(if n < p.durable then s.acts++[⟨1,n,x,0,0⟩] else s.acts),covered:=Fp s.covered s.pc,asked:=s.asked,stack:=r,pc:=s.pc+1 }:ID) (by simp only[Gc,Fm,hst,Int.reduceEq,if_false,if_true,or_self]);rw[hst] at Ky;obtain⟨sid,sc,st,sq,cc,e13,k1,k2,k3,k4,z13,k6,k7,k8⟩:=Ky.cons
     (try simp only[Ag] at k7 k8)
     have k4':=k4;simp only[Aq,AK,or_false,not_or] at k4';obtain⟨d1,d2,d3,d4,d5⟩:=k4';have tx:(cc.drop (r.length)).take 1=[vi x]:=Fa (l:=[]) (r:=r) k8 iN dO;have kc1:(r.length+1<=sc)=True:=eq_true dO;have nf:=ND (σ.next) (σ.next+1) (σ.next+2) (vid) (τ.next) (sid) (Z.next) dO;have w1:G0 (((r.length+1:Nat):Int) - 1)=((r.length:Nat):Int):=by rw[Er dO dO];omega
     have hvl2:=hok.vars;have hn0:0<=n/\n < p.durable+p.volatile:=by simpa [N5] using i5
     have hn2:n.toNat < s.vars.length:=dO
     have hvc:(n.toNat+1<=(D4 s.vars).length)=True:=eq_true (by rw[Ha];omega);have hvs:D0 (D4 s.vars) n.toNat [vi x]=D4 (s.vars.set n.toNat x):=by have:=Nr s.vars n.toNat hn2 x;rw[Aam,Cb] at this;exact this
     (repeat' (first | refine Zd (J9 nf f4 f5 f8 f10 f11 f12 z5 (J9 z8 z10 z11 zv va1 va2 va3 vc1 (J9 vc2 vc3 e13 z13 k6 hst tx w1 (J2 kc1 hvc)))) hvs ?_ | refine Zb (λ_ gd=>?_) λ_ gd=>?_ | refine ZE trivial [(⟨_,_,_,_,_⟩:Act)] ?_ | fail))
     ·refine D5.La (m:=[(⟨1,n,x,0,0⟩:Act)]) [] [GB vk s.asked] (own.D8 ah0 (λt ht _=>by simp only[D1.Eg,lW];rw[if_neg dO]<;>rfl)) (EN _ _ _ rfl) rfl (by unfold reach;simp only[Ag,Ap];omega) iF ah0 (λra gn2 lo2 lv2 gown g1 g2 g3=>?_)
      have gA:App _ σ.next ra _:=gown.app (v:=ra) (l:=s.acts++[(⟨1,n,x,0,0⟩:Act)]) iN;have gra:=λm=>gA.all m
      have grc:=gA.cs;simp only[lW] at g1 g2
      refine Zd (J9 nf f4 f5 f8 f10 f11 f12 z5 (J9 z8 z10 z11 zv va1 va2 va3 vc1 (J9 vc2 vc3 e13 z13 k6 hst tx w1 (J6 kc1 hvc gra grc hw1 hw2)))) hvs ?_
      simp only[if_pos (by assumption:n < p.durable)] at ok' hF';refine⟨m - 1,dO,k+1,_,ra,vl (Fp s.covered s.pc),vk,⟨?_,?_,?_,?_,?_,?_,?_,?_,?_,?_,?_,?_,?_,?_,?_,?_,?_⟩,ok',dO,hF'⟩;all_goals first
       | (simp +decide only[↓Em,wA,↓reduceIte,f4,f5,f8,f10,f11];done)
       | omega
       | exact Rd.vl _
       | (simp only[lW];omega)
       | (simp +decide only[↓Em,wA,↓reduceIte,nf,z5,z8,z10,A7];done)
       | exact gown.D8 ah0 (λ_ _ _=>rfl)
       | (simp +decide only[↓Em];exact .inr ⟨sid,sc,st,sq,cc,rfl,k1,k2,ah0,k4,by simp +decide only[wA,↓reduceIte,nf,z13],k6,by (try simp only[Ag]);omega,Ge k8⟩)
       | (refine⟨?_,?_,?_⟩<;>(try dsimp only)<;>(try simp only[Ad,Ag,Ap])<;>omega)
     ·simp only[if_neg (by assumption:¬ n < p.durable)] at ok' hF'
      refine Zd (J9 nf f4 f5 f8 f10 f11 f12 z5 (J9 z8 z10 z11 zv va1 va2 va3 vc1 (J9 vc2 vc3 e13 z13 k6 hst tx w1 (J4 kc1 hvc hw1 hw2)))) hvs ?_
      refine⟨m - 1,dO,k+1,_,va,vl (Fp s.covered s.pc),vk,⟨?_,?_,?_,?_,?_,?_,?_,?_,?_,?_,?_,?_,?_,?_,?_,?_,?_⟩,ok',dO,hF'⟩;all_goals first
       | (simp +decide only[↓Em,wA,↓reduceIte,f4,f5,f8,f10,f11];done)
       | omega
       | exact Rd.vl _
       | (simp only[lW];omega)
       | (simp +decide only[↓Em,wA,↓reduceIte,nf,z5,z8,z10,A7];done)
       | exact own.D8 ah0 (λ_ _ _=>rfl)
       | (simp +decide only[↓Em];exact .inr ⟨sid,sc,st,sq,cc,rfl,k1,k2,ah0,k4,by simp +decide only[wA,↓reduceIte,nf,z13],k6,by (try simp only[Ag]);omega,Ge k8⟩)
       | (refine⟨?_,?_,?_⟩<;>(try dsimp only)<;>(try simp only[Ad,Ag,Ap])<;>omega)
    ·
     have hn0:0<=n/\n<=8:=by simpa [N5] using i5
     have hnn:((Gz 9 nm).drop n.toNat).take 1=[vi (nm n.toNat)]:=Ph 9 nm n.toNat dO;have hnc:(n.toNat<=8)=True:=eq_true dO;obtain⟨ok',hF'⟩:=hstep ({ vars:=s.vars,acts:=s.acts,covered:=Fp s.covered s.pc,asked:=s.asked,stack:=nm n.toNat::s.stack,pc:=s.pc+1 }:ID) rfl
     (repeat' (first | refine Zl (J9 ne f4 f5 f8 f10 f11 f12 z5 (J9 z8 z10 z11 zv va1 va2 va3 vc1 (J4 vc2 vc3 hnn hnc))) ?_ | refine ZE trivial [(_:Int)] ?_ | fail))
     refine D5.Ky (x:=nm n.toNat) (b:=σ.next) (Ky.D8 ah0 (λj hj1 hj2=>?_)) (λj hj=>by simp only[lW];have:=hX j hj;omega) rfl (by have:=hok.d16;omega) ah0 (λr υ s1 s2 s3 s4 s5 s6=>?_)
     ·have x1:(j=Z.next)=False:=eq_false dO
      have x2:(j=τ.next)=False:=eq_false (hXo j hj2);simp +decide only[wA,↓reduceIte,x1,x2]
     simp only[lW] at s2 s3 s4;have live:∀ j,j < Z.next->υ.live j=Z.live j:=λj hj=>by
      rw[s6 j ah0];simp only[D1.Eg,lW];rw[if_neg dO]<;>rfl
     refine Zl (J8 hw1 hw2 f4 f5 f8 f10 f11 f12) ?_
     refine⟨m - 1,dO,k+1,_,va,vl (Fp s.covered s.pc),vk,⟨?_,?_,?_,?_,?_,?_,?_,?_,?_,?_,?_,?_,?_,?_,?_,?_,?_⟩,ok',dO,hF'⟩;all_goals first
      | (simp +decide only[↓Em,wA,f4,f5,f8,f10,f11];done)
      | omega
      | exact Rd.vl _
      | (simp only[];omega)
      | (rw[s5 _ iN];simp +decide only[wA,↓reduceIte,ne,z5,z8,z10,zv,hw1];done)
      | exact own.D8 dO (λt ht _=>live t ht)
      | (simp +decide only[↓Em];exact s1)
      | exact⟨dO,dO,dO⟩
    ·
     have K1:1<=max 1 (min (s.stack.headD 0) 4):=Int.le_max_left _ _;by_cases hK1:max 1 (min (s.stack.headD 0) 4)=1
     ·skip
      have hd:=i6;simp only[JV,Int.reduceEq,if_true,if_false,or_false,or_self] at hd;obtain⟨x,r,hst⟩:∃ x r,s.stack=x::r:=by
       match hs:s.stack,hd with
       | [],h0=>exact absurd h0 iN
       | a::r,_=>exact⟨a,r,rfl⟩
      have hsm:=hok.st;have hd16:=hok.d16;rw[hst] at hsm hd16;simp only[Aq,forall_eq_or_imp,Ag] at hsm hd16;obtain⟨ok',hF'⟩:=hstep ({ vars:=s.vars,acts:=s.acts,covered:=Fp s.covered s.pc,asked:=s.asked,stack:=0::r,pc:=s.pc+1 }:ID) (by simp only[Gc,Fm,hst,Int.reduceEq,if_false,if_true,or_self];rw[if_pos (by rw[hst] at hK1;exact hK1)]);rw[hst] at Ky;obtain⟨sid,sc,st,sq,cc,e13,k1,k2,k3,k4,z13,k6,k7,k8⟩:=Ky.cons
      (try simp only[Ag] at k7 k8)
      have k4':=k4;simp only[Aq,AK,or_false,not_or] at k4';obtain⟨d1,d2,d3,d4,d5⟩:=k4';have tx:(cc.drop (r.length)).take 1=[vi x]:=Fa (l:=[]) (r:=r) k8 iN dO;have kc1:(r.length+1<=sc)=True:=eq_true dO;have nf:=ND (σ.next) (σ.next+1) (σ.next+2) (vid) (τ.next) (sid) (Z.next) dO;have w1:G0 (((r.length+1:Nat):Int) - 1)=((r.length:Nat):Int):=by rw[Er dO dO];omega
      rw[hst,List.headD_cons] at hK1 K1;have hK:(if (if (4:Int) < x then 4 else x) > 1 then (if (4:Int) < x then 4 else x) else 1)=max 1 (min x 4):=by split<;>split<;>omega
      have hK4:max 1 (min x 4)<=4:=dO
      obtain⟨K,hKK⟩:∃ K,max 1 (min x 4)=K:=⟨_,rfl⟩
      rw[hKK] at hK hK1 K1 hK4;obtain⟨cc0,hcc0⟩:∃ c2,D0 cc r.length [vi (0:Int)]=c2:=⟨_,rfl⟩
      have c0l:cc0.length=sc:=by rw[<- hcc0,Gx dO];exact k6
      have c0t:cc0.take (r.length+1)=D4 (0::r).reverse:=by rw[<- hcc0];exact It (x:=x) k8 dO
      have dK:decide (K > 1)=false:=decide_eq_false dO;obtain⟨cc2,rfl⟩:∃ c2,c2=cc0:=⟨_,rfl⟩
      have c2l:=c0l;have c2t:=c0t
      refine Zd (J9 hK @dK nf f4 f5 f8 f10 f11 (J9 f12 z5 z8 z10 z11 zv va1 va2 (J9 va3 vc1 vc2 vc3 e13 z13 k6 hst (J5 tx w1 kc1 hw1 hw2)))) hcc0 ?_
      refine⟨m - 1,dO,k+1,_,va,vl (Fp s.covered s.pc),vk,⟨?_,?_,?_,?_,?_,?_,?_,?_,?_,?_,?_,?_,?_,?_,?_,?_,?_⟩,ok',dO,hF'⟩;all_goals first
       | (simp +decide only[↓Em,wA,↓reduceIte,f4,f5,f8,f10,f11];done)
       | omega
       | exact Rd.vl _
       | (simp only[lW];omega)
       | (simp +decide only[↓Em,wA,↓reduceIte,nf,z5,z8,z10,zv];done)
       | exact own.D8 ah0 (λ_ _ _=>rfl)
       | (simp +decide only[↓Em,ne_eq,e13];exact .inr ⟨sid,sc,st,sq,cc2,rfl,k1,k2,ah0,k4,by simp +decide only[wA,↓reduceIte],c2l,by (try simp only[Ag]);omega,c2t⟩)
       | (refine⟨?_,?_,?_⟩<;>(try dsimp only)<;>(try simp only[Ad,Ag,Ap])<;>omega)
     ·skip
      have hd:=i6;simp only[JV,Int.reduceEq,if_true,if_false,or_false,or_self] at hd;obtain⟨x,r,hst⟩:∃ x r,s.stack=x::r:=by
       match hs:s.stack,hd with
       | [],h0=>exact absurd h0 iN
       | a::r,_=>exact⟨a,r,rfl⟩
      have hsm:=hok.st;have hd16:=hok.d16;rw[hst] at hsm hd16;simp only[Aq,forall_eq_or_imp,Ag] at hsm hd16;obtain⟨ok',hF'⟩:=hstep ({ vars:=s.vars,acts:=s.acts,covered:=Fp s.covered s.pc,asked:=s.asked++[max 1 (min x 4)],stack:=(sa.getD s.asked.length 0).tmod (max 1 (min x 4))::r,pc:=s.pc+1 }:ID) (by simp only[Gc,Fm,hst,Int.reduceEq,if_false,if_true,or_self];rw[if_neg (by rw[hst] at hK1;exact hK1)]);rw[hst] at Ky;obtain⟨sid,sc,st,sq,cc,e13,k1,k2,k3,k4,z13,k6,k7,k8⟩:=Ky.cons
      (try simp only[Ag] at k7 k8)
      have k4':=k4;simp only[Aq,AK,or_false,not_or] at k4';obtain⟨d1,d2,d3,d4,d5⟩:=k4';have tx:(cc.drop (r.length)).take 1=[vi x]:=Fa (l:=[]) (r:=r) k8 iN dO;have kc1:(r.length+1<=sc)=True:=eq_true dO;have nf:=ND (σ.next) (σ.next+1) (σ.next+2) (vid) (τ.next) (sid) (Z.next) dO;have w1:G0 (((r.length+1:Nat):Int) - 1)=((r.length:Nat):Int):=by rw[Er dO dO];omega
      rw[hst,List.headD_cons] at hK1 K1;have hK:(if (if (4:Int) < x then 4 else x) > 1 then (if (4:Int) < x then 4 else x) else 1)=max 1 (min x 4):=by split<;>split<;>omega
      have hK4:max 1 (min x 4)<=4:=dO
      obtain⟨K,hKK⟩:∃ K,max 1 (min x 4)=K:=⟨_,rfl⟩
      rw[hKK] at hK hK1 K1 hK4 ok' hF';obtain⟨cc0,hcc0⟩:∃ c2,D0 cc r.length [vi (0:Int)]=c2:=⟨_,rfl⟩
      have c0l:cc0.length=sc:=by rw[<- hcc0,Gx dO];exact k6
      have c0t:cc0.take (r.length+1)=D4 (0::r).reverse:=by rw[<- hcc0];exact It (x:=x) k8 dO
      have dK:decide (K > 1)=true:=decide_eq_true dO;obtain⟨cc2,hcc2⟩:∃ c2,D0 cc0 r.length [vi ((sa.getD s.asked.length 0).tmod K)]=c2:=⟨_,rfl⟩
      have c2l:cc2.length=sc:=by rw[<- hcc2,Gx dO];exact c0l
      have c2t:cc2.take (r.length+1)=D4 ((sa.getD s.asked.length 0).tmod K::r).reverse:=by rw[<- hcc2];exact It (x:=0) c0t dO
      have la2:=a2.len
      (repeat' (first | refine Zd (J9 hK @dK nf f4 f5 f8 f10 f11 (J9 f12 z5 z8 z10 z11 zv va1 va2 (J9 va3 vc1 vc2 vc3 e13 z13 k6 hst (J7 tx w1 kc1 la2 @c0l hw1 hw2)))) (J2 hcc0 hcc2) ?_ | refine Zz0 (YM sa s.asked.length K dO han) λgn=>?_ | refine ZE trivial [(_:Int)] ?_ | fail))
      refine D5.La (m:=[K]) [GB va s.acts] [] (own.D8 ah0 (λt ht _=>by simp only[D1.Eg,lW];rw[if_neg dO]<;>rfl)) (EN _ _ _ rfl) rfl (by unfold reach;simp only[Ag,Ap];omega) iF ah0 (λra gn2 lo2 lv2 gown g1 g2 g3=>?_);have gA:App _ σ.next ra _:=gown.app (v:=ra) (l:=s.asked++[K]) iN;have gra:=λm=>gA.all m
      have grc:=gA.cs;simp only[lW] at g1 g2
      refine Zd (J9 hK @dK nf f4 f5 f8 f10 f11 (J9 f12 z5 z8 z10 z11 zv va1 va2 (J9 va3 vc1 vc2 vc3 e13 z13 k6 hst (J9 tx w1 kc1 la2 @c0l gra grc hw1 hw2)))) (J2 hcc0 hcc2) ?_
      refine⟨m - 1,dO,k+1,_,va,vl (Fp s.covered s.pc),ra,⟨?_,?_,?_,?_,?_,?_,?_,?_,?_,?_,?_,?_,?_,?_,?_,?_,?_⟩,ok',dO,hF'⟩;all_goals first
       | (simp +decide only[↓Em,wA,↓reduceIte,f4,f5,f8,f10,f11];done)
       | omega
       | exact Rd.vl _
       | (simp only[lW];omega)
       | (simp +decide only[↓Em,wA,↓reduceIte,nf,z5,z8,z10,zv];done)
       | exact gown.D8 ah0 (λ_ _ _=>rfl)
       | (simp +decide only[↓Em,ne_eq,e13];exact .inr ⟨sid,sc,st,sq,cc2,rfl,k1,k2,ah0,k4,by simp +decide only[wA,↓reduceIte,nf],c2l,by (try simp only[Ag]);omega,c2t⟩)
       | (refine⟨?_,?_,?_⟩<;>(try dsimp only)<;>(try simp only[Ad,Ag,Ap])<;>omega)
    ·
     have hd:=i6;simp only[JV,Int.reduceEq,if_true,if_false,or_false,or_self] at hd;obtain⟨x,y,r,hst⟩:∃ x y r,s.stack=x::y::r:=by
      match hs:s.stack,hd with
      | [],h0=>exact absurd h0 iN
      | [_],h0=>exact absurd h0 iN
      | a::b::r,_=>exact⟨a,b,r,rfl⟩
     have hsm:=hok.st;have hd16:=hok.d16;rw[hst] at hsm hd16;simp only[Aq,forall_eq_or_imp,Ag] at hsm hd16;obtain⟨ok',hF'⟩:=hstep ({ vars:=s.vars,acts:=s.acts,covered:=Fp s.covered s.pc,asked:=s.asked,stack:=Hp 6 y x::r,pc:=s.pc+1 }:ID) (by simp only[Gc,Fm,hst,Int.reduceEq,if_false,if_true,or_false,or_self]);rw[hst] at Ky;obtain⟨sid,sc,st,sq,cc,e13,k1,k2,k3,k4,z13,k6,k7,k8⟩:=Ky.cons
     (try simp only[Ag] at k7 k8)
     have k4':=k4;simp only[Aq,AK,or_false,not_or] at k4';obtain⟨d1,d2,d3,d4,d5⟩:=k4';have tx:(cc.drop (r.length+1)).take 1=[vi x]:=Fa (l:=[]) (r:=y::r) k8 iN dO;have ty:(cc.drop (r.length)).take 1=[vi y]:=Fa (l:=[x]) (r:=r) k8 iN dO;have kc1:(r.length+1<=sc)=True:=eq_true dO;have kc2:(r.length+2<=sc)=True:=eq_true dO;have nf:=ND (σ.next) (σ.next+1) (σ.next+2) (vid) (τ.next) (sid) (Z.next) dO;have w1:G0 (((r.length+2:Nat):Int) - 1)=((r.length+1:Nat):Int):=by rw[Er dO dO];omega
     have w2:G0 (((r.length+2:Nat):Int) - 2)=((r.length:Nat):Int):=by rw[Er dO dO];omega
     obtain⟨cc2,hcc2⟩:∃ c2,D0 cc r.length [vi (Hp 6 y x)]=c2:=⟨_,rfl⟩
     have c2l:cc2.length=sc:=by rw[<- hcc2,Gx dO];exact k6
     have c2t:cc2.take (r.length+1)=D4 (Hp 6 y x::r).reverse:=by rw[<- hcc2];exact It (x:=y) (Ge (x:=x) (r:=y::r) k8) dO
     (repeat' (first | refine Zd (J9 nf f4 f5 f8 f10 f11 f12 z5 (J9 z8 z10 z11 zv va1 va2 va3 vc1 (J9 vc2 vc3 e13 z13 k6 hst tx ty (J6 w1 w2 kc1 kc2 hw1 hw2)))) hcc2 ?_ | refine Zz0 (Ix _ y x hsm.2.1 hsm.1) λgn=>?_ | fail))
     refine⟨m - 1,dO,k+1,_,va,vl (Fp s.covered s.pc),vk,⟨?_,?_,?_,?_,?_,?_,?_,?_,?_,?_,?_,?_,?_,?_,?_,?_,?_⟩,ok',dO,hF'⟩;all_goals first
      | (simp +decide only[↓Em,wA,↓reduceIte,f4,f5,f8,f10,f11];done)
      | omega
      | exact Rd.vl _
      | (simp only[lW];omega)
      | (simp +decide only[↓Em,wA,↓reduceIte,nf,z5,z8,z10,zv];done)
      | exact own.D8 ah0 (λ_ _ _=>rfl)
      | (simp +decide only[↓Em];exact .inr ⟨sid,sc,st,sq,cc2,rfl,k1,k2,ah0,k4,by simp +decide only[wA,↓reduceIte],c2l,by (try simp only[Ag]);omega,c2t⟩)
      | (refine⟨?_,?_,?_⟩<;>(try dsimp only)<;>(try simp only[Ad,Ag,Ap])<;>omega)
    ·
     have hd:=i6;simp only[JV,Int.reduceEq,if_true,if_false,or_true,or_false,or_self] at hd;obtain⟨x,y,r,hst⟩:∃ x y r,s.stack=x::y::r:=by
      match hs:s.stack,hd with
      | [],h0=>exact absurd h0 iN
      | [_],h0=>exact absurd h0 iN
      | a::b::r,_=>exact⟨a,b,r,rfl⟩
     have hsm:=hok.st;have hd16:=hok.d16;rw[hst] at hsm hd16;simp only[Aq,forall_eq_or_imp,Ag] at hsm hd16;obtain⟨ok',hF'⟩:=hstep ({ vars:=s.vars,acts:=s.acts,covered:=Fp s.covered s.pc,asked:=s.asked,stack:=Hp 7 y x::r,pc:=s.pc+1 }:ID) (by simp only[Gc,Fm,hst,Int.reduceEq,if_false,if_true,or_true,or_false,or_self]);rw[hst] at Ky;obtain⟨sid,sc,st,sq,cc,e13,k1,k2,k3,k4,z13,k6,k7,k8⟩:=Ky.cons
     (try simp only[Ag] at k7 k8)
     have k4':=k4;simp only[Aq,AK,or_false,not_or] at k4';obtain⟨d1,d2,d3,d4,d5⟩:=k4';have tx:(cc.drop (r.length+1)).take 1=[vi x]:=Fa (l:=[]) (r:=y::r) k8 iN dO;have ty:(cc.drop (r.length)).take 1=[vi y]:=Fa (l:=[x]) (r:=r) k8 iN dO;have kc1:(r.length+1<=sc)=True:=eq_true dO;have kc2:(r.length+2<=sc)=True:=eq_true dO;have nf:=ND (σ.next) (σ.next+1) (σ.next+2) (vid) (τ.next) (sid) (Z.next) dO;have w1:G0 (((r.length+2:Nat):Int) - 1)=((r.length+1:Nat):Int):=by rw[Er dO dO];omega
     have w2:G0 (((r.length+2:Nat):Int) - 2)=((r.length:Nat):Int):=by rw[Er dO dO];omega
     obtain⟨cc2,hcc2⟩:∃ c2,D0 cc r.length [vi (Hp 7 y x)]=c2:=⟨_,rfl⟩
     have c2l:cc2.length=sc:=by rw[<- hcc2,Gx dO];exact k6
     have c2t:cc2.take (r.length+1)=D4 (Hp 7 y x::r).reverse:=by rw[<- hcc2];exact It (x:=y) (Ge (x:=x) (r:=y::r) k8) dO
     (repeat' (first | refine Zd (J9 nf f4 f5 f8 f10 f11 f12 z5 (J9 z8 z10 z11 zv va1 va2 va3 vc1 (J9 vc2 vc3 e13 z13 k6 hst tx ty (J6 w1 w2 kc1 kc2 hw1 hw2)))) hcc2 ?_ | refine Zz0 (Ix _ y x hsm.2.1 hsm.1) λgn=>?_ | fail))
     refine⟨m - 1,dO,k+1,_,va,vl (Fp s.covered s.pc),vk,⟨?_,?_,?_,?_,?_,?_,?_,?_,?_,?_,?_,?_,?_,?_,?_,?_,?_⟩,ok',dO,hF'⟩;all_goals first
      | (simp +decide only[↓Em,wA,↓reduceIte,f4,f5,f8,f10,f11];done)
      | omega
      | exact Rd.vl _
      | (simp only[lW];omega)
      | (simp +decide only[↓Em,wA,↓reduceIte,nf,z5,z8,z10,zv];done)
      | exact own.D8 ah0 (λ_ _ _=>rfl)
      | (simp +decide only[↓Em];exact .inr ⟨sid,sc,st,sq,cc2,rfl,k1,k2,ah0,k4,by simp +decide only[wA,↓reduceIte],c2l,by (try simp only[Ag]);omega,c2t⟩)
      | (refine⟨?_,?_,?_⟩<;>(try dsimp only)<;>(try simp only[Ad,Ag,Ap])<;>omega)
    ·
     have hd:=i6;simp only[JV,Int.reduceEq,if_true,if_false,or_true,or_false,or_self] at hd;obtain⟨x,y,r,hst⟩:∃ x y r,s.stack=x::y::r:=by
      match hs:s.stack,hd with
      | [],h0=>exact absurd h0 iN
      | [_],h0=>exact absurd h0 iN
      | a::b::r,_=>exact⟨a,b,r,rfl⟩
     have hsm:=hok.st;have hd16:=hok.d16;rw[hst] at hsm hd16;simp only[Aq,forall_eq_or_imp,Ag] at hsm hd16;obtain⟨ok',hF'⟩:=hstep ({ vars:=s.vars,acts:=s.acts,covered:=Fp s.covered s.pc,asked:=s.asked,stack:=Hp 8 y x::r,pc:=s.pc+1 }:ID) (by simp only[Gc,Fm,hst,Int.reduceEq,if_false,if_true,or_true,or_false,or_self]);rw[hst] at Ky;obtain⟨sid,sc,st,sq,cc,e13,k1,k2,k3,k4,z13,k6,k7,k8⟩:=Ky.cons
     (try simp only[Ag] at k7 k8)
     have k4':=k4;simp only[Aq,AK,or_false,not_or] at k4';obtain⟨d1,d2,d3,d4,d5⟩:=k4';have tx:(cc.drop (r.length+1)).take 1=[vi x]:=Fa (l:=[]) (r:=y::r) k8 iN dO;have ty:(cc.drop (r.length)).take 1=[vi y]:=Fa (l:=[x]) (r:=r) k8 iN dO;have kc1:(r.length+1<=sc)=True:=eq_true dO;have kc2:(r.length+2<=sc)=True:=eq_true dO;have nf:=ND (σ.next) (σ.next+1) (σ.next+2) (vid) (τ.next) (sid) (Z.next) dO;have w1:G0 (((r.length+2:Nat):Int) - 1)=((r.length+1:Nat):Int):=by rw[Er dO dO];omega
     have w2:G0 (((r.length+2:Nat):Int) - 2)=((r.length:Nat):Int):=by rw[Er dO dO];omega
     obtain⟨cc2,hcc2⟩:∃ c2,D0 cc r.length [vi (Hp 8 y x)]=c2:=⟨_,rfl⟩
     have c2l:cc2.length=sc:=by rw[<- hcc2,Gx dO];exact k6
     have c2t:cc2.take (r.length+1)=D4 (Hp 8 y x::r).reverse:=by rw[<- hcc2];exact It (x:=y) (Ge (x:=x) (r:=y::r) k8) dO
     (repeat' (first | refine Zd (J9 nf f4 f5 f8 f10 f11 f12 z5 (J9 z8 z10 z11 zv va1 va2 va3 vc1 (J9 vc2 vc3 e13 z13 k6 hst tx ty (J6 w1 w2 kc1 kc2 hw1 hw2)))) hcc2 ?_ | refine Zz0 (Ix _ y x hsm.2.1 hsm.1) λgn=>?_ | fail))
     refine⟨m - 1,dO,k+1,_,va,vl (Fp s.covered s.pc),vk,⟨?_,?_,?_,?_,?_,?_,?_,?_,?_,?_,?_,?_,?_,?_,?_,?_,?_⟩,ok',dO,hF'⟩;all_goals first
      | (simp +decide only[↓Em,wA,↓reduceIte,f4,f5,f8,f10,f11];done)
      | omega
      | exact Rd.vl _
      | (simp only[lW];omega)
      | (simp +decide only[↓Em,wA,↓reduceIte,nf,z5,z8,z10,zv];done)
      | exact own.D8 ah0 (λ_ _ _=>rfl)
      | (simp +decide only[↓Em];exact .inr ⟨sid,sc,st,sq,cc2,rfl,k1,k2,ah0,k4,by simp +decide only[wA,↓reduceIte],c2l,by (try simp only[Ag]);omega,c2t⟩)
      | (refine⟨?_,?_,?_⟩<;>(try dsimp only)<;>(try simp only[Ad,Ag,Ap])<;>omega)
    ·
     have hd:=i6;simp only[JV,Int.reduceEq,if_true,if_false,or_true,or_false,or_self] at hd;obtain⟨x,y,r,hst⟩:∃ x y r,s.stack=x::y::r:=by
      match hs:s.stack,hd with
      | [],h0=>exact absurd h0 iN
      | [_],h0=>exact absurd h0 iN
      | a::b::r,_=>exact⟨a,b,r,rfl⟩
     have hsm:=hok.st;have hd16:=hok.d16;rw[hst] at hsm hd16;simp only[Aq,forall_eq_or_imp,Ag] at hsm hd16;obtain⟨ok',hF'⟩:=hstep ({ vars:=s.vars,acts:=s.acts,covered:=Fp s.covered s.pc,asked:=s.asked,stack:=Hp 9 y x::r,pc:=s.pc+1 }:ID) (by simp only[Gc,Fm,hst,Int.reduceEq,if_false,if_true,or_true,or_false,or_self]);rw[hst] at Ky;obtain⟨sid,sc,st,sq,cc,e13,k1,k2,k3,k4,z13,k6,k7,k8⟩:=Ky.cons
     (try simp only[Ag] at k7 k8)
     have k4':=k4;simp only[Aq,AK,or_false,not_or] at k4';obtain⟨d1,d2,d3,d4,d5⟩:=k4';have tx:(cc.drop (r.length+1)).take 1=[vi x]:=Fa (l:=[]) (r:=y::r) k8 iN dO;have ty:(cc.drop (r.length)).take 1=[vi y]:=Fa (l:=[x]) (r:=r) k8 iN dO;have kc1:(r.length+1<=sc)=True:=eq_true dO;have kc2:(r.length+2<=sc)=True:=eq_true dO;have nf:=ND (σ.next) (σ.next+1) (σ.next+2) (vid) (τ.next) (sid) (Z.next) dO;have w1:G0 (((r.length+2:Nat):Int) - 1)=((r.length+1:Nat):Int):=by rw[Er dO dO];omega
     have w2:G0 (((r.length+2:Nat):Int) - 2)=((r.length:Nat):Int):=by rw[Er dO dO];omega
     obtain⟨cc2,hcc2⟩:∃ c2,D0 cc r.length [vi (Hp 9 y x)]=c2:=⟨_,rfl⟩
     have c2l:cc2.length=sc:=by rw[<- hcc2,Gx dO];exact k6
     have c2t:cc2.take (r.length+1)=D4 (Hp 9 y x::r).reverse:=by rw[<- hcc2];exact It (x:=y) (Ge (x:=x) (r:=y::r) k8) dO
     (repeat' (first | refine Zd (J9 nf f4 f5 f8 f10 f11 f12 z5 (J9 z8 z10 z11 zv va1 va2 va3 vc1 (J9 vc2 vc3 e13 z13 k6 hst tx ty (J6 w1 w2 kc1 kc2 hw1 hw2)))) hcc2 ?_ | refine Zz0 (Ix _ y x hsm.2.1 hsm.1) λgn=>?_ | fail))
     refine⟨m - 1,dO,k+1,_,va,vl (Fp s.covered s.pc),vk,⟨?_,?_,?_,?_,?_,?_,?_,?_,?_,?_,?_,?_,?_,?_,?_,?_,?_⟩,ok',dO,hF'⟩;all_goals first
      | (simp +decide only[↓Em,wA,↓reduceIte,f4,f5,f8,f10,f11];done)
      | omega
      | exact Rd.vl _
      | (simp only[lW];omega)
      | (simp +decide only[↓Em,wA,↓reduceIte,nf,z5,z8,z10,zv];done)
      | exact own.D8 ah0 (λ_ _ _=>rfl)
      | (simp +decide only[↓Em];exact .inr ⟨sid,sc,st,sq,cc2,rfl,k1,k2,ah0,k4,by simp +decide only[wA,↓reduceIte],c2l,by (try simp only[Ag]);omega,c2t⟩)
      | (refine⟨?_,?_,?_⟩<;>(try dsimp only)<;>(try simp only[Ad,Ag,Ap])<;>omega)
    ·
     have hd:=i6;simp only[JV,Int.reduceEq,if_true,if_false,or_true,or_false,or_self] at hd;obtain⟨x,r,hst⟩:∃ x r,s.stack=x::r:=by
      match hs:s.stack,hd with
      | [],h0=>exact absurd h0 iN
      | a::r,_=>exact⟨a,r,rfl⟩
     have hsm:=hok.st;have hd16:=hok.d16;rw[hst] at hsm hd16;simp only[Aq,forall_eq_or_imp,Ag] at hsm hd16;obtain⟨ok',hF'⟩:=hstep ({ vars:=s.vars,acts:=s.acts,covered:=Fp s.covered s.pc,asked:=s.asked,stack:=-x::r,pc:=s.pc+1 }:ID) (by simp only[Gc,Fm,hst,Int.reduceEq,if_false,if_true,or_self]);rw[hst] at Ky;obtain⟨sid,sc,st,sq,cc,e13,k1,k2,k3,k4,z13,k6,k7,k8⟩:=Ky.cons
     (try simp only[Ag] at k7 k8)
     have k4':=k4;simp only[Aq,AK,or_false,not_or] at k4';obtain⟨d1,d2,d3,d4,d5⟩:=k4';have tx:(cc.drop (r.length)).take 1=[vi x]:=Fa (l:=[]) (r:=r) k8 iN dO;have kc1:(r.length+1<=sc)=True:=eq_true dO;have nf:=ND (σ.next) (σ.next+1) (σ.next+2) (vid) (τ.next) (sid) (Z.next) dO;have w1:G0 (((r.length+1:Nat):Int) - 1)=((r.length:Nat):Int):=by rw[Er dO dO];omega
     obtain⟨cc2,hcc2⟩:∃ c2,D0 cc r.length [vi (-x)]=c2:=⟨_,rfl⟩
     have c2l:cc2.length=sc:=by rw[<- hcc2,Gx dO];exact k6
     have c2t:cc2.take (r.length+1)=D4 (-x::r).reverse:=by rw[<- hcc2];exact It (x:=x) (k8) dO
     have hneg:G0 (0 - x) = -x:=by have:=hsm.1;unfold D2 at this;rw[Er dO dO];omega
     refine Zd (J9 nf f4 f5 f8 f10 f11 f12 z5 (J9 z8 z10 z11 zv va1 va2 va3 vc1 (J9 vc2 vc3 e13 z13 k6 hst tx w1 (J4 kc1 hneg hw1 hw2)))) hcc2 ?_
     refine⟨m - 1,dO,k+1,_,va,vl (Fp s.covered s.pc),vk,⟨?_,?_,?_,?_,?_,?_,?_,?_,?_,?_,?_,?_,?_,?_,?_,?_,?_⟩,ok',dO,hF'⟩;all_goals first
      | (simp +decide only[↓Em,wA,↓reduceIte,f4,f5,f8,f10,f11];done)
      | omega
      | exact Rd.vl _
      | (simp only[lW];omega)
      | (simp +decide only[↓Em,wA,↓reduceIte,nf,z5,z8,z10,zv];done)
      | exact own.D8 ah0 (λ_ _ _=>rfl)
      | (simp +decide only[↓Em,ne_eq,e13];exact .inr ⟨sid,sc,st,sq,cc2,rfl,k1,k2,ah0,k4,by simp +decide only[wA,↓reduceIte],c2l,by (try simp only[Ag]);omega,c2t⟩)
      | (refine⟨?_,?_,?_⟩<;>(try dsimp only)<;>(try simp only[Ad,Ag,Ap])<;>omega)
    ·
     have hd:=i6;simp only[JV,Int.reduceEq,if_true,if_false,or_true,or_false,or_self] at hd;obtain⟨x,y,r,hst⟩:∃ x y r,s.stack=x::y::r:=by
      match hs:s.stack,hd with
      | [],h0=>exact absurd h0 iN
      | [_],h0=>exact absurd h0 iN
      | a::b::r,_=>exact⟨a,b,r,rfl⟩
     have hsm:=hok.st;have hd16:=hok.d16;rw[hst] at hsm hd16;simp only[Aq,forall_eq_or_imp,Ag] at hsm hd16;obtain⟨ok',hF'⟩:=hstep ({ vars:=s.vars,acts:=s.acts,covered:=Fp s.covered s.pc,asked:=s.asked,stack:=Hp 11 y x::r,pc:=s.pc+1 }:ID) (by simp only[Gc,Fm,hst,Int.reduceEq,if_false,if_true,or_true,or_false,or_self]);rw[hst] at Ky;obtain⟨sid,sc,st,sq,cc,e13,k1,k2,k3,k4,z13,k6,k7,k8⟩:=Ky.cons
     (try simp only[Ag] at k7 k8)
     have k4':=k4;simp only[Aq,AK,or_false,not_or] at k4';obtain⟨d1,d2,d3,d4,d5⟩:=k4';have tx:(cc.drop (r.length+1)).take 1=[vi x]:=Fa (l:=[]) (r:=y::r) k8 iN dO;have ty:(cc.drop (r.length)).take 1=[vi y]:=Fa (l:=[x]) (r:=r) k8 iN dO;have kc1:(r.length+1<=sc)=True:=eq_true dO;have kc2:(r.length+2<=sc)=True:=eq_true dO;have nf:=ND (σ.next) (σ.next+1) (σ.next+2) (vid) (τ.next) (sid) (Z.next) dO;have w1:G0 (((r.length+2:Nat):Int) - 1)=((r.length+1:Nat):Int):=by rw[Er dO dO];omega
     have w2:G0 (((r.length+2:Nat):Int) - 2)=((r.length:Nat):Int):=by rw[Er dO dO];omega
     obtain⟨cc2,hcc2⟩:∃ c2,D0 cc r.length [vi (Hp 11 y x)]=c2:=⟨_,rfl⟩
     have c2l:cc2.length=sc:=by rw[<- hcc2,Gx dO];exact k6
     have c2t:cc2.take (r.length+1)=D4 (Hp 11 y x::r).reverse:=by rw[<- hcc2];exact It (x:=y) (Ge (x:=x) (r:=y::r) k8) dO
     (repeat' (first | refine Zd (J9 nf f4 f5 f8 f10 f11 f12 z5 (J9 z8 z10 z11 zv va1 va2 va3 vc1 (J9 vc2 vc3 e13 z13 k6 hst tx ty (J6 w1 w2 kc1 kc2 hw1 hw2)))) hcc2 ?_ | refine Zz0 (Ix _ y x hsm.2.1 hsm.1) λgn=>?_ | fail))
     refine⟨m - 1,dO,k+1,_,va,vl (Fp s.covered s.pc),vk,⟨?_,?_,?_,?_,?_,?_,?_,?_,?_,?_,?_,?_,?_,?_,?_,?_,?_⟩,ok',dO,hF'⟩;all_goals first
      | (simp +decide only[↓Em,wA,↓reduceIte,f4,f5,f8,f10,f11];done)
      | omega
      | exact Rd.vl _
      | (simp only[lW];omega)
      | (simp +decide only[↓Em,wA,↓reduceIte,nf,z5,z8,z10,zv];done)
      | exact own.D8 ah0 (λ_ _ _=>rfl)
      | (simp +decide only[↓Em];exact .inr ⟨sid,sc,st,sq,cc2,rfl,k1,k2,ah0,k4,by simp +decide only[wA,↓reduceIte],c2l,by (try simp only[Ag]);omega,c2t⟩)
      | (refine⟨?_,?_,?_⟩<;>(try dsimp only)<;>(try simp only[Ad,Ag,Ap])<;>omega)
    ·
     have hd:=i6;simp only[JV,Int.reduceEq,if_true,if_false,or_true,or_false,or_self] at hd;obtain⟨x,y,r,hst⟩:∃ x y r,s.stack=x::y::r:=by
      match hs:s.stack,hd with
      | [],h0=>exact absurd h0 iN
      | [_],h0=>exact absurd h0 iN
      | a::b::r,_=>exact⟨a,b,r,rfl⟩
     have hsm:=hok.st;have hd16:=hok.d16;rw[hst] at hsm hd16;simp only[Aq,forall_eq_or_imp,Ag] at hsm hd16;obtain⟨ok',hF'⟩:=hstep ({ vars:=s.vars,acts:=s.acts,covered:=Fp s.covered s.pc,asked:=s.asked,stack:=Hp 12 y x::r,pc:=s.pc+1 }:ID) (by simp only[Gc,Fm,hst,Int.reduceEq,if_false,if_true,or_true,or_false]);rw[hst] at Ky;obtain⟨sid,sc,st,sq,cc,e13,k1,k2,k3,k4,z13,k6,k7,k8⟩:=Ky.cons
     (try simp only[Ag] at k7 k8)
     have k4':=k4;simp only[Aq,AK,or_false,not_or] at k4';obtain⟨d1,d2,d3,d4,d5⟩:=k4';have tx:(cc.drop (r.length+1)).take 1=[vi x]:=Fa (l:=[]) (r:=y::r) k8 iN dO;have ty:(cc.drop (r.length)).take 1=[vi y]:=Fa (l:=[x]) (r:=r) k8 iN dO;have kc1:(r.length+1<=sc)=True:=eq_true dO;have kc2:(r.length+2<=sc)=True:=eq_true dO;have nf:=ND (σ.next) (σ.next+1) (σ.next+2) (vid) (τ.next) (sid) (Z.next) dO;have w1:G0 (((r.length+2:Nat):Int) - 1)=((r.length+1:Nat):Int):=by rw[Er dO dO];omega
     have w2:G0 (((r.length+2:Nat):Int) - 2)=((r.length:Nat):Int):=by rw[Er dO dO];omega
     obtain⟨cc2,hcc2⟩:∃ c2,D0 cc r.length [vi (Hp 12 y x)]=c2:=⟨_,rfl⟩
     have c2l:cc2.length=sc:=by rw[<- hcc2,Gx dO];exact k6
     have c2t:cc2.take (r.length+1)=D4 (Hp 12 y x::r).reverse:=by rw[<- hcc2];exact It (x:=y) (Ge (x:=x) (r:=y::r) k8) dO
     (repeat' (first | refine Zd (J9 nf f4 f5 f8 f10 f11 f12 z5 (J9 z8 z10 z11 zv va1 va2 va3 vc1 (J9 vc2 vc3 e13 z13 k6 hst tx ty (J6 w1 w2 kc1 kc2 hw1 hw2)))) hcc2 ?_ | refine Zz0 (Ix _ y x hsm.2.1 hsm.1) λgn=>?_ | fail))
     refine⟨m - 1,dO,k+1,_,va,vl (Fp s.covered s.pc),vk,⟨?_,?_,?_,?_,?_,?_,?_,?_,?_,?_,?_,?_,?_,?_,?_,?_,?_⟩,ok',dO,hF'⟩;all_goals first
      | (simp +decide only[↓Em,wA,↓reduceIte,f4,f5,f8,f10,f11];done)
      | omega
      | exact Rd.vl _
      | (simp only[lW];omega)
      | (simp +decide only[↓Em,wA,↓reduceIte,nf,z5,z8,z10,zv];done)
      | exact own.D8 ah0 (λ_ _ _=>rfl)
      | (simp +decide only[↓Em];exact .inr ⟨sid,sc,st,sq,cc2,rfl,k1,k2,ah0,k4,by simp +decide only[wA,↓reduceIte],c2l,by (try simp only[Ag]);omega,c2t⟩)
      | (refine⟨?_,?_,?_⟩<;>(try dsimp only)<;>(try simp only[Ad,Ag,Ap])<;>omega)
    ·
     have hd:=i6;simp only[JV,Int.reduceEq,if_true,if_false,or_true,or_false,or_self] at hd;obtain⟨x,y,r,hst⟩:∃ x y r,s.stack=x::y::r:=by
      match hs:s.stack,hd with
      | [],h0=>exact absurd h0 iN
      | [_],h0=>exact absurd h0 iN
      | a::b::r,_=>exact⟨a,b,r,rfl⟩
     have hsm:=hok.st;have hd16:=hok.d16;rw[hst] at hsm hd16;simp only[Aq,forall_eq_or_imp,Ag] at hsm hd16;obtain⟨ok',hF'⟩:=hstep ({ vars:=s.vars,acts:=s.acts,covered:=Fp s.covered s.pc,asked:=s.asked,stack:=Hp 13 y x::r,pc:=s.pc+1 }:ID) (by simp only[Gc,Fm,hst,Int.reduceEq,if_false,if_true,or_true]);rw[hst] at Ky;obtain⟨sid,sc,st,sq,cc,e13,k1,k2,k3,k4,z13,k6,k7,k8⟩:=Ky.cons
     (try simp only[Ag] at k7 k8)
     have k4':=k4;simp only[Aq,AK,or_false,not_or] at k4';obtain⟨d1,d2,d3,d4,d5⟩:=k4';have tx:(cc.drop (r.length+1)).take 1=[vi x]:=Fa (l:=[]) (r:=y::r) k8 iN dO;have ty:(cc.drop (r.length)).take 1=[vi y]:=Fa (l:=[x]) (r:=r) k8 iN dO;have kc1:(r.length+1<=sc)=True:=eq_true dO;have kc2:(r.length+2<=sc)=True:=eq_true dO;have nf:=ND (σ.next) (σ.next+1) (σ.next+2) (vid) (τ.next) (sid) (Z.next) dO;have w1:G0 (((r.length+2:Nat):Int) - 1)=((r.length+1:Nat):Int):=by rw[Er dO dO];omega
     have w2:G0 (((r.length+2:Nat):Int) - 2)=((r.length:Nat):Int):=by rw[Er dO dO];omega
     obtain⟨cc2,hcc2⟩:∃ c2,D0 cc r.length [vi (Hp 13 y x)]=c2:=⟨_,rfl⟩
     have c2l:cc2.length=sc:=by rw[<- hcc2,Gx dO];exact k6
     have c2t:cc2.take (r.length+1)=D4 (Hp 13 y x::r).reverse:=by rw[<- hcc2];exact It (x:=y) (Ge (x:=x) (r:=y::r) k8) dO
     (repeat' (first | refine Zd (J9 nf f4 f5 f8 f10 f11 f12 z5 (J9 z8 z10 z11 zv va1 va2 va3 vc1 (J9 vc2 vc3 e13 z13 k6 hst tx ty (J6 w1 w2 kc1 kc2 hw1 hw2)))) hcc2 ?_ | refine Zz0 (Ix _ y x hsm.2.1 hsm.1) λgn=>?_ | fail))
     refine⟨m - 1,dO,k+1,_,va,vl (Fp s.covered s.pc),vk,⟨?_,?_,?_,?_,?_,?_,?_,?_,?_,?_,?_,?_,?_,?_,?_,?_,?_⟩,ok',dO,hF'⟩;all_goals first
      | (simp +decide only[↓Em,wA,↓reduceIte,f4,f5,f8,f10,f11];done)
      | omega
      | exact Rd.vl _
      | (simp only[lW];omega)
      | (simp +decide only[↓Em,wA,↓reduceIte,nf,z5,z8,z10,zv];done)
      | exact own.D8 ah0 (λ_ _ _=>rfl)
      | (simp +decide only[↓Em];exact .inr ⟨sid,sc,st,sq,cc2,rfl,k1,k2,ah0,k4,by simp +decide only[wA,↓reduceIte],c2l,by (try simp only[Ag]);omega,c2t⟩)
      | (refine⟨?_,?_,?_⟩<;>(try dsimp only)<;>(try simp only[Ad,Ag,Ap])<;>omega)
    ·
     have hd:=i6;simp only[JV,Int.reduceEq,if_true,if_false,or_true,or_false,or_self] at hd;obtain⟨x,r,hst⟩:∃ x r,s.stack=x::r:=by
      match hs:s.stack,hd with
      | [],h0=>exact absurd h0 iN
      | a::r,_=>exact⟨a,r,rfl⟩
     have hsm:=hok.st;have hd16:=hok.d16;rw[hst] at hsm hd16;simp only[Aq,forall_eq_or_imp,Ag] at hsm hd16;obtain⟨ok',hF'⟩:=hstep ({ vars:=s.vars,acts:=s.acts,covered:=Fp s.covered s.pc,asked:=s.asked,stack:=NK (decide (x=0))::r,pc:=s.pc+1 }:ID) (by simp only[Gc,Fm,hst,Int.reduceEq,if_false,if_true,or_self]);rw[hst] at Ky;obtain⟨sid,sc,st,sq,cc,e13,k1,k2,k3,k4,z13,k6,k7,k8⟩:=Ky.cons
     (try simp only[Ag] at k7 k8)
     have k4':=k4;simp only[Aq,AK,or_false,not_or] at k4';obtain⟨d1,d2,d3,d4,d5⟩:=k4';have tx:(cc.drop (r.length)).take 1=[vi x]:=Fa (l:=[]) (r:=r) k8 iN dO;have kc1:(r.length+1<=sc)=True:=eq_true dO;have nf:=ND (σ.next) (σ.next+1) (σ.next+2) (vid) (τ.next) (sid) (Z.next) dO;have w1:G0 (((r.length+1:Nat):Int) - 1)=((r.length:Nat):Int):=by rw[Er dO dO];omega
     obtain⟨cc2,hcc2⟩:∃ c2,D0 cc r.length [vi (NK (decide (x=0)))]=c2:=⟨_,rfl⟩
     have c2l:cc2.length=sc:=by rw[<- hcc2,Gx dO];exact k6
     have c2t:cc2.take (r.length+1)=D4 (NK (decide (x=0))::r).reverse:=by rw[<- hcc2];exact It (x:=x) (k8) dO
     (repeat' (first | refine Zd (J9 nf f4 f5 f8 f10 f11 f12 z5 (J9 z8 z10 z11 zv va1 va2 va3 vc1 (J9 vc2 vc3 e13 z13 k6 hst tx w1 (J3 kc1 hw1 hw2)))) hcc2 ?_ | refine Zz0 (Tb _) λgn=>?_ | fail))
     refine⟨m - 1,dO,k+1,_,va,vl (Fp s.covered s.pc),vk,⟨?_,?_,?_,?_,?_,?_,?_,?_,?_,?_,?_,?_,?_,?_,?_,?_,?_⟩,ok',dO,hF'⟩;all_goals first
      | (simp +decide only[↓Em,wA,↓reduceIte,f4,f5,f8,f10,f11];done)
      | omega
      | exact Rd.vl _
      | (simp only[lW];omega)
      | (simp +decide only[↓Em,wA,↓reduceIte,nf,z5,z8,z10,zv];done)
      | exact own.D8 ah0 (λ_ _ _=>rfl)
      | (simp +decide only[↓Em,ne_eq,e13];exact .inr ⟨sid,sc,st,sq,cc2,rfl,k1,k2,ah0,k4,by simp +decide only[wA,↓reduceIte],c2l,by (try simp only[Ag]);omega,c2t⟩)
      | (refine⟨?_,?_,?_⟩<;>(try dsimp only)<;>(try simp only[Ad,Ag,Ap])<;>omega)
    ·
     obtain⟨ok',hF'⟩:=hstep ({ vars:=s.vars,acts:=s.acts,covered:=Fp s.covered s.pc,asked:=s.asked,stack:=s.stack,pc:=n }:ID) rfl
     refine Zl (J9 ne f4 f5 f8 f10 f11 f12 z5 (J9 z8 z10 z11 zv va1 va2 va3 vc1 (J4 vc2 vc3 hw1 hw2))) ?_
     refine⟨m - 1,dO,k+1,_,va,vl (Fp s.covered s.pc),vk,⟨?_,?_,?_,?_,?_,?_,?_,?_,?_,?_,?_,?_,?_,?_,?_,?_,?_⟩,ok',dO,hF'⟩;all_goals first
      | (simp +decide only[↓Em,wA,↓reduceIte,f4,f5,f8,f10,f11];done)
      | omega
      | exact Rd.vl _
      | (simp only[lW];omega)
      | (simp +decide only[↓Em,wA,↓reduceIte,ne,z5,z8,z10,zv];done)
      | exact own.D8 ah0 (λ_ _ _=>rfl)
      | (simp +decide only[↓Em,ne_eq];exact Ky.D8 ah0 (λj hj1 hj2=>by have x1:(j=Z.next)=False:=eq_false dO;have x2:(j=τ.next)=False:=eq_false (hXo j hj2);have x3:(j=vid)=False:=eq_false (λe=>hj2 (by simp[e]));simp +decide only[wA,↓reduceIte,x1,x2]))
      | (refine⟨?_,?_,?_⟩<;>(try dsimp only)<;>(try simp only[Ad,Ag,Ap])<;>omega)
    ·
     have hd:=i6;simp only[JV,Int.reduceEq,if_true,if_false,or_true,or_false,or_self] at hd;obtain⟨x,r,hst⟩:∃ x r,s.stack=x::r:=by
      match hs:s.stack,hd with
      | [],h0=>exact absurd h0 iN
      | a::r,_=>exact⟨a,r,rfl⟩
     have hsm:=hok.st;have hd16:=hok.d16;rw[hst] at hsm hd16;simp only[Aq,forall_eq_or_imp,Ag] at hsm hd16;obtain⟨ok',hF'⟩:=hstep ({ vars:=s.vars,acts:=s.acts,covered:=Fp s.covered s.pc,asked:=s.asked,stack:=r,pc:=if x=0 then n else s.pc+1 }:ID) (by simp only[Gc,Fm,hst,Int.reduceEq,if_false,if_true,or_self]);rw[hst] at Ky;obtain⟨sid,sc,st,sq,cc,e13,k1,k2,k3,k4,z13,k6,k7,k8⟩:=Ky.cons
     (try simp only[Ag] at k7 k8)
     have k4':=k4;simp only[Aq,AK,or_false,not_or] at k4';obtain⟨d1,d2,d3,d4,d5⟩:=k4';have tx:(cc.drop (r.length)).take 1=[vi x]:=Fa (l:=[]) (r:=r) k8 iN dO;have kc1:(r.length+1<=sc)=True:=eq_true dO;have nf:=ND (σ.next) (σ.next+1) (σ.next+2) (vid) (τ.next) (sid) (Z.next) dO;have w1:G0 (((r.length+1:Nat):Int) - 1)=((r.length:Nat):Int):=by rw[Er dO dO];omega
     (repeat' (first | refine Zl (J9 nf f4 f5 f8 f10 f11 f12 z5 (J9 z8 z10 z11 zv va1 va2 va3 vc1 (J9 vc2 vc3 e13 z13 k6 hst tx w1 (J3 kc1 hw1 hw2)))) ?_ | refine Zb (λ_ gd=>?_) λ_ gd=>?_ | fail))
     ·simp only[if_pos (by assumption:x=0)] at ok' hF'
      refine⟨m - 1,dO,k+1,_,va,vl (Fp s.covered s.pc),vk,⟨?_,?_,?_,?_,?_,?_,?_,?_,?_,?_,?_,?_,?_,?_,?_,?_,?_⟩,ok',dO,hF'⟩;all_goals first
       | (simp +decide only[↓Em,wA,↓reduceIte,f4,f5,f8,f10,f11];done)
       | omega
       | exact Rd.vl _
       | (simp only[lW];omega)
       | (simp +decide only[↓Em,wA,↓reduceIte,nf,z5,z8,z10,zv];done)
       | exact own.D8 ah0 (λ_ _ _=>rfl)
       | (simp +decide only[↓Em];exact .inr ⟨sid,sc,st,sq,cc,rfl,k1,k2,ah0,k4,by simp +decide only[wA,↓reduceIte,nf,z13],k6,by (try simp only[Ag]);omega,Ge k8⟩)
       | (refine⟨?_,?_,?_⟩<;>(try dsimp only)<;>(try simp only[Ad,Ag,Ap])<;>omega)
     ·simp only[if_neg (by assumption:¬ x=0)] at ok' hF'
      refine⟨m - 1,dO,k+1,_,va,vl (Fp s.covered s.pc),vk,⟨?_,?_,?_,?_,?_,?_,?_,?_,?_,?_,?_,?_,?_,?_,?_,?_,?_⟩,ok',dO,hF'⟩;all_goals first
       | (simp +decide only[↓Em,wA,↓reduceIte,f4,f5,f8,f10,f11];done)
       | omega
       | exact Rd.vl _
       | (simp only[lW];omega)
       | (simp +decide only[↓Em,wA,↓reduceIte,nf,z5,z8,z10,zv];done)
       | exact own.D8 ah0 (λ_ _ _=>rfl)
       | (simp +decide only[↓Em];exact .inr ⟨sid,sc,st,sq,cc,rfl,k1,k2,ah0,k4,by simp +decide only[wA,↓reduceIte,nf,z13],k6,by (try simp only[Ag]);omega,Ge k8⟩)
       | (refine⟨?_,?_,?_⟩<;>(try dsimp only)<;>(try simp only[Ad,Ag,Ap])<;>omega)
    ·
     have hd:=i6;simp only[JV,Int.reduceEq,if_true,if_false,or_self] at hd;obtain⟨x,y,z,r,hst⟩:∃ x y z r,s.stack=x::y::z::r:=by
      match hs:s.stack,hd with
      | [],h0=>exact absurd h0 iN
      | [_],h0=>exact absurd h0 iN
      | [_,_],h0=>exact absurd h0 iN
      | a::b::c::r,_=>exact⟨a,b,c,r,rfl⟩
     have hsm:=hok.st;have hd16:=hok.d16;rw[hst] at hsm hd16;simp only[Aq,forall_eq_or_imp,Ag] at hsm hd16;obtain⟨ok',hF'⟩:=hstep ({ vars:=s.vars,acts:=(if 0<=z/\z < nm 1/\Ij s.acts < 20 then s.acts++[⟨3,z,n,y,x⟩] else s.acts),covered:=Fp s.covered s.pc,asked:=s.asked,stack:=r,pc:=s.pc+1 }:ID) (by simp only[Gc,Fm,hst,Int.reduceEq,if_false,if_true,or_self]);rw[hst] at Ky;obtain⟨sid,sc,st,sq,cc,e13,k1,k2,k3,k4,z13,k6,k7,k8⟩:=Ky.cons
     (try simp only[Ag] at k7 k8)
     have k4':=k4;simp only[Aq,AK,or_false,not_or] at k4';obtain⟨d1,d2,d3,d4,d5⟩:=k4';have tx:(cc.drop (r.length+2)).take 1=[vi x]:=Fa (l:=[]) (r:=y::z::r) k8 iN dO;have ty:(cc.drop (r.length+1)).take 1=[vi y]:=Fa (l:=[x]) (r:=z::r) k8 iN dO;have tz:(cc.drop r.length).take 1=[vi z]:=Fa (l:=[x,y]) (r:=r) k8 iN dO;have kc1:(r.length+1<=sc)=True:=eq_true dO;have kc2:(r.length+2<=sc)=True:=eq_true dO;have kc3:(r.length+3<=sc)=True:=eq_true dO;have nf:=ND (σ.next) (σ.next+1) (σ.next+2) (vid) (τ.next) (sid) (Z.next) dO;have w1:G0 (((r.length+3:Nat):Int) - 1)=((r.length+2:Nat):Int):=by rw[Er dO dO];omega
     have w2:G0 (((r.length+3:Nat):Int) - 2)=((r.length+1:Nat):Int):=by rw[Er dO dO];omega
     have w3:G0 (((r.length+3:Nat):Int) - 3)=((r.length:Nat):Int):=by rw[Er dO dO];omega
     have gfa:=a1.fg;have hn1:((Gz 9 nm).drop 1).take 1=[vi (nm 1)]:=Ph 9 nm 1 iF;have kc0:(r.length+3<=sc)=True:=eq_true dO
     (repeat' (first | refine Zl (J9 nf f4 f5 f8 f10 f11 f12 z5 (J9 z8 z10 z11 zv va1 va2 va3 vc1 (J9 vc2 vc3 e13 z13 k6 hst tx ty (J9 tz w1 w2 w3 kc1 kc2 kc3 gfa (J3 hn1 hw1 hw2))))) ?_ | refine Zb (λ_ gd=>?_) λ_ gd=>?_ | refine ZE trivial [(⟨_,_,_,_,_⟩:Act)] ?_ | ((with_reducible apply Ey.dP);((try simp only[Au,AD,gfa]);exact rfl);(first | exact me _ dO);intro gn) | fail))
     ·simp only[if_pos (show 0<=z/\z < nm 1/\Ij s.acts < 20 by omega)] at ok' hF'
      refine D5.La (m:=[(⟨3,z,n,y,x⟩:Act)]) [] [GB vk s.asked] (own.D8 ah0 (λt ht _=>by simp only[D1.Eg,lW];rw[if_neg dO]<;>rfl)) (EN _ _ _ rfl) rfl (by unfold reach;simp only[Ag,Ap];omega) iF ah0 (λra gn2 lo2 lv2 gown g1 g2 g3=>?_);have gA:App _ σ.next ra _:=gown.app (v:=ra) (l:=s.acts++[(⟨3,z,n,y,x⟩:Act)]) iN;have gra:=λm=>gA.all m
      have grc:=gA.cs;simp only[lW] at g1 g2
      refine Zl (J9 nf f4 f5 f8 f10 f11 f12 z5 (J9 z8 z10 z11 zv va1 va2 va3 vc1 (J9 vc2 vc3 e13 z13 k6 hst tx ty (J9 tz w1 w2 w3 kc1 kc2 kc3 gfa (J5 hn1 gra grc hw1 hw2))))) ?_
      refine⟨m - 1,dO,k+1,_,ra,vl (Fp s.covered s.pc),vk,⟨?_,?_,?_,?_,?_,?_,?_,?_,?_,?_,?_,?_,?_,?_,?_,?_,?_⟩,ok',dO,hF'⟩;all_goals first
       | (simp +decide only[↓Em,wA,↓reduceIte,f4,f5,f8,f10,f11];done)
       | omega
       | exact Rd.vl _
       | (simp only[lW];omega)
       | (simp +decide only[↓Em,wA,↓reduceIte,nf,z5,z8,z10,zv];done)
       | exact gown.D8 ah0 (λ_ _ _=>rfl)
       | (simp +decide only[↓Em];exact .inr ⟨sid,sc,st,sq,cc,rfl,k1,k2,ah0,k4,by simp +decide only[wA,↓reduceIte,nf,z13],k6,by (try simp only[Ag]);omega,Ge (x:=z) (r:=r) (Ge (x:=y) (r:=z::r) (Ge (x:=x) (r:=y::z::r) k8))⟩)
       | (refine⟨?_,?_,?_⟩<;>(try dsimp only)<;>(try simp only[Ad,Ag,Ap])<;>omega)
     all_goals
      simp only[if_neg (show ¬ (0<=z/\z < nm 1/\Ij s.acts < 20) by omega)] at ok' hF';refine⟨m - 1,dO,k+1,_,va,vl (Fp s.covered s.pc),vk,⟨?_,?_,?_,?_,?_,?_,?_,?_,?_,?_,?_,?_,?_,?_,?_,?_,?_⟩,ok',dO,hF'⟩;all_goals first
       | (simp +decide only[↓Em,wA,↓reduceIte,f4,f5,f8,f10,f11];done)
       | omega
       | exact Rd.vl _
       | (simp only[lW];omega)
       | (simp +decide only[↓Em,wA,↓reduceIte,nf,z5,z8,z10,zv];done)
       | exact own.D8 ah0 (λ_ _ _=>rfl)
       | (simp +decide only[↓Em];exact .inr ⟨sid,sc,st,sq,cc,rfl,k1,k2,ah0,k4,by simp +decide only[wA,↓reduceIte,nf,z13],k6,by (try simp only[Ag]);omega,Ge (x:=z) (r:=r) (Ge (x:=y) (r:=z::r) (Ge (x:=x) (r:=y::z::r) k8))⟩)
       | (refine⟨?_,?_,?_⟩<;>(try dsimp only)<;>(try simp only[Ad,Ag,Ap])<;>omega)
    ·
     obtain⟨ok',hF'⟩:=hstep ({ vars:=s.vars,acts:=s.acts++[(⟨4,n,0,0,0⟩:Act)],covered:=Fp s.covered s.pc,asked:=s.asked,stack:=s.stack,pc:=s.pc+1 }:ID) rfl
     (repeat' (first | refine Zl (J9 ne f4 f5 f8 f10 f11 f12 z5 (J9 z8 z10 z11 zv va1 va2 va3 vc1 (J4 vc2 vc3 hw1 hw2))) ?_ | refine ZE trivial [(⟨_,_,_,_,_⟩:Act)] ?_ | fail))
     refine D5.La (m:=[(⟨4,n,0,0,0⟩:Act)]) [] [GB vk s.asked] (own.D8 ah0 (λt ht _=>by simp only[D1.Eg,lW];rw[if_neg dO]<;>rfl)) (EN _ _ _ rfl) rfl (by unfold reach;simp only[Ag,Ap];omega) iF ah0 (λra gn2 lo2 lv2 gown g1 g2 g3=>?_);have gA:App _ σ.next ra _:=gown.app (v:=ra) (l:=s.acts++[(⟨4,n,0,0,0⟩:Act)]) iN;have gra:=λm=>gA.all m
     have grc:=gA.cs;simp only[lW] at g1 g2
     refine Zl (J9 ne f4 f5 f8 f10 f11 f12 z5 (J9 z8 z10 z11 zv va1 va2 va3 vc1 (J6 vc2 vc3 gra grc hw1 hw2))) ?_
     refine⟨m - 1,dO,k+1,_,ra,vl (Fp s.covered s.pc),vk,⟨?_,?_,?_,?_,?_,?_,?_,?_,?_,?_,?_,?_,?_,?_,?_,?_,?_⟩,ok',dO,hF'⟩;all_goals first
      | (simp +decide only[↓Em,wA,↓reduceIte,f4,f5,f8,f10,f11];done)
      | omega
      | exact Rd.vl _
      | (simp only[lW];omega)
      | (simp +decide only[↓Em,wA,↓reduceIte,ne,z5,z8,z10,zv];done)
      | exact gown.D8 ah0 (λ_ _ _=>rfl)
      | (simp +decide only[↓Em,ne_eq];exact Ky.D8 ah0 (λj hj1 hj2=>by have x1:(j=Z.next)=False:=eq_false dO;have x2:(j=τ.next)=False:=eq_false (hXo j hj2);have x3:(j=vid)=False:=eq_false (λe=>hj2 (by simp[e]));simp +decide only[wA,↓reduceIte,x1,x2]))
      | (refine⟨?_,?_,?_⟩<;>(try dsimp only)<;>(try simp only[Ad,Ag,Ap])<;>omega)
    ·
     obtain⟨ok',hF'⟩:=hstep ({ vars:=s.vars,acts:=s.acts++[(⟨5,n,0,0,0⟩:Act)],covered:=Fp s.covered s.pc,asked:=s.asked,stack:=s.stack,pc:=s.pc+1 }:ID) rfl
     (repeat' (first | refine Zl (J9 ne f4 f5 f8 f10 f11 f12 z5 (J9 z8 z10 z11 zv va1 va2 va3 vc1 (J4 vc2 vc3 hw1 hw2))) ?_ | refine ZE trivial [(⟨_,_,_,_,_⟩:Act)] ?_ | fail))
     refine D5.La (m:=[(⟨5,n,0,0,0⟩:Act)]) [] [GB vk s.asked] (own.D8 ah0 (λt ht _=>by simp only[D1.Eg,lW];rw[if_neg dO]<;>rfl)) (EN _ _ _ rfl) rfl (by unfold reach;simp only[Ag,Ap];omega) iF ah0 (λra gn2 lo2 lv2 gown g1 g2 g3=>?_);have gA:App _ σ.next ra _:=gown.app (v:=ra) (l:=s.acts++[(⟨5,n,0,0,0⟩:Act)]) iN;have gra:=λm=>gA.all m
     have grc:=gA.cs;simp only[lW] at g1 g2
     refine Zl (J9 ne f4 f5 f8 f10 f11 f12 z5 (J9 z8 z10 z11 zv va1 va2 va3 vc1 (J6 vc2 vc3 gra grc hw1 hw2))) ?_
     refine⟨m - 1,dO,k+1,_,ra,vl (Fp s.covered s.pc),vk,⟨?_,?_,?_,?_,?_,?_,?_,?_,?_,?_,?_,?_,?_,?_,?_,?_,?_⟩,ok',dO,hF'⟩;all_goals first
      | (simp +decide only[↓Em,wA,↓reduceIte,f4,f5,f8,f10,f11];done)
      | omega
      | exact Rd.vl _
      | (simp only[lW];omega)
      | (simp +decide only[↓Em,wA,↓reduceIte,ne,z5,z8,z10,zv];done)
      | exact gown.D8 ah0 (λ_ _ _=>rfl)
      | (simp +decide only[↓Em,ne_eq];exact Ky.D8 ah0 (λj hj1 hj2=>by have x1:(j=Z.next)=False:=eq_false dO;have x2:(j=τ.next)=False:=eq_false (hXo j hj2);have x3:(j=vid)=False:=eq_false (λe=>hj2 (by simp[e]));simp +decide only[wA,↓reduceIte,x1,x2]))
      | (refine⟨?_,?_,?_⟩<;>(try dsimp only)<;>(try simp only[Ad,Ag,Ap])<;>omega)
    ·
     obtain⟨ok',hF'⟩:=hstep ({ vars:=s.vars,acts:=s.acts++[(⟨2,0,0,0,0⟩:Act)],covered:=Fp s.covered s.pc,asked:=s.asked,stack:=s.stack,pc:=s.pc+1 }:ID) rfl
     (repeat' (first | refine Zl (J9 ne f4 f5 f8 f10 f11 f12 z5 (J9 z8 z10 z11 zv va1 va2 va3 vc1 (J4 vc2 vc3 hw1 hw2))) ?_ | refine ZE trivial [(⟨_,_,_,_,_⟩:Act)] ?_ | fail))
     refine D5.La (m:=[(⟨2,0,0,0,0⟩:Act)]) [] [GB vk s.asked] (own.D8 ah0 (λt ht _=>by simp only[D1.Eg,lW];rw[if_neg dO]<;>rfl)) (EN _ _ _ rfl) rfl (by unfold reach;simp only[Ag,Ap];omega) iF ah0 (λra gn2 lo2 lv2 gown g1 g2 g3=>?_);have gA:App _ σ.next ra _:=gown.app (v:=ra) (l:=s.acts++[(⟨2,0,0,0,0⟩:Act)]) iN;have gra:=λm=>gA.all m
     have grc:=gA.cs;simp only[lW] at g1 g2
     refine Zl (J9 ne f4 f5 f8 f10 f11 f12 z5 (J9 z8 z10 z11 zv va1 va2 va3 vc1 (J6 vc2 vc3 gra grc hw1 hw2))) ?_
     refine⟨m - 1,dO,k+1,_,ra,vl (Fp s.covered s.pc),vk,⟨?_,?_,?_,?_,?_,?_,?_,?_,?_,?_,?_,?_,?_,?_,?_,?_,?_⟩,ok',dO,hF'⟩;all_goals first
      | (simp +decide only[↓Em,wA,↓reduceIte,f4,f5,f8,f10,f11];done)
      | omega
      | exact Rd.vl _
      | (simp only[lW];omega)
      | (simp +decide only[↓Em,wA,↓reduceIte,ne,z5,z8,z10,zv];done)
      | exact gown.D8 ah0 (λ_ _ _=>rfl)
      | (simp +decide only[↓Em,ne_eq];exact Ky.D8 ah0 (λj hj1 hj2=>by have x1:(j=Z.next)=False:=eq_false dO;have x2:(j=τ.next)=False:=eq_false (hXo j hj2);have x3:(j=vid)=False:=eq_false (λe=>hj2 (by simp[e]));simp +decide only[wA,↓reduceIte,x1,x2]))
      | (refine⟨?_,?_,?_⟩<;>(try dsimp only)<;>(try simp only[Ad,Ag,Ap])<;>omega)
    ·
     have hd:=i6;simp only[JV,Int.reduceEq,if_true,if_false,or_true,or_self] at hd;obtain⟨x,y,r,hst⟩:∃ x y r,s.stack=x::y::r:=by
      match hs:s.stack,hd with
      | [],h0=>exact absurd h0 iN
      | [_],h0=>exact absurd h0 iN
      | a::b::r,_=>exact⟨a,b,r,rfl⟩
     have hsm:=hok.st;have hd16:=hok.d16;rw[hst] at hsm hd16;simp only[Aq,forall_eq_or_imp,Ag] at hsm hd16;obtain⟨ok',hF'⟩:=hstep ({ vars:=s.vars,acts:=s.acts++[⟨6,y,x,0,0⟩],covered:=Fp s.covered s.pc,asked:=s.asked,stack:=r,pc:=s.pc+1 }:ID) (by simp only[Gc,Fm,hst,Int.reduceEq,if_false,if_true,or_self]);rw[hst] at Ky;obtain⟨sid,sc,st,sq,cc,e13,k1,k2,k3,k4,z13,k6,k7,k8⟩:=Ky.cons
     (try simp only[Ag] at k7 k8)
     have k4':=k4;simp only[Aq,AK,or_false,not_or] at k4';obtain⟨d1,d2,d3,d4,d5⟩:=k4';have tx:(cc.drop (r.length+1)).take 1=[vi x]:=Fa (l:=[]) (r:=y::r) k8 iN dO;have ty:(cc.drop (r.length)).take 1=[vi y]:=Fa (l:=[x]) (r:=r) k8 iN dO;have kc1:(r.length+1<=sc)=True:=eq_true dO;have kc2:(r.length+2<=sc)=True:=eq_true dO;have nf:=ND (σ.next) (σ.next+1) (σ.next+2) (vid) (τ.next) (sid) (Z.next) dO;have w1:G0 (((r.length+2:Nat):Int) - 1)=((r.length+1:Nat):Int):=by rw[Er dO dO];omega
     have w2:G0 (((r.length+2:Nat):Int) - 2)=((r.length:Nat):Int):=by rw[Er dO dO];omega
     (repeat' (first | refine Zl (J9 nf f4 f5 f8 f10 f11 f12 z5 (J9 z8 z10 z11 zv va1 va2 va3 vc1 (J9 vc2 vc3 e13 z13 k6 hst tx ty (J6 w1 w2 kc1 kc2 hw1 hw2)))) ?_ | refine ZE trivial [(⟨_,_,_,_,_⟩:Act)] ?_ | fail))
     refine D5.La (m:=[(⟨6,y,x,0,0⟩:Act)]) [] [GB vk s.asked] (own.D8 ah0 (λt ht _=>by simp only[D1.Eg,lW];rw[if_neg dO]<;>rfl)) (EN _ _ _ rfl) rfl (by unfold reach;simp only[Ag,Ap];omega) iF ah0 (λra gn2 lo2 lv2 gown g1 g2 g3=>?_);have gA:App _ σ.next ra _:=gown.app (v:=ra) (l:=s.acts++[(⟨6,y,x,0,0⟩:Act)]) iN;have gra:=λm=>gA.all m
     have grc:=gA.cs;simp only[lW] at g1 g2
     refine Zl (J9 nf f4 f5 f8 f10 f11 f12 z5 (J9 z8 z10 z11 zv va1 va2 va3 vc1 (J9 vc2 vc3 e13 z13 k6 hst tx ty (J8 w1 w2 kc1 kc2 gra grc hw1 hw2)))) ?_
     refine⟨m - 1,dO,k+1,_,ra,vl (Fp s.covered s.pc),vk,⟨?_,?_,?_,?_,?_,?_,?_,?_,?_,?_,?_,?_,?_,?_,?_,?_,?_⟩,ok',dO,hF'⟩;all_goals first
      | (simp +decide only[↓Em,wA,↓reduceIte,f4,f5,f8,f10,f11];done)
      | omega
      | exact Rd.vl _
      | (simp only[lW];omega)
      | (simp +decide only[↓Em,wA,↓reduceIte,nf,z5,z8,z10,zv];done)
      | exact gown.D8 ah0 (λ_ _ _=>rfl)
      | (simp +decide only[↓Em];exact .inr ⟨sid,sc,st,sq,cc,rfl,k1,k2,ah0,k4,by simp +decide only[wA,↓reduceIte,nf,z13],k6,by (try simp only[Ag]);omega,Ge (x:=y) (r:=r) (Ge (x:=x) (r:=y::r) k8)⟩)
      | (refine⟨?_,?_,?_⟩<;>(try dsimp only)<;>(try simp only[Ad,Ag,Ap])<;>omega)
    ·
     have hd:=i6;simp only[JV,Int.reduceEq,if_true,if_false,or_true,or_self] at hd;obtain⟨x,r,hst⟩:∃ x r,s.stack=x::r:=by
      match hs:s.stack,hd with
      | [],h0=>exact absurd h0 iN
      | a::r,_=>exact⟨a,r,rfl⟩
     have hsm:=hok.st;have hd16:=hok.d16;rw[hst] at hsm hd16;simp only[Aq,forall_eq_or_imp,Ag] at hsm hd16;obtain⟨ok',hF'⟩:=hstep ({ vars:=s.vars,acts:=s.acts++[⟨7,x,0,0,0⟩],covered:=Fp s.covered s.pc,asked:=s.asked,stack:=r,pc:=s.pc+1 }:ID) (by simp only[Gc,Fm,hst,Int.reduceEq,if_false,if_true,or_self]);rw[hst] at Ky;obtain⟨sid,sc,st,sq,cc,e13,k1,k2,k3,k4,z13,k6,k7,k8⟩:=Ky.cons
     (try simp only[Ag] at k7 k8)
     have k4':=k4;simp only[Aq,AK,or_false,not_or] at k4';obtain⟨d1,d2,d3,d4,d5⟩:=k4';have tx:(cc.drop (r.length)).take 1=[vi x]:=Fa (l:=[]) (r:=r) k8 iN dO;have kc1:(r.length+1<=sc)=True:=eq_true dO;have nf:=ND (σ.next) (σ.next+1) (σ.next+2) (vid) (τ.next) (sid) (Z.next) dO;have w1:G0 (((r.length+1:Nat):Int) - 1)=((r.length:Nat):Int):=by rw[Er dO dO];omega
     (repeat' (first | refine Zl (J9 nf f4 f5 f8 f10 f11 f12 z5 (J9 z8 z10 z11 zv va1 va2 va3 vc1 (J9 vc2 vc3 e13 z13 k6 hst tx w1 (J3 kc1 hw1 hw2)))) ?_ | refine ZE trivial [(⟨_,_,_,_,_⟩:Act)] ?_ | fail))
     refine D5.La (m:=[(⟨7,x,0,0,0⟩:Act)]) [] [GB vk s.asked] (own.D8 ah0 (λt ht _=>by simp only[D1.Eg,lW];rw[if_neg dO]<;>rfl)) (EN _ _ _ rfl) rfl (by unfold reach;simp only[Ag,Ap];omega) iF ah0 (λra gn2 lo2 lv2 gown g1 g2 g3=>?_);have gA:App _ σ.next ra _:=gown.app (v:=ra) (l:=s.acts++[(⟨7,x,0,0,0⟩:Act)]) iN;have gra:=λm=>gA.all m
     have grc:=gA.cs;simp only[lW] at g1 g2
     refine Zl (J9 nf f4 f5 f8 f10 f11 f12 z5 (J9 z8 z10 z11 zv va1 va2 va3 vc1 (J9 vc2 vc3 e13 z13 k6 hst tx w1 (J5 kc1 gra grc hw1 hw2)))) ?_
     refine⟨m - 1,dO,k+1,_,ra,vl (Fp s.covered s.pc),vk,⟨?_,?_,?_,?_,?_,?_,?_,?_,?_,?_,?_,?_,?_,?_,?_,?_,?_⟩,ok',dO,hF'⟩;all_goals first
      | (simp +decide only[↓Em,wA,↓reduceIte,f4,f5,f8,f10,f11];done)
      | omega
      | exact Rd.vl _
      | (simp only[lW];omega)
      | (simp +decide only[↓Em,wA,↓reduceIte,nf,z5,z8,z10,zv];done)
      | exact gown.D8 ah0 (λ_ _ _=>rfl)
      | (simp +decide only[↓Em];exact .inr ⟨sid,sc,st,sq,cc,rfl,k1,k2,ah0,k4,by simp +decide only[wA,↓reduceIte,nf,z13],k6,by (try simp only[Ag]);omega,Ge k8⟩)
      | (refine⟨?_,?_,?_⟩<;>(try dsimp only)<;>(try simp only[Ad,Ag,Ap])<;>omega)
    ·
     obtain⟨m',rfl⟩:∃ m',m=m'+1:=⟨m - 1,dO⟩
     rw[F9,i1] at hF;simp only[if_true] at hF
     refine Zl (J9 ne f4 f5 f8 f10 f11 f12 z5 (J9 z8 z10 z11 zv va1 va2 va3 vc1 (J4 vc2 vc3 hw1 hw2))) ?_
     rw[hF];refine⟨?_,vid,tv,qv,_,_,va,vl (Fp s.covered s.pc),vk,rfl,dO,?_,a1.fg,Ii _,a2.fg,λcs=>⟨Td a1 _ _ _,xX (Rd.vl (Fp s.covered s.pc)) _ _ _,Td a2 _ _ _⟩⟩
     ·simp only[lW];omega
     ·simp +decide only[wA,↓reduceIte,ne,zv]
    ·omega
   ·obtain rfl:m=0:=dO
    obtain rfl:k=500:=dO
    have d5:decide (((500:Nat):Int) < 500)=false:=iF
    refine Zl (J9 d5 f4 f5 f8 f10 f11 f12 z5 (J4 z8 z10 z11 zv)) ?_
    rw[F9] at hF;subst hF;refine⟨va,vc,vk,⟨?_,?_,?_,?_,?_,?_,hlo,hnx,z5,z8,z10,z11,zv,rc,own,?_,l1,l2,l3⟩⟩;all_goals first | (simp +decide only[↓Em,wA,f4,f5,f8,f10,f11,f12];done) | (simp +decide only[↓Em,ne_eq];exact Ky)
  ·rintro fe Z ⟨va,vc,vk,hI⟩
   have hI2:=hI;obtain⟨f4,f5,f8,f10,f11,f12,hlo,hnx,z5,z8,z10,z11,zv,rc,own,Ky,l1,l2,l3⟩:=hI;have a1:App Z σ.next va F.acts:=own.app iN;have a2:App Z σ.next vk F.asked:=own.app iN;have va1:=λm=>a1.all m
   have va2:=λm=>a2.all m
   have va3:=λm=>rc.all m
   have vc1:=a1.cs;have vc2:=a2.cs;have vc3:=rc.cs;have ne:=AdZ (σ.next) (σ.next+1) (σ.next+2) (vid) (τ.next) dO
   refine Zl (J9 ne f4 f5 f8 f10 f11 f12 z5 (J9 z8 z10 z11 zv va1 va2 va3 vc1 (J2 vc2 vc3))) ?_
   refine hI2.end dO ?_ ?_ true
   ·simp only[H5];omega
   ·simp +decide only[wA,↓reduceIte,ne]
end
section
variable [Prim Tryz.prog]
def UY(id n z:Nat)(cs:List VV)(h:cs.length=n * z):Gm id z cs (.slice id 0 n n)=.Ie n cs:=by
 rw[Gm,if_pos ⟨rfl,Af _,dO⟩,Bu,Aj dO]
def v9.fz{b:Nat}{F:ID}{v:VV}{σ':D1}(h:v9 b F v σ'):∃ id cs t z q,σ'.heap id=.cells cs t z q/\b<=(σ'.freeze id).low/\v8 F (Gm id z cs v).fg:=by
 obtain⟨hlo,vid,tv,qv,k,sp,va,vc,vk,rfl,hb,hg,e1,e2,e3,hfz⟩:=h;refine⟨vid,_,tv,1,qv,hg,?_,k,sp,?_⟩
 ·rw[Fj];omega
 ·obtain⟨q1,q2,q3⟩:=hfz (D4 F.vars)
  have q0:Gm vid 1 (D4 F.vars) (.slice vid 0 F.vars.length F.vars.length)=vl F.vars:=UY _ _ _ _ (by rw[Ha];omega);have i1:∀ n:Int,Gm vid 1 (D4 F.vars) (vi n)=vi n:=λn=>by rw[Gm]
  have i2:∀ n:Bool,Gm vid 1 (D4 F.vars) (vb n)=vb n:=λn=>by rw[Gm]
  rw[Gm];simp only[Au,AD,q0,q1,q2,q3,i1,i2,Ww,e1,e2,e3,Gh,JX,Ii]
def YO(p:HW)(D:List Nat)(hp:Hc p D)(h:Nat)(hh:h < 40)(vars:List Int)(hv:(vars.length:Int)=p.durable+p.volatile)(hvs:∀ x∈vars,D2 x)(nm:Nat->Int)(hnm:∀ i,i < 9->D2 (nm i))(sa:List Int)(han:∀ x∈sa,0<=x)(σ:D1) :
  VC Tryz.prog 144 [.agg (DZ.e p),vi h,vl vars,.agg (Gz 9 nm),vl sa] σ (λr σ'=>σ.next<=σ'.low/\v8 (FF p h vars nm λi m=>(sa.getD i 0).tmod m) r.fg):=by
 refine VG.fz (qU p D hp h hh vars hv hvs nm hnm sa han σ) λv σ' hq=>?_
 obtain⟨id,cs,t,z,q,h1,h2,h3⟩:=hq.fz;exact⟨id,cs,t,z,q,h1,h2,h3⟩
end
def Aan(neg:Bool)(a b c x y z:Int):Pj [1,1,1] neg (.agg [vi a,vi b,vi c]) (.agg [vi x,vi y,vi z])=some (vb (EU neg (decide (a=x/\b=y/\c=z)))):=by
  simp only[Pj,Mm,AH,Az,I7,X9,if_true];simp[MW]
def Jk(c:Hy)(a:Gy):Bool:=decide ((a.q.node=c.node/\a.q.handler=c.handler/\a.q.count=c.count)/\a.q.kind=1)
def JC(l:List Gy)(c:Hy):Int:=l.foldl (λm a=>if Jk c a then max m a.q.index else m) (-1)
def Te(l:List Gy)(c:Hy)(i:Nat)(hi:i < l.length):JC (l.take (i+1)) c=if Jk c l[i] then max (JC (l.take i) c) l[i].q.index else JC (l.take i) c:=by
  unfold JC;rw[Bn,Ah hi,Option.toList,Cm];rfl
def qV(l:List Gy)(c:Hy) : -1<=JC l c:=by
  unfold JC
  suffices h:∀ m:Int,-1<=m-> -1<=l.foldl (λm a=>if Jk c a then max m a.q.index else m) m from h _ (Db _)
  induction l with
  | nil=>exact λm h=>h
  | cons a l ih=>
    intro m hm;rw[Bg];apply ih;split<;>omega
def Tf(l:List Gy)(c:Hy):List Int:=(List.range (min (JC l c+1).toNat 500)).map λ(i:Nat)=>GH l (c.q 1 i)
def wa(p:HW)(nm:Nat->Int)(an an':Nat->Int->Int)(i:JE)(s:ID)(h:an s.asked.length=an' s.asked.length):Gc p nm an i s=Gc p nm an' i s:=by
  have h':∀ k,an s.asked.length k=an' s.asked.length k:=λk=>by rw[h]
  have e:∀ f:Nat->Int->Int,f s.asked.length=an s.asked.length->Gc p nm f i s=Gc p nm an i s:=λf hf=>by
    unfold Gc
    repeat' split
    all_goals first | rfl | (rw[hf]) | (simp_all)
  exact (e an' h.symm).symm
def qW(p:HW)(nm:Nat->Int)(an an':Nat->Int->Int):∀ (k:Nat) (s:ID),(∀ j,j < s.asked.length+k->an j=an' j)->F9 p nm an k s=F9 p nm an' k s:=by
  intro k
  induction k with
  | zero=>intro s _;rfl
  | succ k ih=>
    intro s h;rw[F9,F9];cases hc:p.code[s.pc.toNat]? with
    | none=>rfl
    | some i=>
      simp only;split
      · rfl
      · rw[wa p nm an an' i _ (h _ (by show s.asked.length < _;omega))]
        cases ho:Gc p nm an' i { vars:=s.vars,acts:=s.acts,covered:=Fp s.covered s.pc,asked:=s.asked,stack:=s.stack,pc:=s.pc+1 } with
        | none=>rfl
        | some s'=>
          have hl:=N6 _ _ _ _ _ _ ho;exact ih s' λj hj=>h j (by have:s'.asked.length<=s.asked.length+1:=hl.1;omega)
def qY(p:HW)(h:Nat)(vars:List Int)(nm:Nat->Int)(an an':Nat->Int->Int)(he:∀ j,j < 500->an j=an' j):FF p h vars nm an=FF p h vars nm an':=by
  unfold FF;split
  · rfl
  · exact qW p nm an an' 500 _ λj hj=>he j (by simpa [Gn] using hj)
section
variable [Prim Tryz.prog]
def YP(l:List Gy)(c:Hy)(hl:l.length<=100000):VD Tryz.prog 145 [vl l,.agg [vi c.node,vi c.handler,vi c.count]] (vl (Tf l c)):=by
  refine VD.I3 λσ=>?_
  refine Ea XF145 ?_
  refine Zl @xf145.eq_1 ?_
  refine Hw (λA hA=>?_);have lA:A.low=σ.next:=by rw[hA];rfl
  have nA:A.next=σ.next+1:=by rw[hA];rfl
  have z3:A.heap σ.next=.cells [vi c.node,vi c.handler,vi c.count] 45 3 σ.next:=by rw[hA];simp +decide only[wA,↓reduceIte]
  clear hA;refine Ek 0 (λk fe Z=>fe 0=vl l/\fe 3=.ptr σ.next 0/\fe 5=.v (.slice none 0 0)/\Z=A/\∃ i:Nat,fe 7=vi i/\k+i=l.length/\fe 6=vi (JC (l.take i) c)) (λfe Z=>fe 0=vl l/\fe 3=.ptr σ.next 0/\fe 5=.v (.slice none 0 0)/\Z=A/\fe 6=vi (JC l c)) l.length ?_ ?_ ?_
  · refine Zy0 ?_
    exact⟨0,rfl,dO,rfl⟩
  · rintro k fe Z ⟨f0,f3,f5,rfl,i,f7,hk,f6⟩
    (repeat' (first | refine Zl (J7 f0 f3 f5 f6 f7 z3 @Aan) ?_ | refine Zb (λ_ gd=>?_) λ_ gd=>?_ | fail))
    all_goals first
      | (rw[Aj dO])
      | (have hi:i < l.length:=dO
         refine⟨k - 1,dO,i+1,Hr hi dO,dO,?_⟩;rw[Te _ _ _ hi];unfold Jk;simp only[*,and_self,decide_true,if_true];split<;>omega)
      | (have hi:i < l.length:=dO
         refine⟨k - 1,dO,i+1,Hr hi dO,dO,?_⟩;rw[Te _ _ _ hi];unfold Jk;simp only[*,and_false,false_and,decide_false,AW,if_false])
  · rintro fe Z ⟨f0,f3,f5,rfl,f6⟩
    have hm:=qV l c
    refine Zl (J4 f0 f3 f5 f6) ?_
    refine Ek 2 (λk fe Y=>fe 0=vl l/\fe 3=.ptr σ.next 0/\fe 6=vi (JC l c)/\Y.heap=Z.heap/\σ.next<=Y.low/\Z.next<=Y.next/\∃ i:Nat,fe 8=vi i/\k+i=min (JC l c+1).toNat 500/\App Y σ.next (fe 5) ((List.range i).map λ(i:Nat)=>GH l (c.q 1 i)))
      (λfe Y=>σ.next<=Y.low/\App Y σ.next (fe 5) (Tf l c)) (min (JC l c+1).toNat 500) ?_ ?_ ?_
    · refine Zl (J4 f0 f3 f5 f6) ?_
      exact⟨dO,0,rfl,dO,App.nil _ _⟩
    · rintro k fe Y ⟨f0,f3,f6,hY,hlo,hn,i,f8,hk,ga⟩
      have hlen:((List.range i).map λ(i:Nat)=>GH l (c.q 1 i)).length=i:=iN
      (repeat' (first | refine Zl (J7 f0 f3 f6 f8 hY z3 hlen) ?_ | refine Zz0 (Ta l (c.q 1 i) hl) λgn=>?_ | refine Zb (λ_ gd=>?_) λ_ gd=>?_ | refine ZE trivial [(_:Int)] ?_ | refine ZP (zp Int σ.next) λgt gn glo glv ga g1 g2 g3=>?_ | fail))
      · refine⟨k - 1,dO,dO,dO,i+1,Hr (n:=500) dO dO,dO,?_⟩
        rw[CW,AX];exact ga
      · obtain rfl:i=min (JC l c+1).toNat 500:=dO
        exact⟨hlo,ga⟩
      · obtain rfl:i=min (JC l c+1).toNat 500:=dO
        exact⟨hlo,ga⟩
    · rintro fe Y ⟨hlo,ga⟩
      refine Zy0 ?_
      exact⟨hlo,ga⟩
def QR(l:List Gy)(c:Hy):∀ x∈Tf l c,0<=x:=λx hx=>by
  unfold Tf at hx;obtain⟨i,_,rfl⟩:=AT.1 hx;exact HD _ _
def qZ(l:List Gy)(c:Hy):∀ a∈l,Jk c a=true->a.q.index<=JC l c:=by
  unfold JC
  suffices h:∀ m:Int,(∀ a∈l,Jk c a=true->a.q.index<=l.foldl (λm a=>if Jk c a then max m a.q.index else m) m)/\m<=l.foldl (λm a=>if Jk c a then max m a.q.index else m) m from (h _).1
  induction l with
  | nil=>exact λm=>⟨λa h=>by simp at h,Db _⟩
  | cons x l ih=>
    intro m;rw[Bg];obtain⟨h1,h2⟩:=ih (if Jk c x then max m x.q.index else m);refine⟨λa ha hd=>?_,?_⟩
    · rcases Aq.1 ha with rfl | ha
      · rw[if_pos hd] at h2 |-; omega
      · exact h1 a ha hd
    · by_cases hd:Jk c x=true<;>simp only[hd,if_true,AW,if_false] at h2 |- <;>omega
def YQ(l:List Gy)(q:Qn)(h:∀ a∈l,a.q≠q):GH l q=0:=by
  unfold GH
  suffices k:∀ n:Int,l.foldl (λn a=>if a.q=q then max a.n 0 else n) n=n from k 0
  induction l with
  | nil=>exact λn=>rfl
  | cons x l ih=>
    intro n;rw[Bg,if_neg (h x iN)];exact ih (λa ha=>h a (by simp[ha])) n
def re(l:List Gy)(c:Hy)(i:Nat)(hi:i < 500):(Tf l c).getD i 0=GH l (c.q 1 i):=by
  unfold Tf;rw[AY,BI];by_cases h:i < min (JC l c+1).toNat 500
  · rw[Ah ae0];simp
  · rw[AO ae0]
    simp only[DN,Dx];refine (YQ l _ λa ha e=>?_).symm;have hd:Jk c a=true:=by unfold Jk;rw[e];simp[Hy.q]
    have:=qZ l c a ha hd;rw[e] at this;have h2:(c.q 1 i).index=(i:Int):=rfl;rw[h2] at this;omega
def UZ(p:HW)(h:Nat)(vars:List Int)(nm:Nat->Int)(l:List Gy)(c:Hy):FF p h vars nm (λi m=>((Tf l c).getD i 0).tmod m)=FF p h vars nm (Ik l c):=
  qY _ _ _ _ _ _ λj hj=>by funext m;rw[re l c j hj];rfl
end
def rf(s:FZ)(L:List VV)(n:Nat)(h:n<=52):(DZ.e s++L).take n=(DZ.e s).take n:=by rw[A9 (by rw[EG];exact h)]
def Rm(s:FZ)(L:List VV)(o n:Nat)(h:o+n<=52):((DZ.e s++L).drop o).take n=((DZ.e s).drop o).take n:=by
  rw[By (by rw[EG];omega),A9 (by rw[AI,EG];omega)]
def JO(s:FZ)(L:List VV)(o:Nat)(h:52<=o):(DZ.e s++L).drop o=L.drop (o - 52):=by
  rw[BG,Bb (by rw[EG];exact h),EG,Ba]
def H6(s:FZ)(L x:List VV)(o:Nat)(h:o+x.length<=52):D0 (DZ.e s++L) o x=D0 (DZ.e s) o x++L:=by
  unfold D0;rw[A9 (by rw[EG];omega),By (by rw[EG];omega)];simp only[AU]
def IU(s:FZ)(L x:List VV)(o:Nat)(h:52<=o):D0 (DZ.e s++L) o x=DZ.e s++D0 L (o - 52) x:=by
  unfold D0;rw[B4,Aj (by rw[EG];exact h),EG,BG,Bb (by rw[EG];omega),EG,Ba,show o+x.length - 52=o - 52+x.length by omega];simp only[AU]
def KZ(s:FZ)(L:List VV)(h:L.length<=15):(DZ.e s++L).take 67=DZ.e s++L:=Aj (by rw[Ad,EG];omega)
def Jr(a:FZ)(x:List Int)(y:List NH):D0 (DZ.e a) 4 [vl x,vl y]=DZ.e { a with disk:=⟨x,y⟩ }:=rfl
def JP(asks sent:VV)(rpl:Bool)(value:Int)(fails:VV)(c:Hy)(o1 o2 o3 o4 o5 o6 cov:VV):List VV:=[asks,sent,vb rpl,vi value,fails,vi c.node,vi c.handler,vi c.count,o1,o2,o3,o4,o5,o6,cov]
def One(v:VV):Prop:=v.cs=[v]/\∀ m,FE (v::m)=FE m
section
variable [Prim Tryz.prog]
set_option maxHeartbeats 1000000 in
set_option maxRecDepth 100000 in
def YR(s:FZ)(hd:F1 s.disk)(ht:s.timers.length<=1000)(a:Act)(asks sent:VV)(rpl:Bool)(value:Int)(fails:VV)(c:Hy)(o1 o2 o3 o4 o5 o6 cov:VV)(sl:List GF)(fl:List Int)(b:Nat)(σ:D1)(hb:b<=σ.next)(own:FT σ b [GB sent sl,GB fails fl])
    (h0:One asks) (h1:One o1) (h2:One o2) (h3:One o3) (h4:One o4) (h5:One o5) (h6:One o6) (h7:One cov) (hsl:sl.length<=100000) (hfl:fl.length<=100000) (R:LB) (hR:R=Fq ⟨s,[],sl,rpl,value,fl,c,[]⟩ a) :
    VC Tryz.prog 146 [.agg (DZ.e s++JP asks sent rpl value fails c o1 o2 o3 o4 o5 o6 cov),.agg (DZ.e a)] σ (λr σ'=>b<=σ'.low/\∃ sent' fails',r=.agg (DZ.e R.s++JP asks sent' R.replied R.value fails' c o1 o2 o3 o4 o5 o6 cov)/\FT σ' b [GB sent' R.sent,GB fails' R.fails]/\∀ j,j < σ.next->σ'.heap j=σ.heap j):=by
  have a1:App σ b sent sl:=own.app iN;have a2:App σ b fails fl:=own.app iN;have q1:=λm=>a1.all m
  have q2:=λm=>a2.all m
  have p1:=a1.cs;have p2:=a2.cs;have p3:=a1.len;obtain⟨c0,d0⟩:=h0;obtain⟨c1,d1⟩:=h1;obtain⟨c2,d2⟩:=h2;obtain⟨c3,d3⟩:=h3;obtain⟨c4,d4⟩:=h4;obtain⟨c5,d5⟩:=h5;obtain⟨c6,d6⟩:=h6;obtain⟨c7,d7⟩:=h7;have kinds:a.kind=1\/a.kind=2\/a.kind=4\/a.kind=5\/a.kind=3\/a.kind=6\/a.kind=7\/(a.kind≠1/\a.kind≠2/\a.kind≠4/\a.kind≠5/\a.kind≠3/\a.kind≠6/\a.kind≠7):=dO
  have hj0:∀ j,j < σ.next->(j=σ.next)=False:=λj hj=>eq_false dO
  have hj1:∀ j,j < σ.next->∀ k,(j=σ.next+k)=False:=λj hj k=>eq_false dO
  refine Ea XF146 ?_;unfold JP;rcases kinds with e | e | e | e | e | e | e | e
  · simp only[Fq,e,Int.reduceEq,if_true,if_false] at hR
    subst hR
    (repeat' (first | refine Zz0 (gm _ hd _ _) λgn=>?_ | simp +decide only[↓Em,wA,↓reduceIte,Nat.reduceAdd,Nat.reduceLeDiff,D0,xf146,e,Rm,↓H6,↓Jr,KZ,Et,q1,q2,d0,d1,d2,d3,d4,d5,d6,d7,Ad] | fail))
    exact⟨by first | omega | exact⟨dO,dO⟩,sent,fails,rfl,own.D8 ah0 (λ_ _ _=>rfl),λj hj=>by simp +decide only[↓reduceIte,eq_self,hj0 j hj,hj1 j hj]⟩
  · simp only[Fq,e,Int.reduceEq,if_true,if_false] at hR
    subst hR
    (repeat' (first | refine Zz0 (mb _ hd) λgn=>?_ | simp +decide only[↓Em,wA,↓reduceIte,Nat.reduceAdd,Nat.reduceLeDiff,D0,xf146,e,Rm,↓H6,↓Jr,KZ,Et,q1,q2,d0,d1,d2,d3,d4,d5,d6,d7,Ad] | fail))
    exact⟨by first | omega | exact⟨dO,dO⟩,sent,fails,rfl,own.D8 ah0 (λ_ _ _=>rfl),λj hj=>by simp +decide only[↓reduceIte,eq_self,hj0 j hj,hj1 j hj]⟩
  · simp only[Fq,e,Int.reduceEq,if_true,if_false] at hR
    subst hR
    (repeat' (first | refine Zz0 (QQ _ _ true ht) λgn=>?_ | simp +decide only[↓Em,wA,↓reduceIte,Nat.reduceAdd,Nat.reduceLeDiff,D0,↓K9,xf146,e,Rm,↓H6,KZ,Et,q1,q2,d0,d1,d2,d3,d4,d5,d6,d7,Ad] | fail))
    exact⟨by first | omega | exact⟨dO,dO⟩,sent,fails,rfl,own.D8 ah0 (λ_ _ _=>rfl),λj hj=>by simp +decide only[↓reduceIte,eq_self,hj0 j hj,hj1 j hj]⟩
  · simp only[Fq,e,Int.reduceEq,if_true,if_false] at hR
    subst hR
    (repeat' (first | refine Zz0 (QQ _ _ false ht) λgn=>?_ | simp +decide only[↓Em,wA,↓reduceIte,Nat.reduceAdd,Nat.reduceLeDiff,D0,↓K9,xf146,e,Rm,↓H6,KZ,Et,q1,q2,d0,d1,d2,d3,d4,d5,d6,d7,Ad] | fail))
    exact⟨by first | omega | exact⟨dO,dO⟩,sent,fails,rfl,own.D8 ah0 (λ_ _ _=>rfl),λj hj=>by simp +decide only[↓reduceIte,eq_self,hj0 j hj,hj1 j hj]⟩
  · simp only[Fq,e,Int.reduceEq,if_true,if_false] at hR
    subst hR
    (repeat' (first | refine ZE trivial [(⟨⟨_,_,_,_,_⟩,_,_,_,_⟩:GF)] ?_ | simp +decide only[↓Em,wA,↓reduceIte,Nat.reduceAdd,Nat.reduceLeDiff,D0,xf146,e,JO,Et,q1,q2,p3,d0,d1,d2,d3,d4,d5,d6,d7,Ad,Nat.reduceSub] | fail))
    refine D5.La (l:=sl) (m:=[(⟨c.m sl.length 0,a.a,a.b,a.c,a.d⟩:GF)]) [] [GB fails fl] (own.D8 ah0 (λt ht _=>by simp only[D1.Eg,lW];rw[if_neg dO]<;>rfl)) (EN _ _ _ rfl) rfl (by unfold reach;simp only[Ag,Ap];omega) iF ah0 (λra gn2 lo2 lv2 gown g1 g2 g3=>?_);have gA:App _ b ra _:=gown.app (v:=ra) (l:=sl++[(⟨c.m sl.length 0,a.a,a.b,a.c,a.d⟩:GF)]) iN;have gra:=λm=>gA.all m
    have grc:=gA.cs;simp only[lW] at g1 g2
    (repeat' (first | simp +decide only[↓Em,wA,↓reduceIte,Nat.reduceAdd,Nat.reduceLeDiff,D0,↓IU,KZ,Et,q2,d0,d1,d2,d3,d4,d5,d6,d7,Ad,Nat.reduceSub,gra,grc]))
    exact⟨by first | omega | exact⟨dO,dO⟩,ra,fails,rfl,gown.D8 ah0 (λ_ _ _=>rfl),λj hj=>by simp +decide only[↓reduceIte,eq_self,hj0 j hj,hj1 j hj]⟩
  · simp only[Fq,e,Int.reduceEq,if_true,if_false] at hR
    (repeat' (first | refine Zb (λ_ gd=>?_) λ_ gd=>?_ | simp +decide only[↓Em,wA,↓reduceIte,Nat.reduceAdd,Nat.reduceLeDiff,D0,↓K9,xf146,e,Rm,↓H6,↓IU,KZ,Et,q1,q2,d0,d1,d2,d3,d4,d5,d6,d7,Ad,Nat.reduceSub] | fail))
    all_goals first
      | (rw[if_pos (show 0<=s.waiting/\a.a=s.waiting by omega)] at hR;subst hR
         exact⟨by first | omega | exact⟨dO,dO⟩,sent,fails,rfl,own.D8 ah0 (λ_ _ _=>rfl),λj hj=>by simp +decide only[↓reduceIte,eq_self,hj0 j hj,hj1 j hj]⟩)
      | (rw[if_neg (show ¬ (0<=s.waiting/\a.a=s.waiting) by omega)] at hR;subst hR
         exact⟨by first | omega | exact⟨dO,dO⟩,sent,fails,rfl,own.D8 ah0 (λ_ _ _=>rfl),λj hj=>by simp +decide only[↓reduceIte,eq_self,hj0 j hj,hj1 j hj]⟩)
  · simp only[Fq,e,Int.reduceEq,if_true,if_false] at hR
    subst hR
    (repeat' (first | refine ZE trivial [(_:Int)] ?_ | simp +decide only[↓Em,wA,↓reduceIte,Nat.reduceAdd,Nat.reduceLeDiff,xf146,e,JO,Et,q1,q2,d0,d1,d2,d3,d4,d5,d6,d7,Ad,Nat.reduceSub] | fail))
    refine D5.La (l:=fl) (m:=[a.a]) [GB sent sl] [] (own.D8 ah0 (λt ht _=>by simp only[D1.Eg,lW];rw[if_neg dO]<;>rfl)) (EN _ _ _ rfl) rfl (by unfold reach;simp only[Ag,Ap];omega) iF ah0 (λra gn2 lo2 lv2 gown g1 g2 g3=>?_);have gA:App _ b ra _:=gown.app (v:=ra) (l:=fl++[a.a]) iN;have gra:=λm=>gA.all m
    have grc:=gA.cs;simp only[lW] at g1 g2
    (repeat' (first | simp +decide only[↓Em,wA,↓reduceIte,Nat.reduceAdd,Nat.reduceLeDiff,D0,↓IU,KZ,Et,q1,d0,d1,d2,d3,d4,d5,d6,d7,Ad,Nat.reduceSub,gra,grc]))
    exact⟨by first | omega | exact⟨dO,dO⟩,sent,ra,rfl,gown.D8 ah0 (λ_ _ _=>rfl),λj hj=>by simp +decide only[↓reduceIte,eq_self,hj0 j hj,hj1 j hj]⟩
  · obtain⟨e1,e2,e3,e4,e5,e6,e7⟩:=e
    simp only[Fq,e1,e2,e3,e4,e5,e6,e7,if_false] at hR;subst hR;have x1:=decide_eq_false e1;have x2:=decide_eq_false e2;have x3:=decide_eq_false e3;have x4:=decide_eq_false e4;have x5:=decide_eq_false e5;have x6:=decide_eq_false e6;have x7:=decide_eq_false e7
    (repeat' (first | simp +decide only[↓Em,wA,↓reduceIte,Nat.reduceAdd,Nat.reduceLeDiff,D0,xf146,x1,x2,x3,x4,x5,x6,x7,KZ,Et,q1,q2,d0,d1,d2,d3,d4,d5,d6,d7,Ad]))
    exact⟨by first | omega | exact⟨dO,dO⟩,sent,fails,rfl,own.D8 ah0 (λ_ _ _=>rfl),λj hj=>by simp +decide only[↓reduceIte,eq_self,hj0 j hj,hj1 j hj]⟩
end
def NF(R:LB)(v:VV):Prop:=∃ o1 o2 o3 o4 o5 o6:VV,v=.agg (DZ.e R.s++JP (vl R.asks) (vl R.sent) R.replied R.value (vl R.fails) R.cause o1 o2 o3 o4 o5 o6 (vl R.covered))/\One o1/\One o2/\One o3/\One o4/\One o5/\One o6
def Aao(s:FZ)(p:HW)(h:Nat)(self nodes drift:Int)(nm:Nat->Int)(l:List Gy):LB:=
 let c:Hy:=⟨self,h,s.counts h⟩
 let tick:=EJ l (c.q 2 0) (drift+1)
 let now:=s.clock+1+if 0 < drift then tick else 0
 let o:=FF p h (GK s) (Ft nm self nodes now) (Ik l c)
 ⟨{ s with clock:=now,counts:=FG s.counts h (s.counts h+1),vol:=o.vars.drop p.durable.toNat },(if 0 < drift then [⟨c.q 2 0,drift+1,tick⟩] else [])++E2 l c o.asked,[],false,0,[],c,o.covered⟩
def EI(s:FZ):(DZ.e s).take 52=DZ.e s:=Aj (by rw[EG];exact Af _)
def Pl(s:HW):(DZ.e s).take 43=DZ.e s:=Aj (by rw[PD];exact Af _)
def jt(f:Nat->Int):(Gz 9 f).take 9=Gz 9 f:=Aj (by rw[Eo];exact Af _)
def AbW(f:Nat->Int)(x:Int):D0 (Gz 9 f) 0 [vi x]=Gz 9 (FG f 0 x):=Pg 9 f 0 x iF
def AbX(f:Nat->Int)(x:Int):D0 (Gz 9 f) 1 [vi x]=Gz 9 (FG f 1 x):=Pg 9 f 1 x iF
def AbY(f:Nat->Int)(x:Int):D0 (Gz 9 f) 2 [vi x]=Gz 9 (FG f 2 x):=Pg 9 f 2 x iF
section
variable [Prim Tryz.prog]
def U0(r:LB)(a:Act):(Fq r a).s=(Fq ⟨r.s,[],r.sent,r.replied,r.value,r.fails,r.cause,[]⟩ a).s/\(Fq r a).sent=(Fq ⟨r.s,[],r.sent,r.replied,r.value,r.fails,r.cause,[]⟩ a).sent/\(Fq r a).replied=(Fq ⟨r.s,[],r.sent,r.replied,r.value,r.fails,r.cause,[]⟩ a).replied/\(Fq r a).value=(Fq ⟨r.s,[],r.sent,r.replied,r.value,r.fails,r.cause,[]⟩ a).value/\(Fq r a).fails=(Fq ⟨r.s,[],r.sent,r.replied,r.value,r.fails,r.cause,[]⟩ a).fails:=by
 unfold Fq;by_cases h1:a.kind=1
 ·simp[h1]
 by_cases h2:a.kind=2
 ·simp[h2]
 by_cases h4:a.kind=4
 ·simp[h4]
 by_cases h5:a.kind=5
 ·simp[h5]
 by_cases h3:a.kind=3
 ·simp[h3]
 by_cases h6:a.kind=6
 ·simp only[h6,Int.reduceEq,if_true,if_false]
  split<;>simp
 by_cases h7:a.kind=7
 ·simp[h7]
 simp[h1,h2,h3,h4,h5,h6,h7]
end
def mf(p:HW)(nm:Nat->Int)(an:Nat->Int->Int)(i:JE)(s s':ID)(h:Gc p nm an i s=some s'):s'.asked=s.asked\/∃ k:Int,1<=k/\s'.asked=s.asked++[k]:=by
 obtain⟨vars,acts,cov,asked,stack,pc⟩:=s;by_cases hr:1<=i.op/\i.op<=22
 ·have c23:i.op=1\/i.op=2\/i.op=3\/i.op=4\/i.op=5\/i.op=6\/i.op=7\/i.op=8\/i.op=9\/i.op=10\/i.op=11\/i.op=12\/i.op=13\/i.op=14\/i.op=15\/i.op=16\/i.op=17\/i.op=18\/i.op=19\/i.op=20\/i.op=21\/i.op=22:=dO
  rcases stack with _ | ⟨x,_ | ⟨y,_ | ⟨z,r⟩⟩⟩
  all_goals
   rcases c23 with e | e | e | e | e | e | e | e | e | e | e | e | e | e | e | e | e | e | e | e | e | e
   all_goals
    simp only[Gc,e,Int.reduceEq,if_true,if_false,or_true,or_false,or_self] at h;first
     | (cases h;done)
     | (obtain rfl:=Aa h;exact DX rfl)
     | (simp only[Ab] at h;obtain⟨_,_,rfl⟩:=h;exact DX rfl)
     | (split at h<;>(obtain rfl:=Aa h;first | exact DX rfl | exact Or.inr ⟨_,Int.le_max_left _ _,rfl⟩))
 ·have n:∀ k:Int,1<=k->k<=22->(i.op=k)=False:=λk h1 h2=>eq_false dO
  simp only[Gc,n 1 iF iF,n 2 iF iF,n 3 iF iF,n 4 iF iF,n 5 iF iF,n 6 iF iF,n 7 iF iF,n 8 iF iF,n 9 iF iF,n 10 iF iF,n 11 iF iF,n 12 iF iF,n 13 iF iF,n 14 iF iF,n 15 iF iF,n 16 iF iF,n 17 iF iF,n 18 iF iF,n 19 iF iF,n 20 iF iF,n 21 iF iF,n 22 iF iF,if_false,or_self] at h;cases h
def gw(p:HW)(nm:Nat->Int)(an:Nat->Int->Int):∀ (k:Nat) (s:ID),(∀ x∈s.asked,x≠0)->∀ x∈(F9 p nm an k s).asked,x≠0:=by
 intro k
 induction k with
 | zero=>intro s h;exact h
 | succ k ih=>
  intro s h;rw[F9];cases hc:p.code[s.pc.toNat]? with
  | none=>exact h
  | some i=>
   simp only;split
   ·exact h
   ·cases ho:Gc p nm an i { vars:=s.vars,acts:=s.acts,covered:=Fp s.covered s.pc,asked:=s.asked,stack:=s.stack,pc:=s.pc+1 } with
    | none=>exact h
    | some s'=>
     refine ih s' ?_;rcases mf _ _ _ _ _ _ ho with e | ⟨k,hk,e⟩
     ·rw[e];exact h
     ·rw[e]
      intro x hx;rcases Aw.mp hx with hx | hx
      ·exact h x hx
      ·rw[AG.mp hx];omega
def Tg(p:HW)(h:Nat)(vars:List Int)(nm:Nat->Int)(an:Nat->Int->Int):∀ x∈(FF p h vars nm an).asked,x≠0:=by
 unfold FF;split
 ·exact (show ∀ x∈([]:List Int),x≠0 by simp)
 ·exact gw _ _ _ _ _ (show ∀ x∈([]:List Int),x≠0 by simp)
def GY{α:Type}[DZ α](l:List α):One (vl l):=⟨rfl,HJ l⟩
def Th(x:Int):One (vi x):=⟨rfl,λ_=>rfl⟩
def Ti(x:Bool):One (vb x):=⟨rfl,λ_=>rfl⟩
def QS(l:List Gy)(c:Hy)(a:List Int)(i:Nat)(hi:i < a.length):E2 l c (a.take (i+1))=E2 l c (a.take i)++[⟨c.q 1 i,a[i],EJ l (c.q 1 i) a[i]⟩]:=by
 unfold E2;rw[Bn,Ah hi,List.mapIdx_append];simp only[Option.toList,List.mapIdx_cons,List.mapIdx_nil,As,A8,Bl (Nat.le_of_lt hi)]
def Tj(l:List Gy)(c:Hy)(a:List Int):(E2 l c a).length=a.length:=by unfold E2;simp
section
variable [Prim Tryz.prog]
def Tk(s:FZ)(p:HW)(h:Nat)(self nodes drift:Int)(nm:Nat->Int)(l:List Gy):FR s p h self nodes drift nm l=(FF p h (GK s) (Ft nm self nodes (s.clock+1+if 0 < drift then EJ l ((⟨self,h,s.counts h⟩:Hy).q 2 0) (drift+1) else 0)) (Ik l ⟨self,h,s.counts h⟩)).acts.foldl Fq (Aao s p h self nodes drift nm l):=rfl
set_option maxHeartbeats 4000000 in
set_option maxRecDepth 100000 in
def QT(s:FZ)(p:HW)(D:List Nat)(hp:Hc p D)(h:Nat)(hh:h < 40)(self nodes drift:Int)(hdr:0<=drift/\drift<=3)(nm:Nat->Int)(l:List Gy)(hl:l.length<=100000)
  (hd:F1 s.disk) (htim:s.timers.length<=1000) (hvol:s.vol.length<=16) (hvl:((GK s).length:Int)=p.durable+p.volatile) (hvs:∀ x∈GK s,D2 x) (hclk:0<=s.clock/\s.clock<=1000000) (hcnt:0<=s.counts h/\s.counts h<=1000000) (hself:D2 self) (hnodes:D2 nodes) (hnm:∀ i,i < 9->D2 (nm i)) (σ:D1) :
  VC Tryz.prog 117 [.agg (DZ.e s),.agg (DZ.e p),vi h,vi self,vi nodes,vi drift,.agg (Gz 9 nm),vl l] σ (λr σ'=>σ.next<=σ'.low/\NF (FR s p h self nodes drift nm l) r.fg):=by
 have hcntA:((DZ.e s).drop (8+h)).take 1=[vi (s.counts h)]:=HF s h dO;have cc1:(8+(h+1)<=52)=True:=eq_true dO;have wc:G0 (s.clock+1)=s.clock+1:=Er dO dO;have wd:G0 (drift+1)=drift+1:=Er dO dO;obtain⟨C,hC⟩:∃ C:Hy,C=⟨self,h,s.counts h⟩:=⟨_,rfl⟩
 have ht0:=Bf (drift+1) (HD l (C.q 2 0));have ht1:=A2 (GH l (C.q 2 0)) (show 0 < drift+1 by omega);have hlk:0<=EJ l ((⟨self,h,s.counts h⟩:Hy).q 2 0) (drift+1)/\EJ l ((⟨self,h,s.counts h⟩:Hy).q 2 0) (drift+1)<=3:=by rw[<- hC];unfold EJ;omega
 have wt:G0 (s.clock+1+EJ l ((⟨self,h,s.counts h⟩:Hy).q 2 0) (drift+1))=s.clock+1+EJ l ((⟨self,h,s.counts h⟩:Hy).q 2 0) (drift+1):=Er dO dO;refine Ea XF117 ?_
 (repeat' (first | refine Zb (λ_ gd=>?_) λ_ gd=>?_ | simp +decide only[↓Em,wA,↓reduceIte,Nat.reduceAdd,Nat.reduceLeDiff,D0,↓K9,Int.reduceToNat,xf117,Rm,JO,↓H6,↓IU,EI,Pl,↓AbW,↓AbX,↓AbY,Et,EM,Ad,Nat.reduceSub,hcntA,cc1,wc,wd] | ((with_reducible refine Kx ?_ ?_ ?_);(omega);(omega)) | fail))
 ·(repeat' (first | refine Zz0 (KY l ((⟨self,h,s.counts h⟩:Hy).q 2 0) (drift+1) hl dO) λgn=>?_ | refine ZE trivial [(⟨(⟨self,h,s.counts h⟩:Hy).q 2 0,drift+1,EJ l ((⟨self,h,s.counts h⟩:Hy).q 2 0) (drift+1)⟩:Ask)] ?_ | simp +decide only[↓Em,wA,↓reduceIte,Nat.reduceAdd,Nat.reduceLeDiff,D0,JO,Ad,Nat.reduceSub,wd] | fail))
  refine D5.La (l:=([]:List Ask)) (m:=[(⟨(⟨self,h,s.counts h⟩:Hy).q 2 0,drift+1,EJ l ((⟨self,h,s.counts h⟩:Hy).q 2 0) (drift+1)⟩:Ask)]) [] [GB (.v (.slice none 0 0)) ([]:List GF),GB (.v (.slice none 0 0)) ([]:List Int)] (b:=σ.next) ((((FT.nil _ _).Gr (α:=Int)).Gr (α:=GF)).Gr (α:=Ask)) (EN _ _ _ rfl) rfl (by unfold reach;simp only[Ag,Ap];omega) iF ah0 (λra gn2 lo2 lv2 gown g1 g2 g3=>?_);have gA:App _ σ.next ra (([]:List Ask)++[(⟨(⟨self,h,s.counts h⟩:Hy).q 2 0,drift+1,EJ l ((⟨self,h,s.counts h⟩:Hy).q 2 0) (drift+1)⟩:Ask)]):=gown.app iN;have gra:=λm=>gA.all m
  have grc:=gA.cs;simp only[lW] at g1 g2
  (repeat' (first | simp +decide only[↓Em,wA,↓reduceIte,Nat.reduceAdd,Nat.reduceLeDiff,D0,↓K9,Int.reduceToNat,wt,gra,grc,Rm,↓H6,↓IU,EI,Pl,↓AbW,↓AbX,↓AbY,Ad,Nat.reduceSub] | ((with_reducible refine Kx ?_ ?_ ?_);(omega);(omega))))
  have lt1:∀ x:Nat,(1 < 6+x)=True:=λx=>eq_true dO
  have lt2:∀ x:Nat,(2 < 6+x)=True:=λx=>eq_true dO
  have lt3:∀ x:Nat,(3 < 6+x)=True:=λx=>eq_true dO
  have lt4:∀ x:Nat,(4 < 6+x)=True:=λx=>eq_true dO
  have hnm':∀ i,i < 9->D2 (Ft nm self nodes (s.clock+1+EJ l ((⟨self,h,s.counts h⟩:Hy).q 2 0) (drift+1)) i):=λi hi=>by
   unfold Ft FG;split
   ·unfold D2;omega
   ·split
    ·exact hnodes
    ·split
     ·exact hself
     ·exact hnm i hi
  (repeat' (first | refine Zz0 (YP l ⟨self,h,s.counts h⟩ hl) λgn=>?_ | refine ZA (za Int) trivial (Qf s hd dO _) λgv gn glv ga gl=>?_ | simp +decide only[↓Em,wA,Fe,Ev,↓reduceIte,Nat.reduceAdd,Nat.reduceLeDiff,lt2,lt4,JO,jt,Ad,Nat.reduceSub] | fail))
  have gf:=ga.fg;refine Ey.tg (R:=v8 (FF p h (GK s) (Ft nm self nodes (s.clock+1+EJ l ((⟨self,h,s.counts h⟩:Hy).q 2 0) (drift+1))) λi m=>((Tf l C).getD i 0).tmod m)) (by simp only[gf,No,fG];exact rfl) (by rw[hC];exact YO p D hp h hh (GK s) hvl hvs (Ft nm self nodes (s.clock+1+EJ l ((⟨self,h,s.counts h⟩:Hy).q 2 0) (drift+1))) hnm' (Tf l ⟨self,h,s.counts h⟩) (QR _ _) _) (λrv gn2 hrv=>?_);rw[UZ] at hrv;obtain⟨F,hF⟩:∃ F,F=FF p h (GK s) (Ft nm self nodes (s.clock+1+EJ l ((⟨self,h,s.counts h⟩:Hy).q 2 0) (drift+1))) (Ik l C):=⟨_,rfl⟩
  rw[<- hF] at hrv;obtain⟨k,sp,rfl⟩:=hrv;obtain⟨fl1,fl2,fl3⟩:=PH p h (GK s) (Ft nm self nodes (s.clock+1+EJ l ((⟨self,h,s.counts h⟩:Hy).q 2 0) (drift+1))) (Ik l C);rw[<- hF] at fl1 fl2 fl3
  (repeat' (first | simp +decide only[↓Em,wA,↓reduceIte,Nat.reduceAdd,Nat.reduceLeDiff,D0,JO,↓IU,Ad,Nat.reduceSub]))
  have fl4:∀ x∈F.asked,x≠0:=by rw[hF];exact Tg _ _ _ _ _
  refine Hw (λA hA=>?_);have nA:σ.next+5<=A.next:=by rw[hA];simp +decide only[wA,Nat.reduceAdd];omega
  have lA:σ.next<=A.low:=by rw[hA];simp only[lW];omega
  have y1:A.heap (σ.next+1)=.cells (DZ.e p) 58 43 (σ.next+1):=by rw[hA];simp +decide only[wA,↓reduceIte,Nat.reduceAdd]
  have y3:∃ cs:List VV,cs.length=67/\A.heap (σ.next+3)=.cells cs 160 67 (σ.next+3):=by
   refine⟨_,?_,by rw[hA];simp +decide only[wA,↓reduceIte,Nat.reduceAdd];rfl⟩;rfl
  have y4:A.heap (σ.next+4)=.cells (DZ.e { s with clock:=s.clock+1+EJ l ((⟨self,h,s.counts h⟩:Hy).q 2 0) (drift+1) }++JP ra (.v (.slice none 0 0)) false 0 (.v (.slice none 0 0)) C (vl F.vars) (vl F.acts) (vi k) (vb sp) (vl F.covered) (vl F.asked) (vl F.covered)) 160 67 (σ.next+4):=by
   rw[hA,hC];simp +decide only[wA,↓reduceIte,JP]
  have own0:FT A σ.next [GB ra [(⟨(⟨self,h,s.counts h⟩:Hy).q 2 0,drift+1,EJ l ((⟨self,h,s.counts h⟩:Hy).q 2 0) (drift+1)⟩:Ask)],GB (.v (.slice none 0 0)) ([]:List GF),GB (.v (.slice none 0 0)) ([]:List Int)]:=by rw[hA];exact gown.D8 ah0 (λt ht _=>by simp only[lW] at ht;exact gl t dO)
  clear hA ga;obtain⟨cs3,hcs3,y3⟩:=y3;unfold JP at y4;obtain⟨al0,hal0⟩:∃ al:List Ask,al=[(⟨(⟨self,h,s.counts h⟩:Hy).q 2 0,drift+1,EJ l ((⟨self,h,s.counts h⟩:Hy).q 2 0) (drift+1)⟩:Ask)]:=⟨_,rfl⟩
  rw[<- hal0] at own0;have hl0:al0.length<=1:=by rw[hal0];simp
  refine Ek 0 (λm fe Z=>fe 2=vi h/\fe 7=vl l/\fe 9=.ptr (σ.next+1) 0/\fe 16=.ptr (σ.next+3) 0/\fe 17=.ptr (σ.next+4) 0/\σ.next<=Z.low/\σ.next+5<=Z.next/\Z.heap (σ.next+1)=.cells (DZ.e p) 58 43 (σ.next+1)/\Z.heap (σ.next+3)=.cells cs3 160 67 (σ.next+3)/\
    ∃ (i:Nat) (av:VV),fe 20=vi i/\m+i=F.asked.length/\Z.heap (σ.next+4)=.cells (DZ.e { s with clock:=s.clock+1+EJ l ((⟨self,h,s.counts h⟩:Hy).q 2 0) (drift+1) }++[av,.v (.slice none 0 0),vb false,vi 0,.v (.slice none 0 0),vi C.node,vi C.handler,vi C.count,vl F.vars,vl F.acts,vi k,vb sp,vl F.covered,vl F.asked,vl F.covered]) 160 67 (σ.next+4)/\FT Z σ.next (GB av (al0++E2 l C (F.asked.take i))::[GB (.v (.slice none 0 0)) ([]:List GF),GB (.v (.slice none 0 0)) ([]:List Int)]))
   (λfe Z=>fe 2=vi h/\fe 9=.ptr (σ.next+1) 0/\fe 16=.ptr (σ.next+3) 0/\fe 17=.ptr (σ.next+4) 0/\σ.next<=Z.low/\σ.next+5<=Z.next/\Z.heap (σ.next+1)=.cells (DZ.e p) 58 43 (σ.next+1)/\Z.heap (σ.next+3)=.cells cs3 160 67 (σ.next+3)/\
    ∃ (av:VV),Z.heap (σ.next+4)=.cells (DZ.e { s with clock:=s.clock+1+EJ l ((⟨self,h,s.counts h⟩:Hy).q 2 0) (drift+1) }++[av,.v (.slice none 0 0),vb false,vi 0,.v (.slice none 0 0),vi C.node,vi C.handler,vi C.count,vl F.vars,vl F.acts,vi k,vb sp,vl F.covered,vl F.asked,vl F.covered]) 160 67 (σ.next+4)/\FT Z σ.next (GB av (al0++E2 l C F.asked)::[GB (.v (.slice none 0 0)) ([]:List GF),GB (.v (.slice none 0 0)) ([]:List Int)])) F.asked.length ?_ ?_ ?_
  ·refine Zy0 ?_
   refine⟨lA,nA,y1,y3,0,ra,rfl,dO,y4,?_⟩;rw[A6,show E2 l C []=[] from rfl,AP];exact own0
  ·rintro m fe Z ⟨f2,f7,f9,f16,f17,hlo,hn,z1,z3,i,av,f20,hm,z4,own⟩
   have a1:App Z σ.next av (al0++E2 l C (F.asked.take i)):=own.app iN;have va1:=λm=>a1.all m
   have vc1:=a1.cs;have hdl:=Tj l C (F.asked.take i);rw[As] at hdl;have ne:=rh (σ.next+1) (σ.next+3) (σ.next+4) (Z.next) dO
   (repeat' (first | refine Zz0 (KY l (C.q 1 i) (F.asked[i]' dO) hl (fl4 _ (Ao _))) λgn=>?_ | refine Zb (λ_ gd=>?_) λ_ gd=>?_ | refine ZE trivial [(⟨C.q 1 i,F.asked[i]' dO,EJ l (C.q 1 i) (F.asked[i]' dO)⟩:Ask)] ?_ | simp +decide only[↓Em,wA,↓reduceIte,Nat.reduceAdd,Nat.reduceLeDiff,D0,ne,f2,f7,f9,f16,f17,f20,z1,z3,z4,JO,Ad,Nat.reduceSub] | ((with_reducible refine Ih ?_ ?_ ?_ ?_);(omega);(omega);(rfl)) | ((with_reducible refine HK ?_ ?_ ?_);(omega);(decide)) | fail))
   ·have hi:i < F.asked.length:=dO
    refine D5.La (l:=al0++E2 l C (F.asked.take i)) (m:=[(⟨C.q 1 i,F.asked[i],EJ l (C.q 1 i) F.asked[i]⟩:Ask)]) [] _ (own.D8 ah0 (λt ht _=>by simp only[D1.Eg,lW];rw[if_neg dO]<;>rfl)) (EN _ _ _ rfl) rfl (by unfold reach;simp only[Ad,Ag,Ap];omega) iF ah0 (λra gn2 lo2 lv2 gown g1 g2 g3=>?_);have gA:App _ σ.next ra ((al0++E2 l C (F.asked.take i))++[(⟨C.q 1 i,F.asked[i],EJ l (C.q 1 i) F.asked[i]⟩:Ask)]):=gown.app iN;have gra:=λm=>gA.all m
    have grc:=gA.cs;simp only[lW] at g1 g2
    (repeat' (first | simp +decide only[↓Em,wA,↓reduceIte,Nat.reduceAdd,Nat.reduceLeDiff,D0,ne,f2,f7,f9,f16,f17,f20,z1,z3,z4,gra,grc,↓IU,Ad,Nat.reduceSub]))
    refine⟨m - 1,dO,dO,dO,i+1,ra,Hr hi dO,dO,rfl,?_⟩;rw[QS _ _ _ _ hi,<- AU];exact gown.D8 ah0 (λ_ _ _=>rfl)
   ·rw[Aj dO] at own
    exact⟨hlo,hn,av,rfl,own⟩
  ·rintro fe Z ⟨f2,f9,f16,f17,hlo,hn,z1,z3,av,z4,own⟩
   have a1:App Z σ.next av (al0++E2 l C F.asked):=own.app iN;have va1:=λm=>a1.all m
   have vc1:=a1.cs;have gfa:=a1.fg;have hcntG:∀ x:FZ,((DZ.e x).drop (8+h)).take 1=[vi (x.counts h)]:=λx=>HF x h dO
   have hputG:∀ (x:FZ) (L:List VV) (y:Int),D0 (DZ.e x++L) (8+h) [vi y]=DZ.e { x with counts:=FG x.counts h y }++L:=λx L y=>by
    rw[H6 _ _ _ _ (by simp only[Ag,Ap];omega),Kw _ _ dO]
   have cc2:(8+(h+1)<=67)=True:=eq_true dO;have wk:G0 (s.counts h+1)=s.counts h+1:=Er dO dO;have hF2:=N9 hp hh hvl hvs hnm' (an:=Ik l C) (λi k k1 k2=>by
    have h0:=Bf k (HD l (C.q 1 i));have h1:=A2 (GH l (C.q 1 i)) (show 0 < k by omega);show D2 ((GH l (C.q 1 i)).tmod k)
    unfold D2;omega)
   rw[<- hF] at hF2;have hdur:=hp.dur;have hvol2:=hp.vol;have hv16:=hp.vars;have htk:(F.vars.drop p.durable.toNat).take 16=F.vars.drop p.durable.toNat:=Aj (by rw[AI];omega);have ne:=mg (σ.next+1) (σ.next+3) (σ.next+4) dO
   (repeat' (first | refine Zz0 (VD.I3 (λσ=>UX (F.vars.drop p.durable.toNat) 16 (by rw[AI];omega) σ)) λgn=>?_ | simp +decide only[↓Em,wA,↓reduceIte,Nat.reduceAdd,Nat.reduceLeDiff,↓K9,ne,↓hputG,hcntG,wk,htk,cc2,f2,f9,f17,z1,z4,Rm,JO,↓H6,Ad,Nat.reduceSub,cc1] | ((with_reducible refine Kx ?_ ?_ ?_);(omega);(omega)) | ((with_reducible refine Wx ?_ ?_ ?_ ?_);(omega);(omega);(rfl)) | fail))
   obtain⟨R0,hR0⟩:∃ R0:LB,R0=⟨{ s with clock:=s.clock+1+EJ l ((⟨self,h,s.counts h⟩:Hy).q 2 0) (drift+1),counts:=FG s.counts h (s.counts h+1),vol:=F.vars.drop p.durable.toNat },al0++E2 l C F.asked,[],false,0,[],C,F.covered⟩:=⟨_,rfl⟩
   refine Hw (λB hB=>?_);have nB:σ.next+5<=B.next:=by rw[hB];simp +decide only[wsU];omega
   have lB:σ.next<=B.low:=by rw[hB];simp only[lW];omega
   have b3:B.heap (σ.next+3)=.cells cs3 160 67 (σ.next+3):=by rw[hB];simp +decide only[wA,↓reduceIte,ne,z3]
   have b4:B.heap (σ.next+4)=.cells (DZ.e R0.s++[av,.v (.slice none 0 0),vb false,vi 0,.v (.slice none 0 0),vi C.node,vi C.handler,vi C.count,vl F.vars,vl F.acts,vi k,vb sp,vl F.covered,vl F.asked,vl F.covered]) 160 67 (σ.next+4):=by rw[hB,hR0];simp +decide only[wA,↓reduceIte]
   have ownB:FT B σ.next [GB (.v (.slice none 0 0)) ([]:List GF),GB (.v (.slice none 0 0)) ([]:List Int)]:=((FT.nil _ _).Gr (α:=Int)).Gr (α:=GF);clear hB;have hI0:VE R0 0 (al0++E2 l C F.asked) C F.covered:=by rw[hR0];exact⟨hd,htim,Af _,Af _,rfl,rfl,rfl⟩
   have oav:One av:=⟨vc1,va1⟩
   refine Ek 2 (λm fe Z=>fe 16=.ptr (σ.next+3) 0/\fe 17=.ptr (σ.next+4) 0/\σ.next<=Z.low/\σ.next+5<=Z.next/\Z.heap (σ.next+3)=.cells cs3 160 67 (σ.next+3)/\
     ∃ (i:Nat) (sv fv:VV),fe 22=vi i/\m+i=F.acts.length/\Z.heap (σ.next+4)=.cells (DZ.e ((F.acts.take i).foldl Fq R0).s++[av,sv,vb ((F.acts.take i).foldl Fq R0).replied,vi ((F.acts.take i).foldl Fq R0).value,fv,vi C.node,vi C.handler,vi C.count,vl F.vars,vl F.acts,vi k,vb sp,vl F.covered,vl F.asked,vl F.covered]) 160 67 (σ.next+4)/\FT Z σ.next [GB sv ((F.acts.take i).foldl Fq R0).sent,GB fv ((F.acts.take i).foldl Fq R0).fails])
    (λfe Z=>fe 16=.ptr (σ.next+3) 0/\fe 17=.ptr (σ.next+4) 0/\σ.next<=Z.low/\σ.next+5<=Z.next/\Z.heap (σ.next+3)=.cells cs3 160 67 (σ.next+3)/\
     ∃ (sv fv:VV),Z.heap (σ.next+4)=.cells (DZ.e (F.acts.foldl Fq R0).s++[av,sv,vb (F.acts.foldl Fq R0).replied,vi (F.acts.foldl Fq R0).value,fv,vi C.node,vi C.handler,vi C.count,vl F.vars,vl F.acts,vi k,vb sp,vl F.covered,vl F.asked,vl F.covered]) 160 67 (σ.next+4)/\FT Z σ.next [GB sv (F.acts.foldl Fq R0).sent,GB fv (F.acts.foldl Fq R0).fails]) F.acts.length ?_ ?_ ?_
   ·refine Zl (J2 f16 f17) ?_
    refine⟨lB,nB,b3,0,.v (.slice none 0 0),.v (.slice none 0 0),rfl,dO,?_,?_⟩
    ·rw[A6,CL,b4,hR0]
    ·rw[A6,CL,hR0];exact ownB
   ·rintro m fe Z ⟨f16,f17,hlo,hn,z3,i,sv,fv,f22,hm,z4,own⟩
    have hI:=MA hI0 (F.acts.take i);obtain⟨Ri,hRi⟩:∃ Ri,Ri=(F.acts.take i).foldl Fq R0:=⟨_,rfl⟩
    rw[<- hRi] at hI z4 own;have hIs:=hI.sent;have hIf:=hI.fails;rw[As] at hIs hIf;have a1:App Z σ.next sv Ri.sent:=own.app iN;have a2:App Z σ.next fv Ri.fails:=own.app iN;have va1:=λm=>a1.all m
    have vc1:=a1.cs;have va2:=λm=>a2.all m
    have vc2:=a2.cs;have oa:=oav.1;have ob:=oav.2;have ne:=mg (σ.next+3) (σ.next+4) (Z.next) dO
    (repeat' (first | refine Zb (λ_ gd=>?_) λ_ gd=>?_ | simp +decide only[↓Em,wA,↓reduceIte,Nat.reduceAdd,Nat.reduceLeDiff,f16,f17,f22,z3,z4,JO,KZ,Ad,Nat.reduceSub] | ((with_reducible refine Ih ?_ ?_ ?_ ?_);(omega);(omega);(rfl)) | ((with_reducible refine HK ?_ ?_ ?_);(omega);(decide)) | fail))
    ·have hi:i < F.acts.length:=dO
     have hcall:=λτ hτ oτ=>YR Ri.s hI.disk hI.tim F.acts[i] av sv Ri.replied Ri.value fv C (vl F.vars) (vl F.acts) (vi k) (vb sp) (vl F.covered) (vl F.asked) (vl F.covered) Ri.sent Ri.fails σ.next τ hτ oτ oav (GY _) (GY _) (Th _) (Ti _) (GY _) (GY _) (GY _) dO dO _ rfl
     unfold JP at hcall;refine Ey.any (hcall _ (by (try simp only[lW]);omega) (own.D8 (by (try simp only[lW]);omega) (λ_ _ _=>rfl))) ?_;rintro v H ⟨w1,sv',fv',rfl,w2,w3⟩ nH _;rw[show Fq ⟨Ri.s,[],Ri.sent,Ri.replied,Ri.value,Ri.fails,C,[]⟩ F.acts[i]=Fq ⟨Ri.s,[],Ri.sent,Ri.replied,Ri.value,Ri.fails,Ri.cause,[]⟩ F.acts[i] by rw[hI.cause]] at w2 |-;obtain⟨j1,j2,j3,j4,j5⟩:=U0 Ri F.acts[i];rw[<- j1,<- j3,<- j4];rw[<- j2,<- j5] at w2;have hR1:(F.acts.take (i+1)).foldl Fq R0=Fq Ri F.acts[i]:=by rw[PK _ _ _ _ hi,<- hRi]
     rw[<- hR1] at w2 |-;obtain⟨RI,hRI⟩:∃ RI,RI=(F.acts.take (i+1)).foldl Fq R0:=⟨_,rfl⟩
     rw[<- hRI] at w2 |-;have k3:(Z.join H).heap (σ.next+3)=_:=(w3 (σ.next+3) dO).trans z3;have k4:(Z.join H).heap (σ.next+4)=_:=(w3 (σ.next+4) dO).trans z4;have nW:Z.next<=(Z.join H).next:=nH;have lW:σ.next<=(Z.join H).low:=by show _<=min _ _;omega
     have w2:FT (Z.join H) σ.next [GB sv' RI.sent,GB fv' RI.fails]:=w2.D8 (Af _) (λ_ _ _=>rfl);clear w3
     revert k3 k4 nW lW w2
     generalize Z.join H=W;intro k3 k4 nW lW w2;have a3:App W σ.next sv' RI.sent:=w2.app iN;have a4:App W σ.next fv' RI.fails:=w2.app iN;have va3:=λm=>a3.all m
     have vc3:=a3.cs;have va4:=λm=>a4.all m
     have vc4:=a4.cs
     (repeat' (first | simp +decide only[↓Em,wA,↓reduceIte,Nat.reduceAdd,Nat.reduceLeDiff,D0,ne,f16,f17,f22,k3,k4,va3,va4,ob,JO,Et,Ad,Nat.reduceSub]))
     exact⟨m - 1,dO,lW,dO,i+1,sv',fv',Hr hi dO,dO,by rw[<- hRI],by rw[<- hRI];exact w2.D8 (Af _) (λ_ _ _=>rfl)⟩
    ·rw[Aj dO] at hRi
     rw[<- hRi];exact⟨hlo,hn,sv,fv,rfl,own⟩
   ·rintro fe Z ⟨f16,f17,hlo,hn,z3,sv,fv,z4,own⟩
    have hI:=MA hI0 F.acts;obtain⟨Rn,hRn⟩:∃ Rn,Rn=F.acts.foldl Fq R0:=⟨_,rfl⟩
    rw[<- hRn] at hI z4 own;have hout:FR s p h self nodes drift nm l=Rn:=by
     have hdr0:0 < drift:=IF
     rw[Tk,hRn,hF,hR0,Aao,if_pos hdr0,if_pos hdr0,hal0,hF,hC]
    have a1:App Z σ.next sv Rn.sent:=own.app iN;have a2:App Z σ.next fv Rn.fails:=own.app iN;have va1:=λm=>a1.all m
    have vc1:=a1.cs;have va2:=λm=>a2.all m
    have vc2:=a2.cs;have oa:=oav.1;have ob:=oav.2;have gf1:=a1.fg;have hd67:cs3.drop 67=[]:=Bj dO;have gf2:=a2.fg;have ne:=mg (σ.next+3) (σ.next+4) (Z.next) dO
    (repeat' (first | simp +decide only[↓Em,wA,↓reduceIte,Nat.reduceAdd,D0,f16,f17,z3,z4,va1,va2,ob,KZ,hcs3,hd67,Et,Ad]))
    refine⟨by first | assumption | omega,?_⟩;rw[hout];refine⟨vl F.vars,vl F.acts,vi k,vb sp,vl F.covered,vl F.asked,?_,GY _,GY _,Th _,Ti _,GY _,GY _⟩;simp only[AX,gfa,gf1,gf2,JP,hI.asks,hI.cause,hI.cov,fG]
 ·have hnm':∀ i,i < 9->D2 (Ft nm self nodes (s.clock+1) i):=λi hi=>by
   unfold Ft FG;split
   ·unfold D2;omega
   ·split
    ·exact hnodes
    ·split
     ·exact hself
     ·exact hnm i hi
  (repeat' (first | refine Zz0 (YP l ⟨self,h,s.counts h⟩ hl) λgn=>?_ | refine ZA (za Int) trivial (Qf s hd dO _) λgv gn glv ga gl=>?_ | simp +decide only[↓Em,wA,Fe,Ev,↓reduceIte,Nat.reduceAdd,Nat.reduceLeDiff,JO,jt,Ad,Nat.reduceSub] | fail))
  have gf:=ga.fg;refine Ey.tg (R:=v8 (FF p h (GK s) (Ft nm self nodes (s.clock+1)) λi m=>((Tf l C).getD i 0).tmod m)) (by simp only[gf,No,fG];exact rfl) (by rw[hC];exact YO p D hp h hh (GK s) hvl hvs (Ft nm self nodes (s.clock+1)) hnm' (Tf l ⟨self,h,s.counts h⟩) (QR _ _) _) (λrv gn2 hrv=>?_);rw[UZ] at hrv;obtain⟨F,hF⟩:∃ F,F=FF p h (GK s) (Ft nm self nodes (s.clock+1)) (Ik l C):=⟨_,rfl⟩
  rw[<- hF] at hrv;obtain⟨k,sp,rfl⟩:=hrv;obtain⟨fl1,fl2,fl3⟩:=PH p h (GK s) (Ft nm self nodes (s.clock+1)) (Ik l C);rw[<- hF] at fl1 fl2 fl3
  (repeat' (first | simp +decide only[↓Em,wA,↓reduceIte,Nat.reduceAdd,Nat.reduceLeDiff,D0,JO,↓IU,Ad,Nat.reduceSub]))
  have fl4:∀ x∈F.asked,x≠0:=by rw[hF];exact Tg _ _ _ _ _
  refine Hw (λA hA=>?_);have nA:σ.next+5<=A.next:=by rw[hA];simp +decide only[wA,Nat.reduceAdd];omega
  have lA:σ.next<=A.low:=by rw[hA];simp only[lW];omega
  have y1:A.heap (σ.next+1)=.cells (DZ.e p) 58 43 (σ.next+1):=by rw[hA];simp +decide only[wA,↓reduceIte,Nat.reduceAdd]
  have y3:∃ cs:List VV,cs.length=67/\A.heap (σ.next+3)=.cells cs 160 67 (σ.next+3):=by
   refine⟨_,?_,by rw[hA];simp +decide only[wA,↓reduceIte,Nat.reduceAdd];rfl⟩;rfl
  have y4:A.heap (σ.next+4)=.cells (DZ.e { s with clock:=s.clock+1 }++JP (.v (.slice none 0 0)) (.v (.slice none 0 0)) false 0 (.v (.slice none 0 0)) C (vl F.vars) (vl F.acts) (vi k) (vb sp) (vl F.covered) (vl F.asked) (vl F.covered)) 160 67 (σ.next+4):=by
   rw[hA,hC];simp +decide only[wA,↓reduceIte,JP]
  have own0:FT A σ.next [GB (.v (.slice none 0 0)) ([]:List Ask),GB (.v (.slice none 0 0)) ([]:List GF),GB (.v (.slice none 0 0)) ([]:List Int)]:=(((FT.nil _ _).Gr (α:=Int)).Gr (α:=GF)).Gr (α:=Ask);clear hA ga;obtain⟨cs3,hcs3,y3⟩:=y3;unfold JP at y4;obtain⟨al0,hal0⟩:∃ al:List Ask,al=[]:=⟨_,rfl⟩
  rw[<- hal0] at own0;have hl0:al0.length<=1:=by rw[hal0];simp
  refine Ek 0 (λm fe Z=>fe 2=vi h/\fe 7=vl l/\fe 9=.ptr (σ.next+1) 0/\fe 16=.ptr (σ.next+3) 0/\fe 17=.ptr (σ.next+4) 0/\σ.next<=Z.low/\σ.next+5<=Z.next/\Z.heap (σ.next+1)=.cells (DZ.e p) 58 43 (σ.next+1)/\Z.heap (σ.next+3)=.cells cs3 160 67 (σ.next+3)/\
    ∃ (i:Nat) (av:VV),fe 20=vi i/\m+i=F.asked.length/\Z.heap (σ.next+4)=.cells (DZ.e { s with clock:=s.clock+1 }++[av,.v (.slice none 0 0),vb false,vi 0,.v (.slice none 0 0),vi C.node,vi C.handler,vi C.count,vl F.vars,vl F.acts,vi k,vb sp,vl F.covered,vl F.asked,vl F.covered]) 160 67 (σ.next+4)/\FT Z σ.next (GB av (al0++E2 l C (F.asked.take i))::[GB (.v (.slice none 0 0)) ([]:List GF),GB (.v (.slice none 0 0)) ([]:List Int)]))
   (λfe Z=>fe 2=vi h/\fe 9=.ptr (σ.next+1) 0/\fe 16=.ptr (σ.next+3) 0/\fe 17=.ptr (σ.next+4) 0/\σ.next<=Z.low/\σ.next+5<=Z.next/\Z.heap (σ.next+1)=.cells (DZ.e p) 58 43 (σ.next+1)/\Z.heap (σ.next+3)=.cells cs3 160 67 (σ.next+3)/\
    ∃ (av:VV),Z.heap (σ.next+4)=.cells (DZ.e { s with clock:=s.clock+1 }++[av,.v (.slice none 0 0),vb false,vi 0,.v (.slice none 0 0),vi C.node,vi C.handler,vi C.count,vl F.vars,vl F.acts,vi k,vb sp,vl F.covered,vl F.asked,vl F.covered]) 160 67 (σ.next+4)/\FT Z σ.next (GB av (al0++E2 l C F.asked)::[GB (.v (.slice none 0 0)) ([]:List GF),GB (.v (.slice none 0 0)) ([]:List Int)])) F.asked.length ?_ ?_ ?_
  ·refine Zy0 ?_
   refine⟨lA,nA,y1,y3,0,(.v (.slice none 0 0)),rfl,dO,y4,?_⟩;rw[A6,show E2 l C []=[] from rfl,AP];exact own0
  ·rintro m fe Z ⟨f2,f7,f9,f16,f17,hlo,hn,z1,z3,i,av,f20,hm,z4,own⟩
   have a1:App Z σ.next av (al0++E2 l C (F.asked.take i)):=own.app iN;have va1:=λm=>a1.all m
   have vc1:=a1.cs;have hdl:=Tj l C (F.asked.take i);rw[As] at hdl;have ne:=rh (σ.next+1) (σ.next+3) (σ.next+4) (Z.next) dO
   (repeat' (first | refine Zz0 (KY l (C.q 1 i) (F.asked[i]' dO) hl (fl4 _ (Ao _))) λgn=>?_ | refine Zb (λ_ gd=>?_) λ_ gd=>?_ | refine ZE trivial [(⟨C.q 1 i,F.asked[i]' dO,EJ l (C.q 1 i) (F.asked[i]' dO)⟩:Ask)] ?_ | simp +decide only[↓Em,wA,↓reduceIte,Nat.reduceAdd,Nat.reduceLeDiff,D0,ne,f2,f7,f9,f16,f17,f20,z1,z3,z4,JO,Ad,Nat.reduceSub] | ((with_reducible refine Ih ?_ ?_ ?_ ?_);(omega);(omega);(rfl)) | ((with_reducible refine HK ?_ ?_ ?_);(omega);(decide)) | fail))
   ·have hi:i < F.asked.length:=dO
    refine D5.La (l:=al0++E2 l C (F.asked.take i)) (m:=[(⟨C.q 1 i,F.asked[i],EJ l (C.q 1 i) F.asked[i]⟩:Ask)]) [] _ (own.D8 ah0 (λt ht _=>by simp only[D1.Eg,lW];rw[if_neg dO]<;>rfl)) (EN _ _ _ rfl) rfl (by unfold reach;simp only[Ad,Ag,Ap];omega) iF ah0 (λra gn2 lo2 lv2 gown g1 g2 g3=>?_);have gA:App _ σ.next ra ((al0++E2 l C (F.asked.take i))++[(⟨C.q 1 i,F.asked[i],EJ l (C.q 1 i) F.asked[i]⟩:Ask)]):=gown.app iN;have gra:=λm=>gA.all m
    have grc:=gA.cs;simp only[lW] at g1 g2
    (repeat' (first | simp +decide only[↓Em,wA,↓reduceIte,Nat.reduceAdd,Nat.reduceLeDiff,D0,ne,f2,f7,f9,f16,f17,f20,z1,z3,z4,gra,grc,↓IU,Ad,Nat.reduceSub]))
    refine⟨m - 1,dO,dO,dO,i+1,ra,Hr hi dO,dO,rfl,?_⟩;rw[QS _ _ _ _ hi,<- AU];exact gown.D8 ah0 (λ_ _ _=>rfl)
   ·rw[Aj dO] at own
    exact⟨hlo,hn,av,rfl,own⟩
  ·rintro fe Z ⟨f2,f9,f16,f17,hlo,hn,z1,z3,av,z4,own⟩
   have a1:App Z σ.next av (al0++E2 l C F.asked):=own.app iN;have va1:=λm=>a1.all m
   have vc1:=a1.cs;have gfa:=a1.fg;have hcntG:∀ x:FZ,((DZ.e x).drop (8+h)).take 1=[vi (x.counts h)]:=λx=>HF x h dO
   have hputG:∀ (x:FZ) (L:List VV) (y:Int),D0 (DZ.e x++L) (8+h) [vi y]=DZ.e { x with counts:=FG x.counts h y }++L:=λx L y=>by
    rw[H6 _ _ _ _ (by simp only[Ag,Ap];omega),Kw _ _ dO]
   have cc2:(8+(h+1)<=67)=True:=eq_true dO;have wk:G0 (s.counts h+1)=s.counts h+1:=Er dO dO;have hF2:=N9 hp hh hvl hvs hnm' (an:=Ik l C) (λi k k1 k2=>by
    have h0:=Bf k (HD l (C.q 1 i));have h1:=A2 (GH l (C.q 1 i)) (show 0 < k by omega);show D2 ((GH l (C.q 1 i)).tmod k)
    unfold D2;omega)
   rw[<- hF] at hF2;have hdur:=hp.dur;have hvol2:=hp.vol;have hv16:=hp.vars;have htk:(F.vars.drop p.durable.toNat).take 16=F.vars.drop p.durable.toNat:=Aj (by rw[AI];omega);have ne:=mg (σ.next+1) (σ.next+3) (σ.next+4) dO
   (repeat' (first | refine Zz0 (VD.I3 (λσ=>UX (F.vars.drop p.durable.toNat) 16 (by rw[AI];omega) σ)) λgn=>?_ | simp +decide only[↓Em,wA,↓reduceIte,Nat.reduceAdd,Nat.reduceLeDiff,↓K9,ne,↓hputG,hcntG,wk,htk,cc2,f2,f9,f17,z1,z4,Rm,JO,↓H6,Ad,Nat.reduceSub,cc1] | ((with_reducible refine Kx ?_ ?_ ?_);(omega);(omega)) | ((with_reducible refine Wx ?_ ?_ ?_ ?_);(omega);(omega);(rfl)) | fail))
   obtain⟨R0,hR0⟩:∃ R0:LB,R0=⟨{ s with clock:=s.clock+1,counts:=FG s.counts h (s.counts h+1),vol:=F.vars.drop p.durable.toNat },al0++E2 l C F.asked,[],false,0,[],C,F.covered⟩:=⟨_,rfl⟩
   refine Hw (λB hB=>?_);have nB:σ.next+5<=B.next:=by rw[hB];simp +decide only[wsU];omega
   have lB:σ.next<=B.low:=by rw[hB];simp only[lW];omega
   have b3:B.heap (σ.next+3)=.cells cs3 160 67 (σ.next+3):=by rw[hB];simp +decide only[wA,↓reduceIte,ne,z3]
   have b4:B.heap (σ.next+4)=.cells (DZ.e R0.s++[av,.v (.slice none 0 0),vb false,vi 0,.v (.slice none 0 0),vi C.node,vi C.handler,vi C.count,vl F.vars,vl F.acts,vi k,vb sp,vl F.covered,vl F.asked,vl F.covered]) 160 67 (σ.next+4):=by rw[hB,hR0];simp +decide only[wA,↓reduceIte]
   have ownB:FT B σ.next [GB (.v (.slice none 0 0)) ([]:List GF),GB (.v (.slice none 0 0)) ([]:List Int)]:=((FT.nil _ _).Gr (α:=Int)).Gr (α:=GF);clear hB;have hI0:VE R0 0 (al0++E2 l C F.asked) C F.covered:=by rw[hR0];exact⟨hd,htim,Af _,Af _,rfl,rfl,rfl⟩
   have oav:One av:=⟨vc1,va1⟩
   refine Ek 2 (λm fe Z=>fe 16=.ptr (σ.next+3) 0/\fe 17=.ptr (σ.next+4) 0/\σ.next<=Z.low/\σ.next+5<=Z.next/\Z.heap (σ.next+3)=.cells cs3 160 67 (σ.next+3)/\
     ∃ (i:Nat) (sv fv:VV),fe 22=vi i/\m+i=F.acts.length/\Z.heap (σ.next+4)=.cells (DZ.e ((F.acts.take i).foldl Fq R0).s++[av,sv,vb ((F.acts.take i).foldl Fq R0).replied,vi ((F.acts.take i).foldl Fq R0).value,fv,vi C.node,vi C.handler,vi C.count,vl F.vars,vl F.acts,vi k,vb sp,vl F.covered,vl F.asked,vl F.covered]) 160 67 (σ.next+4)/\FT Z σ.next [GB sv ((F.acts.take i).foldl Fq R0).sent,GB fv ((F.acts.take i).foldl Fq R0).fails])
    (λfe Z=>fe 16=.ptr (σ.next+3) 0/\fe 17=.ptr (σ.next+4) 0/\σ.next<=Z.low/\σ.next+5<=Z.next/\Z.heap (σ.next+3)=.cells cs3 160 67 (σ.next+3)/\
     ∃ (sv fv:VV),Z.heap (σ.next+4)=.cells (DZ.e (F.acts.foldl Fq R0).s++[av,sv,vb (F.acts.foldl Fq R0).replied,vi (F.acts.foldl Fq R0).value,fv,vi C.node,vi C.handler,vi C.count,vl F.vars,vl F.acts,vi k,vb sp,vl F.covered,vl F.asked,vl F.covered]) 160 67 (σ.next+4)/\FT Z σ.next [GB sv (F.acts.foldl Fq R0).sent,GB fv (F.acts.foldl Fq R0).fails]) F.acts.length ?_ ?_ ?_
   ·refine Zl (J2 f16 f17) ?_
    refine⟨lB,nB,b3,0,.v (.slice none 0 0),.v (.slice none 0 0),rfl,dO,?_,?_⟩
    ·rw[A6,CL,b4,hR0]
    ·rw[A6,CL,hR0];exact ownB
   ·rintro m fe Z ⟨f16,f17,hlo,hn,z3,i,sv,fv,f22,hm,z4,own⟩
    have hI:=MA hI0 (F.acts.take i);obtain⟨Ri,hRi⟩:∃ Ri,Ri=(F.acts.take i).foldl Fq R0:=⟨_,rfl⟩
    rw[<- hRi] at hI z4 own;have hIs:=hI.sent;have hIf:=hI.fails;rw[As] at hIs hIf;have a1:App Z σ.next sv Ri.sent:=own.app iN;have a2:App Z σ.next fv Ri.fails:=own.app iN;have va1:=λm=>a1.all m
    have vc1:=a1.cs;have va2:=λm=>a2.all m
    have vc2:=a2.cs;have oa:=oav.1;have ob:=oav.2;have ne:=mg (σ.next+3) (σ.next+4) (Z.next) dO
    (repeat' (first | refine Zb (λ_ gd=>?_) λ_ gd=>?_ | simp +decide only[↓Em,wA,↓reduceIte,Nat.reduceAdd,Nat.reduceLeDiff,f16,f17,f22,z3,z4,JO,KZ,Ad,Nat.reduceSub] | ((with_reducible refine Ih ?_ ?_ ?_ ?_);(omega);(omega);(rfl)) | ((with_reducible refine HK ?_ ?_ ?_);(omega);(decide)) | fail))
    ·have hi:i < F.acts.length:=dO
     have hcall:=λτ hτ oτ=>YR Ri.s hI.disk hI.tim F.acts[i] av sv Ri.replied Ri.value fv C (vl F.vars) (vl F.acts) (vi k) (vb sp) (vl F.covered) (vl F.asked) (vl F.covered) Ri.sent Ri.fails σ.next τ hτ oτ oav (GY _) (GY _) (Th _) (Ti _) (GY _) (GY _) (GY _) dO dO _ rfl
     unfold JP at hcall;refine Ey.any (hcall _ (by (try simp only[lW]);omega) (own.D8 (by (try simp only[lW]);omega) (λ_ _ _=>rfl))) ?_;rintro v H ⟨w1,sv',fv',rfl,w2,w3⟩ nH _;rw[show Fq ⟨Ri.s,[],Ri.sent,Ri.replied,Ri.value,Ri.fails,C,[]⟩ F.acts[i]=Fq ⟨Ri.s,[],Ri.sent,Ri.replied,Ri.value,Ri.fails,Ri.cause,[]⟩ F.acts[i] by rw[hI.cause]] at w2 |-;obtain⟨j1,j2,j3,j4,j5⟩:=U0 Ri F.acts[i];rw[<- j1,<- j3,<- j4];rw[<- j2,<- j5] at w2;have hR1:(F.acts.take (i+1)).foldl Fq R0=Fq Ri F.acts[i]:=by rw[PK _ _ _ _ hi,<- hRi]
     rw[<- hR1] at w2 |-;obtain⟨RI,hRI⟩:∃ RI,RI=(F.acts.take (i+1)).foldl Fq R0:=⟨_,rfl⟩
     rw[<- hRI] at w2 |-;have k3:(Z.join H).heap (σ.next+3)=_:=(w3 (σ.next+3) dO).trans z3;have k4:(Z.join H).heap (σ.next+4)=_:=(w3 (σ.next+4) dO).trans z4;have nW:Z.next<=(Z.join H).next:=nH;have lW:σ.next<=(Z.join H).low:=by show _<=min _ _;omega
     have w2:FT (Z.join H) σ.next [GB sv' RI.sent,GB fv' RI.fails]:=w2.D8 (Af _) (λ_ _ _=>rfl);clear w3
     revert k3 k4 nW lW w2
     generalize Z.join H=W;intro k3 k4 nW lW w2;have a3:App W σ.next sv' RI.sent:=w2.app iN;have a4:App W σ.next fv' RI.fails:=w2.app iN;have va3:=λm=>a3.all m
     have vc3:=a3.cs;have va4:=λm=>a4.all m
     have vc4:=a4.cs
     (repeat' (first | simp +decide only[↓Em,wA,↓reduceIte,Nat.reduceAdd,Nat.reduceLeDiff,D0,ne,f16,f17,f22,k3,k4,va3,va4,ob,JO,Et,Ad,Nat.reduceSub]))
     exact⟨m - 1,dO,lW,dO,i+1,sv',fv',Hr hi dO,dO,by rw[<- hRI],by rw[<- hRI];exact w2.D8 (Af _) (λ_ _ _=>rfl)⟩
    ·rw[Aj dO] at hRi
     rw[<- hRi];exact⟨hlo,hn,sv,fv,rfl,own⟩
   ·rintro fe Z ⟨f16,f17,hlo,hn,z3,sv,fv,z4,own⟩
    have hI:=MA hI0 F.acts;obtain⟨Rn,hRn⟩:∃ Rn,Rn=F.acts.foldl Fq R0:=⟨_,rfl⟩
    rw[<- hRn] at hI z4 own;have hout:FR s p h self nodes drift nm l=Rn:=by
     have hdr0:¬ 0 < drift:=IF
     rw[Tk,hRn,hF,hR0,Aao,if_neg hdr0,if_neg hdr0,DV,hal0,hF,hC]
    have a1:App Z σ.next sv Rn.sent:=own.app iN;have a2:App Z σ.next fv Rn.fails:=own.app iN;have va1:=λm=>a1.all m
    have vc1:=a1.cs;have va2:=λm=>a2.all m
    have vc2:=a2.cs;have oa:=oav.1;have ob:=oav.2;have gf1:=a1.fg;have hd67:cs3.drop 67=[]:=Bj dO;have gf2:=a2.fg;have ne:=mg (σ.next+3) (σ.next+4) (Z.next) dO
    (repeat' (first | simp +decide only[↓Em,wA,↓reduceIte,Nat.reduceAdd,D0,f16,f17,z3,z4,va1,va2,ob,KZ,hcs3,hd67,Et,Ad]))
    refine⟨by first | assumption | omega,?_⟩;rw[hout];refine⟨vl F.vars,vl F.acts,vi k,vb sp,vl F.covered,vl F.asked,?_,GY _,GY _,Th _,Ti _,GY _,GY _⟩;simp only[AX,gfa,gf1,gf2,JP,hI.asks,hI.cause,hI.cov,fG]
end
def Aap(x:Value):(th x).fg=th x:=by
 unfold th;split
 ·rw[VV.fg];rfl
 ·rename_i h
  rw[VV.fg];unfold th;split
  ·exact absurd rfl (λe=>h e)
  ·rfl
def U1:∀ v:VV,v.fg.fg=v.fg
 | .Ie n xs=>by
  rw[VV.fg,VV.fg,BN];exact congrArg _ (BM λx hx=>U1 x)
 | .own z n xs t=>by
  rw[VV.fg,VV.fg,BN];exact congrArg _ (BM λx hx=>U1 x)
 | .agg xs=>by
  rw[VV.fg,VV.fg,BN];exact congrArg _ (BM λx hx=>U1 x)
 | .tup xs=>by
  rw[VV.fg,VV.fg,BN];exact congrArg _ (BM λx hx=>U1 x)
 | .v x=>by rw[VV.fg,Aap]
 | .ptr id o=>by rw[VV.fg,VV.fg]
 | .slice id o n c=>by rw[VV.fg,VV.fg]
 | .ep xs o=>by rw[VV.fg,VV.fg]
 | .fn f a b=>by rw[VV.fg,VV.fg]
 | .yield id=>by rw[VV.fg,VV.fg]
 | .map id=>by rw[VV.fg,VV.fg]
 | .iface t x=>by rw[VV.fg,VV.fg]
 | .Fy=>by rw[VV.fg,VV.fg]
def Ey.fzP{P:Program}[Prim P]{σ:D1}{f:FuncId}{args args2:List VV}{R:VV->Prop}{K:VV->D1->Bool->Prop}{id z q:Nat}{cs:List VV}{t:TypeId}(hg:σ.heap id=.cells cs t z q)(ha:(args.map (Gm id z cs)).map VV.fg=args2)(h:∀ τ,VC P f args2 τ (λr σ'=>τ.next<=σ'.low/\R r.fg))
  (hq:∀ v σ',R v->v.fg=v->σ.next<=σ'.next->min σ.low id<=σ'.low->(∀ j,j < σ.next->j≠id->σ'.heap j=σ.heap j)->K v σ' false):@Ey P _ f args ⟨((false,false),σ,K)⟩:=by
 show Z4 P (false,false) (.func f) args σ K
 have h0:VG P (.func f) (args.map (Gm id z cs)) (σ.freeze id) (λr σ'=>(σ.freeze id).next<=σ'.low/\R r/\r.fg=r):=by
  refine VG.mono (VG.ju (VC.fg (by rw[<- ha];exact UF.map _) (h (σ.freeze id)))) ?_;rintro v σ' ⟨v0,rfl,h1,h2⟩;exact⟨h1,h2,U1 _⟩
 have h1:=VG.YS h0;intro S args' a1 a2;obtain⟨f1,f2,f3⟩:=a1.freeze hg;refine XG.mono (h1 S args' f1 ⟨by rw[AJ];exact a2.1,λi b1 b2=>by rw[AZ];exact (a2.2 i (by rw[AJ] at b1;exact b1) b2).fz a1 hg⟩) ?_;rintro v' S' ⟨v,τ,k1,k2,k3,n,⟨hr,hfg⟩,hlow,rfl⟩;have t1:=f2.trans k2.join;refine⟨v,_,k1.join,⟨t1.next,t1.still,An t1.low a1.low,t1.D8⟩,k3,false,λh=>(by cases h),λh=>(by cases h),?_⟩;rw[D1.Ns hlow,D1.Pm];refine hq v _ hr hfg (AQ _ _) ?_ (λj hj hne=>?_)
 ·show _<=min σ.low (min σ.low id);omega
 ·show (σ.freeze id).heap j=_
  exact Ec _ _ _ hne
def Lb(a:FZ)(v w:VV):List VV:=[vb a.up,vi a.version,vi a.epoch,vi a.clock]++(DZ.e a.disk++([v,w]++(Gz 41 a.counts++([vi a.waiting,vi a.dropped,vi a.doubled]))))
def Kz(a:FZ)(v w:VV):(Lb a v w).length=52:=by unfold Lb;simp only[Ad,Eo,DZ.len,Ag,Ap];rfl
def mh(a:FZ)(v w:VV):(Lb a v w).take 52=Lb a v w:=Aj (by rw[Kz];exact Af _)
def Wz(a:FZ)(id n m:Nat):D0 (DZ.e a) 6 [.slice id 0 n m]=Lb a (.slice id 0 n m) (vl a.timers):=rfl
def YT(a:FZ)(v w x:VV):D0 (Lb a v w) 7 [x]=Lb a v x:=rfl
def U2(a:FZ)(v w:VV)(x:Int):D0 (Lb a v w) 49 [vi x]=Lb { a with waiting:=x } v w:=rfl
def jv(a:FZ)(v w:VV)(x:Bool):D0 (Lb a v w) 0 [vb x]=Lb { a with up:=x } v w:=rfl
section
variable [Prim Tryz.prog]
def wb(a:FZ)(id:Nat)(l:List Int):((Lb a (.slice id 0 l.length l.length) (.v (.slice none 0 0))).map (Gm id 1 (D4 l))).map VV.fg=DZ.e { a with vol:=l,timers:=[] }:=by
 have q0:Gm id 1 (D4 l) (.slice id 0 l.length l.length)=vl l:=UY _ _ _ _ (by rw[Ha];omega);have i1:∀ n:Int,Gm id 1 (D4 l) (vi n)=vi n:=λn=>by rw[Gm]
 have i2:∀ n:Bool,Gm id 1 (D4 l) (vb n)=vb n:=λn=>by rw[Gm]
 have i3:Gm id 1 (D4 l) (.v (.slice none 0 0))=.v (.slice none 0 0):=by rw[Gm]
 have i4:(Gz 41 a.counts).map (Gm id 1 (D4 l))=Gz 41 a.counts:=by
  unfold Gz;rw[BN];exact BM λx _=>i1 _
 have i5:(DZ.e a.disk).map (Gm id 1 (D4 l))=DZ.e a.disk:=by
  show [Gm id 1 (D4 l) (vl a.disk.cells),Gm id 1 (D4 l) (vl a.disk.pending)]=_
  unfold vl;rw[Gm,Gm];rfl
 unfold Lb;simp only[AX,q0,i1,i2,i3,i4,i5,No,fG];rfl
def Tl(a:FZ)(id n:Nat):((Lb a (.slice id 0 n n) (.v (.slice none 0 0))).map (Gm id 1 (D4 (List.replicate n (0:Int))))).map VV.fg=DZ.e { a with vol:=List.replicate n 0,timers:=[] }:=by
 have:=wb a id (List.replicate n 0)
 rwa [AS] at this
def gx(id z:Nat)(cs:List VV)(xs:List VV):Gm id z cs (.agg xs)=.agg (xs.map (Gm id z cs)):=by rw[Gm]
def wg(id z:Nat)(cs:List VV)(x:Value):Gm id z cs (.v x)=.v x:=by rw[Gm]
def rk{α:Type}[DZ α](id z:Nat)(cs:List VV)(l:List α):Gm id z cs (vl l)=vl l:=by unfold vl;rw[Gm]
def Aaq(id z n:Nat)(cs:List VV)(f:Nat->Int):(Gz n f).map (Gm id z cs)=Gz n f:=by
 unfold Gz;rw[BN];exact BM λx _=>by show Gm id z cs (vi _)=_;rw[Gm]
def rl(id z:Nat)(cs:List VV)(a:HW):(DZ.e a).map (Gm id z cs)=DZ.e a:=by
 show ([vl a.code]++(Gz 40 a.entry++[vi a.durable,vi a.volatile])).map (Gm id z cs)=[vl a.code]++(Gz 40 a.entry++[vi a.durable,vi a.volatile])
 simp only[AX,Au,AD,rk,Aaq,wg]
def ml(a:FZ):((DZ.e a).drop 4).take 1=[vl a.disk.cells]:=rfl
def rm(a:FZ):((DZ.e a).drop 5).take 1=[vl a.disk.pending]:=rfl
def gy(d:PG)(n:Nat)(hn:n<=16):F1 (Hs d n):=⟨by unfold Hs;dsimp only;rw[As];omega,AM _,λw hw=>by simp[Hs] at hw⟩
def WA(d:PG)(n:Nat):Gp (Hs d n)=(Gp d++List.replicate (n - (Gp d).length) 0).take n:=rfl
set_option maxHeartbeats 4000000 in
set_option maxRecDepth 100000 in
def gC(s:FZ)(p:HW)(D:List Nat)(hp:Hc p D)(version self nodes drift:Int)(hdr:0<=drift/\drift<=3)(l:List Gy)(hl:l.length<=100000)
  (hd:F1 s.disk) (hds:∀ x∈Gp s.disk,D2 x) (hclk:0<=s.clock/\s.clock<=1000000) (hcnt:0<=s.counts 0/\s.counts 0<=1000000) (hself:D2 self) (hnodes:D2 nodes) (σ:D1) :
  VC Tryz.prog 90 [.agg (DZ.e s),.agg (DZ.e p),vi version,vi self,vi nodes,vi drift,vl l] σ (λr σ'=>σ.next<=σ'.low/\NF (JH s p version self nodes drift l) r.fg):=by
 have hdur:=hp.dur;have hvol2:=hp.vol;have hv16:=hp.vars;have hrs:VD Tryz.prog 116 [.agg (DZ.e s.disk),vi p.durable] (.agg (DZ.e (Hs s.disk p.durable.toNat))):=by
  have:=YL s.disk hd p.durable.toNat dO
  rwa [Ct hdur] at this
 have vm:=λe τ=>xY p.volatile e τ hvol2 dO
 have mk:=λ(a:FZ) n m=>Wz a (σ.next+3) n m
 have tl:=λ(a:FZ) v w=>Kz a v w
 have n0:∀ x:Nat,(0=3+x)=False:=λx=>eq_false dO
 have n1:∀ x:Nat,(1=3+x)=False:=λx=>eq_false dO
 have n2:∀ x:Nat,(2=3+x)=False:=λx=>eq_false dO
 have n3:∀ x:Nat,(3+x=0)=False:=λx=>eq_false dO
 have n4:∀ x:Nat,(3+x=1)=False:=λx=>eq_false dO
 have n5:∀ x:Nat,(3+x=2)=False:=λx=>eq_false dO
 have hcall:∀ d:PG,F1 d->(d.cells.length:Int)=p.durable->(∀ x∈Gp d,D2 x)->∀ τ,VC Tryz.prog 117 [.agg (DZ.e { s with up:=true,version:=version,disk:=d,vol:=List.replicate p.volatile.toNat 0,timers:=[],waiting:=-1 }),.agg (DZ.e p),vi (0:Nat),vi self,vi nodes,vi drift,.agg (Gz 9 λ_=>0),vl l] τ (λr σ'=>τ.next<=σ'.low/\NF (FR { s with up:=true,version:=version,disk:=d,vol:=List.replicate p.volatile.toNat 0,timers:=[],waiting:=-1 } p 0 self nodes drift (λ_=>0) l) r.fg):=by
  intro d h1 h2 h3 τ;have hz:D2 0:=by unfold D2;omega
  refine QT { s with up:=true,version:=version,disk:=d,vol:=List.replicate p.volatile.toNat 0,timers:=[],waiting:=-1 } p D hp 0 iF self nodes drift hdr _ l hl h1 iN (by simp only[AS];omega) ?_ ?_ hclk hcnt hself hnodes (λ_ _=>hz) τ
  ·unfold GK Gp
   rw[Ad,F2];show ((d.cells.length+(List.replicate p.volatile.toNat (0:Int)).length:Nat):Int)=_;rw[AS];omega
  ·intro x hx
   rcases Aw.mp hx with hx | hx
   ·exact h3 x hx
   ·rw[(CV.mp hx).2];exact hz
 refine Ea XF90 ?_
 (repeat' (first | refine Zz0 hrs λgn=>?_ | refine Zb (λ_ gd=>?_) λ_ gd=>?_ | simp +decide only[↓Em,wA,↓reduceIte,Nat.reduceAdd,Nat.reduceLeDiff,↓K9,xf90,vm,ml,↓Wz,↓YT,↓U2,↓jv,n1,n3,mh,Kz,Pl,↓Jr] | fail))
 ·refine Ey.fzP (id:=σ.next+(3+gn)) (z:=1) (t:=3) (q:=σ.next+(3+gn)) (cs:=D4 (List.replicate p.volatile.toNat (0:Int))) (by simp +decide only[wA,↓reduceIte,Nat.reduceAdd,n3]) ?_ (hcall (Hs s.disk p.durable.toNat) (gy _ _ dO) ?_ ?_) (λv σ' hv hvf hn hlow hh=>?_)
  ·simp only[gx,wg,rk,rl,Tl,fG]
   rfl
  ·unfold Hs
   rw[As,Ad,AS];omega
  ·intro x hx
   rw[WA] at hx;rcases Aw.mp (Bm hx) with hx | hx
   ·exact hds x hx
   ·rw[(CV.mp hx).2];unfold D2;omega
  ·have hk:=hh (σ.next+2) ah0 dO
   simp +decide only[wA,↓reduceIte,Nat.reduceAdd,n2] at hk;have hn3:σ.next+(3+gn) < σ'.next:=by simp only[lW] at hn;omega
   have hlo:σ.next<=σ'.low:=by simp only[lW] at hlow;omega
   obtain⟨o1,o2,o3,o4,o5,o6,rfl,⟨c1,d1⟩,⟨c2,d2⟩,⟨c3,d3⟩,⟨c4,d4⟩,⟨c5,d5⟩,⟨c6,d6⟩⟩:=hv;have hvf2:=hvf;unfold JP at hvf |-
   (repeat' (first | simp +decide only[↓Em,wA,↓reduceIte,Nat.reduceAdd,D0,hk,KZ,Et,Ad,d1,d2,d3,d4,d5,d6,hvf]))
   refine⟨hlo,?_⟩;rw[show JH s p version self nodes drift l=FR { s with up:=true,version:=version,disk:=Hs s.disk p.durable.toNat,vol:=List.replicate p.volatile.toNat 0,timers:=[],waiting:=-1 } p 0 self nodes drift (λ_=>0) l by unfold JH;rw[if_neg IF]];exact⟨o1,o2,o3,o4,o5,o6,rfl,⟨c1,d1⟩,⟨c2,d2⟩,⟨c3,d3⟩,⟨c4,d4⟩,⟨c5,d5⟩,⟨c6,d6⟩⟩
 ·refine Ey.fzP (id:=σ.next+3) (z:=1) (t:=3) (q:=σ.next+3) (cs:=D4 (List.replicate p.volatile.toNat (0:Int))) (by simp +decide only[wA,↓reduceIte,Nat.reduceAdd]) ?_ (hcall s.disk hd ?_ hds) (λv σ' hv hvf hn hlow hh=>?_)
  ·simp only[gx,wg,rk,rl,Tl,fG]
   rfl
  ·exact Decidable.not_not.mp IF
  ·have hk:=hh (σ.next+2) ah0 dO
   simp +decide only[wA,↓reduceIte,Nat.reduceAdd] at hk;have hn3:σ.next+3 < σ'.next:=by simp only[lW] at hn;omega
   have hlo:σ.next<=σ'.low:=by simp only[lW] at hlow;omega
   obtain⟨o1,o2,o3,o4,o5,o6,rfl,⟨c1,d1⟩,⟨c2,d2⟩,⟨c3,d3⟩,⟨c4,d4⟩,⟨c5,d5⟩,⟨c6,d6⟩⟩:=hv;have hvf2:=hvf;unfold JP at hvf |-
   (repeat' (first | simp +decide only[↓Em,wA,↓reduceIte,Nat.reduceAdd,D0,hk,KZ,Et,Ad,d1,d2,d3,d4,d5,d6,hvf]))
   refine⟨hlo,?_⟩;rw[show JH s p version self nodes drift l=FR { s with up:=true,version:=version,disk:=s.disk,vol:=List.replicate p.volatile.toNat 0,timers:=[],waiting:=-1 } p 0 self nodes drift (λ_=>0) l by unfold JH;rw[if_pos (Decidable.not_not.mp IF)]];exact⟨o1,o2,o3,o4,o5,o6,rfl,⟨c1,d1⟩,⟨c2,d2⟩,⟨c3,d3⟩,⟨c4,d4⟩,⟨c5,d5⟩,⟨c6,d6⟩⟩
end
section
variable [Prim Tryz.prog]
def KA(l:List Gy)(c:Hy)(n:Nat):List Ask:=(List.range n).map λ(i:Nat)=>(⟨c.q 3 i,2,EJ l (c.q 3 i) 2⟩:Ask)
def Ic(l:List Gy)(c:Hy)(n:Nat):List Bool:=(List.range n).map λ(i:Nat)=>decide (EJ l (c.q 3 i) 2=1)
def gD(l:List Gy)(c:Hy)(n:Nat):KA l c (n+1)=KA l c n++[(⟨c.q 3 n,2,EJ l (c.q 3 n) 2⟩:Ask)]:=by unfold KA;rw[CW,AX];rfl
def YU(l:List Gy)(c:Hy)(n:Nat):Ic l c (n+1)=Ic l c n++[decide (EJ l (c.q 3 n) 2=1)]:=by unfold Ic;rw[CW,AX];rfl
def mn(l:List Gy)(c:Hy)(n:Nat):(KA l c n).length=n:=by unfold KA;simp
def Tm(l:List Gy)(c:Hy)(n:Nat):(Ic l c n).length=n:=by unfold Ic;simp
def gE(l:List Gy)(c:Hy)(n:Nat):(KA l c n).map (λa=>decide (a.n=1))=Ic l c n:=by unfold KA Ic;rw[BN];rfl
def wh(s:FZ)(v w:VV)(L x:List VV)(o:Nat)(h:o+x.length<=52):D0 (Lb s v w++L) o x=D0 (Lb s v w) o x++L:=by
 unfold D0;rw[A9 (by rw[Kz];omega),By (by rw[Kz];omega)];simp only[AU]
def AbZ(s:FZ)(v w:VV)(L:List VV)(h:L.length<=15):(Lb s v w++L).take 67=Lb s v w++L:=Aj (by rw[Ad,Kz];omega)
def rn(a:FZ)(id n m:Nat):FE (Lb a (.slice id 0 n m) (.v (.slice none 0 0)))=true:=by
 have h:∀ L:List VV,FE (VV.slice id 0 n m::L)=FE L:=λL=>Av rfl rfl
 unfold Lb;simp only[Et,Cv,Ba,h,EM,DZ.all,Ia,G5,Cs]
set_option maxHeartbeats 4000000 in
set_option maxRecDepth 100000 in
def gG(s:FZ)(self:Int)(l:List Gy)(hl:l.length<=100000)(hd:F1 s.disk)(hvol:s.vol.length<=16)(hcnt:0<=s.counts 40/\s.counts 40<=1000000)(hep:0<=s.epoch/\s.epoch<=1000000)(σ:D1) :
  VC Tryz.prog 96 [.agg (DZ.e s),vi self,vl l] σ (λr σ'=>σ.next<=σ'.low/\∃ (id:Nat) (t:TypeId) (q:Nat) (av:VV),σ.next<=id/\σ'.heap id=.cells (D4 (List.replicate s.vol.length (0:Int))) t 1 q/\
   r=.agg (Lb { s with disk:=PI s.disk (Ic l ⟨self,40,s.counts 40⟩ s.disk.pending.length),counts:=FG s.counts 40 (s.counts 40+1),epoch:=s.epoch+1,waiting:=-1,up:=false } (.slice id 0 s.vol.length s.vol.length) (.v (.slice none 0 0))++JP av (.v (.slice none 0 0)) false 0 (.v (.slice none 0 0)) ⟨self,40,s.counts 40⟩ (.v (.slice none 0 0)) (.v (.slice none 0 0)) (vi 0) (vb false) (.v (.slice none 0 0)) (.v (.slice none 0 0)) (.v (.slice none 0 0)))/\
   App σ' σ.next av (KA l ⟨self,40,s.counts 40⟩ s.disk.pending.length)):=by
 obtain⟨C,hC⟩:∃ C:Hy,C=⟨self,40,s.counts 40⟩:=⟨_,rfl⟩
 have hp4:=hd.pend;have hcnt0:((DZ.e s).drop 48).take 1=[vi (s.counts 40)]:=HF s 40 iF;have hcntG:∀ x:FZ,((DZ.e x).drop 48).take 1=[vi (x.counts 40)]:=λx=>HF x 40 iF
 have hputG:∀ (x:FZ) (L:List VV) (y:Int),D0 (DZ.e x++L) 48 [vi y]=DZ.e { x with counts:=FG x.counts 40 y }++L:=λx L y=>by
  rw[H6 _ _ _ _ (by simp only[Ag,Ap];omega),show (48:Nat)=8+40 from rfl,Kw _ _ iF]
 have wk:G0 (s.counts 40+1)=s.counts 40+1:=Er dO dO;have we:G0 (s.epoch+1)=s.epoch+1:=Er dO dO;have vm:=λe τ=>Ab0 s.vol e τ dO
 refine Ea XF96 ?_
 (repeat' (first | simp +decide only[↓Em,wA,↓reduceIte,Nat.reduceAdd,Nat.reduceLeDiff,D0,Int.reduceToNat,xf96,hcnt0,↓IU,EI,Et,Ad,Nat.reduceSub] | ((with_reducible refine Kx ?_ ?_ ?_);(omega);(omega))))
 refine Hw (λA hA=>?_);have nA:σ.next+3<=A.next:=by rw[hA];simp +decide only[wA,Nat.reduceAdd]<;>omega
 have lA:σ.next<=A.low:=by rw[hA];simp only[lW];omega
 have y0:A.heap σ.next=.cells (DZ.e s) 124 52 σ.next:=by rw[hA];simp +decide only[wA,↓reduceIte,Nat.reduceAdd]
 have y1:∃ cs:List VV,cs.length=67/\A.heap (σ.next+1)=.cells cs 160 67 (σ.next+1):=by
  refine⟨_,?_,by rw[hA];simp +decide only[wA,↓reduceIte,Nat.reduceAdd];rfl⟩;rfl
 have y2:A.heap (σ.next+2)=.cells (DZ.e s++JP (.v (.slice none 0 0)) (.v (.slice none 0 0)) false 0 (.v (.slice none 0 0)) C (.v (.slice none 0 0)) (.v (.slice none 0 0)) (vi 0) (vb false) (.v (.slice none 0 0)) (.v (.slice none 0 0)) (.v (.slice none 0 0))) 160 67 (σ.next+2):=by
  rw[hA,hC];simp +decide only[wA,↓reduceIte,JP]
 have own0:FT A σ.next [GB (.v (.slice none 0 0)) ([]:List Ask),GB (.v (.slice none 0 0)) ([]:List Bool)]:=((FT.nil _ _).Gr (α:=Bool)).Gr (α:=Ask);clear hA;obtain⟨s7,hcs1,y1⟩:=y1;unfold JP at y2;obtain⟨N,hN⟩:∃ N,N=s.disk.pending.length:=⟨_,rfl⟩
 refine Ek 0 (λm fe Z=>fe 2=vl l/\fe 3=.ptr σ.next 0/\fe 6=.ptr (σ.next+1) 0/\fe 7=.ptr (σ.next+2) 0/\σ.next<=Z.low/\σ.next+3<=Z.next/\Z.heap σ.next=.cells (DZ.e s) 124 52 σ.next/\Z.heap (σ.next+1)=.cells s7 160 67 (σ.next+1)/\∃ (i:Nat) (av kv:VV),fe 9=vi i/\fe 8=kv/\m+i=N/\Z.heap (σ.next+2)=.cells (DZ.e s++[av,.v (.slice none 0 0),vb false,vi 0,.v (.slice none 0 0),vi C.node,vi C.handler,vi C.count,.v (.slice none 0 0),.v (.slice none 0 0),vi 0,vb false,.v (.slice none 0 0),.v (.slice none 0 0),.v (.slice none 0 0)]) 160 67 (σ.next+2)/\FT Z σ.next [GB av (KA l C i),GB kv (Ic l C i)])
  (λfe Z=>fe 3=.ptr σ.next 0/\fe 6=.ptr (σ.next+1) 0/\fe 7=.ptr (σ.next+2) 0/\σ.next<=Z.low/\σ.next+3<=Z.next/\Z.heap σ.next=.cells (DZ.e s) 124 52 σ.next/\Z.heap (σ.next+1)=.cells s7 160 67 (σ.next+1)/\∃ (av kv:VV),fe 8=kv/\Z.heap (σ.next+2)=.cells (DZ.e s++[av,.v (.slice none 0 0),vb false,vi 0,.v (.slice none 0 0),vi C.node,vi C.handler,vi C.count,.v (.slice none 0 0),.v (.slice none 0 0),vi 0,vb false,.v (.slice none 0 0),.v (.slice none 0 0),.v (.slice none 0 0)]) 160 67 (σ.next+2)/\FT Z σ.next [GB av (KA l C N),GB kv (Ic l C N)]) N ?_ ?_ ?_
 ·refine Zy0 ?_
  exact⟨lA,nA,y0,y1,0,_,_,rfl,rfl,dO,y2,own0⟩
 ·rintro m fe Z ⟨f2,f3,f6,f7,hlo,hn,z0,z1,i,av,kv,f9,f8,hm,z2,own⟩
  have a1:App Z σ.next av (KA l C i):=own.app iN;have a2:App Z σ.next kv (Ic l C i):=own.app iN;have va1:=λm=>a1.all m
  have vc1:=a1.cs;have ll1:=mn l C i;have ll2:=Tm l C i;have ne:=rh (σ.next) (σ.next+1) (σ.next+2) (Z.next) dO
  (repeat' (first | refine Zz0 (KY l (C.q 3 i) 2 hl iF) λgn=>?_ | refine Zb (λ_ gd=>?_) λ_ gd=>?_ | refine ZE trivial [(⟨C.q 3 i,2,EJ l (C.q 3 i) 2⟩:Ask)] ?_ | simp +decide only[↓Em,wA,↓reduceIte,Nat.reduceAdd,Nat.reduceLeDiff,D0,ne,<- hN,f2,f3,f6,f7,f8,f9,z0,z1,z2,JO,rm,Ad,Nat.reduceSub] | fail))
  ·refine D5.La (l:=KA l C i) (m:=[(⟨C.q 3 i,2,EJ l (C.q 3 i) 2⟩:Ask)]) [] [GB kv (Ic l C i)] (own.D8 ah0 (λt ht _=>by simp only[D1.Eg,lW];rw[if_neg dO]<;>rfl)) (EN _ _ _ rfl) rfl (by unfold reach;simp only[Ag,Ap];omega) iF ah0 (λra gn2 lo2 lv2 gown g1 g2 g3=>?_)
   have gA:App _ σ.next ra _:=gown.app (v:=ra) (l:=KA l C i++[(⟨C.q 3 i,2,EJ l (C.q 3 i) 2⟩:Ask)]) iN;have gra:=λm=>gA.all m
   have grc:=gA.cs;simp only[lW] at g1 g2
   (repeat' (first | refine ZE trivial [(decide (EJ l (C.q 3 i) 2=1):Bool)] ?_ | simp +decide only[↓Em,wA,↓reduceIte,Nat.reduceAdd,Nat.reduceLeDiff,D0,ne,f7,f8,z2,gra,grc,↓IU,Ad,Nat.reduceSub] | fail))
   refine D5.La (l:=Ic l C i) (m:=[decide (EJ l (C.q 3 i) 2=1)]) [GB ra (KA l C i++[(⟨C.q 3 i,2,EJ l (C.q 3 i) 2⟩:Ask)])] [] (gown.D8 ah0 (λt ht _=>by simp only[lW] at ht;simp only[D1.Eg,lW];first | (rw[if_neg dO]<;>rfl) | rfl)) (EN _ _ _ rfl) rfl (by unfold reach;simp only[Ag,Ap];omega) iF ah0 (λrb gn3 lo3 lv3 gown2 g4 g5 g6=>?_);simp only[lW] at g4 g5
   (repeat' (first | simp +decide only[↓Em,wA,↓reduceIte,ne,f2,f3,f6,f7,f9,z0,z1]))
   refine⟨m - 1,dO,dO,dO,i+1,ra,rb,Hr (show i < N by omega) dO,rfl,dO,rfl,?_⟩;rw[gD,YU];exact gown2.D8 ah0 (λ_ _ _=>rfl)
  ·obtain rfl:i=N:=dO
   exact⟨hlo,hn,av,kv,rfl,rfl,own⟩
 ·rintro fe Z ⟨f3,f6,f7,hlo,hn,z0,z1,av,kv,f8,z2,own⟩
  have a1:App Z σ.next av (KA l C N):=own.app iN;have a2:App Z σ.next kv (Ic l C N):=own.app iN;have va1:=λm=>a1.all m
  have vc1:=a1.cs;have ll2:=Tm l C N;have gk:=a2.fg;have za0:∀ x:Nat,(σ.next=Z.next+x)=False:=λx=>eq_false dO
  have zb0:∀ x:Nat,(Z.next+x=σ.next)=False:=λx=>eq_false dO
  have za1:∀ x:Nat,(σ.next+1=Z.next+x)=False:=λx=>eq_false dO
  have zb1:∀ x:Nat,(Z.next+x=σ.next+1)=False:=λx=>eq_false dO
  have za2:∀ x:Nat,(σ.next+2=Z.next+x)=False:=λx=>eq_false dO
  have zb2:∀ x:Nat,(Z.next+x=σ.next+2)=False:=λx=>eq_false dO
  have hd67:s7.drop 67=[]:=Bj dO;have ne:=rh (σ.next) (σ.next+1) (σ.next+2) (Z.next) dO
  (repeat' (first | simp +decide only[↓Em,wA,↓reduceIte,Nat.reduceAdd,Nat.reduceLeDiff,D0,↓K9,Int.reduceToNat,ne,za1,za2,vm,wk,we,↓Jr,↓hputG,hcntG,↓Wz,↓YT,↓U2,↓jv,↓wh,AbZ,rn,Kz,<- hN,f3,f6,f7,f8,z0,z1,z2,va1,hcs1,hd67,Rm,↓H6,Et,Ad] | ((with_reducible apply Ey.dP);((try simp only[gk,fG]);exact rfl);(first | exact gp s.disk hd (Ic l C N) dO);intro gn) | ((with_reducible refine Kx ?_ ?_ ?_);(omega);(omega))))
  rw[<- hC];refine⟨dO,Z.next+gn,_,_,av,dO,by simp only[zb1,zb2,if_false,if_true];rfl,rfl,a1.D8 ah0 (λ_ _ _=>rfl)⟩
def YV(s:FZ)(self:Int)(l:List Gy)(hl:l.length<=100000)(hd:F1 s.disk)(hvol:s.vol.length<=16)(hcnt:0<=s.counts 40/\s.counts 40<=1000000)(hep:0<=s.epoch/\s.epoch<=1000000)(σ:D1) :
  VC Tryz.prog 96 [.agg (DZ.e s),vi self,vl l] σ (λr σ'=>σ.next<=σ'.low/\NF (GX s self l) r.fg):=by
 refine (gG s self l hl hd hvol hcnt hep σ).fz ?_;rintro v σ' ⟨hlo,id,t,q,av,hid,hg,rfl,ha⟩;refine⟨id,_,t,1,q,hg,by rw[Fj];omega,?_⟩;have h1:=Tl { s with disk:=PI s.disk (Ic l ⟨self,40,s.counts 40⟩ s.disk.pending.length),counts:=FG s.counts 40 (s.counts 40+1),epoch:=s.epoch+1,waiting:=-1,up:=false } id s.vol.length;have h2:=Td ha id 1 (D4 (List.replicate s.vol.length (0:Int)));rw[gx,AX];refine⟨vl ([]:List Int),vl ([]:List Int),vi 0,vb false,vl ([]:List Int),vl ([]:List Int),?_,GY _,GY _,Th _,Ti _,GY _,GY _⟩;rw[VV.fg,AX,h1];unfold JP GX;simp only[h2,ha.fg,wg,fG];rw[<- gE];rfl
def rp:VD Tryz.prog 53 [] (.agg (DZ.e Fl)):=by
 intro σ;refine Ea XF53 ?_
 refine Zl @xf53.eq_1 ?_
 exact rfl
end
def Ma:List Int->List Int->Int
 | [],[]=>0
 | [],_::_=>-1
 | _::_,[]=>1
 | a::l,b::m=>if a < b then -1 else if b < a then 1 else Ma l m
def Qg(a b:List Int)(i:Nat)(ha:i < a.length)(hb:i < b.length):Ma (a.drop i) (b.drop i)=if a[i] < b[i] then -1 else if b[i] < a[i] then 1 else Ma (a.drop (i+1)) (b.drop (i+1)):=by
 rw[A3 ha,A3 hb,Ma]
def YW(a b:List Int)(i:Nat)(ha:i<=a.length)(hb:i<=b.length)(h:i=a.length\/i=b.length):Ma (a.drop i) (b.drop i)=if a.length < b.length then -1 else if b.length < a.length then 1 else 0:=by
 by_cases h1:i < a.length
 ·have h2:i=b.length:=dO
  rw[A3 h1,Bb (show b.length<=i by omega),Ma,if_neg dO,if_pos dO]
 ·by_cases h2:i < b.length
  ·rw[A3 h2,Bb (show a.length<=i by omega),Ma,if_pos dO]
  ·rw[Bb (show b.length<=i by omega),Bb (show a.length<=i by omega),Ma,if_neg dO,if_neg dO]
def Ro(m:KD):List Int:=[m.node,m.handler,m.count,m.index,m.copy]
def WB(e:Fu):List Int:=[e.kind,e.node,e.arg]++Ro e.msg
def Aar(a b:KD):Ma (Ro a) (Ro b) < 0↔RR a b:=by
 unfold Ro RR;simp only[Ma]
 repeat' split
 all_goals omega
def Ab1(a b:Fu):Ma (WB a) (WB b) < 0↔NI a b:=by
 unfold WB NI;simp only[Cv,Ba,Ma];rw[<- Aar];generalize Ma (Ro a.msg) (Ro b.msg)=z
 repeat' split
 all_goals omega
section
variable [Prim Tryz.prog]
set_option maxHeartbeats 1000000 in
def To(a b:List Int)(ha:a.length<=100000)(hb:b.length<=100000):VD Tryz.prog 114 [vl a,vl b] (vi (Ma a b)):=by
 intro σ;refine Ea XF114 ?_
 refine Zl @xf114.eq_1 ?_
 refine Ek 0 (λm fe Z=>fe 0=vl a/\fe 1=vl b/\σ.next<=Z.low/\∃ i:Nat,fe 5=vi i/\m+i=a.length/\i<=a.length/\i<=b.length/\Ma a b=Ma (a.drop i) (b.drop i))
  (λfe Z=>fe 0=vl a/\fe 1=vl b/\σ.next<=Z.low/\Ma a b=if a.length < b.length then -1 else if b.length < a.length then 1 else 0) a.length ?_ ?_ ?_
 ·refine Zy0 ?_
  exact⟨0,rfl,dO,AM _,AM _,rfl⟩
 ·rintro m fe Z ⟨f0,f1,hlo,i,f5,hm,hia,hib,hc⟩
  (repeat' (first | refine Zl (J3 f0 f1 f5) ?_ | refine Zb (λ_ gd=>?_) λ_ gd=>?_ | fail))
  ·exact⟨hlo,by rw[hc,Qg _ _ _ dO dO,if_pos IF]⟩
  ·exact⟨hlo,by rw[hc,Qg _ _ _ dO dO,if_neg IF,if_pos IF]⟩
  ·exact⟨m - 1,dO,hlo,i+1,Hr (show i < a.length by omega) dO,dO,dO,dO,by rw[hc,Qg _ _ _ dO dO,if_neg IF,if_neg IF]⟩
  ·exact⟨hlo,by rw[hc];exact YW a b i hia hib dO⟩
  ·exact⟨hlo,by rw[hc];exact YW a b i hia hib dO⟩
 ·rintro fe Z ⟨f0,f1,hlo,hc⟩
  (repeat' (first | refine Zl (J2 f0 f1) ?_ | refine Zb (λ_ gd=>?_) λ_ gd=>?_ | fail))
  ·exact⟨hlo,by rw[hc,if_pos dO]⟩
  ·exact⟨hlo,by rw[hc,if_neg dO,if_pos dO]⟩
  ·exact⟨hlo,by rw[hc,if_neg dO,if_neg dO]⟩
def MX(m:KD):VD Tryz.prog 142 [.agg (DZ.e m)] (vl (Ro m)):=by
 intro σ;refine Ea XF142 ?_
 (repeat' (first | refine Zl @xf142.eq_1 ?_ | refine ZE trivial [(m.node:Int),m.handler,m.count,m.index,(m.copy:Int)] ?_ | fail))
 rfl
def NX(e:Fu):VD Tryz.prog 115 [.agg (DZ.e e)] (vl (WB e)):=by
 intro σ;refine Ea XF115 ?_
 (repeat' (first | refine Zl @xf115.eq_1 ?_ | refine Zz0 (show VD Tryz.prog 142 [.agg (DZ.e e.msg)] (vl [e.msg.node,e.msg.handler,e.msg.count,e.msg.index,e.msg.copy]) from MX e.msg) λgn=>?_ | refine ZE trivial [(e.kind:Int),e.node,(e.arg:Int)] ?_ | fail))
 refine D5.app (α:=Int) (b:=σ.next) ((App.new ah0).skip gn) (Gf _ _ rfl) rfl (by unfold reach;simp only[Ag,Ap];omega) iF ah0 ?_;intro gr gn2 glo glv ga g1 g2 g3;simp only[lW] at g1 g2;have gf:=ga.fg
 refine Zl gf ?_
 exact⟨dO,rfl⟩
def YX(m:KD):(Ro m).length=5:=rfl
def YY(m:Fu):(WB m).length=8:=rfl
def YZ(a b:KD):VD Tryz.prog 147 [.agg (DZ.e a),.agg (DZ.e b)] (vi (Ma (Ro a) (Ro b))):=by
 intro σ;refine Ea XF147 ?_
 (repeat' (first | with_reducible exact trivial | refine Zl @xf147.eq_1 ?_ | refine Zz0 (MX a) λgn=>?_ | refine Zz0 (MX b) λgn=>?_ | refine Zz0 (To (Ro a) (Ro b) (by rw[YX];decide) (by rw[YX];decide)) λgn=>?_ | fail))
def Ub(a b:Fu):VD Tryz.prog 89 [.agg (DZ.e a),.agg (DZ.e b)] (vi (Ma (WB a) (WB b))):=by
 intro σ;refine Ea XF89 ?_
 (repeat' (first | with_reducible exact trivial | refine Zl @xf89.eq_1 ?_ | refine Zz0 (NX a) λgn=>?_ | refine Zz0 (NX b) λgn=>?_ | refine Zz0 (To (WB a) (WB b) (by rw[YY];decide) (by rw[YY];decide)) λgn=>?_ | fail))
end
def wi(l:List GF)(m:KD):Int:=match l.findIdx? λe=>decide (e.msg=m) with
 | some i=>i
 | none=>-1
def rq(l:List GF)(m:KD)(i:Nat)(hi:i < l.length)(h:l[i].msg=m)(hc:∀ j (hj:j < i) (hjl:j < l.length),¬ l[j].msg=m):wi l m=i:=by
 unfold wi;rw[CX.mpr ⟨hi,ae0,λj hj=>by simpa using hc j hj dO⟩]
def rr(l:List GF)(m:KD)(hc:∀ j (hjl:j < l.length),¬ l[j].msg=m):wi l m = -1:=by
 unfold wi;rw[Dl.mpr λx hx=>by
  obtain⟨j,hj,rfl⟩:=AN hx;simpa using hc j hj]
def Nt(l:List GF)(m:KD):(wi l m = -1/\JR m l=none/\TO m l=false)\/∃ (i:Nat) (hi:i < l.length),wi l m=i/\JR m l=some l[i]/\TO m l=true/\l[i].msg=m:=by
 unfold JR TO;cases h:l.findIdx? λe=>decide (e.msg=m) with
 | none=>
  have h':=Dl.mp h;refine .inl ⟨by unfold wi;rw[h],CR.mpr λx hx=>by rw[h' x hx];decide,?_⟩;rw[List.any_eq_false];exact λx hx=>by rw[h' x hx];decide
 | some i=>
  obtain⟨hi,h1,h2⟩:=CX.mp h;refine .inr ⟨i,hi,by unfold wi;rw[h],C3.mpr ⟨h1,i,hi,rfl,λj hj=>by simpa using h2 j hj⟩,B1.mpr ⟨_,Ao hi,h1⟩,ac0⟩
section
variable [Prim Tryz.prog]
set_option maxHeartbeats 1000000 in
def Nu(l:List GF)(m:KD)(hl:l.length<=100000):VD Tryz.prog 120 [vl l,.agg (DZ.e m)] (vi (wi l m)):=by
 intro σ;refine Ea XF120 ?_
 refine Zl @xf120.eq_1 ?_
 refine Ek 0 (λk fe Z=>fe 0=vl l/\fe 3=.ptr σ.next 0/\σ.next<=Z.low/\Z.heap σ.next=.cells (DZ.e m) 72 5 σ.next/\∃ i:Nat,fe 5=vi i/\k+i=l.length/\∀ j (hj:j < i) (hjl:j < l.length),¬ l[j].msg=m)
  (λfe Z=>σ.next<=Z.low/\∀ j (hjl:j < l.length),¬ l[j].msg=m) l.length ?_ ?_ ?_
 ·refine Zy0 ?_
  exact⟨0,rfl,rfl,λj hj=>absurd hj (Cn j)⟩
 ·rintro k fe Z ⟨f0,f3,hlo,z0,i,f5,hm,hc⟩
  (repeat' (first | refine Zl (J4 f0 f3 f5 z0) ?_ | refine Zb (λ_ gd=>?_) λ_ gd=>?_ | fail))
  ·exact⟨hlo,by rw[rq l m i dO IF hc]⟩
  ·refine⟨k - 1,dO,hlo,i+1,Hr (show i < l.length by omega) dO,dO,λj hj hjl=>?_⟩
   rcases BD.mp hj with h | h
   ·exact hc j h hjl
   ·subst h;assumption
  ·exact⟨hlo,λj hj=>hc j dO hj⟩
 ·rintro fe Z ⟨hlo,hc⟩
  refine Zy0 ?_
  exact⟨hlo,by rw[rr l m hc]⟩
def Nv(l:List GF)(m:KD)(hl:l.length<=100000):VD Tryz.prog 93 [vl l,.agg (DZ.e m)] (.tup [.agg (DZ.e ((JR m l).getD ⟨Jj,0,0,0,0⟩)),vb (JR m l).isSome]):=by
 intro σ;refine Ea XF93 ?_;rcases Nt l m with ⟨h1,h2,h3⟩ | ⟨i,hi,h1,h2,h3,h4⟩
 ·have hlt:((-1:Int) < 0)=True:=eq_true iF
  (repeat' (first | with_reducible exact trivial | refine Zl (J6 @xf93.eq_1 h1 h2 hlt @Dx.{0} @Option.isSome_none.{0}) ?_ | refine Zz0 (Nu l m hl) λgn=>?_ | fail))
 ·have hlt:((i:Int) < 0)=False:=eq_false dO
  (repeat' (first | with_reducible exact trivial | refine Zl (J6 @xf93.eq_1 h1 h2 hlt @B2.{0} @Dk.{0}) ?_ | refine Zz0 (Nu l m hl) λgn=>?_ | fail))
end
section
variable [Prim Tryz.prog]
def Pn(m:KD)(l:List GF)(i:Nat)(hi:i < l.length):Gq m (l.take (i+1))=if l[i].msg=m then Gq m (l.take i) else Gq m (l.take i)++[l[i]]:=by
 unfold Gq;rw[Bn,Ah hi,Option.toList,Cc];split
 ·rename_i h;simp[h]
 ·rename_i h;simp[h]
def Y0(m:KD)(l:List GF):(Gq m l).length<=l.length:=Bh _ _
set_option maxHeartbeats 1000000 in
def Y1(l:List GF)(m:KD)(hl:l.length<=100000)(σ:D1):VC Tryz.prog 94 [vl l,.agg (DZ.e m)] σ (λv σ'=>σ.next<=σ'.low/\App σ' σ.next v (Gq m l)):=by
 refine Ea XF94 ?_
 refine Zl @xf94.eq_1 ?_
 refine Ek 0 (λk fe Z=>fe 0=vl l/\fe 3=.ptr σ.next 0/\σ.next<=Z.low/\σ.next+1<=Z.next/\Z.heap σ.next=.cells (DZ.e m) 72 5 σ.next/\∃ (i:Nat) (av:VV),fe 6=vi i/\fe 5=av/\k+i=l.length/\App Z σ.next av (Gq m (l.take i)))
  (λfe Z=>σ.next<=Z.low/\∃ av,fe 5=av/\App Z σ.next av (Gq m l)) l.length ?_ ?_ ?_
 ·refine Zy0 ?_
  exact⟨0,_,rfl,rfl,rfl,App.nil _ _⟩
 ·rintro k fe Z ⟨f0,f3,hlo,hn,z0,i,av,f6,f5,hm,ha⟩
  have hrl:=Y0 m (l.take i);rw[As] at hrl
  (repeat' (first | refine Zl (J5 f0 f3 f5 f6 z0) ?_ | refine Zb (λ_ gd=>?_) λ_ gd=>?_ | refine Zt (λgd=>?_) λgd=>?_ | refine ZE trivial [(l[i]' dO:GF)] ?_ | refine ZP (zp GF σ.next) λgt gn glo glv ga g1 g2 g3=>?_ | fail))
  ·rename_i gd
   have hne:¬ l[i].msg=m:=by intro h;simp[h,EU] at gd
   refine⟨k - 1,dO,dO,dO,i+1,_,Hr (show i < l.length by omega) dO,rfl,dO,?_⟩;rw[Pn m l i dO,if_neg hne];exact ga
  ·rename_i gd
   have hne:l[i].msg=m:=by
    apply Decidable.byContradiction;intro h;simp[h,EU] at gd
   refine⟨k - 1,dO,dO,dO,i+1,_,Hr (show i < l.length by omega) dO,rfl,dO,?_⟩;rw[Pn m l i dO,if_pos hne];exact ha
  ·rw[Aj dO] at ha
   exact⟨hlo,_,rfl,ha⟩
 ·rintro fe Z ⟨hlo,av,f5,ha⟩
  refine Zl f5 ?_
  exact⟨hlo,ha⟩
def QU(l:List GF)(m:KD)(hl:l.length<=100000):VD Tryz.prog 94 [vl l,.agg (DZ.e m)] (vl (Gq m l)):=VD.I3 λσ=>Y1 l m hl σ
end
def Oy{α:Type}(p:α->Bool)(l:List α)(i:Nat)(hi:i<=l.length)(h:∀ j (hj:j < i),p (l[j]' dO)=true)(hn:∀ (h:i < l.length),p l[i]=false):l.takeWhile p=l.take i/\l.dropWhile p=l.drop i:=by
 induction l generalizing i with
 | nil=>simp at hi;subst hi;exact⟨rfl,rfl⟩
 | cons x l ih=>
  cases i with
  | zero=>
   have:=hn iN;rw[BB] at this;rw[C9,Da,this];exact⟨rfl,rfl⟩
  | succ i=>
   have h0:=h 0 dO;rw[BB] at h0;obtain⟨a,b⟩:=ih i (by simpa using hi) (λj hj=>by simpa using h (j+1) dO) (λh'=>by have:=hn (by simpa using h');rwa [Cx] at this);rw[C9,Da,h0,BS,Cu];exact⟨by rw[if_pos rfl,a],by rw[if_pos rfl,b]⟩
def jw(e:GF)(l:List GF)(i:Nat)(hi:i<=l.length)(h:∀ j (hj:j < i),RR (l[j]' dO).msg e.msg)(hn:∀ (h:i < l.length),¬ RR l[i].msg e.msg):Oa e l=l.take i++[e]++l.drop i:=by
 obtain⟨a,b⟩:=Oy (λx:GF=>decide (RR x.msg e.msg)) l i hi (λj hj=>decide_eq_true (h j hj)) (λh'=>decide_eq_false (hn h'));unfold Oa;rw[a,b,AU];rfl
section
variable [Prim Tryz.prog]
set_option maxHeartbeats 1000000 in
def mo(l:List GF)(e:GF)(hl:l.length<=100000)(σ:D1):VC Tryz.prog 121 [vl l,.agg (DZ.e e)] σ (λv σ'=>σ.next<=σ'.low/\App σ' σ.next v (Oa e l)):=by
 refine Ea XF121 ?_
 refine Zl @xf121.eq_1 ?_
 refine Ek 0 (λk fe Z=>fe 0=vl l/\fe 3=.ptr σ.next 0/\σ.next<=Z.low/\σ.next+1<=Z.next/\Z.heap σ.next=.cells (DZ.e e) 165 9 σ.next/\∃ i:Nat,fe 5=vi i/\k+i=l.length/\∃ hi:i<=l.length,∀ j (hj:j < i),RR (l[j]' dO).msg e.msg)
  (λfe Z=>fe 0=vl l/\fe 3=.ptr σ.next 0/\σ.next<=Z.low/\σ.next+1<=Z.next/\Z.heap σ.next=.cells (DZ.e e) 165 9 σ.next/\∃ i:Nat,fe 5=vi i/\i<=l.length/\Oa e l=l.take i++[e]++l.drop i) l.length ?_ ?_ ?_
 ·refine Zy0 ?_
  exact⟨0,rfl,rfl,AM _,λj hj=>absurd hj (Cn j)⟩
 ·rintro k fe Z ⟨f0,f3,hlo,hn,z0,i,f5,hm,hi,hc⟩
  (repeat' (first | refine Zl (J4 f0 f3 f5 z0) ?_ | refine Zz0 (YZ (l[i]' dO).msg e.msg) λgn=>?_ | refine Zb (λ_ gd=>?_) λ_ gd=>?_ | fail))
  ·refine⟨k - 1,dO,hlo,dO,i+1,Hr (show i < l.length by omega) dO,dO,dO,λj hj=>?_⟩
   rcases BD.mp hj with h | h
   ·exact hc j h
   ·subst h;exact (Aar _ _).mp IF
  ·refine⟨hlo,dO,i,rfl,hi,?_⟩
   rw[jw e l i hi hc (λh' hlt=>absurd ((Aar _ _).mpr hlt) IF),AU];rfl
  ·refine⟨hlo,dO,i,rfl,hi,?_⟩
   rw[jw e l i hi hc (λh'=>absurd h' dO),AU];rfl
 ·rintro fe Z ⟨f0,f3,hlo,hn,z0,i,f5,hi,hins⟩
  (repeat' (first | refine Zl (J4 f0 f3 f5 z0) ?_ | refine ZE trivial [(e:GF)] ?_ | refine ZP (zp GF σ.next) λgt gn glo glv ga g1 g2 g3=>?_ | refine ZN (zp GF σ.next) λgr gn glo glv ga g1 g2 g3=>?_ | fail))
  refine⟨dO,?_⟩;have e1:l.take i++[e]++l.drop i=l.take i++e::l.drop i:=by rw[AU];rfl
  rw[e1] at hins ga;rw[hins];exact ga
def U3(l:List GF)(e:GF)(hl:l.length<=100000):VD Tryz.prog 121 [vl l,.agg (DZ.e e)] (vl (Oa e l)):=VD.I3 λσ=>mo l e hl σ
def ru(l:List GF)(e:GF)(hl:l.length<=100000):VD Tryz.prog 118 [vl l,.agg (DZ.e e)] (.tup [vl (Kf l e),vi (if TO e.msg l then 4 else 0)]):=by
 intro σ;refine Ea XF118 ?_;rcases Nt l e.msg with ⟨h1,h2,h3⟩ | ⟨i,hi,h1,h2,h3,h4⟩
 ·have hlt:((-1:Int) >= 0)=False:=eq_false iF
  (repeat' (first | refine Zz0 (Nu l e.msg hl) λgn=>?_ | refine Zz0 (U3 l e hl) λgn=>?_ | simp +decide only[↓Em,wA,↓reduceIte,Nat.reduceAdd,Nat.reduceLeDiff,reduceCtorEq,xf118,h1,Kf,h3] | fail))
 ·have hlt:((i:Int) >= 0)=True:=eq_true dO
  (repeat' (first | refine Zz0 (Nu l e.msg hl) λgn=>?_ | simp +decide only[↓Em,wA,↓reduceIte,Nat.reduceAdd,Nat.reduceLeDiff,xf118,h1,hlt,Kf,h3] | fail))
  exact rfl
end
section
variable [Prim Tryz.prog]
def Y2(n:Int)(l:List GF)(i:Nat)(hi:i < l.length):RT n (l.take (i+1))=if l[i].to=n then RT n (l.take i)++[l[i].msg] else RT n (l.take i):=by
 unfold RT;rw[Bn,Ah hi,Option.toList,Cc,AX];split
 ·rename_i h;simp[h]
 ·rename_i h;simp[h]
def wj(n:Int)(l:List GF):(RT n l).length<=l.length:=by unfold RT;rw[AJ];exact Bh _ _
set_option maxHeartbeats 1000000 in
def wm(l:List GF)(n:Int)(hl:l.length<=100000)(σ:D1):VC Tryz.prog 56 [vl l,vi n] σ (λv σ'=>σ.next<=σ'.low/\App σ' σ.next v (RT n l)):=by
 refine Ea XF56 ?_
 refine Zl @xf56.eq_1 ?_
 refine Ek 0 (λk fe Z=>fe 0=vl l/\fe 1=vi n/\σ.next<=Z.low/\σ.next<=Z.next/\∃ (i:Nat) (av:VV),fe 6=vi i/\fe 5=av/\k+i=l.length/\App Z σ.next av (RT n (l.take i)))
  (λfe Z=>σ.next<=Z.low/\∃ av,fe 5=av/\App Z σ.next av (RT n l)) l.length ?_ ?_ ?_
 ·refine Zy0 ?_
  exact⟨0,_,rfl,rfl,rfl,App.nil _ _⟩
 ·rintro k fe Z ⟨f0,f1,hlo,hn,i,av,f6,f5,hm,ha⟩
  have hrl:=wj n (l.take i);rw[As] at hrl
  (repeat' (first | refine Zl (J4 f0 f1 f5 f6) ?_ | refine Zb (λ_ gd=>?_) λ_ gd=>?_ | refine ZE trivial [((l[i]' dO).msg:KD)] ?_ | refine ZP (zp KD σ.next) λgt gn glo glv ga g1 g2 g3=>?_ | fail))
  ·refine⟨k - 1,dO,dO,dO,i+1,_,Hr (show i < l.length by omega) dO,rfl,dO,?_⟩
   rw[Y2 n l i dO,if_pos IF];exact ga
  ·refine⟨k - 1,dO,dO,dO,i+1,_,Hr (show i < l.length by omega) dO,rfl,dO,?_⟩
   rw[Y2 n l i dO,if_neg IF];exact ha
  ·rw[Aj dO] at ha
   exact⟨hlo,_,rfl,ha⟩
 ·rintro fe Z ⟨hlo,av,f5,ha⟩
  refine Zl f5 ?_
  exact⟨hlo,ha⟩
def wo(l:List GF)(n:Int)(hl:l.length<=100000):VD Tryz.prog 56 [vl l,vi n] (vl (RT n l)):=VD.I3 λσ=>wm l n hl σ
def QV(l:List GF)(m:KD)(d:Int):List GF × KD × Int:=match JR m l with
 | none=>([],Jj,3)
 | some x=>if TO ⟨x.msg.node,x.msg.handler,x.msg.count,x.msg.index,d⟩ l then ([],Jj,4) else (Oa ⟨⟨x.msg.node,x.msg.handler,x.msg.count,x.msg.index,d⟩,x.to,x.kind,x.a,x.b⟩ l,⟨x.msg.node,x.msg.handler,x.msg.count,x.msg.index,d⟩,0)
set_option maxHeartbeats 1000000 in
def mq(l:List GF)(m:KD)(d:Int)(hl:l.length<=100000):VD Tryz.prog 95 [vl l,.agg (DZ.e m),vi d] (.tup [vl (QV l m d).1,.agg (DZ.e (QV l m d).2.1),vi (QV l m d).2.2]):=by
 intro σ;refine Ea XF95 ?_;have n0:∀ x:Nat,(0=2+x)=False:=λx=>eq_false dO
 have n1:∀ x:Nat,(1=2+x)=False:=λx=>eq_false dO
 have n2:∀ x:Nat,(2+x=0)=False:=λx=>eq_false dO
 have n3:∀ x:Nat,(2+x=1)=False:=λx=>eq_false dO
 have n4:∀ x:Nat,(0 < 1+x)=True:=λx=>eq_true dO
 have n5:∀ x:Nat,(0 < 2+x)=True:=λx=>eq_true dO
 have n6:∀ x:Nat,(1 < 2+x)=True:=λx=>eq_true dO
 have hlt:((-1:Int) >= 0)=False:=eq_false iF;rcases Nt l m with ⟨h1,h2,h3⟩ | ⟨i,hi,h1,h2,h3,h4⟩
 ·(repeat' (first | refine Zz0 (Nv l m hl) λgn=>?_ | simp +decide only[↓Em,wA,↓reduceIte,Nat.reduceAdd,D0,xf95,n1,h2,Dx,Option.isSome_none,QV] | fail))
  exact rfl
 ·rcases Nt l ⟨l[i].msg.node,l[i].msg.handler,l[i].msg.count,l[i].msg.index,d⟩ with ⟨k1,k2,k3⟩ | ⟨j,hj,k1,k2,k3,k4⟩
  ·(repeat' (first | refine Zz0 (Nv l m hl) λgn=>?_ | refine Zz0 (Nu l ⟨l[i].msg.node,l[i].msg.handler,l[i].msg.count,l[i].msg.index,d⟩ hl) λgn=>?_ | refine Zz0 (U3 l ⟨⟨l[i].msg.node,l[i].msg.handler,l[i].msg.count,l[i].msg.index,d⟩,l[i].to,l[i].kind,l[i].a,l[i].b⟩ hl) λgn=>?_ | simp +decide only[↓Em,wA,Fe,Ev,↓reduceIte,Nat.reduceAdd,Nat.reduceLeDiff,reduceCtorEq,D0,xf95,n1,n4,h2,B2,Dk,QV,k1,k3] | fail))
  ·have hlt:((j:Int) >= 0)=True:=eq_true dO
   (repeat' (first | refine Zz0 (Nv l m hl) λgn=>?_ | refine Zz0 (Nu l ⟨l[i].msg.node,l[i].msg.handler,l[i].msg.count,l[i].msg.index,d⟩ hl) λgn=>?_ | simp +decide only[↓Em,wA,↓reduceIte,Nat.reduceAdd,Nat.reduceLeDiff,D0,xf95,n1,h2,B2,Dk,QV,k1,k3,hlt] | fail))
   exact rfl
end
def Qh(l:List Fu)(e:Fu):List Fu:=
 let i:=(l.takeWhile λx=>decide (NI x e)).length
 if l[i]? = some e then l else l.take i++e::l.drop i
def WC(e:Fu)(l:List Fu)(i:Nat)(hi:i<=l.length)(h:∀ j (hj:j < i),NI (l[j]' dO) e)(hn:∀ (h:i < l.length),¬ NI l[i] e):Qh l e=if l[i]? = some e then l else l.take i++e::l.drop i:=by
 obtain⟨a,b⟩:=Oy (λx:Fu=>decide (NI x e)) l i hi (λj hj=>decide_eq_true (h j hj)) (λh'=>decide_eq_false (hn h'));unfold Qh;rw[a,As,Bl hi]
def gH(e:Fu):¬ NI e e:=by unfold NI RR;omega
def mr(l:List Fu)(e:Fu)(hs:l.Pairwise NI):Qh l e=TP l e:=by
 have hap:=Bt (p:=λx=>decide (NI x e)) (l:=l);by_cases he:e∈l
 ·obtain⟨j,hj,rfl⟩:=AN he
  have hp:=List.pairwise_iff_getElem.mp hs;rw[WC l[j] l j dO (λk hk=>hp k j dO hj hk) (λ_=>gH _),if_pos (Ah hj)];unfold TP;rw[if_pos he]
 ·unfold Qh TP
  rw[if_neg he];have hne:∀ i:Nat,¬ l[i]? = some e:=λi h=>he (AF h)
  simp only[hne,if_false];have h1:l.take (l.takeWhile λx=>decide (NI x e)).length=l.takeWhile λx=>decide (NI x e):=by
   conv=>lhs;arg 2;rw[<- hap]
   rw[DG];rfl
  have h2:l.drop (l.takeWhile λx=>decide (NI x e)).length=l.dropWhile λx=>decide (NI x e):=by
   conv=>lhs;arg 2;rw[<- hap]
   rw[List.drop_left'];rfl
  rw[h1,h2]
section
variable [Prim Tryz.prog]
set_option maxHeartbeats 1000000 in
def Fc(l:List Fu)(e:Fu)(hl:l.length<=100000000):VD Tryz.prog 55 [vl l,.agg (DZ.e e)] (vl (Qh l e)):=by
 intro σ;refine Ea XF55 ?_
 refine Zl @xf55.eq_1 ?_
 refine Ek 0 (λk fe Z=>fe 0=vl l/\fe 3=.ptr σ.next 0/\σ.next<=Z.low/\σ.next+1<=Z.next/\Z.heap σ.next=.cells (DZ.e e) 74 8 σ.next/\∃ i:Nat,fe 5=vi i/\k+i=l.length/\∃ hi:i<=l.length,∀ j (hj:j < i),NI (l[j]' dO) e)
  (λfe Z=>fe 0=vl l/\fe 3=.ptr σ.next 0/\σ.next<=Z.low/\σ.next+1<=Z.next/\Z.heap σ.next=.cells (DZ.e e) 74 8 σ.next/\∃ i:Nat,fe 5=vi i/\i<=l.length/\Qh l e=if l[i]? = some e then l else l.take i++e::l.drop i) l.length ?_ ?_ ?_
 ·refine Zy0 ?_
  exact⟨0,rfl,rfl,AM _,λj hj=>absurd hj (Cn j)⟩
 ·rintro k fe Z ⟨f0,f3,hlo,hn,z0,i,f5,hm,hi,hc⟩
  (repeat' (first | refine Zl (J4 f0 f3 f5 z0) ?_ | refine Zz0 (Ub (l[i]' dO) e) λgn=>?_ | refine Zb (λ_ gd=>?_) λ_ gd=>?_ | fail))
  ·refine⟨k - 1,dO,hlo,dO,i+1,JQ (show i<=1000000000 by omega),dO,dO,λj hj=>?_⟩
   rcases BD.mp hj with h | h
   ·exact hc j h
   ·subst h;exact (Ab1 _ _).mp IF
  ·exact⟨hlo,dO,i,rfl,hi,WC e l i hi hc (λh' hlt=>absurd ((Ab1 _ _).mpr hlt) IF)⟩
  ·exact⟨hlo,dO,i,rfl,hi,WC e l i hi hc (λh'=>absurd h' dO)⟩
 ·rintro fe Z ⟨f0,f3,hlo,hn,z0,i,f5,hi,hins⟩
  (repeat' (first | refine Zl (J4 f0 f3 f5 z0) ?_ | refine Zb (λ_ gd=>?_) λ_ gd=>?_ | refine ZE trivial [(e:Fu)] ?_ | refine ZP (zp Fu σ.next) λgt gn glo glv ga g1 g2 g3=>?_ | refine ZN (zp Fu σ.next) λgr gn glo glv ga g1 g2 g3=>?_ | fail))
  ·exact⟨hlo,by rw[hins,if_pos (by rw[Ah (show i < l.length by omega)];exact congrArg some IF)]⟩
  ·refine⟨dO,?_⟩
   rw[hins,if_neg ?_];rw[Ah (show i < l.length by omega)];exact λh=>absurd (Aa h) IF
  ·refine⟨dO,?_⟩
   rw[hins,if_neg ?_];rw[AO dO];exact λh=>by cases h
end
def HM(l es:List Fu):List Fu:=es.foldl Qh l
def Po(l a b:List Fu):HM l (a++b)=HM (HM l a) b:=Cm
def mu(l:List Fu)(e:Fu):HM l [e]=Qh l e:=rfl
def mw{l:List Fu}(e:Fu)(hs:l.Pairwise NI):(TP l e).Pairwise NI:=by
 unfold TP;split
 ·exact hs
 ·rename_i hne
  refine sorted_put hs (λx hx hp=>of_decide_eq_true hp) (λx hx hp=>?_) (λh k=>kd h k);have hp:=of_decide_eq_false hp;rcases kb x e with h | rfl | h
  ·exact absurd h hp
  ·exact absurd hx hne
  ·exact h
def Tp:∀ (es l:List Fu),l.Pairwise NI->HM l es=es.foldl TP l/\(HM l es).Pairwise NI
 | [],l,hs=>⟨rfl,hs⟩
 | e::es,l,hs=>by
  have h1:=mw e hs;have h2:=Tp es _ h1;unfold HM at h2 |-;rw[Bg,Bg,mr l e hs];exact h2
def Y3(l:List Fu)(e:Fu):(Qh l e).length<=l.length+1:=by
 unfold Qh;dsimp only;split
 ·omega
 ·have hi:(l.takeWhile λy=>decide (NI y e)).length<=l.length:=(Dy _).length_le
  rw[Ad,Ag,As,AI];omega
def Qi:∀ (es l:List Fu),(HM l es).length<=l.length+es.length
 | [],l=>Af _
 | e::es,l=>by
  have h1:=Y3 l e;have h2:=Qi es (Qh l e);unfold HM at h2 |-;rw[Bg,Ag];omega
def Oz(w:E4)(n:Nat):List Fu:=(w.nodes.zipIdx.take n).flatMap λx=>VF w x.2 x.1
def U4(w:E4)(n:Nat)(h:n < w.nodes.length):Oz w (n+1)=Oz w n++VF w n w.nodes[n]:=by
 unfold Oz;rw[Bn,Ah ae0,Option.toList,Df];simp
def Y4(w:E4):HM [] (Oz w w.nodes.length)=FO w:=by
 rw[(Tp _ _ List.Pairwise.nil).1];unfold Oz FO;rw[Aj iN]
def JT(w:E4)(n:Nat)(s:FZ):List Int:=if s.version < 0 then [w.c.first.getD n 0] else if w.c.restarts.length=0 then [s.version] else w.c.restarts
def na(n:Nat)(l:List Int):List Fu:=l.map λv=>⟨1,n,v,Jj⟩
def my(w:E4)(n:Nat)(s:FZ)(m:KD):List Fu:=(if s.up then [(⟨3,n,0,m⟩:Fu)] else [])++((if s.dropped < w.c.drops then [⟨5,n,0,m⟩] else [])++(if s.doubled < w.c.dups then [⟨6,n,0,m⟩] else []))
def ng(n:Nat)(l:List Int):List Fu:=l.map λk=>⟨4,n,k,Jj⟩
def Tq(w:E4)(n:Nat)(s:FZ):VF w n s=(if s.up then [] else na n (JT w n s))++((RT n w.flight).flatMap (my w n s))++(if s.up/\s.waiting < 0/\0<=w.next.getD n 0 then [⟨2,n,w.next.getD n 0,Jj⟩] else [])++(if s.up then ng n s.timers else [])++(if s.up/\s.counts 40 < w.c.crashes then [⟨7,n,0,Jj⟩] else []):=rfl
def WD(w:E4)(n:Nat)(s:FZ)(m:KD):(my w n s m).length<=3:=by
 unfold my;simp only[Ad];split<;>split<;>split<;>simp
def K0{α β:Type}(f:α->List β)(k:Nat)(h:∀ a,(f a).length<=k):∀ l:List α,(l.flatMap f).length<=k * l.length
 | []=>iN
 | a::l=>by
  have:=K0 f k h l;have:=h a;rw[Ds,Ad,Ag,Nat.mul_add];omega
def ry{w:E4}{k o:Int}(h:WI w k o)(hk:k<=5000){n:Nat}{s:FZ}(hs:s∈w.nodes):(VF w n s).length<=302000:=by
 have hnd:=h.node s hs;have h1:=hnd.timl;have h2:=h.cfg.rlen;have h3:(RT n w.flight).length<=w.flight.length:=by unfold RT;rw[AJ];exact Bh _ _
 have h4:=h.fl;have h5:=K0 (my w n s) 3 (WD w n s) (RT n w.flight);have e1:(JT w n s).length<=1000:=by unfold JT;split<;>(try split)<;>(try simp)<;>omega
 have e2:(na n (JT w n s)).length<=1000:=by unfold na;rw[AJ];exact e1
 have e3:(ng n s.timers).length<=8:=by unfold ng;rw[AJ];exact h1
 rw[Tq];simp only[Ad];have q1:(if s.up=true then ([]:List Fu) else na n (JT w n s)).length<=1000:=by split<;>(try simp)<;>omega
 have q2:(if s.up=true/\s.waiting < 0/\0<=w.next.getD n 0 then [(⟨2,n,w.next.getD n 0,Jj⟩:Fu)] else []).length<=1:=by split<;>simp
 have q3:(if s.up=true then ng n s.timers else []).length<=8:=by split<;>(try simp)<;>omega
 have q4:(if s.up=true/\s.counts 40 < w.c.crashes then [(⟨7,n,0,Jj⟩:Fu)] else []).length<=1:=by split<;>simp
 omega
def Y5{w:E4}{k o:Int}(h:WI w k o)(hk:k<=5000)(n:Nat)(hn:n<=w.nodes.length):(Oz w n).length<=n * 302000:=by
 induction n with
 | zero=>simp[Oz]
 | succ n ih=>
  have:=ih dO;have:=ry h hk (n:=n) (Ao (show n < w.nodes.length by omega));rw[U4 w n dO,Ad];omega
def WE{α β:Type}(f:α->List β)(l:List α)(i:Nat)(hi:i < l.length):(l.take (i+1)).flatMap f=(l.take i).flatMap f++f l[i]:=by
 rw[Bn,Ah hi,Option.toList,Df];simp
def map_take{α β:Type}(f:α->β)(l:List α)(i:Nat)(hi:i < l.length):(l.take (i+1)).map f=(l.take i).map f++[f l[i]]:=by
 rw[Bn,Ah hi,Option.toList,AX];rfl
section
variable [Prim Tryz.prog]
set_option maxHeartbeats 1000000 in
def QW(c:I2)(n:Int)(i0:Int)(h0 : -1<=i0/\i0<=1000000)(hl:c.requests.length<=100000):VD Tryz.prog 54 [.agg (DZ.e c),vi n,vi i0] (vi (E8 c n i0)):=by
 intro σ;have w0:G0 (i0+1)=i0+1:=Er dO dO;refine Ea XF54 ?_
 refine Zl (J2 @xf54.eq_1 w0) ?_
 refine Ek 0 (λk fe Z=>fe 1=vi n/\fe 3=.ptr σ.next 0/\σ.next<=Z.low/\Z.heap σ.next=.cells (DZ.e c) 26 8 σ.next/\∃ j:Nat,fe 7=vi j/\i0 < j/\k+j=c.requests.length+1000001/\∀ m (hm:m < c.requests.length),i0 < m->m < j->c.requests[m].node≠n)
  (λfe Z=>σ.next<=Z.low/\E8 c n i0 = -1) (c.requests.length+1000001 - (i0+1).toNat) ?_ ?_ ?_
 ·refine Zy0 ?_
  exact⟨(i0+1).toNat,dO,dO,dO,λm hm h1 h2=>dO⟩
 ·rintro k fe Z ⟨f1,f3,hlo,z0,j,f7,hij,hk,hno⟩
  (repeat' (first | refine Zl (J4 f1 f3 f7 z0) ?_ | refine Zb (λ_ gd=>?_) λ_ gd=>?_ | fail))
  ·exact⟨hlo,(Qt c n i0 j dO hij IF λm hm him=>hno m dO him hm).symm⟩
  ·refine⟨k - 1,dO,hlo,j+1,Fv dO,dO,dO,λm hm h1 h2=>?_⟩
   rcases BD.mp h2 with h | h
   ·exact hno m hm h1 h
   ·subst h;assumption
  ·exact⟨hlo,Qu c n i0 λm hm him=>hno m hm him dO⟩
 ·rintro fe Z ⟨hlo,he⟩
  refine Zl he ?_
  exact hlo
end
def Y6{α:Type}[DZ α]{l:List α}{n z:Nat}{x:α}(hw:z=DZ.w α)(h:l[n]? = some x)(o sz:Nat)(ho:o+sz<=z):((D4 l).drop (n * z+o)).take sz=((DZ.e x).drop o).take sz/\(n * z+o+sz<=(D4 l).length)=True:=by
 obtain⟨hn,rfl⟩:=Am.1 h;subst hw;refine⟨Ox l n hn o sz dO,eq_true ?_⟩;have:(n+1) * DZ.w α<=l.length * DZ.w α:=AL _ hn;rw[Bd,CY] at this;rw[ES];omega
def Rp{α:Type}[DZ α]{l:List α}{n z:Nat}{x:α}(hw:z=DZ.w α)(h:l[n]? = some x):((D4 l).drop (n * z)).take z=DZ.e x/\(n * z+z<=(D4 l).length)=True:=by
 have:=Y6 hw h 0 z dO;rw[Dh,Bu,show (DZ.e x).take z=DZ.e x from Aj (by rw[DZ.len];omega)] at this;exact this
def Aas{α:Type}[DZ α]{l:List α}{n:Nat}{x:α}(hw:1=DZ.w α)(h:l[n]? = some x):((D4 l).drop n).take 1=DZ.e x/\(n+1<=(D4 l).length)=True:=by
 have:=Rp hw h
 rwa [Cb] at this
structure Ig where
 n:Nat
 x:Nat
 f:Nat
 t:Nat
def WV(w:E4)(A:Ig):List VV:=[vl w.c.programs,vl w.c.first,vl w.c.restarts,vl w.c.requests,vi w.c.crashes,vi w.c.drops,vi w.c.dups,vi w.c.drift,.slice A.n 0 w.nodes.length w.nodes.length,vl w.flight,.slice A.x 0 w.next.length w.next.length,vl w.obs,.slice A.f 0 w.failures.length w.failures.length,.slice A.t 0 w.traces.length w.traces.length,vl w.covered,vi w.steps]
structure WR(τ:D1)(b:Nat)(w:E4)(A:Ig):Prop where
 n:LA τ b A.n w.nodes
 x:LA τ b A.x w.next
 f:LA τ b A.f w.failures
 t:LA τ b A.t w.traces
 nx:A.n≠A.x
 nf:A.n≠A.f
 nt:A.n≠A.t
 xf:A.x≠A.f
 xt:A.x≠A.t
 ft:A.f≠A.t
def Ig.has(A:Ig)(j:Nat):Prop:=j=A.n\/j=A.x\/j=A.f\/j=A.t
def LA.D8{α:Type}[DZ α]{σ τ:D1}{b id:Nat}{l:List α}(h:LA σ b id l)(hn:σ.next<=τ.next)(hh:τ.heap id=σ.heap id):LA τ b id l:=by
 obtain⟨t,q,h1,h2,h3,h4⟩:=h;exact⟨t,q,h1,h2,dO,by rw[hh];exact h4⟩
def LA.lt{α:Type}[DZ α]{σ:D1}{b id:Nat}{l:List α}(h:LA σ b id l):b<=id/\id < σ.next:=by
 obtain⟨t,q,h1,h2,h3,h4⟩:=h;omega
def WR.D8{τ τ':D1}{b:Nat}{w:E4}{A:Ig}(h:WR τ b w A)(hn:τ.next<=τ'.next)(hh:∀ j,A.has j->τ'.heap j=τ.heap j):WR τ' b w A:=
 { h with n:=h.n.D8 hn (hh _ (.inl rfl)),x:=h.x.D8 hn (hh _ (.inr (.inl rfl))),f:=h.f.D8 hn (hh _ (.inr (.inr (.inl rfl)))),t:=h.t.D8 hn (hh _ (.inr (.inr (.inr rfl)))) }
def WR.lt{τ:D1}{b:Nat}{w:E4}{A:Ig}(h:WR τ b w A){j:Nat}(hj:A.has j):b<=j/\j < τ.next:=by
 rcases hj with rfl | rfl | rfl | rfl
 ·exact h.n.lt
 ·exact h.x.lt
 ·exact h.f.lt
 ·exact h.t.lt
def Qj(w:E4)(A:Ig):(WV w A).length=16:=rfl
def Qk(w:E4)(A:Ig):FE (WV w A)=true:=by
 unfold WV;simp only[Ia,HJ,OA,G5]
def WQ(σ:D1)(b:Nat)(w':E4)(A:Ig)(σ':D1):Prop:=b<=σ'.low/\σ.next<=σ'.next/\WR σ' b w' A/\∀ j,j < σ.next->¬ A.has j->σ'.heap j=σ.heap j
def Ql(w:E4)(A:Ig)(n:Nat):WV (Ir w n) A=WV w A:=by
 unfold WV Ir;simp only[A7]
def WR.Il{τ τ':D1}{b:Nat}{w w':E4}{A:Ig}(h:WR τ b w A){t:TypeId}{q:Nat}(hq:b<=q/\q<=A.n)(hc:τ'.heap A.n=.cells (D4 w'.nodes) t (DZ.w (FZ)) q)(hn:τ.next<=τ'.next)(hk:∀ j,A.has j->j≠A.n->τ'.heap j=τ.heap j)(ex:w'.next=w.next)(ef:w'.failures=w.failures)(et:w'.traces=w.traces):WR τ' b w' A:=by
 have hlt:=h.n.lt;have h1:∀ j,A.has j->j≠A.n->τ'.heap j=τ.heap j:=hk;refine { h with n:=⟨t,q,hq.1,hq.2,dO,hc⟩,x:=by rw[ex];exact h.x.D8 hn (h1 _ (.inr (.inl rfl)) (BR h.nx)),f:=by rw[ef];exact h.f.D8 hn (h1 _ (.inr (.inr (.inl rfl))) (BR h.nf)),t:=by rw[et];exact h.t.D8 hn (h1 _ (.inr (.inr (.inr rfl))) (BR h.nt)) }
def WR.Aat{τ τ':D1}{b:Nat}{w w':E4}{A:Ig}(h:WR τ b w A){t:TypeId}{q:Nat}(hq:b<=q/\q<=A.f)(hc:τ'.heap A.f=.cells (D4 w'.failures) t (DZ.w (List Np)) q)(hn:τ.next<=τ'.next)(hk:∀ j,A.has j->j≠A.f->τ'.heap j=τ.heap j)(en:w'.nodes=w.nodes)(ex:w'.next=w.next)(et:w'.traces=w.traces):WR τ' b w' A:=by
 have hlt:=h.f.lt;have h1:∀ j,A.has j->j≠A.f->τ'.heap j=τ.heap j:=hk;refine { h with n:=by rw[en];exact h.n.D8 hn (h1 _ (.inl rfl) (h.nf)),x:=by rw[ex];exact h.x.D8 hn (h1 _ (.inr (.inl rfl)) (h.xf)),f:=⟨t,q,hq.1,hq.2,dO,hc⟩,t:=by rw[et];exact h.t.D8 hn (h1 _ (.inr (.inr (.inr rfl))) (BR h.ft)) }
def WR.Ad0{τ τ':D1}{b:Nat}{w w':E4}{A:Ig}(h:WR τ b w A){t:TypeId}{q:Nat}(hq:b<=q/\q<=A.t)(hc:τ'.heap A.t=.cells (D4 w'.traces) t (DZ.w (List (List Int))) q)(hn:τ.next<=τ'.next)(hk:∀ j,A.has j->j≠A.t->τ'.heap j=τ.heap j)(en:w'.nodes=w.nodes)(ex:w'.next=w.next)(ef:w'.failures=w.failures):WR τ' b w' A:=by
 have hlt:=h.t.lt;have h1:∀ j,A.has j->j≠A.t->τ'.heap j=τ.heap j:=hk;refine { h with n:=by rw[en];exact h.n.D8 hn (h1 _ (.inl rfl) (h.nt)),x:=by rw[ex];exact h.x.D8 hn (h1 _ (.inr (.inl rfl)) (h.xt)),f:=by rw[ef];exact h.f.D8 hn (h1 _ (.inr (.inr (.inl rfl))) (h.ft)),t:=⟨t,q,hq.1,hq.2,dO,hc⟩ }
def RC{α:Type}[DZ α]{l:List α}{n z:Nat}(hw:z=DZ.w α)(h:n < l.length)(x:α):List.take (n * z) (D4 l)++(DZ.e x++List.drop (n * z+z) (D4 l))=D4 (l.set n x):=by
 subst hw;rw[<- Nr l n h x];unfold D0;rw[DZ.len,AU]
def Y7{α:Type}[DZ α]{l:List (List α)}{n:Nat}(h:n < l.length)(x:List α):List.take n (D4 l)++vl x::List.drop (n+1) (D4 l)=D4 (l.set n x):=by
 have:=RC (α:=List α) (z:=1) rfl h x;rw[Cb] at this;exact this
def rz{l:List Int}{n:Nat}(h:n < l.length)(x:Int):List.take n (D4 l)++vi x::List.drop (n+1) (D4 l)=D4 (l.set n x):=by
 have:=RC (z:=1) rfl h x;rw[Cb] at this;exact this
def rB{σ:D1}{b:Nat}{w':E4}{A:Ig}{F:D1}(h:∀ G,G=F->WQ σ b w' A G):WQ σ b w' A F:=h F rfl
def Ad1(w:E4)(A:Ig):(WV w A).take 1=[vl w.c.programs]:=rfl
def Ad2(w:E4)(A:Ig):((WV w A).drop 1).take 1=[vl w.c.first]:=rfl
def Ad3(w:E4)(A:Ig):((WV w A).drop 2).take 1=[vl w.c.restarts]:=rfl
def Ad4(w:E4)(A:Ig):((WV w A).drop 3).take 1=[vl w.c.requests]:=rfl
def Ad5(w:E4)(A:Ig):((WV w A).drop 4).take 1=[vi w.c.crashes]:=rfl
def Ad6(w:E4)(A:Ig):((WV w A).drop 5).take 1=[vi w.c.drops]:=rfl
def Ad7(w:E4)(A:Ig):((WV w A).drop 6).take 1=[vi w.c.dups]:=rfl
def Ad8(w:E4)(A:Ig):((WV w A).drop 7).take 1=[vi w.c.drift]:=rfl
def Ad9(w:E4)(A:Ig):((WV w A).drop 8).take 1=[.slice A.n 0 w.nodes.length w.nodes.length]:=rfl
def Aea(w:E4)(A:Ig):((WV w A).drop 9).take 1=[vl w.flight]:=rfl
def Ab2(w:E4)(A:Ig):((WV w A).drop 10).take 1=[.slice A.x 0 w.next.length w.next.length]:=rfl
def Ab3(w:E4)(A:Ig):((WV w A).drop 11).take 1=[vl w.obs]:=rfl
def Ab4(w:E4)(A:Ig):((WV w A).drop 12).take 1=[.slice A.f 0 w.failures.length w.failures.length]:=rfl
def Ab5(w:E4)(A:Ig):((WV w A).drop 13).take 1=[.slice A.t 0 w.traces.length w.traces.length]:=rfl
def Ab6(w:E4)(A:Ig):((WV w A).drop 14).take 1=[vl w.covered]:=rfl
def Ab7(w:E4)(A:Ig):((WV w A).drop 15).take 1=[vi w.steps]:=rfl
def Aeb(w:E4)(A:Ig):(WV w A).take 8=DZ.e w.c:=rfl
def Ab8(w:E4)(A:Ig):(WV w A).take 16=WV w A:=rfl
def Ab9(w:E4)(A:Ig)(x:List GF):D0 (WV w A) 9 [vl x]=WV { w with flight:=x } A:=rfl
def Aau(w:E4)(A:Ig)(x:List te):D0 (WV w A) 11 [vl x]=WV { w with obs:=x } A:=rfl
def Aav(w:E4)(A:Ig)(x:List JE):D0 (WV w A) 14 [vl x]=WV { w with covered:=x } A:=rfl
def Aaw(w:E4)(A:Ig)(x:Int):D0 (WV w A) 15 [vi x]=WV { w with steps:=x } A:=rfl
def xZ(w:E4)(A:Ig)(n:Nat)(x:FZ):WV { w with nodes:=w.nodes.set n x } A=WV w A:=by unfold WV;simp only[A7]
def Aax(w:E4)(A:Ig)(n:Nat)(x:List Np):WV { w with failures:=w.failures.set n x } A=WV w A:=by unfold WV;simp only[A7]
def IY:=Ac @Ad1 (Ac @Ad2 (Ac @Ad3 (Ac @Ad4 (Ac @Ad5 (Ac @Ad6 (Ac @Ad7 (Ac @Ad8 (Ac @Ad9 (Ac @Aea (Ac @Ab2 (Ac @Ab3 (Ac @Ab4 (Ac @Ab5 (Ac @Ab6 (Ac @Ab7 (Ac @Aeb (Ac @Ab8 (Ac @Ab9 (Ac @Aau (Ac @Aav (Ac @Aaw (Ac @Qj @Qk))))))))))))))))))))))
def E7(w:E4):(DZ.e w).take 16=DZ.e w:=rfl
def F3(e:Fu):(DZ.e e).take 8=DZ.e e:=rfl
abbrev LI:=List Int
section
variable [Prim Tryz.prog]
def jx:List VV:=[EA,EA,EA,EA,vi 0,vi 0,vi 0,vi 0,EA,EA,EA,EA,EA,EA,EA,vi 0]
set_option maxHeartbeats 8000000 in
def mz(c:I2)(hf:c.first.length<=12)(hq:c.requests.length<=100000):VD Tryz.prog 31 [.agg (DZ.e c)] (.agg (DZ.e (JU c))):=by
 intro σ;refine Ea XF31 ?_
 refine Zl @xf31.eq_1 ?_
 refine Hw (λA hA=>?_);have nA:σ.next+3<=A.next:=by rw[hA];simp +decide only[wA,Nat.reduceAdd]<;>omega
 have lA:σ.next<=A.low:=by rw[hA];simp only[lW];omega
 have y0:A.heap σ.next=.cells (DZ.e c) 26 8 σ.next:=by rw[hA];simp +decide only[wA,↓reduceIte,Nat.reduceAdd]
 have y1:A.heap (σ.next+1)=.cells jx 68 16 (σ.next+1):=by rw[hA];simp +decide only[wA,↓reduceIte,Nat.reduceAdd];rfl
 have y2:A.heap (σ.next+2)=.cells (DZ.e c++[EA,EA,EA,EA,EA,EA,EA,vi 0]) 68 16 (σ.next+2):=by rw[hA];simp +decide only[wA,↓reduceIte];rfl
 clear hA;have own0:FT A σ.next [GB EA (List.replicate 0 Fl),GB EA ((List.range 0).map λ(j:Nat)=>E8 c j (-1)),GB EA (List.replicate 0 ([]:List Np)),GB EA (List.replicate 0 ([]:List (List Int)))]:=((((FT.nil _ _).Gr (α:=List (List Int))).Gr (α:=List Np)).Gr (α:=Int)).Gr (α:=FZ);obtain⟨n,hn⟩:∃ n,n=c.first.length:=⟨_,rfl⟩
 rw[<- hn] at hf;refine Ek 0 (λm fe Z=>fe 1=.ptr σ.next 0/\fe 2=.ptr (σ.next+1) 0/\fe 3=.ptr (σ.next+2) 0/\σ.next<=Z.low/\σ.next+3<=Z.next/\Z.heap σ.next=.cells (DZ.e c) 26 8 σ.next/\Z.heap (σ.next+1)=.cells jx 68 16 (σ.next+1)/\∃ (i:Nat) (NV XV FV TV:VV),fe 4=vi i/\m+i=n/\Z.heap (σ.next+2)=.cells [vl c.programs,vl c.first,vl c.restarts,vl c.requests,vi c.crashes,vi c.drops,vi c.dups,vi c.drift,NV,EA,XV,EA,FV,TV,EA,vi 0] 68 16 (σ.next+2)/\FT Z σ.next [GB NV (List.replicate i Fl),GB XV ((List.range i).map λ(j:Nat)=>E8 c j (-1)),GB FV (List.replicate i ([]:List Np)),GB TV (List.replicate i ([]:List (List Int)))])
  (λfe Z=>fe 2=.ptr (σ.next+1) 0/\fe 3=.ptr (σ.next+2) 0/\σ.next<=Z.low/\σ.next+3<=Z.next/\Z.heap (σ.next+1)=.cells jx 68 16 (σ.next+1)/\∃ (NV XV FV TV:VV),Z.heap (σ.next+2)=.cells [vl c.programs,vl c.first,vl c.restarts,vl c.requests,vi c.crashes,vi c.drops,vi c.dups,vi c.drift,NV,EA,XV,EA,FV,TV,EA,vi 0] 68 16 (σ.next+2)/\FT Z σ.next [GB NV (List.replicate n Fl),GB XV ((List.range n).map λ(j:Nat)=>E8 c j (-1)),GB FV (List.replicate n ([]:List Np)),GB TV (List.replicate n ([]:List (List Int)))]) n ?_ ?_ ?_
 ·refine Zy0 ?_
  exact⟨lA,nA,y0,y1,0,EA,EA,EA,EA,rfl,dO,y2,own0⟩
 ·rintro m fe Z ⟨f1,f2,f3,hlo,hnx,z0,z1,i,NV,XV,FV,TV,f4,hm,z2,own⟩
  have aN:App Z σ.next NV (List.replicate i Fl):=own.app iN;have aX:App Z σ.next XV ((List.range i).map λ(j:Nat)=>E8 c j (-1)):=own.app iN;have aF:App Z σ.next FV (List.replicate i ([]:List Np)):=own.app iN;have aT:App Z σ.next TV (List.replicate i ([]:List (List Int))):=own.app iN;have vN:=λm=>aN.all m
  have vX:=λm=>aX.all m
  have vF:=λm=>aF.all m
  have vT:=λm=>aT.all m
  have cN:=aN.cs;have cX:=aX.cs;have cF:=aF.cs;have cT:=aT.cs;have p0:(σ.next < Z.next)=True:=eq_true dO;have p1:(σ.next+2 < Z.next)=True:=eq_true dO;have ne:=rh (σ.next) (σ.next+1) (σ.next+2) (Z.next) dO
  (repeat' (first | refine Zl (J9 ne f1 f2 f3 f4 z0 z1 z2 (J9 hn.symm @vN @vX @vF @vT @cN @cX @cF (J3 @cT p0 p1))) ?_ | refine Zz0 rp λgn=>?_ | refine Zb (λ_ gd=>?_) λ_ gd=>?_ | fail))
  ·refine GC.one Fl rfl rfl rfl (RN _) ?_
   refine Zl (J9 ne f1 f2 f3 f4 z0 z1 z2 (J9 hn.symm @vN @vX @vF @vT @cN @cX @cF (J3 @cT p0 p1))) ?_
   refine D5.La (l:=List.replicate i Fl) (m:=[Fl]) [] [GB XV ((List.range i).map (λ(j:Nat)=>E8 c j (-1))),GB FV (List.replicate i ([]:List Np)),GB TV (List.replicate i ([]:List (List Int)))] (own.D8 ah0 (λt ht _=>by (try simp only[lW] at ht);simp only[D1.Eg,FP];first | (rw[if_neg dO]<;>rfl) | rfl)) (EN _ _ _ rfl) rfl (by unfold reach;simp;omega) iF ah0 (λra gn1 lo1 lv1 own1 l1a l1b l1c=>?_);have b1:App _ σ.next ra (List.replicate i Fl++[Fl]):=own1.app (v:=ra) (l:=List.replicate i Fl++[Fl]) iN;have u1:=λm=>b1.all m
   have w1:=b1.cs;simp only[lW] at l1a l1b
   (repeat' (first | refine Zl (J9 ne f1 f2 f3 f4 z0 z1 z2 (J9 hn.symm @vN @vX @vF @vT @cN @cX @cF (J5 @cT p0 p1 u1 w1))) ?_ | refine Zz0 (QW c i (-1) dO dO) λgn=>?_ | refine ZE trivial [((E8 c i (-1)):Int)] ?_ | fail))
   refine D5.La (l:=(List.range i).map (λ(j:Nat)=>E8 c j (-1))) (m:=[E8 c i (-1)]) [GB ra (List.replicate i Fl++[Fl])] [GB FV (List.replicate i ([]:List Np)),GB TV (List.replicate i ([]:List (List Int)))] (own1.D8 ah0 (λt ht _=>by (try simp only[lW] at ht);simp only[D1.Eg,lW];first | (rw[if_neg dO]<;>rfl) | rfl)) (EN _ _ _ rfl) rfl (by unfold reach;simp;omega) iF ah0 (λrb gn2 lo2 lv2 own2 l2a l2b l2c=>?_);have b2:App _ σ.next rb ((List.range i).map (λ(j:Nat)=>E8 c j (-1))++[E8 c i (-1)]):=own2.app (v:=rb) (l:=(List.range i).map (λ(j:Nat)=>E8 c j (-1))++[E8 c i (-1)]) iN;have u2:=λm=>b2.all m
   have w2:=b2.cs;simp only[lW] at l2a l2b
   (repeat' (first | refine Zl (J9 ne f1 f2 f3 f4 z0 z1 z2 (J9 hn.symm @vN @vX @vF @vT @cN @cX @cF (J7 @cT p0 p1 u1 w1 u2 w2))) ?_ | refine ZE trivial [(([]:List Np):List Np)] ?_ | fail))
   refine D5.La (l:=List.replicate i ([]:List Np)) (m:=[([]:List Np)]) [GB ra (List.replicate i Fl++[Fl]),GB rb ((List.range i).map (λ(j:Nat)=>E8 c j (-1))++[E8 c i (-1)])] [GB TV (List.replicate i ([]:List (List Int)))] (own2.D8 ah0 (λt ht _=>by (try simp only[lW] at ht);simp only[D1.Eg,lW];first | (rw[if_neg dO]<;>rfl) | rfl)) (EN _ _ _ rfl) rfl (by unfold reach;simp;omega) iF ah0 (λrc gn3 lo3 lv3 own3 l3a l3b l3c=>?_);have b3:App _ σ.next rc (List.replicate i ([]:List Np)++[([]:List Np)]):=own3.app (v:=rc) (l:=List.replicate i ([]:List Np)++[([]:List Np)]) iN;have u3:=λm=>b3.all m
   have w3:=b3.cs;simp only[lW] at l3a l3b
   (repeat' (first | refine Zl (J9 ne f1 f2 f3 f4 z0 z1 z2 (J9 hn.symm @vN @vX @vF @vT @cN @cX @cF (J9 @cT p0 p1 u1 w1 u2 w2 u3 w3))) ?_ | refine ZE trivial [(([]:List LI):List LI)] ?_ | fail))
   refine D5.La (l:=List.replicate i ([]:List (List Int))) (m:=[([]:List (List Int))]) [GB ra (List.replicate i Fl++[Fl]),GB rb ((List.range i).map (λ(j:Nat)=>E8 c j (-1))++[E8 c i (-1)]),GB rc (List.replicate i ([]:List Np)++[([]:List Np)])] [] (own3.D8 ah0 (λt ht _=>by (try simp only[lW] at ht);simp only[D1.Eg,lW];first | (rw[if_neg dO]<;>rfl) | rfl)) (EN _ _ _ rfl) rfl (by unfold reach;simp;omega) iF ah0 (λrd gn4 lo4 lv4 own4 l4a l4b l4c=>?_);have b4:App _ σ.next rd (List.replicate i ([]:List (List Int))++[([]:List (List Int))]):=own4.app (v:=rd) (l:=List.replicate i ([]:List (List Int))++[([]:List (List Int))]) iN;have u4:=λm=>b4.all m
   have w4:=b4.cs;simp only[lW] at l4a l4b
   refine Zl (J9 ne f1 f2 f3 f4 z0 z1 z2 (J9 hn.symm @vN @vX @vF @vT @cN @cX @cF (J9 @cT p0 p1 u1 w1 u2 w2 u3 (J3 w3 u4 w4)))) ?_
   refine⟨m - 1,dO,dO,dO,i+1,ra,rb,rc,rd,Fv dO,dO,rfl,?_⟩;rw[Cj,Cj,Cj,CW,AX];exact own4.D8 ah0 (λ_ _ _=>rfl)
  ·obtain rfl:i=n:=dO
   exact⟨hlo,hnx,NV,XV,FV,TV,rfl,own⟩
 ·rintro fe Z ⟨f2,f3,hlo,hnx,z1,NV,XV,FV,TV,z2,own⟩
  have aN:App Z σ.next NV (List.replicate n Fl):=own.app iN;have aX:App Z σ.next XV ((List.range n).map λ(j:Nat)=>E8 c j (-1)):=own.app iN;have aF:App Z σ.next FV (List.replicate n ([]:List Np)):=own.app iN;have aT:App Z σ.next TV (List.replicate n ([]:List (List Int))):=own.app iN;have vN:=λm=>aN.all m
  have vX:=λm=>aX.all m
  have vF:=λm=>aF.all m
  have vT:=λm=>aT.all m
  have gN:=aN.fg;have gX:=aX.fg;have gF:=aF.fg;have gT:=aT.fg
  (repeat' (first | simp +decide only[↓Em,wA,↓reduceIte,Nat.reduceAdd,D0,f2,f3,z1,z2,jx,vN,vX,vF,vT,gN,gX,gF,gT,EA]))
  have m1:c.first.map (λ_=>Fl)=List.replicate n Fl:=by rw[hn,DO]
  have m2:c.first.map (λ_=>([]:List Np))=List.replicate n []:=by rw[hn,DO]
  have m3:c.first.map (λ_=>([]:List (List Int)))=List.replicate n []:=by rw[hn,DO]
  exact⟨hlo,rfl,rfl,rfl,rfl,rfl,rfl,rfl,rfl,by rw[<- m1];rfl,rfl,by rw[hn];rfl,rfl,by rw[<- m2];rfl,by rw[<- m3];rfl,rfl,rfl⟩
end
section
variable [Prim Tryz.prog]
set_option maxHeartbeats 1000000 in
def Y8(w:E4){k o:Int}(h:WI w k o)(σ:D1):VC Tryz.prog 59 [.agg (DZ.e w)] σ (λr σ'=>r=.agg (WV w ⟨σ.next+2,σ.next+3,σ.next+4,σ.next+5⟩)/\σ.next<=σ'.low/\σ.next<=σ'.next/\WR σ' σ.next w ⟨σ.next+2,σ.next+3,σ.next+4,σ.next+5⟩):=by
 have h1:=h.cfg.first
 have h2:=h.nl;have h3:=h.xl;have h4:=h.fal;have h5:=h.trl;refine Ea XF59 ?_
 refine Zl (J3 @xf59.eq_1 @lR @SZ) ?_
 refine D5.rw0 (Gf _ _ rfl) rfl (by unfold reach;omega) iF dO ?_
 refine Zl (J2 @lR @SZ) ?_
 refine D5.rw0 (Gf _ _ rfl) rfl (by unfold reach;omega) iF dO ?_
 refine Zl (J2 @lR @SZ) ?_
 refine D5.rw0 (Gf _ _ rfl) rfl (by unfold reach;omega) iF dO ?_
 refine Zl (J2 @lR @SZ) ?_
 refine D5.rw0 (Gf _ _ rfl) rfl (by unfold reach;omega) iF dO ?_
 refine Zl (J2 @lR @SZ) ?_
 refine⟨rfl,?_⟩;have hR:∀ {α:Type} [DZ α] {id:Nat} {l:List α} {t:TypeId} {Y:D1} (q:Nat),Y.heap id=.cells (D4 l) t (DZ.w α) q->σ.next<=q->q<=id->id < Y.next->LA Y σ.next id l:=λq h1 h2 h3 h4=>⟨_,q,h2,h3,h4,h1⟩
 exact {
  n:=hR (σ.next+2) (by simp +decide only[wA,↓reduceIte,Nat.reduceAdd];rfl) dO (Af _) (by show σ.next+2 < _;simp only[lW];omega)
  x:=hR (σ.next+3) (by simp +decide only[wA,↓reduceIte,Nat.reduceAdd];rfl) dO (Af _) (by show σ.next+3 < _;simp only[lW];omega)
  f:=hR (σ.next+4) (by simp +decide only[wA,↓reduceIte,Nat.reduceAdd];rfl) dO (Af _) (by show σ.next+4 < _;simp only[lW];omega)
  t:=hR (σ.next+5) (by simp +decide only[wA,↓reduceIte,Nat.reduceAdd];rfl) dO (Af _) (by show σ.next+5 < _;simp only[lW];omega)
  nx:=ab0
  nf:=ab0
  nt:=ab0
  xf:=ab0
  xt:=ab0
  ft:=by dsimp only;omega }
end
def Pp(b:Nat)(w:E4)(n:Nat)(s:FZ)(z:Nat)(L:List Fu)(fe:FV)(Y:D1):Prop:=
 fe 1=.ptr b 0/\fe 4=vi n/\fe 5=.ptr z 0/\b<=Y.low/\z+1<=Y.next/\Y.heap b=.cells (DZ.e w) 68 16 b/\Y.heap z=.cells (DZ.e s) 124 52 z/\∃ ov,fe 3=ov/\Rd ov (HM [] L)
def gJ(L:List Fu)(e:Fu):HM [] (L++[e])=Qh (HM [] L) e:=by rw[Po,mu]
def MY{L:List Fu}{k:Nat}(h:L.length<=k):(HM [] L).length<=k:=by have:=Qi L [];simp at this;omega
def Ef{l:List Fu}{e:Fu}{k:Nat}(h:l.length<=k):(Qh l e).length<=k+1:=An (Y3 l e) dO
def Pp.lo{b n z:Nat}{w:E4}{s:FZ}{L:List Fu}{fe:FV}{Y:D1}(h:Pp b w n s z L fe Y):b<=Y.low:=h.2.2.2.1
def Pp.D8{b n z:Nat}{w:E4}{s:FZ}{L:List Fu}{fe fe':FV}{Y Y':D1}(h:Pp b w n s z L fe Y)(e1:fe' 1=fe 1)(e4:fe' 4=fe 4)(e5:fe' 5=fe 5)(e3:fe' 3=fe 3)(hl:b<=Y'.low)(hn:Y.next<=Y'.next)(hb:Y'.heap b=Y.heap b)(hz:Y'.heap z=Y.heap z):Pp b w n s z L fe' Y':=by
 obtain⟨g1,g4,g5,glo,gn2,gb,gz,ov,g3,hov⟩:=h;exact⟨e1.trans g1,e4.trans g4,e5.trans g5,hl,dO,hb.trans gb,hz.trans gz,ov,e3.trans g3,hov⟩
def Pp.NY{b n z:Nat}{w:E4}{s:FZ}{L:List Fu}(es:List Fu){fe fe':FV}{Y Y':D1}(h:Pp b w n s z L fe Y)(e1:fe' 1=fe 1)(e4:fe' 4=fe 4)(e5:fe' 5=fe 5)(e3:fe' 3=vl (HM (HM [] L) es))(hl:b<=Y'.low)(hn:Y.next<=Y'.next)(hb:Y'.heap b=Y.heap b)(hz:Y'.heap z=Y.heap z):Pp b w n s z (L++es) fe' Y':=by
 obtain⟨g1,g4,g5,glo,gn2,gb,gz,ov,g3,hov⟩:=h;exact⟨e1.trans g1,e4.trans g4,e5.trans g5,hl,dO,hb.trans gb,hz.trans gz,_,e3,.inr (.inr (by rw[Po]))⟩
section
variable [Prim Tryz.prog]
set_option maxHeartbeats 4000000 in
set_option maxRecDepth 100000 in
def Pq(w:E4){k o:Int}(h:WI w k o)(hk:k<=5000):VD Tryz.prog 32 [.agg (DZ.e w)] (vl (FO w)):=by
 intro σ;have h1:=h.cfg.first
 have h2:=h.nl;have h3:=h.xl;have h4:=h.fl;have h5:=h.cfg.rlen;have hwN:((DZ.e w).drop 8).take 1=[vl w.nodes]:=rfl;have hwF:((DZ.e w).drop 9).take 1=[vl w.flight]:=rfl;have hwX:((DZ.e w).drop 10).take 1=[vl w.next]:=rfl;have hwR:((DZ.e w).drop 2).take 1=[vl w.c.restarts]:=rfl;have hw1:((DZ.e w).drop 1).take 1=[vl w.c.first]:=rfl;have hw4:((DZ.e w).drop 4).take 1=[vi w.c.crashes]:=rfl;have hw5:((DZ.e w).drop 5).take 1=[vi w.c.drops]:=rfl;have hw6:((DZ.e w).drop 6).take 1=[vi w.c.dups]:=rfl;have hc40:∀ s:FZ,((DZ.e s).drop 48).take 1=[vi (s.counts 40)]:=λs=>HF s 40 iF
 refine HU XF32 (λN=>?_);unfold xf32;dsimp only;refine El.seq (El.of ?_)
 refine Zy0 ?_
 refine El.seq (El.of ?_)
 refine Zy0 ?_
 refine El.seq ?_;refine El.seq (El.of ?_)
 refine Zy0 ?_
 refine El.block ?_;refine El.jy 0 (λm fe Z=>fe 1=.ptr σ.next 0/\σ.next<=Z.low/\σ.next+1<=Z.next/\Z.heap σ.next=.cells (DZ.e w) 68 16 σ.next/\∃ (n:Nat) (ov:VV),fe 4=vi n/\fe 3=ov/\m+n=w.nodes.length/\Rd ov (HM [] (Oz w n)))
  (λfe Z=>σ.next<=Z.low/\∃ ov,fe 3=ov/\Rd ov (HM [] (Oz w w.nodes.length))) w.nodes.length ?_ ?_ ?_
 ·refine Zy0 ?_
  exact⟨0,_,rfl,rfl,rfl,.inl ⟨rfl,rfl⟩⟩
 ·rintro m fe Z ⟨f1,hlo,hn,z0,n,ov,f4,f3,hm,hov⟩
  refine El.Pr (λfe Y=>fe 1=.ptr σ.next 0/\fe 4=vi n/\fe 3=ov/\n < w.nodes.length/\Y=Z) (El.of ?_) ?_
  ·(repeat' (first | refine Zl (J9 f1 f3 f4 z0 hwN hwF hwX hwR (J8 hw1 hw4 hw5 hw6 @E7 @EI @EG @EH)) ?_ | refine Zb (λ_ gd=>?_) λ_ gd=>?_ | fail))
   ·omega
   ·obtain rfl:n=w.nodes.length:=dO
    exact⟨hlo,_,rfl,hov⟩
  rintro fe Y ⟨f1,f4,f3,hlt,rfl⟩;obtain⟨s,hs⟩:∃ s,s=w.nodes[n]:=⟨_,rfl⟩
  have hsm:s∈w.nodes:=by rw[hs];exact Ao hlt
  have hnd:=h.node s hsm;have htl:=hnd.timl;have hE:=Y5 h hk n dO;have hEn:n * 302000<=12 * 302000:=AL _ dO;have e1:=Tq w n s;have hev:Oz w (n+1)=Oz w n++VF w n s:=by rw[U4 w n hlt,hs]
  obtain⟨E,hEd⟩:∃ E,E=Oz w n:=⟨_,rfl⟩
  rw[<- hEd] at hov hE hev;have q1:((DZ.e s).drop 1).take 1=[vi s.version]:=rfl;have q50:((DZ.e s).drop 50).take 1=[vi s.dropped]:=rfl;have q51:((DZ.e s).drop 51).take 1=[vi s.doubled]:=rfl;have q49:((DZ.e s).drop 49).take 1=[vi s.waiting]:=rfl;have q7:((DZ.e s).drop 7).take 1=[vl s.timers]:=rfl;have q0:(DZ.e s).take 1=[vb s.up]:=rfl;have q48:=hc40 s;have w1:=JQ (show n<=1000000000 by omega);have hnf:n < w.c.first.length:=dO
  have hnx:n < w.next.length:=dO
  obtain⟨z,hz⟩:∃ z,z=Y.next:=⟨_,rfl⟩
  have hzb:σ.next≠z:=dO
  obtain⟨A,hAd⟩:∃ A,A=(if s.up then [] else na n (JT w n s)):=⟨_,rfl⟩
  obtain⟨B,hBd⟩:∃ B,B=(RT n w.flight).flatMap (my w n s):=⟨_,rfl⟩
  obtain⟨C,hCd⟩:∃ C,C=(if s.up/\s.waiting < 0/\0<=w.next.getD n 0 then [(⟨2,n,w.next.getD n 0,Jj⟩:Fu)] else []):=⟨_,rfl⟩
  obtain⟨D,hDd⟩:∃ D,D=(if s.up then ng n s.timers else []):=⟨_,rfl⟩
  rw[<- hAd,<- hBd,<- hCd,<- hDd] at e1;have lV:(JT w n s).length<=1000:=by unfold JT;split<;>(try split)<;>(try simp)<;>omega
  have lA:A.length<=1000:=by rw[hAd];split<;>(try simp[na])<;>omega
  have lM:(RT n w.flight).length<=100000:=by
   have:(RT n w.flight).length<=w.flight.length:=by unfold RT;rw[AJ];exact Bh _ _
   omega
  have lB:B.length<=300000:=by
   have:=K0 (my w n s) 3 (WD w n s) (RT n w.flight);rw[hBd];omega
  have lC:C.length<=1:=by rw[hCd];split<;>simp
  have lD:D.length<=8:=by rw[hDd];split<;>(try simp[ng])<;>omega
  have zb1:(σ.next=z)=False:=eq_false hzb;have zb2:(z=σ.next)=False:=eq_false (BR hzb);refine El.Pr (λfe Y=>fe 1=.ptr σ.next 0/\fe 4=vi n/\σ.next<=Y.low/\σ.next+1<=Y.next/\Y.heap σ.next=.cells (DZ.e w) 68 16 σ.next/\∃ ov,fe 3=ov/\Rd ov (HM [] (Oz w (n+1)))) (El.block ?_) ?_
  rotate_left 1
  ·rintro fe X ⟨f1,f4,xlo,xn,x0,ov,f3,hov⟩
   refine El.of ?_
   refine Zl (J4 f1 f3 f4 w1) ?_
   exact⟨m - 1,dO,xlo,xn,x0,n+1,_,rfl,rfl,dO,hov⟩
  refine El.Pr (Pp σ.next w n s z E) (El.of ?_) ?_
  ·refine Zl (J9 f1 f3 f4 z0 hwN hwF hwX hwR (J9 hw1 hw4 hw5 hw6 @E7 @EI @EG @EH hs.symm)) ?_
   unfold Pp;have b1:∀ x,(σ.next=Y.next+x)=False:=λx=>eq_false dO
   have b2:(σ.next=Y.next)=False:=eq_false dO;have b3:(Y.next=σ.next)=False:=eq_false dO
   refine Zl (J8 f1 f3 f4 hz z0 b1 b2 b3) ?_
   exact⟨⟨dO,dO⟩,_,rfl,hov⟩
  rintro fe X hX;obtain⟨g1,g4,g5,glo,gn2,gb,gz,ov,g3,hov⟩:=id hX;have gfg:=hov.fg;obtain⟨L1,hL1⟩:∃ L1,L1=E++A:=⟨_,rfl⟩
  have lL1:L1.length<=3700000:=by rw[hL1,Ad];omega
  refine El.Pr (Pp σ.next w n s z L1) ?_ ?_
  ·refine El.seq (El.of ?_)
   refine Zl (J9 g1 g3 g4 g5 gb gz gfg zb1 (J9 zb2 hwN hwF hwX hwR hw1 hw4 hw5 (J9 hw6 @E7 @EI @EG @EH q0 q1 q7 (J4 q48 q49 q50 q51)))) ?_
   cases hup:s.up
   ·refine El.rC (by simp +decide only[↓Em,wA]) ?_
    rw[hup] at hAd;simp only[AW,if_false] at hAd;refine El.seq (El.of ?_)
    refine Zl (J9 g1 g3 g4 g5 gb gz gfg zb1 (J9 zb2 hwN hwF hwX hwR hw1 hw4 hw5 (J9 hw6 @E7 @EI @EG @EH q0 q1 q7 (J4 q48 q49 q50 q51)))) ?_
    refine El.Pr (λfe X=>Pp σ.next w n s z E fe X/\∃ vv,fe 6=vv/\Rd vv (JT w n s)) (El.of ?_) ?_
    ·(repeat' (first | refine Zl (J9 g1 g3 g4 g5 gb gz gfg zb1 (J9 zb2 hwN hwF hwX hwR hw1 hw4 hw5 (J9 hw6 @E7 @EI @EG @EH q0 q1 q7 (J4 q48 q49 q50 q51)))) ?_ | refine Zb (λ_ gd=>?_) λ_ gd=>?_ | refine ZE trivial [((w.c.first[n]' dO):Int)] ?_ | refine ZE trivial [(s.version:Int)] ?_ | fail))
     ·refine⟨hX.D8 (rfl) (rfl) (rfl) (rfl) (by have q9:=hX.lo;(try simp only[Ji]);omega) (by have q9:=hX.lo;(try simp only[Hq]);omega) (by (try simp +decide only[wA])) (by (try simp +decide only[wA])),_,rfl,?_⟩
      have hve:JT w n s=[w.c.first[n]' dO]:=by
       unfold JT;rw[if_pos IF,getD_some (Ah hnf)]
      rw[hve];exact .inr (.inl ⟨_,rfl⟩)
     ·refine⟨hX.D8 (rfl) (rfl) (rfl) (rfl) (by have q9:=hX.lo;(try simp only[Ji]);omega) (by have q9:=hX.lo;(try simp only[Hq]);omega) (by (try simp +decide only[wA])) (by (try simp +decide only[wA])),_,rfl,?_⟩
      have hve:JT w n s=[s.version]:=by
       unfold JT;rw[if_neg IF,if_pos dO]
      rw[hve];exact .inr (.inl ⟨_,rfl⟩)
     ·refine⟨hX.D8 (rfl) (rfl) (rfl) (rfl) (by have q9:=hX.lo;(try simp only[lW]);omega) (by have q9:=hX.lo;(try simp only[lW]);omega) (by (try simp +decide only[eq_self])) (by (try simp +decide only[eq_self])),_,rfl,?_⟩
      have hve:JT w n s=w.c.restarts:=by
       unfold JT;rw[if_neg IF,if_neg dO]
      rw[hve];exact .inr (.inr rfl)
    rintro fe X ⟨hX,vv,f6,hvv⟩;obtain⟨V,hV⟩:∃ V,V=JT w n s:=⟨_,rfl⟩
    rw[<- hV] at hvv lV hAd;refine El.of ?_
    refine Zl f6 ?_
    refine Ek 2 (λm fe X=>∃ i:Nat,Pp σ.next w n s z (E++na n (V.take i)) fe X/\fe 6=vv/\fe 7=vi i/\m+i=V.length) (λfe X=>Pp σ.next w n s z L1 fe X) V.length ?_ ?_ ?_
    ·refine Zl f6 ?_
     refine⟨0,?_,rfl,dO⟩;rw[A6];show Pp _ _ _ _ _ (E++[]) _ _
     rw[AP];exact hX.D8 (rfl) (rfl) (rfl) (rfl) (by have q9:=hX.lo;(try simp only[lW]);omega) (by have q9:=hX.lo;(try simp only[lW]);omega) (by (try simp +decide only[eq_self])) (by (try simp +decide only[eq_self]))
    ·rintro m2 fe X ⟨i,hX,f6,f7,hm2⟩
     obtain⟨g1,g4,g5,glo,gn2,gb,gz,ov,g3,hov⟩:=id hX;have gfg:=hov.fg;have hl0:(HM [] (E++na n (V.take i))).length<=5000000:=MY (by rw[Ad];unfold na;rw[AJ,As];omega);rcases (show i < V.length\/i=V.length by omega) with hil | hil
     ·(repeat' (first | refine Zl (J9 g1 g3 g4 g5 gb gz gfg zb1 (J9 zb2 hwN hwF hwX hwR hw1 hw4 hw5 (J9 hw6 @E7 @EI @EG @EH q0 q1 q7 (J6 q48 q49 q50 q51 f6 f7)))) ?_ | refine ZF (J9 g1 g3 g4 g5 gb gz gfg zb1 (J9 zb2 hwN hwF hwX hwR hw1 hw4 hw5 (J9 hw6 @E7 @EI @EG @EH q0 q1 q7 (J6 q48 q49 q50 q51 f6 f7)))) (Fc _ (⟨1,n,V[i]' dO,Jj⟩:Fu) (by first | exact An hl0 iF | exact An (Ef hl0) iF | exact An (Ef (Ef hl0)) iF)) λgn=>?_ | refine Zb (λ_ gd=>?_) λ_ gd=>?_ | refine ZR (zr Int) ?_ | fail))
      all_goals first | (exfalso;omega) | skip
      refine⟨m2 - 1,dO,i+1,?_,Fv dO,dO⟩;have hq:na n (V.take (i+1))=na n (V.take i)++[⟨1,n,V[i]' dO,Jj⟩]:=by unfold na;rw[map_take _ _ i dO]
      rw[hq,<- AU];exact hX.NY [_] (rfl) (rfl) (rfl) (rfl) (by have q9:=hX.lo;(try simp only[GQ]);omega) (by have q9:=hX.lo;(try simp only[FP]);omega) (by (try simp +decide only[wA])) (by (try simp +decide only[wA]))
     ·subst hil
      rw[BK,<- hAd,<- hL1] at hX
      (repeat' (first | refine Zl (J2 f6 f7) ?_ | refine Zb (λ_ gd=>?_) λ_ gd=>?_ | refine ZR (zr Int) ?_ | fail))
      all_goals first
       | (exact hX.D8 (rfl) (rfl) (rfl) (rfl) (by have q9:=hX.lo;(try simp only[lW]);omega) (by have q9:=hX.lo;(try simp only[lW]);omega) (by (try simp +decide only[eq_self])) (by (try simp +decide only[eq_self])))
       | (exfalso;omega)
    ·intro fe X hX
     refine Zy0 ?_
     exact hX
   ·refine El.jz (by simp +decide only[↓Em,wA]) (El.of ?_)
    rw[hup] at hAd;simp only[if_true] at hAd;rw[hAd,AP] at hL1;rw[hL1]
    refine Zy0 ?_
    exact hX.D8 (rfl) (rfl) (rfl) (rfl) (by have q9:=hX.lo;(try simp only[lW]);omega) (by have q9:=hX.lo;(try simp only[lW]);omega) (by (try simp +decide only[eq_self])) (by (try simp +decide only[eq_self]))
  rintro fe X hX;obtain⟨g1,g4,g5,glo,gn2,gb,gz,ov,g3,hov⟩:=id hX;have gfg:=hov.fg;obtain⟨M,hM⟩:∃ M,M=RT n w.flight:=⟨_,rfl⟩
  have hto:=wo w.flight n dO;rw[<- hM] at hto lM hBd;obtain⟨L2,hL2⟩:∃ L2,L2=L1++B:=⟨_,rfl⟩
  have lL2:L2.length<=4000000:=by rw[hL2,Ad];omega
  refine El.Pr (λfe X=>Pp σ.next w n s z L1 fe X/\fe 8=vl M) (El.of ?_) ?_
  ·(repeat' (first | refine Zl (J9 g1 g3 g4 g5 gb gz gfg zb1 (J9 zb2 hwN hwF hwX hwR hw1 hw4 hw5 (J9 hw6 @E7 @EI @EG @EH q0 q1 q7 (J4 q48 q49 q50 q51)))) ?_ | refine Zz0 hto λgn=>?_ | fail))
   exact hX.D8 (rfl) (rfl) (rfl) (rfl) (by have q9:=hX.lo;(try simp only[GQ]);omega) (by have q9:=hX.lo;(try simp only[FP]);omega) (by (try simp +decide only[wA])) (by (try simp +decide only[wA]))
  rintro fe X ⟨hX,f8⟩;refine El.Pr (Pp σ.next w n s z L2) (El.of ?_) ?_
  ·refine Zl f8 ?_
   refine Ek 4 (λm fe X=>∃ i:Nat,Pp σ.next w n s z (L1++(M.take i).flatMap (my w n s)) fe X/\fe 8=vl M/\fe 9=vi i/\m+i=M.length) (λfe X=>Pp σ.next w n s z L2 fe X) M.length ?_ ?_ ?_
   ·refine Zl f8 ?_
    refine⟨0,?_,rfl,dO⟩;rw[A6];show Pp _ _ _ _ _ (L1++[]) _ _
    rw[AP];exact hX.D8 (rfl) (rfl) (rfl) (rfl) (by have q9:=hX.lo;(try simp only[lW]);omega) (by have q9:=hX.lo;(try simp only[lW]);omega) (by (try simp +decide only[eq_self])) (by (try simp +decide only[eq_self]))
   ·rintro m2 fe X ⟨i,hX,f8,f9,hm2⟩
    obtain⟨g1,g4,g5,glo,gn2,gb,gz,ov,g3,hov⟩:=id hX;have gfg:=hov.fg;have hl0:(HM [] (L1++(M.take i).flatMap (my w n s))).length<=5000000:=MY (by
     have:=K0 (my w n s) 3 (WD w n s) (M.take i);rw[As] at this;simp only[Ad];omega)
    rcases (show i < M.length\/i=M.length by omega) with hil | hil
    ·have hfin:∀ (es:List Fu) (fe':FV) (X':D1),Pp σ.next w n s z (L1++(M.take i).flatMap (my w n s)++es) fe' X'->es=my w n s M[i]->Pp σ.next w n s z (L1++(M.take (i+1)).flatMap (my w n s)) fe' X':=λes fe' X' hh he=>by
      rw[WE _ _ i hil,<- AU,<- he];exact hh
     obtain⟨mi,hmi⟩:∃ mi,mi=M[i]:=⟨_,rfl⟩
     have hB1:my w n s M[i]=(if s.up then [(⟨3,n,0,mi⟩:Fu)] else [])++((if s.dropped < w.c.drops then [⟨5,n,0,mi⟩] else [])++(if s.doubled < w.c.dups then [⟨6,n,0,mi⟩] else [])):=by rw[hmi];rfl
     have hil2:((i:Int) < M.length)=True:=eq_true dO;cases hup:s.up
     ·rw[hup] at hB1 q0
      rcases C4 (s.dropped < w.c.drops) with hdd | hdd
      ·have d1:(s.dropped < w.c.drops)=True:=eq_true hdd
       rw[if_pos hdd] at hB1;rcases C4 (s.doubled < w.c.dups) with hbb | hbb
       ·have d2:(s.doubled < w.c.dups)=True:=eq_true hbb
        rw[if_pos hbb] at hB1
        (repeat' (first | refine Zl (J9 g1 g3 g4 g5 gb gz gfg zb1 (J9 zb2 hwN hwF hwX hwR hw1 hw4 hw5 (J9 hw6 @E7 @EI @EG @EH q0 q1 q7 (J9 q48 q49 q50 q51 f8 f9 hmi.symm hup (J3 d1 d2 hil2))))) ?_ | refine ZF (J9 g1 g3 g4 g5 gb gz gfg zb1 (J9 zb2 hwN hwF hwX hwR hw1 hw4 hw5 (J9 hw6 @E7 @EI @EG @EH q0 q1 q7 (J9 q48 q49 q50 q51 f8 f9 hmi.symm hup (J3 d1 d2 hil2))))) (Fc _ (⟨5,n,0,mi⟩:Fu) (by first | exact An hl0 iF | exact An (Ef hl0) iF | exact An (Ef (Ef hl0)) iF)) λgn=>?_ | ((with_reducible apply Ey.dP);((try simp only[fG]);exact rfl);(first | exact Fc _ (⟨5,n,0,mi⟩:Fu) (by first | exact An hl0 iF | exact An (Ef hl0) iF | exact An (Ef (Ef hl0)) iF) | exact Fc _ (⟨6,n,0,mi⟩:Fu) (by first | exact An hl0 iF | exact An (Ef hl0) iF | exact An (Ef (Ef hl0)) iF));intro gn) | fail))
        exact⟨m2 - 1,dO,i+1,hfin [⟨5,n,0,mi⟩,⟨6,n,0,mi⟩] _ _ (hX.NY [⟨5,n,0,mi⟩,⟨6,n,0,mi⟩] (rfl) (rfl) (rfl) (rfl) (by have q9:=hX.lo;(try simp only[GQ]);omega) (by have q9:=hX.lo;(try simp only[FP]);omega) (by (try simp +decide only[wA])) (by (try simp +decide only[wA]))) (by rw[hB1];rfl),Fv dO,dO⟩
       ·have d2:(s.doubled < w.c.dups)=False:=eq_false hbb
        rw[if_neg hbb] at hB1
        (repeat' (first | refine Zl (J9 g1 g3 g4 g5 gb gz gfg zb1 (J9 zb2 hwN hwF hwX hwR hw1 hw4 hw5 (J9 hw6 @E7 @EI @EG @EH q0 q1 q7 (J9 q48 q49 q50 q51 f8 f9 hmi.symm hup (J3 d1 d2 hil2))))) ?_ | refine ZF (J9 g1 g3 g4 g5 gb gz gfg zb1 (J9 zb2 hwN hwF hwX hwR hw1 hw4 hw5 (J9 hw6 @E7 @EI @EG @EH q0 q1 q7 (J9 q48 q49 q50 q51 f8 f9 hmi.symm hup (J3 d1 d2 hil2))))) (Fc _ (⟨5,n,0,mi⟩:Fu) (by first | exact An hl0 iF | exact An (Ef hl0) iF | exact An (Ef (Ef hl0)) iF)) λgn=>?_ | fail))
        exact⟨m2 - 1,dO,i+1,hfin [⟨5,n,0,mi⟩] _ _ (hX.NY [⟨5,n,0,mi⟩] (rfl) (rfl) (rfl) (rfl) (by have q9:=hX.lo;(try simp only[GQ]);omega) (by have q9:=hX.lo;(try simp only[FP]);omega) (by (try simp +decide only[wA])) (by (try simp +decide only[wA]))) (by rw[hB1];rfl),Fv dO,dO⟩
      ·have d1:(s.dropped < w.c.drops)=False:=eq_false hdd
       rw[if_neg hdd] at hB1;rcases C4 (s.doubled < w.c.dups) with hbb | hbb
       ·have d2:(s.doubled < w.c.dups)=True:=eq_true hbb
        rw[if_pos hbb] at hB1
        (repeat' (first | refine Zl (J9 g1 g3 g4 g5 gb gz gfg zb1 (J9 zb2 hwN hwF hwX hwR hw1 hw4 hw5 (J9 hw6 @E7 @EI @EG @EH q0 q1 q7 (J9 q48 q49 q50 q51 f8 f9 hmi.symm hup (J3 d1 d2 hil2))))) ?_ | refine ZF (J9 g1 g3 g4 g5 gb gz gfg zb1 (J9 zb2 hwN hwF hwX hwR hw1 hw4 hw5 (J9 hw6 @E7 @EI @EG @EH q0 q1 q7 (J9 q48 q49 q50 q51 f8 f9 hmi.symm hup (J3 d1 d2 hil2))))) (Fc _ (⟨6,n,0,mi⟩:Fu) (by first | exact An hl0 iF | exact An (Ef hl0) iF | exact An (Ef (Ef hl0)) iF)) λgn=>?_ | fail))
        exact⟨m2 - 1,dO,i+1,hfin [⟨6,n,0,mi⟩] _ _ (hX.NY [⟨6,n,0,mi⟩] (rfl) (rfl) (rfl) (rfl) (by have q9:=hX.lo;(try simp only[GQ]);omega) (by have q9:=hX.lo;(try simp only[FP]);omega) (by (try simp +decide only[wA])) (by (try simp +decide only[wA]))) (by rw[hB1];rfl),Fv dO,dO⟩
       ·have d2:(s.doubled < w.c.dups)=False:=eq_false hbb
        rw[if_neg hbb] at hB1
        refine Zl (J9 g1 g3 g4 g5 gb gz gfg zb1 (J9 zb2 hwN hwF hwX hwR hw1 hw4 hw5 (J9 hw6 @E7 @EI @EG @EH q0 q1 q7 (J9 q48 q49 q50 q51 f8 f9 hmi.symm hup (J3 d1 d2 hil2))))) ?_
        exact⟨m2 - 1,dO,i+1,hfin [] _ _ ((by rw[AP];exact hX.D8 (rfl) (rfl) (rfl) (rfl) (by have q9:=hX.lo;(try simp only[lW]);omega) (by have q9:=hX.lo;(try simp only[lW]);omega) (by (try simp +decide only[eq_self])) (by (try simp +decide only[eq_self])))) (by rw[hB1];rfl),Fv dO,dO⟩
     ·rw[hup] at hB1 q0
      rcases C4 (s.dropped < w.c.drops) with hdd | hdd
      ·have d1:(s.dropped < w.c.drops)=True:=eq_true hdd
       rw[if_pos hdd] at hB1;rcases C4 (s.doubled < w.c.dups) with hbb | hbb
       ·have d2:(s.doubled < w.c.dups)=True:=eq_true hbb
        rw[if_pos hbb] at hB1
        (repeat' (first | refine Zl (J9 g1 g3 g4 g5 gb gz gfg zb1 (J9 zb2 hwN hwF hwX hwR hw1 hw4 hw5 (J9 hw6 @E7 @EI @EG @EH q0 q1 q7 (J9 q48 q49 q50 q51 f8 f9 hmi.symm hup (J3 d1 d2 hil2))))) ?_ | refine ZF (J9 g1 g3 g4 g5 gb gz gfg zb1 (J9 zb2 hwN hwF hwX hwR hw1 hw4 hw5 (J9 hw6 @E7 @EI @EG @EH q0 q1 q7 (J9 q48 q49 q50 q51 f8 f9 hmi.symm hup (J3 d1 d2 hil2))))) (Fc _ (⟨3,n,0,mi⟩:Fu) (by first | exact An hl0 iF | exact An (Ef hl0) iF | exact An (Ef (Ef hl0)) iF)) λgn=>?_ | ((with_reducible apply Ey.dP);((try simp only[fG]);exact rfl);(first | exact Fc _ (⟨3,n,0,mi⟩:Fu) (by first | exact An hl0 iF | exact An (Ef hl0) iF | exact An (Ef (Ef hl0)) iF) | exact Fc _ (⟨5,n,0,mi⟩:Fu) (by first | exact An hl0 iF | exact An (Ef hl0) iF | exact An (Ef (Ef hl0)) iF) | exact Fc _ (⟨6,n,0,mi⟩:Fu) (by first | exact An hl0 iF | exact An (Ef hl0) iF | exact An (Ef (Ef hl0)) iF));intro gn) | fail))
        exact⟨m2 - 1,dO,i+1,hfin [⟨3,n,0,mi⟩,⟨5,n,0,mi⟩,⟨6,n,0,mi⟩] _ _ (hX.NY [⟨3,n,0,mi⟩,⟨5,n,0,mi⟩,⟨6,n,0,mi⟩] (rfl) (rfl) (rfl) (rfl) (by have q9:=hX.lo;(try simp only[GQ]);omega) (by have q9:=hX.lo;(try simp only[FP]);omega) (by (try simp +decide only[wA])) (by (try simp +decide only[wA]))) (by rw[hB1];rfl),Fv dO,dO⟩
       ·have d2:(s.doubled < w.c.dups)=False:=eq_false hbb
        rw[if_neg hbb] at hB1
        (repeat' (first | refine Zl (J9 g1 g3 g4 g5 gb gz gfg zb1 (J9 zb2 hwN hwF hwX hwR hw1 hw4 hw5 (J9 hw6 @E7 @EI @EG @EH q0 q1 q7 (J9 q48 q49 q50 q51 f8 f9 hmi.symm hup (J3 d1 d2 hil2))))) ?_ | refine ZF (J9 g1 g3 g4 g5 gb gz gfg zb1 (J9 zb2 hwN hwF hwX hwR hw1 hw4 hw5 (J9 hw6 @E7 @EI @EG @EH q0 q1 q7 (J9 q48 q49 q50 q51 f8 f9 hmi.symm hup (J3 d1 d2 hil2))))) (Fc _ (⟨3,n,0,mi⟩:Fu) (by first | exact An hl0 iF | exact An (Ef hl0) iF | exact An (Ef (Ef hl0)) iF)) λgn=>?_ | ((with_reducible apply Ey.dP);((try simp only[fG]);exact rfl);(first | exact Fc _ (⟨3,n,0,mi⟩:Fu) (by first | exact An hl0 iF | exact An (Ef hl0) iF | exact An (Ef (Ef hl0)) iF) | exact Fc _ (⟨5,n,0,mi⟩:Fu) (by first | exact An hl0 iF | exact An (Ef hl0) iF | exact An (Ef (Ef hl0)) iF));intro gn) | fail))
        exact⟨m2 - 1,dO,i+1,hfin [⟨3,n,0,mi⟩,⟨5,n,0,mi⟩] _ _ (hX.NY [⟨3,n,0,mi⟩,⟨5,n,0,mi⟩] (rfl) (rfl) (rfl) (rfl) (by have q9:=hX.lo;(try simp only[GQ]);omega) (by have q9:=hX.lo;(try simp only[FP]);omega) (by (try simp +decide only[wA])) (by (try simp +decide only[wA]))) (by rw[hB1];rfl),Fv dO,dO⟩
      ·have d1:(s.dropped < w.c.drops)=False:=eq_false hdd
       rw[if_neg hdd] at hB1;rcases C4 (s.doubled < w.c.dups) with hbb | hbb
       ·have d2:(s.doubled < w.c.dups)=True:=eq_true hbb
        rw[if_pos hbb] at hB1
        (repeat' (first | refine Zl (J9 g1 g3 g4 g5 gb gz gfg zb1 (J9 zb2 hwN hwF hwX hwR hw1 hw4 hw5 (J9 hw6 @E7 @EI @EG @EH q0 q1 q7 (J9 q48 q49 q50 q51 f8 f9 hmi.symm hup (J3 d1 d2 hil2))))) ?_ | refine ZF (J9 g1 g3 g4 g5 gb gz gfg zb1 (J9 zb2 hwN hwF hwX hwR hw1 hw4 hw5 (J9 hw6 @E7 @EI @EG @EH q0 q1 q7 (J9 q48 q49 q50 q51 f8 f9 hmi.symm hup (J3 d1 d2 hil2))))) (Fc _ (⟨3,n,0,mi⟩:Fu) (by first | exact An hl0 iF | exact An (Ef hl0) iF | exact An (Ef (Ef hl0)) iF)) λgn=>?_ | ((with_reducible apply Ey.dP);((try simp only[fG]);exact rfl);(first | exact Fc _ (⟨3,n,0,mi⟩:Fu) (by first | exact An hl0 iF | exact An (Ef hl0) iF | exact An (Ef (Ef hl0)) iF) | exact Fc _ (⟨6,n,0,mi⟩:Fu) (by first | exact An hl0 iF | exact An (Ef hl0) iF | exact An (Ef (Ef hl0)) iF));intro gn) | fail))
        exact⟨m2 - 1,dO,i+1,hfin [⟨3,n,0,mi⟩,⟨6,n,0,mi⟩] _ _ (hX.NY [⟨3,n,0,mi⟩,⟨6,n,0,mi⟩] (rfl) (rfl) (rfl) (rfl) (by have q9:=hX.lo;(try simp only[GQ]);omega) (by have q9:=hX.lo;(try simp only[FP]);omega) (by (try simp +decide only[wA])) (by (try simp +decide only[wA]))) (by rw[hB1];rfl),Fv dO,dO⟩
       ·have d2:(s.doubled < w.c.dups)=False:=eq_false hbb
        rw[if_neg hbb] at hB1
        (repeat' (first | refine Zl (J9 g1 g3 g4 g5 gb gz gfg zb1 (J9 zb2 hwN hwF hwX hwR hw1 hw4 hw5 (J9 hw6 @E7 @EI @EG @EH q0 q1 q7 (J9 q48 q49 q50 q51 f8 f9 hmi.symm hup (J3 d1 d2 hil2))))) ?_ | refine ZF (J9 g1 g3 g4 g5 gb gz gfg zb1 (J9 zb2 hwN hwF hwX hwR hw1 hw4 hw5 (J9 hw6 @E7 @EI @EG @EH q0 q1 q7 (J9 q48 q49 q50 q51 f8 f9 hmi.symm hup (J3 d1 d2 hil2))))) (Fc _ (⟨3,n,0,mi⟩:Fu) (by first | exact An hl0 iF | exact An (Ef hl0) iF | exact An (Ef (Ef hl0)) iF)) λgn=>?_ | fail))
        exact⟨m2 - 1,dO,i+1,hfin [⟨3,n,0,mi⟩] _ _ (hX.NY [⟨3,n,0,mi⟩] (rfl) (rfl) (rfl) (rfl) (by have q9:=hX.lo;(try simp only[GQ]);omega) (by have q9:=hX.lo;(try simp only[FP]);omega) (by (try simp +decide only[wA])) (by (try simp +decide only[wA]))) (by rw[hB1];rfl),Fv dO,dO⟩
    ·subst hil
     rw[BK,<- hBd,<- hL2] at hX
     (repeat' (first | refine Zl (J2 f8 f9) ?_ | refine Zb (λ_ gd=>?_) λ_ gd=>?_ | fail))
     all_goals first
      | (exact hX.D8 (rfl) (rfl) (rfl) (rfl) (by have q9:=hX.lo;(try simp only[lW]);omega) (by have q9:=hX.lo;(try simp only[lW]);omega) (by (try simp +decide only[eq_self])) (by (try simp +decide only[eq_self])))
      | (exfalso;omega)
   ·intro fe X hX
    refine Zy0 ?_
    exact hX
  rintro fe X hX;obtain⟨g1,g4,g5,glo,gn2,gb,gz,ov,g3,hov⟩:=id hX;have gfg:=hov.fg;obtain⟨L3,hL3⟩:∃ L3,L3=L2++C:=⟨_,rfl⟩
  have lL3:L3.length<=4000001:=by rw[hL3,Ad];omega
  have hl0:(HM [] L2).length<=5000000:=MY dO;have hnn:w.next.getD n 0=w.next[n]:=getD_some (Ah hnx);rw[hnn] at hCd;refine El.Pr (Pp σ.next w n s z L3) (El.of ?_) ?_
  ·by_cases hc:s.up=true/\s.waiting < 0/\0<=w.next[n]
   ·rw[if_pos hc] at hCd
    obtain⟨c1,c2,c3⟩:=hc;rw[c1] at q0;have k2:(s.waiting < 0)=True:=eq_true c2;have k3:(w.next[n] >= 0)=True:=eq_true c3
    (repeat' (first | refine Zl (J9 g1 g3 g4 g5 gb gz gfg zb1 (J9 zb2 hwN hwF hwX hwR hw1 hw4 hw5 (J9 hw6 @E7 @EI @EG @EH q0 q1 q7 (J6 q48 q49 q50 q51 k2 k3)))) ?_ | refine ZF (J9 g1 g3 g4 g5 gb gz gfg zb1 (J9 zb2 hwN hwF hwX hwR hw1 hw4 hw5 (J9 hw6 @E7 @EI @EG @EH q0 q1 q7 (J6 q48 q49 q50 q51 k2 k3)))) (Fc _ (⟨2,n,w.next[n],Jj⟩:Fu) (by first | exact An hl0 iF | exact An (Ef hl0) iF | exact An (Ef (Ef hl0)) iF)) λgn=>?_ | fail))
    rw[hL3,hCd];exact hX.NY [_] (rfl) (rfl) (rfl) (rfl) (by have q9:=hX.lo;(try simp only[GQ]);omega) (by have q9:=hX.lo;(try simp only[FP]);omega) (by (try simp +decide only[wA])) (by (try simp +decide only[wA]))
   ·rw[if_neg hc,] at hCd
    rw[hCd,AP] at hL3;rw[hL3]
    (repeat' (first | refine Zl (J9 g1 g3 g4 g5 gb gz gfg zb1 (J9 zb2 hwN hwF hwX hwR hw1 hw4 hw5 (J9 hw6 @E7 @EI @EG @EH q0 q1 q7 (J4 q48 q49 q50 q51)))) ?_ | refine ZF (J9 g1 g3 g4 g5 gb gz gfg zb1 (J9 zb2 hwN hwF hwX hwR hw1 hw4 hw5 (J9 hw6 @E7 @EI @EG @EH q0 q1 q7 (J4 q48 q49 q50 q51)))) (Fc _ (⟨2,n,w.next[n],Jj⟩:Fu) (by first | exact An hl0 iF | exact An (Ef hl0) iF | exact An (Ef (Ef hl0)) iF)) λgn=>?_ | refine Zb (λ_ gd=>?_) λ_ gd=>?_ | refine Zt (λgd=>?_) λgd=>?_ | fail))
    all_goals first
     | exact hX.D8 (rfl) (rfl) (rfl) (rfl) (by have q9:=hX.lo;(try simp only[GQ]);omega) (by have q9:=hX.lo;(try simp only[FP]);omega) (by (try simp +decide only[wA])) (by (try simp +decide only[wA]))
     | exact absurd ⟨IF,IF,IF⟩ hc
  rintro fe X hX;obtain⟨g1,g4,g5,glo,gn2,gb,gz,ov,g3,hov⟩:=id hX;have gfg:=hov.fg;obtain⟨L4,hL4⟩:∃ L4,L4=L3++D:=⟨_,rfl⟩
  have lL4:L4.length<=4000010:=by rw[hL4,Ad];omega
  refine El.Pr (Pp σ.next w n s z L4) (El.of ?_) ?_
  ·refine Zy0 ?_
   refine Ek 6 (λm fe X=>∃ i:Nat,Pp σ.next w n s z (L3++ng n (s.timers.take i)) fe X/\fe 10=vi i/\m+i=s.timers.length/\(s.up=true\/i=0)) (λfe X=>Pp σ.next w n s z L4 fe X) s.timers.length ?_ ?_ ?_
   ·refine Zy0 ?_
    refine⟨0,?_,rfl,dO,.inr rfl⟩;rw[A6];show Pp _ _ _ _ _ (L3++[]) _ _
    rw[AP];exact hX.D8 (rfl) (rfl) (rfl) (rfl) (by have q9:=hX.lo;(try simp only[lW]);omega) (by have q9:=hX.lo;(try simp only[lW]);omega) (by (try simp +decide only[eq_self])) (by (try simp +decide only[eq_self]))
   ·rintro m2 fe X ⟨i,hX,f10,hm2,hup0⟩
    obtain⟨g1,g4,g5,glo,gn2,gb,gz,ov,g3,hov⟩:=id hX;have gfg:=hov.fg;have hl0:(HM [] (L3++ng n (s.timers.take i))).length<=5000000:=MY (by rw[Ad];unfold ng;rw[AJ,As];omega);cases hup:s.up
    ·rw[hup] at q0 hDd hup0
     obtain rfl:i=0:=by simpa using hup0
     have hDn:D=[]:=by rw[hDd];rfl
     rw[hDn,AP] at hL4;have hX':Pp σ.next w n s z L4 fe X:=by
      rw[hL4];have:=hX;rw[A6] at this;have this:Pp σ.next w n s z (L3++[]) fe X:=this
      rwa [AP] at this
     (repeat' (first | refine Zl (J9 g1 g3 g4 g5 gb gz gfg zb1 (J9 zb2 hwN hwF hwX hwR hw1 hw4 hw5 (J9 hw6 @E7 @EI @EG @EH q0 q1 q7 (J6 q48 q49 q50 q51 f10 hup)))) ?_ | refine Zb (λ_ gd=>?_) λ_ gd=>?_ | fail))
     all_goals exact hX'.D8 (rfl) (rfl) (rfl) (rfl) (by have q9:=hX.lo;omega) dO rfl rfl
    ·rw[hup] at q0 hDd
     simp only[if_true] at hDd;rcases (show i < s.timers.length\/i=s.timers.length by omega) with hil | hil
     ·have hil2:((i:Int) < s.timers.length)=True:=eq_true dO
      (repeat' (first | refine Zl (J9 g1 g3 g4 g5 gb gz gfg zb1 (J9 zb2 hwN hwF hwX hwR hw1 hw4 hw5 (J9 hw6 @E7 @EI @EG @EH q0 q1 q7 (J7 q48 q49 q50 q51 f10 hup hil2)))) ?_ | refine ZF (J9 g1 g3 g4 g5 gb gz gfg zb1 (J9 zb2 hwN hwF hwX hwR hw1 hw4 hw5 (J9 hw6 @E7 @EI @EG @EH q0 q1 q7 (J7 q48 q49 q50 q51 f10 hup hil2)))) (Fc _ (⟨4,n,s.timers[i]' dO,Jj⟩:Fu) (by first | exact An hl0 iF | exact An (Ef hl0) iF | exact An (Ef (Ef hl0)) iF)) λgn=>?_ | fail))
      refine⟨m2 - 1,dO,i+1,?_,Fv dO,dO,.inl trivial⟩;have hq:ng n (s.timers.take (i+1))=ng n (s.timers.take i)++[⟨4,n,s.timers[i]' dO,Jj⟩]:=by unfold ng;rw[map_take _ _ i dO]
      rw[hq,<- AU];exact hX.NY [_] (rfl) (rfl) (rfl) (rfl) (by have q9:=hX.lo;(try simp only[GQ]);omega) (by have q9:=hX.lo;(try simp only[FP]);omega) (by (try simp +decide only[wA])) (by (try simp +decide only[wA]))
     ·subst hil
      rw[BK,<- hDd,<- hL4] at hX;have hil2:((s.timers.length:Int) < s.timers.length)=False:=eq_false dO
      refine Zl (J9 g1 g3 g4 g5 gb gz gfg zb1 (J9 zb2 hwN hwF hwX hwR hw1 hw4 hw5 (J9 hw6 @E7 @EI @EG @EH q0 q1 q7 (J7 q48 q49 q50 q51 f10 hup hil2)))) ?_
      all_goals exact hX.D8 (rfl) (rfl) (rfl) (rfl) (by have q9:=hX.lo;(try simp only[lW]);omega) (by have q9:=hX.lo;(try simp only[lW]);omega) (by (try simp +decide only[eq_self])) (by (try simp +decide only[eq_self]))
   ·intro fe X hX
    refine Zy0 ?_
    exact hX
  rintro fe X hX;obtain⟨g1,g4,g5,glo,gn2,gb,gz,ov,g3,hov⟩:=id hX;have gfg:=hov.fg;have hl0:(HM [] L4).length<=5000000:=MY dO;have hall:∀ T:List Fu,T=(if s.up=true/\s.counts 40 < w.c.crashes then [(⟨7,n,0,Jj⟩:Fu)] else [])->Oz w (n+1)=L4++T:=λT hT=>by
   rw[hev,e1,hL4,hL3,hL2,hL1,hT];simp only[AU]
  refine El.of ?_;by_cases hc:s.up=true/\s.counts 40 < w.c.crashes
  ·have ha:=hall [⟨7,n,0,Jj⟩] (by rw[if_pos hc])
   obtain⟨c1,c2⟩:=hc;rw[c1] at q0;have k2:(s.counts 40 < w.c.crashes)=True:=eq_true c2
   (repeat' (first | refine Zl (J9 g1 g3 g4 g5 gb gz gfg zb1 (J9 zb2 hwN hwF hwX hwR hw1 hw4 hw5 (J9 hw6 @E7 @EI @EG @EH q0 q1 q7 (J5 q48 q49 q50 q51 k2)))) ?_ | refine ZF (J9 g1 g3 g4 g5 gb gz gfg zb1 (J9 zb2 hwN hwF hwX hwR hw1 hw4 hw5 (J9 hw6 @E7 @EI @EG @EH q0 q1 q7 (J5 q48 q49 q50 q51 k2)))) (Fc _ (⟨7,n,0,Jj⟩:Fu) (by first | exact An hl0 iF | exact An (Ef hl0) iF | exact An (Ef (Ef hl0)) iF)) λgn=>?_ | fail))
   refine⟨dO,dO,_,rfl,?_⟩;rw[ha,gJ];exact .inr (.inr rfl)
  ·have ha:=hall [] (by rw[if_neg hc])
   rw[AP] at ha;rw[ha]
   (repeat' (first | refine Zl (J9 g1 g3 g4 g5 gb gz gfg zb1 (J9 zb2 hwN hwF hwX hwR hw1 hw4 hw5 (J9 hw6 @E7 @EI @EG @EH q0 q1 q7 (J4 q48 q49 q50 q51)))) ?_ | refine ZF (J9 g1 g3 g4 g5 gb gz gfg zb1 (J9 zb2 hwN hwF hwX hwR hw1 hw4 hw5 (J9 hw6 @E7 @EI @EG @EH q0 q1 q7 (J4 q48 q49 q50 q51)))) (Fc _ (⟨7,n,0,Jj⟩:Fu) (by first | exact An hl0 iF | exact An (Ef hl0) iF | exact An (Ef (Ef hl0)) iF)) λgn=>?_ | refine Zb (λ_ gd=>?_) λ_ gd=>?_ | refine Zt (λgd=>?_) λgd=>?_ | fail))
   all_goals first
    | exact absurd ⟨IF,IF⟩ hc
    | exact⟨dO,dO,_,rfl,hov⟩
 ·rintro fe Z ⟨hlo,ov,f3,hov⟩
  rw[Y4] at hov;have:=hov.fg
  refine Zl f3 ?_
  refine El.of ?_
  refine Zl (J2 f3 @this) ?_
  exact hlo
end
def Qm(x:JE)(l:List JE)(i:Nat)(hi:i<=l.length)(h:∀ j (hj:j < i),ta (l[j]' dO) x)(hn:∀ (h:i < l.length),¬ ta l[i] x):II l x=if l[i]? = some x then l else l.take i++x::l.drop i:=by
 obtain⟨a,b⟩:=Oy (λy:JE=>decide (ta y x)) l i hi (λj hj=>decide_eq_true (h j hj)) (λh'=>decide_eq_false (hn h'));unfold II;rw[a,As,Bl hi]
section
variable [Prim Tryz.prog]
set_option maxHeartbeats 8000000 in
def gI(l:List JE)(x:JE)(hl:l.length<=100000000):VD Tryz.prog 119 [vl l,.agg (DZ.e x)] (vl (II l x)):=by
 intro σ;refine Ea XF119 ?_
 refine Zl @xf119.eq_1 ?_
 refine Ek 0 (λk fe Z=>fe 0=vl l/\fe 3=.ptr σ.next 0/\σ.next<=Z.low/\σ.next+1<=Z.next/\Z.heap σ.next=.cells (DZ.e x) 150 2 σ.next/\∃ i:Nat,fe 5=vi i/\k+i=l.length/\∃ hi:i<=l.length,∀ j (hj:j < i),ta (l[j]' dO) x)
  (λfe Z=>fe 0=vl l/\fe 3=.ptr σ.next 0/\σ.next<=Z.low/\σ.next+1<=Z.next/\Z.heap σ.next=.cells (DZ.e x) 150 2 σ.next/\∃ i:Nat,fe 5=vi i/\i<=l.length/\II l x=if l[i]? = some x then l else l.take i++x::l.drop i) l.length ?_ ?_ ?_
 ·refine Zy0 ?_
  exact⟨0,rfl,rfl,AM _,λj hj=>absurd hj (Cn j)⟩
 ·rintro k fe Z ⟨f0,f3,hlo,hn,z0,i,f5,hm,hi,hc⟩
  (repeat' (first | refine Zl (J4 f0 f3 f5 z0) ?_ | refine Zb (λ_ gd=>?_) λ_ gd=>?_ | fail))
  ·refine⟨k - 1,dO,hlo,dO,i+1,JQ dO,dO,dO,λj hj=>?_⟩
   rcases BD.mp hj with h | h
   ·exact hc j h
   ·subst h;exact .inr ⟨IF,IF⟩
  ·exact⟨hlo,dO,i,rfl,hi,Qm x l i hi hc (λh' hlt=>by unfold ta at hlt;omega)⟩
  ·exact⟨hlo,dO,i,rfl,hi,Qm x l i hi hc (λh' hlt=>by unfold ta at hlt;omega)⟩
  ·refine⟨k - 1,dO,hlo,dO,i+1,JQ dO,dO,dO,λj hj=>?_⟩
   rcases BD.mp hj with h | h
   ·exact hc j h
   ·subst h;exact .inl IF
  ·exact⟨hlo,dO,i,rfl,hi,Qm x l i hi hc (λh'=>absurd h' dO)⟩
 ·rintro fe Z ⟨f0,f3,hlo,hn,z0,i,f5,hi,hins⟩
  (repeat' (first | refine Zl (J4 f0 f3 f5 z0) ?_ | refine Zb (λ_ gd=>?_) λ_ gd=>?_ | refine ZE trivial [(x:JE)] ?_ | refine ZP (zp JE σ.next) λgt gn glo glv ga g1 g2 g3=>?_ | refine ZN (zp JE σ.next) λgr gn glo glv ga g1 g2 g3=>?_ | fail))
  ·exact⟨hlo,by rw[hins,if_pos (by rw[Ah (show i < l.length by omega)];exact congrArg some IF)]⟩
  ·refine⟨dO,?_⟩
   rw[hins,if_neg ?_];rw[Ah (show i < l.length by omega)];exact λh=>absurd (Aa h) IF
  ·refine⟨dO,?_⟩
   rw[hins,if_neg ?_];rw[AO dO];exact λh=>by cases h
end
section
variable [Prim Tryz.prog]
def mA(s:FZ)(h:F1 s.disk)(hv:s.vol.length<=1000):VD Tryz.prog 124 [.agg (DZ.e s)] (vl (GK s)):=VD.I3 λσ=>Qf s h hv σ
set_option maxHeartbeats 1000000 in
def QX(w:E4){A:Ig}{b:Nat}(σ:D1)(hb:b<=σ.next)(hr:WR σ b w A)(n:Nat){s:FZ}(hs:w.nodes[n]? = some s)(hd:F1 s.disk)(hv:s.vol.length<=16){tr:List (List Int)}(ht:w.traces[n]? = some tr)(htl:tr.length<=1000000) :
  VC Tryz.prog 97 [.agg (WV w A),vi n] σ (λr σ'=>r=.agg (WV w A)/\WQ σ b (Ir w n) A σ'):=by
 obtain⟨hn,hn'⟩:=Am.1 hs;obtain⟨hm,hm'⟩:=Am.1 ht;obtain⟨tN,qN,n1,n2,n3,zN⟩:=hr.n;obtain⟨tT,qT,m1,m2,m3,zT⟩:=hr.t;rw[SY] at zN;rw[show DZ.w (List (List Int))=1 from rfl] at zT;have hnt:=hr.nt;have a1:∀ x,(A.n=σ.next+x)=False:=λx=>eq_false dO
 have a2:(A.n=σ.next)=False:=eq_false dO;have a3:∀ x,(A.t=σ.next+x)=False:=λx=>eq_false dO
 have a4:(A.t=σ.next)=False:=eq_false dO;have a5:(A.n=A.t)=False:=eq_false hnt;have a6:(A.t=A.n)=False:=eq_false (BR hnt);have a7:∀ x,(σ.next+x=A.t)=False:=λx=>eq_false dO
 have a8:(σ.next=A.t)=False:=eq_false dO;obtain⟨e1,e2⟩:=Rp (z:=52) rfl hs;obtain⟨e3,e4⟩:=Aas rfl ht;have e5:DZ.e tr=[vl tr]:=rfl;have b1:∀ x,(A.n < σ.next+x)=True:=λx=>eq_true dO
 have b2:∀ x,(A.t < σ.next+x)=True:=λx=>eq_true dO
 refine Ea XF97 ?_
 (repeat' (first | simp +decide only[↓Em,wA,↓reduceIte,Nat.reduceAdd,Nat.reduceLeDiff,xf97,WV,zT,e3,e4,e5,a3,a4] | ((with_reducible refine HZ ?_ ?_ ?_);(omega);(omega))))
 refine D5.app (α:=List Int) (b:=σ.next) (l:=[]) (m:=tr) (App.nil _ _) (Gf _ _ rfl) rfl (by unfold reach;simp;omega) iF ah0 (λr gn lo lv ga g1 g2 g3=>?_);simp only[lW] at g1 g2
 (repeat' (first | refine Zl (J9 @zN @zT e1 e2 e3 e4 e5 a1 (J9 a2 a3 a4 a5 a6 a7 a8 b1 b2)) ?_ | refine Zz0 (mA s hd dO) λgn=>?_ | refine ZE trivial [(GK s:List Int)] ?_ | fail))
 rw[Ba] at ga;refine D5.wq (α:=List Int) (b:=σ.next) (l:=tr) (m:=[GK s]) ((ga.skip _).Eg) (EN _ _ _ rfl) rfl (by unfold reach;simp;omega) iF ah0 (λgn2 lo2 lv2 g4 g5 g6=>?_);simp only[lW] at g4 g5
 refine Zl (J9 @zN @zT e1 e2 e3 e4 e5 a1 (J9 a2 a3 a4 a5 a6 a7 a8 b1 b2)) ?_
 have hv:=Y7 hm (tr++[GK s]);rw[hv];refine rB λF hF=>?_
 have hk:∀ j,j < σ.next->j≠A.t->F.heap j=σ.heap j:=λj hj hne=>by
  have q1:∀ x,(j=σ.next+x)=False:=λx=>eq_false dO
  have q2:(j=σ.next)=False:=eq_false dO;have q3:(j=A.t)=False:=eq_false hne;rw[hF];simp +decide only[wA,↓reduceIte,q1,q2,q3]
 have hw:Ir w n={ w with traces:=w.traces.set n (tr++[GK s]) }:=by unfold Ir;rw[getD_some ht,getD_some hs]
 have hl:b<=F.low:=by rw[hF];simp only[lW];omega
 have hx:σ.next<=F.next:=by rw[hF];simp only[lW];omega
 have hc:F.heap A.t=.cells (D4 (w.traces.set n (tr++[GK s]))) tT 1 qT:=by
  rw[hF];simp +decide only[wA,↓reduceIte,a3]
 refine⟨hl,hx,hr.Ad0 (t:=tT) (q:=qT) ⟨m1,m2⟩ ?_ hx (λj hA hne=>hk j (hr.lt hA).2 hne) ?_ ?_ ?_,λj hj hA=>hk j hj λe=>hA (.inr (.inr (.inr e)))⟩
 ·rw[hw];exact hc
 ·rw[hw]
 ·rw[hw]
 ·rw[hw]
end
end Go.Proofs.YtkkpchcniicimaaGreat

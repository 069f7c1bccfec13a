/- What is shown by computing, as calls that are shown by hand; the law. -/
import Derived.Test.YtkkpchcniicimaaGreatZBb
import Derived.Test.YtkkpchcniicimaaGreatEl
import Derived.Test.YtkkpchcniicimaaGreatEm
import Derived.Test.YtkkpchcniicimaaGreatEn
import Derived.Test.YtkkpchcniicimaaGreatEo
import Derived.Test.YtkkpchcniicimaaGreatZCa
set_option linter.all false
set_option maxRecDepth 100000
namespace Go.Proofs.YtkkpchcniicimaaGreat
open Go Go.RowKit
def bF:FuncId:=13
def vF:FuncId:=65
def lF:FuncId:=11
def b11:Value:=.tuple #[.agg (.slice none 0 0::EX (HX 11)).toArray,.int .i64 0]
def rJ(i:Nat):CE:=if i < 11 then ceG bF [.string (Hv i)] (IG i) (EX (Hd i)) (EX (HX i)) 2 (.int .i64 0) 0 else xQ bF [.string (Hv 11)] b11
def ceV(i:Nat):CE:=ceR vF (IG i) (EX (Hd i)) (EX (HX i)) [] (.int .i64 0)
def Z5:List CE:=[xQ lF [] (.bool true)]
def ya:List CE:=(List.range 12).map rJ++((List.range 12).map ceV++Z5)
theorem kl:mX Tryz.prog lF [] (.bool true):=mX.k af0 af0 af0
theorem rK(i:Nat)(hi:i < 12):(rJ i).Good Tryz.prog:=by
 rcases jV hi with rfl | rfl | rfl | rfl | rfl | rfl | rfl | rfl | rfl | rfl | rfl | rfl
 ·exact Ms.F7 AcP 0
 ·exact Ms.F7 AcR 0
 ·exact Ms.F7 Ac9 0
 ·exact Ms.F7 AcT 0
 ·exact Ms.F7 AcV 0
 ·exact Ms.F7 AcX 0
 ·exact Ms.F7 Ac1 0
 ·exact Ms.F7 AcZ 0
 ·exact Ms.F7 Ac3 0
 ·exact Ms.F7 Ac5 0
 ·exact Ms.F7 Abr 0
 ·exact mX.F7 Abt
theorem wC(i:Nat)(hi:i < 12):Kd (Hd i) (HX i) (IG i):=by
 rcases jV hi with rfl | rfl | rfl | rfl | rfl | rfl | rfl | rfl | rfl | rfl | rfl | rfl
 ·exact AcQ
 ·exact AcS
 ·exact Ada
 ·exact AcU
 ·exact AcW
 ·exact AcY
 ·exact Ac2
 ·exact Ac0
 ·exact Ac4
 ·exact Ac6
 ·exact Abs
 ·exact Abu
theorem rL:∀ e∈ya,e.Good Tryz.prog:=λe he=>by
 rcases Aw.1 he with he | he
 ·obtain⟨i,hi,rfl⟩:=AT.1 he
  exact rK i (Bp.1 hi)
 rcases Aw.1 he with he | he
 ·obtain⟨i,hi,rfl⟩:=AT.1 he
  exact E1.F7 (wC i (Bp.1 hi))
 ·simp only[Z5,Aq,AK,or_false] at he
  subst he;exact kl.F7
theorem Acd(i:Nat):(rJ i).f=bF:=by unfold rJ;split<;>rfl
theorem rM{i j:Nat}(hi:i < 12)(hj:j < 12)(h:Hv i=Hv j):i=j:=by
 have hs:∀ i,i < 12->∀ j,j < 12->(Hv i).size=(Hv j).size->i=j:=of_decide_eq_true af0;exact hs i hi j hj (congrArg ByteArray.size h)
theorem rN{e:CE}(he:e∈ya):(e.f=bF/\∃ i,i < 12/\e=rJ i)\/(e.f=vF/\∃ i,i < 12/\e=ceV i)\/e∈Z5:=by
 rcases Aw.1 he with he | he
 ·obtain⟨i,hi,rfl⟩:=AT.1 he
  exact .inl ⟨Acd i,i,Bp.1 hi,rfl⟩
 rcases Aw.1 he with he | he
 ·obtain⟨i,hi,rfl⟩:=AT.1 he
  exact .inr (.inl ⟨rfl,i,Bp.1 hi,rfl⟩)
 ·exact .inr (.inr he)
theorem yb{e:CE}(he:e∈Z5):e.f≠bF/\e.f≠vF:=by
 simp only[Z5,Aq,AK,or_false] at he;subst he;exact⟨by show ¬ ((_:Nat)=_);decide,by show ¬ ((_:Nat)=_);decide⟩
theorem AaI{f:FuncId}{l:List Value}{v:Value}(hin:xQ f l v∈Z5)(hu:∀ e∈Z5,e.f=f->e=xQ f l v)(hb:f≠bF)(hv:f≠vF):∀ e∈ya,e.f=f->∀ S,e.cond S l->e.out S=(v,S):=λe he hef S _=>by
 rcases rN he with ⟨h,_⟩ | ⟨h,_⟩ | h
 ·exact absurd (hef.symm.trans h) hb
 ·exact absurd (hef.symm.trans h) hv
 ·rw[hu e h hef];rfl
theorem AaJ{e:CE}(h:e∈Z5):e∈ya:=Aw.2 (.inr (Aw.2 (.inr h)))
noncomputable instance AcH:Prim Tryz.prog:=JF ya rL
theorem rO{e0:CE}(hd:(Z5.filter λe=>e.f == e0.f).length=1)(hin:e0∈Z5):∀ e∈Z5,e.f=e0.f->e=e0:=by
 intro e he hf;have h1:e∈Z5.filter λe=>e.f == e0.f:=Bz.2 ⟨he,by rw[hf];exact beq_self_eq_true _⟩
 have h2:e0∈Z5.filter λe=>e.f == e0.f:=Bz.2 ⟨hin,beq_self_eq_true _⟩
 obtain⟨x,hx⟩:=A5.1 hd;rw[hx] at h1 h2;rw[AG.1 h1,AG.1 h2]
noncomputable instance Ace:WO:=⟨λσ=>VG.mono (xS (f:=lF) XZ11 [] (.bool true) (AaJ (by simp[Z5])) (AaI (by simp[Z5]) (rO (e0:=xQ lF [] (.bool true)) rfl (by simp[Z5])) iF iF) (λS args' h=>Ee.jb (l:=[]) h) rfl) λr σ' h=>⟨h.1,by rw[h.2];exact JX true⟩⟩
theorem yc(l:List Int):((EX l).map VV.v).map VV.fg=(EX l).map VV.v:=by
 unfold EX;rw[BN,BN,BN];exact BM λx _=>Gh .i64 x
theorem wD(i:Nat)(hi:i < 12):VD Tryz.prog bF [.v (.string (Hv i))] (.tup [.agg (DZ.e (Gu i)),vi 0]):=λσ=>by
 have ha:∀ S (args':Array Value),Ee σ.G S [.v (.string (Hv i))] args'.toList->args'.toList=[.string (Hv i)]:=λS args' h=>Ee.jb (l:=[.string (Hv i)]) h
 have hin:rJ i∈ya:=Aw.2 (.inl (AT.2 ⟨i,Bp.2 hi,rfl⟩));have hun:∀ e∈ya,e.f=bF->∀ S,e.cond S [.string (Hv i)]->e.out S=(rJ i).out S:=λe he hef S hc=>by
  rcases rN he with ⟨_,j,hj,rfl⟩ | ⟨h,_⟩ | h
  ·have hij:Hv i=Hv j:=by
    unfold rJ at hc;split at hc
    ·have hc:[Value.string (Hv i)]=[.string (Hv j)]:=hc
     simpa using hc
    ·have hc:[Value.string (Hv i)]=[.string (Hv 11)]:=hc
     have hj11:j=11:=dO
     rw[hj11];simpa using hc
   rw[rM hi hj hij]
  ·exact absurd (hef.symm.trans h) iF
  ·exact absurd hef (yb h).1
 by_cases h11:i < 11
 ·have e:rJ i=ceG bF [.string (Hv i)] (IG i) (EX (Hd i)) (EX (HX i)) 2 (.int .i64 0) 0:=by unfold rJ;rw[if_pos h11]
  rw[e] at hin;refine VG.mono (zV (f:=bF) XZ13 hin ha (λx hx hf S hc=>by rw[<- e];exact hun x hx hf S hc) (D3 _) (D3 _) rfl (by unfold EX;rw[AJ,W8 hi];omega)) λr σ' h=>⟨h.1,?_⟩
  rw[h.2,Z7 hi];simp only[VV.fg,yc,fG]
 ·obtain rfl:i=11:=dO
  have e:rJ 11=xQ bF [.string (Hv 11)] b11:=rfl;rw[e] at hin;refine VG.mono (xS (f:=bF) XZ13 _ _ hin (λx hx hf S hc=>hun x hx hf S hc) ha af0) λr σ' h=>⟨h.1,?_⟩
  rw[h.2,Z7 hi];show VV.fg (.tup [.agg (.v (.slice none 0 0)::(EX (HX 11)).map .v),vi 0])=_
  simp only[yc,fG];rfl
theorem rP(i:Nat)(hi:i < 12):VD Tryz.prog vF [.agg (DZ.e (Gu i))] (vi 0):=λσ=>by
 have hin:ceV i∈ya:=Aw.2 (.inr (Aw.2 (.inl (AT.2 ⟨i,Bp.2 hi,rfl⟩))));rw[Z7 hi];refine VG.mono (zS (f:=vF) XZ65 (EX (Hd i)) (EX (HX i)) (.int .i64 0) rfl rfl hin (λe he hef S=>?_) rfl) λr σ' h=>⟨h.1,by rw[h.2];exact Gh _ 0⟩
 rcases rN he with ⟨h,_⟩ | ⟨_,j,hj,rfl⟩ | h
 ·exact absurd (hef.symm.trans h) iF
 ·rfl
 ·exact absurd hef (yb h).2
noncomputable instance Aef:OH:=⟨wD,rP⟩
theorem Zf(l walk:List Int)(how:Int)(hl:∀ x∈l,Uf x)(hw:∀ x∈walk,Uf x)(hh:Uf how):VD Tryz.prog 3 [vl l,vl walk,vi how] (vb true):=λσ=>Pw l walk how hl hw hh σ
theorem Qp{a b:Value}{l walk:List Int}{how:Int}{S:St}(ha:Ng S a l)(hb:Ng S b walk)(hl:∀ x∈l,-9223372036854775808<=x/\x<=9223372036854775807)(hw:∀ x∈walk,-9223372036854775808<=x/\x<=9223372036854775807)(hh : -9223372036854775808<=how/\how<=9223372036854775807) :
  XC Tryz.prog 3 #[a,b,.int .i64 how] S λr S'=>Ext S S'/\r=.bool true:=
 VD.law (Zf l walk how hl hw hh) (.cons ha.vl (.cons hb.vl (.cons (.int _) .nil)))
end Go.Proofs.YtkkpchcniicimaaGreat

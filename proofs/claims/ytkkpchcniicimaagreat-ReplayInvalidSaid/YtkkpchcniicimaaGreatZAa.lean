/- The table of the program's functions for the evaluator: each is read when it is needed. Closed calls of this seat: what their proofs share. Small functions. Programs out of numbers; texts as things; c -/
import Derived.Test.YtkkpchcniicimaaGreatZVa
import Derived.Test.YtkkpchcniicimaaGreatProg
import Derived.Test.YtkkpchcniicimaaGreatP
import Derived.Test.YtkkpchcniicimaaGreatZCa
import Derived.Test.YtkkpchcniicimaaGreatZVb
set_option linter.all false
namespace Go.Proofs.YtkkpchcniicimaaGreat
open Go Go.RowKit
noncomputable def X7(P:Program)(sk:List Nat):Nat->Nat->Nat->Tr Ed
 | 0,_,_=>.leaf
 | k+1,a,d=>.node (if sk.contains a then none else XF0 P a) (X7 P sk k (a+d) (2 * d)) (X7 P sk k (a+2 * d) (2 * d))
theorem OZ(P:Program)(sk:List Nat):∀ k a d,Of P a d (X7 P sk k a d)
 | 0,a,d=>.leaf a d _ rfl
 | k+1,a,d=>.nd a d _ _ _ (λv h=>by split at h;cases h;exact h) (OZ P sk k _ _) (OZ P sk k _ _)
noncomputable def Gl:Tr Ed:=X7 Tryz.prog [] 9 0 1
theorem EE:Mg Tryz.prog Gl:=λf xf h=>Of.get (OZ Tryz.prog [] 9 0 1) h
noncomputable def Ul:Tr Ed:=X7 Tryz.prog [41,52] 9 0 1
theorem nv:Mg Tryz.prog Ul:=λf xf h=>Of.get (OZ Tryz.prog [41,52] 9 0 1) h
section
set_option maxRecDepth 1000000
noncomputable def Gs:FuncId->List Value->Tr FH->Nat->KV->Bool:=λ_ _ _ _ _=>false
@[reducible] noncomputable def EB:Prim Tryz.prog:=⟨λ_ _ _=>none,λ_ _ _ _ _ h=>by simp at h,λ_ g _ _ _ _ h=>by cases g<;>simp[xd] at h⟩
def GS:Tryz.prog.follows .mixedOrders=true:=af0
def ED:@HI Tryz.prog EB Gl Gs:=λ_ _ _ _ _ _ h=>by cases h
def EX(l:List Int):List Value:=l.map λn=>.int .i64 n
def D3(l:List Int):EC (EX l)=true:=by
 simp only[EC,EX,At,AT];rintro x ⟨n,_,rfl⟩;rfl
def Le(b:ByteArray)(code rest:List Int)(n:Nat):Prop:=Ms Tryz.prog 13 [.string b] n (EX code) (EX rest) 2 (.int .i64 0)
def Le.of{b:ByteArray}{code rest:List Int}{n:Nat}(h:KI Tryz.prog Gl Gs 1000000 1000 (.func 13) [.string b] .leaf 0 (tp n (EX code) (EX rest) 2 (.int .i64 0))=true):Le b code rest n:=
 @Ms.of Tryz.prog EB GS Gl EE Gs ED _ _ _ _ _ _ _ _ _ rfl (D3 _) (D3 _) rfl h
def Kd(code rest:List Int)(n:Nat):Prop:=E1 Tryz.prog 65 n (EX code) (EX rest) [] (.int .i64 0)
def Kd.of{code rest:List Int}{n:Nat}(h:∀ t z,KI Tryz.prog Gl Gs 1000000 1000 (.func 65) [.agg (.slice (some ⟨0,0,none⟩) n n::EX rest).toArray] (TN (EX code) t z).heap 1 (λu _ _=>sZ u (.int .i64 0))=true)(h0:EX code=[]->KI Tryz.prog Gl Gs 1000000 1000 (.func 65) [.agg (.slice none 0 0::EX rest).toArray] .leaf 0 (λu _ _=>sZ u (.int .i64 0))=true):Kd code rest n:=
 @E1.of Tryz.prog EB GS Gl EE Gs ED _ _ _ _ _ _ [] _ rfl (D3 _) (D3 _) rfl h h0
def yj(b:ByteArray)(rest:List Int):Prop:=mX Tryz.prog 13 [.string b] (.tuple #[.agg (.slice none 0 0::EX rest).toArray,.int .i64 0])
def yj.of{b:ByteArray}{rest:List Int}(hf:IE (.tuple #[.agg (.slice none 0 0::EX rest).toArray,.int .i64 0])=true)(h:KI Tryz.prog Gl Gs 1000000 1000 (.func 13) [.string b] .leaf 0 (λu _ _=>sZ u (.tuple #[.agg (.slice none 0 0::EX rest).toArray,.int .i64 0]))=true):yj b rest:=
 @mX.of Tryz.prog EB GS Gl EE Gs ED _ _ _ _ _ rfl hf h
def mX.k{f:FuncId}{args:List Value}{v:Value}(hfl:args.all FB=true)(hv:IE v=true)(hk:KI Tryz.prog Gl Gs 1000000 1000 (.func f) args .leaf 0 (λu _ _=>sZ u v)=true):mX Tryz.prog f args v:=
 @mX.of Tryz.prog EB GS Gl EE Gs ED _ _ _ _ _ hfl hv hk
end
section
variable [Prim Tryz.prog]
def HY(n m:Int):Int:=(if n < 0 then G0 (0 - G0 (n+1)) else n).tmod m
def Ly(n m:Int)(hm:m≠0):VD Tryz.prog 7 [vi n,vi m] (vi (HY n m)):=by
 intro σ;refine Ea XF7 ?_
 (repeat' (first | refine Zb (λ_ gd=>?_) λ_ gd=>?_ | simp +decide only[↓Em,wA,xf7,S5 _ _ hm] | fail))
 all_goals simp only[HY, *,if_true,if_false]
def Ug(l:List Int)(i:Nat)(m:Int):Int:=match l[i]? with
 | some x=>HY x m
 | none=>0
def nr(l:List Int)(i:Nat)(m:Int)(hm:m≠0):VD Tryz.prog 12 [vl l,vi i,vi m] (vi (Ug l i m)):=by
 intro σ;refine Ea XF12 ?_
 (repeat' (first | refine Zl @xf12.eq_1 ?_ | refine Zz0 (Ly _ _ hm) λgn=>?_ | refine Zb (λ_ gd=>?_) λ_ gd=>?_ | fail))
 ·rw[Ug,AO dO]
 ·rw[Ug,Ah dO]
 ·omega
def Ke(n a b:Int):VD Tryz.prog 64 [vi n,vi a,vi b] (vb (decide (a<=n/\n<=b))):=by
 intro σ;refine Ea XF64 ?_
 (repeat' (first | refine Zl @xf64.eq_1 ?_ | refine Zb (λ_ gd=>?_) λ_ gd=>?_ | fail))
 ·simp only[decide_eq_decide];omega
 ·symm;rw[decide_eq_false_iff_not];omega
end
def RK:List Int->List JE
 | a::b::l=>⟨a,b⟩::RK l
 | _=>[]
def iq:∀ (k:Nat) (l:List Int),l.length=2 * k->D4 (RK l)=(EX l).map .v
 | 0,l,h=>by
  obtain rfl:l=[]:=Ak dO;rfl
 | k+1,a::b::l,h=>by
  rw[RK,Gt,iq k l (by simp at h;omega)];rfl
def Ue:∀ (k:Nat) (l:List Int),l.length=2 * k->(RK l).length=k
 | 0,l,h=>by
  obtain rfl:l=[]:=Ak dO;rfl
 | k+1,a::b::l,h=>by
  rw[RK,Ag,Ue k l (by simp at h;omega)]
def xe(code rest:List Int):HW:=⟨RK code,λi=>rest.getD i 0,rest.getD 40 0,rest.getD 41 0⟩
def tq(code rest:List Int)(k:Nat)(hc:code.length=2 * k)(hr:rest.length=42):DZ.e (xe code rest)=.Ie k ((EX code).map .v)::(EX rest).map .v:=by
 rw[AcJ];show vl (RK code)::(Gz 40 (λi=>rest.getD i 0)++[vi (rest.getD 40 0),vi (rest.getD 41 0)])=_
 refine congr (congrArg _ ?_) ?_
 ·unfold vl
  rw[Ue k code hc,iq k code hc]
 ·have e:(EX rest).map VV.v=rest.map vi:=by unfold EX;rw[BN];rfl
  rw[e];apply B0
  ·simp[Gz,hr]
  ·intro i h1 h2
   have hi:i < rest.length:=ad0
   rw[AZ];by_cases h:i < 40
   ·rw[BC (by rw[Eo];exact h)]
    simp[Gz,List.getD,Ah hi]
   ·rw[BU (by rw[Eo];omega)]
    have:i=40\/i=41:=dO
    rcases this with rfl | rfl
    ·simp[Eo,List.getD,Ah hi]
    ·simp[Eo,List.getD,Ah hi]
structure Z2 where
 b:ByteArray
instance AcK:DZ Z2:=⟨1,λs=>[.v (.string s.b)],λ_=>rfl,λ_=>rfl,λ_=>by simp only[Au,AD,Vr],iF⟩
def AcL:DZ.w Z2=1:=rfl
def AcM(s:Z2):DZ.e s=[.v (.string s.b)]:=rfl
section
set_option maxRecDepth 1000000
def ym:List Z2:=[⟨⟨#[100,117,114,97,98,108,101,32,118,59,32,111,110,32,114,101,113,117,101,115,116,32,123,32,105,102,32,111,112,32,61,61,32,48,32,123,32,114,101,112,108,121,32,105,100,44,32,118,59,32,125,32,101,108,115,101,32,123,32,105,102,32,111,112,32,61,61,32,50,32,123,32,114,101,112,108,121,32,105,100,44,32,118,59,32,118,32,61,32,97,59,32,125,32,101,108,115,101,32,123,32,118,32,61,32,97,59,32,114,101,112,108,121,32,105,100,44,32,48,59,32,125,32,125,32,125]⟩⟩,⟨⟨#[100,117,114,97,98,108,101,32,118,59,32,111,110,32,114,101,113,117,101,115,116,32,123,32,105,102,32,111,112,32,61,61,32,48,32,123,32,114,101,112,108,121,32,105,100,44,32,118,59,32,125,32,101,108,115,101,32,123,32,105,102,32,111,112,32,61,61,32,50,32,123,32,114,101,112,108,121,32,105,100,44,32,118,59,32,118,32,61,32,97,59,32,115,121,110,99,59,32,125,32,101,108,115,101,32,123,32,118,32,61,32,97,59,32,115,121,110,99,59,32,114,101,112,108,121,32,105,100,44,32,48,59,32,125,32,125,32,125]⟩⟩,⟨⟨#[100,117,114,97,98,108,101,32,118,59,32,111,110,32,114,101,113,117,101,115,116,32,123,32,105,102,32,115,101,108,102,32,61,61,32,48,32,123,32,105,102,32,111,112,32,61,61,32,48,32,123,32,114,101,112,108,121,32,105,100,44,32,118,59,32,125,32,101,108,115,101,32,123,32,118,32,61,32,97,59,32,115,121,110,99,59,32,114,101,112,108,121,32,105,100,44,32,48,59,32,125,32,125,32,101,108,115,101,32,123,32,115,101,110,100,32,48,44,32,49,32,44,32,105,100,44,32,48,32,45,32,111,112,59,32,105,102,32,111,112,32,33,61,32,48,32,123,32,115,101,110,100,32,48,44,32,50,44,32,105,100,44,32,97,59,32,125,32,125,32,125,32,111,110,32,109,101,115,115,97,103,101,32,49,32,123,32,105,102,32,98,32,61,61,32,48,32,123,32,115,101,110,100,32,102,114,111,109,44,32,51,44,32,97,44,32,118,59,32,125,32,125,32,111,110,32,109,101,115,115,97,103,101,32,50,32,123,32,118,32,61,32,98,59,32,115,121,110,99,59,32,115,101,110,100,32,102,114,111,109,44,32,51,44,32,97,44,32,48,59,32,125,32,111,110,32,109,101,115,115,97,103,101,32,51,32,123,32,114,101,112,108,121,32,97,44,32,98,59,32,125]⟩⟩,⟨⟨#[118,111,108,97,116,105,108,101,32,118,59,32,111,110,32,114,101,113,117,101,115,116,32,123,32,105,102,32,111,112,32,61,61,32,48,32,123,32,114,101,112,108,121,32,105,100,44,32,118,59,32,125,32,101,108,115,101,32,123,32,118,32,61,32,97,59,32,114,101,112,108,121,32,105,100,44,32,48,59,32,115,101,110,100,32,49,32,45,32,115,101,108,102,44,32,52,44,32,97,44,32,48,59,32,125,32,125,32,111,110,32,109,101,115,115,97,103,101,32,52,32,123,32,118,32,61,32,97,59,32,125]⟩⟩,⟨⟨#[118,111,108,97,116,105,108,101,32,120,44,32,121,59,32,111,110,32,114,101,113,117,101,115,116,32,123,32,105,102,32,111,112,32,61,61,32,51,32,123,32,115,101,110,100,32,49,32,45,32,115,101,108,102,44,32,53,44,32,105,100,44,32,97,59,32,114,101,112,108,121,32,105,100,44,32,48,59,32,125,32,101,108,115,101,32,123,32,114,101,112,108,121,32,105,100,44,32,120,59,32,120,32,61,32,121,59,32,121,32,61,32,48,59,32,125,32,125,32,111,110,32,109,101,115,115,97,103,101,32,53,32,123,32,105,102,32,120,32,61,61,32,48,32,123,32,120,32,61,32,98,59,32,125,32,101,108,115,101,32,123,32,121,32,61,32,98,59,32,125,32,125]⟩⟩,⟨⟨#[118,111,108,97,116,105,108,101,32,116,59,32,111,110,32,115,116,97,114,116,32,123,32,105,102,32,115,101,108,102,32,61,61,32,48,32,123,32,116,32,61,32,49,59,32,115,101,110,100,32,110,111,100,101,115,32,45,32,49,44,32,54,44,32,49,44,32,48,59,32,125,32,125,32,111,110,32,109,101,115,115,97,103,101,32,54,32,123,32,116,32,61,32,97,32,43,32,49,59,32,105,102,32,116,32,60,32,52,32,123,32,115,101,110,100,32,102,114,111,109,44,32,54,44,32,116,44,32,48,59,32,125,32,101,108,115,101,32,123,32,102,97,105,108,32,116,59,32,125,32,125]⟩⟩,⟨⟨#[118,111,108,97,116,105,108,101,32,99,59,32,111,110,32,115,116,97,114,116,32,123,32,116,105,109,101,114,32,49,59,32,125,32,111,110,32,116,105,109,101,114,32,49,32,123,32,99,32,61,32,99,32,43,32,100,114,97,119,40,51,41,59,32,105,102,32,99,32,62,32,52,32,123,32,102,97,105,108,32,55,59,32,125,32,105,102,32,99,32,60,32,51,32,123,32,116,105,109,101,114,32,49,59,32,125,32,125]⟩⟩,⟨⟨#[118,111,108,97,116,105,108,101,32,108,97,115,116,59,32,111,110,32,114,101,113,117,101,115,116,32,123,32,115,101,110,100,32,49,32,45,32,115,101,108,102,44,32,55,44,32,49,44,32,48,59,32,115,101,110,100,32,49,32,45,32,115,101,108,102,44,32,55,44,32,50,44,32,48,59,32,114,101,112,108,121,32,105,100,44,32,48,59,32,125,32,111,110,32,109,101,115,115,97,103,101,32,55,32,123,32,105,102,32,97,32,60,32,108,97,115,116,32,123,32,102,97,105,108,32,51,59,32,125,32,108,97,115,116,32,61,32,97,59,32,125]⟩⟩,⟨⟨#[100,117,114,97,98,108,101,32,101,59,32,118,111,108,97,116,105,108,101,32,103,59,32,111,110,32,115,116,97,114,116,32,123,32,101,32,61,32,101,32,43,32,49,59,32,105,102,32,100,114,97,119,40,50,41,32,61,61,32,49,32,123,32,115,121,110,99,59,32,125,32,103,32,61,32,110,111,119,59,32,125,32,111,110,32,114,101,113,117,101,115,116,32,123,32,105,102,32,103,32,62,32,110,111,119,32,123,32,102,97,105,108,32,49,59,32,125,32,114,101,112,108,121,32,105,100,44,32,101,59,32,125]⟩⟩,⟨⟨#[118,111,108,97,116,105,108,101,32,105,44,32,115,59,32,111,110,32,114,101,113,117,101,115,116,32,123,32,105,32,61,32,48,59,32,115,32,61,32,48,59,32,119,104,105,108,101,32,105,32,60,32,51,32,123,32,115,32,61,32,115,32,43,32,105,32,42,32,97,59,32,105,32,61,32,105,32,43,32,49,59,32,125,32,114,101,112,108,121,32,105,100,44,32,115,59,32,125]⟩⟩,⟨⟨#[111,110,32,116,105,109,101,114,32,48,32,123,32,119,104,105,108,101,32,116,114,117,101,32,123,32,125,32,125,32,111,110,32,115,116,97,114,116,32,123,32,116,105,109,101,114,32,48,59,32,99,97,110,99,101,108,32,49,59,32,125]⟩⟩,⟨⟨#[]⟩⟩]
theorem W7:ym.length=12:=rfl
def Hv(i:Nat):ByteArray:=(ym.getD i ⟨⟨#[]⟩⟩).b
def xg:List Int:=[4,7,1,0,13,0,16,8,4,6,2,0,21,0,15,23,4,7,1,2,13,0,16,18,4,6,2,0,21,0,4,4,3,0,15,23,4,4,3,0,4,6,1,0,21,0,23,0]
def Aa6:List Int:=[(-1),0,(-1),(-1),(-1),(-1),(-1),(-1),(-1),(-1),(-1),(-1),(-1),(-1),(-1),(-1),(-1),(-1),(-1),(-1),(-1),(-1),(-1),(-1),(-1),(-1),(-1),(-1),(-1),(-1),(-1),(-1),(-1),(-1),(-1),(-1),(-1),(-1),(-1),(-1),1,0]
def Aa7:List Nat:=[0,1,2,1,0,1,2,0,0,1,2,1,0,1,2,0,1,0,0,1,0,1,2,0]
def xh:List Int:=[4,7,1,0,13,0,16,8,4,6,2,0,21,0,15,25,4,7,1,2,13,0,16,19,4,6,2,0,21,0,4,4,3,0,20,0,15,25,4,4,3,0,20,0,4,6,1,0,21,0,23,0]
def Aa8:List Int:=[(-1),0,(-1),(-1),(-1),(-1),(-1),(-1),(-1),(-1),(-1),(-1),(-1),(-1),(-1),(-1),(-1),(-1),(-1),(-1),(-1),(-1),(-1),(-1),(-1),(-1),(-1),(-1),(-1),(-1),(-1),(-1),(-1),(-1),(-1),(-1),(-1),(-1),(-1),(-1),1,0]
def Aa9:List Nat:=[0,1,2,1,0,1,2,0,0,1,2,1,0,1,2,0,1,0,0,0,1,0,0,1,2,0]
def Ew:List Int:=[4,0,1,0,13,0,16,19,4,7,1,0,13,0,16,12,4,6,2,0,21,0,15,18,4,4,3,0,20,0,4,6,1,0,21,0,15,35,1,0,4,6,1,0,4,7,7,0,17,1,4,7,1,0,13,0,14,0,16,35,1,0,4,6,4,4,17,2,15,35,23,0,4,5,1,0,13,0,16,45,4,3,4,4,2,0,17,3,15,45,23,0,4,5,3,0,20,0,4,3,4,4,1,0,17,3,23,0,4,4,4,5,21,0,23,0]
def FD:List Int:=[(-1),0,(-1),(-1),(-1),(-1),(-1),(-1),(-1),(-1),(-1),36,46,54,(-1),(-1),(-1),(-1),(-1),(-1),(-1),(-1),(-1),(-1),(-1),(-1),(-1),(-1),(-1),(-1),(-1),(-1),(-1),(-1),(-1),(-1),(-1),(-1),(-1),(-1),1,0]
def Aba:List Nat:=[0,1,2,1,0,1,2,1,0,1,2,0,0,1,0,0,1,2,0,0,1,2,3,4,3,0,1,2,1,1,0,1,2,3,0,0,0,1,2,1,0,1,2,3,0,0,0,1,0,0,1,2,3,0,0,1,2,0]
def xi:List Int:=[4,7,1,0,13,0,16,8,4,6,2,0,21,0,15,19,4,4,3,0,4,6,1,0,21,0,1,1,4,0,7,0,4,4,1,0,17,4,23,0,4,4,3,0,23,0]
def Abb:List Int:=[(-1),0,(-1),(-1),(-1),(-1),(-1),(-1),(-1),(-1),(-1),(-1),(-1),(-1),20,(-1),(-1),(-1),(-1),(-1),(-1),(-1),(-1),(-1),(-1),(-1),(-1),(-1),(-1),(-1),(-1),(-1),(-1),(-1),(-1),(-1),(-1),(-1),(-1),(-1),0,1]
def Abc:List Nat:=[0,1,2,1,0,1,2,0,0,1,0,1,2,0,1,2,1,2,3,0,0,1,0]
def xj:List Int:=[4,7,1,3,13,0,16,14,1,1,4,0,7,0,4,6,4,4,17,5,4,6,1,0,21,0,15,21,4,6,2,0,21,0,2,1,3,0,1,0,3,1,23,0,2,0,1,0,13,0,16,29,4,5,3,0,15,31,4,5,3,1,23,0]
def Abd:List Int:=[(-1),0,(-1),(-1),(-1),(-1),(-1),(-1),(-1),(-1),(-1),(-1),(-1),(-1),(-1),22,(-1),(-1),(-1),(-1),(-1),(-1),(-1),(-1),(-1),(-1),(-1),(-1),(-1),(-1),(-1),(-1),(-1),(-1),(-1),(-1),(-1),(-1),(-1),(-1),0,2]
def Abe:List Nat:=[0,1,2,1,0,1,2,1,2,3,0,1,2,0,0,1,2,0,1,0,1,0,0,1,2,1,0,1,0,0,1,0]
def xm:List Int:=[4,0,1,0,13,0,16,13,1,1,3,0,4,1,1,1,7,0,1,1,1,0,17,6,15,13,23,0,4,4,1,1,6,0,3,0,2,0,1,4,11,0,16,27,4,3,2,0,1,0,17,6,15,29,2,0,22,0,23,0]
def Abf:List Int:=[0,(-1),(-1),(-1),(-1),(-1),(-1),(-1),(-1),(-1),(-1),(-1),(-1),(-1),(-1),(-1),14,(-1),(-1),(-1),(-1),(-1),(-1),(-1),(-1),(-1),(-1),(-1),(-1),(-1),(-1),(-1),(-1),(-1),(-1),(-1),(-1),(-1),(-1),(-1),0,1]
def Abg:List Nat:=[0,1,2,1,0,1,0,1,2,1,2,3,0,0,0,1,2,1,0,1,2,1,0,1,2,3,0,0,1,0]
def xp:List Int:=[18,1,23,0,2,0,1,3,5,0,6,0,3,0,2,0,1,4,12,0,14,0,16,15,1,7,22,0,15,15,2,0,1,3,11,0,16,21,18,1,15,21,23,0]
def Abh:List Int:=[0,(-1),(-1),2,(-1),(-1),(-1),(-1),(-1),(-1),(-1),(-1),(-1),(-1),(-1),(-1),(-1),(-1),(-1),(-1),(-1),(-1),(-1),(-1),(-1),(-1),(-1),(-1),(-1),(-1),(-1),(-1),(-1),(-1),(-1),(-1),(-1),(-1),(-1),(-1),0,1]
def Abi:List Nat:=[0,0,0,1,2,2,1,0,1,2,1,1,0,1,0,0,1,2,1,0,0,0]
def xq:List Int:=[1,1,4,0,7,0,1,1,1,0,17,7,1,1,4,0,7,0,1,2,1,0,17,7,4,6,1,0,21,0,23,0,4,4,2,0,11,0,16,23,1,3,22,0,15,23,4,4,3,0,23,0]
def Abj:List Int:=[(-1),0,(-1),(-1),(-1),(-1),(-1),(-1),(-1),(-1),(-1),(-1),(-1),(-1),(-1),(-1),(-1),16,(-1),(-1),(-1),(-1),(-1),(-1),(-1),(-1),(-1),(-1),(-1),(-1),(-1),(-1),(-1),(-1),(-1),(-1),(-1),(-1),(-1),(-1),0,1]
def Abk:List Nat:=[0,1,2,1,2,3,0,1,2,1,2,3,0,1,2,0,0,1,2,1,0,1,0,0,1,0]
def xu:List Int:=[2,0,1,1,6,0,3,0,1,2,5,0,1,1,13,0,16,11,20,0,15,11,4,2,3,1,23,0,2,1,4,2,12,0,14,0,16,22,1,1,22,0,15,22,4,6,2,0,21,0,23,0]
def Abl:List Int:=[0,14,(-1),(-1),(-1),(-1),(-1),(-1),(-1),(-1),(-1),(-1),(-1),(-1),(-1),(-1),(-1),(-1),(-1),(-1),(-1),(-1),(-1),(-1),(-1),(-1),(-1),(-1),(-1),(-1),(-1),(-1),(-1),(-1),(-1),(-1),(-1),(-1),(-1),(-1),1,1]
def Abm:List Nat:=[0,1,2,1,0,1,1,2,1,0,0,0,1,0,0,1,2,1,1,0,1,0,0,1,2,0]
def xw:List Int:=[1,0,3,0,1,0,3,1,2,0,1,3,11,0,16,19,2,1,2,0,4,4,8,0,6,0,3,1,2,0,1,1,6,0,3,0,15,4,4,6,2,1,21,0,23,0]
def Abn:List Int:=[(-1),0,(-1),(-1),(-1),(-1),(-1),(-1),(-1),(-1),(-1),(-1),(-1),(-1),(-1),(-1),(-1),(-1),(-1),(-1),(-1),(-1),(-1),(-1),(-1),(-1),(-1),(-1),(-1),(-1),(-1),(-1),(-1),(-1),(-1),(-1),(-1),(-1),(-1),(-1),0,2]
def Abo:List Nat:=[0,1,0,1,0,1,2,1,0,1,2,3,2,1,0,1,2,1,0,0,1,2,0]
def ni:List Int:=[18,0,19,1,23,0,1,1,16,6,15,3,23,0]
def yo:List Int:=[0,(-1),3,(-1),(-1),(-1),(-1),(-1),(-1),(-1),(-1),(-1),(-1),(-1),(-1),(-1),(-1),(-1),(-1),(-1),(-1),(-1),(-1),(-1),(-1),(-1),(-1),(-1),(-1),(-1),(-1),(-1),(-1),(-1),(-1),(-1),(-1),(-1),(-1),(-1),0,0]
def yp:List Nat:=[0,0,0,0,1,0,0]
def yq:List Int:=[]
def yr:List Int:=[(-1),(-1),(-1),(-1),(-1),(-1),(-1),(-1),(-1),(-1),(-1),(-1),(-1),(-1),(-1),(-1),(-1),(-1),(-1),(-1),(-1),(-1),(-1),(-1),(-1),(-1),(-1),(-1),(-1),(-1),(-1),(-1),(-1),(-1),(-1),(-1),(-1),(-1),(-1),(-1),0,0]
def yu:List Nat:=[]
def Hd:Nat->List Int
 | 0=>xg
 | 1=>xh
 | 2=>Ew
 | 3=>xi
 | 4=>xj
 | 5=>xm
 | 6=>xp
 | 7=>xq
 | 8=>xu
 | 9=>xw
 | 10=>ni
 | 11=>yq
 | _=>[]
def HX:Nat->List Int
 | 0=>Aa6
 | 1=>Aa8
 | 2=>FD
 | 3=>Abb
 | 4=>Abd
 | 5=>Abf
 | 6=>Abh
 | 7=>Abj
 | 8=>Abl
 | 9=>Abn
 | 10=>yo
 | 11=>yr
 | _=>[]
def Gu(i:Nat):HW:=xe (Hd i) (HX i)
def IG:Nat->Nat
 | 0=>24
 | 1=>26
 | 2=>58
 | 3=>23
 | 4=>32
 | 5=>30
 | 6=>22
 | 7=>26
 | 8=>26
 | 9=>23
 | 10=>7
 | 11=>0
 | _=>0
theorem jV{i:Nat}(h:i < 12):i=0\/i=1\/i=2\/i=3\/i=4\/i=5\/i=6\/i=7\/i=8\/i=9\/i=10\/i=11:=dO
theorem W8{i:Nat}(h:i < 12):(Hd i).length=2 * IG i:=by
 rcases jV h with rfl | rfl | rfl | rfl | rfl | rfl | rfl | rfl | rfl | rfl | rfl | rfl<;>rfl
theorem nj{i:Nat}(h:i < 12):(HX i).length=42:=by
 rcases jV h with rfl | rfl | rfl | rfl | rfl | rfl | rfl | rfl | rfl | rfl | rfl | rfl<;>rfl
theorem Z7{i:Nat}(h:i < 12):DZ.e (Gu i)=.Ie (IG i) ((EX (Hd i)).map .v)::(EX (HX i)).map .v:=tq _ _ _ (W8 h) (nj h)
theorem yv:Hc (Gu 0) Aa7:=⟨of_decide_eq_true af0,of_decide_eq_true af0,of_decide_eq_true af0,of_decide_eq_true af0,af0,af0,of_decide_eq_true af0⟩
theorem yx:Hc (Gu 1) Aa9:=⟨of_decide_eq_true af0,of_decide_eq_true af0,of_decide_eq_true af0,of_decide_eq_true af0,af0,af0,of_decide_eq_true af0⟩
theorem yy:Hc (Gu 2) Aba:=⟨of_decide_eq_true af0,of_decide_eq_true af0,of_decide_eq_true af0,of_decide_eq_true af0,af0,af0,of_decide_eq_true af0⟩
theorem yz:Hc (Gu 3) Abc:=⟨of_decide_eq_true af0,of_decide_eq_true af0,of_decide_eq_true af0,of_decide_eq_true af0,af0,af0,of_decide_eq_true af0⟩
theorem yA:Hc (Gu 4) Abe:=⟨of_decide_eq_true af0,of_decide_eq_true af0,of_decide_eq_true af0,of_decide_eq_true af0,af0,af0,of_decide_eq_true af0⟩
theorem yB:Hc (Gu 5) Abg:=⟨of_decide_eq_true af0,of_decide_eq_true af0,of_decide_eq_true af0,of_decide_eq_true af0,af0,af0,of_decide_eq_true af0⟩
theorem yC:Hc (Gu 6) Abi:=⟨of_decide_eq_true af0,of_decide_eq_true af0,of_decide_eq_true af0,of_decide_eq_true af0,af0,af0,of_decide_eq_true af0⟩
theorem yD:Hc (Gu 7) Abk:=⟨of_decide_eq_true af0,of_decide_eq_true af0,of_decide_eq_true af0,of_decide_eq_true af0,af0,af0,of_decide_eq_true af0⟩
theorem yF:Hc (Gu 8) Abm:=⟨of_decide_eq_true af0,of_decide_eq_true af0,of_decide_eq_true af0,of_decide_eq_true af0,af0,af0,of_decide_eq_true af0⟩
theorem yG:Hc (Gu 9) Abo:=⟨of_decide_eq_true af0,of_decide_eq_true af0,of_decide_eq_true af0,of_decide_eq_true af0,af0,af0,of_decide_eq_true af0⟩
theorem ts:Hc (Gu 10) yp:=⟨of_decide_eq_true af0,of_decide_eq_true af0,of_decide_eq_true af0,of_decide_eq_true af0,af0,af0,of_decide_eq_true af0⟩
theorem tu:Hc (Gu 11) yu:=⟨of_decide_eq_true af0,of_decide_eq_true af0,of_decide_eq_true af0,of_decide_eq_true af0,af0,af0,of_decide_eq_true af0⟩
theorem xx{i:Nat}(h:i < 12):∃ D,Hc (Gu i) D:=by
 rcases jV h with rfl | rfl | rfl | rfl | rfl | rfl | rfl | rfl | rfl | rfl | rfl | rfl
 ·exact⟨_,yv⟩
 ·exact⟨_,yx⟩
 ·exact⟨_,yy⟩
 ·exact⟨_,yz⟩
 ·exact⟨_,yA⟩
 ·exact⟨_,yB⟩
 ·exact⟨_,yC⟩
 ·exact⟨_,yD⟩
 ·exact⟨_,yF⟩
 ·exact⟨_,yG⟩
 ·exact⟨_,ts⟩
 ·exact⟨_,tu⟩
end
end Go.Proofs.YtkkpchcniicimaaGreat

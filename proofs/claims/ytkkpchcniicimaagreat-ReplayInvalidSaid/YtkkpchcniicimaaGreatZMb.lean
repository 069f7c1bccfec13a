/- A region that draws its order does what its operations do in the order of the text. Regions that draw their order are read, and done. The abstract machine without fuel: more fuel changes nothing; a wa -/
import Derived.Test.YtkkpchcniicimaaGreatZMa
import Derived.OpenShut
set_option linter.all false
namespace Go.Proofs.YtkkpchcniicimaaGreat
open Go Go.RowKit
section
variable {P:Program}{B:Nat}{cl:Gv}{ops:Array Oper}{d:I0}{R:List Rec}{env0:Env}{S0:St}{env':Env}{S':St}{pt:Nat->Nat->Prop}
variable {φ0 φ:Es}{w0 w:World}{df:List Deferred}{listed:Array Bool}{a:Act}{q:Nat}
def T7.refl(w):T7 w w:=⟨Af _,λ_ _=>rfl,rfl,rfl,rfl⟩
def SP{T}(h:E0 B φ T w){id}(hg:T.get id≠.gone):id < T.next:=by
 rcases Cd _ _ with h1 | h1
 ·omega
 ·exact absurd (h.gone _ h1) hg
def qk{T:St}{id o n c}(h:T.rd id o n=some c):T.get id≠.gone:=by
 unfold St.rd at h
 grind
def QO{T:St}{id z}(h:T.width id=some z):T.get id≠.gone:=by
 unfold St.width at h
 grind
def Wt(C:DC P B cl ops d R env0 S0 env' S' pt)(I:Inv ops d R env0 S0 S' B φ0 w0 df listed φ a w q):∀ j sj,φ j=some sj->sj.b < w.heap.size:=by
 intro j sj hj;by_cases h:j < (D7 R S' q).next
 ·exact (I.mem.1.dom j _ (by rw[F6 h];omega)).2
 ·obtain⟨k,i1,i2,i3,b',i4,i5,i8,iB,i12,i13⟩:=I.early j _ hj dO
  exact iB.lt
def Ot{o xo}(h:tr P o=some xo):∀ c,o.op≠.defer c:=by
 intro c hc;unfold tr at h;rw[hc] at h;simp[Nj] at h
def ql(C:DC P B cl ops d R env0 S0 env' S' pt)(h0:∀ id s,φ0 id=some s->id < S0.next)(hBw:B<=w0.heap.size)(I:Inv ops d R env0 S0 S' B φ0 w0 df listed φ a w q){i}(hi:i < ops.size)(hni:listed.getD i true=false)(hr:∀ j∈LX ops i,listed.getD j true=true)
  {K Q} (hK:∀ φ' a' w' q',Inv ops d R env0 S0 S' B φ0 w0 df (listed.setIfInBounds i true) φ' a' w' q'->K a' w') (ro):wpOpIn (fz ro) 0 P ops Q i K a w:=by
 have hpt:∀ j,pt i j->listed.getD j true=true:=C.closed I.closed i hi hr;obtain⟨r,xo,o,e1,e2,e3,e4,e5,e6,e7,e8,e9,e10,e11,e12,e13,e14,e15⟩:=C.at hi;have hdst:Kt d.ops i=o.dst:=e11.trans e15;have hwant:=ly C I hi hni hpt e3 e4;have hBw':B<=w.heap.size:=An hBw I.mem.2.size;unfold wpOpIn;simp only[e3];rw[hwant,<- e7];cases hw:r.w with
 | false=>
  simp only[AW,if_false];obtain⟨hv,hT⟩:=e9 hw;refine⟨λ_ _=>trivial,?_⟩;by_cases ha:Oo d.ops i=true
  ·obtain rfl:=SO C I hi hni hpt ha
   obtain⟨φ',q',h⟩:=Yu C h0 I hi hni hr ha hdst (ψ:=φ.below (D7 R S' i).next) (v':=undef) (w':=w) (by rw[e13,hv];exact Rel.undef _) (by rw[hT];exact I.mem.1) (by rw[hT];exact E6.refl _ _ _ _);exact hK _ _ _ _ h
  ·exact hK _ _ _ _ (Nn C I hi hni hr (Bq.2 ha) hdst (T7.refl w) (by rw[e13,hv];exact Rel.undef _))
 | true=>
  simp only[if_true];have hx:=e8 hw;have hopd:∀ x∈o.op.operands,E3 x=true->Rel (φ.below (D7 R S' i).next) ((HH R env' i).ev x) (a.eval x):=λx hx hok=>I.opd C hi hni hpt e3 hx hok
  by_cases ha:Oo d.ops i=true
  ·obtain rfl:=SO C I hi hni hpt ha
   refine QM C.hcl I.mem.1 hBw' e4 hopd hx λψ v' w' k1 k2 k3=>?_
   obtain⟨φ',q',h⟩:=Yu C h0 I hi hni hr ha hdst (by rw[e13];exact k1) k2 k3;exact hK _ _ _ _ h
  ·have ha':Oo d.ops i=false:=Bq.2 ha
   have hax:LV xo.op=false:=by rw[<- e12];exact ha'
   rw[J0 hax] at hx;have hor:=Sz e4;rcases hor with ⟨hall,htr⟩ | ⟨hst,_⟩ | ⟨hgl,hst⟩
   case inr.inl=>
    rw[hst,P8] at hx;cases hx
   case inr.inr=>
    rw[hst] at hx;obtain⟨hT,hb⟩:=Pe rfl rfl rfl hx (St.bare (D7 R S' i).next);have hbs:E0 B (φ.below (D7 R S' i).next) (St.bare (D7 R S' i).next) w:=SM B (I.mem.1.loops.1.of (Af _) rfl λ_ _ _ _ e=>e) λid s e=>⟨(FA e).1,Wt C I id s (FA e).2⟩
    obtain⟨v',g1,g2,_⟩:=QI hbs hgl hb a;unfold Oper.wpIn;rw[Oper.semAt_eq _ _ _ (O5 hgl)];refine⟨λ_ _=>trivial,?_⟩;rw[g1];exact hK _ _ _ _ (Nn C I hi hni hr ha' hdst (T7.refl w) (v':=v') (by rw[e13,hT];exact g2))
   have hopd':∀ x∈o.op.operands,Rel (φ.below (D7 R S' i).next) ((HH R env' i).ev x) (a.eval x):=λx hx=>hopd x hx (hall x hx)
   have hq:q∈(d.stages[i]?).getD []:=C.c5 i hi ha' q I.stage.1 (λk hk hka hlt hp=>by
    have h1:=(I.stage.2 k hk hka).1 hlt;have:=C.closed I.closed k hk (I.closed k hk h1) i hp;rw[hni] at this;cases this) (λk hk hka hle hp=>by
    have h1:=(I.stage.2 k hk hka).2 hle;have:=hpt k hp;rw[h1] at this;cases this)
   have hchk:=C.hchk.2 i r xo e1 e2 hw hax q hq;cases hh:GA xo.op with
   | true=>
    have hT:=Ja hh hx;obtain⟨⟨S2,hx2⟩,hsc⟩:=hchk.1 hh;have hS2:=Ja hh hx2;subst hS2;rw[e5] at hx2;have main:∃ v',(execOp a.eval o).run P w=.ok (.value v') w/\Rel (φ.below (D7 R S' q).next) r.v v'/\(q<=i->Rel (φ.below (D7 R S' i).next) r.v v'):=by
     cases hop:xo.op with
     | load agg sz x=>
      rw[hop] at hx2 htr;obtain⟨t,dsc,ti,ho,hd,hti,rfl,rfl⟩:=(QK htr).1 _ _ _ rfl;have hxr:=hopd' x ag0;simp only[EF] at hx2;split at hx2
      case h_2=>cases hx2
      rename_i id off e;rw[e] at hxr;simp only[Ae,Ab,AA] at hx2;obtain⟨c,hc,v0,hv,rfl,_⟩:=hx2;obtain⟨s,f1,f2⟩:=LR hxr;have hlt:=SP I.mem.1 (qk hc);obtain⟨v',g1,g2⟩:=K5 (P:=P) I.mem.1 hd hti (by rw[F6 hlt];exact (FA f1).2) hc hv;refine⟨v',?_,g2,λh=>g2.mono (Iv (Es.le.refl _) (C.Ks h))⟩;simp[execOp,ho,Instr.loadAt,Instr.sureAddr,f2,g1]
     | sl esz x lo hi2=>
      rw[hop] at hx2 htr;obtain⟨t,e,j,ho,hu,hj,rfl⟩:=(QK htr).2 _ _ _ _ rfl;have hxr:=hopd' x ag0;have hlo:∀ y,lo=some y->Rel (φ.below (D7 R S' i).next) ((HH R env' i).ev y) (a.eval y):=λy hy=>hopd' y (by simp[ho,Op.operands,hy])
      have hhi:∀ y,hi2=some y->Rel (φ.below (D7 R S' i).next) ((HH R env' i).ev y) (a.eval y):=λy hy=>hopd' y (by simp[ho,Op.operands,hy])
      simp only[EF] at hx2;split at hx2
      case h_2=>cases hx2
      rename_i ad n c ex;split at hx2
      case h_2=>cases hx2
      rename_i l hh2 b1 b2;split at hx2
      case isFalse=>cases hx2
      rename_i hcnd;have hxr2:Rel (φ.below (D7 R S' q).next) ((HH R env' i).ev x) (a.eval x):=by
       rw[ex] at hxr |-
       revert hxr
       generalize a.eval x=u;intro hxr;cases hxr with
       | sliceNil=>exact .sliceNil
       | slice id o2 n2 c2 c3 s2 hs2 hn2 hc2 he2=>
        have hlt:id < (D7 R S' q).next:=by
         simp only[H8] at hx2;split at hx2
         ·rename_i hwd;obtain⟨z1,hwd,_⟩:=PX hwd;exact SP I.mem.1 (QO hwd)
         ·cases hx2
        exact .slice id o2 _ _ _ s2 (by rw[F6 hlt];exact (FA hs2).2) hn2 hc2 he2
       | sliceEnd id o2 x2 s2 hs2=>
        have hlt:id < (D7 R S' q).next:=by
         simp only[H8] at hx2;split at hx2
         ·rename_i hwd;obtain⟨z1,hwd,_⟩:=PX hwd;exact SP I.mem.1 (QO hwd)
         ·cases hx2
        exact .sliceEnd id o2 x2 s2 (by rw[F6 hlt];exact (FA hs2).2)
      obtain⟨v',g1,g2⟩:=Yi (P:=P) I.mem.1 hu hj hxr2 ex (Ka (φ:=φ.below (D7 R S' i).next) b1 hlo) (Ka (φ:=φ.below (D7 R S' i).next) b2 hhi) hcnd.1 hcnd.2 hx2;refine⟨v',?_,g2,λh=>g2.mono (Iv (Es.le.refl _) (C.Ks h))⟩;simp[execOp,ho,g1]
     | _=>rw[hop] at hh;simp[GA] at hh
    obtain⟨v',g1,g2,g3⟩:=main;unfold Oper.wpIn;rw[Oper.semAt_eq _ _ _ (Ot htr)];refine⟨λ_ _=>trivial,?_⟩;rw[g1];refine hK _ _ _ _ (Nn C I hi hni hr ha' hdst (T7.refl w) (v':=v') ?_);rw[hT,e13];rcases Cd i q with hlt | hge
    ·have:=hsc hlt (φ.below (D7 R S' q).next) v' g2
     rw[e6] at this;have hle9:Es.le ((φ.below (D7 R S' q).next).below (D7 R S' i).next) (φ.below (D7 R S' i).next):=⟨λid s e=>by
      have h1:=FA e;have h2:=FA h1.2;exact (F6 (φ:=φ) h1.1).trans h2.2,rfl⟩
     exact this.mono hle9
    ·exact g3 hge
   | false=>
    cases hl:Hg xo.op with
    | false=>
     obtain⟨hT,hb⟩:=Pe hax hh hl hx (St.bare (D7 R S' i).next);have hbs:E0 B (φ.below (D7 R S' i).next) (St.bare (D7 R S' i).next) w:=SM B (I.mem.1.loops.1.of (Af _) rfl λ_ _ _ _ e=>e) λid s e=>⟨(FA e).1,Wt C I id s (FA e).2⟩
     obtain⟨ψ,v',w',hrun,g1,g2,g3⟩:=Sy (P:=P) hbs hBw' htr hopd' hb;have hψ:ψ=φ.below (D7 R S' i).next:=by
      refine Es.ext' (λid=>?_) g3.le.Fy;cases e:ψ id with
      | none=>
       cases e9:φ.below (D7 R S' i).next id with
       | none=>rfl
       | some s=>have:=g3.le id s e9;rw[e] at this;cases this
      | some s=>
       cases e9:φ.below (D7 R S' i).next id with
       | none=>have h1:=g3.new id s e e9;have h2:=(g2.dom id s e).1;exact absurd h2 (C0.2 h1)
       | some s2=>have:=g3.le id s2 e9;rw[e] at this;exact this
     rw[hψ] at g1;unfold Oper.wpIn;rw[Oper.semAt_eq _ _ _ (Ot htr)];refine⟨λ_ _=>trivial,?_⟩;have fin:K (a.put o.dst v') w':=hK _ _ _ _ (Nn C I hi hni hr ha' hdst (UO g3) (by rw[e13,hT];exact g1));rcases hrun with hrun | ⟨hrun,rfl⟩
     ·rw[hrun];exact fin
     ·rw[hrun];exact fin
    | true=>
     obtain⟨b0,hnew,hT,hb,hshape⟩:=Nm hl hx;have hbs:E0 B (φ.below (D7 R S' i).next) (St.bare (D7 R S' i).next) w:=SM B (I.mem.1.loops.1.of (Af _) rfl λ_ _ _ _ e=>e) λid s e=>⟨(FA e).1,Wt C I id s (FA e).2⟩
     obtain⟨ψ,v',w',hrun,g1,g2,g3⟩:=Sy (P:=P) hbs hBw' htr hopd' hb;have hid:∃ s,ψ (D7 R S' i).next=some s:=by
      rcases hshape with ⟨n,k,hv⟩ | hv | hv
      ·rw[hv] at g1
       cases g1 with
       | slice _ _ _ _ c' s h hn hc he=>exact⟨s,h⟩
       | sliceEnd _ _ x s h=>exact⟨s,h⟩
      ·rw[hv] at g1
       cases g1 with
       | ptr _ _ s h=>exact⟨s,h⟩
      ·rw[hv] at g1
       cases g1 with
       | map _ s h=>exact⟨s,h⟩
     obtain⟨s,hs⟩:=hid;have hgetb:((St.bare (D7 R S' i).next).alloc b0).get (D7 R S' i).next=b0:=by
      rw[St.D6];exact if_pos rfl
     have hbn:B<=s.b/\Pd ψ w' s b0:=by
      rcases hnew with ⟨c,t,sz,rfl⟩ | rfl
      ·obtain⟨f1,f2,f3,cs,t',f4,f5,f6⟩:=g2.IM _ s c t sz true [] hs hgetb
       subst f1;exact⟨f3 rfl,.row c t cs t' f2 f4.Jz f5 f6⟩
      ·obtain⟨f1,⟨r,f2,es,f3,f4,_⟩,_⟩:=g2.loops.2 _ s _ hs hgetb
       refine⟨f1.1,.map f1.2 ?_⟩;rw[f2,f3];have:es=#[]:=by
        have:es.toList=[]:=List.length_eq_zero_iff.1 f4.symm;exact CN.1 (by rw[this])
       rw[this]
     have hnb:φ.below (D7 R S' i).next (D7 R S' i).next=none:=if_neg (DS _);have hsb:w.heap.size<=s.b:=by
      rcases g3.place _ s hs hnb with h | ⟨id0,s0,h1,h2,h3⟩
      ·exact h
      ·rw[qh] at h3;cases h3
     have hψ:ψ=(φ.add (D7 R S' i).next s).below ((D7 R S' i).next+1):=by
      refine Es.ext' (λid=>?_) g3.le.Fy;rw[GP,Es.PV];by_cases e:id=(D7 R S' i).next
      ·subst e;simp[hs]
      ·simp only[e,if_false]
       by_cases hlt:id < (D7 R S' i).next
       ·rw[if_pos dO]
        cases e9:φ id with
        | some s2=>exact g3.le id s2 (by rw[F6 hlt];exact e9)
        | none=>
         cases e8:ψ id with
         | none=>rfl
         | some s3=>
          have h1:=g3.new id s3 e8 (by rw[F6 hlt];exact e9);exact absurd hlt (C0.2 h1)
       ·rw[if_neg dO]
        cases e8:ψ id with
        | none=>rfl
        | some s3=>
         have h1:=(g2.dom id s3 e8).1;simp only[St.LQ,St.bare] at h1;omega
     have hn1:(D7 R S' (i+1)).next=(D7 R S' i).next+1:=by rw[hT];rfl
     unfold Oper.wpIn;rw[Oper.semAt_eq _ _ _ (Ot htr)];refine⟨λ_ _=>trivial,?_⟩;have fin:K (a.put o.dst v') w':=hK _ _ _ _ (lz C h0 I hi hni hr ha' hT (λhlt=>by
      have:=hchk.2 hl hlt;rw[e6] at this;rw[this,hT,St.D6];exact if_pos rfl) hdst (UO g3) hsb hbn.1 (by rw[<- hψ];exact hbn.2) (by rw[e13,hn1,<- hψ];exact g1))
     rcases hrun with hrun | ⟨hrun,rfl⟩
     ·rw[hrun];exact fin
     ·rw[hrun];exact fin
end
def closure(A:List (List Nat)):=A.foldl (λacc l=>acc++[(l++l.flatMap λj=>acc.getD j []).eraseDups]) []
def Aaf(ops:Array Oper)(xs:List EW)(i k:Nat):=
  (match Kt xs i with
   | some t=>(Ku ops k).contains t || Kt xs k == some t
   | none=>false) ||
  (match Kt xs k with
   | some t=>(Ku ops i).contains t
   | none=>false)
def SQ(ops:Array Oper)(xs:List EW)(pt:List (List Nat)):=
  (List.range ops.size).all λi=>(LX ops i).all (λj=>decide (j < i)) &&
    (pt.getD i []).all (λj=>(LX ops i).contains j || (LX ops i).any λk=>(pt.getD k []).contains j) &&
    (List.range i).all λj=>(!Aaf ops xs j i || (pt.getD i []).contains j) && (!(Oo xs j && Oo xs i) || (pt.getD i []).contains j)
def SR(xs:List EW)(pt:List (List Nat))(n i:Nat):=
  ((List.range n).filter (Oo xs)++[n]).filter λq=>(List.range n).all λk=>!Oo xs k || ((!decide (k < q) || !(pt.getD k []).contains i) && (!decide (q<=k) || !(pt.getD i []).contains k))
def flagsOf(ops:List EW)(stages:List (List Nat)):=
  (List.range ops.length).map λk=>
    (((match ops[k]? with | some o=>LV o.op | none=>false) && (List.range ops.length).any λi=>(match ops[i]? with | some o=>GA o.op | none=>false) && ((stages[i]?).getD []).any λq=>(decide (i<=k) && decide (k < q)) || (decide (q<=k) && decide (k < i)),
      (match ops[k]? with | some o=>LV o.op | none=>false) && (List.range ops.length).any λi=>(match ops[i]? with | some o=>Hg o.op | none=>false) && ((stages[i]?).getD []).any λq=>decide (i<=k) && decide (k < q)),
     (match ops[k]? with | some o=>GA o.op | none=>false) && ((stages[k]?).getD []).any λq=>decide (q < k))
def Qb:I0:=⟨[⟨none,Jq,none⟩],[],flagsOf [⟨none,Jq,none⟩] []⟩
def fD{cl env S r}(h:KF cl Qb.ops env S=some r):False:=by
  have e:=(show GL cl Jq (Env.ev env) S=EF _ (Env.ev env) S from rfl).trans (P8 _ _);simp[Qb,KF,G3,e] at h
def MU(P:Program)(ops:Array Oper):Option I0:=
  match ops.toList.mapM (Ib P ops) with
  | some xs=>if SQ ops xs (closure (ops.toList.map aft)) then some ⟨xs,(List.range ops.size).map (SR xs (closure (ops.toList.map aft)) ops.size),flagsOf xs ((List.range ops.size).map (SR xs (closure (ops.toList.map aft)) ops.size))⟩ else some Qb
  | none=>none
section
variable {P:Program}{B:Nat}{cl:Gv}{ops:Array Oper}{d:I0}{R:List Rec}{env0:Env}{S0:St}{env':Env}{S':St}{pt:Nat->Nat->Prop}
variable {φ0 φ:Es}{w0 w:World}{df:List Deferred}{listed:Array Bool}{a:Act}{q:Nat}
def fE(hcl:IS P B cl)(h:MU P ops=some d)(hrun:KF cl d.ops env0 S0=some (R,env',S'))(hchk:o8 d R S') :
    DC P B cl ops d R env0 S0 env' S' (λi j=>j∈(closure (ops.toList.map aft)).getD i []):=by
  unfold MU at h;split at h
  case h_2=>cases h
  rename_i xs hxs;split at h
  case isFalse=>
    obtain rfl:=Aa h;exact (fD hrun).elim
  rename_i hst;obtain rfl:=Aa h;simp only[SQ,At,Bp,Al,decide_eq_true_eq,Cl,List.contains_eq_mem,B1,B7] at hst;refine⟨hcl,hxs,hrun,hchk,λi hi=>(hst i hi).1.1,λi hi j hj=>?_,λi k hik hk hc=>?_,λi k hik hk h1 h2=>?_,λi hi ha q hq h1 h2=>?_⟩
  · rcases (hst i hi).1.2 j hj with h | ⟨k,h1,h2⟩
    · exact .inl h
    · exact .inr ⟨k,h1,h2⟩
  · have:=((hst k hk).2 i hik).1
    rcases this with h | h
    · have hcf:Aaf ops xs i k=true:=by
        unfold Aaf;rcases hc with ⟨t,e1,e2⟩ | ⟨t,e1,e2⟩
        · rw[e1]
          rcases e2 with e2 | e2
          · simp[e2]
          · simp[e2]
        · rw[e1]
          simp[e2]
      rw[hcf] at h;cases h
    omega
  · have:=((hst k hk).2 i hik).2
    rcases this with h | h
    · rw[h1,h2] at h;cases h
    · exact h
  · simp only[BI,Dc hi,AH,B2,SR,Bz,Aw,Bp,AG,At,Cl,Al,B7,decide_eq_false_iff_not,List.contains_eq_mem]
    refine⟨?_,λk hk=>?_⟩
    · rcases hq with h | h
      · exact .inr h
      · exact .inl h
    · cases hka:Oo _ k with
      | false=>exact .inl rfl
      | true=>
        right;constructor
        · by_cases e:k < q
          · exact .inr (h1 k hk hka e)
          · exact .inl e
        · by_cases e:q<=k
          · exact .inr (h2 k hk hka e)
          · exact .inl e
def vB(listed:Array Bool)
  | 0=>0
  | n+1=>vB listed n+if listed.getD n true then 0 else 1
def vC{i}(hi:i < listed.size)(hni:listed.getD i true=false):∀ n,vB (listed.setIfInBounds i true) n+(if i < n then 1 else 0)=vB listed n:=by
  intro n
  induction n with
  | zero=>rfl
  | succ n ih=>
    simp only[vB];have hs:(listed.setIfInBounds i true).getD n true=if n=i then true else listed.getD n true:=by
      have:=FM (listed:=listed) (i:=i) (j:=n) hi
      grind
    grind
def qm:∀ n,vB listed n=0->∀ i,i < n->listed.getD i true=true:=by
  intro n
  induction n with
  | zero=>omega
  | succ n ih=>
    intro h i hi;simp only[vB] at h
    grind
def Aag:∀ n,vB listed n<=n:=by
  intro n
  induction n with
  | zero=>exact Af _
  | succ n ih=>simp only[vB];grind
def UR{i}(h:i∈Region.ready .any ops listed):i < ops.size/\listed.getD i true=false/\∀ j∈LX ops i,listed.getD j true=true:=by
  unfold Region.ready at h;simp only[Bz,Bp,Al,B7] at h;obtain⟨h1,h2,h3⟩:=h;refine⟨h1,h2,λj hj=>?_⟩;rw[Ax _] at h3;simp only[AH,B2,Array.all_eq_true'] at h3;simp only[LX,Ax h1,aft,AT,Bz] at hj;obtain⟨e,⟨he,hb⟩,rfl⟩:=hj;have:=h3 e (by simpa using he)
  grind
def lE(C:DC P B cl ops d R env0 S0 env' S' pt)(hsz:listed.size=ops.size)(h:Region.ready .any ops listed=[]):∀ i,i < ops.size->listed.getD i true=true:=by
  intro i
  induction i using Nat.strongRecOn with
  | _ i ih=>
    intro hi;cases hl:listed.getD i _ with
    | true=>rfl
    | false=>
      have hm:i∈Region.ready .any ops listed:=by
        unfold Region.ready;simp only[Bz,Bp,Al,B7];refine⟨hi,hl,?_⟩;rw[Ax _];simp only[AH,B2,Array.all_eq_true'];intro e he;cases hb:Region.binds _ e with
        | false=>rfl
        | true=>
          have hj:e.on∈LX ops i:=by
            simp only[LX,Ax hi,aft,AT,Bz];exact⟨e,⟨by simpa using he,hb⟩,rfl⟩
          have hlt:=C.c1 i hi _ hj
          grind
      grind
def lG(C:DC P B cl ops d R env0 S0 env' S' pt)(h0:∀ id s,φ0 id=some s->id < S0.next)(hBw:B<=w0.heap.size){Q}
    (hQ:∀ φ' a' w',JM φ' env' a'->E0 B φ' S' w'->E6 B φ0 S0 w0 φ' S' w'->a'.defers=df->Q .normal a' w') (ro) :
    ∀ fuel listed φ a w q,Inv ops d R env0 S0 S' B φ0 w0 df listed φ a w q->vB listed ops.size<=fuel->wpAnyIn (fz ro) 0 P .any ops Q fuel listed a w:=by
  have done:∀ listed φ a w q,Inv ops d R env0 S0 S' B φ0 w0 df listed φ a w q->(∀ i,i < ops.size->listed.getD i true=true)->Q .normal a w:=by
    intro listed φ a w q I hall;have hq:q=ops.size:=by
      rcases I.stage.1 with h | ⟨h1,h2⟩
      · exact h
      · have:=(I.stage.2 q h1 h2).2 (Af _)
        rw[hall q h1] at this;cases this
    subst hq;have hdom:∀ id s,φ id=some s->id < (D7 R S' ops.size).next:=by
      intro id s e;rcases Cd _ _ with h | h
      · exact h
      · obtain⟨k,i1,i2,_⟩:=I.early _ s e h
        omega
    have hm:=I.mem;rw[SJ hdom,C.Tn] at hm;refine hQ _ a w ⟨?_,λt h1 h2=>?_⟩ hm.1 hm.2 I.defers
    · have:=(C.qj _ (Af _)).1
      rw[C.En] at this;rw[this,I.esize]
    · have he:=I.env t h2
      have hE:=(C.qj _ (Af _)).2 t (by rw[<- I.esize];exact h2);rw[C.En,Ay,Ax _] at hE;simp only[B2] at hE;have hf:FW d R env0 S0 S' (λj=>listed.getD j true) ops.size t=FW d R env0 S0 S' (λ_=>true) ops.size t:=by
        unfold FW;refine UM (i:=ops.size) (λj hj _=>hall j hj) (λj hj hd=>?_) _ (Af _);have:Kt d.ops j=none:=by simp[Kt,AO (show d.ops.length<=j by have:=C.len.1;omega)]
        rw[this] at hd;cases hd
      rw[hf,<- hE] at he;exact he.mono (qd φ _)
  intro fuel
  induction fuel with
  | zero=>
    intro listed φ a w q I hu;have hall:=qm (listed:=listed) ops.size dO;refine⟨?_,done _ _ a w q I hall⟩;cases hr:Region.ready _ _ _ with
    | nil=>rfl
    | cons i l=>
      have:=UR (ops:=ops) (listed:=listed) (i:=i) (by rw[hr];exact BP);rw[hall i this.1] at this;cases this.2.1
  | succ fuel ih=>
    intro listed φ a w q I hu;refine⟨λhr=>done _ _ a w q I (lE C I.size hr),λi hi=>?_⟩;obtain⟨h1,h2,h3⟩:=UR hi;refine ql C h0 hBw I h1 h2 h3 (λφ' a' w' q' I'=>ih _ _ _ _ _ I' ?_) _;have:=vC (listed:=listed) (i:=i) (by rw[I.size];exact h1) h2 ops.size;rw[if_pos h1] at this;omega
def lH{dst val bd v0 b0 dn}(t):∀ k,(∀ j,j < k->dn j=false)->fold dst val bd v0 b0 dn k t=(v0 t,b0):=by
  intro k
  induction k with
  | zero=>intro _;rfl
  | succ k ih=>
    intro h;simp only[fold]
    grind
def Rv(hm:P.follows .mixedOrders=true):Wi P B (MU P) FU:=by
  intro cl hcl ops d hd env S env' S' h id φ a w Q hs hB henv hQ;unfold FU at h;simp only[Ae] at h;obtain⟨⟨R,env1,S1⟩,hrun,h⟩:=h;split at h
  case isFalse=>cases h
  rename_i hchk;simp only[AE,AA] at h;obtain⟨rfl,rfl⟩:=h;have C:=fE hcl hd hrun hchk;have h0:∀ id s,φ _=some s->id < S.next:=λid s e=>(hs.dom _ s e).1
  intro ro;refine wpIn_region_any hm ?_;have hT0:=C.T0;have hg:∀ j,j < ops.size->(Array.replicate _ _).getD j true=false:=λj hj=>by
    rw[Ay,Array.getElem?_replicate,if_pos hj];rfl
  have hsk:SK B φ S w (φ.below (D7 R S1 0).next) (D7 R S1 0) w.drew:=by
    rw[hT0,SJ h0];exact⟨hs.drew,E6.drew B _ S w⟩
  obtain⟨q,k1,k2,k3,k4,k5⟩:=advance C (listed:=Array.replicate _ _) h0 ops.size 0 dO hsk (λid s e hge=>by
    grind)
  refine lG C h0 hB hQ _ _ _ _ a _ q ⟨iN,λi hi h=>?_,⟨k2,λk hk hka=>⟨λh=>?_,λ_=>hg k hk⟩⟩,henv.1.symm,λt ht=>?_,k4,k5,λi hi _ b hb _=>?_,rfl⟩ (Aag _)
  · grind
  · grind
  · unfold FW
    rw[lH t _ hg];have ht':t < env.size:=by rw[henv.1];omega
    rw[Ay,Ax _,SJ h0];exact henv.2 t ht' _
  · cases e:φ _ with
    | none=>rfl
    | some s=>
      have h1:=h0 _ s e;have h2:=C.Ks (i:=0) (j:=i) dO
      grind
end
def Jw(cl cl':Gv):=∀ f a S r,cl f a S=some r->cl' f a S=some r
def Jb{cl cl'}(h:Jw cl cl'){o ρ S r}(hx:GL cl o ρ S=some r):GL cl' o ρ S=some r:=by
 unfold GL at *;split at hx
 ·exact h _ _ _ _ hx
 ·split at hx
  ·exact h _ _ _ _ hx
  omega
 omega
def PT{cl cl'}(h:Jw cl cl'):∀ l env S r,NA cl l env S=some r->NA cl' l env S=some r:=by
 intro l
 induction l with
 | nil=>intro env S r hx;exact hx
 | cons o l ih=>
  intro env S r hx;simp only[NA] at hx |-;split at hx
  ·rename_i hw
   rw[if_pos hw];simp only[Ae] at hx |-;obtain⟨p,h1,h2⟩:=hx;exact⟨p,Jb h h1,ih _ _ _ h2⟩
  grind
def PU{cl cl'}(h:Jw cl cl'):∀ l env S r,KF cl l env S=some r->KF cl' l env S=some r:=by
 intro l
 induction l with
 | nil=>intro env S r hx;exact hx
 | cons o l ih=>
  intro env S r hx;simp only[KF] at hx |-;split at hx
  ·rename_i hw
   rw[if_pos hw];simp only[Ae,Ab] at hx |-;obtain⟨p,h1,q,h2,h3⟩:=hx;exact⟨p,Jb h h1,q,ih _ _ _ h2,h3⟩
  ·rename_i hw
   rw[if_neg hw];simp only[Ab] at hx |-
   grind
def fF{cl cl'}(h:Jw cl cl'){d env S r}(hx:FU cl d env S=some r):FU cl' d env S=some r:=by
 unfold FU at *;simp only[Ae] at hx |-;obtain⟨q,h1,h2⟩:=hx;exact⟨q,PU h _ _ _ _ h1,h2⟩
def Kk{body body'}(h:∀ env S r,body env S=some r->body' env S=some r):∀ n n',n<=n'->∀ env S r,Jx body n env S=some r->Jx body' n' env S=some r:=by
 intro n
 induction n with
 | zero=>intro n' _ env S r hx;cases hx
 | succ n ih=>
  intro n' hn env S r hx;obtain⟨n',rfl⟩:∃ m,n'=m+1:=⟨n' - 1,dO⟩
  simp only[Jx,Ae] at hx |-
  grind
def FJ{cl cl'}(h:Jw cl cl'){n n'}(hn:n<=n'):∀ c env S r,EL FU cl n c env S=some r->EL FU cl' n' c env S=some r:=by
 intro c
 induction c with
 | skip=>intro env S r hx;exact hx
 | region ops=>
  intro env S r hx;simp only[EL,Ab] at hx |-;obtain⟨q,h1,h2⟩:=hx;exact⟨q,PT h _ _ _ _ h1,h2⟩
 | draw d=>
  intro env S r hx;simp only[EL,Ab] at hx |-;obtain⟨q,h1,h2⟩:=hx;exact⟨q,fF h h1,h2⟩
 | seq a b iha ihb=>
  intro env S r hx;simp only[EL,Ae] at hx |-
  grind
 | cond c x y ihx ihy=>
  intro env S r hx;simp only[EL] at hx |-
  grind
 | block id c ih=>
  intro env S r hx;simp only[EL,Ab] at hx |-
  grind
 | loop c ih=>
  intro env S r hx;exact Kk ih n _ hn _ _ _ hx
 | exit id=>intro env S r hx;exact hx
 | ret=>intro env S r hx;exact hx
 | range x L=>
  intro env S r hx;simp only[EL] at hx |-;split at hx
  ·simp only[Ae] at hx |-
   obtain⟨q,h1,h2⟩:=hx;exact⟨q,h _ _ _ _ h1,h2⟩
  omega
def Yv{cl cl'}(h:Jw cl cl'){n n'}(hn:n<=n'){LT id args S r}(hx:Kl FU cl n LT id args S=some r):Kl FU cl' n' LT id args S=some r:=by
 unfold Kl at *;split at hx
 ·split at hx
  ·rename_i hc
   rw[if_pos hc];simp only[Ae] at hx |-;obtain⟨x,h1,⟨e1,env1,S1⟩,h2,h3⟩:=hx;refine⟨x,h1,⟨e1,env1,S1⟩,FJ h hn _ _ _ _ h2,?_⟩;cases e1 with
   | normal=>
    simp only[Ab] at h3 |-;obtain⟨q,h4,h5⟩:=h3;exact⟨q,FJ h hn _ _ _ _ h4,h5⟩
   | exit id=>omega
   | ret=>omega
  grind
 omega
def G7(F LT base):∀ n n',n<=n'->Jw (EZ FU F LT base n) (EZ FU F LT base n'):=by
 intro n
 induction n with
 | zero=>
  intro n' _ f a S r hx;cases f with
  | func f=>
   simp only[EZ] at hx;cases e:F f with
   | none=>
    rw[e] at hx;cases n'<;>simp only[EZ,e]<;>exact hx
   | some fn=>grind
  | yield id=>simp[EZ] at hx
  | method _=>simp[EZ] at hx
  | methodOf _ _=>simp[EZ] at hx
  | via _ _ _ _=>simp[EZ] at hx
 | succ n ih=>
  intro n' hn f a S r hx;obtain⟨n',rfl⟩:∃ m,n'=m+1:=⟨n' - 1,dO⟩
  cases f with
  | func f=>
   simp only[EZ] at hx |-;split at hx
   ·omega
   ·simp only[Ae] at hx |-
    obtain⟨q,h1,h2⟩:=hx;exact⟨q,FJ (ih _ dO) dO _ _ _ _ h1,h2⟩
  | yield id=>
   exact Yv (ih _ dO) dO hx
  | method _=>simp[EZ] at hx
  | methodOf _ _=>simp[EZ] at hx
  | via _ _ _ _=>simp[EZ] at hx
abbrev Fi:=Tmp->Value
def Ki(env:Env):Fi:=λt=>env.getD t undef
def zD(fe:Fi)(d:Tmp)(v:Value):Fi:=λt=>if t=d then v else fe t
def Nz(fe:Fi):Option Tmp->Value->Fi
 | some d,v=>zD fe d v
 | none,_=>fe
def NN(fe:Fi):Operand->Value
 | .tmp t=>fe t
 | .const v=>v
 | .global g=>.pointer (some ⟨g,0,none⟩)
 | .func f=>.func (.func f) #[] #[]
def OP(fe:Fi):Option (Tmp × Bool)->Bool
 | none=>true
 | some (t,want)=>match fe t with
  | .bool b=>b == want
  | _=>false
def KN(env d v)(h:∀ t,d=some t->t < env.size):Ki (env.put d v)=Nz (Ki env) d v:=by
 cases d with
 | none=>rfl
 | some d=>
  funext t;have hd:=h d rfl;simp only[Ki,Env.put,Nz,zD];rw[Ay];by_cases e:t=d
  ·grind
  ·rw[C1 (BR e),if_neg e,Ay]
def LK(env):env.ev=NN (Ki env):=by
 funext x;cases x<;>rfl
def OW(o env):G3 o env=OP (Ki env) o.guard:=by
 unfold G3 OP Ki;cases o.guard with
 | none=>rfl
 | some p=>
  obtain⟨t,want⟩:=p;simp only;rw[Ay];cases h:env[t]? with
  | none=>simp[undef]
  | some v=>grind
inductive Sc(m):Value->Prop where
 | bool (b):Sc m (.bool b)
 | int (k) (n):Sc m (.int k n)
 | string (s):Sc m (.string s)
 | ptrNil:Sc m (.pointer none)
 | ptr (id o) (h:id < m):Sc m (.pointer (some ⟨id,o,none⟩))
 | sliceNil (n c):Sc m (.slice none n c)
 | slice (id o n c) (h:id < m):Sc m (.slice (some ⟨id,o,none⟩) n c)
 | nilFunc:Sc m .nilFunc
 | nilIface:Sc m .nilIface
 | func (f) (a b) (h1:∀ i (h:i < a.size),Sc m a[i]) (h2:∀ i (h:i < b.size),Sc m b[i]):Sc m (.func (.func f) a b)
 | yield (id) (h:id < m):Sc m (.func (.yield id) #[] #[])
 | mapNil:Sc m (.map none)
 | map (id) (h:id < m):Sc m (.map (some id))
 | Fy:Sc m (.chan (some 0))
 | iface (t) (v) (h:Sc m v):Sc m (.iface t v)
 | agg (a) (h1:∀ i (h:i < a.size),Sc m a[i]):Sc m (.agg a)
 | tuple (a) (h1:∀ i (h:i < a.size),Sc m a[i]):Sc m (.tuple a)
def Sc.mono{m m'}(hm:m<=m'){v}(h:Sc m v):Sc m' v:=by
 induction h with
 | bool b=>exact .bool b
 | int k n=>exact .int k n
 | string s=>exact .string s
 | ptrNil=>exact .ptrNil
 | ptr id o h=>exact .ptr _ o dO
 | sliceNil n c=>exact .sliceNil n c
 | slice id o n c h=>exact .slice _ o n c dO
 | nilFunc=>exact .nilFunc
 | nilIface=>exact .nilIface
 | func f a b h1 h2 i1 i2=>exact .func f a b i1 i2
 | yield id h=>exact .yield _ dO
 | mapNil=>exact .mapNil
 | map id h=>exact .map _ dO
 | Fy=>exact .Fy
 | iface t v h ih=>exact .iface t v ih
 | agg a h1 i1=>exact .agg a i1
 | tuple a h1 i1=>exact .tuple a i1
def Sc.XI{m v}(h:Sc m v):qc m v:=by
 intro φ v' hr
 induction hr with
 | bool b=>exact .bool b
 | int k n=>exact .int k n
 | string s=>exact .string s
 | ptrNil=>exact .ptrNil
 | ptr id o s hs=>
  cases h with
  | ptr _ _ h=>exact .ptr _ o s (by rw[F6 h];omega)
 | sliceNil=>exact .sliceNil
 | slice id o n c c' s hs hn hc he=>
  cases h with
  | slice _ _ _ _ h=>exact .slice _ o n c _ s (by rw[F6 h];omega) hn hc he
 | sliceEnd id o x s hs=>
  cases h with
  | slice _ _ _ _ h=>exact .sliceEnd _ o x s (by rw[F6 h];omega)
 | nilFunc=>exact .nilFunc
 | nilIface=>exact .nilIface
 | func f a b a' b' ha hb h1 h2 i1 i2=>
  cases h with
  | func _ _ _ k1 k2=>exact .func f a b _ _ ha hb (λi h h'=>i1 i h _ (k1 i h)) (λi h h'=>i2 i h _ (k2 i h))
 | yield id s hs=>
  cases h with
  | yield _ h=>exact .yield _ s (by rw[F6 h];omega)
 | mapNil=>exact .mapNil
 | map id s hs=>
  cases h with
  | map _ h=>exact .map _ s (by rw[F6 h];omega)
 | Fy b hb=>exact .Fy b hb
 | iface t v v' hr ih=>
  cases h with
  | iface _ _ h=>exact .iface t v _ (ih h)
 | agg a a' ha h1 i1=>
  cases h with
  | agg _ k1=>exact .agg a _ ha (λi h h'=>i1 i h _ (k1 i h))
 | tuple a a' ha h1 i1=>
  cases h with
  | tuple _ k1=>exact .tuple a _ ha (λi h h'=>i1 i h _ (k1 i h))
def Sc.GN{m v}(h:GN v=true):Sc m v:=by
 unfold YtkkpchcniicimaaGreat.GN at h;split at h<;>first | constructor | cases h
def Hl(m:Nat)(l:List Value):=∀ v∈l,Sc m v
def Hl.flat{m l}(h:EC l=true):Hl m l:=λv hv=>Sc.GN (by simp[EC] at h;grind)
def Sc.FB{m v}(h:FB v=true):Sc m v:=by
 unfold YtkkpchcniicimaaGreat.FB at h;split at h
 ·exact .agg _ λi hi=>Hl.flat h _ iN
 ·exact .tuple _ λi hi=>Hl.flat h _ iN
 ·exact Sc.GN h
def Sc.undef(m):Sc m undef:=.tuple _ λi h=>IN
def Hl.agg{m l}(h:Hl m l):Sc m (.agg l.toArray):=.agg _ λi hi=>h _ iN
def Hl.take{m l}(h:Hl m l)(n):Hl m (l.take n):=λv hv=>h v (Bm hv)
def Hl.drop{m l}(h:Hl m l)(n):Hl m (l.drop n):=λv hv=>h v (B5 hv)
def Hl.append{m l r}(h:Hl m l)(k:Hl m r):Hl m (l++r):=λv hv=>(Aw.1 hv).elim (h v) (k v)
def Hl.EO{m l r}(h:Hl m l)(k:Hl m r)(o):Hl m (EO l o r):=λv hv=>(Su l o r hv).elim (h v) (k v)
def Hl.mono{m m'}(hm:m<=m'){l}(h:Hl m l):Hl m' l:=λv hv=>(h v hv).mono hm
def Sc.cells{m v}(h:Sc m v):Hl m v.cells.toList:=by
 have h0:=h;cases h with
 | agg a h1=>
  intro v hv;obtain⟨i,hi,rfl⟩:=AN hv;exact h1 i _
 | _=>intro v hv;simp[Value.cells] at hv;grind
def Sc.AbO{m a}(h:Sc m (.agg a)):Hl m a.toList:=h.cells
def ScO(m0:Nat):V8->Prop
 | .loop env _ _=>Hl m0 env.toList
 | .map es _=>∀ e∈es,Sc m0 e.1/\Sc m0 e.2.1
 | .iter _ _=>True
 | .mapIter m _ _ _=>Sc m0 (.map m)
def ScO.mono{m m'}(hm:m<=m'){o}(h:ScO m o):ScO m' o:=by
 cases o with
 | loop env L pe=>exact λv hv=>(h v hv).mono hm
 | map es c=>exact λe he=>⟨(h e he).1.mono hm,(h e he).2.mono hm⟩
 | iter s p=>trivial
 | mapIter m s l c=>exact Sc.mono hm h
structure WS(S:St)  where
 gone:∀ id,S.next<=id->S.get id=.gone
 cell:∀ id c t z mi an,S.get id=.cells c t z mi an->Hl S.next c
 obj:∀ id o,S.get id=.obj o->ScO S.next o
def WS.loop{S}(h:WS S)(id env L pe)(e:S.get id=.loop env L pe):Hl S.next env.toList:=h.obj _ _ e
def WS.alive{S}(h:WS S){id}(hg:S.get id≠.gone):id < S.next:=by
 rcases Cd _ _ with h1 | h1
 ·omega
 ·exact absurd (h.gone _ h1) hg
def xT(m:Nat):FH->Prop
 | .gone=>True
 | .cells c _ _ _ _=>Hl m c
 | .obj o=>ScO m o
def xT.mono{m m'}(hm:m<=m'){b}(h:xT m b):xT m' b:=by
 cases b with
 | gone=>trivial
 | cells c t z mi an=>exact λv hv=>(h v hv).mono hm
 | obj o=>exact ScO.mono hm h
def WS.IM{S}(h:WS S)(id):xT S.next (S.get id):=by
 cases e:S.get _ with
 | gone=>trivial
 | cells c t z mi an=>exact h.cell _ c t z _ _ e
 | obj o=>exact h.obj _ o e
def WS.mk'{S}(h:∀ id,S.next<=id->S.get id=.gone)(k:∀ id,xT S.next (S.get id)):WS S:=
 ⟨h,λid c t z mi an e=>by have:=k id;rw[e] at this;exact this,λid o e=>by have:=k id;rw[e] at this;exact this⟩
def WS.JJ{S}(h:WS S){b}(hb:xT S.next b):WS (S.alloc b):=by
 refine WS.mk' (λid hi=>?_) λid=>?_
 ·simp only[St.LQ] at hi
  rw[St.D6,if_neg dO];exact h.gone _ dO
 ·rw[St.D6]
  split
  ·exact hb.mono iN
  ·exact (h.IM _).mono iN
def WS.Oe{S}(h:WS S){id}(hid:id < S.next){b}(hb:xT S.next b):WS (S.put id b):=by
 refine WS.mk' (λj hi=>?_) λj=>?_
 ·simp only[St.Lj] at hi
  rw[St.Gd,if_neg dO];exact h.gone j hi
 ·rw[St.Gd]
  split
  ·exact hb
  ·exact h.IM j
def WS.alloc{S}(h:WS S){c}(hc:Hl S.next c)(t z m an):WS (S.alloc (.cells c t z m an)):=h.JJ hc
def WS.put{S}(h:WS S){id}(hid:id < S.next){c}(hc:Hl S.next c)(t z m an):WS (S.put id (.cells c t z m an)):=h.Oe hid hc
def WS.write{S}(h:WS S){id}(hid:id < S.next){c}(hc:Hl S.next c)(t z an):WS (S.write id c t z an):=by
 refine WS.mk' (λj hi=>?_) λj=>?_
 ·simp only[St.HR] at hi
  rw[St.F5,if_neg dO];split
  ·rfl
  ·exact h.gone j hi
 ·rw[St.F5]
  split
  ·simpa [xT] using hc
  ·split
   ·trivial
   ·simpa using h.IM j
def WS.rd{S}(h:WS S){id o n c}(e:S.rd id o n=some c):Hl S.next c:=by
 unfold St.rd at e;split at e
 ·rename_i cc t z m an hg
  split at e
  ·obtain rfl:=Aa e
   exact ((h.cell _ _ t z m _ hg).drop o).take n
  grind
 grind
def WS.elems{S}(h:WS S){esz v c}(e:S.elems esz v=some c):Hl S.next c:=by
 unfold St.elems at e;split at e
 ·obtain rfl:=Aa e;intro v hv;grind
 ·exact h.rd e
 grind
def Hl.rep{m l}(h:Hl m l)(n):Hl m (rep n l):=by
 intro v hv;simp only[YtkkpchcniicimaaGreat.rep,List.mem_flatten,CV] at hv;obtain⟨l',⟨_,rfl⟩,hv⟩:=hv;exact h v hv
def Hl.fill{m}:∀ ps z l,Hl m z->(∀ p∈ps,Sc m p.2.2)->Hk z ps=some l->Hl m l:=by
 intro ps
 induction ps with
 | nil=>intro z l hz _ h;simp only[Hk,AE] at h;grind
 | cons p ps ih=>
  intro z l hz hp h;simp only[Hk] at h;split at h
  ·exact ih _ _ (hz.EO (hp _ BP).cells _) (λq hq=>hp q (Bo _ hq)) h
  grind
def Pf{m agg l v}(h:Hj agg l=some v)(hl:Hl m l):Sc m v:=by
 unfold Hj at h;split at h
 ·obtain rfl:=Aa h;exact hl.agg
 ·obtain rfl:=Wc h;exact hl v iN
def qn:Option Operand->Bool
 | none=>true
 | some x=>E3 x
def KW(l:List (Nat × Nat × Operand)):=l.all λp=>E3 p.2.2
def eOk:iG->Bool
 | .lookup _ _ z _=>FB z
 | .lookG z _=>FB z
 | .mapEnt _ _ z=>FB z
 | _=>true
def Fz:Gk->Bool
 | .mv x | .box _ x | .load _ _ x | .nilck x | .un _ x | .cvi _ x | .EX x | .mkIface _ x | .fa _ x | .fld _ _ _ x | .ext x _ | .len x | .lenStr x=>E3 x
 | .clr _ z x=>E3 x && EC z
 | .zero _ z=>EC z.cells.toList
 | .pick c a b=>E3 c && E3 a && E3 b
 | .store _ x y | .bin _ x y | .eqb _ x y | .eqf _ _ x y | .eqp _ x y | .eqs _ x y | .ia _ x y | .iaArr _ _ x y | .idx _ _ _ x y | .idxStr x y | .append _ _ _ x y | .copy _ x y=>E3 x && E3 y
 | .mkSlice _ _ _ z x y=>E3 x && E3 y && EC z
 | .mkFunc _ a b=>a.all E3 && b.all E3
 | .sl _ x l h | .slStr x l h=>E3 x && qn l && qn h
 | .build z ps=>EC z && KW ps
 | .buildSlice _ _ _ z ps=>EC z && KW ps
 | .minmax _ x l=>E3 x && l.all E3
 | .call _ args=>args.all E3
 | .callv x args=>E3 x && args.all E3
 | .extra e l=>eOk e && l.all E3
def vD{m op x y v}(h:KE op x y=some v):Sc m v:=by
 rcases Yf h with ⟨k,yk,a,b,e1,e2,e3⟩ | ⟨a,b,e1,e2,e3⟩
 ·unfold Mh at e3
  cases op<;>simp only at e3<;>(split at e3<;>first | grind | (obtain rfl:=Aa e3;constructor))
 ·unfold QF at e3
  cases op<;>simp only at e3<;>first
   | grind
   | (obtain rfl:=Aa e3;constructor)
   | (split at e3<;>first | grind | (obtain rfl:=Aa e3;constructor))
def fH{m}(mx):∀ l a k v,H0 mx a k l=some v->Sc m v:=by
 intro l
 induction l with
 | nil=>intro a k v h;obtain rfl:=Aa h;exact .int _ _
 | cons x l ih=>
  intro a k v h;cases x with
  | int j b=>
   simp only[H0] at h
   grind
  | _=>simp[H0] at h
def fJ{S S'}(hw:WS S){e esz bytes s x v}(hs:Sc S.next s)(h:G2 e esz bytes s x S=some (v,S')):WS S'/\S.next<=S'.next/\Sc S'.next v:=by
 unfold G2 at h;split at h
 case h_2=>cases h
 rename_i news m hel hvl;have hn:=hw.elems hel;split at h
 ·split at h
  ·obtain⟨rfl,rfl⟩:=Ai (Aa h)
   exact⟨hw,Af _,hs⟩
  ·cases h
 split at h
 case isFalse=>cases h
 split at h
 case h_3=>cases h
 case h_1=>
  split at h
  case isFalse=>cases h
  obtain⟨rfl,rfl⟩:=Ai (Aa h);exact⟨hw.alloc hn _ _ _ _,iN,.slice _ _ _ _ iN⟩
 case h_2=>
  rename_i id o n c;split at h
  case h_2=>cases h
  rename_i cc t z an hget;have hid:=hw.alive (by rw[hget];simp);have hcc:=hw.cell _ _ t z _ _ hget;split at h
  ·split at h
   case isFalse=>cases h
   obtain⟨rfl,rfl⟩:=Ai (Aa h);refine⟨?_,by simp[St.grow],.slice _ _ _ _ (by simp[St.grow])⟩;exact (hw.put hid hcc t z _ _).alloc (by simpa using (hcc.drop o).append hn) _ _ _ _
  ·split at h
   case isFalse=>cases h
   obtain⟨rfl,rfl⟩:=Ai (Aa h);exact⟨hw.write hid (hcc.EO hn _) _ _ _,iN,.slice _ _ _ _ (by simpa using hid)⟩
def qo{S S'}(hw:WS S){esz d x v}(h:QC esz d x S=some (v,S')):WS S'/\S.next<=S'.next/\Sc S'.next v:=by
 unfold QC at h;split at h
 case h_2=>cases h
 rename_i hel;have hn:=hw.elems hel;split at h
 ·obtain⟨rfl,rfl⟩:=Ai (Aa h)
  exact⟨hw,Af _,.int _ _⟩
 split at h
 case h_2=>cases h
 split at h
 case h_2=>cases h
 rename_i cc t z an hget;have hid:=hw.alive (by rw[hget];simp);have hcc:=hw.cell _ _ t z _ _ hget;split at h
 case isFalse=>cases h
 obtain⟨rfl,rfl⟩:=Ai (Aa h);exact⟨hw.write hid (hcc.EO (hn.take _) _) _ _ _,iN,.int _ _⟩
def vE{S S'}(hw:WS S){esz z}(hzf:Hl S.next z){x v}(h:XA esz z x S=some (v,S')):WS S'/\S.next<=S'.next/\Sc S'.next v:=by
 unfold XA at h;split at h
 ·obtain⟨rfl,rfl⟩:=Ai (Aa h)
  exact⟨hw,Af _,Sc.undef _⟩
 ·split at h
  ·obtain⟨rfl,rfl⟩:=Ai (Aa h)
   exact⟨hw,Af _,Sc.undef _⟩
  split at h
  case h_2=>cases h
  rename_i cc t zz an hget;have hid:=hw.alive (by rw[hget];simp);have hcc:=hw.cell _ _ t _ _ _ hget;split at h
  case isFalse=>cases h
  obtain⟨rfl,rfl⟩:=Ai (Aa h);exact⟨hw.write hid (hcc.EO (hzf.rep _) _) _ _ _,iN,Sc.undef _⟩
 grind
def Yw{m ps}{ρ:Operand->Value}(h:KW ps=true)(hρ:∀ x,E3 x=true->Sc m (ρ x)):∀ p∈ps.map (λp=>(p.1,p.2.1,ρ p.2.2)),Sc m p.2.2:=by
 intro p hp;simp only[AT] at hp;obtain⟨q,hq,rfl⟩:=hp;simp only[KW,At] at h
 grind
def WS.map{S}(h:WS S){id es cl}(e:S.get id=.obj (.map es cl)):id < S.next/\∀ x∈es,Sc S.next x.1/\Sc S.next x.2.1:=⟨h.alive IN,h.obj _ _ e⟩
def Sc.pair{m a b}(ha:Sc m a)(hb:Sc m b):Sc m (.tuple #[a,b]):=.tuple _ λi hi=>by
 grind
def Yx{m ks agg c es}(he:∀ x∈es,Sc m x.1/\Sc m x.2.1){i v}(h:GU ks agg c es 0=some (some (i,v))):Sc m v:=by
 obtain⟨_,h2,_,_,_,rfl⟩:=Yr h
 grind
def Ou{m z}(hz:FB z=true)(ok){r}(hr:∀ i v,r=some (i,v)->Sc m v):Sc m (FC z ok r):=by
 have h0:Sc m ((r.map (·.2)).getD z):=by
  cases r with
  | none=>exact Sc.FB hz
  | some p=>grind
 unfold FC;split
 ·exact .pair h0 (.bool _)
 omega
def Ov{α:Type}{p:α->Prop}{l:List _}(h:∀ x∈l,p x)(i){f}(hf:∀ x∈l,p (f x)):∀ x∈l.modify i f,p x:=by
 intro x hx;obtain⟨j,hj,rfl⟩:=AN hx
 grind
def lJ{S S'}(hw:WS S){e l}(he:eOk e=true)(hl:Hl S.next l){v}(h:Ei e l S=some (v,S')):WS S'/\S.next<=S'.next/\Sc S'.next v:=by
 unfold Ei at h;split at h
 ·
  obtain⟨rfl,rfl⟩:=Ai (Aa h);exact⟨hw.JJ (b:=.map [] 0) (λe he=>by cases he),iN,.map _ iN⟩
 ·
  rename_i ks agg z ok x k;have hz:FB z=true:=he;simp only[Ae] at h;obtain⟨c,hc,h⟩:=h;split at h
  ·obtain⟨rfl,rfl⟩:=Ai (Aa h)
   exact⟨hw,Af _,Ou hz _ (λi v e=>by cases e)⟩
  ·split at h
   case h_2=>cases h
   rename_i es cl hg;simp only[Ab,AA] at h;obtain⟨r,hr,rfl,rfl⟩:=h;exact⟨hw,Af _,Ou hz ok (λi v e=>by subst e;exact Yx (hw.map hg).2 hr)⟩
  ·cases h
 ·
  rename_i ks agg x k u;have hk:Sc S.next k:=hl k iN;have hu:Sc S.next u:=hl u iN;simp only[Ae] at h;obtain⟨c,hc,h⟩:=h;split at h
  case h_2=>cases h
  split at h
  case h_2=>cases h
  rename_i id es cl hg;obtain⟨h1,h2⟩:=hw.map hg;simp only[Ab] at h;obtain⟨r,hr,h⟩:=h;split at h
  ·obtain⟨rfl,rfl⟩:=Ai h
   refine⟨hw.Oe h1 (b:=.map _ cl) (Ov h2 _ λx hx=>⟨hk,hu⟩),iN,Sc.undef _⟩
  ·obtain⟨rfl,rfl⟩:=Ai h
   refine⟨hw.Oe h1 (b:=.map _ (cl+1)) (λx hx=>?_),iN,Sc.undef _⟩;rcases Aw.1 hx with hx | hx
   ·exact h2 x hx
   ·rw[AG.1 hx];exact⟨hk,hu⟩
 ·
  rename_i ks agg z x k;have hz:FB z=true:=he;have hk:Sc S.next k:=hl k iN;simp only[Ae] at h;obtain⟨c,hc,h⟩:=h;split at h
  case h_2=>cases h
  split at h
  case h_2=>cases h
  rename_i id es cl hg;obtain⟨h1,h2⟩:=hw.map hg;simp only[Ab] at h;obtain⟨r,hr,h⟩:=h;split at h
  ·obtain⟨rfl,rfl⟩:=Ai h
   exact⟨hw.Oe h1 (b:=.map _ cl) (Ov h2 _ λx hx=>⟨hk,(h2 x hx).2⟩),iN,.pair (by simpa using Yx h2 hr) (.int _ _)⟩
  ·obtain⟨rfl,rfl⟩:=Ai h
   refine⟨hw.Oe h1 (b:=.map _ (cl+1)) (λx hx=>?_),iN,.pair (Sc.FB hz) (.int _ _)⟩;rcases Aw.1 hx with hx | hx
   ·exact h2 x hx
   ·rw[AG.1 hx];exact⟨hk,Sc.FB hz⟩
 ·
  rename_i id b u;have hu:Sc S.next u:=hl u iN;split at h
  case h_2=>cases h
  rename_i es cl hg;obtain⟨h1,h2⟩:=hw.map hg;split at h
  case h_2=>cases h
  obtain⟨rfl,rfl⟩:=Ai (Aa h);exact⟨hw.Oe h1 (b:=.map _ cl) (Ov h2 _ λx hx=>⟨(h2 x hx).1,hu⟩),iN,Sc.undef _⟩
 ·
  rename_i ks agg x k;simp only[Ae] at h;obtain⟨c,hc,h⟩:=h;split at h
  ·obtain⟨rfl,rfl⟩:=Ai (Aa h)
   exact⟨hw,Af _,Sc.undef _⟩
  ·split at h
   case h_2=>cases h
   rename_i id es cl hg;obtain⟨h1,h2⟩:=hw.map hg;simp only[Ab] at h;obtain⟨r,hr,h⟩:=h;split at h
   ·obtain⟨rfl,rfl⟩:=Ai h
    exact⟨hw.Oe h1 (b:=.map _ cl) (λx hx=>h2 x (List.mem_of_mem_eraseIdx hx)),iN,Sc.undef _⟩
   ·obtain⟨rfl,rfl⟩:=Ai h
    exact⟨hw.Oe h1 (b:=.map es cl) h2,iN,Sc.undef _⟩
  ·cases h
 ·obtain⟨rfl,rfl⟩:=Ai (Aa h)
  exact⟨hw,Af _,.int _ _⟩
 ·split at h
  case h_2=>cases h
  obtain⟨rfl,rfl⟩:=Ai (Aa h);exact⟨hw,Af _,.int _ _⟩
 ·obtain⟨rfl,rfl⟩:=Ai (Aa h)
  exact⟨hw.JJ (b:=.iter _ 0) trivial,iN,.ptr _ _ iN⟩
 ·split at h
  case h_2=>cases h
  rename_i s p hg;have h1:=hw.alive (show S.get _≠.gone by rw[hg];simp);split at h
  ·obtain⟨rfl,rfl⟩:=Ai (Aa h)
   refine⟨hw.Oe h1 (b:=.iter _ _) trivial,iN,.tuple _ λi hi=>?_⟩;rcases i with _ | _ | _ | i
   ·exact .bool _
   ·exact .int _ _
   ·exact .int _ _
   ·simp at hi;omega
  ·obtain⟨rfl,rfl⟩:=Ai (Aa h)
   refine⟨hw,Af _,.tuple _ λi hi=>?_⟩;rcases i with _ | i
   ·exact .bool _
   ·simp at hi
 ·obtain⟨rfl,rfl⟩:=Ai (Aa h)
  exact⟨hw.JJ (b:=.mapIter none 0 [] 0) (Sc.mapNil),iN,.ptr _ _ iN⟩
 ·split at h
  case h_2=>cases h
  rename_i hg;obtain⟨rfl,rfl⟩:=Ai (Aa h);exact⟨hw.JJ (b:=.mapIter _ _ [] _) (Sc.map _ (hw.map hg).1),iN,.ptr _ _ iN⟩
 ·split at h
  case h_2=>cases h
  rename_i m since seen last hg;split at h
  case h_2=>cases h
  rename_i es cl hg2;split at h
  case isFalse=>cases h
  simp only[Ae,Ab] at h;obtain⟨s,hs,e,he,h⟩:=h;obtain⟨rfl,rfl⟩:=Ai h;have h2:=(hw.map hg2).2 e (Bs he);exact⟨hw,Af _,.pair h2.1 h2.2⟩
 ·obtain⟨rfl,rfl⟩:=Ai (Aa h)
  exact⟨hw,Af _,.int _ _⟩
 ·simp only[Ab,AA] at h
  obtain⟨b,_,rfl,rfl⟩:=h;exact⟨hw,Af _,.bool _⟩
 ·split at h
  ·obtain⟨rfl,rfl⟩:=Ai (Aa h)
   exact⟨hw,Af _,.Fy⟩
  ·cases h
 ·have hz:FB _=true:=he
  split at h
  ·obtain⟨rfl,rfl⟩:=Ai (Aa h)
   refine⟨hw,Af _,Ou hz _ (λi v e=>?_)⟩;simp only[Ab,AA] at e;obtain⟨f,_,_,rfl⟩:=e;exact .func _ _ _ (λi h=>by simp at h) (λi h=>by simp at h)
  ·cases h
 ·have no:WS S/\S.next<=S.next/\Sc S.next (.tuple #[.bool false]):=⟨hw,Af _,.tuple _ λi hi=>by
   rcases i with _ | i
   ·exact .bool _
   ·simp at hi⟩
  split at h
  ·obtain⟨rfl,rfl⟩:=Ai (Aa h)
   exact no
  ·split at h
   case h_2=>cases h
   split at h
   case isFalse=>cases h
   obtain⟨rfl,rfl⟩:=Ai (Aa h);exact no
  ·cases h
 ·cases h
def V4{S S'}(hw:WS S){o ρ}(hok:Fz o=true)(hρ:∀ x,E3 x=true->Sc S.next (ρ x)){v}(h:EF o ρ S=some (v,S')):WS S'/\S.next<=S'.next/\Sc S'.next v:=by
 have same:∀ {u},Sc _ u->(u,S)=(v,S')->WS S'/\S.next<=S'.next/\Sc S'.next v:=λhu e=>by
  obtain⟨rfl,rfl⟩:=Ai e;exact⟨hw,Af _,hu⟩
 cases o<;>simp only[Fz,Al] at hok<;>simp only[EF] at h
 case extra e l=>
  refine lJ hw hok.1 (λu hu=>?_) h;obtain⟨x,hx,rfl⟩:=AT.1 hu;exact hρ x (At.1 hok.2 x hx)
 case mv x=>exact same (hρ x hok) (Aa h)
 case pick c a b=>
  split at h
  ·rename_i q _
   exact same (by cases q<;>simp[hρ _ hok.2,hρ _ hok.1.2]) (Aa h)
  ·cases h
 case box t x=>
  split at h
  ·obtain⟨rfl,rfl⟩:=Ai (Aa h)
   exact⟨hw.alloc (hρ x hok).cells _ _ _ _,iN,.ptr _ _ iN⟩
  ·cases h
 case zero t z=>
  obtain⟨rfl,rfl⟩:=Ai (Aa h);exact⟨hw.alloc (Hl.flat hok) _ _ _ _,iN,.ptr _ _ iN⟩
 case load agg sz x=>
  split at h
  ·simp only[Ae,Ab] at h
   obtain⟨c,hc,v0,hv,e⟩:=h;exact same (Pf hv (hw.rd hc)) e
  ·cases h
 case store sz a x=>
  split at h
  ·split at h
   ·rename_i c t z an hget
    split at h
    ·obtain⟨rfl,rfl⟩:=Ai (Aa h)
     exact⟨hw.write (hw.alive (by rw[hget];simp)) ((hw.cell _ c t z true an hget).EO (hρ x hok.2).cells _) _ _ _,iN,Sc.undef _⟩
    ·cases h
   ·cases h
  ·cases h
 case nilck x=>
  have hx:=hρ x hok;split at h
  ·rename_i e;rw[e] at hx;exact same hx (Aa h)
  ·rename_i e;rw[e] at hx;exact same hx (Aa h)
  ·rename_i e;rw[e] at hx;exact same hx (Aa h)
  ·cases h
 case bin op x y=>
  simp only[Ab] at h;obtain⟨v0,h,e⟩:=h;exact same (vD h) e
 case eqb neg x y=>
  split at h
  ·exact same (.bool _) (Aa h)
  ·cases h
 case eqf ks neg x y=>
  split at h
  ·simp only[Ab] at h
   obtain⟨v0,h,e⟩:=h;exact same (.bool _) e
  ·cases h
 case eqp neg x y=>
  split at h
  ·exact same (.bool _) (Aa h)
  ·cases h
 case eqs neg x y=>
  split at h
  ·exact same (.bool _) (Aa h)
  ·cases h
 case un op x=>
  split at h
  ·exact same (.int _ _) (Aa h)
  ·exact same (.bool _) (Aa h)
  ·cases h
 case cvi k x=>
  split at h
  ·exact same (.int _ _) (Aa h)
  ·cases h
 case EX x=>
  split at h
  ·exact same (.string _) (Aa h)
  ·cases h
 case mkIface t x=>exact same (.iface t _ (hρ x hok)) (Aa h)
 case mkFunc f a b=>
  refine same (.func f _ _ (λi hi=>?_) (λi hi=>?_)) (Aa h)
  ·have h1:=C2.1 hok.1 i (by simpa using hi)
   simpa using hρ _ h1
  ·have h1:=C2.1 hok.2 i (by simpa using hi)
   simpa using hρ _ h1
 case mkSlice e esz bytes z l c=>
  split at h
  ·split at h
   ·obtain⟨rfl,rfl⟩:=Ai (Aa h)
    exact⟨hw.alloc ((Hl.flat hok.2).rep _) _ _ _ _,iN,.slice _ _ _ _ iN⟩
   ·cases h
  ·cases h
 case sl esz x lo hi=>
  have hx:=hρ x hok.1.1;split at h
  ·rename_i a n c e
   rw[e] at hx;split at h
   ·split at h
    ·unfold H8 at h
     split at h
     ·split at h
      ·exact same (.sliceNil _ _) (Aa h)
      ·cases h
     ·split at h
      ·cases hx with
       | slice _ _ _ _ hid=>exact same (.slice _ _ _ _ hid) (Aa h)
      ·cases h
     ·cases h
    ·cases h
   ·cases h
  ·cases h
 case slStr x lo hi=>
  split at h
  ·split at h
   ·split at h
    ·exact same (.string _) (Aa h)
    ·cases h
   ·cases h
  ·cases h
 case fa off x=>
  have hx:=hρ x hok;split at h
  ·rename_i e
   rw[e] at hx;cases hx with
   | ptr _ _ hid=>exact same (.ptr _ _ hid) (Aa h)
  ·cases h
 case fld agg sz off x=>
  have hx:=hρ x hok;split at h
  ·rename_i e
   rw[e] at hx;split at h
   ·simp only[Ab] at h
    obtain⟨v0,hv,e2⟩:=h;exact same (Pf hv ((hx.AbO.drop _).take _)) e2
   ·cases h
  ·cases h
 case ia esz x i=>
  have hx:=hρ x hok.1;split at h
  ·rename_i e _
   rw[e] at hx;split at h
   ·cases hx with
    | slice _ _ _ _ hid=>exact same (.ptr _ _ hid) (Aa h)
   ·cases h
  ·cases h
 case iaArr n esz x i=>
  have hx:=hρ x hok.1;split at h
  ·rename_i e _
   rw[e] at hx;split at h
   ·cases hx with
    | ptr _ _ hid=>exact same (.ptr _ _ hid) (Aa h)
   ·cases h
  ·cases h
 case idx n agg esz x i=>
  have hx:=hρ x hok.1;split at h
  ·rename_i e _
   rw[e] at hx;split at h
   ·simp only[Ab] at h
    obtain⟨v0,hv,e2⟩:=h;exact same (Pf hv ((hx.AbO.drop _).take _)) e2
   ·cases h
  ·cases h
 case idxStr x i=>
  split at h
  ·split at h
   ·simp only[Ab] at h
    obtain⟨v0,hv,e2⟩:=h;exact same (.int _ _) e2
   ·cases h
  ·cases h
 case ext x i=>
  have hx:=hρ x hok;split at h
  ·rename_i a e
   rw[e] at hx;simp only[Ab] at h;obtain⟨v0,hv,e2⟩:=h;cases hx with
   | tuple _ k=>
    obtain⟨hi,rfl⟩:=AR.1 hv;exact same (k i hi) e2
  ·cases h
 case build z ps=>
  simp only[Ab] at h;obtain⟨l,hl,e⟩:=h;exact same (Hl.fill _ _ _ (Hl.flat hok.1) (Yw hok.2 hρ) hl).agg e
 case buildSlice e esz n z ps=>
  split at h
  ·simp only[Ae] at h
   obtain⟨l,hl,h⟩:=h;split at h
   ·obtain⟨rfl,rfl⟩:=Ai (Aa h)
    exact⟨hw.alloc (Hl.fill _ _ _ ((Hl.flat hok.1).rep n) (Yw hok.2 hρ) hl) _ _ _ _,iN,.slice _ _ _ _ iN⟩
   ·cases h
  ·cases h
 case len x=>
  split at h
  ·exact same (.int _ _) (Aa h)
  ·cases h
 case lenStr x=>
  split at h
  ·exact same (.int _ _) (Aa h)
  ·cases h
 case append e esz bytes s x=>exact fJ hw (hρ s hok.1) h
 case copy esz d s=>exact qo hw h
 case clr esz z x=>exact vE hw (Hl.flat hok.2) h
 case minmax mx x l=>
  split at h
  ·simp only[Ab] at h
   obtain⟨v0,hv,e⟩:=h;exact same (fH mx _ _ _ _ hv) e
  ·cases h
 case call f args=>cases h
 case callv x args=>cases h
def W6(n:Nat)(l:List EW):=l.all λo=>Fz o.op && match o.dst with | some t=>decide (t < n) | none=>true
def Mf(n:Nat):Fh->Bool
 | .region ops=>W6 n ops
 | .draw d=>W6 n d.ops && d.flags == flagsOf d.ops d.stages
 | .seq a b=>Mf n a && Mf n b
 | .cond _ a b=>Mf n a && Mf n b
 | .block _ c=>Mf n c
 | .loop c=>Mf n c
 | .range x L=>E3 x && L.n == n
 | _=>true
def XF0(P:Program)(f:FuncId):=(P.funcs[f]?).bind λfn=>(SF P (MU P) fn).bind λxf=>if Mf xf.ntmps xf.body then some xf else none
def lK:=kO++["simproof/simproofref08.Build", "slices.SortedFunc[simproof/api.Question]", "slices.Sorted[int]", "maps.Equal[map[simproof/api.Question]int,map[simproof/api.Question]int,simproof/api.Question,int]"]
def XF(P:Program)(f:FuncId):=(P.funcs[f]?).bind λfn=>if lK.contains fn.name then none else XF0 P f
@[noinline] def IT (id N:Nat):Code->Option Kj
 | .seq a b=>match IT id N a with
  | some L=>some L
  | none=>IT id N b
 | .cond _ a b=>match IT id N a with
  | some L=>some L
  | none=>IT id N b
 | .block _ c=>IT id N c
 | .loop c=>IT id N c
 | .scope c=>IT id N c
 | .rangeFunc _ ps as b=>match b with
  | .block i c=>if i == id then some ⟨ps,as,.block i c,N⟩ else IT id N c
  | _=>none
 | _=>none
@[noinline] def Aah (P:Program) (f id:Nat):=((P.funcs[f]?).bind λfn=>fn.body.bind (IT id fn.ntmps)).getD ⟨#[],.skip,.skip,0⟩
def XL(P:Program)(L:Kj):=(SG P (MU P) L).bind λx=>if Mf L.n x.1 && Mf L.n x.2 && L.ps.toList.all (λt=>decide (t < L.n)) then some x else none
def Uz{P L x}(h:XL P L=some x):SG P (MU P) L=some x/\Mf L.n x.1=true/\Mf L.n x.2=true/\∀ t∈L.ps.toList,t < L.n:=by
 unfold XL at h;simp only[Ae] at h
 grind
def SE(m:Nat)(env:Env):=∀ t,Sc m (Ki env t)
def SE.ev{m env}(h:SE m env):∀ x,E3 x=true->Sc m (env.ev x):=by
 intro x hx;cases x with
 | tmp t=>exact h t
 | const v=>exact Sc.FB hx
 | func f=>exact .func f _ _ (λi h=>by grind) (λi h=>by grind)
 | global g=>cases hx
def SE.mono{m m'}(hm:m<=m'){env}(h:SE m env):SE m' env:=λt=>(h t).mono hm
def SE.put{m env}(h:SE m env)(d){v}(hv:Sc m v):SE m (env.put d v):=by
 cases d with
 | none=>exact h
 | some d=>
  intro t;simp only[Ki,Env.put];rw[Ay,C8];split
  ·split
   ·grind
   ·exact Sc.undef m
  ·have:=h t
   simpa [Ki,Ay] using this
def Hm(env:Env)(d v):(env.put d v).size=env.size:=by cases d<;>simp[Env.put]
def Kh(cl:Gv):=∀ f args S v S',cl f args S=some (v,S')->WS S->Hl S.next args.toList->WS S'/\S.next<=S'.next/\Sc S'.next v
def LJ{m ρ}(hρ:∀ x,E3 x=true->Sc m (ρ x)){args:Array _}(h:args.all E3=true):Hl m (args.map ρ).toList:=by
 intro v hv;simp only[C5,AT,Array.mem_toList_iff] at hv;obtain⟨x,hx,rfl⟩:=hv;obtain⟨i,hi,rfl⟩:=Array.getElem_of_mem hx
 grind
def Nb{m f a b}(h:Sc m (.func f a b)):Hl m a.toList/\Hl m b.toList:=by
 cases h with
 | yield _ _=>exact⟨λv hv=>IN,λv hv=>IN⟩
 | func _ _ _ h1 h2=>
  constructor
  ·intro v hv;obtain⟨i,hi,rfl⟩:=AN hv;grind
  ·intro v hv;obtain⟨i,hi,rfl⟩:=AN hv;grind
def Io{cl}(hcl:Kh cl){S S'}(hw:WS S){o ρ}(hok:Fz o=true)(hρ:∀ x,E3 x=true->Sc S.next (ρ x)){v}(h:GL cl o ρ S=some (v,S')):WS S'/\S.next<=S'.next/\Sc S'.next v:=by
 unfold GL at h;split at h
 ·exact hcl _ _ _ _ _ h hw (LJ hρ hok)
 ·rename_i x args
  simp only[Fz,Al] at hok;split at h
  ·rename_i f a b e
   have hx:=hρ x hok.1;rw[e] at hx;obtain⟨h1,h2⟩:=Nb hx;refine hcl _ _ _ _ _ h hw ?_;rw[A4,A4];exact (h1.append (LJ hρ hok.2)).append h2
  grind
 ·exact V4 hw hok hρ h
def Jy{n o l}(h:W6 n (o::l)=true):Fz o.op=true/\(∀ t,o.dst=some t->t < n)/\W6 n l=true:=by
 simp only[W6,CT,Al] at h;refine⟨h.1.1,λt e=>?_,h.2⟩
 grind
def vG{cl}(hcl:Kh cl){n}:∀ l,W6 n l=true->∀ env S env' S',WS S->SE S.next env->NA cl l env S=some (env',S')->WS S'/\S.next<=S'.next/\SE S'.next env'/\env'.size=env.size:=by
 intro l
 induction l with
 | nil=>
  intro _ env S env' S' hw hs h;obtain⟨rfl,rfl⟩:=Ai (Aa h)
  grind
 | cons o l ih=>
  intro hwf env S env' S' hw hs h;obtain⟨h1,h2,h3⟩:=Jy hwf;simp only[NA] at h;split at h
  ·simp only[Ae] at h
   obtain⟨⟨v,S1⟩,h4,h5⟩:=h;obtain⟨k1,k2,k3⟩:=Io hcl hw h1 hs.ev h4;obtain⟨q1,q2,q3,q4⟩:=ih h3 _ _ _ _ k1 ((hs.mono k2).put _ k3) h5;exact⟨q1,An k2 q2,q3,q4.trans (Hm _ _ _)⟩
  ·obtain⟨q1,q2,q3,q4⟩:=ih h3 _ _ _ _ hw (hs.put _ (Sc.undef _)) h
   exact⟨q1,q2,q3,q4.trans (Hm _ _ _)⟩
def V3{cl}(hcl:Kh cl){n}:∀ l,W6 n l=true->∀ env S R env' S',WS S->SE S.next env->KF cl l env S=some (R,env',S')->
  WS S'/\S.next<=S'.next/\SE S'.next env'/\env'.size=env.size/\(∀ (i:Nat) r,R[i]? = some r->WS r.S/\SE r.S.next r.env):=by
 intro l
 induction l with
 | nil=>
  intro _ env S R env' S' hw hs h;obtain⟨rfl,rfl,rfl⟩:=h
  grind
 | cons o l ih=>
  intro hwf env S R env' S' hw hs h;obtain⟨h1,h2,h3⟩:=Jy hwf;simp only[KF] at h;split at h
  ·simp only[Ae,Ab] at h
   obtain⟨⟨v,S1⟩,h4,⟨R1,e1,s1⟩,h5,h6⟩:=h;obtain⟨rfl,rfl,rfl⟩:=h6;obtain⟨k1,k2,k3⟩:=Io hcl hw h1 hs.ev h4;obtain⟨q1,q2,q3,q4,q5⟩:=ih h3 _ _ _ _ _ k1 ((hs.mono k2).put _ k3) h5;refine⟨q1,An k2 q2,q3,q4.trans (Hm _ _ _),λi r e=>?_⟩
   grind
  ·simp only[Ab] at h
   obtain⟨⟨R1,e1,s1⟩,h5,h6⟩:=h;obtain⟨rfl,rfl,rfl⟩:=h6;obtain⟨q1,q2,q3,q4,q5⟩:=ih h3 _ _ _ _ _ hw (hs.put _ (Sc.undef _)) h5;refine⟨q1,q2,q3,q4.trans (Hm _ _ _),λi r e=>?_⟩
   grind
def Yy{cl n x L env S r}(h:EL FU cl n (.range x L) env S=some r) :
  ∃ g a b v S2 env2 L2 pe,env.ev x=.func (.func g) a b/\cl (.func g) (a++#[.func (.yield S.next) #[] #[]]++b) (S.alloc (.loop env L none))=some (v,S2)/\S2.get S.next=.loop env2 L2 pe/\r=(pe.getD .normal,env,S2.put S.next .gone):=by
 simp only[EL] at h;split at h
 case h_2=>cases h
 rename_i g a b e;simp only[Ae] at h
 grind
def SE.PB{m env}(h:SE m env):Hl m env.toList:=by
 intro v hv;obtain⟨i,hi,rfl⟩:=AN hv;have hi':=by simpa using hi
 have:=h i;simpa [Ki,Ay,hi'] using this
def SE.of{m env}(h:Hl m env.toList):SE m env:=by
 intro t;simp only[Ki];rw[Ay];cases e:env[t]? with
 | none=>exact Sc.undef m
 | some v=>exact h v IN
def IL{cl}(hcl:Kh cl){m n}:∀ c,Mf m c=true->∀ env S r,WS S->SE S.next env->EL FU cl n c env S=some r->WS r.2.2/\S.next<=r.2.2.next/\SE r.2.2.next r.2.1/\r.2.1.size=env.size:=by
 intro c
 induction c with
 | skip=>intro _ env S r hw hs h;obtain rfl:=Aa h;exact⟨hw,Af _,hs,rfl⟩
 | exit id=>intro _ env S r hw hs h;obtain rfl:=Aa h;exact⟨hw,Af _,hs,rfl⟩
 | ret=>intro _ env S r hw hs h;obtain rfl:=Aa h;exact⟨hw,Af _,hs,rfl⟩
 | region ops=>
  intro hwf env S r hw hs h;simp only[EL,Ab] at h;obtain⟨⟨env',S'⟩,h1,rfl⟩:=h;exact vG hcl _ hwf _ S _ _ hw hs h1
 | draw d=>
  intro hwf env S r hw hs h;simp only[EL,Ab] at h;obtain⟨⟨env',S'⟩,h1,rfl⟩:=h;unfold FU at h1;simp only[Ae] at h1;obtain⟨⟨R,e1,s1⟩,h2,h3⟩:=h1;simp only[Mf,Al] at hwf;split at h3
  ·obtain⟨rfl,rfl⟩:=Ai (Aa h3)
   obtain⟨q1,q2,q3,q4,_⟩:=V3 hcl _ hwf.1 _ S R _ _ hw hs h2;exact⟨q1,q2,q3,q4⟩
  ·cases h3
 | seq a b iha ihb=>
  intro hwf env S r hw hs h;simp only[Mf,Al] at hwf;simp only[EL,Ae] at h;obtain⟨⟨e,env1,S1⟩,h1,h2⟩:=h;obtain⟨q1,q2,q3,q4⟩:=iha hwf.1 _ S _ hw hs h1;cases e with
  | normal=>
   obtain⟨p1,p2,p3,p4⟩:=ihb hwf.2 _ _ r q1 q3 h2;exact⟨p1,An q2 p2,p3,p4.trans q4⟩
  | exit id=>obtain rfl:=Aa h2;exact⟨q1,q2,q3,q4⟩
  | ret=>obtain rfl:=Aa h2;exact⟨q1,q2,q3,q4⟩
 | cond c x y ihx ihy=>
  intro hwf env S r hw hs h;simp only[Mf,Al] at hwf;simp only[EL] at h;split at h
  ·exact ihx hwf.1 _ S r hw hs h
  ·exact ihy hwf.2 _ S r hw hs h
  ·cases h
 | block id c ih=>
  intro hwf env S r hw hs h;simp only[EL,Ab] at h;obtain⟨⟨e,env1,S1⟩,h1,rfl⟩:=h;have:=ih hwf _ S _ hw hs h1;cases e with
  | exit id'=>simp only;split<;>exact this
  | normal=>exact this
  | ret=>exact this
 | loop c ih=>
  intro hwf env S r hw hs h;simp only[EL] at h;have key:∀ k env S r,WS S->SE S.next env->Jx (EL FU cl n c) k env S=some r->WS r.2.2/\S.next<=r.2.2.next/\SE r.2.2.next r.2.1/\r.2.1.size=env.size:=by
   intro k
   induction k with
   | zero=>intro env S r _ _ h;cases h
   | succ k ihk=>
    intro env S r hw hs h;simp only[Jx,Ae] at h;obtain⟨⟨e,env1,S1⟩,h1,h2⟩:=h;obtain⟨q1,q2,q3,q4⟩:=ih hwf env S _ hw hs h1;cases e with
    | normal=>
     obtain⟨p1,p2,p3,p4⟩:=ihk env1 S1 r q1 q3 h2;exact⟨p1,An q2 p2,p3,p4.trans q4⟩
    | exit id=>obtain rfl:=Aa h2;exact⟨q1,q2,q3,q4⟩
    | ret=>obtain rfl:=Aa h2;exact⟨q1,q2,q3,q4⟩
  exact key n env S r hw hs h
 | range x L=>
  intro hwf env S r hw hs h;simp only[Mf,Al] at hwf;obtain⟨g,a,b,v,S2,env2,L2,pe,e,h1,h2,rfl⟩:=Yy h;have hx:=hs.ev x hwf.1;rw[e] at hx;obtain⟨k1,k2⟩:=Nb hx;have hm:Hl (S.alloc (.loop env L none)).next (a++#[Value.func (.yield S.next) #[] #[]]++b).toList:=by
   rw[A4,A4];refine ((k1.mono iN).append ?_).append (k2.mono iN);intro u hu;simp only[AG] at hu;subst hu;exact .yield _ iN
  obtain⟨q1,q2,q3⟩:=hcl _ _ _ _ _ h1 (hw.JJ (b:=.loop env L none) hs.PB) hm;simp only[St.LQ] at q2;refine⟨q1.Oe dO (b:=.gone) trivial,aa0,hs.mono aa0,rfl⟩
def Sa{P f xf}(h:XF0 P f=some xf):Mf xf.ntmps xf.body=true/\∃ fn,P.funcs[f]? = some fn/\SF P (MU P) fn=some xf:=by
 unfold XF0 at h;simp only[Ae] at h
 grind
def Aai{P f xf}(h:XF P f=some xf):XF0 P f=some xf:=by
 unfold XF at h
 grind
def UP{P f xf}(h:XF P f=some xf):Mf xf.ntmps xf.body=true/\∃ fn,P.funcs[f]? = some fn/\SF P (MU P) fn=some xf:=Sa (Aai h)
def Ru{m}{args:Array _}(h:Hl m args.toList)(k):SE m (args++Array.replicate k undef):=by
 intro t;simp only[Ki];rw[Ay];cases e:(args++Array.replicate k _)[t]? with
 | none=>exact Sc.undef m
 | some v=>
  have hm:=Array.mem_of_getElem? e;simp only[Array.mem_append,Array.mem_replicate] at hm;rcases hm with hm | ⟨_,rfl⟩
  ·exact h v IN
  ·exact Sc.undef m
def XN{S env}(hw:WS S)(hs:SE S.next env){x v}(h:SD env S x=some v):Sc S.next v:=by
 cases x with
 | tmp t=>obtain rfl:=Aa h;exact hs t
 | cell a agg sz=>
  simp only[SD] at h;split at h
  ·simp only[Ae] at h
   obtain⟨c,hc,hv⟩:=h;exact Pf hv (hw.rd hc)
  grind
def xd(b:vp):Gv:=λg args S=>match g with
 | .func f=>b f args S
 | _=>none
class Prim(P) where
 run:vp
 ws:∀ f args S v S',run f args S=some (v,S')->WS S->Hl S.next args.toList->WS S'/\S.next<=S'.next/\Sc S'.next v
 ok:∀ B,IS P B (xd run)
def iP{m}:∀ (ps:List Tmp) xs env,SE m env->Hl m xs->SE m ((ps.zip xs).foldl (λt (p,v)=>t.setIfInBounds p v) env)/\((ps.zip xs).foldl (λt (p,v)=>t.setIfInBounds p v) env).size=env.size:=by
 intro ps
 induction ps with
 | nil=>simp_all
 | cons p ps ih=>
  intro xs env h hx;cases xs with
  | nil=>simp_all
  | cons x xs=>
   have:=ih xs _ (h.put (some p) (hx x iN)) (λv hv=>hx v IN);exact⟨this.1,this.2.trans (Hm _ _ _)⟩
def fK{cl n LT id args S S' v}(h:Kl FU cl n LT id args S=some (v,S')) :
  ∃ env L xa xb env0 env1 S1 ex env2 S2,S.get id=.loop env L none/\args.size=L.ps.size/\LT L=some (xa,xb)/\env0=(L.ps.toList.zip args.toList).foldl (λt (p,v)=>t.setIfInBounds p v) env/\
   EL FU cl n xa env0 (S.put id .gone)=some (.normal,env1,S1)/\EL FU cl n xb env1 S1=some (ex,env2,S2)/\
   ((ex=.normal/\v=.bool true/\S'=S2.put id (.loop env L none))\/(ex≠.normal/\v=.bool false/\S'=S2.put id (.loop env L (some ex)))):=by
 unfold Kl at h;split at h
 case h_2=>cases h
 rename_i env L hget;split at h
 case isFalse=>cases h
 rename_i hsz;generalize hE:(L.ps.zip _).foldl _ _=env0 at h;rw[P9] at hE;simp only[Ae] at h;obtain⟨⟨xa,xb⟩,hL,⟨e1,env1,S1⟩,h1,h2⟩:=h;cases e1 with
 | exit _=>grind
 | ret=>grind
 | normal=>
 simp only[Ab] at h2
 grind
def Uy{P cl}(hcl:Kh cl){n id args S S' v}(h:Kl FU cl n (XL P) id args S=some (v,S'))(hw:WS S)(hargs:Hl S.next args.toList):WS S'/\S.next<=S'.next/\Sc S'.next v:=by
 obtain⟨env,L,xa,xb,env0,env1,S1,ex,env2,S2,h1,h2,h3,h4,h5,h6,h7⟩:=fK h;obtain⟨_,w1,w2,_⟩:=Uz h3;have hid:=hw.alive (id:=id) IN;have henv:=hw.loop _ _ L _ h1;have h0:SE S.next env0:=by rw[h4];exact (iP _ _ _ (SE.of henv) hargs).1
 obtain⟨q1,q2,q3,q4⟩:=IL hcl _ w1 _ _ _ (hw.Oe hid (b:=.gone) trivial) (by simp_all) h5;obtain⟨p1,p2,p3,p4⟩:=IL hcl _ w2 _ S1 _ q1 q3 h6;simp only[St.Lj] at q2;have hle:=An q2 p2;rcases h7 with ⟨_,rfl,rfl⟩ | ⟨_,rfl,rfl⟩
 ·exact⟨p1.Oe dO (henv.mono hle),by simp_all,.bool _⟩
 ·exact⟨p1.Oe dO (henv.mono hle),by simp_all,.bool _⟩
def Ip(P)[Prim P]:∀ n,Kh (EZ FU (XF P) (XL P) (Prim.run P) n):=by
 intro n
 induction n with
 | zero=>
  intro f args S v S' h;cases f with
  | func f=>
   simp only[EZ] at h;split at h
   ·exact Prim.ws (P:=P) _ _ _ _ _ h
   grind
  | yield id=>simp[EZ] at h
  | method _=>simp[EZ] at h
  | methodOf _ _=>simp[EZ] at h
  | via _ _ _ _=>simp[EZ] at h
 | succ n ih=>
  intro f args S v S' h hw hargs;cases f with
  | yield id=>exact Uy ih h hw hargs
  | method _=>simp[EZ] at h
  | methodOf _ _=>simp[EZ] at h
  | via _ _ _ _=>simp[EZ] at h
  | func f=>
  simp only[EZ] at h;split at h
  ·exact Prim.ws (P:=P) _ _ _ _ _ h hw hargs
  rename_i fn hf;simp only[Ae] at h;obtain⟨⟨e,env1,S1⟩,h1,h2⟩:=h;obtain⟨q1,q2,q3,q4⟩:=IL ih _ (UP hf).1 _ S _ hw (Ru hargs _) h1;have fin:(TT fn.results env1 S1).map (λv=>(v,S1))=some (v,S')->WS S'/\S.next<=S'.next/\Sc S'.next v:=by
   intro h;simp only[TT,Ab,AA] at h;obtain⟨v0,⟨vs,hvs,rfl⟩,rfl,rfl⟩:=h;refine⟨q1,q2,?_⟩;have hall:Hl S1.next vs:=by
    intro u hu;obtain⟨i,hi,rfl⟩:=AN hu;have hl:=List.Hu hvs;exact XN q1 q3 (List.Hh hvs i dO _)
   unfold pack;split
   ·exact hall _ iN
   ·exact .tuple _ λi hi=>hall _ iN
  grind
def XG(P)[Prim P](g:Go.Fn)(args:Array Value)(S:St)(Q:Value->St->Prop):=
 WS S->Hl S.next args.toList->∃ n v S',EZ FU (XF P) (XL P) (Prim.run P) n g args S=some (v,S')/\Q v S'
def XC(P)[Prim P](f:FuncId)(args:Array Value)(S:St)(Q:Value->St->Prop):=XG P (.func f) args S Q
def XG.mono{P}[Prim P]{g args S Q Q'}(h:XG P g args S Q)(hq:∀ v S',Q v S'->Q' v S'):XG P g args S Q':=λh1 h2=>by
 obtain⟨n,v,S',h3,h4⟩:=h h1 h2
 grind
def XC.mono{P}[Prim P]{f args S Q Q'}(h:XC P f args S Q)(hq:∀ v S',Q v S'->Q' v S'):XC P f args S Q':=XG.mono h hq
def vq{P}[Prim P]{f}(hf:XF P f=none){args S Q}(h:∃ v S',Prim.run P f args S=some (v,S')/\Q v S'):XC P f args S Q:=λ_ _=>by
 obtain⟨v,S',h1,h2⟩:=h;exact⟨0,v,S',by simp only[EZ,hf];omega,h2⟩
def XS(P)[Prim P](o:Gk)(ρ:Operand->Value)(S:St)(K:Value->St->Prop):Prop:=
 match o with
 | .call f args=>XC P f (args.map ρ) S K
 | .callv x args=>∃ g a b,ρ x=.func g a b/\XG P g (a++args.map ρ++b) S K
 | o=>∃ v S',EF o ρ S=some (v,S')/\K v S'
def XO(P)[Prim P]:List EW->Fi->St->(Fi->St->Prop)->Prop
 | [],fe,S,Q=>Q fe S
 | o::r,fe,S,Q=>if OP fe o.guard=true then XS P o.op (NN fe) S (λv S'=>XO P r (Nz fe o.dst v) S' Q) else XO P r (Nz fe o.dst undef) S Q
structure Ext(S S':St)  where
 next:S.next<=S'.next
 get:∀ id,id < S.next->S'.get id=S.get id
def Ext.refl(S):Ext S S:=⟨Af _,λ_ _=>rfl⟩
def Ext.trans{S S' S''}(h:Ext S S')(k:Ext S' S''):Ext S S'':=⟨An h.next k.next,λid hid=>(k.get _ (Ar hid h.next)).trans (h.get _ hid)⟩
def Ext.alloc(S b):Ext S (S.alloc b):=⟨iN,λid hid=>by rw[St.D6,if_neg dO]⟩
def FH.look:FH->Option (List Value × TypeId × Nat)
 | .cells c t z _ _=>some (c,t,z)
 | _=>none
structure JL(S S':St)  where
 next:S.next<=S'.next
 look:∀ id,id < S.next->(S'.get id).look=(S.get id).look
def JL.refl(S):JL S S:=⟨Af _,λ_ _=>rfl⟩
def JL.trans{S S' S''}(h:JL S S')(k:JL S' S''):JL S S'':=⟨An h.next k.next,λid hid=>(k.look _ (Ar hid h.next)).trans (h.look _ hid)⟩
def Ext.PB{S S'}(h:Ext S S'):JL S S':=⟨h.next,λid hid=>by rw[h.get _ hid]⟩
def jl{S S':St}{id}(h:(S'.get id).look=(S.get id).look)(o n):S'.rd id o n=S.rd id o n:=by
 unfold St.rd;cases e:S.get _<;>cases e':S'.get _<;>rw[e,e'] at h<;>simp[FH.look] at h |-
 grind
def fM{S S':St}{id}(h:(S'.get id).look=(S.get id).look):S'.width id=S.width id:=by
 unfold St.width;cases e:S.get _<;>cases e':S'.get _<;>rw[e,e'] at h<;>simp[FH.look] at h |-
 omega
def Hi(o:Gk)(ρ:Operand->Value):=
 match o with
 | .load _ _ x=>match ρ x with
  | .pointer (some a)=>some a.block
  | _=>none
 | .sl _ x _ _=>match ρ x with
  | .slice (some a) _ _=>some a.block
  | _=>none
 | _=>none
def US(w:Gk × (Operand->Value))(S S':St):=∀ v S1,EF w.1 w.2 S=some (v,S1)->∃ S2,EF w.1 w.2 S'=some (v,S2)
class jm where
 it:List (Gk × (Operand->Value))
def Gw:Option Tmp->List Tmp->List Tmp
 | some d,as=>d::as
 | none,as=>as
def MV(fe:Fi)(S S':St):List Tmp->List (EW × (Bool × Bool) × Bool)->Prop
 | _,[]=>True
 | as,(o,_,e)::r=>(e=true->∃ agg sz t,o.op=.load agg sz (.tmp t)/\t ∉ as/\∀ id,Hi o.op (NN fe)=some id->(S'.get id).look=(S.get id).look)/\MV fe S S' (Gw o.dst as) r
def Yz{t d as}(h:t ∉ Gw d as):t ∉ as/\d≠some t:=by
 cases d with
 | none=>exact⟨h,λe=>by cases e⟩
 | some d=>exact⟨λh'=>h (Bo _ h'),λe=>h (by rw[e];exact BP ..)⟩
def MV.at{fe S S'}:∀ {r} {as},MV fe S S' as r->∀ j (hj:j < r.length),r[j].2.2=true->∃ agg sz t,r[j].1.op=.load agg sz (.tmp t)/\t ∉ as/\(∀ i (hi:i < j),(r[i]' dO).1.dst≠some t)/\∀ id,Hi r[j].1.op (NN fe)=some id->(S'.get id).look=(S.get id).look:=by
 intro r
 induction r with
 | nil=>grind
 | cons x r ih=>
  intro as h j hj he;obtain⟨h1,h2⟩:=h;cases j with
  | zero=>
   grind
  | succ j=>
   obtain⟨agg,sz,t,k1,k2,k3,k4⟩:=ih h2 j _ IN;obtain⟨k5,k6⟩:=Yz k2;refine⟨agg,sz,t,IN,k5,λi hi=>?_,λid hid=>k4 _ (by simpa using hid)⟩
   grind
def MV.none{fe S S'}:∀ {r} {as},(∀ x∈r,x.2.2=false)->MV fe S S' as r:=by
 intro r
 induction r with
 | nil=>intro as _;trivial
 | cons x r ih=>
  intro as h;refine⟨λe=>?_,ih λy hy=>h y (Bo _ hy)⟩
  grind
def qp(W:List (Gk × (Operand->Value)))(late:Prop)(S S':St):=JL S S'\/(late/\S.next<=S'.next/\∀ w,w∈W->US w S S')
def watch(o:Gk)(ρ:Operand->Value)(W:List (Gk × (Operand->Value))):=if GA o=true then (o,ρ)::W else W
def XM(P)[Prim P](S0:St):List (EW × (Bool × Bool) × Bool)->[jm]->Fi->St->(Fi->St->Prop)->Prop
 | [],_,fe,S,Q=>Q fe S
 | (o,D8,early)::r,W,fe,S,Q=>if OP fe o.guard=true then
   (early=true->∀ id,Hi o.op (NN fe)=some id->id < S0.next)/\XS P o.op (NN fe) S (λv S'=>((D8.1=true->qp W.it (MV fe S S' (Gw o.dst []) r) S S')/\(D8.2=true->Ext S S'))/\@XM P _ S0 r ⟨watch o.op (NN fe) W.it⟩ (Nz fe o.dst v) S' Q)
  else @XM P _ S0 r W (Nz fe o.dst undef) S Q
def XW(P)[Prim P]:Fh->Fi->St->(Ex->Fi->St->Prop)->Prop
 | .skip,fe,S,Q=>Q .normal fe S
 | .region ops,fe,S,Q=>XO P ops fe S (Q .normal)
 | .draw d,fe,S,Q=>@XM P _ S (d.ops.zip d.flags) ⟨[]⟩ fe S (Q .normal)
 | .seq a b,fe,S,Q=>XW P a fe S (λe fe' S'=>match e with
  | .normal=>XW P b fe' S' Q
  | e=>Q e fe' S')
 | .cond c x y,fe,S,Q=>∃ b,NN fe c=.bool b/\(b=true->XW P x fe S Q)/\(b=false->XW P y fe S Q)
 | .block id c,fe,S,Q=>XW P c fe S (λe fe' S'=>match e with
  | .exit id'=>if id'=id then Q .normal fe' S' else Q (.exit id') fe' S'
  | e=>Q e fe' S')
 | .loop c,fe,S,Q=>∃ (I:Fi->St->Prop) (μ:Fi->St->Nat),I fe S/\∀ fe S,I fe S->XW P c fe S (λe fe' S'=>match e with
  | .normal=>I fe' S'/\μ fe' S' < μ fe S
  | e=>Q e fe' S')
 | .exit id,fe,S,Q=>Q (.exit id) fe S
 | .ret,fe,S,Q=>Q .ret fe S
 | .range x L,fe,S,Q=>∃ g a b,NN fe x=.func (.func g) a b/\∀ env ,Ki env=fe->L.n<=env.size->XC P g (a++#[Value.func (.yield S.next) #[] #[]]++b) (S.alloc (.loop env L none)) (λ_ S2=>∃ env2 L2 pe,S2.get S.next=.loop env2 L2 pe/\Q (pe.getD .normal) fe (S2.put S.next .gone))
section
variable {P:Program}[Prim P]
def qq{o ρ S K}(hw:WS S)(hok:Fz o=true)(hρ:∀ x,E3 x=true->Sc S.next (ρ x))(h:XS P o ρ S K):∃ n v S',GL (EZ FU (XF P) (XL P) (Prim.run P) n) o ρ S=some (v,S')/\K v S':=by
 unfold XS at h;split at h
 ·obtain⟨n,v,S',h1,h2⟩:=h hw (LJ hρ hok)
  exact⟨n,v,S',h1,h2⟩
 ·rename_i x args
  obtain⟨f,a,b,e,h⟩:=h;simp only[Fz,Al] at hok;have hx:=hρ x hok.1;rw[e] at hx;obtain⟨k1,k2⟩:=Nb hx;obtain⟨n,v,S',h1,h2⟩:=h hw (by
   rw[A4,A4];exact (k1.append (LJ hρ hok.2)).append k2)
  refine⟨n,v,S',?_,h2⟩;simp only[GL,e];omega
 ·rename_i n1 n2
  obtain⟨v,S',h1,h2⟩:=h;refine⟨0,v,S',?_,h2⟩;rw[<- h1];unfold GL
  grind
def Aaj{m}:∀ l,W6 m l=true->∀ env S Q,WS S->SE S.next env->m<=env.size->XO P l (Ki env) S Q->∃ n env' S',NA (EZ FU (XF P) (XL P) (Prim.run P) n) l env S=some (env',S')/\Q (Ki env') S':=by
 intro l
 induction l with
 | nil=>intro _ env S Q hw hs hm h;exact⟨0,env,S,rfl,h⟩
 | cons o l ih=>
  intro hwf env S Q hw hs hm h;obtain⟨h1,h2,h3⟩:=Jy hwf;simp only[XO] at h;rw[<- OW] at h;simp only[NA];split at h
  ·rename_i hwn
   obtain⟨n,v,S1,k1,k2⟩:=qq hw h1 hs.ev h;obtain⟨q1,q2,q3⟩:=Io (Ip P n) hw h1 hs.ev k1;rw[<- KN _ _ v (λt e=>Ar (h2 t e) hm)] at k2;obtain⟨n2,env',S',k3,k4⟩:=ih h3 _ _ Q q1 ((hs.mono q2).put _ q3) (by rw[Hm];omega) k2;refine⟨max n n2,env',S',?_,k4⟩;rw[if_pos hwn,Jb (G7 (XF P) (XL P) (Prim.run P) n (max n _) (Bi _ _)) k1];exact PT (G7 (XF P) (XL P) (Prim.run P) _ (max n _) (Bk _ _)) _ _ _ _ k3
  ·rename_i hwn
   rw[<- KN _ _ _ (λt e=>Ar (h2 t e) hm)] at h;obtain⟨n2,env',S',k3,k4⟩:=ih h3 _ S Q hw (hs.put _ (Sc.undef _)) (by rw[Hm];omega) h
   grind
def qt(env:Env)(v){d t}(h:d≠some t):(env.put d v).ev (.tmp t)=env.ev (.tmp t):=by
 cases d with
 | none=>rfl
 | some d=>
  have hne:d≠t:=λe=>h (by rw[e])
  simp only[Env.put,Env.ev]
  simp_all
def qu{cl xs env env' S S' R}(h:KF cl xs env S=some (R,env',S')):∀ j (hj:j < xs.length) t,(∀ i (hi:i < j),(xs[i]' dO).dst≠some t)->∀ {rj},R[j]? = some rj->rj.env.ev (.tmp t)=env.ev (.tmp t):=by
 intro j;obtain⟨f1,f2,f3,f4⟩:=HQ _ _ _ _ _ _ h;have key:∀ j,j<=xs.length->∀ t,(∀ i (hi:i < j) hx,xs[i].dst≠some t)->(HH R env' j).ev (.tmp t)=env.ev (.tmp t):=by
  intro j
  induction j with
  | zero=>grind
  | succ j ih=>
   intro hj t ht;obtain⟨r,g1,g2,g3,g4,g5,g6,g7⟩:=f4 j dO;rw[g7,qt _ _ (ht j dO dO)]
   grind
 grind
def Aak{m}(S0):∀ l,W6 m (l.map (·.1))=true->∀ W env S Q,WS S->SE S.next env->m<=env.size->@XM P _ S0 l W (Ki env) S Q->
  ∃ n R env' S',KF (EZ FU (XF P) (XL P) (Prim.run P) n) (l.map (·.1)) env S=some (R,env',S')/\Q (Ki env') S'/\
   ∀ i hi,∃ r,R[i]? = some r/\(r.w=true->((l[i].2.1.1=true->JL (D7 R S' i) (D7 R S' (i+1))\/((∀ j hj rj,i < j->R[j]? = some rj->l[j].2.2=true->∀ id,Hi l[j].1.op rj.env.ev=some id->((D7 R S' (i+1)).get id).look=((D7 R S' i).get id).look)/\(D7 R S' i).next<=(D7 R S' (i+1)).next/\(∀ w,w∈W.it->US w (D7 R S' i) (D7 R S' (i+1)))/\∀ j hj rj,j < i->R[j]? = some rj->rj.w=true->GA l[j].1.op=true->US (l[j].1.op,rj.env.ev) (D7 R S' i) (D7 R S' (i+1))))/\(l[i].2.1.2=true->Ext (D7 R S' i) (D7 R S' (i+1))))/\(l[i].2.2=true->∀ id,Hi l[i].1.op r.env.ev=some id->id < S0.next)):=by
 intro l
 induction l with
 | nil=>intro _ W env S Q hw hs hm h;exact⟨0,[],env,S,rfl,h,λi hi=>by simp at hi⟩
 | cons o l ih=>
  obtain⟨o,D8,early⟩:=o;intro hwf W env S Q hw hs hm h;obtain⟨h1,h2,h3⟩:=Jy hwf;simp only[XM] at h;rw[<- OW] at h;simp only[Au,KF];have sT:∀ wn v R1 S' j,D7 (⟨env,S,wn,v⟩::R1) S' (j+1)=D7 R1 S' j:=λwn v R1 S' j=>by simp[D7]
  split at h
  ·rename_i hwn
   rw[<- LK] at h;obtain⟨he,h⟩:=h;obtain⟨n,v,S1,k1,kk,k2⟩:=qq hw h1 hs.ev h;obtain⟨q1,q2,q3⟩:=Io (Ip P n) hw h1 hs.ev k1;rw[<- KN env o.dst v (λt e=>Ar (h2 t e) hm)] at k2;obtain⟨n2,R1,env',S',k3,k4,k5⟩:=ih h3 ⟨watch o.op env.ev W.it⟩ (env.put o.dst v) S1 Q q1 ((hs.mono q2).put _ q3) (by rw[Hm];exact hm) k2;refine⟨max n n2,⟨env,S,true,v⟩::R1,env',S',?_,k4,λi hi=>?_⟩
   ·rw[if_pos hwn,Jb (G7 (XF P) (XL P) (Prim.run P) n (max n n2) (Bi _ _)) k1]
    simp only[Az];rw[PU (G7 (XF P) (XL P) (Prim.run P) n2 (max n n2) (Bk _ _)) _ _ _ _ k3];rfl
   ·cases i with
    | zero=>
     refine⟨⟨env,S,true,v⟩,rfl,λ_=>⟨?_,λhk=>he hk⟩⟩;rw[sT];have e0:D7 R1 S' 0=S1:=(HQ _ _ _ _ _ _ k3).2.2.1;rw[e0];refine⟨λhk=>?_,kk.2⟩;rcases kk.1 hk with h | ⟨g1,g2,g3⟩
     ·exact .inl h
     ·refine .inr ⟨λj hj rj hlt e1 e2 id hid=>?_,g2,g3,λj hj rj hlt=>dO⟩
      cases j with
      | zero=>omega
      | succ j=>
       obtain⟨agg,sz,t,c1,c2,c3,c4⟩:=g1.at j (by simpa using hj) (by simpa using e2);have hE:=qu k3 j (by simpa using hj) t (λi hi=>by have:=c3 i hi;simpa using this) (rj:=rj) (by simpa using e1);have hput:(env.put o.dst v).ev (.tmp t)=env.ev (.tmp t):=by
        obtain⟨_,c5⟩:=Yz c2;exact qt env v c5
       have c1':(l[j]'(by simpa using hj)).1.op=.load agg sz (.tmp t):=c1;simp only[Cx] at hid;show (S1.get id).look=(S.get id).look
       refine c4 id ?_;rw[c1'] at hid |-;simp only[Hi] at hid |-;rw[hE,hput,LK] at hid;exact hid
    | succ i=>
     obtain⟨r,p1,p2⟩:=k5 i (by simpa using hi);refine⟨r,by simpa using p1,λhw=>?_⟩;rw[sT,sT];obtain⟨⟨a1,a2⟩,a3⟩:=p2 hw;refine⟨⟨λhk=>?_,a2⟩,a3⟩;rcases a1 hk with h | ⟨g1,g2,g3,g4⟩
     ·exact .inl h
     ·refine .inr ⟨λj hj rj hlt e1 e2 id hid=>?_,g2,λw hw=>g3 w ?_,λj hj rj hlt e1 e2 e3=>?_⟩
      ·cases j with
       | zero=>omega
       | succ j=>exact g1 j (by simpa using hj) rj dO (by simpa using e1) (by simpa using e2) id (by simpa using hid)
      ·show w∈watch o.op env.ev W.it
       unfold watch;split
       ·exact Bo _ hw
       ·exact hw
      ·cases j with
       | zero=>
        cases e1
        refine g3 (o.op,env.ev) ?_;show _∈watch o.op env.ev W.it
        unfold watch;rw[if_pos (show GA o.op=true from e3)];exact BP ..
       | succ j=>exact g4 j (by simpa using hj) rj dO (by simpa using e1) e2 e3
  ·rename_i hwn
   rw[<- KN env o.dst undef (λt e=>Ar (h2 t e) hm)] at h;obtain⟨n2,R1,env',S',k3,k4,k5⟩:=ih h3 W _ S Q hw (hs.put _ (Sc.undef _)) (by rw[Hm];exact hm) h;refine⟨n2,⟨env,S,false,undef⟩::R1,env',S',?_,k4,λi hi=>?_⟩
   ·rw[if_neg hwn,k3];rfl
   ·cases i with
    | zero=>exact⟨⟨env,S,false,undef⟩,rfl,λx=>by cases x⟩
    | succ i=>
     obtain⟨r,p1,p2⟩:=k5 i (by simpa using hi);refine⟨r,by simpa using p1,λhw=>?_⟩;rw[sT,sT];obtain⟨⟨a1,a2⟩,a3⟩:=p2 hw;refine⟨⟨λhk=>?_,a2⟩,a3⟩;rcases a1 hk with h | ⟨g1,g2,g3,g4⟩
     ·exact .inl h
     ·refine .inr ⟨λj hj rj hlt e1 e2 id hid=>?_,g2,g3,λj hj rj hlt e1 e2 e3=>?_⟩
      ·cases j with
       | zero=>omega
       | succ j=>exact g1 j (by simpa using hj) rj dO (by simpa using e1) (by simpa using e2) id (by simpa using hid)
      ·cases j with
       | zero=>cases e1;cases e2
       | succ j=>exact g4 j (by simpa using hj) rj dO (by simpa using e1) e2 e3
def YA{o}(h:GA o=true){ρ S S1 S2 v}(hx:EF o ρ S=some (v,S1))(hg:∀ id,Hi o ρ=some id->(S2.get id).look=(S.get id).look):∃ S'',EF o ρ S2=some (v,S''):=by
 cases o
 all_goals (first | (simp[GA] at h) | skip)
 case load agg sz x=>
  simp only[EF,Hi] at hx hg |-;split at hx
  ·rename_i id o e
   rw[e] at hg;have:=hg _ rfl;simp only[Ae,Ab,AA] at hx |-;obtain⟨c,hc,v0,hv,rfl,_⟩:=hx;refine⟨S2,c,?_,v0,hv,rfl,rfl⟩;rw[jl this];omega
  ·cases hx
 case sl esz x lo hi=>
  simp only[EF,Hi] at hx hg |-;split at hx
  case h_2=>cases hx
  rename_i a n c e;rw[e] at hg;split at hx
  case h_2=>cases hx
  rename_i l hh b1 b2;split at hx
  case isFalse=>cases hx
  rename_i hc;rw[if_pos hc];cases a with
  | none=>
   simp only[H8] at hx |-;split at hx
   ·rename_i h0
    rw[if_pos h0];exact⟨S2,by rw[(Ai (Aa hx)).1]⟩
   ·cases hx
  | some ad=>
   obtain⟨id,o,sp⟩:=ad;cases sp with
   | some _=>simp[H8] at hx
   | none=>
    have:=hg _ rfl;simp only[H8] at hx |-;split at hx
    ·rename_i h0
     have h0':Mi (S2.width id) esz l=true:=by
      rw[fM this];exact h0
     rw[if_pos h0'];exact⟨S2,by rw[(Ai (Aa hx)).1]⟩
    ·cases hx
def fO{o}(hok:Fz o=true){ρ m}(hρ:∀ x,E3 x=true->Sc m (ρ x)){id}(h:Hi o ρ=some id):id < m:=by
 cases o<;>simp only[Hi] at h
 all_goals (first | grind | skip)
 case load agg sz x=>
  have hx:=hρ x hok;split at h
  ·rename_i a e
   rw[e] at hx;obtain rfl:=Aa h;cases hx with
   | ptr _ _ hid=>omega
  grind
 case sl esz x lo hi=>
  simp only[Fz,Al] at hok;have hx:=hρ x hok.1.1;split at h
  ·rename_i a n c e
   rw[e] at hx;obtain rfl:=Aa h;cases hx with
   | slice _ _ _ _ hid=>omega
  grind
end
section
variable {P:Program}[Prim P]
def fP{o}(h:GA o=true):LV o=false:=by
 cases o<;>simp[GA] at h<;>rfl
def fQ{w}{T:Nat->St}{lo hi v}(h:∀ k,lo<=k->k < hi->US w (T k) (T (k+1)))(hle:lo<=hi)(h0:∃ S1,EF w.1 w.2 (T lo)=some (v,S1)):∃ S1,EF w.1 w.2 (T hi)=some (v,S1):=by
 induction hi with
 | zero=>grind
 | succ hi ih=>
  by_cases e:lo=hi+1
  ·grind
  ·obtain⟨S1,h1⟩:=ih (λk h1 h2=>h k h1 dO) dO
   exact h _ dO dO v _ h1
def Lq{cl o}(ha:LV o=false){ρ S S' v}(h:GL cl o ρ S=some (v,S')):Ext S S':=by
 rw[J0 ha] at h;cases h1:GA o with
 | true=>rw[Ja h1 h];exact Ext.refl S
 | false=>
  cases h2:Hg o with
  | false=>rw[(Pe ha h1 h2 h S).1];exact Ext.refl S
  | true=>
   obtain⟨b,_,rfl,_⟩:=Nm h2 h;exact Ext.alloc S _
def lL{T:Nat->St}{lo hi}(h:∀ k,lo<=k->k < hi->Ext (T k) (T (k+1)))(hle:lo<=hi):Ext (T lo) (T hi):=by
 induction hi with
 | zero=>
      obtain rfl:lo=0:=dO
      exact Ext.refl _
 | succ hi ih=>
  by_cases e:lo=hi+1
  ·subst e;exact Ext.refl _
  ·exact (ih (λk h1 h2=>h k h1 dO) dO).trans (h _ dO dO)
def Aal{m}:∀ c,Mf m c=true->∀ env S Q,WS S->SE S.next env->m<=env.size->XW P c (Ki env) S Q->∃ n e env' S',EL FU (EZ FU (XF P) (XL P) (Prim.run P) n) n c env S=some (e,env',S')/\Q e (Ki env') S':=by
 intro c
 induction c with
 | skip=>intro _ env S Q hw hs hm h;exact⟨0,_,_,_,rfl,h⟩
 | exit id=>intro _ env S Q hw hs hm h;exact⟨0,_,_,_,rfl,h⟩
 | ret=>intro _ env S Q hw hs hm h;exact⟨0,_,_,_,rfl,h⟩
 | region ops=>
  intro hwf env S Q hw hs hm h;obtain⟨n,env',S',h1,h2⟩:=Aaj ops hwf env S _ hw hs hm h;exact⟨n,.normal,env',S',by simp[EL,h1],h2⟩
 | draw d=>
  intro hwf env S Q hw hs hm h;simp only[Mf,Al,beq_iff_eq] at hwf;obtain⟨hwf,hfl⟩:=hwf;have h:@XM P _ S (d.ops.zip (flagsOf d.ops d.stages)) ⟨[]⟩ (Ki env) S (Q .normal):=by rw[<- hfl];exact h
  have hlen:(flagsOf d.ops d.stages).length=d.ops.length:=by simp[flagsOf]
  have hmap:(d.ops.zip (flagsOf d.ops d.stages)).map (·.1)=d.ops:=by rw[List.map_fst_zip dO]
  obtain⟨n,R,env',S',h1,h2,h3⟩:=Aak S (d.ops.zip (flagsOf d.ops d.stages)) (by rw[hmap];exact hwf) ⟨[]⟩ env S _ hw hs hm h;rw[hmap] at h1;refine⟨n,.normal,env',S',?_,h2⟩;have hfacts:=HQ _ _ _ _ _ _ h1;have hws:=V3 (Ip P n) d.ops hwf env S R env' S' hw hs h1;have hop:∀ i (hi:i < d.ops.length),Fz d.ops[i].op=true:=by
   intro i hi;have hwf':W6 m d.ops=true:=hwf;simp only[W6,At,Al] at hwf';exact (hwf' _ (Ao hi)).1
  have hstep:∀ i hi,∃ r,R[i]? = some r/\r.S=D7 R S' i/\(LV d.ops[i].op=false->Ext (D7 R S' i) (D7 R S' (i+1)))/\(r.w=true->GL (EZ FU (XF P) (XL P) (Prim.run P) n) d.ops[i].op r.env.ev (D7 R S' i)=some (r.v,D7 R S' (i+1)))/\(r.w=false->D7 R S' (i+1)=D7 R S' i):=by
   intro i hi;obtain⟨r,a1,a2,a3,a4,a5,a6,a7⟩:=hfacts.2.2.2 i hi;refine⟨r,a1,a3,λha=>?_,λhw=>by rw[a2];exact a5 hw,λhw=>(a6 hw).2⟩;cases hw:r.w with
   | false=>rw[(a6 hw).2];exact Ext.refl _
   | true=>exact Lq ha (a5 hw)
  have hkeepL:∀ i k hi (hk:k < d.ops.length),GA d.ops[i].op=true->∀ q,q∈(d.stages[i]?).getD []->(i<=k/\k < q)\/(q<=k/\k < i)->JL (D7 R S' k) (D7 R S' (k+1))\/(i<=k/\∀ r,R[i]? = some r->r.w=true->US (d.ops[i].op,r.env.ev) (D7 R S' k) (D7 R S' (k+1)))\/(k < i/\∀ r,R[i]? = some r->∀ id,Hi d.ops[i].op r.env.ev=some id->((D7 R S' (k+1)).get id).look=((D7 R S' k).get id).look):=by
   intro i k hi hk hio q hq hbt;by_cases ha:LV d.ops[k].op=false
   ·obtain⟨r,_,_,h4,_⟩:=hstep k hk
    exact .inl (h4 ha).PB
   ·have ha':LV d.ops[k].op=true:=by simpa using ha
    obtain⟨r,b1,b2⟩:=h3 k (by simp[flagsOf];exact hk);obtain⟨r',c1,c2,_,_,c5⟩:=hstep k hk;rw[b1] at c1;obtain rfl:=Aa c1;cases hw:r.w with
    | false=>rw[c5 hw];exact .inl (JL.refl _)
    | true=>
     have hkeep:=(b2 hw).1.1 (by
      simp only[B3,flagsOf,AZ,Ce];rw[Ah hk];simp only[ha',CC,B1,Bp];refine⟨i,hi,?_⟩;rw[Ah hi];simp only[Al,Cl,B1,decide_eq_true_eq];exact⟨hio,q,hq,hbt⟩)
     rcases hkeep with h | ⟨g1,g2,_,g4⟩
     ·exact .inl h
     ·rcases hbt with ⟨hle,_⟩ | ⟨hqk,hki⟩
      ·refine .inr (.inl ⟨hle,λri e1 e2=>?_⟩)
       have hne:i≠k:=λe=>by
        subst e;have:=fP hio;rw[this] at ha';cases ha'
       have:=g4 i (by simp[flagsOf];exact hi) ri dO e1 e2 (by simp only[B3];exact hio);simpa only[B3] using this
      ·refine .inr (.inr ⟨hki,λri e1 id hid=>?_⟩)
       refine g1 i (by simp[flagsOf];exact hi) ri hki e1 ?_ id (by simpa only[B3] using hid);simp only[B3,flagsOf,AZ,Ce];rw[Ah hi];simp only[hio,CC,B1,decide_eq_true_eq];exact⟨q,hq,dO⟩
  have hkeepA:∀ i k hi (hk:k < d.ops.length),Hg d.ops[i].op=true->∀ q,q∈(d.stages[i]?).getD []->(i<=k/\k < q)->Ext (D7 R S' k) (D7 R S' (k+1)):=by
   intro i k hi hk hio q hq hbt;by_cases ha:LV d.ops[k].op=false
   ·obtain⟨r,_,_,h4,_⟩:=hstep k hk
    exact h4 ha
   ·have ha':LV d.ops[k].op=true:=by simpa using ha
    obtain⟨r,b1,b2⟩:=h3 k (by simp[flagsOf];exact hk);obtain⟨r',c1,c2,_,_,c5⟩:=hstep k hk;rw[b1] at c1;obtain rfl:=Aa c1;cases hw:r.w with
    | false=>rw[c5 hw];exact Ext.refl _
    | true=>
     refine (b2 hw).1.2 ?_;simp only[B3,flagsOf,AZ,Ce];rw[Ah hk];simp only[ha',CC,B1,Bp];refine⟨i,hi,?_⟩;rw[Ah hi];simp only[Al,B1,decide_eq_true_eq];exact⟨hio,q,hq,hbt⟩
  have hchk:o8 d R S':=by
   refine⟨λi hi=>?_,λi r o e1 e2 hw ha q hq=>?_⟩
   ·have hi':i < d.ops.length:=by rw[<- hfacts.1];exact hi
    obtain⟨r,a1,a2,a3,a4,a5⟩:=hstep i hi';cases hw:r.w with
    | false=>rw[a5 hw];exact Af _
    | true=>
     have hws':=hws.2.2.2.2 i r a1;rw[a2] at hws';exact (Io (Ip P n) hws'.1 (hop i hi') hws'.2.ev (a4 hw)).2.1
   ·have hi:i < d.ops.length:=(Am.1 e2).1
    have hoi:d.ops[i]=o:=(Am.1 e2).2;obtain⟨r',a1,a2,a3,a4,a5⟩:=hstep i hi;rw[e1] at a1;obtain rfl:=Aa a1;have hx:=a4 hw;rw[hoi] at hx;have hx':=hx;rw[J0 ha] at hx';have hws':=hws.2.2.2.2 i r e1;rw[a2] at hws';have hwx:=V4 hws'.1 (by rw[<- hoi];exact hop i hi) hws'.2.ev hx';have hcap:∀ q,d.ops.length<=q->D7 R S' q=D7 R S' d.ops.length:=λq hq=>by
     simp[D7,AO (show R.length<=q by rw[hfacts.1];exact hq),AO (show R.length<=d.ops.length by rw[hfacts.1];exact Af _)]
    refine⟨λhh=>?_,λhal hlt=>?_⟩
    ·have hT:=Ja hh hx'
     have hio:GA d.ops[i].op=true:=by rw[hoi];exact hh
     refine⟨?_,λ_=>?_⟩
     ·rcases Nat.le_total i q with h | h
      ·refine fQ (w:=(o.op,r.env.ev)) (T:=D7 R S') (lo:=i) (λk c1 c2=>?_) h ⟨_,hx'⟩
       by_cases hkl:k < d.ops.length
       ·rcases hkeepL i k hi hkl hio q hq (.inl ⟨c1,c2⟩) with hE | ⟨_,hS⟩ | ⟨hki,_⟩
        ·intro v2 S2 e3
         have hmono:∀ j,i<=j->j<=d.ops.length->(D7 R S' i).next<=(D7 R S' j).next:=by
          intro j hij
          induction j with
          | zero=>
               intro _;obtain rfl:i=0:=dO
               exact Af _
          | succ j ihj=>
           intro hj;by_cases ej:i=j+1
           ·rw[ej];exact Af _
           refine An (ihj dO dO) ?_;obtain⟨r3,p1,p2,p3,p4,p5⟩:=hstep j dO;cases hw3:r3.w with
           | false=>rw[p5 hw3];exact Af _
           | true=>
            have hws3:=hws.2.2.2.2 j r3 p1;rw[p2] at hws3;exact (Io (Ip P n) hws3.1 (hop j dO) hws3.2.ev (p4 hw3)).2.1
         refine YA hh e3 λid hid=>?_
         have hidlt:=fO (by rw[<- hoi];exact hop i hi) hws'.2.ev hid;exact hE.look id (Ar hidlt (hmono k c1 dO))
        ·have:=hS r e1 hw
         rw[hoi] at this;exact this
        ·omega
       ·intro v2 S2 e3
        rw[hcap k dO] at e3;exact⟨S2,by rw[hcap (k+1) dO];exact e3⟩
      ·by_cases e:q=i
       ·rw[e];exact⟨_,hx'⟩
       ·refine YA hh hx' λid hid=>?_
        obtain⟨r2,b1,b2⟩:=h3 i (by simp[flagsOf];exact hi);rw[e1] at b1;obtain rfl:=Aa b1;have hq0:id < S.next:=by
         refine (b2 hw).2 ?_ id ?_
         ·simp only[B3,flagsOf,AZ,Ce]
          rw[e2];simp only[hh,CC,B1,decide_eq_true_eq];exact⟨q,hq,dO⟩
         ·simp only[B3,hoi];exact hid
        have hmono:∀ j,j<=d.ops.length->S.next<=(D7 R S' j).next:=by
         have:∀ j,j<=d.ops.length->S.next<=(D7 R S' j).next:=by
          intro j
          induction j with
          | zero=>intro _;rw[hfacts.2.2.1];exact Af _
          | succ j ihj=>
           intro hj;refine An (ihj dO) ?_;obtain⟨r3,p1,p2,p3,p4,p5⟩:=hstep j dO;cases hw3:r3.w with
           | false=>rw[p5 hw3];exact Af _
           | true=>
            have hws3:=hws.2.2.2.2 j r3 p1;rw[p2] at hws3;exact (Io (Ip P n) hws3.1 (hop j dO) hws3.2.ev (p4 hw3)).2.1
         exact this
        have hstp:∀ k,q<=k->k < i->((D7 R S' (k+1)).get id).look=((D7 R S' k).get id).look:=λk c1 c2=>by
         rcases hkeepL i k hi dO hio q hq (.inr ⟨c1,c2⟩) with hE | ⟨hik,_⟩ | ⟨_,hL⟩
         ·exact hE.look id (Ar hq0 (hmono k dO))
         ·omega
         ·exact hL r e1 id (by rw[hoi];exact hid)
        have hch:∀ m,q<=m->m<=i->((D7 R S' m).get id).look=((D7 R S' q).get id).look:=by
         intro m
         induction m with
         | zero=>
              intro hm0 _;obtain rfl:q=0:=dO
              rfl
         | succ m ihm=>
          intro h1 h2;by_cases em:q=m+1
          ·rw[em]
          ·rw[hstp m dO dO]
           exact ihm dO dO
        exact (hch i dO (Af _)).symm
     ·rw[a2]
      have:=hwx.2.2;rw[hT] at this;exact this.XI
    ·obtain⟨b,_,hT,_,_⟩:=Nm hal hx'
     have hlate:Ext (D7 R S' (i+1)) (D7 R S' q):=lL (T:=D7 R S') (λk h1 h2=>by
      by_cases hkl:k < d.ops.length
      ·exact hkeepA i k hi hkl (by rw[hoi];exact hal) q hq ⟨dO,h2⟩
      ·rw[hcap k dO,hcap (k+1) dO];exact Ext.refl _) dO
     refine hlate.get _ ?_;rw[hT,a2];simp
  simp only[EL,FU,h1,Az,if_pos hchk,AH]
 | seq a b iha ihb=>
  intro hwf env S Q hw hs hm h;simp only[Mf,Al] at hwf;obtain⟨n,e,env1,S1,h1,h2⟩:=iha hwf.1 env S _ hw hs hm h;obtain⟨q1,q2,q3,q4⟩:=IL (Ip P n) a hwf.1 env S _ hw hs h1;cases e with
  | normal=>
   obtain⟨n2,e2,env2,S2,h3,h4⟩:=ihb hwf.2 env1 S1 Q q1 q3 (by rw[q4];exact hm) h2;refine⟨max n n2,e2,env2,S2,?_,h4⟩;simp only[EL];rw[FJ (G7 (XF P) (XL P) (Prim.run P) n (max n n2) (Bi _ _)) (Bi _ _) _ _ _ _ h1];exact FJ (G7 (XF P) (XL P) (Prim.run P) n2 (max n n2) (Bk _ _)) (Bk _ _) _ _ _ _ h3
  | exit id=>exact⟨n,.exit id,env1,S1,by simp[EL,h1],h2⟩
  | ret=>exact⟨n,.ret,env1,S1,by simp[EL,h1],h2⟩
 | cond c x y ihx ihy=>
  intro hwf env S Q hw hs hm h;simp only[Mf,Al] at hwf;obtain⟨b,e,hx,hy⟩:=h;rw[<- LK] at e;cases b with
  | true=>
   obtain⟨n,e2,env2,S2,h3,h4⟩:=ihx hwf.1 env S Q hw hs hm (hx rfl);exact⟨n,e2,env2,S2,by simp[EL,e,h3],h4⟩
  | false=>
   obtain⟨n,e2,env2,S2,h3,h4⟩:=ihy hwf.2 env S Q hw hs hm (hy rfl);exact⟨n,e2,env2,S2,by simp[EL,e,h3],h4⟩
 | block id c ih=>
  intro hwf env S Q hw hs hm h;obtain⟨n,e,env1,S1,h1,h2⟩:=ih hwf env S _ hw hs hm h;cases e with
  | normal=>exact⟨n,.normal,env1,S1,by simp[EL,h1],h2⟩
  | ret=>exact⟨n,.ret,env1,S1,by simp[EL,h1],h2⟩
  | exit id'=>
   simp only at h2;by_cases e:id'=id
   ·rw[if_pos e] at h2
    exact⟨n,.normal,env1,S1,by simp[EL,h1,e],h2⟩
   ·rw[if_neg e] at h2
    exact⟨n,.exit id',env1,S1,by simp[EL,h1,e],h2⟩
 | loop c ih=>
  intro hwf env S Q hw hs hm h;obtain⟨I,μ,hI,hround⟩:=h;have key:∀ k env S,μ (Ki env) S=k->WS S->SE S.next env->m<=env.size->I (Ki env) S->∃ n j e env' S',Jx (EL FU (EZ FU (XF P) (XL P) (Prim.run P) n) n c) j env S=some (e,env',S')/\Q e (Ki env') S':=by
   intro k
   induction k using Nat.strongRecOn with
   | _ k ihk=>
    intro env S hk hw hs hm hI;obtain⟨n,e,env1,S1,h1,h2⟩:=ih hwf env S _ hw hs hm (hround _ _ hI);obtain⟨q1,q2,q3,q4⟩:=IL (Ip P n) c hwf env S _ hw hs h1;cases e with
    | normal=>
     obtain⟨hI1,hlt⟩:=h2;obtain⟨n2,j,e2,env2,S2,h3,h4⟩:=ihk _ (by rw[<- hk];exact hlt) env1 S1 rfl q1 q3 (by rw[q4];exact hm) hI1;refine⟨max n n2,j+1,e2,env2,S2,?_,h4⟩;simp only[Jx];rw[FJ (G7 (XF P) (XL P) (Prim.run P) n (max n n2) (Bi _ _)) (Bi _ _) _ _ _ _ h1];exact Kk (λenv S r h=>FJ (G7 (XF P) (XL P) (Prim.run P) n2 (max n n2) (Bk _ _)) (Bk _ _) _ _ _ _ h) j j (Af _) _ _ _ h3
    | exit id=>exact⟨n,1,.exit id,env1,S1,by simp[Jx,h1],h2⟩
    | ret=>exact⟨n,1,.ret,env1,S1,by simp[Jx,h1],h2⟩
  obtain⟨n,j,e,env',S',h1,h2⟩:=key _ env S rfl hw hs hm hI;refine⟨max n j,e,env',S',?_,h2⟩;simp only[EL];exact Kk (λenv S r h=>FJ (G7 (XF P) (XL P) (Prim.run P) n (max n j) (Bi _ _)) (Bi _ _) _ _ _ _ h) j (max n j) (Bk _ _) _ _ _ h1
 | range x L=>
  intro hwf env S Q hw hs hm h;simp only[Mf,Al,beq_iff_eq] at hwf;obtain⟨g,a,b,e,h⟩:=h;rw[<- LK] at e;have hx:=hs.ev x hwf.1;rw[e] at hx;obtain⟨k1,k2⟩:=Nb hx;have hsc:Hl (S.alloc (.loop env L none)).next (a++#[Value.func (.yield S.next) #[] #[]]++b).toList:=by
   rw[A4,A4];refine ((k1.mono iN).append ?_).append (k2.mono iN);intro u hu;simp only[AG] at hu;subst hu;exact .yield _ iN
  obtain⟨n,v,S2,h1,env2,L2,pe,h2,h3⟩:=h env rfl dO (hw.JJ (b:=.loop env L none) hs.PB) hsc;refine⟨n,pe.getD .normal,env,S2.put S.next .gone,?_,h3⟩;simp only[EL,e,h1,Az,h2];cases pe<;>rfl
def uU(fe:Fi)(S:St):JK->Option Value
 | .tmp t=>some (fe t)
 | .cell a agg sz=>match fe a with
  | .pointer (some ⟨id,o,none⟩)=>(S.rd id o sz).bind λc=>Hj agg c
  | _=>none
def xJ(l:List JK)(fe:Fi)(S:St):=
 (l.mapM (uU fe S)).map pack
def iO(l env S):TT l env S=xJ l (Ki env) S:=by
 unfold TT xJ;have:SD env S=uU (Ki env) S:=by
  funext x;cases x<;>rfl
 grind
def mY(args:List Value):Fi:=λt=>args.getD t undef
def XP(args:Array Value)(k):Ki (args++Array.replicate k undef)=mY args.toList:=by
 funext t;simp only[Ki,mY];rw[Ay,AY,DK]
 grind
def YB{f xf}(hf:XF P f=some xf){args S Q}
  (h:XW P xf.body (mY args.toList) S (λe fe S'=>(∀ id,e≠.exit id)/\∃ v,xJ xf.results fe S'=some v/\Q v S')):XC P f args S Q:=by
 intro hw hargs;have hwf:=(UP hf).1;rw[<- XP _ (xf.ntmps - args.size)] at h;obtain⟨n,e,env',S',h1,h2,v,h3,h4⟩:=Aal _ hwf _ S _ hw (Ru hargs _) IN h;refine⟨n+1,v,S',?_,h4⟩;simp only[EZ,hf,h1,Az];rw[<- iO] at h3
 grind
def XC.calls(hm:P.follows .mixedOrders=true){f args S Q}(h:XC P f args S Q){B φ w args'}(hS:WS S)(ha:Hl S.next args.toList)(hargs:Gb φ args args')(hs:E0 B φ S w)(hB:B<=w.heap.size) :
  Calls P f args' w λe w'=>∃ φ' v v' S',e=.returned v'/\Rel φ' v v'/\E0 B φ' S' w'/\E6 B φ S w φ' S' w'/\Q v S':=by
 obtain⟨n,v,S',h1,h2⟩:=h hS ha;have:=LO (P:=P) (B:=B) (Rv hm) (F:=XF P) (λf xf hf=>(UP hf).2) (LT:=XL P) (λL x h=>(Uz h).1) (base:=Prim.run P) (Prim.ok B) n _ _ S v _ h1;refine (this.2 _ w _ hargs hs hB).mono ?_;rintro e w' ⟨φ',v',k1,k2,k3,k4⟩
 grind
end
class KH(α:Type) where
 it:α
def IX{α:Type}(v:α)[K:KH (α->Prop)]:Prop:=K.it v
def vH{α:Type}(v:α)(K:α->Prop):@IX α v ⟨K⟩=K v:=Av rfl rfl
def Jh{α:Type}(r:Option α)[K:KH (α->Prop)]:Prop:=∃ v,r=some v/\K.it v
def SV{α:Type}(v:α)(K:α->Prop):@Jh α (some v) ⟨K⟩=K v:=by simp[Jh]
def Jh.intro{α:Type}{r:Option α}{K:α->Prop}(v:α)(h:r=some v)(k:K v):@Jh α r ⟨K⟩:=⟨v,h,k⟩
def xU(P:Program)[Prim P](f:FuncId)(args:Array Value)[H:KH (St × (Value->St->Prop))]:Prop:=XC P f args H.it.1 H.it.2
def AbP(P:Program)[Prim P][H:KH (Fh × Fi × St × (Ex->Fi->St->Prop))]:Prop:=XW P (.loop H.it.1) H.it.2.1 H.it.2.2.1 H.it.2.2.2
def qw(P:Program)[Prim P](id:Nat)(args:Array Value)[H:KH (St × (Value->St->Prop))]:Prop:=XG P (.yield id) args H.it.1 H.it.2
def qw.of{P:Program}[Prim P]{id:Nat}{args:Array Value}{S:St}{Q Q':Value->St->Prop}(h:XG P (.yield id) args S Q)(hq:∀ v S',Q v S'->Q' v S'):@qw P _ id args ⟨(S,Q')⟩:=XG.mono h hq
def qx(P:Program)[Prim P](x:Value)(L:Kj)[H:KH (Fi × St × (Ex->Fi->St->Prop))]:Prop:=
 ∃ g a b,x=.func (.func g) a b/\∀ env:Array Value,Ki env=H.it.1->L.n<=env.size->XC P g (a++#[Value.func (.yield H.it.2.1.next) #[] #[]]++b) (H.it.2.1.alloc (.loop env L none)) (λ_ S2=>∃ env2 L2 pe,S2.get H.it.2.1.next=.loop env2 L2 pe/\H.it.2.2 (pe.getD .normal) H.it.1 (S2.put H.it.2.1.next .gone))
def qx.intro{P:Program}[Prim P]{g:FuncId}{a b:Array Value}{L:Kj}{fe:Fi}{S:St}{Q:Ex->Fi->St->Prop}(h:∀ env:Array Value,Ki env=fe->L.n<=env.size->XC P g (a++#[Value.func (.yield S.next) #[] #[]]++b) (S.alloc (.loop env L none)) (λ_ S2=>∃ env2 L2 pe,S2.get S.next=.loop env2 L2 pe/\Q (pe.getD .normal) fe (S2.put S.next .gone))):@qx P _ (.func (.func g) a b) L ⟨(fe,S,Q)⟩:=⟨g,a,b,rfl,h⟩
def xU.of{P:Program}[Prim P]{f:FuncId}{args:Array Value}{S:St}{Q Q':Value->St->Prop}(h:XC P f args S Q)(hq:∀ v S',Q v S'->Q' v S'):@xU P _ f args ⟨(S,Q')⟩:=XC.mono h hq
def AbQ(K:Fi->St->Prop)(Q:Ex->Fi->St->Prop):Ex->Fi->St->Prop:=λe fe S=>match e with
 | .normal=>K fe S
 | e=>Q e fe S
def jn(id:Nat)(Q:Ex->Fi->St->Prop):Ex->Fi->St->Prop:=λe fe S=>match e with
 | .exit id'=>if id'=id then Q .normal fe S else Q (.exit id') fe S
 | e=>Q e fe S
def AbR(I:Nat->Fi->St->Prop)(k:Nat)(Q:Ex->Fi->St->Prop):Ex->Fi->St->Prop:=λe fe S=>match e with
 | .normal=>∃ k',k' < k/\I k' fe S
 | e=>Q e fe S
section
variable {P:Program}[Prim P]{fe:Fi}{S S0:St}
def XC.given{f:FuncId}{args:Array Value}{S:St}{Q:Value->St->Prop}(h:WS S->Hl S.next args.toList->XC P f args S Q):XC P f args S Q:=λh1 h2=>h h1 h2 h1 h2
section
variable {Q:Ex->Fi->St->Prop}
def fR(a b:Fh):XW P (.seq a b) fe S Q=XW P a fe S (AbQ (λfe S=>XW P b fe S Q) Q):=by
 show XW P a fe S (λe fe' S'=>match e with
  | .normal=>XW P b fe' S' Q
  | e=>Q e fe' S')=_
 congr 1
def SW(id:Nat)(c:Fh):XW P (.block id c) fe S Q=XW P c fe S (jn id Q):=by
 show XW P c fe S (λe fe' S'=>match e with
  | .exit id'=>if id'=id then Q .normal fe' S' else Q (.exit id') fe' S'
  | e=>Q e fe' S')=_
 congr 1
def LY{o:Gk}{ρ:Operand->Value}{S:St}{K K':Value->St->Prop}(h:∀ v S,K v S->K' v S)(hx:XS P o ρ S K):XS P o ρ S K':=by
 cases o
 case call f args=>exact XC.mono hx h
 case callv x args=>
  obtain⟨f,a,b,e,hx⟩:=hx;exact⟨f,a,b,e,XG.mono hx h⟩
 all_goals
  obtain⟨v,S',e,hx⟩:=hx;exact⟨v,S',e,h _ _ hx⟩
def XW.mono{c:Fh}:∀ {fe:Fi} {S:St} {Q Q':Ex->Fi->St->Prop},(∀ e fe S,Q e fe S->Q' e fe S)->XW P c fe S Q->XW P c fe S Q':=by
 have hO:∀ (l:List EW) {fe:Fi} {S:St} {Q Q':Fi->St->Prop},(∀ fe S,Q fe S->Q' fe S)->XO P l fe S Q->XO P l fe S Q':=by
  intro l
  induction l with
  | nil=>intro fe S Q Q' h hx;exact h _ _ hx
  | cons o l ih=>
   intro fe S Q Q' h hx;simp only[XO] at hx |-;split at hx
   ·rename_i hw
    rw[if_pos hw];exact LY (λv S'=>ih h) hx
   ·rename_i hw
    rw[if_neg hw];exact ih h hx
 have hM:∀ (S0:St) (l:List (EW × (Bool × Bool) × Bool)) {W:jm} {fe:Fi} {S:St} {Q Q':Fi->St->Prop},(∀ fe S,Q fe S->Q' fe S)->@XM P _ S0 l W fe S Q->@XM P _ S0 l W fe S Q':=by
  intro S0 l
  induction l with
  | nil=>intro W fe S Q Q' h hx;exact h _ _ hx
  | cons o l ih=>
   obtain⟨o,k,e⟩:=o;intro W fe S Q Q' h hx;simp only[XM] at hx |-;split at hx
   ·rename_i hw
    rw[if_pos hw];exact⟨hx.1,LY (λv S' hh=>⟨hh.1,ih h hh.2⟩) hx.2⟩
   ·rename_i hw
    rw[if_neg hw];exact ih h hx
 induction c with
 | skip=>intro fe S Q Q' h hx;exact h _ _ _ hx
 | exit id=>intro fe S Q Q' h hx;exact h _ _ _ hx
 | ret=>intro fe S Q Q' h hx;exact h _ _ _ hx
 | region ops=>intro fe S Q Q' h hx;exact hO ops (h .normal) hx
 | draw d=>intro fe S Q Q' h hx;exact hM S _ (h .normal) hx
 | seq a b iha ihb=>
  intro fe S Q Q' h hx;rw[fR] at hx |-;refine iha (λe fe S hh=>?_) hx;cases e with
  | normal=>exact ihb h hh
  | exit id=>exact h _ _ _ hh
  | ret=>exact h _ _ _ hh
 | cond c a b iha ihb=>
  intro fe S Q Q' h hx;obtain⟨b,e,h1,h2⟩:=hx;exact⟨b,e,λhb=>iha h (h1 hb),λhb=>ihb h (h2 hb)⟩
 | block id c ih=>
  intro fe S Q Q' h hx;rw[SW] at hx |-;refine ih (λe fe S hh=>?_) hx;cases e with
  | normal=>exact h _ _ _ hh
  | ret=>exact h _ _ _ hh
  | exit i=>
   simp only[jn] at hh |-;split at hh
   ·rename_i hi;rw[if_pos hi];exact h _ _ _ hh
   ·rename_i hi;rw[if_neg hi];exact h _ _ _ hh
 | loop c ih=>
  intro fe S Q Q' h hx;obtain⟨I,μ,h1,h2⟩:=hx;refine⟨I,μ,h1,λfe S hI=>ih (λe fe' S' hh=>?_) (h2 fe S hI)⟩;cases e with
  | normal=>exact hh
  | exit id=>exact h _ _ _ hh
  | ret=>exact h _ _ _ hh
 | range x L=>
  intro fe S Q Q' h hx;obtain⟨g,a,b,e,hx⟩:=hx;exact⟨g,a,b,e,λenv h1 h2=>XC.mono (hx env h1 h2) λ_ S2 ⟨env2,L2,pe,k1,k2⟩=>⟨env2,L2,pe,k1,h _ _ _ k2⟩⟩
def least{p:Nat->Prop}:∀ n,p n->∃ k,p k/\∀ j,p j->k<=j:=by
 intro n
 induction n using Nat.strongRecOn with
 | _ n ih=>
  intro h;by_cases hh:∃ m,m < n/\p m
  ·obtain⟨m,h1,h2⟩:=hh
   exact ih m h1 h2
  ·exact⟨n,h,λj hj=>CO λhlt=>hh ⟨j,hlt,hj⟩⟩
def jo{c:Fh}{fe:Fi}{S:St}{Q:Ex->Fi->St->Prop}(I:Nat->Fi->St->Prop)(n:Nat)(h0:I n fe S)(h:∀ k fe S,I k fe S->XW P c fe S (AbR I k Q)):@AbP P _ ⟨(c,fe,S,Q)⟩:=by
 show XW P (.loop c) fe S Q
 classical
 let μ:Fi->St->Nat:=λfe S=>if h:∃ k,I k fe S/\∀ j,I j fe S->k<=j then h.choose else 0
 have hμ:∀ fe S k,I k fe S->I (μ fe S) fe S/\μ fe S<=k:=λfe S k hk=>by
  have hex:=least (p:=λk=>I k fe S) k hk;simp only[μ];rw[dif_pos hex];exact⟨hex.choose_spec.1,hex.choose_spec.2 k hk⟩
 refine⟨λfe S=>∃ k,I k fe S,μ,⟨n,h0⟩,λfe S hI=>?_⟩;obtain⟨k0,hk0⟩:=hI;refine XW.mono (λe fe' S' hh=>?_) (h _ _ _ (hμ fe S k0 hk0).1);cases e with
 | normal=>
  obtain⟨k',hk,hI'⟩:=hh;exact⟨⟨k',hI'⟩,Nat.lt_of_le_of_lt (hμ _ _ _ hI').2 hk⟩
 | exit id=>exact hh
 | ret=>exact hh
end
section
variable {Q:Fi->St->Prop}
def xV(D8:Bool × Bool)[H:KH (List (Gk × (Operand->Value)) × (St->St->Prop) × St × St × Prop)]:Prop:=((D8.1=true->qp H.it.1 (H.it.2.1 H.it.2.2.1 H.it.2.2.2.1) H.it.2.2.1 H.it.2.2.2.1)/\(D8.2=true->Ext H.it.2.2.1 H.it.2.2.2.1))/\H.it.2.2.2.2
def xV.intro{k:Bool × Bool}{W:List (Gk × (Operand->Value))}{l:St->St->Prop}{S S':St}{K:Prop}(h:Ext S S')(hk:K):@xV k ⟨(W,l,S,S',K)⟩:=⟨⟨λ_=>.inl h.PB,λ_=>h⟩,hk⟩
def qy(early:Bool)[H:KH (Gk × (Operand->Value) × St × Prop)]:Prop:=(early=true->∀ id,Hi H.it.1 H.it.2.1=some id->id < H.it.2.2.1.next)/\H.it.2.2.2
def qy.intro{e:Bool}{o:Gk}{ρ:Operand->Value}{S0:St}{K:Prop}(h:∀ id,Hi o ρ=some id->id < S0.next)(hk:K):@qy e ⟨(o,ρ,S0,K)⟩:=⟨λ_=>h,hk⟩
def SX(p:Prop)[K:KH Prop]:Prop:=p/\K.it
def lN(K:Prop):@SX True ⟨K⟩=K:=by simp[SX]
def SX.intro{p K:Prop}(h:p)(k:K):@SX p ⟨K⟩:=⟨h,k⟩
def Adp(v:Value):Option Nat:=match v with
 | .pointer (some a)=>some a.block
 | _=>none
end
def FH.rd(b:FH)(o n:Nat):Option (List Value):=
 match b with
 | .cells c _ _ _ _=>if o+n<=c.length then some ((c.drop o).take n) else none
 | _=>none
def FH.width(b:FH):Option Nat:=
 match b with
 | .cells _ _ z _ _=>some z
 | _=>none
def qz(S:St)(id o n:Nat):S.rd id o n=(S.get id).rd o n:=by unfold St.rd FH.rd;rfl
def FH.YC(c:List Value)(t:TypeId)(z:Nat)(m:Bool)(an:List Nat)(o n:Nat):(FH.cells c t z m an).rd o n=if o+n<=c.length then some ((c.drop o).take n) else none:=Av rfl rfl
def FH.YD(c:List Value)(t:TypeId)(z:Nat)(m:Bool)(an:List Nat):(FH.cells c t z m an).width=some z:=Av rfl rfl
def Hn(S:St)(b:FH):(S.alloc b).get S.next=b:=by rw[St.D6,if_pos rfl]
def Sr(S:St)(id:Nat)(c:List Value)(t:TypeId)(sz:Nat)(an:List Nat):(S.write id c t sz an).get id=.cells c t sz true []:=by rw[St.F5,if_pos rfl]
def Wb(S:St)(id:Nat)(c:List Value)(t:TypeId)(sz:Nat)(j:Nat)(h:j≠id):(S.write id c t sz []).get j=S.get j:=by rw[St.F5,if_neg h];simp
def ldv(S:St)(agg:Bool)(sz:Nat)(v:Value):Option Value:=match v with
 | .pointer (some ⟨id,o,none⟩)=>((S.get id).rd o sz).bind (Hj agg)
 | _=>none
def vI(S:St)(agg:Bool)(sz id o:Nat):ldv S agg sz (.pointer (some ⟨id,o,none⟩))=((S.get id).rd o sz).bind (Hj agg):=Av rfl rfl
def stv(sz:Nat)(c:List Value)(o:Nat)(b:FH):Option (List Value × TypeId × Nat × List Nat):=match b with
 | .cells l t z true an=>if c.length=sz/\o+sz<=l.length then some (EO l o c,t,z,an) else none
 | _=>none
def UH(sz:Nat)(c:List Value)(o:Nat)(l:List Value)(t:TypeId)(z:Nat)(an:List Nat):stv sz c o (.cells l t z true an)=if c.length=sz/\o+sz<=l.length then some (EO l o c,t,z,an) else none:=Av rfl rfl
def iav(esz:Nat)(x i:Value):Option Value:=match x,i with
 | .slice (some ⟨id,o,none⟩) n _,.int _ i=>if 0<=i/\i < n then some (.pointer (some ⟨id,o+i.toNat * esz,none⟩)) else none
 | _,_=>none
def Adr(x:Value):Option Value:=match x with
 | .slice _ n _=>some (.int .i64 n)
 | _=>none
section
variable {ρ:Operand->Value}{K:Value->St->Prop}
def qA{o:Gk}(hn:∀ f a,o≠.call f a)(hn2:∀ x a,o≠.callv x a):XS P o ρ S K = @Jh _ (EF o ρ S) ⟨λr=>K r.1 r.2⟩:=by
 have e:XS P o ρ S K = ∃ v S',EF o ρ S=some (v,S')/\K v S':=by
  unfold XS;split
  ·exact absurd rfl (hn _ _)
  ·exact absurd rfl (hn2 _ _)
  ·rfl
 rw[e];apply propext;constructor
 ·rintro⟨v,S',h1,h2⟩;exact⟨(v,S'),h1,h2⟩
 ·rintro⟨⟨v,S'⟩,h1,h2⟩;exact⟨v,S',h1,h2⟩
def slv(S:St)(esz:Nat)(x:Value)(lo hi:Option Value):Option Value:=match x with
 | .slice a n c=>match bound lo 0,bound hi n with
  | some l,some h=>if l<=h/\h<=c then (match a with
   | none=>if c=0 then some (.slice none 0 0) else none
   | some ⟨id,o,none⟩=>if Mi (S.get id).width esz l=true then some (.slice (some ⟨id,o+l * esz,none⟩) (h - l) (c - l)) else none
   | _=>none) else none
  | _,_=>none
 | _=>none
end
def qB(a:Tmp)(agg:Bool)(sz:Nat)(fe:Fi)(S:St):uU fe S (.cell a agg sz)=ldv S agg sz (fe a):=by
 simp only[uU,ldv,qz];first | done | ((repeat' split)<;>first | rfl | (simp_all;done) | grind)
end
class Fw(α:Type) where
 w:Nat
 e:α->List Value
 len:∀ a,(e a).length=w
 flat:∀ a,E5 (e a)=true
 pos:0 < w
structure Fr(b:Nat)(S S':St):Prop where
 next:S.next<=S'.next
 get:∀ id,id < b->S'.get id=S.get id
def Fr.refl(b:Nat)(S:St):Fr b S S:=⟨Af _,λ_ _=>rfl⟩
def Fr.trans{b:Nat}{S S' S'':St}(h:Fr b S S')(k:Fr b S' S''):Fr b S S'':=⟨An h.next k.next,λid hid=>(k.get id hid).trans (h.get id hid)⟩
def Ext.fr{S S':St}(h:Ext S S'){b:Nat}(hb:b<=S.next):Fr b S S':=⟨h.next,λid hid=>h.get id (Ar hid hb)⟩
def Fr.ext{S S':St}(h:Fr S.next S S'):Ext S S':=⟨h.next,h.get⟩
def Fr.alloc{b:Nat}(S:St)(k:FH)(hb:b<=S.next):Fr b S (S.alloc k):=(Ext.alloc S k).fr hb
def Fr.write{b:Nat}(S:St){id:Nat}(c:List Value)(t:TypeId)(z:Nat){an:List Nat}(hb:b<=id)(ha:∀ j∈an,b<=j):Fr b S (S.write id c t z an):=⟨iN,λj hj=>by
 rw[St.F5,if_neg dO,if_neg];intro hm;have:=ha j hm;omega⟩
def Fr.grow{b:Nat}(S:St){id:Nat}(c:List Value)(t:TypeId)(z:Nat){an:List Nat}(c2:List Value)(t2:TypeId)(hb:b<=id)(hS:b<=S.next):Fr b S (S.grow id c t z an c2 t2):=⟨by simp[St.grow],λj hj=>by
 unfold St.grow;rw[St.D6,if_neg aa0,St.Gd,if_neg dO]⟩
def G0(n:Int):Int:=IntKind.i64.wrap n
def Er{n:Int}(h : -9223372036854775808<=n)(h':n<=9223372036854775807):G0 n=n:=by
 unfold G0;rw[IntKind.wrap_i64];omega
def qC(a b:Int)(h:b≠0):KE .quo (.int .i64 a) (.int .i64 b)=some (.int .i64 (G0 (a.tdiv b))):=by simp[KE,Mh,G0,h]
def qD(a b:Int)(h:b≠0):KE .rem (.int .i64 a) (.int .i64 b)=some (.int .i64 (a.tmod b)):=by simp[KE,Mh,h]
def qE(a b:Int):KE .eql (.int .i64 a) (.int .i64 b)=some (.bool (decide (a=b))):=by
 simp only[KE,Mh,if_pos];congr 2
def qF(a b:Int):KE .neq (.int .i64 a) (.int .i64 b)=some (.bool (decide (a≠b))):=by
 simp only[KE,Mh,if_pos];congr 2;simp[bne,<- Bool.beq_eq_decide_eq]
section
variable {α:Type}[Fw α]
def He(l:List α):List Value:=l.flatMap Fw.e
@[simp] theorem AbS:He ([]:List α)=[]:=rfl
@[simp] theorem Lp (a:α) (l:List α):He (a::l)=Fw.e a++He l:=rfl
@[simp] theorem xW (l m:List α):He (l++m)=He l++He m:=by simp[He]
def Gg(l:List α):(He l).length=l.length * Fw.w α:=by
 induction l with
 | nil=>simp
 | cons a l ih=>simp[ih,Fw.len,Bd,Nat.add_comm]
def Ln(l:List α)(i:Nat):(He l).drop (i * Fw.w α)=He (l.drop i):=by
 induction i generalizing l with
 | zero=>simp
 | succ i ih=>
  cases l with
  | nil=>simp
  | cons a l=>
   simp only[Lp,Cu];rw[show (i+1) * Fw.w α=(Fw.e a).length+i * Fw.w α by rw[Fw.len,Bd];omega,BG,Bb dO];simp[ih]
def Kb(l:List α)(i:Nat):(He l).take (i * Fw.w α)=He (l.take i):=by
 induction i generalizing l with
 | zero=>simp
 | succ i ih=>
  cases l with
  | nil=>simp
  | cons a l=>
   simp only[Lp,BS];rw[show (i+1) * Fw.w α=(Fw.e a).length+i * Fw.w α by rw[Fw.len,Bd];omega,B4,Aj dO];simp[ih]
def UI(l:List α):E5 (He l)=true:=by
 induction l with
 | nil=>rfl
 | cons a l ih=>
  have h1:=Fw.flat a;unfold E5 at *;rw[Lp,DD,h1,ih];rfl
def lO(l:List α)(i:Nat)(hi:i < l.length)(off sz:Nat)(h:off+sz<=Fw.w α):((He l).drop (i * Fw.w α+off)).take sz=((Fw.e l[i]).drop off).take sz:=by
 rw[<- BV,Ln,A3 hi,Lp,BG,B4,Fw.len];have h0:((Fw.e l[i]).drop off).length=Fw.w α - off:=by simp[Fw.len]
 rw[h0,show sz - (Fw.w α - off)=0 by omega];simp
def Ng(S:St)(v:Value)(l:List α):Prop:=
 (v=.slice none 0 0/\l=[])\/∃ id o c cc t mi an,v=.slice (some ⟨id,o,none⟩) l.length c/\l.length<=c/\id < S.next/\S.get id=.cells cc t (Fw.w α) mi an/\o+l.length * Fw.w α<=cc.length/\(cc.drop o).take (l.length * Fw.w α)=He l
def Own(S:St)(b:Nat)(v:Value)(l:List α):Prop:=
 (v=.slice none 0 0/\l=[])\/∃ id t an,v=.slice (some ⟨id,0,none⟩) l.length l.length/\S.get id=.cells (He l) t (Fw.w α) true an/\b<=id/\id < S.next/\∀ j∈an,b<=j
def Ng.nil(S:St):Ng S (.slice none 0 0) ([]:List α):=.inl ⟨rfl,rfl⟩
def Own.nil(S:St)(b:Nat):Own S b (.slice none 0 0) ([]:List α):=.inl ⟨rfl,rfl⟩
def Own.rd{S:St}{b:Nat}{v:Value}{l:List α}(h:Own S b v l):Ng S v l:=by
 rcases h with h | ⟨id,t,an,rfl,h1,_,h2,_⟩
 ·exact .inl h
 ·exact .inr ⟨id,0,_,_,t,_,_,rfl,Af _,h2,h1,by rw[Gg];omega,by simp[<- Gg]⟩
def Ng.fr{S S':St}{b:Nat}{v:Value}{l:List α}(h:Ng S v l)(hf:Fr b S S')(hb:S.next<=b):Ng S' v l:=by
 rcases h with h | ⟨id,o,c,cc,t,mi,an,rfl,h1,h2,h3,h4⟩
 ·exact .inl h
 ·exact .inr ⟨id,o,c,cc,t,mi,an,rfl,h1,Ar h2 hf.next,by rw[hf.get id dO];exact h3,h4⟩
def Ng.mono{S S':St}{v:Value}{l:List α}(h:Ng S v l)(hf:Ext S S'):Ng S' v l:=h.fr (hf.fr (Af _)) (Af _)
def Own.mono{S S':St}{b:Nat}{v:Value}{l:List α}(h:Own S b v l)(hf:Ext S S'):Own S' b v l:=by
 rcases h with h | ⟨id,t,an,rfl,h1,h2,h3,h4⟩
 ·exact .inl h
 ·exact .inr ⟨id,t,an,rfl,by rw[hf.get id h3];exact h1,h2,Ar h3 hf.next,h4⟩
def Own.lP{S:St}{b b':Nat}{v:Value}{l:List α}(h:Own S b v l)(hb:b'<=b):Own S b' v l:=by
 rcases h with h | ⟨id,t,an,rfl,h1,h2,h3,h4⟩
 ·exact .inl h
 ·exact .inr ⟨id,t,an,rfl,h1,dO,h3,λj hj=>An hb (h4 j hj)⟩
def Ng.len{S:St}{v:Value}{l:List α}(h:Ng S v l):Adr v=some (.int .i64 l.length):=by
 rcases h with ⟨rfl,rfl⟩ | ⟨id,o,c,cc,t,mi,an,rfl,_⟩<;>rfl
def Ng.MH{S:St}{v:Value}{l:List α}(h:Ng S v l):MH v=some l.length:=by
 rcases h with ⟨rfl,rfl⟩ | ⟨id,o,c,cc,t,mi,an,rfl,_⟩<;>rfl
def Ng.elems{S:St}{v:Value}{l:List α}(h:Ng S v l):S.elems (Fw.w α) v=some (He l):=by
 rcases h with ⟨rfl,rfl⟩ | ⟨id,o,c,cc,t,mi,an,rfl,_,_,h1,h2,h3⟩
 ·rfl
 ·simp only[St.elems,qz,h1,FH.YC]
  rw[if_pos h2,h3]
def Ng.at{S:St}{v:Value}{l:List α}(h:Ng S v l)(k:IntKind)(i:Nat)(hi:i < l.length):∃ id o,iav (Fw.w α) v (.int k i)=some (.pointer (some ⟨id,o,none⟩))/\id < S.next/\∀ S':St,S'.get id=S.get id->∀ off sz,off+sz<=Fw.w α->(S'.get id).rd (o+off) sz=some (((Fw.e l[i]).drop off).take sz):=by
 rcases h with ⟨rfl,rfl⟩ | ⟨id,o,c,cc,t,mi,an,rfl,h0,h00,h1,h2,h3⟩
 ·exact absurd hi iN
 ·have hm:i * Fw.w α+Fw.w α<=l.length * Fw.w α:=by
   have:=AL (Fw.w α) (show i+1<=l.length by omega);rw[Bd] at this;omega
  refine⟨id,o+i * Fw.w α,?_,h00,λS' hS off sz hsz=>?_⟩
  ·simp only[iav]
   rw[if_pos ⟨dO,dO⟩];simp
  ·rw[hS,h1,FH.YC,if_pos dO,<- lO l i hi off sz hsz,<- h3,CJ,CK,Bl dO,BV,Bv]
def Ng.get{S:St}{v:Value}{l:List α}(h:Ng S v l)(k:IntKind)(i:Nat)(hi:i < l.length):∃ id o,iav (Fw.w α) v (.int k i)=some (.pointer (some ⟨id,o,none⟩))/\id < S.next/\(S.get id).rd o (Fw.w α)=some (Fw.e l[i]):=by
 obtain⟨id,o,h1,h2,h3⟩:=h.at k i hi;refine⟨id,o,h1,h2,?_⟩;have:=h3 S rfl 0 (Fw.w α) dO;rw[Dh,Bu,Aj (by rw[Fw.len];exact Af _)] at this;exact this
def Own.append{S:St}{b:Nat}{v x:Value}{l m:List α}(h:Own S b v l)(hx:Ng S x m)(hb:b<=S.next)(e:TypeId)(bytes:Nat)(hr:(l.length+m.length) * bytes<=reach)(hbytes:0 < bytes) :
  ∃ r S',G2 e (Fw.w α) bytes v x S=some (r,S')/\Own S' b r (l++m)/\Fr b S S':=by
 have hn:=hx.elems;have hl:=hx.MH;unfold G2;rw[hn,hl];simp only;by_cases hm:m.length=0
 ·rw[if_pos hm]
  obtain rfl:m=[]:=Ak hm;rcases h with ⟨rfl,rfl⟩ | ⟨id,t,an,rfl,h1,h2⟩
  ·exact⟨_,_,rfl,.inl ⟨rfl,rfl⟩,Fr.refl _ _⟩
  ·exact⟨_,_,rfl,.inr ⟨id,t,an,iN,ac0,h2⟩,Fr.refl _ _⟩
 ·rw[if_neg hm]
  have hc:(E5 (He m) && decide (0 < Fw.w α) && decide (0 < bytes))=true:=by
   simp[UI,Fw.pos,hbytes]
  rw[if_pos hc];rcases h with ⟨rfl,rfl⟩ | ⟨id,t,an,rfl,h1,h2,h3,h4⟩
  ·simp only
   rw[if_pos (by simpa using hr)];exact⟨_,_,rfl,.inr ⟨S.next,e,[],iN,by rw[Hn];simp,hb,iN,iN⟩,Fr.alloc S _ hb⟩
  ·simp only[h1]
   rw[if_pos ⟨trivial,trivial,by rw[Gg];omega⟩,if_pos hr];refine⟨_,_,rfl,.inr ⟨S.next,e,id::an,iN,?_,hb,by simp[St.grow],?_⟩,Fr.grow S _ _ _ _ _ h2 hb⟩
   ·unfold St.grow
    rw[St.D6,if_pos iN];simp
   ·intro j hj
    rcases Aq.1 hj with rfl | hj
    ·exact h2
    ·exact h4 j hj
def JL.grow{S:St}{id:Nat}{c:List Value}{t:TypeId}{z:Nat}{an:List Nat}(hg:S.get id=.cells c t z true an)(c2:List Value)(t2:TypeId):JL S (S.grow id c t z an c2 t2):=⟨by simp[St.grow],λj hj=>by
 unfold St.grow;rw[St.D6,if_neg aa0,St.Gd];split
 ·rename_i e;subst e;rw[hg];rfl
 ·rfl⟩
def Ng.part{S:St}{v:Value}{l:List α}(h:Ng S v l)(lo hi:Nat)(h1:lo<=hi)(h2:hi<=l.length){vl vh:Option Value}(hl:bound vl 0=some lo)(hh:bound vh l.length=some hi) :
  ∃ r,slv S (Fw.w α) v vl vh=some r/\Ng S r ((l.take hi).drop lo):=by
 rcases h with ⟨rfl,rfl⟩ | ⟨id,o,c,cc,t,mi,an,rfl,h0,h00,h3,h4,h5⟩
 ·obtain rfl:hi=0:=ad0
  obtain rfl:lo=0:=dO
  have hh':bound vh 0=some 0:=hh;exact⟨_,by simp only[slv,hl,hh'];rfl,.inl ⟨rfl,iN⟩⟩
 ·refine⟨_,by simp only[slv,hl,hh];rw[if_pos ⟨h1,dO⟩,h3,FH.YD,if_pos (Sp _ _)],.inr ⟨id,o+lo * Fw.w α,c - lo,cc,t,mi,an,?_,?_,h00,h3,?_,?_⟩⟩
  ·simp only[AI,As,Bl h2]
  ·simp only[AI,As];omega
  ·have hm:hi * Fw.w α<=l.length * Fw.w α:=AL _ h2
   have hm2:lo * Fw.w α<=hi * Fw.w α:=AL _ h1;simp only[AI,As,Bl h2,Nat.sub_mul];omega
  ·have hm:hi * Fw.w α<=l.length * Fw.w α:=AL _ h2
   have hm2:lo * Fw.w α<=hi * Fw.w α:=AL _ h1;simp only[AI,As,Bl h2,Nat.sub_mul];rw[<- Ln,<- Kb,<- h5,CK,CJ,BV,Bl hm]
end
instance:Fw Int:=⟨1,λn=>[.int .i64 n],λ_=>rfl,λ_=>rfl,iF⟩
section
variable {α:Type}[Fw α]
def Ya(l:List α)(i:Nat)(hi:i < l.length)(a:α):EO (He l) (i * Fw.w α) (Fw.e a)=He (l.set i a):=by
 unfold EO;rw[Fw.len,Kb,show i * Fw.w α+Fw.w α=(i+1) * Fw.w α by rw[Bd,CY],Ln,Cf,if_pos hi];simp
def Ng.one(S:St)(a:α)(t:TypeId):Ng (S.alloc (.cells (Fw.e a) t (Fw.w α) true [])) (.slice (some ⟨S.next,0,none⟩) 1 1) [a]:=
 .inr ⟨S.next,0,1,_,t,true,[],rfl,Af _,iN,by rw[Hn],by simp[Fw.len],by simp[<- Fw.len a]⟩
def Own.store{S:St}{b:Nat}{v:Value}{l:List α}(h:Own S b v l)(i:Nat)(hi:i < l.length)(a:α) :
  ∃ id o c t z an,iav (Fw.w α) v (.int .i64 i)=some (.pointer (some ⟨id,o,none⟩))/\stv (Fw.w α) (Fw.e a) o (S.get id)=some (c,t,z,an)/\Own (S.write id c t z an) b v (l.set i a)/\Fr b S (S.write id c t z an):=by
 rcases h with ⟨rfl,rfl⟩ | ⟨id,t,an,rfl,h1,h2,h3,h4⟩
 ·exact absurd hi iN
 ·have hm:i * Fw.w α+Fw.w α<=l.length * Fw.w α:=by
   have:=AL (Fw.w α) (show i+1<=l.length by omega);rw[Bd] at this;omega
  refine⟨id,0+i * Fw.w α,He (l.set i a),t,Fw.w α,an,?_,?_,?_,Fr.write S _ _ _ h2 h4⟩
  ·simp only[iav]
   rw[if_pos ⟨dO,dO⟩];simp
  ·rw[h1,UH,if_pos ⟨Fw.len a,by rw[Gg];omega⟩,A8,Ya l i hi a]
  ·exact .inr ⟨id,t,[],iN,by rw[St.F5,if_pos rfl],h2,by simpa using h3,iN⟩
end
section
open Go.WideShapes
structure KS(w:World)(φ:Es)(S:St):Prop where
 sim:E0 w.heap.size φ S w
 ws:WS S
 still:∀ id,(S.get id).wr=false
def St.zero:St:=⟨.leaf,0⟩
def XR(id:Nat):St.zero.get id=.gone:=rfl
def Es.zero(t:Option Nat):Es:=⟨λ_=>none,t⟩
def Es.LL{t:Option Nat}{id:Nat}{s:MK}(h:(Es.zero t) id=some s):False:=A0 s h.symm
def KS.Fy{w:World}{t:Option Nat}(ht:Oi w.heap.size (Es.zero t) w):KS w (Es.zero t) St.zero:=
 ⟨⟨(λ_ _ h=>(Es.LL h).elim),(λ_ _=>rfl),(λ_ _ _ _ _ _ _ h=>(Es.LL h).elim),(λ_ _ _ _ _ _ h=>(Es.LL h).elim),ht,(λ_ _ _ h=>(Es.LL h).elim)⟩,⟨(λ_ _=>rfl),(λ_ _ _ _ _ _ h=>nomatch h),(λ_ _ h=>nomatch h)⟩,λ_=>rfl⟩
def KS.zero(w:World)(hg:Z3=false:=by rfl):KS w (Es.zero none) St.zero:=KS.Fy λh=>by rw[hg] at h;cases h
def SS(w:World)(a:Option Addr):Prop:=∀ x,a=some x->x.spot=none/\∃ cs t fz,w.heap[x.block]? = some (.cells cs t fz)
def SU{P:Program}{w:World}{r:Go.Reach}{base:Nat}{t e:TypeId}{a:Option Addr}{n c:Nat}(hu:P.underlying t=some (.slice e))(h:Value.okWide P w r base t (.slice a n c)):SS w a:=by
 intro x hx;subst hx;simp only[Value.okWide,hu,Cell.okWide,Cell.ok,World.has] at h;obtain⟨_,_,_,hsp,row,cells,hsh,_⟩:=h;refine⟨hsp,?_⟩;unfold World.shape? at hsh;split at hsh
 ·rename_i cs t fz e
  exact⟨cs,t,fz,e⟩
 ·cases hsh
section
variable {α:Type}[Fw α]
def KS.row{w:World}{φ:Es}{S:St}(h:KS w φ S){a:Option Addr}{len cap:Nat}(zs:List α)(hflat:∀ z∈zs,EC (Fw.e z)=true)
  (hrow:(a=none/\len=0/\cap=0/\zs=[])\/∃ x,a=some x/\len<=cap/\zs.length=cap/\∀ (i:Nat) v,(He zs)[i]? = some v->w.cell? (x.add i)=some v)
  (hy:SS w a) (t:TypeId) :
  ∃ φ' S' v,KS w φ' S'/\Es.le φ φ'/\Ext S S'/\Rel φ' v (.slice a len cap)/\Ng S' v (zs.take len)/\Sc S'.next v:=by
 rcases hrow with ⟨rfl,rfl,rfl,rfl⟩ | ⟨x,rfl,hlc,hzl,hcell⟩
 ·exact⟨φ,S,.slice none 0 0,h,Es.le.refl _,Ext.refl _,.sliceNil,.inl ⟨rfl,rfl⟩,.sliceNil 0 0⟩
 ·obtain⟨hsp,cs,t',fz,hheap⟩:=hy x rfl
  obtain⟨b,o,sp⟩:=x;simp only at hsp hheap;subst hsp;have hbsz:b < w.heap.size:=(AR.1 hheap).1;have hlen:(He zs).length=cap * Fw.w α:=by rw[Gg,hzl]
  have hcell':∀ (i:Nat) v,(He zs)[i]? = some v->cs[o+i]? = some v:=λi v hv=>by
   have:=hcell i v hv;rw[Addr.add_lit] at this;unfold World.cell? at this;simpa [hheap] using this
  obtain⟨s,hsb,hs1,hs2,hs3⟩:∃ s:MK,s.b=b/\s.sz=Fw.w α/\s.base+s.ext<=cs.size/\((s.base=o/\s.ext=cap * Fw.w α)\/(cap=0/\s.ext=0)):=by
   by_cases hc:cap=0
   ·exact⟨⟨b,0,0,Fw.w α⟩,rfl,rfl,iN,.inr ⟨hc,rfl⟩⟩
   ·refine⟨⟨b,o,cap * Fw.w α,Fw.w α⟩,rfl,rfl,?_,.inl ⟨rfl,rfl⟩⟩
    have hpos:0 < cap * Fw.w α:=Nat.mul_pos dO Fw.pos;have hlt:cap * Fw.w α - 1 < (He zs).length:=dO
    have:=hcell' _ _ (Ah hlt);have:=(AR.1 this).1;show o+cap * Fw.w α<=cs.size
    omega
  have hf:=h.sim.fresh;have hle:=Es.Og φ S.next s hf;have hcl:((He zs).take (len * Fw.w α)).length=len * Fw.w α:=by
   have:len * Fw.w α<=cap * Fw.w α:=AL _ hlc;simp;omega
  have hle2:len * Fw.w α<=cap * Fw.w α:=AL _ hlc;have hfl:EC ((He zs).take (len * Fw.w α))=true:=by
   rw[Kb];simp only[EC,At];intro v hv;simp only[He,Du] at hv;obtain⟨z,hz,hv⟩:=hv;have:=hflat z (Bm hz);simp only[EC,At] at this;exact this v hv
  have hget:∀ j,(S.alloc (.cells ((He zs).take (len * Fw.w α)) t (Fw.w α) false [])).get j=if j=S.next then .cells ((He zs).take (len * Fw.w α)) t (Fw.w α) false [] else S.get j:=St.D6 S _
  have hstill:∀ id,((S.alloc (.cells ((He zs).take (len * Fw.w α)) t (Fw.w α) false [])).get id).wr=false:=by
   intro id;rw[hget];split
   ·rfl
   ·exact h.still id
  refine⟨φ.add S.next s,S.alloc (.cells ((He zs).take (len * Fw.w α)) t (Fw.w α) false []),.slice (some ⟨S.next,0,none⟩) len len,⟨⟨λid s' e=>?_,λid hi=>?_,λid s' c t1 sz m an e e2=>?_,(λid s' c t1 sz an e e2=>absurd (Lk e2) (by rw[hstill];simp)),h.sim.loops.1.of (Af _) hle.Fy (λ_ _ _ _ e=>e),λid s' o e e2=>absurd (So e2) (by rw[hstill];simp)⟩,h.ws.alloc (Hl.flat hfl) _ _ _ _,hstill⟩,hle,Ext.alloc _ _,?_,?_,.slice _ _ _ _ iN⟩
  ·by_cases hi:id=S.next
   ·subst hi
    rw[Es.add_same] at e;obtain rfl:=Aa e;exact⟨iN,dO⟩
   ·rw[Es.Ep _ _ hi] at e
    have:=h.sim.dom id s' e;exact⟨aa0,this.2⟩
  ·rw[hget,if_neg (by simp at hi;omega)]
   exact h.sim.gone id (by simp at hi;omega)
  ·rw[hget] at e2
   by_cases hi:id=S.next
   ·subst hi
    rw[if_pos rfl] at e2;rw[Es.add_same] at e;obtain rfl:=Aa e;obtain⟨rfl,rfl,rfl,rfl,rfl⟩:=FH.cells.inj e2;have hext:len * Fw.w α<=s.ext:=by
     rcases hs3 with h | h
     ·omega
     ·rw[h.1] at hle2;omega
    refine⟨hs1,by rw[hcl];exact hext,(λx=>nomatch x),cs,t',⟨fz,by rw[hsb];exact hheap,λx=>nomatch x⟩,hs2,λi v hv=>?_⟩;have hi:i < len * Fw.w α:=by have:=(Am.1 hv).1;omega
    have hv2:(He zs)[i]? = some v:=by rw[BZ] at hv;rwa [if_pos hi] at hv
    have hfv:GN v=true:=by simp only[EC,At] at hfl;exact hfl v (AF hv)
    refine⟨P1 hfv,v,?_,H4 hfv _⟩;rcases hs3 with h | h
    ·rw[h.1];exact hcell' i v hv2
    ·rw[h.1] at hle2;omega
   ·rw[if_neg hi] at e2
    rw[Es.Ep _ _ hi] at e;obtain⟨a1,a2,a3,cs',t2,a4,a5,a6⟩:=h.sim.IM id s' c t1 sz m an e e2;refine⟨a1,a2,a3,cs',t2,a4,a5,λi v hv=>?_⟩;obtain⟨b1,v',b2,b3⟩:=a6 i v hv;exact⟨b1,v',b2,b3.mono hle⟩
  ·rcases hs3 with h3 | h3
   ·have:=Rel.slice (φ:=φ.add S.next s) S.next 0 len len cap s (Es.add_same _ _ _) (Af _) hlc (by rw[hs1,h3.2];omega)
    simpa [hsb,h3.1] using this
   ·obtain rfl:cap=0:=h3.1
    obtain rfl:len=0:=dO
    have:=Rel.sliceEnd (φ:=φ.add S.next s) S.next 0 o s (Es.add_same _ _ _);simpa [hsb] using this
  ·have htl:(zs.take len).length=len:=aa0
   refine .inr ⟨S.next,0,len,_,t,false,[],by rw[htl],dO,iN,by rw[Hn],by rw[htl,hcl];omega,?_⟩;rw[htl,Bu,Aj dO,Kb]
end
def lI(zs:List Int):He zs=zs.map λn=>Value.int .i64 n:=by
 induction zs with
 | nil=>rfl
 | cons z zs ih=>rw[Lp,ih];rfl
def KS.ints{w:World}{φ:Es}{S:St}(h:KS w φ S){a:Option Addr}{len cap:Nat}{zs:List Int}
  (hrow:(a=none/\len=0/\cap=0/\zs=[])\/∃ x,a=some x/\len<=cap/\cap<=maxLen/\zs.length=cap/\(∀ i,i < zs.length->w.cell? (x.add i)=some (.int .i64 (zs.getD i 0)))/\∀ n∈zs,(Lit.int .i64 n).wf=true)
  (hy:SS w a) (t:TypeId) :
  ∃ φ' S' v,KS w φ' S'/\Es.le φ φ'/\Ext S S'/\Rel φ' v (.slice a len cap)/\Ng S' v (zs.take len)/\Sc S'.next v:=
 h.row zs (λ_ _=>rfl) (by
  rcases hrow with h | ⟨x,h1,h2,h3,h4,h5,h6⟩
  ·exact .inl h
  ·refine .inr ⟨x,h1,h2,h4,λi v hv=>?_⟩
   rw[lI,BI,Ab] at hv;obtain⟨n,hn,rfl⟩:=hv;obtain⟨hi,rfl⟩:=Am.1 hn;rw[h5 i hi];simp[AY,hi]) hy t
def wf_i64{n:Int}(h:(Lit.int .i64 n).wf=true) : -9223372036854775808<=n/\n<=9223372036854775807:=by
 simp[Lit.wf,IntKind.min,IntKind.max,IntKind.bits,IntKind.signed] at h;omega
def jk{k:Nat}{w:World}{a:Option Addr}{len cap:Nat}{zs:List Int}
  (hrow:(a=none/\len=0/\cap=0/\zs=[])\/∃ x,a=some x/\len<=cap/\cap<=maxLen/\zs.length=cap/\(∀ i,i < zs.length->w.cell? (x.add i)=some (.int .i64 (zs.getD i 0)))/\∀ n∈zs,(Lit.int .i64 n).wf=true) :
  ∀ n∈zs.take k,-9223372036854775808<=n/\n<=9223372036854775807:=by
 intro n hn;have hn:=Bm hn;rcases hrow with ⟨_,_,_,rfl⟩ | ⟨x,h1,h2,h3,h4,h5,h6⟩
 ·cases hn
 ·exact wf_i64 (h6 n hn)
def XC.law{P:Program}[Prim P](hm:P.follows .mixedOrders=true){f:FuncId}{args args':Array Value}{S:St}{φ:Es}{w:World}(h:XC P f args S λr S'=>Ext S S'/\r=.bool true)(hb:KS w φ S)
  (ha:Hl S.next args.toList) (hargs:FX φ args.toList args'.toList):Calls P f args' w λe w'=>e=.returned (.bool true)/\Below w.heap.size w w':=by
 have hA:Gb φ args args':=by
  have:=hargs.tc;simpa using this
 refine (h.calls hm hb.ws ha hA hb.sim (Af _)).mono ?_;rintro e w' ⟨φ',v,v',S',rfl,hr,hs,hk,_,rfl⟩;exact⟨by rw[Ko hr],hk.below hb.sim (Af _)⟩
end
def fy(B:Nat)(φ:Es)(S:St)(w:World)(K:Value->St->Prop):Ending->World->Prop:=λe w'=>∃ v S',Mv B φ S w v S' e w'/\WS S'/\S.next<=S'.next/\Sc S'.next v/\K v S'
def NG(P:Program)(B:Nat)(g:Go.Fn)(args:Array Value)(S:St)(K:Value->St->Prop):Prop:=
 WS S->Hl S.next args.toList->match g with
 | .func f=>(∃ fn,P.funcs[f]? = some fn/\fn.body.isSome=true/\(fn.name == "runtime.NumGoroutine")=false)/\∀ φ w args',Gb φ args args'->E0 B φ S w->B<=w.heap.size->Calls P f args' w (fy B φ S w K)
 | .yield id=>∀ φ w args',Gb φ args args'->E0 B φ S w->B<=w.heap.size->∀ s,φ id=some s->Yields P s.b args' w (fy B φ S w K)
 | _=>False
def fy.mono{B:Nat}{φ:Es}{S:St}{w:World}{K K':Value->St->Prop}(h:∀ v S',K v S'->K' v S'){e:Ending}{w':World}(k:fy B φ S w K e w'):fy B φ S w K' e w':=by
 obtain⟨v,S',h1,h2,h3,h4,h5⟩:=k;exact⟨v,S',h1,h2,h3,h4,h _ _ h5⟩
def Yields.mono{P:Program}{l:Nat}{args:Array Value}{w:World}{R R':Ending->World->Prop}(h:Yields P l args w R)(hr:∀ e w',R e w'->R' e w'):Yields P l args w R':=by
 obtain⟨f,tmps,a,b,h1,h2⟩:=h;exact⟨f,tmps,a,b,h1,RoundIn.mono (F:=Fence.wide) h2 hr⟩
def NG.mono{P:Program}{B:Nat}{g:Go.Fn}{args:Array Value}{S:St}{K K':Value->St->Prop}(h:NG P B g args S K)(hk:∀ v S',K v S'->K' v S'):NG P B g args S K':=λh1 h2=>by
 have:=h h1 h2;cases g with
 | func f=>exact⟨this.1,λφ w args' a b c=>(this.2 φ w args' a b c).mono λe w'=>fy.mono hk⟩
 | yield id=>exact λφ w args' a b c s d=>(this φ w args' a b c s d).mono λe w'=>fy.mono hk
 | _=>exact this
def NG.of{P:Program}[Prim P](hm:P.follows .mixedOrders=true){B:Nat}{g:Go.Fn}{args:Array Value}{S:St}{K:Value->St->Prop}(h:XG P g args S K):NG P B g args S K:=λh1 h2=>by
 obtain⟨n,v,S',h3,h4⟩:=h h1 h2;have hws:=Ip P n g args S v S' h3 h1 h2;have:=LO (P:=P) (B:=B) (Rv hm) (F:=XF P) (λf xf hf=>(UP hf).2) (LT:=XL P) (λL x h=>(Uz h).1) (base:=Prim.run P) (Prim.ok B) n g args S v S' h3;cases g with
 | func f=>exact⟨this.1,λφ w args' a b c=>(this.2 φ w args' a b c).mono λe w' hh=>⟨v,S',hh,hws.1,hws.2.1,hws.2.2,h4⟩⟩
 | yield id=>exact λφ w args' a b c s d=>(this φ w args' a b c s d).mono λe w' hh=>⟨v,S',hh,hws.1,hws.2.1,hws.2.2,h4⟩
 | _=>exact this
def AbM(v:Value)(S:St)(K:Value->St->Prop):Prop:=∃ id,v=.pointer (some ⟨id,0,none⟩)/\
 ((∃ s l c,S.get id=.obj (.mapIter none s l c)/\K (.tuple #[.bool false]) S)\/
 ∃ m cl seen es,S.get id=.obj (.mapIter (some m) cl seen cl)/\S.get m=.obj (.map es cl)/\(∀ e∈es,e.2.2 < cl)/\
  ((∀ e∈es,e.2.2∈seen)->K (.tuple #[.bool false]) S)/\∀ e∈es,e.2.2 ∉ seen->K (.tuple #[.bool true,e.1,e.2.1]) (S.put id (.mapIter (some m) cl (seen++[e.2.2]) cl)))
def NS(P:Program)(B:Nat)(o:Gk)(ρ:Operand->Value)(S:St)(K:Value->St->Prop):Prop:=
 match o with
 | .call f args=>NG P B (.func f) (args.map ρ) S K
 | .callv x args=>∃ g a b,ρ x=.func g a b/\NG P B g (a++args.map ρ++b) S K
 | .extra .nextMap [x]=>AbM (ρ x) S K
 | o=>∃ v S',EF o ρ S=some (v,S')/\K v S'
def NO(P:Program)(B:Nat):List EW->Fi->St->(Fi->St->Prop)->Prop
 | [],fe,S,Q=>Q fe S
 | o::r,fe,S,Q=>if OP fe o.guard=true then NS P B o.op (NN fe) S (λv S'=>NO P B r (Nz fe o.dst v) S' Q) else NO P B r (Nz fe o.dst undef) S Q
def NW(P:Program)[Prim P](B:Nat):Fh->Fi->St->(Ex->Fi->St->Prop)->Prop
 | .skip,fe,S,Q=>Q .normal fe S
 | .region ops,fe,S,Q=>NO P B ops fe S (Q .normal)
 | .draw d,fe,S,Q=>XW P (.draw d) fe S Q
 | .seq a b,fe,S,Q=>NW P B a fe S (λe fe' S'=>match e with
  | .normal=>NW P B b fe' S' Q
  | e=>Q e fe' S')
 | .cond c x y,fe,S,Q=>∃ b,NN fe c=.bool b/\(b=true->NW P B x fe S Q)/\(b=false->NW P B y fe S Q)
 | .block id c,fe,S,Q=>NW P B c fe S (λe fe' S'=>match e with
  | .exit id'=>if id'=id then Q .normal fe' S' else Q (.exit id') fe' S'
  | e=>Q e fe' S')
 | .loop c,fe,S,Q=>∃ (I:Fi->St->Prop) (μ:Fi->St->Nat),I fe S/\∀ fe S,I fe S->NW P B c fe S (λe fe' S'=>match e with
  | .normal=>I fe' S'/\μ fe' S' < μ fe S
  | e=>Q e fe' S')
 | .exit id,fe,S,Q=>Q (.exit id) fe S
 | .ret,fe,S,Q=>Q .ret fe S
 | .range x L,fe,S,Q=>∃ g a b,NN fe x=.func (.func g) a b/\∀ env:Array Value,Ki env=fe->L.n<=env.size->NG P B (.func g) (a++#[Value.func (.yield S.next) #[] #[]]++b) (S.alloc (.loop env L none)) (λ_ S2=>∃ env2 L2 pe,S2.get S.next=.loop env2 L2 pe/\Q (pe.getD .normal) fe (S2.put S.next .gone))
section
variable {P:Program}{B:Nat}
def G4.mem{φ:Es}{es:List (Value × Value × Nat)}{l:List MapEntry}(h:G4 φ es l){x:Value × Value × Nat}(he:x∈es):∃ e∈l,TW φ x e:=by
 obtain⟨i,hi,rfl⟩:=AN he;exact⟨l[i]'(by rw[<- h.1];exact hi),Ao _,h.2 i hi (by rw[<- h.1];exact hi)⟩
def qi(B:Nat)(φ:Es)(S:St)(w:World)(a:Act)(env:Env)(Q:Ex->Fi->St->Prop):Exit->Act->World->Prop:=λe a' w'=>
 ∃ ex env' S',IB B φ S w a (ex,env',S') e a' w'/\WS S'/\S.next<=S'.next/\SE S'.next env'/\env'.size=env.size/\Q ex (Ki env') S'
def qi.trans{φ φ1:Es}{S S1:St}{w w1:World}{a a1:Act}{env env1:Env}{Q:Ex->Fi->St->Prop}(hk:E6 B φ S w φ1 S1 w1)(hs1:E0 B φ1 S1 w1)(hd:∃ ex,a1.defers=ex++a.defers/\Marks w.heap.size w1 ex)(hn:S.next<=S1.next)(hz:env1.size=env.size){e:Exit}{a':Act}{w':World}(h:qi B φ1 S1 w1 a1 env1 Q e a' w'):qi B φ S w a env Q e a' w':=by
 obtain⟨ex,env',S',h1,h2,h3,h4,h5,h6⟩:=h;exact⟨ex,env',S',IB.trans hk hs1 hd h1,h2,An hn h3,h4,h5.trans hz,h6⟩
end
section
variable {P:Program}[Prim P]{B:Nat}
def NS.mono{o:Gk}{ρ:Operand->Value}{S:St}{K K':Value->St->Prop}(h:NS P B o ρ S K)(hk:∀ v S',K v S'->K' v S'):NS P B o ρ S K':=by
 unfold NS at *;split at h
 ·exact NG.mono h hk
 ·obtain⟨g,a,b,e,h⟩:=h
  exact⟨g,a,b,e,NG.mono h hk⟩
 ·obtain⟨id,e,h⟩:=h
  refine⟨id,e,?_⟩;rcases h with ⟨s,l,c,h1,h2⟩ | ⟨m,cl,seen,es,h1,h2,h3,h4,h5⟩
  ·exact .inl ⟨s,l,c,h1,hk _ _ h2⟩
  ·exact .inr ⟨m,cl,seen,es,h1,h2,h3,λa=>hk _ _ (h4 a),λe he hn=>hk _ _ (h5 e he hn)⟩
 ·obtain⟨v,S',h1,h2⟩:=h
  exact⟨v,S',h1,hk _ _ h2⟩
def XS.Ks{o:Gk}{ρ:Operand->Value}{S:St}{K K':Value->St->Prop}(h:XS P o ρ S K)(hk:∀ v S',K v S'->K' v S'):XS P o ρ S K':=by
 unfold XS at *;split at h
 ·exact XC.mono h hk
 ·obtain⟨g,a,b,e,h⟩:=h
  exact⟨g,a,b,e,XG.mono h hk⟩
 ·obtain⟨v,S',h1,h2⟩:=h
  exact⟨v,S',h1,hk _ _ h2⟩
def NW.mono:∀ (c:Fh) (fe:Fi) (S:St) {Q Q':Ex->Fi->St->Prop},NW P B c fe S Q->(∀ e fe S,Q e fe S->Q' e fe S)->NW P B c fe S Q':=by
 have hNO:∀ (l:List EW) (fe:Fi) (S:St) {Q Q':Fi->St->Prop},NO P B l fe S Q->(∀ fe S,Q fe S->Q' fe S)->NO P B l fe S Q':=by
  intro l
  induction l with
  | nil=>intro fe S Q Q' h hq;exact hq _ _ h
  | cons o l ih=>
   intro fe S Q Q' h hq;simp only[NO] at *;split at h
   ·rename_i hw
    rw[if_pos hw];exact NS.mono h λv S' hh=>ih _ _ hh hq
   ·rename_i hw
    rw[if_neg hw];exact ih _ _ h hq
 intro c
 induction c with
 | skip=>intro fe S Q Q' h hq;exact hq _ _ _ h
 | exit id=>intro fe S Q Q' h hq;exact hq _ _ _ h
 | ret=>intro fe S Q Q' h hq;exact hq _ _ _ h
 | region ops=>intro fe S Q Q' h hq;exact hNO _ _ _ h λfe S=>hq _ _ _
 | draw d=>intro fe S Q Q' h hq;exact XW.mono hq (c:=.draw d) h
 | seq a b iha ihb=>
  intro fe S Q Q' h hq;refine iha _ _ h λe fe' S' hh=>?_
  cases e with
  | normal=>exact ihb _ _ hh hq
  | exit id=>exact hq _ _ _ hh
  | ret=>exact hq _ _ _ hh
 | cond c x y ihx ihy=>
  intro fe S Q Q' h hq;obtain⟨b,e,h1,h2⟩:=h;exact⟨b,e,λhb=>ihx _ _ (h1 hb) hq,λhb=>ihy _ _ (h2 hb) hq⟩
 | block id c ih=>
  intro fe S Q Q' h hq;refine ih _ _ h λe fe' S' hh=>?_
  cases e with
  | normal=>exact hq _ _ _ hh
  | ret=>exact hq _ _ _ hh
  | exit id'=>
   simp only at hh |-;split at hh
   ·rename_i e;rw[if_pos e];exact hq _ _ _ hh
   ·rename_i e;rw[if_neg e];exact hq _ _ _ hh
 | loop c ih=>
  intro fe S Q Q' h hq;obtain⟨I,μ,hI,hr⟩:=h;refine⟨I,μ,hI,λfe S hh=>ih _ _ (hr fe S hh) λe fe' S' hk=>?_⟩;cases e with
  | normal=>exact hk
  | exit id=>exact hq _ _ _ hk
  | ret=>exact hq _ _ _ hk
 | range x L=>
  intro fe S Q Q' h hq;obtain⟨g,a,b,e,h⟩:=h;refine⟨g,a,b,e,λenv h1 h2=>NG.mono (h env h1 h2) ?_⟩;rintro _ S2 ⟨env2,L2,pe,q1,q2⟩;exact⟨env2,L2,pe,q1,hq _ _ _ q2⟩
end
section
variable {B:Nat}{φ φ2:Es}{S S2:St}{w w2:World}
end
abbrev O1:=Nat->Nat
structure TY(col:O1)(c:Nat)(S:St)(col':O1)(S':St):Prop where
 next:S.next<=S'.next
 hcol:∀ id,id < S.next->col' id=col id
 get:∀ id,id < S.next->col id≠c->S'.get id=S.get id
def TY.refl(col:O1)(c:Nat)(S:St):TY col c S col S:=⟨Af _,λ_ _=>rfl,λ_ _ _=>rfl⟩
def TY.eV{col:O1}{c:Nat}{S S':St}(h:Ext S S'):TY col c S col S':=⟨h.next,λ_ _=>rfl,λid hid _=>h.get id hid⟩
def TY.trans{col col' col'':O1}{c:Nat}{S S' S'':St}(h:TY col c S col' S')(k:TY col' c S' col'' S''):TY col c S col'' S'':=
 ⟨An h.next k.next,λid hid=>(k.hcol id (Ar hid h.next)).trans (h.hcol id hid),λid hid hc=>(k.get id (Ar hid h.next) (by rw[h.hcol id hid];exact hc)).trans (h.get id hid hc)⟩
def Mj(col:O1)(S:St)(c:Nat):O1:=λid=>if id < S.next then col id else c
def PY(col:O1)(S:St)(c:Nat){id:Nat}(h:S.next<=id):Mj col S c id=c:=by unfold Mj;rw[if_neg dO]
def PZ(col:O1)(S:St)(c:Nat){id:Nat}(h:id < S.next):Mj col S c id=col id:=by unfold Mj;rw[if_pos h]
def TY.Mj{col:O1}{c d:Nat}{S S':St}(h:TY col c S col S'):TY col c S (Go.Proofs.YtkkpchcniicimaaGreat.Mj col S d) S':=
 ⟨h.next,λid hid=>PZ _ _ _ hid,h.get⟩
structure pX(col:O1)(S0 S:St):Prop where
 hcol:∀ id,id < S0.next->col id=0
 ext:Ext S0 S
def Sq(S:St)(col:O1)(c:Nat)(id:Nat)(cs:List Value)(t:TypeId)(z:Nat):Prop:=S.get id=.cells cs t z true []/\col id=c/\id < S.next
def Sq.D8{S S':St}{col col':O1}{c c' id:Nat}{cs:List Value}{t:TypeId}{z:Nat}(h:Sq S col c id cs t z)(k:TY col c' S col' S')(hc:c≠c'):Sq S' col' c id cs t z:=
 ⟨by rw[k.get id h.2.2 (by rw[h.2.1];exact hc)];exact h.1,(k.hcol id h.2.2).trans h.2.1,Ar h.2.2 k.next⟩
def Sq.mono{S S':St}{col:O1}{c id:Nat}{cs:List Value}{t:TypeId}{z:Nat}(h:Sq S col c id cs t z)(k:Ext S S'):Sq S' col c id cs t z:=
 ⟨by rw[k.get id h.2.2];exact h.1,h.2.1,Ar h.2.2 k.next⟩
def Sq.alloc(S:St)(col:O1)(c c':Nat)(cs:List Value)(t:TypeId)(z:Nat):Sq (S.alloc (.cells cs t z true [])) (Mj col S c) c S.next cs t z/\TY col c' S (Mj col S c) (S.alloc (.cells cs t z true [])):=
 ⟨⟨Hn _ _,PY _ _ _ (Af _),iN⟩,(TY.eV (Ext.alloc _ _)).Mj⟩
def Sq.write{S:St}{col:O1}{c id:Nat}{cs:List Value}{t:TypeId}{z:Nat}(h:Sq S col c id cs t z)(cs':List Value):Sq (S.write id cs' t z []) col c id cs' t z/\TY col c S col (S.write id cs' t z []):=by
 refine⟨⟨Sr _ _ _ _ _ _,h.2.1,by simpa using h.2.2⟩,⟨iN,λ_ _=>rfl,λj _ hc=>?_⟩⟩;rw[Wb _ _ _ _ _ _ (λe=>hc (by rw[e];exact h.2.1))]
section
variable {α:Type}[Fw α]
def Mw(S:St)(col:O1)(c:Nat)(v:Value)(l:List α):Prop:=
 (v=.slice none 0 0/\l=[])\/∃ id t an,v=.slice (some ⟨id,0,none⟩) l.length l.length/\S.get id=.cells (He l) t (Fw.w α) true an/\col id=c/\id < S.next/\∀ j∈an,col j=c/\j < S.next
def Mw.nil(S:St)(col:O1)(c:Nat):Mw S col c (.slice none 0 0) ([]:List α):=.inl ⟨rfl,rfl⟩
def Mw.rd{S:St}{col:O1}{c:Nat}{v:Value}{l:List α}(h:Mw S col c v l):Ng S v l:=by
 rcases h with h | ⟨id,t,an,rfl,h1,_,h2,_⟩
 ·exact .inl h
 ·exact .inr ⟨id,0,_,_,t,_,_,rfl,Af _,h2,h1,by rw[Gg];omega,by simp[<- Gg]⟩
def Mw.D8{S S':St}{col col':O1}{c c':Nat}{v:Value}{l:List α}(h:Mw S col c v l)(k:TY col c' S col' S')(hc:c≠c'):Mw S' col' c v l:=by
 rcases h with h | ⟨id,t,an,rfl,h1,h2,h3,h4⟩
 ·exact .inl h
 ·exact .inr ⟨id,t,an,rfl,by rw[k.get id h3 (by rw[h2];exact hc)];exact h1,(k.hcol id h3).trans h2,Ar h3 k.next,λj hj=>⟨(k.hcol j (h4 j hj).2).trans (h4 j hj).1,Ar (h4 j hj).2 k.next⟩⟩
def Mw.mono{S S':St}{col:O1}{c:Nat}{v:Value}{l:List α}(h:Mw S col c v l)(k:Ext S S'):Mw S' col c v l:=by
 rcases h with h | ⟨id,t,an,rfl,h1,h2,h3,h4⟩
 ·exact .inl h
 ·exact .inr ⟨id,t,an,rfl,by rw[k.get id h3];exact h1,h2,Ar h3 k.next,λj hj=>⟨(h4 j hj).1,Ar (h4 j hj).2 k.next⟩⟩
def Mw.own{S:St}{col:O1}{c:Nat}{v:Value}{l:List α}{b:Nat}(h:Mw S col c v l)(hb:∀ id,id < b->col id≠c):Own S b v l:=by
 rcases h with h | ⟨id,t,an,rfl,h1,h2,h3,h4⟩
 ·exact .inl h
 ·exact .inr ⟨id,t,an,rfl,h1,CO λhlt=>hb id hlt h2,h3,λj hj=>CO λhlt=>hb j hlt (h4 j hj).1⟩
def Mw.store{S:St}{col:O1}{c:Nat}{v:Value}{l:List α}(h:Mw S col c v l)(i:Nat)(hi:i < l.length)(a:α) :
  ∃ id o cs t z an,iav (Fw.w α) v (.int .i64 i)=some (.pointer (some ⟨id,o,none⟩))/\stv (Fw.w α) (Fw.e a) o (S.get id)=some (cs,t,z,an)/\Mw (S.write id cs t z an) col c v (l.set i a)/\TY col c S col (S.write id cs t z an)/\id < S.next:=by
 rcases h with ⟨rfl,rfl⟩ | ⟨id,t,an,rfl,h1,h2,h3,h4⟩
 ·exact absurd hi iN
 ·have hm:i * Fw.w α+Fw.w α<=l.length * Fw.w α:=by
   have:=AL (Fw.w α) (show i+1<=l.length by omega);rw[Bd] at this;omega
  refine⟨id,0+i * Fw.w α,He (l.set i a),t,Fw.w α,an,?_,?_,?_,⟨iN,λ_ _=>rfl,λj _ hc=>?_⟩,h3⟩
  ·simp only[iav]
   rw[if_pos ⟨dO,dO⟩];simp
  ·rw[h1,UH,if_pos ⟨Fw.len a,by rw[Gg];omega⟩,A8,Ya l i hi a]
  ·exact .inr ⟨id,t,[],iN,by rw[St.F5,if_pos rfl],h2,by simpa using h3,iN⟩
  ·rw[St.F5,if_neg (λe=>hc (by rw[e];exact h2)),if_neg (λe=>hc (h4 j e).1)]
def Mw.append{S:St}{col:O1}{c:Nat}{v x:Value}{l m:List α}(h:Mw S col c v l)(hx:Ng S x m)(e:TypeId)(bytes:Nat)(hr:(l.length+m.length) * bytes<=reach)(hbytes:0 < bytes) :
  ∃ r S' col',G2 e (Fw.w α) bytes v x S=some (r,S')/\Mw S' col' c r (l++m)/\TY col c S col' S'/\JL S S':=by
 have hn:=hx.elems;have hl:=hx.MH;unfold G2;rw[hn,hl];simp only;by_cases hm:m.length=0
 ·rw[if_pos hm]
  obtain rfl:m=[]:=Ak hm;rcases h with ⟨rfl,rfl⟩ | ⟨id,t,an,rfl,h1,h2⟩
  ·exact⟨_,_,col,rfl,.inl ⟨rfl,rfl⟩,TY.refl _ _ _,JL.refl _⟩
  ·exact⟨_,_,col,rfl,.inr ⟨id,t,an,iN,ac0,h2⟩,TY.refl _ _ _,JL.refl _⟩
 ·rw[if_neg hm]
  have hc:(E5 (He m) && decide (0 < Fw.w α) && decide (0 < bytes))=true:=by
   simp[UI,Fw.pos,hbytes]
  rw[if_pos hc];rcases h with ⟨rfl,rfl⟩ | ⟨id,t,an,rfl,h1,h2,h3,h4⟩
  ·simp only
   rw[if_pos (by simpa using hr)];exact⟨_,_,Mj col S c,rfl,.inr ⟨S.next,e,[],iN,by rw[Hn];simp,PY _ _ _ (Af _),iN,iN⟩,(TY.eV (Ext.alloc S _)).Mj,(Ext.alloc _ _).PB⟩
  ·simp only[h1]
   rw[if_pos ⟨trivial,trivial,by rw[Gg];omega⟩,if_pos hr];refine⟨_,_,Mj col S c,rfl,.inr ⟨S.next,e,id::an,iN,?_,PY _ _ _ (Af _),by simp[St.grow],?_⟩,⟨by simp[St.grow],λj hj=>PZ _ _ _ hj,λj hj hc=>?_⟩,JL.grow h1 _ _⟩
   ·unfold St.grow
    rw[St.D6,if_pos iN];simp
   ·intro j hj
    have hj':col j=c/\j < S.next:=by
     rcases Aq.1 hj with rfl | hj
     ·exact⟨h2,h3⟩
     ·exact h4 j hj
    exact⟨by rw[PZ _ _ _ hj'.2];exact hj'.1,by have:=hj'.2;simp[St.grow];omega⟩
   ·unfold St.grow
    rw[St.D6,if_neg aa0,St.Gd,if_neg (λe=>hc (by rw[e];exact h2))]
end
structure kQ(col:O1)(C:Nat->Prop)(S:St)(col':O1)(S':St):Prop where
 next:S.next<=S'.next
 hcol:∀ id,id < S.next->col' id=col id
 get:∀ id,id < S.next->¬ C (col id)->S'.get id=S.get id
def kQ.eV{col:O1}{C:Nat->Prop}{S S':St}(h:Ext S S'):kQ col C S col S':=⟨h.next,λ_ _=>rfl,λid hid _=>h.get id hid⟩
def kQ.trans{col col' col'':O1}{C:Nat->Prop}{S S' S'':St}(h:kQ col C S col' S')(k:kQ col' C S' col'' S''):kQ col C S col'' S'':=
 ⟨An h.next k.next,λid hid=>(k.hcol id (Ar hid h.next)).trans (h.hcol id hid),λid hid hc=>(k.get id (Ar hid h.next) (by rw[h.hcol id hid];exact hc)).trans (h.get id hid hc)⟩
def pX.mono{col:O1}{S0 S S':St}(h:pX col S0 S)(k:Ext S S'):pX col S0 S':=⟨h.hcol,h.ext.trans k⟩
section
variable {P:Program}[Prim P]{ρ:Operand->Value}{S:St}{K:Value->St->Prop}
end
end Go.Proofs.YtkkpchcniicimaaGreat

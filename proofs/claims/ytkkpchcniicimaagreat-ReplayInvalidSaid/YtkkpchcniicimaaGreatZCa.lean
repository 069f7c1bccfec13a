/- The walk's steps as lemmas whose last premise is shown by a block of its own. The simulation as plain functions: disk, machine, node, network, world. No program in sight. The simulation la plain funct -/
import Derived.Test.YtkkpchcniicimaaGreatZVb
import Derived.Test.YtkkpchcniicimaaGreatProg
set_option linter.all false
namespace Go.Proofs.YtkkpchcniicimaaGreat
open Go Go.RowKit
structure Bx(A:Prop):Prop where
 o:A
section
variable {G A B A' B' C C' D L M L1 L2 L3 L4 L5 L6 L7 L8 L9:Prop}
def Zs(k:A)(h:Bx A->G:=by
 intro gk;first
 | (((with_reducible refine Ih ?_ ?_ ?_ ?_);(omega);(omega);(rfl)))
 | (((with_reducible refine HK ?_ ?_ ?_);(omega);(decide)))
 | (((with_reducible refine PE ?_ ?_ ?_ ?_);(omega);(omega);(rfl)))
 | (((with_reducible refine HZ ?_ ?_ ?_);(omega);(omega)))
 | (((with_reducible refine vM ?_ ?_ ?_ ?_);(omega);(omega);(rfl)))
 | (((with_reducible refine Wx ?_ ?_ ?_ ?_);(omega);(omega);(rfl)))
 | (((with_reducible refine lU ?_ ?_ ?_ ?_ ?_);(omega);(omega);(omega);(rfl)))
 | (((with_reducible refine vO ?_ ?_);(rfl)))
 | (with_reducible refine vP ?_)
 | (((with_reducible refine Kx ?_ ?_ ?_);(omega);(omega)))
 | (((with_reducible refine vQ ?_ ?_);(first | assumption | omega)))
 | (((with_reducible refine vR ?_ ?_);(first | assumption | omega)))
 | fail
 exact gk.o):G:=h ⟨k⟩
def J2(l1:L1)(l2:L2):L1/\L2:=⟨l1,l2⟩
def J3(l1:L1)(l2:L2)(l3:L3):L1/\L2/\L3:=⟨l1,l2,l3⟩
def J4(l1:L1)(l2:L2)(l3:L3)(l4:L4):L1/\L2/\L3/\L4:=⟨l1,l2,l3,l4⟩
def J5(l1:L1)(l2:L2)(l3:L3)(l4:L4)(l5:L5):L1/\L2/\L3/\L4/\L5:=⟨l1,l2,l3,l4,l5⟩
def J6(l1:L1)(l2:L2)(l3:L3)(l4:L4)(l5:L5)(l6:L6):L1/\L2/\L3/\L4/\L5/\L6:=⟨l1,l2,l3,l4,l5,l6⟩
def J7(l1:L1)(l2:L2)(l3:L3)(l4:L4)(l5:L5)(l6:L6)(l7:L7):L1/\L2/\L3/\L4/\L5/\L6/\L7:=⟨l1,l2,l3,l4,l5,l6,l7⟩
def J8(l1:L1)(l2:L2)(l3:L3)(l4:L4)(l5:L5)(l6:L6)(l7:L7)(l8:L8):L1/\L2/\L3/\L4/\L5/\L6/\L7/\L8:=⟨l1,l2,l3,l4,l5,l6,l7,l8⟩
def J9(l1:L1)(l2:L2)(l3:L3)(l4:L4)(l5:L5)(l6:L6)(l7:L7)(l8:L8)(l9:L9):L1/\L2/\L3/\L4/\L5/\L6/\L7/\L8/\L9:=⟨l1,l2,l3,l4,l5,l6,l7,l8,l9⟩
def Zl(l:L)(k:A)(h:L->Bx A->G/\(A->A):=by
 intro l gk;refine⟨?_,?_⟩
 focus ((first | simp +decide only[↓Em,wA,Fe,Ev,G9,Nat.reduceEqDiff,↓reduceIte,Nat.reduceAdd,Nat.reduceLeDiff,Nat.reduceLT,reduceCtorEq,Nat.reduceMul,D0,rep,↓K9,Int.reduceToNat,Int.reduceEq,Int.reduceNe,Int.reduceLT,Int.reduceLE,Int.reduceGT,Int.reduceGE,PC,m9,Nat.reduceSub,l] | refine Zs ?_ | ((with_reducible apply LZ);(simp +decide only[↓Em,wA,Fe,Ev,G9,Nat.reduceEqDiff,↓reduceIte,Nat.reduceAdd,Nat.reduceLeDiff,Nat.reduceLT,reduceCtorEq,Nat.reduceMul,D0,rep,↓K9,Int.reduceToNat,Int.reduceEq,Int.reduceNe,Int.reduceLT,Int.reduceLE,Int.reduceGT,Int.reduceGE,PC,m9,Nat.reduceSub,l];exact rfl);omega;omega) | fail);(repeat (first | simp +decide only[↓Em,wA,Fe,Ev,G9,Nat.reduceEqDiff,↓reduceIte,Nat.reduceAdd,Nat.reduceLeDiff,Nat.reduceLT,reduceCtorEq,Nat.reduceMul,D0,rep,↓K9,Int.reduceToNat,Int.reduceEq,Int.reduceNe,Int.reduceLT,Int.reduceLE,Int.reduceGT,Int.reduceGE,PC,m9,Nat.reduceSub,l] | refine Zs ?_ | ((with_reducible apply LZ);(simp +decide only[↓Em,wA,Fe,Ev,G9,Nat.reduceEqDiff,↓reduceIte,Nat.reduceAdd,Nat.reduceLeDiff,Nat.reduceLT,reduceCtorEq,Nat.reduceMul,D0,rep,↓K9,Int.reduceToNat,Int.reduceEq,Int.reduceNe,Int.reduceLT,Int.reduceLE,Int.reduceGT,Int.reduceGE,PC,m9,Nat.reduceSub,l];exact rfl);omega;omega) | fail));all_goals exact gk.o)
 first | exact (id:True->True) | exact id):G:=(h l ⟨k⟩).1
def Zy0 (k : A) (h : Bx A → G := by exact fun k => Zl trivial k.o) : G := h ⟨k⟩
def Zd(l:L)(m:M)(k:A)(h:L->M->Bx A->G/\(A->A):=by
 intro l m gk;refine⟨?_,?_⟩
 focus ((first | simp +decide only[wA,↓m,↓Em,Fe,Ev,G9,Nat.reduceEqDiff,↓reduceIte,Nat.reduceAdd,Nat.reduceLeDiff,Nat.reduceLT,reduceCtorEq,Nat.reduceMul,D0,rep,↓K9,Int.reduceToNat,Int.reduceEq,Int.reduceNe,Int.reduceLT,Int.reduceLE,Int.reduceGT,Int.reduceGE,PC,m9,Nat.reduceSub,l] | refine Zs ?_ | ((with_reducible apply LZ);(simp +decide only[wA,↓m,↓Em,Fe,Ev,G9,Nat.reduceEqDiff,↓reduceIte,Nat.reduceAdd,Nat.reduceLeDiff,Nat.reduceLT,reduceCtorEq,Nat.reduceMul,D0,rep,↓K9,Int.reduceToNat,Int.reduceEq,Int.reduceNe,Int.reduceLT,Int.reduceLE,Int.reduceGT,Int.reduceGE,PC,m9,Nat.reduceSub,l];exact rfl);omega;omega) | fail);(repeat (first | simp +decide only[wA,↓m,↓Em,Fe,Ev,G9,Nat.reduceEqDiff,↓reduceIte,Nat.reduceAdd,Nat.reduceLeDiff,Nat.reduceLT,reduceCtorEq,Nat.reduceMul,D0,rep,↓K9,Int.reduceToNat,Int.reduceEq,Int.reduceNe,Int.reduceLT,Int.reduceLE,Int.reduceGT,Int.reduceGE,PC,m9,Nat.reduceSub,l] | refine Zs ?_ | ((with_reducible apply LZ);(simp +decide only[wA,↓m,↓Em,Fe,Ev,G9,Nat.reduceEqDiff,↓reduceIte,Nat.reduceAdd,Nat.reduceLeDiff,Nat.reduceLT,reduceCtorEq,Nat.reduceMul,D0,rep,↓K9,Int.reduceToNat,Int.reduceEq,Int.reduceNe,Int.reduceLT,Int.reduceLE,Int.reduceGT,Int.reduceGE,PC,m9,Nat.reduceSub,l];exact rfl);omega;omega) | fail));all_goals exact gk.o)
 first | exact (id:True->True) | exact id):G:=(h l m ⟨k⟩).1
def Zc(l:L)(k:A)(h:L->Bx A->G/\(A->A):=by
 intro l gk;refine⟨?_,?_⟩
 focus ((first | simp +decide only[wA,↓wsC,Fe,Ev,G9,Nat.reduceEqDiff,↓reduceIte,Nat.reduceAdd,Nat.reduceLeDiff,Nat.reduceLT,reduceCtorEq,Nat.reduceMul,D0,rep,↓K9,Int.reduceToNat,Int.reduceEq,Int.reduceNe,Int.reduceLT,Int.reduceLE,Int.reduceGT,Int.reduceGE,PC,m9,Nat.reduceSub,l] | refine Zs ?_ | ((with_reducible apply LZ);(simp +decide only[wA,↓wsC,Fe,Ev,G9,Nat.reduceEqDiff,↓reduceIte,Nat.reduceAdd,Nat.reduceLeDiff,Nat.reduceLT,reduceCtorEq,Nat.reduceMul,D0,rep,↓K9,Int.reduceToNat,Int.reduceEq,Int.reduceNe,Int.reduceLT,Int.reduceLE,Int.reduceGT,Int.reduceGE,PC,m9,Nat.reduceSub,l];exact rfl);omega;omega) | fail);(repeat (first | simp +decide only[wA,↓wsC,Fe,Ev,G9,Nat.reduceEqDiff,↓reduceIte,Nat.reduceAdd,Nat.reduceLeDiff,Nat.reduceLT,reduceCtorEq,Nat.reduceMul,D0,rep,↓K9,Int.reduceToNat,Int.reduceEq,Int.reduceNe,Int.reduceLT,Int.reduceLE,Int.reduceGT,Int.reduceGE,PC,m9,Nat.reduceSub,l] | refine Zs ?_ | ((with_reducible apply LZ);(simp +decide only[wA,↓wsC,Fe,Ev,G9,Nat.reduceEqDiff,↓reduceIte,Nat.reduceAdd,Nat.reduceLeDiff,Nat.reduceLT,reduceCtorEq,Nat.reduceMul,D0,rep,↓K9,Int.reduceToNat,Int.reduceEq,Int.reduceNe,Int.reduceLT,Int.reduceLE,Int.reduceGT,Int.reduceGE,PC,m9,Nat.reduceSub,l];exact rfl);omega;omega) | fail));all_goals exact gk.o)
 first | exact (id:True->True) | exact id):G:=(h l ⟨k⟩).1
def Zb(k:C->B->A)(k':C'->B'->A')(h:Bx (C->B->A)->Bx (C'->B'->A')->G:=by
 intro g1 g2;first
 | ((with_reducible refine fZ (λgh gd=>?_) (λgh gd=>?_));((try rw[gd]);exact g1.o gh gd);((try rw[gd]);exact g2.o gh gd))
 | ((with_reducible refine qL (λgh gd=>?_) (λgh gd=>?_));((try rw[gd]);exact g1.o gh gd);((try rw[gd]);exact g2.o gh gd))
 | ((with_reducible refine qM (λgh gd=>?_) (λgh gd=>?_));((try rw[gd]);exact g1.o gh gd);((try rw[gd]);exact g2.o gh gd))
 | fail):G:=h ⟨k⟩ ⟨k'⟩
def Zt(k:B->A)(k':B'->A')(h:Bx (B->A)->Bx (B'->A')->G:=by
 intro g1 g2;first
 | ((with_reducible refine gg (λgd=>?_) (λgd=>?_));((try rw[gd]);exact g1.o gd);((try rw[gd]);exact g2.o gd))
 | ((with_reducible refine jq (λgd=>?_) (λgd=>?_));((try rw[gd]);exact g1.o gd);((try rw[gd]);exact g2.o gd))
 | ((with_reducible refine jr (λgd=>?_) (λgd=>?_));((try rw[gd]);exact g1.o gd);((try rw[gd]);exact g2.o gd))
 | fail):G:=h ⟨k⟩ ⟨k'⟩
def ZE{α:Type}[DZ α](l:L)(x:List α)(k:A)(h:L->∀ y,y=x->Bx A->G:=by
 intro l y hy gk
 with_reducible apply GC.enc y
 exact rfl
 (simp +decide only[↓Em,wA,Fe,Ev,G9,Nat.reduceEqDiff,↓reduceIte,Nat.reduceAdd,Nat.reduceLeDiff,Nat.reduceLT,reduceCtorEq,Nat.reduceMul,D0,rep];exact rfl)
 exact rfl;exact rfl
 (rw[hy];exact rfl)
 (rw[hy];(try simp only[l,fG]);exact rfl)
 (rw[hy];exact gk.o)):G:=h l x rfl ⟨k⟩
def zr(α:Type)[DZ α]:=J5 (@qO α _) (@lX α _) (@vS α _) (@vU α _) (@lY α _)
def ZR(q:B/\C/\L)(k:A)(h:B/\C/\L->Bx A->G:=by
 intro q gk;first
 | ((with_reducible apply q.1);(first | (apply App.rd;assumption) | assumption);(exact gk.o))
 | ((with_reducible apply q.2.1);(first | (apply App.rd;assumption) | assumption);(omega);(omega);(rfl);(exact gk.o))
 | fail):G:=h q ⟨k⟩
def ZQ{X:VV->Prop}{Y:VV->Prop}(q:B/\C/\L/\M/\D)(k:∀ r,X r->Y r)(h:B/\C/\L/\M/\D->Bx (∀ r,X r->Y r)->G:=by
 intro q gk;first
 | ((with_reducible apply q.2.2.1);(first | (apply App.rd;assumption) | assumption);(omega);(omega);(rfl);(exact gk.o))
 | ((with_reducible apply q.2.2.2.1);(first | (apply App.rd;assumption) | assumption);(omega);(omega);(rfl);(exact gk.o))
 | ((with_reducible apply q.2.2.2.2);(first | (apply App.rd;assumption) | assumption);(omega);(omega);(omega);(rfl);(exact gk.o))
 | fail):G:=h q ⟨k⟩
def zp(α:Type)[DZ α](b:Nat):=J3 (λσ K e z y t x=>@D5.AdX α _ σ K e z y t x b) (λσ K e z y s x=>@D5.AbV α _ σ K e z y s x b) (λσ K e z y s x=>@D5.app σ α _ K e z y s x b)
def ZP{X Y U V W:Nat->Nat->Nat->(Nat->Bool)->Prop}(q:B/\C/\D)(k:∀ t n o l,X t n o l->Y t n o l->U t n o l->V t n o l->W t n o l)(h:B/\C/\D->Bx (∀ t n o l,X t n o l->Y t n o l->U t n o l->V t n o l->W t n o l)->G:=by
 intro q gk;first
 | ((with_reducible apply q.1);(first | assumption | exact App.nil _ _ | exact App.new (by first | omega | (simp only[lW];omega)) | ((repeat (first | (with_reducible refine App.lZ ?_ ?_<;>(simp only[lW];omega)) | with_reducible apply App.skip | with_reducible apply App.box | with_reducible apply App.Eg | with_reducible apply App.write | with_reducible apply App.alloc));(try (first | assumption | exact App.new (by first | omega | (simp only[lW];omega)) | exact App.lZ (by (simp only[lW]);omega) (by first | omega | (simp only[lW];omega)) | exact App.lP IF (by first | omega | (simp only[lW];omega))))));(first | exact EN _ _ _ rfl | exact Gf _ _ rfl | exact App.cont IF _ rfl | exact Rd.cont IF _ rfl);(exact rfl);(unfold reach;(try simp only[Ag,Ap,Ad,AS,As,AI,AJ,BO]);omega);decide;(first | omega | (simp only[lW];omega));(intro v n lo lv ga g1 g2 g3;(try simp only[lW] at g1 g2);exact gk.o v n lo lv ga g1 g2 g3))
 | ((with_reducible apply q.2.1);rotate_left 2;(first | exact EN _ _ _ rfl | exact Gf _ _ rfl | exact App.cont IF _ rfl | exact Rd.cont IF _ rfl);rotate_right 2;(first | omega | (simp only[Ag,Ap];omega));(first | assumption | exact App.nil _ _ | exact App.new (by first | omega | (simp only[lW];omega)) | ((repeat (first | (with_reducible refine App.lZ ?_ ?_<;>(simp only[lW];omega)) | with_reducible apply App.skip | with_reducible apply App.box | with_reducible apply App.Eg | with_reducible apply App.write | with_reducible apply App.alloc));(try (first | assumption | exact App.new (by first | omega | (simp only[lW];omega)) | exact App.lZ (by (simp only[lW]);omega) (by first | omega | (simp only[lW];omega)) | exact App.lP IF (by first | omega | (simp only[lW];omega))))));(exact rfl);(unfold reach;(try simp only[Ag,Ap,Ad,AS,As,AI,AJ,BO]);omega);decide;(first | omega | (simp only[lW];omega));(intro v n lo lv ga g1 g2 g3;(try simp only[lW] at g1 g2);exact gk.o v n lo lv ga g1 g2 g3))
 | fail):G:=h q ⟨k⟩
def ZN{X Y U V W:VV->Nat->Nat->(Nat->Bool)->Prop}(q:B/\C/\D)(k:∀ t n o l,X t n o l->Y t n o l->U t n o l->V t n o l->W t n o l)(h:B/\C/\D->Bx (∀ t n o l,X t n o l->Y t n o l->U t n o l->V t n o l->W t n o l)->G:=by
 intro q gk;first
 | ((with_reducible apply q.2.2);(first | assumption | exact App.nil _ _ | exact App.new (by first | omega | (simp only[lW];omega)) | ((repeat (first | (with_reducible refine App.lZ ?_ ?_<;>(simp only[lW];omega)) | with_reducible apply App.skip | with_reducible apply App.box | with_reducible apply App.Eg | with_reducible apply App.write | with_reducible apply App.alloc));(try (first | assumption | exact App.new (by first | omega | (simp only[lW];omega)) | exact App.lZ (by (simp only[lW]);omega) (by first | omega | (simp only[lW];omega)) | exact App.lP IF (by first | omega | (simp only[lW];omega))))));(first | exact EN _ _ _ rfl | exact Gf _ _ rfl | exact App.cont IF _ rfl | exact Rd.cont IF _ rfl);(exact rfl);(unfold reach;(try simp only[Ag,Ap,Ad,AS,As,AI,AJ,BO]);omega);decide;(first | omega | (simp only[lW];omega));(intro v n lo lv ga g1 g2 g3;(try simp only[lW] at g1 g2);exact gk.o v n lo lv ga g1 g2 g3))
 | fail):G:=h q ⟨k⟩
section
variable [Prim Tryz.prog]{f:FuncId}{ar:List VV}{x:VV}{N:Nat->Prop}{σ:D1}{R:VV->D1->Prop}
def ZF(l:L)(c:VD Tryz.prog f ar x)(k:∀ n,N n)(h:L->VD Tryz.prog f ar x->Bx (∀ n,N n)->G:=by
 intro l c gk
 with_reducible apply Ey.dP
 ((try simp only[l,fG]);exact rfl)
 exact c;exact gk.o):G:=h l c ⟨k⟩
def Zz0 (c : VD Tryz.prog f ar x) (k : ∀ n, N n) (h : VD Tryz.prog f ar x → Bx (∀ n, N n) → G := by exact fun c k => ZF trivial c k.o) : G := h c ⟨k⟩
def ZG(l:L)(c:VC Tryz.prog f ar σ R)(k:∀ n,N n)(h:L->VC Tryz.prog f ar σ R->Bx (∀ n,N n)->G:=by
 intro l c gk
 with_reducible apply Ey.goG
 ((try simp only[l,fG]);exact rfl)
 exact c;exact gk.o):G:=h l c ⟨k⟩
def ZX(c:VC Tryz.prog f ar σ R)(k:∀ n,N n)(h:VC Tryz.prog f ar σ R->Bx (∀ n,N n)->G:=by
 intro c gk
 with_reducible apply Ey.goX
 exact c;exact gk.o):G:=h c ⟨k⟩
def za(α:Type)[DZ α]:=@Ey.yH Tryz.prog _ α _
def ZA{X Y U:VV->Nat->(Nat->Bool)->Prop}(q:B)(l:L)(c:VC Tryz.prog f ar σ R)(k:∀ v n o,X v n o->Y v n o->U v n o)(h:B->L->VC Tryz.prog f ar σ R->Bx (∀ v n o,X v n o->Y v n o->U v n o)->G:=by
 intro q l c gk
 with_reducible apply q
 ((try simp only[l,fG]);exact rfl)
 exact c
 (intro v n o ga gl;(try simp only[lW] at ga gl);exact gk.o v n o ga gl)):G:=h q l c ⟨k⟩
end
end
def GW:List Int->List NH->List Int
 | cs,[]=>cs
 | cs,w::r=>GW (cs.set w.var.toNat w.value) r
def F2:∀ (l:List NH) (cs:List Int),(GW cs l).length=cs.length
 | [],cs=>rfl
 | w::r,cs=>by rw[GW,F2 r,A7]
def NU:∀ (l m:List NH) (cs:List Int),GW cs (l++m)=GW (GW cs l) m
 | [],m,cs=>rfl
 | w::r,m,cs=>by rw[Cv,GW,GW,NU r m]
def Gp(d:PG):List Int:=GW d.cells d.pending
def Xf(d:PG):PG:=⟨Gp d,[]⟩
def JG(d:PG)(c v:Int):PG:=
 if c < 0\/d.cells.length<=c then d
 else if 4 < (d.pending++[NH.mk c v]).length then ⟨GW d.cells ((d.pending++[NH.mk c v]).take 1),(d.pending++[NH.mk c v]).drop 1⟩
 else ⟨d.cells,d.pending++[NH.mk c v]⟩
def Hx:List NH->List Bool->List NH
 | w::r,k::s=>if k then w::Hx r s else Hx r s
 | _,_=>[]
def PI(d:PG)(D8:List Bool):PG:=⟨GW d.cells (Hx d.pending D8),[]⟩
def Hs(d:PG)(n:Nat):PG:=⟨(Gp d++List.replicate (n - (Gp d).length) 0).take n,[]⟩
structure F1(d:PG):Prop where
 cells:d.cells.length<=16
 pend:d.pending.length<=4
 var:∀ w∈d.pending,0<=w.var/\w.var < d.cells.length
def GH(l:List Gy)(q:Qn):Int:=l.foldl (λn a=>if a.q=q then max a.n 0 else n) 0
def EJ(l:List Gy)(q:Qn)(ar:Int):Int:=(GH l q).tmod ar
def HD(l:List Gy)(q:Qn):0<=GH l q:=by
 unfold GH
 suffices h:∀ n:Int,0<=n->0<=l.foldl (λn a=>if a.q=q then max a.n 0 else n) n from h 0 (Db _)
 induction l with
 | nil=>exact λn h=>h
 | cons a l ih=>
  intro n hn;rw[Bg];apply ih;split
  ·omega
  ·exact hn
def Ua(l:List Gy)(a:Gy)(q:Qn):GH (l++[a]) q=if a.q=q then max a.n 0 else GH l q:=by
 unfold GH;rw[Cm];rfl
def Xo(n:Int):Int:=max (-2147483647) (min n 2147483647)
def NK(b:Bool):Int:=if b then 1 else 0
def Hp(op y x:Int):Int:=
 if op=6 then Xo (y+x) else if op=7 then Xo (y - x) else if op=8 then Xo (y * x)
 else if op=9 then (if x=0 then 0 else Xo (y.tdiv x))
 else if op=11 then NK (decide (y < x)) else if op=12 then NK (decide (y<=x)) else NK (decide (y=x))
def Fp(l:List Int)(n:Int):List Int:=if n∈l then l else l.takeWhile (λx=>decide (x < n))++n::l.dropWhile (λx=>decide (x < n))
structure ID where
 vars:List Int
 acts:List Act
 covered:List Int
 asked:List Int
 stack:List Int
 pc:Int
def Ij(l:List Act):Nat:=(l.filter λa=>decide (a.kind=3)).length
def Gc(p:HW)(nm:Nat->Int)(an:Nat->Int->Int)(i:JE)(s:ID):Option ID:=
 if i.op=1 then some { s with stack:=i.n::s.stack }
 else if i.op=2 then (s.vars[i.n.toNat]?).map λx=>{ s with stack:=x::s.stack }
 else if i.op=3 then match s.stack with
  | x::r=>some { s with vars:=s.vars.set i.n.toNat x,acts:=if i.n < p.durable then s.acts++[⟨1,i.n,x,0,0⟩] else s.acts,stack:=r }
  | _=>none
 else if i.op=4 then some { s with stack:=nm i.n.toNat::s.stack }
 else if i.op=5 then match s.stack with
  | x::r=>if max 1 (min x 4)=1 then some { s with stack:=0::r } else some { s with stack:=an s.asked.length (max 1 (min x 4))::r,asked:=s.asked++[max 1 (min x 4)] }
  | _=>none
 else if i.op=6\/i.op=7\/i.op=8\/i.op=9\/i.op=11\/i.op=12\/i.op=13 then match s.stack with
  | x::y::r=>some { s with stack:=Hp i.op y x::r }
  | _=>none
 else if i.op=10 then match s.stack with
  | x::r=>some { s with stack:=-x::r }
  | _=>none
 else if i.op=14 then match s.stack with
  | x::r=>some { s with stack:=NK (decide (x=0))::r }
  | _=>none
 else if i.op=15 then some { s with pc:=i.n }
 else if i.op=16 then match s.stack with
  | x::r=>some { s with stack:=r,pc:=if x=0 then i.n else s.pc }
  | _=>none
 else if i.op=17 then match s.stack with
  | b::a::to::r=>some { s with stack:=r,acts:=if 0<=to/\to < nm 1/\Ij s.acts < 20 then s.acts++[⟨3,to,i.n,a,b⟩] else s.acts }
  | _=>none
 else if i.op=18 then some { s with acts:=s.acts++[⟨4,i.n,0,0,0⟩] }
 else if i.op=19 then some { s with acts:=s.acts++[⟨5,i.n,0,0,0⟩] }
 else if i.op=20 then some { s with acts:=s.acts++[⟨2,0,0,0,0⟩] }
 else if i.op=21 then match s.stack with
  | v::q::r=>some { s with stack:=r,acts:=s.acts++[⟨6,q,v,0,0⟩] }
  | _=>none
 else if i.op=22 then match s.stack with
  | c::r=>some { s with stack:=r,acts:=s.acts++[⟨7,c,0,0,0⟩] }
  | _=>none
 else none
def F9(p:HW)(nm:Nat->Int)(an:Nat->Int->Int):Nat->ID->ID
 | 0,s=>s
 | k+1,s=>match p.code[s.pc.toNat]? with
  | none=>s
  | some i=>if i.op=23 then { s with covered:=Fp s.covered s.pc,pc:=s.pc+1 }
   else match Gc p nm an i { s with covered:=Fp s.covered s.pc,pc:=s.pc+1 } with
   | none=>s
   | some s'=>F9 p nm an k s'
def Gn(p:HW)(h:Nat)(vars:List Int):ID:=⟨vars,[],[],[],[],p.entry h⟩
def FF(p:HW)(h:Nat)(vars:List Int)(nm:Nat->Int)(an:Nat->Int->Int):ID:=if p.entry h < 0 then Gn p h vars else F9 p nm an 500 (Gn p h vars)
def JV(op:Int):Nat:=if op=17 then 3 else if op=6\/op=7\/op=8\/op=9\/op=11\/op=12\/op=13\/op=21 then 2 else if op=5\/op=10\/op=14\/op=3\/op=16\/op=22 then 1 else 0
def PJ(op:Int):Nat:=if op=1\/op=2\/op=4\/op=5\/(6<=op/\op<=14) then 1 else 0
def MF(i:JE)(at_:Nat):List Int:=if i.op=23 then [] else if i.op=15 then [i.n] else if i.op=16 then [(at_:Int)+1,i.n] else [(at_:Int)+1]
def N5(p:HW)(i:JE):Bool:=
 if i.op=1 then decide (-2147483647<=i.n/\i.n<=2147483647)
 else if i.op=2\/i.op=3 then decide (0<=i.n/\i.n < p.durable+p.volatile)
 else if i.op=4 then decide (0<=i.n/\i.n<=8)
 else if i.op=17 then decide (0<=i.n/\i.n<=29)
 else if i.op=18\/i.op=19 then decide (0<=i.n/\i.n<=7)
 else if i.op=15\/i.op=16 then decide (0<=i.n/\i.n < p.code.length)
 else decide (i.n=0)
def vV(p:HW)(D:List Nat):Bool:=(List.range p.code.length).all λk=>match p.code[k]?,D[k]? with
 | some i,some d=>decide (1<=i.op/\i.op<=23) && N5 p i && (d == 99 || (decide (JV i.op<=d) && decide (d - JV i.op+PJ i.op<=16) && (MF i k).all λj=>decide (0<=j) && D[j.toNat]? == some (d - JV i.op+PJ i.op)))
 | _,_=>false
structure Hc(p:HW)(D:List Nat):Prop where
 dur:0<=p.durable
 vol:0<=p.volatile
 vars:p.durable+p.volatile<=16
 code:p.code.length<=400
 dlen:D.length=p.code.length
 depth:vV p D=true
 entry:∀ h,h < 40->p.entry h = -1\/(0<=p.entry h/\D[(p.entry h).toNat]? = some 0)
structure Hy where
 node:Int
 handler:Int
 count:Int
 deriving DecidableEq,Inhabited
def Hy.q(c:Hy)(kind index:Int):Qn:=⟨c.node,c.handler,c.count,kind,index⟩
def Hy.m(c:Hy)(index copy:Int):KD:=⟨c.node,c.handler,c.count,index,copy⟩
structure LB where
 s:FZ
 asks:List Ask
 sent:List GF
 replied:Bool
 value:Int
 fails:List Int
 cause:Hy
 covered:List Int
def Fl:FZ:=⟨false,-1,0,0,⟨[],[]⟩,[],[],λ_=>0,-1,0,0⟩
def GK(s:FZ):List Int:=Gp s.disk++s.vol
def Jm(l:List Int)(k:Int)(set:Bool):List Int:=((List.range 8).filter λ(i:Nat)=>if (i:Int)=k then set else l.contains (i:Int)).map λ(i:Nat)=>(i:Int)
def Fq(r:LB)(a:Act):LB:=
 if a.kind=1 then { r with s:={ r.s with disk:=JG r.s.disk a.a a.b } }
 else if a.kind=2 then { r with s:={ r.s with disk:=Xf r.s.disk } }
 else if a.kind=4 then { r with s:={ r.s with timers:=Jm r.s.timers a.a true } }
 else if a.kind=5 then { r with s:={ r.s with timers:=Jm r.s.timers a.a false } }
 else if a.kind=3 then { r with sent:=r.sent++[⟨r.cause.m r.sent.length 0,a.a,a.b,a.c,a.d⟩] }
 else if a.kind=6 then (if 0<=r.s.waiting/\a.a=r.s.waiting then { r with replied:=true,value:=a.b,s:={ r.s with waiting:=-1 } } else r)
 else if a.kind=7 then { r with fails:=r.fails++[a.a] }
 else r
def Ft(nm:Nat->Int)(self nodes now:Int):Nat->Int:=FG (FG (FG nm 0 self) 1 nodes) 2 now
def Ik(la:List Gy)(c:Hy)(i:Nat)(k:Int):Int:=EJ la (c.q 1 i) k
def E2(la:List Gy)(c:Hy)(asked:List Int):List Ask:=asked.mapIdx λi k=>⟨c.q 1 i,k,EJ la (c.q 1 i) k⟩
def FR(s:FZ)(p:HW)(h:Nat)(self nodes drift:Int)(nm:Nat->Int)(la:List Gy):LB:=
 let c:Hy:=⟨self,h,s.counts h⟩
 let tick:=EJ la (c.q 2 0) (drift+1)
 let now:=s.clock+1+if 0 < drift then tick else 0
 let o:=FF p h (GK s) (Ft nm self nodes now) (Ik la c)
 let s1:FZ:={ s with clock:=now,counts:=FG s.counts h (s.counts h+1),vol:=o.vars.drop p.durable.toNat }
 o.acts.foldl Fq ⟨s1,(if 0 < drift then [⟨c.q 2 0,drift+1,tick⟩] else [])++E2 la c o.asked,[],false,0,[],c,o.covered⟩
def JH(s:FZ)(p:HW)(version self nodes drift:Int)(la:List Gy):LB:=
 FR { s with version:=version,disk:=if s.disk.cells.length=p.durable then s.disk else Hs s.disk p.durable.toNat,vol:=List.replicate p.volatile.toNat 0,timers:=[],waiting:=-1,up:=true } p 0 self nodes drift (λ_=>0) la
def GX(s:FZ)(self:Int)(la:List Gy):LB:=
 let c:Hy:=⟨self,40,s.counts 40⟩
 let l:=(List.range s.disk.pending.length).map λ(i:Nat)=>(⟨c.q 3 i,2,EJ la (c.q 3 i) 2⟩:Ask)
 ⟨{ s with disk:=PI s.disk (l.map λa=>decide (a.n=1)),counts:=FG s.counts 40 (s.counts 40+1),epoch:=s.epoch+1,vol:=List.replicate s.vol.length 0,timers:=[],waiting:=-1,up:=false },l,[],false,0,[],c,[]⟩
def RR(a b:KD):Prop:=
 a.node < b.node\/(a.node=b.node/\(a.handler < b.handler\/(a.handler=b.handler/\(a.count < b.count\/(a.count=b.count/\(a.index < b.index\/(a.index=b.index/\a.copy < b.copy)))))))
instance(a b:KD):Decidable (RR a b):=by unfold RR;infer_instance
def NI(a b:Fu):Prop:=a.kind < b.kind\/(a.kind=b.kind/\(a.node < b.node\/(a.node=b.node/\(a.arg < b.arg\/(a.arg=b.arg/\RR a.msg b.msg)))))
instance(a b:Fu):Decidable (NI a b):=by unfold NI;infer_instance
def TO(m:KD)(l:List GF):Bool:=l.any λe=>decide (e.msg=m)
def JR(m:KD)(l:List GF):Option GF:=l.find? λe=>decide (e.msg=m)
def Gq(m:KD)(l:List GF):List GF:=l.filter λe=>decide (e.msg≠m)
def Oa(e:GF)(l:List GF):List GF:=l.takeWhile (λx=>decide (RR x.msg e.msg))++e::l.dropWhile (λx=>decide (RR x.msg e.msg))
def RT(n:Int)(l:List GF):List KD:=(l.filter λe=>decide (e.to=n)).map GF.msg
def Kf(l:List GF)(e:GF):List GF:=if TO e.msg l then [] else Oa e l
def E8(c:I2)(n:Int)(i:Int):Int:=match ((List.range c.requests.length).filter λ(k:Nat)=>decide (i < (k:Int))).find? λ(k:Nat)=>decide ((c.requests[k]?.map Vs.node)=some n) with
 | some k=>(k:Int)
 | none=>-1
def JU(c:I2):E4:=⟨c,c.first.map λ_=>Fl,[],(List.range c.first.length).map λ(n:Nat)=>E8 c n (-1),[],c.first.map λ_=>[],c.first.map λ_=>[],[],0⟩
def TP(l:List Fu)(e:Fu):List Fu:=if e∈l then l else l.takeWhile (λx=>decide (NI x e))++e::l.dropWhile (λx=>decide (NI x e))
def Jj:KD:=⟨0,0,0,0,0⟩
def VF(w:E4)(n:Nat)(s:FZ):List Fu:=
 (if s.up then [] else (if s.version < 0 then [w.c.first.getD n 0] else if w.c.restarts.length=0 then [s.version] else w.c.restarts).map λv=>⟨1,n,v,Jj⟩)
 ++((RT n w.flight).flatMap λm=>(if s.up then [(⟨3,n,0,m⟩:Fu)] else [])++((if s.dropped < w.c.drops then [⟨5,n,0,m⟩] else [])++(if s.doubled < w.c.dups then [⟨6,n,0,m⟩] else [])))
 ++(if s.up/\s.waiting < 0/\0<=w.next.getD n 0 then [⟨2,n,w.next.getD n 0,Jj⟩] else [])
 ++(if s.up then s.timers.map λk=>⟨4,n,k,Jj⟩ else [])
 ++(if s.up/\s.counts 40 < w.c.crashes then [⟨7,n,0,Jj⟩] else [])
def FO(w:E4):List Fu:=(w.nodes.zipIdx.flatMap λx=>VF w x.2 x.1).foldl TP []
def ta(y x:JE):Prop:=y.op < x.op\/(y.op=x.op/\y.n < x.n)
instance(y x:JE):Decidable (ta y x):=by unfold ta;infer_instance
def II(l:List JE)(x:JE):List JE:=
 let i:=(l.takeWhile λy=>decide (ta y x)).length
 if l[i]? = some x then l else l.take i++x::l.drop i
def Ir(w:E4)(n:Nat):E4:={ w with traces:=w.traces.set n (w.traces.getD n []++[GK (w.nodes.getD n Fl)]) }
def Ht(w:E4)(n:Nat)(r:LB)(waiting:Int):E4:=
 Ir { w with
  nodes:=w.nodes.set n r.s
  flight:=r.sent.foldl Kf w.flight
  obs:=if r.replied then w.obs++[⟨true,waiting,n,r.s.epoch,r.value⟩] else w.obs
  failures:=w.failures.set n (w.failures.getD n []++r.fails.map λk=>⟨r.cause.node,r.cause.handler,r.cause.count,k⟩)
  covered:=(r.covered.map λi=>(⟨r.s.version,i⟩:JE)).foldl II w.covered } n
def Il(w:E4)(n:Nat)(f:FZ->FZ):E4:={ w with nodes:=w.nodes.set n (f (w.nodes.getD n Fl)) }
def GG(w:E4)(n:Nat)(h:Nat)(nm:Nat->Int)(la:List Gy):E4 × LB:=
 let s:=w.nodes.getD n Fl
 let r:=FR s (w.c.programs.getD s.version.toNat default) h n w.nodes.length w.c.drift nm la
 (Ht w n r s.waiting,r)
def Xn:LB:=⟨⟨false,0,0,0,⟨[],[]⟩,[],[],λ_=>0,0,0,0⟩,[],[],false,0,[],⟨0,0,0⟩,[]⟩
def Eh(w:E4)(e:Fu)(la:List Gy):E4 × LB:=
 let n:=e.node.toNat
 if e.kind=1 then
  let r:=JH (w.nodes.getD n Fl) (w.c.programs.getD e.arg.toNat default) e.arg n w.nodes.length w.c.drift la
  (Ht w n r (-1),r)
 else if e.kind=2 then
  let q:=w.c.requests.getD e.arg.toNat ⟨0,0,0,0⟩
  let w1:E4:={ Il w n (λs=>{ s with waiting:=e.arg }) with next:=w.next.set n (E8 w.c n e.arg),obs:=w.obs++[⟨false,e.arg,n,(w.nodes.getD n Fl).epoch,0⟩] }
  GG w1 n 1 (FG (FG (FG (FG (λ_=>0) 6 e.arg) 7 q.op) 8 q.key) 4 q.arg) la
 else if e.kind=3 then
  let m:=(JR e.msg w.flight).getD ⟨Jj,0,0,0,0⟩
  GG { w with flight:=Gq e.msg w.flight } n (10+m.kind.toNat) (FG (FG (FG (λ_=>0) 3 m.msg.node) 4 m.a) 5 m.b) la
 else if e.kind=4 then
  GG (Il w n λs=>{ s with timers:=s.timers.filter λk=>decide (k≠e.arg) }) n (2+e.arg.toNat) (λ_=>0) la
 else if e.kind=5 then (Il { w with flight:=Gq e.msg w.flight } n λs=>{ s with dropped:=s.dropped+1 },Xn)
 else if e.kind=6 then
  let d:=(w.nodes.getD n Fl).doubled+1
  let f:=match JR e.msg w.flight with
   | none=>[]
   | some m=>if TO { e.msg with copy:=d } w.flight then [] else Oa { m with msg:={ m.msg with copy:=d } } w.flight
  (Il { w with flight:=f } n λs=>{ s with doubled:=d },Xn)
 else
  let r:=GX (w.nodes.getD n Fl) n la
  (Ir (Il w n λ_=>r.s) n,r)
def Ut:I6:=⟨⟨0,0,0,Jj⟩,[],false,[]⟩
def EK(w:E4)(e:Fu)(la:List Gy):E4 × I6 × Int:=
 if 5000<=w.steps then (w,Ut,2)
 else if e∈FO w then
  let x:=Eh w e la
  ({ x.1 with steps:=w.steps+1 },⟨e,x.2.asks,decide (w.obs.length < x.1.obs.length),x.2.sent.map GF.msg⟩,0)
 else (w,Ut,21)
def Eb(s:I6):List Gy:=s.asks.map λa=>⟨a.q,a.n⟩
def gi(p:Nat->Bool)(n k:Nat)(hk:k < n)(hp:p k=true)(hn:∀ j,j < k->p j=false):(List.range n).find? p=some k:=by
 rw[C3];refine⟨hp,k,by simpa using hk,iN,λj hj=>?_⟩;simp[hn j hj]
def Qt(c:I2)(n i:Int)(k:Nat)(hk:k < c.requests.length)(hi:i < k)(hn:c.requests[k].node=n)(h:∀ j (hj:j < k),i < j->(c.requests[j]' dO).node≠n):E8 c n i=k:=by
 unfold E8;rw[List.find?_filter,gi _ _ k hk]
 ·simp[hi,Ah hk,hn]
 ·intro j hj
  by_cases hij:i < (j:Int)
  ·rw[Ah dO]
   simp[hij,h j hj hij]
  ·simp[hij]
def Qu(c:I2)(n i:Int)(h:∀ j (hj:j < c.requests.length),i < j->c.requests[j].node≠n):E8 c n i = -1:=by
 unfold E8;rw[List.find?_filter,CR.2];intro j hj;have hj:=Bp.1 hj;by_cases hij:i < (j:Int)
 ·rw[Ah hj]
  simp[h j hj hij]
 ·simp[hij]
def MM(id n:Nat)(rest:List Value):Value:=.tuple (.slice (some ⟨id,0,none⟩) n n::rest).toArray
def zU(n:Nat)(c rest:List Value)(z:Nat):KV:=λv h nx=>match v with
 | .tuple ⟨.slice (some ⟨k,o,none⟩) n1 n2::rest1⟩=>(match h.get k with
  | some (.cells c1 _ z1 true _)=>Nat.beq o 0 && Nat.beq n1 n && Nat.beq n2 n && Nat.beq z1 z && K4 Rc rest1 rest && K4 Rc c1 c
  | _=>false)
 | _=>false
def pP{n:Nat}{c rest:List Value}{z:Nat}{v:Value}{h:Tr FH}{nx:Nat}(hk:zU n c rest z v h nx=true):∃ k t an,v=MM k n rest/\(St.mk h nx).get k=.cells c t z true an:=by
 unfold zU at hk;split at hk
 ·rename_i k o n1 n2 rest1
  split at hk
  ·rename_i c1 t z1 an hg
   simp only[Al] at hk;obtain⟨⟨⟨⟨⟨h1,h2⟩,h3⟩,h4⟩,h5⟩,h7⟩:=hk;obtain rfl:=AB h1;obtain rfl:=AB h2;obtain rfl:=AB h3;obtain rfl:=AB h4;obtain rfl:=H2 (λ_ _=>Jp) h5;obtain rfl:=H2 (λ_ _=>Jp) h7;exact⟨k,t,an,rfl,by unfold St.get;rw[hg];rfl⟩
  ·cases hk
 ·cases hk
section
variable {P:Program}[Prim P]
structure jY(P:Program)(f:FuncId)(args:List Value)(n:Nat)(c rest:List Value)(z:Nat):Prop where
 fn:∃ fn,P.funcs[f]? = some fn/\fn.body.isSome=true/\(fn.name == "runtime.NumGoroutine")=false
 flat:args.all FB=true
 restf:EC rest=true
 cells:EC c=true
 calls:∀ t1 B φ S w,E0 B φ S w->B<=w.heap.size->Calls P f args.toArray w (Mv B φ S w (MM S.next n rest) (S.alloc (.cells c t1 z true [])))
def jY.of(hm:P.follows .mixedOrders=true){Fy:Tr Ed}(ht:Mg P Fy){pr:FuncId->List Value->Tr FH->Nat->KV->Bool}(hp:HI P Fy pr){m fuel:Nat}{f:FuncId}{args:List Value}{n:Nat}{c rest:List Value}{z:Nat}(hfl:args.all FB=true)(hc:EC c=true)(hr:EC rest=true)
  (hk:KI P Fy pr m fuel (.func f) args .leaf 0 (zU n c rest z)=true):jY P f args n c rest z:=by
 obtain⟨h1,h2⟩:=KO hm ht hp hfl hk;refine⟨h1,hfl,hr,hc,λt1 B φ S w hs hB=>?_⟩;obtain⟨u,S2,h3,h4⟩:=h2 w φ.Fy (hs.loops.1.of hB rfl λ_ _ _ _ e=>e);refine h4.mono ?_;rintro e w' ⟨φ2,v',rfl,p1,p2,p3⟩;obtain⟨k,t,an,rfl,hg⟩:=pP h3;have hg:S2.get k=_:=hg;unfold MM at p1;cases p1 with
 | tuple _ b hb hbe=>
  obtain⟨lb⟩:=b
  match lb,hb,hbe with
  | q::lb,hb,hbe=>
   have hq:Rel φ2 (.slice (some ⟨k,0,none⟩) n n) q:=hbe 0 iN iN;have hlb:lb=rest:=by
    have hle:rest.length=lb.length:=by simpa using hb
    apply B0 hle.symm;intro i h1 h2;have:=hbe (i+1) ad0 ac0;exact J1 (by simp only[EC,At] at hr;exact hr _ (Ao h2)) (by simpa using this)
   subst hlb;have key:∀ s0:MK,φ2 k=some s0->(∀ ψ:Es,ψ S.next=some s0->Rel ψ (.slice (some ⟨S.next,0,none⟩) n n) q)->Mv B φ S w (MM S.next n lb) (S.alloc (.cells c t1 z true [])) (.returned (.tuple ⟨q::lb⟩)) w':=by
    intro s0 hs0 hrq;obtain⟨q1,q2⟩:=iQ hB hs p2 p3 hs0 hg hc t1;refine⟨_,_,rfl,?_,q1,q2⟩;refine .tuple _ _ rfl λj h3 h4=>?_
    cases j with
    | zero=>exact hrq _ (Es.add_same _ _ _)
    | succ j=>exact H4 (by simp only[EC,At] at hr;exact hr _ (Ao (by simpa using h3))) _
   cases hq with
   | slice _ _ _ _ c' s hid hn hc' hext=>exact key s hid λψ hψ=>.slice _ _ n n c' s hψ hn hc' hext
   | sliceEnd _ _ x s hid=>exact key s hid λψ hψ=>.sliceEnd _ _ x s hψ
  | [],hb,_=>simp at hb
end
def ceT(f:FuncId)(args:List Value)(n:Nat)(c rest:List Value)(z:Nat)(t:TypeId):CE:=⟨f,λS a=>a=args,λS=>(MM S.next n rest,S.alloc (.cells c t z true []))⟩
def jY.F7{P:Program}{f:FuncId}{args:List Value}{n:Nat}{c rest:List Value}{z:Nat}(h:jY P f args n c rest z)(t:TypeId):(ceT f args n c rest z t).Good P:=by
 refine⟨h.fn,λS a ha hw hsc=>?_,λB φ S w a a' ha hr hs hB=>?_⟩
 ·show WS (S.alloc (.cells c t z true []))/\S.next<=S.next+1/\Sc (S.next+1) (MM S.next n rest)
  refine⟨⟨λid hid=>?_,λid c' t' z' mi an hg=>?_,λid o hg=>?_⟩,dO,.tuple _ λi hi=>?_⟩
  ·have:S.next+1<=id:=hid
   rw[St.D6,if_neg dO];exact hw.gone id dO
  ·rw[St.D6] at hg
   split at hg
   ·cases hg;exact Hl.flat h.cells
   ·exact λx hx=>(hw.cell id _ _ _ _ _ hg x hx).mono (by show S.next<=S.next+1;omega)
  ·rw[St.D6] at hg
   split at hg
   ·cases hg
   ·exact (hw.obj id o hg).mono (by show S.next<=S.next+1;omega)
  ·have hi':i < (Value.slice (some ⟨S.next,0,none⟩) n n::rest).length:=by simpa using hi
   cases i with
   | zero=>exact .slice _ _ _ _ dO
   | succ j=>simpa using Sc.GN (by have:=h.restf;simp only[EC,At] at this;exact this _ (Ao (by simpa using hi')))
 ·obtain rfl:a=args:=ha
  obtain rfl:=Si (by simpa using h.flat) hr;exact h.calls t B φ S w hs hB
noncomputable def prT(f0:FuncId)(args:List Value)(n:Nat)(c rest:List Value)(z:Nat)(t:TypeId):FuncId->List Value->Tr FH->Nat->KV->Bool:=λf l h nx k=>
 Nat.beq f f0 && (K4 iI l args && k (MM nx n rest) ((St.mk h nx).alloc (.cells c t z true [])).heap (nx+1))
def Sl{L:List CE}{f:FuncId}{args:Array Value}{S:St}{v:Value}{S':St}(h:∃ e∈L,e.f=f/\e.cond S args.toList)(ho:∀ e∈L,e.f=f->e.cond S args.toList->e.out S=(v,S')):UD L f args S=some (v,S'):=by
 obtain⟨e,e1,e2,e3,e4⟩:=Sk h;rw[e4,ho e e1 e2 e3]
def zb{P:Program}{L:List CE}{f0:FuncId}{args:List Value}{n:Nat}{c rest:List Value}{z:Nat}{t:TypeId}(hg:∀ e∈L,e.Good P)(hin:ceT f0 args n c rest z t∈L)(hu:∀ e∈L,e.f=f0->e=ceT f0 args n c rest z t)(Fy:Tr Ed):@HI P (JF L hg) Fy (prT f0 args n c rest z t):=λf l h nx k _ hk _ _=>by
 unfold prT at hk;simp only[Al] at hk;obtain⟨h1,h2,h3⟩:=hk;obtain rfl:=AB h1;obtain rfl:=H2 (λ_ _=>Od) h2;exact⟨MM nx n rest,(St.mk h nx).alloc (.cells c t z true []),Sl ⟨_,hin,rfl,rfl⟩ λe he hf _=>by rw[hu e he hf];rfl,h3⟩
def um(f0:FuncId)(n:Nat)(c rest:List Value)(Fy:List (List Value × Value)):List CE:=Fy.map λp=>ceR f0 n c rest p.1 p.2
noncomputable def yY(f0:FuncId)(n:Nat)(c rest:List Value)(tb:List (List Value × Value)):FuncId->List Value->Tr FH->Nat->KV->Bool:=λf l h nx k=>
 Nat.beq f f0 && (match l with
  | .agg ⟨.slice (some ⟨id,o,none⟩) n1 _::rest1⟩::ex=>(match h.get id with
   | some (.cells cc _ _ _ _)=>Nat.beq o 0 && (Nat.beq n1 n && (K4 Rc rest1 rest && (K4 Rc cc c && (match tb.find? (λp=>K4 iI ex p.1) with
    | some p=>k p.2 h nx
    | none=>false))))
   | _=>false)
  | _=>false)
def ur{P:Program}{L:List CE}{f0:FuncId}{n:Nat}{c rest:List Value}{tb:List (List Value × Value)}(hg:∀ e∈L,e.Good P)(hin:∀ e∈um f0 n c rest tb,e∈L)(hu:∀ e∈L,e.f=f0->e∈um f0 n c rest tb)(ht:∀ p∈tb,∀ q∈tb,p.1=q.1->p.2=q.2)(Fy:Tr Ed):@HI P (JF L hg) Fy (yY f0 n c rest tb):=λf l h nx k _ hk _ _=>by
 unfold yY at hk;rw[Al] at hk;obtain⟨h1,hk⟩:=hk;obtain rfl:=AB h1;split at hk
 case h_2=>cases hk
 rename_i id o n1 c0 rest1 ex hsc;split at hk
 case h_2=>cases hk
 rename_i cc t z m an hget;simp only[Al] at hk;obtain⟨h2,h3,h4,h5,hk⟩:=hk;obtain rfl:=AB h2;obtain rfl:=AB h3;obtain rfl:=H2 (λ_ _=>Jp) h4;obtain rfl:=H2 (λ_ _=>Jp) h5;split at hk
 case h_2=>cases hk
 rename_i p hp;have hpm:=Bs hp;have hpe:=H2 (λ_ _=>Od) (CS (p:=λp:List Value × Value=>K4 iI ex p.1) hp);have hg1:(St.mk h nx).get id=.cells cc t z m an:=by unfold St.get;rw[hget];rfl
 refine⟨p.2,⟨h,nx⟩,Sl ⟨ceR f n1 cc rest1 p.1 p.2,hin _ (AT.2 ⟨p,hpm,rfl⟩),rfl,_,by rw[hpe],.inl ⟨id,0,c0,cc,t,z,rfl,by rw[hg1];rfl,dO,by rw[Bu,BK]⟩⟩ λe he hf hc=>?_,hk⟩;obtain⟨q,hq,rfl⟩:=AT.1 (hu e he hf);obtain⟨a,ha,_⟩:=hc;have hex:ex=q.1:=(List.cons.inj ha).2;show (q.2,_)=_
 rw[ht q hq p hpm (by rw[<- hex,hpe])]
def uu{tb:List (List Value × Value)}(h:(tb.all λp=>K4 iI p.1 p.1 && tb.all λq=>!(K4 iI p.1 q.1) || iI p.2 q.2)=true):∀ p∈tb,∀ q∈tb,p.1=q.1->p.2=q.2:=λp hp q hq e=>by
 have h1:=At.1 h p hp;rw[Al] at h1;have h2:=At.1 h1.2 q hq;rw[<- e,h1.1] at h2;exact Od ad0
def uo{P:Program}[Prim P]{Fy:Tr Ed}{p q:FuncId->List Value->Tr FH->Nat->KV->Bool}(hp:HI P Fy p)(hq:HI P Fy q):HI P Fy (λf l h nx k=>p f l h nx k || q f l h nx k):=λf l h nx k ht hk hw hs=>by
 rcases (Cl _ _).mp hk with hk | hk
 ·exact hp f l h nx k ht hk hw hs
 ·exact hq f l h nx k ht hk hw hs
section
variable {P:Program}{L:List CE}{hg:∀ e∈L,e.Good P}{f:FuncId}{args:List VV}{σ:D1}{Q:VV->D1->Prop}
def pQ(hf:XF P f=none)(e0:CE)(hin:e0∈L)(hc0:∀ S (args':Array Value),Ee σ.G S args args'.toList->e0.f=f/\e0.cond S args'.toList)(hun:∀ S (args':Array Value),Ee σ.G S args args'.toList->∀ e∈L,e.f=f->e.cond S args'.toList->e.out S=e0.out S)
  (hres:∀ S,E9 σ S->∃ v σ',E9 σ' (e0.out S).2/\ER σ.fresh S σ' (e0.out S).2/\Ej σ'.G (e0.out S).2 v (e0.out S).1/\Q v σ'):@VC P (JF L hg) f args σ Q:=
 xR hf λS args' h1 h2=>⟨⟨e0,hin,(hc0 S args' h2).1,(hc0 S args' h2).2⟩,λe he hef hc=>by
  rw[hun S args' h2 e he hef hc];exact hres S h1⟩
def zV(hf:XF P f=none){l:List Value}{n:Nat}{c rest:List Value}{z:Nat}{r:Value}{t:TypeId}(hin:ceG f l n c rest z r t∈L)(ha:∀ S (args':Array Value),Ee σ.G S args args'.toList->args'.toList=l)(hun:∀ e∈L,e.f=f->∀ S,e.cond S l->e.out S=(ceG f l n c rest z r t).out S)
  (hc:EC c=true) (hr:EC rest=true) (h1:GN r=true) (hn:c.length=n * z):@VC P (JF L hg) f args σ (λv σ'=>σ.next<=σ'.low/\v=.tup [.agg (.Ie n (c.map .v)::rest.map .v),.v r]):=
 pQ hf _ hin (λS args' h=>⟨rfl,ha S args' h⟩) (λS args' h e he hef hcd=>hun e he hef S (by rw[<- ha S args' h];exact hcd)) λS h=>by
  obtain⟨a,b⟩:=h.lay c t z;exact⟨_,_,a,b,.LP h hc hr h1 hn,Af _,rfl⟩
def xS(hf:XF P f=none)(l:List Value)(v:Value)(hin:xQ f l v∈L)(hun:∀ e∈L,e.f=f->∀ S,e.cond S l->e.out S=(v,S))(ha:∀ S (args':Array Value),Ee σ.G S args args'.toList->args'.toList=l)(hv:IE v=true):@VC P (JF L hg) f args σ (λr σ'=>σ.next<=σ'.low/\r=vr v):=
 pQ hf _ hin (λS args' h=>⟨rfl,ha S args' h⟩) (λS args' h e he hef hcd=>hun e he hef S (by rw[<- ha S args' h];exact hcd)) λS h=>⟨vr v,σ.fresh,h.fresh,.refl _ _,.vr hv,Af _,rfl⟩
end
def D2(n:Int):Prop:=-2147483647<=n/\n<=2147483647
def dV{y x:Int}(hy:D2 y):D2 (y.tdiv x):=by
  have h:=Int.natAbs_tdiv_le_natAbs y x;unfold D2 at *;omega
def uz{a b:Int}(ha:D2 a)(hb:D2 b):G0 (a+b)=a+b:=by unfold D2 at *; exact Er dO dO
def uA{a b:Int}(ha:D2 a)(hb:D2 b):G0 (a - b)=a - b:=by unfold D2 at *; exact Er dO dO
def kh{a b:Int}(ha:D2 a)(hb:D2 b) : -4611686014132420609<=a * b/\a * b<=4611686014132420609:=by
  unfold D2 at *;have h:(a * b).natAbs<=2147483647 * 2147483647:=by
    rw[Int.natAbs_mul];exact Nat.mul_le_mul dO dO
  omega
def uB{a b:Int}(ha:D2 a)(hb:D2 b):G0 (a * b)=a * b:=by have:=kh ha hb;exact Er dO dO
def uC{a b:Int}(ha:D2 a):G0 (a.tdiv b)=a.tdiv b:=by have:=dV (x:=b) ha;unfold D2 at this;exact Er dO dO
structure Xd(p:HW)(D:List Nat)(s:ID):Prop where
  pc0:0<=s.pc
  pc:D[s.pc.toNat]? = some s.stack.length
  d16:s.stack.length<=16
  vars:(s.vars.length:Int)=p.durable+p.volatile
  st:∀ x∈s.stack,D2 x
  vs:∀ x∈s.vars,D2 x
def ki(n:Int):D2 (Xo n):=by unfold D2 Xo;omega
def ME(b:Bool):D2 (NK b):=by unfold D2 NK;split<;>omega
def RV(op y x:Int):D2 (Hp op y x):=by
  unfold Hp
  repeat' split
  all_goals first | exact ki _ | exact ME _ | (unfold D2;omega)
def Us{x:Int}(h:D2 x):D2 (-x):=by unfold D2 at *; omega
def Iq:D2 0:=by unfold D2;omega
def Hc.at{p:HW}{D:List Nat}(h:Hc p D){k d:Nat}(hd:D[k]? = some d)(hd9:d<=16):∃ i,p.code[k]? = some i/\k < p.code.length/\1<=i.op/\i.op<=23/\N5 p i=true/\JV i.op<=d/\d - JV i.op+PJ i.op<=16/\∀ j∈MF i k,0<=j/\D[j.toNat]? = some (d - JV i.op+PJ i.op):=by
  have hk:k < p.code.length:=by
    rw[<- h.dlen];exact (Am.1 hd).1
  have h1:=At.1 h.depth k (Bp.2 hk);rw[Ah hk,hd] at h1;simp only[Al,decide_eq_true_eq,Cl,beq_iff_eq,At] at h1;refine⟨p.code[k],Ah hk,hk,h1.1.1.1,h1.1.1.2,h1.1.2,?_⟩;rcases h1.2 with h2 | h2
  · omega
  · exact⟨h2.1.1,h2.1.2,λj hj=>h2.2 j hj⟩
def Fm(s:ID):ID:={ s with covered:=Fp s.covered s.pc,pc:=s.pc+1 }
def VA{p:HW}{D:List Nat}(h:Hc p D){nm:Nat->Int}(hnm:∀ i,i < 9->D2 (nm i)){an:Nat->Int->Int}(han:∀ i k,2<=k->k<=4->D2 (an i k)){s:ID}(hs:Xd p D s){i:JE}(hi:p.code[s.pc.toNat]? = some i)(hop:i.op≠23) :
    ∃ s',Gc p nm an i (Fm s)=some s'/\Xd p D s':=by
  obtain⟨i',e1,hk,o1,o2,ho,hp,h16,hn⟩:=h.at hs.pc hs.d16;rw[hi] at e1;obtain rfl:=Aa e1;have hpc:((s.pc.toNat:Nat):Int)=s.pc:=Ct hs.pc0;have step:∀ (s':ID),s'.pc∈MF i s.pc.toNat->s'.stack.length=s.stack.length - JV i.op+PJ i.op->s'.vars.length=s.vars.length->(∀ x∈s'.stack,D2 x)->(∀ x∈s'.vars,D2 x)->Xd p D s':=by
    intro s' a1 a2 a3 a4 a5;obtain⟨b1,b2⟩:=hn _ a1;exact⟨b1,by rw[a2];exact b2,dO,by rw[a3];exact hs.vars,a4,a5⟩
  have nx:∀ {c:Int},i.op=c->c≠15->c≠16->s.pc+1∈MF i s.pc.toNat:=by
    intro c e n1 n2;unfold MF;rw[if_neg hop,if_neg dO,if_neg dO,hpc];simp
  have hst:=hs.st;have hl:=hs.d16;have cases23:i.op=1\/i.op=2\/i.op=3\/i.op=4\/i.op=5\/i.op=6\/i.op=7\/i.op=8\/i.op=9\/i.op=10\/i.op=11\/i.op=12\/i.op=13\/i.op=14\/i.op=15\/i.op=16\/i.op=17\/i.op=18\/i.op=19\/i.op=20\/i.op=21\/i.op=22:=dO
  rcases hstk:s.stack with _ | ⟨x,_ | ⟨y,_ | ⟨z,r⟩⟩⟩
  all_goals
    rw[hstk] at hp hst;simp only[hstk,Ag,Ap,Aq,AK,false_implies,implies_true,forall_eq_or_imp,and_true] at hp hst step;rcases cases23 with e | e | e | e | e | e | e | e | e | e | e | e | e | e | e | e | e | e | e | e | e | e
    all_goals
      simp only[JV,PJ,N5,e,Int.reduceEq,if_true,if_false,or_true,true_or,or_false,false_or,or_self,Int.reduceLE,and_self,and_true,Nat.le_zero_eq,Nat.reduceLeDiff,Nat.add_le_add_iff_right,Nat.not_succ_le_zero,decide_eq_true_eq] at hp ho step
      try omega
      try simp only[Gc,e,Fm,hstk,Int.reduceEq,if_true,if_false,or_true,true_or,or_false,false_or,or_self]
      try (rw[Ah (show i.n.toNat < s.vars.length by have:=hs.vars;omega),AH])
      try split
      all_goals
        refine⟨_,rfl,step _ ?_ ?_ ?_ ?_ ?_⟩
        · first
            | exact nx e iF iF
            | (simp only[MF,e,hpc,Int.reduceEq,if_true,if_false];split<;>simp)
            | (simp[MF,e,hpc])
        · first | rfl | (simp only[Ag,Ap];omega)
        · first | rfl | exact A7 ..
        · simp only[Aq,AK,false_implies,implies_true,forall_eq_or_imp,and_true]
          first
            | exact hst
            | exact hst.2
            | exact hst.2.2
            | exact hst.2.2.2
            | exact⟨by unfold D2;omega,hst⟩
            | (unfold D2;omega)
            | exact⟨hs.vs _ (Ao _),hst⟩
            | exact hs.vs _ (Ao _)
            | exact⟨hnm _ dO,hst⟩
            | exact hnm _ dO
            | exact⟨Iq,hst.2⟩
            | exact Iq
            | exact⟨han _ _ dO dO,hst.2⟩
            | exact han _ _ dO dO
            | exact⟨RV _ _ _,hst.2.2⟩
            | exact RV _ _ _
            | exact⟨Us hst.1,hst.2⟩
            | exact Us hst
            | exact⟨ME _,hst.2⟩
            | exact ME _
            | trivial
            | trace_state
        · first
            | exact hs.vs
            | (intro a ha
               rcases CH ha with ha | rfl
               · exact hs.vs a ha
               · first | exact hst.1 | exact hst)
def Xp(l:List Int)(n:Int):(Fp l n).length<=l.length+1:=by
  unfold Fp;split
  · omega
  · have:=congrArg List.length (Bt (p:=λx=>decide (x < n)) (l:=l))
    simp only[Ad,Ag] at this |-;omega
def N6(p:HW)(nm:Nat->Int)(an:Nat->Int->Int)(i:JE)(s s':ID)(h:Gc p nm an i s=some s'):s'.asked.length<=s.asked.length+1/\s'.acts.length<=s.acts.length+1/\s'.covered=s.covered:=by
  obtain⟨vars,acts,cov,asked,stack,pc⟩:=s;by_cases hr:1<=i.op/\i.op<=22
  · have c23:i.op=1\/i.op=2\/i.op=3\/i.op=4\/i.op=5\/i.op=6\/i.op=7\/i.op=8\/i.op=9\/i.op=10\/i.op=11\/i.op=12\/i.op=13\/i.op=14\/i.op=15\/i.op=16\/i.op=17\/i.op=18\/i.op=19\/i.op=20\/i.op=21\/i.op=22:=dO
    rcases stack with _ | ⟨x,_ | ⟨y,_ | ⟨z,r⟩⟩⟩
    all_goals
      rcases c23 with e | e | e | e | e | e | e | e | e | e | e | e | e | e | e | e | e | e | e | e | e | e
      all_goals
        simp only[Gc,e,Int.reduceEq,if_true,if_false,or_true,true_or,or_false,false_or,or_self] at h;first
          | (cases h;done)
          | (obtain rfl:=Aa h;refine⟨?_,?_,rfl⟩<;>dsimp only<;>(try split)<;>(try simp only[Ad,Ag,Ap])<;>omega)
          | (simp only[Ab] at h;obtain⟨_,_,rfl⟩:=h;exact⟨DR _,DR _,rfl⟩)
          | (split at h<;>(obtain rfl:=Aa h;refine⟨?_,?_,rfl⟩<;>dsimp only<;>(try simp only[Ad,Ag,Ap])<;>omega))
  · have n:∀ k:Int,1<=k->k<=22->(i.op=k)=False:=λk h1 h2=>eq_false dO
    simp only[Gc,n 1 iF iF,n 2 iF iF,n 3 iF iF,n 4 iF iF,n 5 iF iF,n 6 iF iF,n 7 iF iF,n 8 iF iF,n 9 iF iF,n 10 iF iF,n 11 iF iF,n 12 iF iF,n 13 iF iF,n 14 iF iF,n 15 iF iF,n 16 iF iF,n 17 iF iF,n 18 iF iF,n 19 iF iF,n 20 iF iF,n 21 iF iF,n 22 iF iF,if_false,or_self] at h;cases h
def kj(p:HW)(nm:Nat->Int)(an:Nat->Int->Int):∀ (k:Nat) (s:ID),(F9 p nm an k s).asked.length<=s.asked.length+k/\(F9 p nm an k s).acts.length<=s.acts.length+k/\(F9 p nm an k s).covered.length<=s.covered.length+k:=by
  intro k
  induction k with
  | zero=>intro s;exact⟨Af _,Af _,Af _⟩
  | succ k ih=>
    intro s;rw[F9];cases hc:p.code[s.pc.toNat]? with
    | none=>exact⟨AQ _ _,AQ _ _,AQ _ _⟩
    | some i=>
      simp only;have hp:=Xp s.covered s.pc;split
      · exact⟨AQ _ _,AQ _ _,ab0⟩
      · cases ho:Gc p nm an i { vars:=s.vars,acts:=s.acts,covered:=Fp s.covered s.pc,asked:=s.asked,stack:=s.stack,pc:=s.pc+1 } with
        | none=>exact⟨AQ _ _,AQ _ _,AQ _ _⟩
        | some s'=>
          obtain⟨h1,h2,h3⟩:=N6 _ _ _ _ _ _ ho;obtain⟨q1,q2,q3⟩:=ih s';have h1:s'.asked.length<=s.asked.length+1:=h1;have h2:s'.acts.length<=s.acts.length+1:=h2;have h3:s'.covered=Fp s.covered s.pc:=h3;rw[h3] at q3;show (F9 p nm an k s').asked.length<=_/\(F9 p nm an k s').acts.length<=_/\(F9 p nm an k s').covered.length<=_
          exact⟨dO,dO,dO⟩
def PH(p:HW)(h:Nat)(vars:List Int)(nm:Nat->Int)(an:Nat->Int->Int):(FF p h vars nm an).asked.length<=500/\(FF p h vars nm an).acts.length<=500/\(FF p h vars nm an).covered.length<=500:=by
  unfold FF;split
  · exact⟨AM _,AM _,AM _⟩
  · simpa [Gn] using kj p nm an 500 (Gn p h vars)
def dW{p:HW}{D:List Nat}(hp:Hc p D){nm:Nat->Int}(hnm:∀ i,i < 9->D2 (nm i)){an:Nat->Int->Int}(han:∀ i k,2<=k->k<=4->D2 (an i k)):∀ (k:Nat) (s:ID),Xd p D s->((F9 p nm an k s).vars.length:Int)=p.durable+p.volatile/\∀ x∈(F9 p nm an k s).vars,D2 x:=by
  intro k
  induction k with
  | zero=>intro s hs;exact⟨hs.vars,hs.vs⟩
  | succ k ih=>
    intro s hs;obtain⟨i,i1,_⟩:=hp.at hs.pc hs.d16;rw[F9,i1];simp only;split
    · exact⟨hs.vars,hs.vs⟩
    · rename_i hne
      obtain⟨s',e1,e2⟩:=VA hp hnm han hs i1 hne;have e1:Gc p nm an i { vars:=s.vars,acts:=s.acts,covered:=Fp s.covered s.pc,asked:=s.asked,stack:=s.stack,pc:=s.pc+1 }=some s':=e1;rw[e1];exact ih s' e2
def N9{p:HW}{D:List Nat}(hp:Hc p D){h:Nat}(hh:h < 40){vars:List Int}(hv:(vars.length:Int)=p.durable+p.volatile)(hvs:∀ x∈vars,D2 x){nm:Nat->Int}(hnm:∀ i,i < 9->D2 (nm i)){an:Nat->Int->Int}(han:∀ i k,2<=k->k<=4->D2 (an i k)) :
    ((FF p h vars nm an).vars.length:Int)=p.durable+p.volatile/\∀ x∈(FF p h vars nm an).vars,D2 x:=by
  unfold FF;split
  · exact⟨hv,hvs⟩
  · rename_i he
    have hen:0<=p.entry h/\D[(p.entry h).toNat]? = some 0:=by
      rcases hp.entry h hh with e | e
      · omega
      · exact e
    exact dW hp hnm han 500 _ ⟨hen.1,hen.2,AM _,hv,by simp[Gn],hvs⟩
def OM(d:PG)(h:F1 d)(c v:Int)(h0:¬ c < 0)(h1:¬ c >= d.cells.length)(w:NH)(hw:w∈d.pending++[NH.mk c v]):0<=w.var/\w.var < d.cells.length:=by
  rcases Aw.1 hw with hw | hw
  · exact h.var w hw
  · rw[AG] at hw;subst hw;exact⟨by show 0<=c;omega,by show c < _;omega⟩
def Um{d:PG}(h:F1 d)(c v:Int):F1 (JG d c v):=by
  have hc:=h.cells;have hp:=h.pend;unfold JG;split
  · exact h
  · rename_i hr
    have hv:=λw hw=>OM d h c v dO dO w hw
    split
    · refine⟨by rw[F2];exact hc,?_,λw hw=>?_⟩
      · rw[AI,Ad,Ag,Ap];omega
      · rw[F2];exact hv w (B5 hw)
    · rename_i hn
      exact⟨hc,by dsimp only at hn |-; omega,hv⟩
def Xe{d:PG}(h:F1 d):F1 (Xf d):=⟨by show (Gp d).length<=16;unfold Gp;rw[F2];exact h.cells,AM _,λw hw=>by simp[Xf] at hw⟩
def Mz(l:List Int)(k:Int)(b:Bool):(Jm l k b).length<=8:=by
  unfold Jm;rw[AJ];exact An (Bh _ _) iN
structure VE(r:LB)(k:Nat)(al:List Ask)(c:Hy)(cov:List Int):Prop where
  disk:F1 r.s.disk
  tim:r.s.timers.length<=1000
  sent:r.sent.length<=k
  fails:r.fails.length<=k
  asks:r.asks=al
  cause:r.cause=c
  cov:r.covered=cov
def nG{r:LB}{k:Nat}{al:List Ask}{c:Hy}{cov:List Int}(h:VE r k al c cov)(a:Act):VE (Fq r a) (k+1) al c cov:=by
  obtain⟨h1,h2,h3,h4,h5,h6,h7⟩:=h;have tl:=λb=>Mz r.s.timers a.a b
  have t1:=tl true;have t2:=tl false;unfold Fq;split
  · exact⟨Um h1 _ _,h2,Bc h3,Bc h4,h5,h6,h7⟩
  split
  · exact⟨Xe h1,h2,Bc h3,Bc h4,h5,h6,h7⟩
  split
  · exact⟨h1,ab0,Bc h3,Bc h4,h5,h6,h7⟩
  split
  · exact⟨h1,ab0,Bc h3,Bc h4,h5,h6,h7⟩
  split
  · exact⟨h1,h2,aa0,Bc h4,h5,h6,h7⟩
  split
  · split
    · exact⟨h1,h2,Bc h3,Bc h4,h5,h6,h7⟩
    · exact⟨h1,h2,Bc h3,Bc h4,h5,h6,h7⟩
  split
  · exact⟨h1,h2,Bc h3,aa0,h5,h6,h7⟩
  · exact⟨h1,h2,Bc h3,Bc h4,h5,h6,h7⟩
def PK{α β:Type}(f:β->α->β)(b:β)(l:List α)(i:Nat)(hi:i < l.length):(l.take (i+1)).foldl f b=f ((l.take i).foldl f b) l[i]:=by
  rw[Bn,Ah hi,Option.toList,Cm];rfl
def MA{r:LB}{al:List Ask}{c:Hy}{cov:List Int}(h:VE r 0 al c cov):∀ l:List Act,VE (l.foldl Fq r) l.length al c cov:=by
  suffices H:∀ (l:List Act) (r:LB) (k:Nat),VE r k al c cov->VE (l.foldl Fq r) (k+l.length) al c cov by
    intro l;have:=H l r 0 h
    rwa [A8] at this
  intro l
  induction l with
  | nil=>intro r k h;exact h
  | cons a l ih=>
    intro r k h;have:=ih _ _ (nG h a);rw[Bg,Ag,show k+(l.length+1)=k+1+l.length by omega];exact this
structure Qs(c:I2):Prop where
  progs:1<=c.programs.length/\c.programs.length<=64
  prog:∀ p∈c.programs,∃ D,Hc p D
  first:1<=c.first.length/\c.first.length<=12
  firsts:∀ v∈c.first,0<=v/\v < c.programs.length
  restarts:∀ v∈c.restarts,0<=v/\v < c.programs.length
  rlen:c.restarts.length<=1000
  reqs:c.requests.length<=300
  req:∀ r∈c.requests,0<=r.node/\r.node < c.first.length/\D2 r.op/\D2 r.key/\D2 r.arg
  crashes:0<=c.crashes/\c.crashes<=10
  drops:0<=c.drops/\c.drops<=10
  dups:0<=c.dups/\c.dups<=10
  drift:0<=c.drift/\c.drift<=3
def iu(p:HW)(n:Int)(a:Act):Prop:=
  (a.kind=1->0<=a.a/\a.a < p.durable/\D2 a.b)/\(a.kind=3->0<=a.a/\a.a < n/\0<=a.b/\a.b<=29/\D2 a.c/\D2 a.d)/\((a.kind=4\/a.kind=5)->0<=a.a/\a.a<=7)/\(a.kind=6->D2 a.a/\D2 a.b)/\(a.kind=7->D2 a.a)
def jZ{p:HW}{D:List Nat}(hp:Hc p D)(nm:Nat->Int)(an:Nat->Int->Int){s s':ID}(hs:Xd p D s){i:JE}(hi:p.code[s.pc.toNat]? = some i)(h:Gc p nm an i (Fm s)=some s') :
    s'.acts=s.acts\/∃ a,s'.acts=s.acts++[a]/\iu p (nm 1) a/\(a.kind=3->Ij s.acts < 20):=by
  obtain⟨i',e1,hk,o1,o2,ho,hpp,h16,hn⟩:=hp.at hs.pc hs.d16;rw[hi] at e1;obtain rfl:=Aa e1;have hst:=hs.st;obtain⟨vars,acts,cov,asked,stack,pc⟩:=s;simp only[Fm] at h hst |-;by_cases hr:i.op=23
  · simp only[Gc,hr,Int.reduceEq,if_false,or_self] at h
    cases h
  · have c23:i.op=1\/i.op=2\/i.op=3\/i.op=4\/i.op=5\/i.op=6\/i.op=7\/i.op=8\/i.op=9\/i.op=10\/i.op=11\/i.op=12\/i.op=13\/i.op=14\/i.op=15\/i.op=16\/i.op=17\/i.op=18\/i.op=19\/i.op=20\/i.op=21\/i.op=22:=dO
    rcases stack with _ | ⟨x,_ | ⟨y,_ | ⟨z,r⟩⟩⟩
    all_goals
      simp only[Aq,AK,false_implies,implies_true,forall_eq_or_imp,and_true] at hst;rcases c23 with e | e | e | e | e | e | e | e | e | e | e | e | e | e | e | e | e | e | e | e | e | e
      all_goals
        simp only[Gc,e,Int.reduceEq,if_true,if_false,or_true,true_or,or_false,false_or,or_self] at h;simp only[N5,e,Int.reduceEq,if_true,if_false,or_true,true_or,or_false,false_or,or_self,decide_eq_true_eq] at ho;first
          | (cases h;done)
          | (obtain rfl:=Aa h;exact DX rfl)
          | (simp only[Ab] at h;obtain⟨_,_,rfl⟩:=h;exact DX rfl)
          | (split at h<;>(obtain rfl:=Aa h;exact DX rfl))
          | (obtain rfl:=Aa h
             dsimp only
             (try split)
             all_goals first
               | exact DX rfl
               | (refine Or.inr ⟨_,rfl,⟨?_,?_,?_,?_,?_⟩,?_⟩
                  all_goals
                    intro hq;dsimp only at hq |-;first
                      | (exact absurd hq iF)
                      | omega
                      | exact⟨hst.2.1,hst.1⟩
                      | exact⟨hst.2,hst.1⟩
                      | exact hst.1
                      | exact hst
                      | (refine⟨?_,?_,?_⟩<;>first | omega | exact hst.1 | exact hst)
                      | (refine⟨?_,?_,?_,?_,?_,?_⟩<;>first | omega | exact hst.1 | exact hst.2.1)))
def j0(l:List Act)(a:Act):Ij (l++[a])=Ij l+if a.kind=3 then 1 else 0:=by
  unfold Ij;rw[Cc,Ad];by_cases h:a.kind=3<;>simp[h]
def nw(l:List Int)(n:Int):∀ x∈Fp l n,x∈l\/x=n:=by
  intro x hx;unfold Fp at hx;split at hx
  · exact .inl hx
  · rcases Aw.1 hx with h | h
    · exact .inl (DE _ h)
    · rcases Aq.1 h with rfl | h
      · exact .inr rfl
      · exact .inl (DF _ h)
structure uv(p:HW)(n:Int)(s:ID):Prop where
  acts:∀ a∈s.acts,iu p n a
  sent:Ij s.acts<=20
  cov:∀ x∈s.covered,0<=x/\x < p.code.length
def ny{p:HW}{D:List Nat}(hp:Hc p D){nm:Nat->Int}(hnm:∀ i,i < 9->D2 (nm i)){an:Nat->Int->Int}(han:∀ i k,2<=k->k<=4->D2 (an i k)):∀ (k:Nat) (s:ID),Xd p D s->uv p (nm 1) s->uv p (nm 1) (F9 p nm an k s):=by
  intro k
  induction k with
  | zero=>intro s hs he;exact he
  | succ k ih=>
    intro s hs he;obtain⟨i,i1,i2,_⟩:=hp.at hs.pc hs.d16;have hc:∀ x∈Fp s.covered s.pc,0<=x/\x < p.code.length:=λx hx=>by
      rcases nw _ _ x hx with h | rfl
      · exact he.cov x h
      · have:=hs.pc0;omega
    rw[F9,i1];simp only;split
    · exact⟨he.acts,he.sent,hc⟩
    · rename_i hne
      obtain⟨s',e1,e2⟩:=VA hp hnm han hs i1 hne;have ha:=jZ hp nm an hs i1 e1;have hcov:=(N6 p nm an i (Fm s) s' e1).2.2;have e1:Gc p nm an i { vars:=s.vars,acts:=s.acts,covered:=Fp s.covered s.pc,asked:=s.asked,stack:=s.stack,pc:=s.pc+1 }=some s':=e1;rw[e1];refine ih s' e2 ?_;rcases ha with h | ⟨a,h,h1,h2⟩
      · exact⟨by rw[h];exact he.acts,by rw[h];exact he.sent,by rw[hcov];exact hc⟩
      · refine⟨by rw[h];intro b hb;rcases Aw.1 hb with hb | hb;exact he.acts b hb;rw[AG.1 hb];exact h1,?_,by rw[hcov];exact hc⟩
        rw[h,j0];have:=he.sent;split
        · rename_i hk;have:=h2 hk;omega
        · omega
def nz{p:HW}{D:List Nat}(hp:Hc p D){h:Nat}(hh:h < 40){vars:List Int}(hv:(vars.length:Int)=p.durable+p.volatile)(hvs:∀ x∈vars,D2 x){nm:Nat->Int}(hnm:∀ i,i < 9->D2 (nm i)){an:Nat->Int->Int}(han:∀ i k,2<=k->k<=4->D2 (an i k)):uv p (nm 1) (FF p h vars nm an):=by
  have h0:uv p (nm 1) (Gn p h vars):=⟨λa ha=>by simp[Gn] at ha,by simp[Gn,Ij],λa ha=>by simp[Gn] at ha⟩
  unfold FF;split
  · exact h0
  · rename_i he
    have hen:0<=p.entry h/\D[(p.entry h).toNat]? = some 0:=by
      rcases hp.entry h hh with e | e
      · omega
      · exact e
    exact ny hp hnm han 500 _ ⟨hen.1,hen.2,AM _,hv,by simp[Gn],hvs⟩ h0
structure Iy(c:I2)(k:Int)(s:FZ):Prop where
  disk:F1 s.disk
  dcell:∀ x∈s.disk.cells,D2 x
  dpend:∀ w∈s.disk.pending,D2 w.value
  voll:s.vol.length<=16
  vol:∀ x∈s.vol,D2 x
  timl:s.timers.length<=8
  tim:∀ t∈s.timers,0<=t/\t<=7
  tims:s.timers.Pairwise (· < ·)
  clk:0<=s.clock/\s.clock<=4 * k
  cnt:∀ h,h < 41->0<=s.counts h/\s.counts h<=k
  ep:0<=s.epoch/\s.epoch<=k
  ver : -1<=s.version/\s.version < c.programs.length
  up:s.up=true->∃ p,c.programs[s.version.toNat]? = some p/\0<=s.version/\(s.disk.cells.length:Int)=p.durable/\(s.vol.length:Int)=p.volatile
  wait : -1<=s.waiting/\s.waiting < c.requests.length
  drop:0<=s.dropped/\s.dropped<=k
  dbl:0<=s.doubled/\s.doubled<=k
def Iy.mono{c:I2}{k k':Int}{s:FZ}(h:Iy c k s)(hk:k<=k'):Iy c k' s:=
  { h with
    clk:=⟨h.clk.1,by have:=h.clk.2;omega⟩
    cnt:=λi hi=>⟨(h.cnt i hi).1,by have:=(h.cnt i hi).2;omega⟩
    ep:=⟨h.ep.1,by have:=h.ep.2;omega⟩
    drop:=⟨h.drop.1,by have:=h.drop.2;omega⟩
    dbl:=⟨h.dbl.1,by have:=h.dbl.2;omega⟩ }
def IH:∀ (l:List NH) (cs:List Int),(∀ x∈cs,D2 x)->(∀ w∈l,D2 w.value)->∀ x∈GW cs l,D2 x
  | [],cs,hc,hl=>hc
  | w::r,cs,hc,hl=>IH r _ (λx hx=>by
      rcases CH hx with h | rfl
      · exact hc x h
      · exact hl w iN) λw hw=>hl w (by simp[hw])
def Iy.view{c:I2}{k:Int}{s:FZ}(h:Iy c k s):∀ x∈Gp s.disk,D2 x:=IH _ _ h.dcell h.dpend
def Iy.vars{c:I2}{k:Int}{s:FZ}(h:Iy c k s):∀ x∈GK s,D2 x:=λx hx=>by
  rcases Aw.1 hx with hx | hx
  · exact h.view x hx
  · exact h.vol x hx
def N7:∀ (l:List NH) (b:List Bool),∀ w∈Hx l b,w∈l
  | [],b,w,hw=>by cases b<;>simp[Hx] at hw
  | x::l,[],w,hw=>by simp[Hx] at hw
  | x::l,k::b,w,hw=>by
    rw[Hx] at hw;split at hw
    · rcases Aq.1 hw with rfl | hw
      · simp
      · exact Bo _ (N7 l b w hw)
    · exact Bo _ (N7 l b w hw)
def RP(n:Int)(e:GF):Prop:=0<=e.to/\e.to < n/\0<=e.kind/\e.kind<=29/\D2 e.a/\D2 e.b/\D2 e.msg.node
structure nC(p:HW)(n:Int)(r0:FZ)(r:LB)(m:Nat):Prop where
  core:r.s={ r0 with disk:=r.s.disk,timers:=r.s.timers,waiting:=r.s.waiting }
  disk:F1 r.s.disk
  dlen:(r.s.disk.cells.length:Int)=p.durable
  dcell:∀ x∈r.s.disk.cells,D2 x
  dpend:∀ w∈r.s.disk.pending,D2 w.value
  timl:r.s.timers.length<=8
  tim:∀ t∈r.s.timers,0<=t/\t<=7
  tims:r.s.timers.Pairwise (· < ·)
  wait:r.s.waiting=r0.waiting\/r.s.waiting = -1
  sent:r.sent.length=m
  evl:∀ e∈r.sent,RP n e
  cau:D2 r.cause.node
def Qv(l:List Int)(k:Int)(b:Bool):∀ t∈Jm l k b,0<=t/\t<=7:=by
  intro t ht;unfold Jm at ht;obtain⟨i,hi,rfl⟩:=AT.1 ht;have:=Bp.1 (Bz.1 hi).1;omega
def OK(l:List Int)(k:Int)(b:Bool):(Jm l k b).Pairwise (· < ·):=by
  unfold Jm;rw[List.pairwise_map];exact (CF _ List.pairwise_lt_range).imp λh=>dO
def dQ(d:PG)(c v:Int):(JG d c v).cells.length=d.cells.length:=by
  unfold JG;split
  · rfl
  split
  · exact F2 _ _
  · rfl
def zd{p:HW}{n:Int}{r0:FZ}{r:LB}{m:Nat}(h:nC p n r0 r m){a:Act}(ha:iu p n a):nC p n r0 (Fq r a) (m+if a.kind=3 then 1 else 0):=by
  obtain⟨a1,a3,a4,a6,a7⟩:=ha;unfold Fq;by_cases h1:a.kind=1
  · rw[if_pos h1,if_neg dO]
    have hw:=(a1 h1).2.2;have hpn:∀ w∈r.s.disk.pending++[NH.mk a.a a.b],D2 w.value:=λw hw'=>by
      rcases Aw.1 hw' with hw' | hw'
      · exact h.dpend w hw'
      · rw[AG.1 hw'];exact hw
    refine { h with core:=?_,disk:=Um h.disk _ _,dlen:=by dsimp only;rw[dQ];exact h.dlen,dcell:=?_,dpend:=?_,.. }
    · dsimp only;rw[h.core]
    · dsimp only
      unfold JG;split
      · exact h.dcell
      split
      · exact IH _ _ h.dcell λw hw'=>hpn w (Bm hw')
      · exact h.dcell
    · dsimp only
      unfold JG;split
      · exact h.dpend
      split
      · exact λw hw'=>hpn w (B5 hw')
      · exact hpn
  rw[if_neg h1];by_cases h2:a.kind=2
  · rw[if_pos h2,if_neg dO]
    exact { h with core:=by dsimp only;rw[h.core],disk:=Xe h.disk,dlen:=by show ((Gp r.s.disk).length:Int)=_;unfold Gp;rw[F2];exact h.dlen,dcell:=IH _ _ h.dcell h.dpend,dpend:=λw hw=>by simp[Xf] at hw }
  rw[if_neg h2];by_cases h4:a.kind=4
  · rw[if_pos h4,if_neg dO]
    exact { h with core:=by dsimp only;rw[h.core],timl:=Mz _ _ _,tim:=Qv _ _ _,tims:=OK _ _ _ }
  rw[if_neg h4];by_cases h5:a.kind=5
  · rw[if_pos h5,if_neg dO]
    exact { h with core:=by dsimp only;rw[h.core],timl:=Mz _ _ _,tim:=Qv _ _ _,tims:=OK _ _ _ }
  rw[if_neg h5];by_cases h3:a.kind=3
  · rw[if_pos h3,if_pos h3]
    refine { h with sent:=by dsimp only;rw[Ad,h.sent];rfl,evl:=λe he=>?_ };rcases Aw.1 he with he | he
    · exact h.evl e he
    · rw[AG.1 he]
      obtain⟨b1,b2,b3,b4,b5,b6⟩:=a3 h3;exact⟨b1,b2,b3,b4,b5,b6,h.cau⟩
  rw[if_neg h3,if_neg h3];by_cases h6:a.kind=6
  · rw[if_pos h6]
    split
    · exact { h with core:=by dsimp only;rw[h.core],wait:=.inr rfl }
    · exact h
  rw[if_neg h6];split
  · exact { h with }
  · exact h
def nD{p:HW}{n:Int}{r0:FZ}:∀ (l:List Act) {r:LB} {m:Nat},nC p n r0 r m->(∀ a∈l,iu p n a)->nC p n r0 (l.foldl Fq r) (m+Ij l)
  | [],r,m,h,_=>h
  | a::l,r,m,h,hl=>by
    have:=nD l (zd h (hl a iN)) λb hb=>hl b (by simp[hb])
    rw[Bg];have e:Ij (a::l)=(if a.kind=3 then 1 else 0)+Ij l:=by
      unfold Ij;rw[List.filter_cons];by_cases hk:a.kind=3<;>simp[hk];omega
    rw[e,<- Bv];exact this
structure Xg(c:I2)(k:Int)(r:LB):Prop where
  s:Iy c k r.s
  sent:r.sent.length<=20
  evl:∀ e∈r.sent,RP c.first.length e
  fails:r.fails.length<=500
  cov:r.covered.length<=500
  asks:r.asks.length<=501
def Qw(l:List Gy)(q:Qn)(k:Int)(hk:0 < k):0<=EJ l q k/\EJ l q k < k:=⟨Bf _ (HD _ _),A2 _ hk⟩
def RQ(la:List Gy)(c:Hy):∀ (i:Nat) (k:Int),2<=k->k<=4->D2 (Ik la c i k):=λi k h1 h2=>by
  have:=Qw la (c.q 1 i) k dO;unfold Ik D2;omega
def Fs{f:Nat->Int}{n:Nat}{i:Nat}{x:Int}(hf:∀ j,j < n->D2 (f j))(hx:D2 x):∀ j,j < n->D2 (FG f i x j):=λj hj=>by
  unfold FG;split
  · exact hx
  · exact hf j hj
def dR{α β:Type}(f:Nat->α->β)(l:List α):(l.mapIdx f).length=l.length:=List.length_mapIdx
def N8{c:I2}{k:Int}{s:FZ}{p:HW}{D:List Nat}(hc:Qs c)(hp:Hc p D)(h:Iy c k s)(hk:0<=k/\k<=5000)(hup:s.up=true)(hv0:0<=s.version)(hpv:c.programs[s.version.toNat]? = some p)(hdl:(s.disk.cells.length:Int)=p.durable)(hvl:(s.vol.length:Int)=p.volatile)
    {hd:Nat} (hh:hd < 40) {self:Int} (hself:D2 self) {nm:Nat->Int} (hnm:∀ i,i < 9->D2 (nm i)) (la:List Gy):Xg c (k+1) (FR s p hd self c.first.length c.drift nm la):=by
  have hdr:=hc.drift;have hf:=hc.first
  have hlk:=Qw la ((⟨self,hd,s.counts hd⟩:Hy).q 2 0) (c.drift+1) dO;have hclk:=h.clk;obtain⟨now,hnow⟩:∃ now:Int,now=s.clock+1+if 0 < c.drift then EJ la ((⟨self,hd,s.counts hd⟩:Hy).q 2 0) (c.drift+1) else 0:=⟨_,rfl⟩
  have hnow1:0<=now/\now<=4 * (k+1):=by rw[hnow];split<;>omega
  have hnm2:∀ i,i < 9->D2 (Ft nm self c.first.length now i):=Fs (Fs (Fs hnm hself) (by unfold D2;omega)) (by unfold D2;omega);have hvars:((GK s).length:Int)=p.durable+p.volatile:=by
    unfold GK Gp;rw[Ad,F2];omega
  have hem:=nz hp hh hvars h.vars hnm2 (RQ la ⟨self,hd,s.counts hd⟩);have hvr:=N9 hp hh hvars h.vars hnm2 (RQ la ⟨self,hd,s.counts hd⟩);have hlen:=PH p hd (GK s) (Ft nm self c.first.length now) (Ik la ⟨self,hd,s.counts hd⟩);have hn1:Ft nm self c.first.length now 1=c.first.length:=rfl
  rw[hn1] at hem;obtain⟨o,ho⟩:∃ o,o=FF p hd (GK s) (Ft nm self c.first.length now) (Ik la ⟨self,hd,s.counts hd⟩):=⟨_,rfl⟩
  rw[<- ho] at hem hvr hlen;have hdur:=hp.dur;have hvol:=hp.vol;have hcnt:=h.cnt;obtain⟨r0,hr0⟩:∃ r0:LB,r0=⟨{ s with clock:=now,counts:=FG s.counts hd (s.counts hd+1),vol:=o.vars.drop p.durable.toNat },(if 0 < c.drift then [⟨(⟨self,hd,s.counts hd⟩:Hy).q 2 0,c.drift+1,EJ la ((⟨self,hd,s.counts hd⟩:Hy).q 2 0) (c.drift+1)⟩] else [])++E2 la ⟨self,hd,s.counts hd⟩ o.asked,[],false,0,[],⟨self,hd,s.counts hd⟩,o.covered⟩:=⟨_,rfl⟩
  have he:FR s p hd self c.first.length c.drift nm la=o.acts.foldl Fq r0:=by rw[hr0,ho,hnow];rfl
  have hJ:nC p c.first.length r0.s r0 0:=by
    rw[hr0];exact⟨rfl,h.disk,hdl,h.dcell,h.dpend,h.timl,h.tim,h.tims,.inl rfl,rfl,λe he=>by simp at he,hself⟩
  have hI:VE r0 0 r0.asks r0.cause r0.covered:=⟨by rw[hr0];exact h.disk,by rw[hr0];have:=h.timl;dsimp only;omega,by rw[hr0];exact Af _,by rw[hr0];exact Af _,rfl,rfl,rfl⟩
  have hJ2:=nD o.acts hJ hem.acts;have hI2:=MA hI o.acts;rw[he];have hsent:=hem.sent;have hcore:=hJ2.core;refine⟨?_,by rw[hJ2.sent];omega,hJ2.evl,by have:=hI2.fails;omega,by rw[hI2.cov,hr0];exact hlen.2.2,?_⟩
  · have q:∀ {α:Type} (f:FZ->α),(∀ a:FZ,f { a with disk:=(o.acts.foldl Fq r0).s.disk,timers:=(o.acts.foldl Fq r0).s.timers,waiting:=(o.acts.foldl Fq r0).s.waiting }=f a)->f (o.acts.foldl Fq r0).s=f r0.s:=λf hf=>by rw[hcore];exact hf _
    have q1:_=o.vars.drop p.durable.toNat:=(q FZ.vol λ_=>rfl).trans (by rw[hr0]);have q2:_=now:=(q FZ.clock λ_=>rfl).trans (by rw[hr0]);have q3:_=FG s.counts hd (s.counts hd+1):=(q FZ.counts λ_=>rfl).trans (by rw[hr0]);have q4:_=s.epoch:=(q FZ.epoch λ_=>rfl).trans (by rw[hr0]);have q5:_=s.version:=(q FZ.version λ_=>rfl).trans (by rw[hr0]);have q7:_=s.dropped:=(q FZ.dropped λ_=>rfl).trans (by rw[hr0]);have q8:_=s.doubled:=(q FZ.doubled λ_=>rfl).trans (by rw[hr0]);have hvl2:(o.vars.drop p.durable.toNat).length=p.volatile:=by rw[AI];have:=hvr.1;omega
    have hv16:=hp.vars;refine⟨hJ2.disk,hJ2.dcell,hJ2.dpend,?_,?_,hJ2.timl,hJ2.tim,hJ2.tims,?_,?_,?_,?_,?_,?_,?_,?_⟩
    · rw[q1];omega
    · rw[q1];exact λx hx=>hvr.2 x (B5 hx)
    · rw[q2];exact hnow1
    · intro i hi
      rw[q3];have h1:=hcnt i hi;unfold FG;split
      · rename_i e;subst e;omega
      · omega
    · rw[q4];have:=h.ep;omega
    · rw[q5];exact h.ver
    · intro _
      rw[q5,q1];exact⟨p,hpv,hv0,hJ2.dlen,hvl2⟩
    · have hw:r0.s.waiting=s.waiting:=by rw[hr0]
      have:=h.wait;rcases hJ2.wait with e | e
      · rw[e,hw];exact this
      · rw[e];omega
    · rw[q7];have:=h.drop;omega
    · rw[q8];have:=h.dbl;omega
  · rw[hI2.asks,hr0]
    dsimp only;unfold E2;rw[Ad,dR];have:=hlen.1;split<;>simp<;>omega
def Un{c:I2}{k:Int}{s:FZ}{p:HW}{D:List Nat}(hc:Qs c)(hp:Hc p D)(h:Iy c k s)(hk:0<=k/\k<=5000){v:Int}(hv0:0<=v)(hpv:c.programs[v.toNat]? = some p){self:Int}(hself:D2 self)(la:List Gy):Xg c (k+1) (JH s p v self c.first.length c.drift la):=by
  have hdur:=hp.dur;have hvol:=hp.vol;have hv16:=hp.vars;have hvi:v < c.programs.length:=by
    have:=(Am.1 hpv).1;omega
  obtain⟨d,hd⟩:∃ d,d=if (s.disk.cells.length:Int)=p.durable then s.disk else Hs s.disk p.durable.toNat:=⟨_,rfl⟩
  have hrz:(Hs s.disk p.durable.toNat).cells.length=p.durable.toNat:=by
    unfold Hs;dsimp only;rw[As,Ad,AS];omega
  have hd1:F1 d:=by
    rw[hd];split
    · exact h.disk
    · exact⟨by rw[hrz];omega,AM _,λw hw=>by simp[Hs] at hw⟩
  have hd2:(d.cells.length:Int)=p.durable:=by
    rw[hd];split
    · rename_i e;exact e
    · rw[hrz];omega
  have hd3:∀ x∈d.cells,D2 x:=by
    rw[hd];split
    · exact h.dcell
    · intro x hx
      have hx:x∈((Gp s.disk)++List.replicate (p.durable.toNat - (Gp s.disk).length) 0).take p.durable.toNat:=hx;rcases Aw.1 (Bm hx) with hx | hx
      · exact h.view x hx
      · rw[CQ hx];exact Iq
  have hd4:∀ w∈d.pending,D2 w.value:=by
    rw[hd];split
    · exact h.dpend
    · intro w hw;simp[Hs] at hw
  have hn:Iy c k { s with version:=v,disk:=d,vol:=List.replicate p.volatile.toNat 0,timers:=[],waiting:=-1,up:=true }:=
    { h with disk:=hd1,dcell:=hd3,dpend:=hd4,voll:=by rw[AS];omega,vol:=λx hx=>by rw[CQ hx];exact Iq,timl:=AM _,tim:=λt ht=>by simp at ht,tims:=List.Pairwise.nil,ver:=⟨ab0,hvi⟩,up:=λ_=>⟨p,hpv,hv0,hd2,by dsimp only;rw[AS];omega⟩,wait:=⟨ab0,ab0⟩ }
  have:=N8 hc hp hn hk rfl hv0 hpv hd2 (by dsimp only;rw[AS];omega) (hd:=0) iF hself (nm:=λ_=>0) (λ_ _=>Iq) la;unfold JH;rw[<- hd];exact this
def Uo{c:I2}{k:Int}{s:FZ}(h:Iy c k s)(self:Int)(la:List Gy):Xg c (k+1) (GX s self la):=by
  have hcnt:=h.cnt;have hep:=h.ep;have hdk:F1 (GX s self la).s.disk:=⟨by show (GW _ _).length<=16;rw[F2];exact h.disk.cells,AM _,λw hw=>by simp[GX,PI] at hw⟩
  refine⟨?_,AM _,λe he=>by simp[GX] at he,AM _,AM _,?_⟩
  · refine⟨hdk,?_,λw hw=>by simp[GX,PI] at hw,?_,?_,AM _,λt ht=>by simp[GX] at ht,List.Pairwise.nil,?_,?_,?_,h.ver,λe=>by simp[GX] at e,⟨by show (-1:Int)<= -1;omega,by show (-1:Int) < _;omega⟩,?_,?_⟩
    · exact IH _ _ h.dcell λw hw=>h.dpend w (N7 _ _ w hw)
    · show (List.replicate s.vol.length (0:Int)).length<=16
      rw[AS];exact h.voll
    · intro x hx
      have hx:x∈List.replicate s.vol.length (0:Int):=hx;rw[CQ hx];exact Iq
    · have:=h.clk;show 0<=s.clock/\s.clock<=4 * (k+1);omega
    · intro i hi
      show 0<=FG s.counts 40 (s.counts 40+1) i/\FG s.counts 40 (s.counts 40+1) i<=k+1
      have h1:=hcnt i hi;unfold FG;split
      · rename_i e;subst e;omega
      · omega
    · show 0<=s.epoch+1/\s.epoch+1<=k+1;omega
    · have:=h.drop;show 0<=s.dropped/\s.dropped<=k+1;omega
    · have:=h.dbl;show 0<=s.doubled/\s.doubled<=k+1;omega
  · show ((List.range s.disk.pending.length).map _).length<=501
    rw[AJ,BO];have:=h.disk.pend;omega
def Up(a b:KD):RR a b\/a=b\/RR b a:=by
 obtain⟨a1,a2,a3,a4,a5⟩:=a;obtain⟨b1,b2,b3,b4,b5⟩:=b;unfold RR;simp only[KD.mk.injEq];omega
def ka{a b c:KD}(h:RR a b)(k:RR b c):RR a c:=by unfold RR at *; omega
def kb(a b:Fu):NI a b\/a=b\/NI b a:=by
 obtain⟨a1,a2,a3,a4⟩:=a;obtain⟨b1,b2,b3,b4⟩:=b;unfold NI;dsimp only;rcases Dp a1 b1 with h1 | h1 | h1
 ·exact .inl (.inl h1)
 ·rcases Dp a2 b2 with h2 | h2 | h2
  ·exact .inl (.inr ⟨h1,.inl h2⟩)
  ·rcases Dp a3 b3 with h3 | h3 | h3
   ·exact .inl (.inr ⟨h1,.inr ⟨h2,.inl h3⟩⟩)
   ·rcases Up a4 b4 with h4 | h4 | h4
    ·exact .inl (.inr ⟨h1,.inr ⟨h2,.inr ⟨h3,h4⟩⟩⟩)
    ·exact .inr (.inl (by rw[h1,h2,h3,h4]))
    ·exact .inr (.inr (.inr ⟨h1.symm,.inr ⟨h2.symm,.inr ⟨h3.symm,h4⟩⟩⟩))
   ·exact .inr (.inr (.inr ⟨h1.symm,.inr ⟨h2.symm,.inl h3⟩⟩))
  ·exact .inr (.inr (.inr ⟨h1.symm,.inl h2⟩))
 ·exact .inr (.inr (.inl h1))
def kd{a b c:Fu}(h:NI a b)(k:NI b c):NI a c:=by unfold NI RR at *; omega
def Ra{α:Type}{p:α->Bool}{l:List α}{x:α}(h:x∈l.takeWhile p):p x=true:=by
 induction l with
 | nil=>simp at h
 | cons y l ih=>
  rw[C9] at h;split at h
  ·rename_i hy
   rcases Aq.1 h with rfl | h
   ·exact hy
   ·exact ih h
  ·simp at h
def RS{α:Type}{p:α->Bool}{l:List α}{x:α}{r:List α}(h:l.dropWhile p=x::r):p x=false:=by
 induction l with
 | nil=>simp at h
 | cons y l ih=>
  rw[Da] at h;split at h
  ·exact ih h
  ·rename_i hy
   cases h
   simpa using hy
def sorted_put{α:Type}{R:α->α->Prop}{p:α->Bool}{l:List α}{e:α}(hs:l.Pairwise R)(h1:∀ x∈l,p x=true->R x e)(h2:∀ x∈l,p x=false->R e x)(ht:∀ {a b c},R a b->R b c->R a c):(l.takeWhile p++e::l.dropWhile p).Pairwise R:=by
 have hap:=Bt (p:=p) (l:=l);have hs2:=hs;rw[<- hap] at hs2;obtain⟨s1,s2,s3⟩:=List.pairwise_append.1 hs2;have hd:∀ x∈l.dropWhile p,R e x:=by
  intro x hx;cases hdw:l.dropWhile p with
  | nil=>rw[hdw] at hx;simp at hx
  | cons y r=>
   have hy:=h2 y (DF _ (by rw[hdw];simp)) (RS hdw);rw[hdw] at hx s2;rcases Aq.1 hx with rfl | hx
   ·exact hy
   ·exact ht hy (List.rel_of_pairwise_cons s2 hx)
 refine List.pairwise_append.2 ⟨s1,List.pairwise_cons.2 ⟨hd,s2⟩,λa ha b hb=>?_⟩;rcases Aq.1 hb with rfl | hb
 ·exact h1 a (DE _ ha) (Ra ha)
 ·exact s3 a ha b hb
def NJ(l:List GF):Prop:=l.Pairwise λa b=>RR a.msg b.msg
def Uq{l:List GF}{e:GF}(hs:NJ l)(hh:TO e.msg l=false):NJ (Oa e l):=by
 refine sorted_put hs (λx _ h=>of_decide_eq_true h) (λx hx h=>?_) (λh k=>ka h k);have h1:=of_decide_eq_false h;have h2:x.msg≠e.msg:=λe'=>by
  have:=List.any_eq_false.1 hh x hx;simp[e'] at this
 rcases Up x.msg e.msg with h3 | h3 | h3
 ·exact absurd h3 h1
 ·exact absurd h3 h2
 ·exact h3
def Xh(l:List GF)(e x:GF):x∈Oa e l↔x=e\/x∈l:=by
 unfold Oa
 conv=>rhs;rw[<- Bt (p:=λx=>decide (RR x.msg e.msg)) (l:=l)]
 simp only[Aw,Aq];constructor
 ·rintro (h | h | h)
  ·exact .inr (.inl h)
  ·exact .inl h
  ·exact .inr (.inr h)
 ·rintro (h | h | h)
  ·exact .inr (.inl h)
  ·exact .inl h
  ·exact .inr (.inr h)
def Xi(l:List GF)(e:GF):(Oa e l).length=l.length+1:=by
 have h:=congrArg List.length (Bt (p:=λx=>decide (RR x.msg e.msg)) (l:=l));rw[Ad] at h;unfold Oa;rw[Ad,Ag];omega
def kf{l:List GF}{e:GF}(hs:NJ l):NJ (Kf l e):=by
 unfold Kf;split
 ·exact List.Pairwise.nil
 ·rename_i h;exact Uq hs ae0
def nE{l:List GF}{e x:GF}(h:x∈Kf l e):x=e\/x∈l:=by
 unfold Kf at h;split at h
 ·simp at h
 ·exact (Xh l e x).1 h
def Xj(l:List GF)(e:GF):(Kf l e).length<=l.length+1:=by
 unfold Kf;split
 ·simp
 ·rw[Xi];omega
def iv{n:Int}:∀ (sent:List GF) {l:List GF},NJ l->(∀ e∈l,RP n e)->(∀ e∈sent,RP n e)->NJ (sent.foldl Kf l)/\(∀ e∈sent.foldl Kf l,RP n e)/\(sent.foldl Kf l).length<=l.length+sent.length
 | [],l,h1,h2,_=>⟨h1,h2,Af _⟩
 | x::sent,l,h1,h2,h3=>by
  obtain⟨a,b,c⟩:=iv (n:=n) sent (l:=Kf l x) (kf h1) (λe he=>by
   rcases nE he with rfl | he
   ·exact h3 _ iN
   ·exact h2 e he) λe he=>h3 e (by simp[he])
  refine⟨a,b,?_⟩;have:=Xj l x;rw[Bg,Ag];omega
def LC{l:List GF}(m:KD)(hs:NJ l):NJ (Gq m l):=CF _ hs
def MB{l:List GF}{m:KD}{x:GF}(h:x∈Gq m l):x∈l:=(Bz.1 h).1
def LD(l:List GF)(m:KD):(Gq m l).length<=l.length:=Bh _ _
def dS(l:List JE)(x:JE):(II l x).length<=l.length+1:=by
 unfold II;dsimp only;split
 ·omega
 ·have hi:(l.takeWhile λy=>decide (ta y x)).length<=l.length:=(Dy _).length_le
  rw[Ad,Ag,As,AI];omega
def Ob:∀ (m l:List JE),(m.foldl II l).length<=l.length+m.length
 | [],l=>Af _
 | x::m,l=>by
  have:=Ob m (II l x);have:=dS l x;rw[Bg,Ag];omega
def LF(c:I2)(n i:Int) : -1<=E8 c n i/\(c.requests.length=0->E8 c n i = -1)/\(E8 c n i < c.requests.length):=by
 unfold E8;split
 ·rename_i k hk
  have h1:=Bs hk;have h2:=Bp.1 (Bz.1 h1).1;omega
 ·omega
structure WI(w:E4)(k o:Int):Prop where
 cfg:Qs w.c
 nl:w.nodes.length=w.c.first.length
 node:∀ s∈w.nodes,Iy w.c k s
 xl:w.next.length=w.c.first.length
 next:∀ x∈w.next,-1<=x/\x < w.c.requests.length
 evl:∀ e∈w.flight,RP w.c.first.length e
 fl:(w.flight.length:Int)<=20 * k
 fs:NJ w.flight
 ol:(w.obs.length:Int)<=o
 fal:w.failures.length=w.c.first.length
 fai:∀ l∈w.failures,(l.length:Int)<=500 * k
 trl:w.traces.length=w.c.first.length
 tr:∀ l∈w.traces,(l.length:Int)<=k
 cov:(w.covered.length:Int)<=500 * k
structure JI(w:E4):Prop where
 inv:WI w w.steps (2 * w.steps)
 st:0<=w.steps/\w.steps<=5000
def WI.mono{w:E4}{k o k' o':Int}(h:WI w k o)(hk:k<=k')(ho:o<=o'):WI w k' o':=
 { h with
  node:=λs hs=>(h.node s hs).mono hk
  fl:=by have:=h.fl;omega
  ol:=by have:=h.ol;omega
  fai:=λl hl=>by have:=h.fai l hl;omega
  tr:=λl hl=>by have:=h.tr l hl;omega
  cov:=by have:=h.cov;omega }
def Xk{c:I2}(hc:Qs c):JI (JU c):=by
 refine⟨⟨hc,by simp[JU],λs hs=>?_,by simp[JU],λx hx=>?_,λe he=>by simp[JU] at he,by simp[JU],List.Pairwise.nil,by simp[JU],by simp[JU],λl hl=>?_,by simp[JU],λl hl=>?_,by simp[JU]⟩,by show (0:Int)<=0;omega,by show (0:Int)<=5000;omega⟩
 ·obtain⟨_,_,rfl⟩:=AT.1 hs
  refine⟨⟨AM _,AM _,λw hw=>by simp[Fl] at hw⟩,λx hx=>by simp[Fl] at hx,λx hx=>by simp[Fl] at hx,AM _,λx hx=>by simp[Fl] at hx,AM _,λx hx=>by simp[Fl] at hx,List.Pairwise.nil,?_,λi hi=>?_,?_,?_,λh=>by simp[Fl] at h,?_,?_,?_⟩;all_goals simp[Fl,JU];all_goals omega
 ·obtain⟨n,_,rfl⟩:=AT.1 hx
  have:=LF c n (-1);exact⟨this.1,this.2.2⟩
 ·obtain⟨_,_,rfl⟩:=AT.1 hl
  simp[JU]
 ·obtain⟨_,_,rfl⟩:=AT.1 hl
  simp[JU]
def M8{α:Type}{l:List α}{n:Nat}{x y:α}(h:y∈l.set n x):y∈l\/y=x:=CH h
def MC{α:Type}{l:List α}{n:Nat}(h:n < l.length)(d:α):l.getD n d∈l:=by
 rw[List.getD,Ah h];exact Ao h
def Kg{w:E4}{k o:Int}(h:WI w k o){n:Nat}(hn:n < w.nodes.length){f:FZ->FZ}(hf:Iy w.c k (f (w.nodes.getD n Fl))):WI (Il w n f) k o:=
 { h with
  nl:=by show (w.nodes.set _ _).length=_;rw[A7];exact h.nl
  node:=λs hs=>by
   rcases M8 hs with hs | rfl
   ·exact h.node s hs
   ·exact hf }
def Qx{w:E4}{k o:Int}(h:WI w k o)(n:Nat)(hn:n < w.nodes.length)(ht:(w.traces.getD n []).length+1<=k):WI (Ir w n) k o:=
 { h with
  trl:=by show (w.traces.set _ _).length=_;rw[A7];exact h.trl
  tr:=λl hl=>by
   rcases M8 hl with hl | rfl
   ·exact h.tr l hl
   ·rw[Ad,Br];omega }
def Qy{w:E4}{k o:Int}(h:WI w k o)(hk:0<=k){n:Nat}(hn:n < w.nodes.length){r:LB}(hr:Xg w.c (k+1) r)(waiting:Int):WI (Ht w n r waiting) (k+1) (o+1):=by
 have h':=h.mono (show k<=k+1 by omega) (show o<=o+1 by omega);obtain⟨a1,a2,a3⟩:=iv r.sent h.fs h.evl hr.evl;have hfl:=h.fl;have hs20:=hr.sent;have hol:=h.ol;have hfn:n < w.failures.length:=by rw[h.fal,<- h.nl];exact hn
 have htn:n < w.traces.length:=by rw[h.trl,<- h.nl];exact hn
 have hff:=h.fai _ (MC hfn []);have htt:=h.tr _ (MC htn []);have hcv:=Ob (r.covered.map λi=>(⟨r.s.version,i⟩:JE)) w.covered;rw[AJ] at hcv;have hrc:=hr.cov;have hrf:=hr.fails;have hcov:=h.cov;unfold Ht;refine Qx ?_ n (by dsimp only;rw[A7];exact hn) ab0;refine { h' with nl:=?_,node:=λs hs=>?_,evl:=a2,fl:=?_,fs:=a1,ol:=?_,fal:=?_,fai:=λl hl=>?_,cov:=?_ }
 ·dsimp only;rw[A7];exact h.nl
 ·rcases M8 hs with hs | rfl
  ·exact h'.node s hs
  ·exact hr.s
 ·dsimp only;omega
 ·dsimp only
  split
  ·rw[Ad,Br];omega
  ·omega
 ·dsimp only;rw[A7];exact h.fal
 ·rcases M8 hl with hl | rfl
  ·exact h'.fai l hl
  ·rw[Ad,AJ];omega
 ·dsimp only;omega
def nF(l:List Fu)(e x:Fu):x∈TP l e↔x=e\/x∈l:=by
 unfold TP;split
 ·rename_i h
  exact⟨.inr,λh'=>h'.elim (λe'=>by rw[e'];exact h) id⟩
 ·conv=>rhs;rw[<- Bt (p:=λx=>decide (NI x e)) (l:=l)]
  simp only[Aw,Aq];constructor
  ·rintro (h | h | h)
   ·exact .inr (.inl h)
   ·exact .inl h
   ·exact .inr (.inr h)
  ·rintro (h | h | h)
   ·exact .inr (.inl h)
   ·exact .inl h
   ·exact .inr (.inr h)
def Xl:∀ (m l:List Fu) (x:Fu),x∈m.foldl TP l↔x∈m\/x∈l
 | [],l,x=>iN
 | y::m,l,x=>by
  rw[Bg,Xl m,nF,Aq];constructor
  ·rintro (h | h | h)
   ·exact .inl (.inr h)
   ·exact .inl (.inl h)
   ·exact .inr h
  ·rintro ((h | h) | h)
   ·exact .inr (.inl h)
   ·exact .inl h
   ·exact .inr (.inr h)
def Xm(w:E4)(e:Fu):e∈FO w↔∃ n s,w.nodes[n]? = some s/\e∈VF w n s:=by
 unfold FO;rw[Xl];simp only[AK,or_false,Du];constructor
 ·rintro⟨⟨s,n⟩,h1,h2⟩
  exact⟨n,s,C7.1 h1,h2⟩
 ·rintro⟨n,s,h1,h2⟩
  exact⟨(s,n),C7.2 h1,h2⟩
def Abw(w:E4)(n:Nat)(s:FZ)(e:Fu):Prop:=
 (e.kind=1/\s.up=false/\0<=e.arg/\e.arg < w.c.programs.length)\/(e.kind=2/\s.up=true/\s.waiting < 0/\0<=e.arg/\e.arg < w.c.requests.length)\/
 (e.kind=3/\s.up=true/\∃ m∈w.flight,m.msg=e.msg/\m.to=n)\/(e.kind=4/\s.up=true/\e.arg∈s.timers)\/(e.kind=5/\∃ m∈w.flight,m.msg=e.msg/\m.to=n)\/
 (e.kind=6/\∃ m∈w.flight,m.msg=e.msg/\m.to=n)\/(e.kind=7/\s.up=true)
def uw{n:Int}{l:List GF}{m:KD}(h:m∈RT n l):∃ e∈l,e.msg=m/\e.to=n:=by
 unfold RT at h;obtain⟨e,h1,h2⟩:=AT.1 h;have h3:=Bz.1 h1;exact⟨e,h3.1,h2,of_decide_eq_true h3.2⟩
def ux{w:E4}{k o:Int}(h:WI w k o){n:Nat}{s:FZ}(hs:w.nodes[n]? = some s){e:Fu}(he:e∈VF w n s):e.node=n/\Abw w n s e:=by
 obtain⟨hn,hs'⟩:=Am.1 hs;have hnd:=h.node s (by rw[<- hs'];exact Ao hn);have hnx:n < w.next.length:=by rw[h.xl,<- h.nl];exact hn
 have hx:=h.next _ (MC hnx 0);have hf:n < w.c.first.length:=by rw[<- h.nl];exact hn
 unfold VF at he;rcases Aw.1 he with he | he
 ·rcases Aw.1 he with he | he
  ·rcases Aw.1 he with he | he
   ·rcases Aw.1 he with he | he
    ·split at he
     ·simp at he
     ·rename_i hup
      obtain⟨v,hv,rfl⟩:=AT.1 he;refine⟨rfl,.inl ⟨rfl,by simpa using hup,?_⟩⟩;dsimp only;split at hv
      ·rw[AG] at hv
       subst hv;exact h.cfg.firsts _ (MC hf 0)
      split at hv
      ·rw[AG] at hv
       subst hv;have:=hnd.ver;omega
      ·exact h.cfg.restarts v hv
    ·obtain⟨m,hm,he⟩:=Du.1 he
     obtain⟨x,hx1,hx2,hx3⟩:=uw hm;rcases Aw.1 he with he | he
     ·split at he
      ·rename_i hup
       rw[AG] at he;subst he;exact⟨rfl,.inr (.inr (.inl ⟨rfl,hup,x,hx1,hx2,hx3⟩))⟩
      ·simp at he
     rcases Aw.1 he with he | he
     ·split at he
      ·rw[AG] at he;subst he
       exact⟨rfl,.inr (.inr (.inr (.inr (.inl ⟨rfl,x,hx1,hx2,hx3⟩))))⟩
      ·simp at he
     ·split at he
      ·rw[AG] at he;subst he
       exact⟨rfl,.inr (.inr (.inr (.inr (.inr (.inl ⟨rfl,x,hx1,hx2,hx3⟩)))))⟩
      ·simp at he
   ·split at he
    ·rename_i hc
     rw[AG] at he;subst he;exact⟨rfl,.inr (.inl ⟨rfl,hc.1,hc.2.1,hc.2.2,hx.2⟩)⟩
    ·simp at he
  ·split at he
   ·rename_i hup
    obtain⟨t,ht,rfl⟩:=AT.1 he;exact⟨rfl,.inr (.inr (.inr (.inl ⟨rfl,hup,ht⟩)))⟩
   ·simp at he
 ·split at he
  ·rename_i hc
   rw[AG] at he;subst he;exact⟨rfl,.inr (.inr (.inr (.inr (.inr (.inr ⟨rfl,hc.1⟩)))))⟩
  ·simp at he
def RU{w:E4}{k o:Int}(h:WI w k o){e:Fu}(he:e∈FO w):∃ (n:Nat) (s:FZ),w.nodes[n]? = some s/\e.node=n/\Abw w n s e:=by
 obtain⟨n,s,h1,h2⟩:=(Xm w e).1 he;obtain⟨h3,h4⟩:=ux h h1 h2;exact⟨n,s,h1,h3,h4⟩
def getD_some{α:Type}{l:List α}{n:Nat}{x d:α}(h:l[n]? = some x):l.getD n d=x:=by rw[List.getD,h];rfl
def I4{n:Nat}(h:n<=1000000):D2 n:=by unfold D2;omega
def MD{w:E4}{k o:Int}(h:WI w k o)(hk:0<=k/\k<=5000){n:Nat}{s:FZ}(hs:w.nodes[n]? = some s)(hup:s.up=true){hd:Nat}(hh:hd < 40){nm:Nat->Int}(hnm:∀ i,i < 9->D2 (nm i))(la:List Gy) :
  WI (GG w n hd nm la).1 (k+1) (o+1)/\Xg w.c (k+1) (GG w n hd nm la).2:=by
 obtain⟨hn,hs'⟩:=Am.1 hs;have hnd:=h.node s (by rw[<- hs'];exact Ao hn);obtain⟨p,hp,hv0,hdl,hvl⟩:=hnd.up hup;obtain⟨D,hD⟩:=h.cfg.prog p (AF hp);have hf:=h.cfg.first
 have hr:=N8 h.cfg hD hnd hk hup hv0 hp hdl hvl hh (self:=n) (I4 (by have:=h.nl;omega)) hnm la;have e:GG w n hd nm la=(Ht w n (FR s p hd n w.c.first.length w.c.drift nm la) s.waiting,FR s p hd n w.c.first.length w.c.drift nm la):=by
  unfold GG;dsimp only;rw[getD_some hs,getD_some hp,h.nl]
 rw[e];exact⟨Qy h hk.1 hn hr _,hr⟩
def KJ{α:Type}{l:List α}{n:Nat}(h:n < l.length)(x:α):(l.set n x)[n]? = some x:=by
 rw[List.getElem?_set_self ae0]
def OL{w:E4}(h:JI w)(hst:w.steps < 5000){e:Fu}(he:e∈FO w)(la:List Gy) :
  WI (Eh w e la).1 (w.steps+1) (2 * (w.steps+1))/\(Eh w e la).2.asks.length<=501/\(Eh w e la).2.sent.length<=20:=by
 obtain⟨n,s,hs,hen,his⟩:=RU h.inv he;obtain⟨hn,hs'⟩:=Am.1 hs;have hi:=h.inv;have hk:0<=w.steps/\w.steps<=5000:=h.st;have hnd:=hi.node s (by rw[<- hs'];exact Ao hn);have hf:=hi.cfg.first
 have hnt:e.node.toNat=n:=by rw[hen];rfl
 have hsn:w.nodes.getD n Fl=s:=getD_some hs;have hsm:D2 (n:Int):=I4 (by have:=hi.nl;omega);have fin:∀ {w':E4},WI w' (w.steps+1) (2 * w.steps+1)->WI w' (w.steps+1) (2 * (w.steps+1)):=λh=>h.mono (Db _) dO
 have hreq:∀ {i:Int},0<=i->i < w.c.requests.length->∃ q,w.c.requests[i.toNat]? = some q/\q∈w.c.requests:=λ{i} h0 h1=>⟨w.c.requests[i.toNat]' dO,Ah _,Ao _⟩
 rcases his with ⟨h1,h2,h3,h4⟩ | ⟨h1,h2,h3,h4,h5⟩ | ⟨h1,h2,m,h3,h4,h5⟩ | ⟨h1,h2,h3⟩ | ⟨h1,m,h3,h4,h5⟩ | ⟨h1,m,h3,h4,h5⟩ | ⟨h1,h2⟩
 ·have hp:w.c.programs[e.arg.toNat]? = some (w.c.programs[e.arg.toNat]' dO):=Ah _
  obtain⟨D,hD⟩:=hi.cfg.prog _ (AF hp);have hr:=Un hi.cfg hD hnd hk h3 hp hsm la;have e1:Eh w e la=(Ht w n (JH s (w.c.programs[e.arg.toNat]' dO) e.arg n w.c.first.length w.c.drift la) (-1),JH s (w.c.programs[e.arg.toNat]' dO) e.arg n w.c.first.length w.c.drift la):=by
   unfold Eh;dsimp only;rw[if_pos h1,hnt,hsn,getD_some hp,hi.nl]
  rw[e1];exact⟨fin (Qy hi hk.1 hn hr _),hr.asks,hr.sent⟩
 ·obtain⟨q,hq,hqm⟩:=hreq h4 h5
  obtain⟨r1,r2,r3,r4,r5⟩:=hi.cfg.req q hqm;obtain⟨w1,hw1⟩:∃ w1:E4,w1={ Il w n (λs=>{ s with waiting:=e.arg }) with next:=w.next.set n (E8 w.c n e.arg),obs:=w.obs++[⟨false,e.arg,n,(w.nodes.getD n Fl).epoch,0⟩] }:=⟨_,rfl⟩
  have hnn:Iy w.c w.steps { s with waiting:=e.arg }:={ hnd with wait:=⟨ab0,h5⟩ }
  have hi1:WI w1 w.steps (2 * w.steps+1):=by
   have h0:=Kg hi hn (f:=λs=>{ s with waiting:=e.arg }) (by rw[hsn];exact hnn);rw[hw1];refine { h0 with xl:=?_,next:=λx hx=>?_,ol:=?_ }
   ·show (w.next.set _ _).length=_;rw[A7];exact hi.xl
   ·rcases M8 hx with hx | rfl
    ·exact hi.next x hx
    ·have:=LF w.c n e.arg;exact⟨this.1,this.2.2⟩
   ·show ((w.obs++[_]).length:Int)<=_
    rw[Ad,Br];have:=hi.ol;omega
  have hs1:w1.nodes[n]? = some { s with waiting:=e.arg }:=by
   rw[hw1];show (w.nodes.set n _)[n]? = _
   rw[KJ hn,hsn]
  have hr:=hi.cfg.reqs;obtain⟨a1,a2⟩:=MD hi1 hk hs1 h2 (hd:=1) iF (nm:=FG (FG (FG (FG (λ_=>0) 6 e.arg) 7 q.op) 8 q.key) 4 q.arg) (Fs (Fs (Fs (Fs (λ_ _=>Iq) (by unfold D2;omega)) r3) r4) r5) la;have e1:Eh w e la=GG w1 n 1 (FG (FG (FG (FG (λ_=>0) 6 e.arg) 7 q.op) 8 q.key) 4 q.arg) la:=by
   unfold Eh;dsimp only;rw[if_neg dO,if_pos h1,hnt,getD_some hq,hw1]
  rw[e1];exact⟨a1.mono (Db _) dO,a2.asks,a2.sent⟩
 ·obtain⟨x,hx⟩:∃ x,JR e.msg w.flight=some x:=by
   cases hfd:JR e.msg w.flight with
   | some x=>exact⟨x,rfl⟩
   | none=>
    have:=CR.1 hfd m h3;simp[h4] at this
  obtain⟨b1,b2,b3,b4,b5,b6,b7⟩:=hi.evl x (Bs hx);obtain⟨w1,hw1⟩:∃ w1:E4,w1={ w with flight:=Gq e.msg w.flight }:=⟨_,rfl⟩
  have hi1:WI w1 w.steps (2 * w.steps):=by
   rw[hw1];exact { hi with evl:=λy hy=>hi.evl y (MB hy),fl:=by have:=LD w.flight e.msg;have:=hi.fl;dsimp only;omega,fs:=LC _ hi.fs }
  obtain⟨a1,a2⟩:=MD hi1 hk (by rw[hw1];exact hs) h2 (hd:=10+x.kind.toNat) dO (nm:=FG (FG (FG (λ_=>0) 3 x.msg.node) 4 x.a) 5 x.b) (Fs (Fs (Fs (λ_ _=>Iq) b7) b5) b6) la;have e1:Eh w e la=GG w1 n (10+x.kind.toNat) (FG (FG (FG (λ_=>0) 3 x.msg.node) 4 x.a) 5 x.b) la:=by
   unfold Eh;dsimp only;rw[if_neg dO,if_neg dO,if_pos h1,hnt,hx,hw1]<;>rfl
  rw[e1];exact⟨fin a1,a2.asks,a2.sent⟩
 ·obtain⟨w1,hw1⟩:∃ w1:E4,w1=Il w n λs=>{ s with timers:=s.timers.filter λk=>decide (k≠e.arg) }:=⟨_,rfl⟩
  have ht:=hnd.tim _ h3;have hnn:Iy w.c w.steps { s with timers:=s.timers.filter λk=>decide (k≠e.arg) }:=
   { hnd with timl:=An (Bh _ _) hnd.timl,tim:=λt ht=>hnd.tim t (Bz.1 ht).1,tims:=CF _ hnd.tims }
  have hi1:WI w1 w.steps (2 * w.steps):=by
   rw[hw1];exact Kg hi hn (by rw[hsn];exact hnn)
  have hs1:w1.nodes[n]? = some { s with timers:=s.timers.filter λk=>decide (k≠e.arg) }:=by
   rw[hw1];show (w.nodes.set n _)[n]? = _
   rw[KJ hn,hsn]
  obtain⟨a1,a2⟩:=MD hi1 hk hs1 h2 (hd:=2+e.arg.toNat) dO (nm:=λ_=>0) (λ_ _=>Iq) la;have e1:Eh w e la=GG w1 n (2+e.arg.toNat) (λ_=>0) la:=by
   unfold Eh;dsimp only;rw[if_neg dO,if_neg dO,if_neg dO,if_pos h1,hnt,hw1]
  rw[e1];exact⟨fin a1,a2.asks,a2.sent⟩
 ·have hnn:Iy w.c (w.steps+1) { s with dropped:=s.dropped+1 }:={ hnd.mono (show w.steps<=w.steps+1 by omega) with drop:=by have:=hnd.drop;dsimp only;omega }
  have hi1:WI { w with flight:=Gq e.msg w.flight } (w.steps+1) (2 * (w.steps+1)):=
   { hi.mono (show w.steps<=w.steps+1 by omega) (show 2 * w.steps<=2 * (w.steps+1) by omega) with evl:=λy hy=>hi.evl y (MB hy),fl:=by have:=LD w.flight e.msg;have:=hi.fl;dsimp only;omega,fs:=LC _ hi.fs }
  have e1:Eh w e la=(Il { w with flight:=Gq e.msg w.flight } n λs=>{ s with dropped:=s.dropped+1 },Xn):=by
   unfold Eh;dsimp only;rw[if_neg dO,if_neg dO,if_neg dO,if_neg dO,if_pos h1,hnt]
  rw[e1];exact⟨Kg (f:=λs=>{ s with dropped:=s.dropped+1 }) hi1 hn (by dsimp only;rw[hsn];exact hnn),AM _,AM _⟩
 ·obtain⟨f,hf2⟩:∃ f,f=(match JR e.msg w.flight with
   | none=>[]
   | some m=>if TO { e.msg with copy:=(w.nodes.getD n Fl).doubled+1 } w.flight then [] else Oa { m with msg:={ m.msg with copy:=(w.nodes.getD n Fl).doubled+1 } } w.flight):=⟨_,rfl⟩
  have hfl:=hi.fl;have hff:NJ f/\(∀ y∈f,RP w.c.first.length y)/\(f.length:Int)<=20 * (w.steps+1):=by
   rw[hf2];split
   ·exact⟨List.Pairwise.nil,λy hy=>by simp at hy,aa0⟩
   ·rename_i x hx
    have hxm:=Bs hx;have hxe:x.msg=e.msg:=by have:=CS hx;simpa using this
    split
    ·exact⟨List.Pairwise.nil,λy hy=>by simp at hy,aa0⟩
    ·rename_i hh
     refine⟨Uq hi.fs (by rw[hxe];simpa using hh),λy hy=>?_,by rw[Xi];omega⟩;rcases (Xh _ _ _).1 hy with rfl | hy
     ·exact hi.evl x hxm
     ·exact hi.evl y hy
  have hnn:Iy w.c (w.steps+1) { s with doubled:=s.doubled+1 }:={ hnd.mono (show w.steps<=w.steps+1 by omega) with dbl:=by have:=hnd.dbl;dsimp only;omega }
  have hi1:WI { w with flight:=f } (w.steps+1) (2 * (w.steps+1)):=
   { hi.mono (show w.steps<=w.steps+1 by omega) (show 2 * w.steps<=2 * (w.steps+1) by omega) with evl:=hff.2.1,fl:=hff.2.2,fs:=hff.1 }
  have e1:Eh w e la=(Il { w with flight:=f } n λs=>{ s with doubled:=(w.nodes.getD n Fl).doubled+1 },Xn):=by
   unfold Eh;dsimp only;rw[if_neg dO,if_neg dO,if_neg dO,if_neg dO,if_neg dO,if_pos h1,hnt,hf2]<;>rfl
  rw[e1];exact⟨Kg (f:=λs=>{ s with doubled:=(w.nodes.getD n Fl).doubled+1 }) hi1 hn (by dsimp only;rw[hsn];exact hnn),AM _,AM _⟩
 ·have hr:=Uo hnd n la
  have e1:Eh w e la=(Ir (Il w n λ_=>(GX s n la).s) n,GX s n la):=by
   unfold Eh;dsimp only;rw[if_neg dO,if_neg dO,if_neg dO,if_neg dO,if_neg dO,if_neg dO,hnt,hsn]
  rw[e1];have htn:n < w.traces.length:=by rw[hi.trl,<- hi.nl];exact hn
  have htt:=hi.tr _ (MC htn []);refine⟨Qx (Kg (hi.mono (show w.steps<=w.steps+1 by omega) (show 2 * w.steps<=2 * (w.steps+1) by omega)) hn hr.s) n (by show n < (w.nodes.set _ _).length;rw[A7];exact hn) ?_,hr.asks,hr.sent⟩;show ((w.traces.getD n []).length:Int)+1<=w.steps+1
  omega
def dU(w:E4)(e:Fu)(la:List Gy):(Eh w e la).1.c=w.c:=by
 unfold Eh;dsimp only;split
 ·rfl
 split
 ·rfl
 split
 ·rfl
 split
 ·rfl
 split
 ·rfl
 split
 ·rfl
 ·rfl
def kg{w:E4}(h:JI w)(e:Fu)(la:List Gy):JI (EK w e la).1:=by
 unfold EK;split
 ·exact h
 split
 ·rename_i h1 h2
  have h3:=OL h dO h2 la;exact⟨{ h3.1 with },by have:=h.st;dsimp only;omega⟩
 ·exact h
def uy(w:E4)(e:Fu)(la:List Gy):(EK w e la).1.c=w.c:=by
 unfold EK;split
 ·rfl
 split
 ·exact dU w e la
 ·rfl
def Ur{w:E4}(h:JI w)(e:Fu)(la:List Gy):(EK w e la).2.1.asks.length<=501/\(EK w e la).2.1.sent.length<=20:=by
 unfold EK;split
 ·exact⟨AM _,AM _⟩
 split
 ·rename_i h1 h2
  have h3:=OL h dO h2 la;refine⟨h3.2.1,?_⟩;dsimp only;rw[AJ];exact h3.2.2
 ·exact⟨AM _,AM _⟩
section
variable {p:HW}{nm:Nat->Int}{an1 an2 an:Nat->Int->Int}
def nI{i:JE}{s:ID}(h:i.op≠5):Gc p nm an2 i s=Gc p nm an1 i s:=by
 unfold Gc;simp only[h,if_false]
def M9{i:JE}{s:ID}(h:i.op=5):Gc p nm an i s=match s.stack with
  | x::r=>if max 1 (min x 4)=1 then some { s with stack:=0::r } else some { s with stack:=an s.asked.length (max 1 (min x 4))::r,asked:=s.asked++[max 1 (min x 4)] }
  | _=>none:=by
 unfold Gc;simp only[h,Int.reduceEq,if_false,if_true]<;>rfl
def iw(i:JE)(s s':ID)(h:Gc p nm an i s=some s'):(i.op≠5->s'.asked=s.asked)/\(s'.pc=s.pc\/((i.op=15\/i.op=16)/\s'.pc=i.n))/\(i.op=15->s'.pc=i.n):=by
 obtain⟨vars,acts,cov,asked,stack,pc⟩:=s;by_cases hr:1<=i.op/\i.op<=22
 ·have c23:i.op=1\/i.op=2\/i.op=3\/i.op=4\/i.op=5\/i.op=6\/i.op=7\/i.op=8\/i.op=9\/i.op=10\/i.op=11\/i.op=12\/i.op=13\/i.op=14\/i.op=15\/i.op=16\/i.op=17\/i.op=18\/i.op=19\/i.op=20\/i.op=21\/i.op=22:=dO
  rcases stack with _ | ⟨x,_ | ⟨y,_ | ⟨z,r⟩⟩⟩
  all_goals
   rcases c23 with e | e | e | e | e | e | e | e | e | e | e | e | e | e | e | e | e | e | e | e | e | e
   all_goals
    simp only[Gc,e,Int.reduceEq,if_true,if_false,or_true,true_or,or_false,false_or,or_self] at h;simp only[e,Int.reduceEq,ne_eq,not_false_eq_true,not_true_eq_false,or_self,or_true,true_or,or_false,false_and,true_and,forall_const,false_implies,and_true,true_implies];first
     | (cases h;done)
     | (obtain rfl:=Aa h;simp;done)
     | (obtain rfl:=Aa h;dsimp only;split<;>simp;done)
     | (simp only[Ab] at h;obtain⟨_,_,rfl⟩:=h;simp;done)
     | (split at h<;>(obtain rfl:=Aa h;simp);done)
 ·have n:∀ k:Int,1<=k->k<=22->(i.op=k)=False:=λk h1 h2=>eq_false dO
  simp only[Gc,n 1 iF iF,n 2 iF iF,n 3 iF iF,n 4 iF iF,n 5 iF iF,n 6 iF iF,n 7 iF iF,n 8 iF iF,n 9 iF iF,n 10 iF iF,n 11 iF iF,n 12 iF iF,n 13 iF iF,n 14 iF iF,n 15 iF iF,n 16 iF iF,n 17 iF iF,n 18 iF iF,n 19 iF iF,n 20 iF iF,n 21 iF iF,n 22 iF iF,if_false,or_self] at h;cases h
def Na{i:JE}{s s':ID}(h:Gc p nm an i s=some s'):s'.asked=s.asked\/(i.op=5/\∃ k,2<=k/\k<=4/\s'.asked=s.asked++[k]):=by
 by_cases h5:i.op=5
 ·rw[M9 h5] at h
  split at h
  ·split at h
   ·obtain rfl:=Aa h;exact .inl rfl
   ·obtain rfl:=Aa h;exact .inr ⟨h5,_,dO,dO,rfl⟩
  ·cases h
 ·exact .inl ((iw i s s' h).1 h5)
def uD{i:JE}{s s':ID}(h0:0<=s.pc)(h:Gc p nm an i (Fm s)=some s')(h23:i.op≠23):s'.pc∈MF i s.pc.toNat:=by
 have e:((s.pc.toNat:Nat):Int)=s.pc:=Ct h0;obtain⟨_,h1,h2⟩:=iw i _ s' h;have h1:s'.pc=s.pc+1\/((i.op=15\/i.op=16)/\s'.pc=i.n):=h1;unfold MF;rw[if_neg h23,e];by_cases h15:i.op=15
 ·rw[if_pos h15,h2 h15];simp
 rw[if_neg h15];by_cases h16:i.op=16
 ·rw[if_pos h16]
  rcases h1 with h1 | ⟨_,h1⟩<;>simp[h1]
 rw[if_neg h16];rcases h1 with h1 | ⟨h1,_⟩
 ·simp[h1]
 ·omega
def I5(k:Nat)(s:ID):F9 p nm an (k+1) s=match p.code[s.pc.toNat]? with
  | none=>s
  | some i=>if i.op=23 then Fm s else match Gc p nm an i (Fm s) with
   | none=>s
   | some s'=>F9 p nm an k s':=by
 rw[F9];rfl
def MG:∀ (k:Nat) (s:ID),∃ l,(F9 p nm an k s).asked=s.asked++l
 | 0,s=>⟨[],by rw[F9,AP]⟩
 | k+1,s=>by
  rw[I5];split
  ·exact⟨[],by rw[AP]⟩
  ·split
   ·exact⟨[],by rw[AP];rfl⟩
   ·split
    ·exact⟨[],by rw[AP]⟩
    ·rename_i s' hs
     obtain⟨l,hl⟩:=MG k s';rcases Na hs with h | ⟨_,a,_,_,h⟩
     ·exact⟨l,by rw[hl,h];rfl⟩
     ·exact⟨a::l,by rw[hl,h];show (s.asked++[a])++l=_;simp⟩
def KK{j:Nat}:∀ (k:Nat) (s:ID),s.asked.length<=j->(∀ i a,(F9 p nm an1 k s).asked[i]? = some a->i < j->an2 i a=an1 i a)->
  ((F9 p nm an2 k s).asked.take (j+1)=(F9 p nm an1 k s).asked.take (j+1))/\((F9 p nm an1 k s).asked.length<=j->F9 p nm an2 k s=F9 p nm an1 k s)
 | 0,s,_,_=>⟨rfl,λ_=>rfl⟩
 | k+1,s,hj,H=>by
  rw[I5 (an:=an2),I5 (an:=an1)];rw[I5 (an:=an1)] at H;cases hc:p.code[s.pc.toNat]? with
  | none=>exact⟨rfl,λ_=>rfl⟩
  | some i=>
   rw[hc] at H;dsimp only at H |-;by_cases h23:i.op=23
   ·rw[if_pos h23,if_pos h23];exact⟨rfl,λ_=>rfl⟩
   rw[if_neg h23] at H;rw[if_neg h23,if_neg h23];by_cases h5:i.op=5
   ·rw[M9 h5] at H
    rw[M9 h5,M9 h5];rcases hst:(Fm s).stack with _ | ⟨x,r⟩
    ·exact⟨rfl,λ_=>rfl⟩
    ·rw[hst] at H
     dsimp only at H |-;by_cases h1:max 1 (min x 4)=1
     ·rw[if_pos h1] at H
      rw[if_pos h1,if_pos h1];exact KK k _ hj H
     ·rw[if_neg h1] at H
      rw[if_neg h1,if_neg h1];dsimp only at H |-;obtain⟨l1,e1⟩:=MG (p:=p) (nm:=nm) (an:=an1) k { Fm s with stack:=an1 (Fm s).asked.length (max 1 (min x 4))::r,asked:=(Fm s).asked++[max 1 (min x 4)] };obtain⟨l2,e2⟩:=MG (p:=p) (nm:=nm) (an:=an2) k { Fm s with stack:=an2 (Fm s).asked.length (max 1 (min x 4))::r,asked:=(Fm s).asked++[max 1 (min x 4)] };rcases Cd s.asked.length j with hlt | hge
      ·have:=H s.asked.length (max 1 (min x 4)) (by
        rw[e1];show ((s.asked++[_])++l1)[s.asked.length]? = _
        simp) hlt
       have this:an2 (Fm s).asked.length (max 1 (min x 4))=an1 (Fm s).asked.length (max 1 (min x 4)):=this;rw[this];exact KK k _ (by show (s.asked++[_]).length<=j;simp;omega) H
      ·have hj2:s.asked.length=j:=dO
       refine⟨?_,λhl=>?_⟩
       ·rw[e1,e2]
        show ((s.asked++[_])++l2).take (j+1)=((s.asked++[_])++l1).take (j+1)
        rw[DG (by simp[hj2]),DG (by simp[hj2])]
       ·rw[e1] at hl
        exfalso;have hl:((s.asked++[max 1 (min x 4)])++l1).length<=j:=hl;simp at hl;omega
   ·rw[nI (an1:=an1) (an2:=an2) h5]
    cases ho:Gc p nm an1 i (Fm s) with
    | none=>exact⟨rfl,λ_=>rfl⟩
    | some s'=>
     rw[ho] at H;dsimp only at H |-;rcases Na ho with h | ⟨h,_⟩
     ·exact KK k s' (by rw[h];exact hj) H
     ·exact absurd h h5
def Xq{h:Nat}{vars:List Int}{j:Nat}(H:∀ i a,(FF p h vars nm an1).asked[i]? = some a->i < j->an2 i a=an1 i a) :
  ((FF p h vars nm an2).asked.take (j+1)=(FF p h vars nm an1).asked.take (j+1))/\((FF p h vars nm an1).asked.length<=j->FF p h vars nm an2=FF p h vars nm an1):=by
 unfold FF at H |-;split
 ·exact⟨rfl,λ_=>rfl⟩
 ·rename_i hn
  rw[if_neg hn] at H;exact KK 500 _ (AM _) H
def Xr:∀ (k:Nat) (s:ID),(∀ a∈s.asked,2<=a/\a<=4)->∀ a∈(F9 p nm an k s).asked,2<=a/\a<=4
 | 0,s,h=>h
 | k+1,s,h=>by
  rw[I5];split
  ·exact h
  ·split
   ·exact h
   ·split
    ·exact h
    ·rename_i s' hs
     refine Xr k s' ?_;rcases Na hs with e | ⟨_,b,b1,b2,e⟩
     ·rw[e];exact h
     ·rw[e]
      intro a ha;rcases Aw.1 ha with ha | ha
      ·exact h a ha
      ·rw[AG] at ha;subst ha;exact⟨b1,b2⟩
def nJ{h:Nat}{vars:List Int}:∀ a∈(FF p h vars nm an).asked,2<=a/\a<=4:=by
 unfold FF;split
 ·simp[Gn]
 ·exact Xr 500 _ (by simp[Gn])
def Is(p:HW):List Nat:=(List.range p.code.length).map λk=>((p.code.drop k).filter λi=>decide (i.op=5)).length
def dX(p:HW)(R:List Nat):Bool:=(List.range p.code.length).all λk=>match p.code[k]? with
 | some i=>(MF i k).all λj=>decide (0<=j) && decide (R.getD j.toNat 0+(if i.op=5 then 1 else 0)<=R.getD k 0)
 | none=>true
def km{R:List Nat}(h:dX p R=true){k:Nat}{i:JE}(hk:p.code[k]? = some i):∀ j∈MF i k,0<=j/\R.getD j.toNat 0+(if i.op=5 then 1 else 0)<=R.getD k 0:=by
 have hl:=(Am.1 hk).1;have h1:=At.1 h k (Bp.2 hl);rw[hk] at h1;intro j hj;have h2:=At.1 h1 j hj;simpa using h2
def Qz{R:List Nat}(hR:dX p R=true):∀ (k:Nat) (s:ID),0<=s.pc->(F9 p nm an k s).asked.length<=s.asked.length+R.getD s.pc.toNat 0
 | 0,s,_=>AQ _ _
 | k+1,s,h0=>by
  rw[I5];split
  ·exact AQ _ _
  ·rename_i i hc
   split
   ·exact AQ _ _
   ·rename_i h23
    split
    ·exact AQ _ _
    ·rename_i s' hs
     obtain⟨q1,q2⟩:=km hR hc _ (uD h0 hs h23);have ih:=Qz hR k s' q1;rcases Na hs with e | ⟨e5,b,_,_,e⟩
     ·have e':s'.asked.length=s.asked.length:=by rw[e];rfl
      omega
     ·have e':s'.asked.length=s.asked.length+1:=by rw[e];show (s.asked++[b]).length=_;simp
      rw[if_pos e5] at q2;omega
def Iz(p:HW):Prop:=∃ R,dX p R=true/\∀ d∈R,d<=3
def Iz.none:Iz default:=⟨[],rfl,λd hd=>by simp at hd⟩
def Xs(hp:Iz p){h:Nat}{vars:List Int}:(FF p h vars nm an).asked.length<=3:=by
 obtain⟨R,h1,h2⟩:=hp;unfold FF;split
 ·simp[Gn]
 ·rename_i hn
  have:=Qz (nm:=nm) (an:=an) h1 500 (Gn p h vars) (show 0<=p.entry h by omega);have h3:R.getD (p.entry h).toNat 0<=3:=by
   rw[List.getD];cases hv:R[(p.entry h).toNat]? with
   | none=>simp
   | some d=>exact h2 d (AF hv)
  have e:(Gn p h vars).asked.length=0:=rfl;have e2:(Gn p h vars).pc=p.entry h:=rfl;rw[e,e2] at this;omega
end
def PL:∀ (l:List Act) (r:LB),(l.foldl Fq r).asks=r.asks
 | [],r=>rfl
 | a::l,r=>by
  rw[Bg,PL l];unfold Fq
  repeat' split
  all_goals rfl
def ze(f:List Gy->LB):Prop:=∀ (as1 as2:List Gy) (j:Nat),(∀ i a,(f as1).asks[i]? = some a->i < j->EJ as2 a.q a.arity=a.n)->
 (∀ i,i < j->(f as2).asks[i]? = (f as1).asks[i]?)/\(∀ a,(f as1).asks[j]? = some a->(f as2).asks[j]? = some ⟨a.q,a.arity,EJ as2 a.q a.arity⟩)/\((f as1).asks.length<=j->f as2=f as1)
def ze.const(r:LB)(h:r.asks=[]):ze λ_=>r:=λas1 as2 j H=>⟨λ_ _=>rfl,λa ha=>by simp[h] at ha,λ_=>rfl⟩
def IA(la:List Gy)(c:Hy)(l:List Int)(i:Nat):(E2 la c l)[i]? = (l[i]?).map λk=>⟨c.q 1 i,k,EJ la (c.q 1 i) k⟩:=by
 unfold E2;rw[List.getElem?_mapIdx]
def PM(la:List Gy)(c:Hy)(l:List Int):(E2 la c l).length=l.length:=by
 unfold E2;rw[List.length_mapIdx]
def Xt{α:Type}{l1 l2:List α}{j i:Nat}(h:l1.take j=l2.take j)(hi:i < j):l1[i]? = l2[i]?:=by
 have:=congrArg (λl=>l[i]?) h;simpa [BZ,hi] using this
def QA(s:FZ)(p:HW)(h:Nat)(self nodes drift:Int)(nm:Nat->Int):ze (FR s p h self nodes drift nm):=by
 intro as1 as2 j H;obtain⟨c,hc⟩:∃ c:Hy,c=⟨self,h,s.counts h⟩:=⟨_,rfl⟩
 obtain⟨F,hF⟩:∃ F:(Nat->Int)->(Nat->Int->Int)->ID,∀ a b,FF p h (GK s) a b=F a b:=⟨_,λ_ _=>rfl⟩
 have hag:∀ (nm:Nat->Int) (an1 an2:Nat->Int->Int) (j:Nat),(∀ i a,(F nm an1).asked[i]? = some a->i < j->an2 i a=an1 i a)->((F nm an2).asked.take (j+1)=(F nm an1).asked.take (j+1))/\((F nm an1).asked.length<=j->F nm an2=F nm an1):=by
  intro nm an1 an2 j;rw[<- hF,<- hF];exact Xq
 have he:∀ la,(FR s p h self nodes drift nm la).asks=(if 0 < drift then [(⟨c.q 2 0,drift+1,EJ la (c.q 2 0) (drift+1)⟩:Ask)] else [])++E2 la c (F (Ft nm self nodes (s.clock+1+if 0 < drift then EJ la (c.q 2 0) (drift+1) else 0)) (Ik la c)).asked:=by
  intro la;unfold FR;dsimp only;rw[PL,hF,<- hc]
 have hf:∀ la,FR s p h self nodes drift nm la=(let tick:=EJ la (c.q 2 0) (drift+1);let now:=s.clock+1+if 0 < drift then tick else 0;let o:=F (Ft nm self nodes now) (Ik la c);o.acts.foldl Fq ⟨{ s with clock:=now,counts:=FG s.counts h (s.counts h+1),vol:=o.vars.drop p.durable.toNat },(if 0 < drift then [⟨c.q 2 0,drift+1,tick⟩] else [])++E2 la c o.asked,[],false,0,[],c,o.covered⟩):=by
  intro la;unfold FR;dsimp only;rw[hF,<- hc]
 have core:∀ (now:Int) (j:Nat),(∀ i a,(E2 as1 c (F (Ft nm self nodes now) (Ik as1 c)).asked)[i]? = some a->i < j->EJ as2 a.q a.arity=a.n)->
   (∀ i,i < j->(E2 as2 c (F (Ft nm self nodes now) (Ik as2 c)).asked)[i]? = (E2 as1 c (F (Ft nm self nodes now) (Ik as1 c)).asked)[i]?)/\
   (∀ a,(E2 as1 c (F (Ft nm self nodes now) (Ik as1 c)).asked)[j]? = some a->(E2 as2 c (F (Ft nm self nodes now) (Ik as2 c)).asked)[j]? = some ⟨a.q,a.arity,EJ as2 a.q a.arity⟩)/\
   ((E2 as1 c (F (Ft nm self nodes now) (Ik as1 c)).asked).length<=j->F (Ft nm self nodes now) (Ik as2 c)=F (Ft nm self nodes now) (Ik as1 c)/\E2 as2 c (F (Ft nm self nodes now) (Ik as1 c)).asked=E2 as1 c (F (Ft nm self nodes now) (Ik as1 c)).asked):=by
  intro now j H;have H':∀ i a,(F (Ft nm self nodes now) (Ik as1 c)).asked[i]? = some a->i < j->Ik as2 c i a=Ik as1 c i a:=by
   intro i a hi hij;exact H i ⟨c.q 1 i,a,EJ as1 (c.q 1 i) a⟩ (by rw[IA,hi];rfl) hij
  obtain⟨a1,a2⟩:=hag _ _ _ _ H';refine⟨λi hi=>?_,λa ha=>?_,λhl=>?_⟩
  ·rw[IA,IA,Xt a1 (show i < j+1 by omega)]
   cases hv:(F (Ft nm self nodes now) (Ik as1 c)).asked[i]? with
   | none=>rfl
   | some k=>exact congrArg (λz=>some (⟨c.q 1 i,k,z⟩:Ask)) (H' i k hv hi)
  ·rw[IA] at ha |-
   rw[Xt a1 (Nat.lt_succ_self j)];rw[Ab] at ha;obtain⟨k,hk,rfl⟩:=ha;rw[hk];rfl
  ·rw[PM] at hl
   refine⟨a2 hl,?_⟩;apply CA;intro i;rw[IA,IA];cases hv:(F (Ft nm self nodes now) (Ik as1 c)).asked[i]? with
   | none=>rfl
   | some k=>exact congrArg (λz=>some (⟨c.q 1 i,k,z⟩:Ask)) (H' i k hv (Ar (Am.1 hv).1 hl))
 rw[he as1] at H |-;rw[he as2];by_cases hd:0 < drift
 ·simp only[if_pos hd,DH] at H |-
  cases j with
  | zero=>
   refine⟨λi hi=>absurd hi (Cn i),λa ha=>?_,λhl=>by simp at hl⟩;rw[BH] at ha |-;obtain rfl:=Aa ha;rfl
  | succ j=>
   have ht:=H 0 _ BH (Nat.succ_pos j);dsimp only at ht;rw[ht];obtain⟨b1,b2,b3⟩:=core (s.clock+1+EJ as1 (c.q 2 0) (drift+1)) j λi a hi hij=>H (i+1) a (by rw[BQ];exact hi) dO
   refine⟨λi hi=>?_,λa ha=>?_,λhl=>?_⟩
   ·cases i with
    | zero=>rfl
    | succ i=>rw[BQ,BQ];exact b1 i dO
   ·rw[BQ] at ha |-
    exact b2 a ha
   ·rw[Ag] at hl
    obtain⟨c1,c2⟩:=b3 dO;rw[hf as1,hf as2];simp only[if_pos hd,ht,c1,c2]
 ·simp only[if_neg hd,Ba,DV] at H |-
  obtain⟨b1,b2,b3⟩:=core (s.clock+1) j H;refine⟨b1,b2,λhl=>?_⟩;obtain⟨c1,c2⟩:=b3 hl;rw[hf as1,hf as2];simp only[if_neg hd,DV,c1,c2]
def dY(s:FZ)(self:Int):ze (GX s self):=by
 intro as1 as2 j H;have he:∀ la,(GX s self la).asks=(List.range s.disk.pending.length).map λ(i:Nat)=>(⟨Hy.q ⟨self,40,s.counts 40⟩ 3 i,2,EJ la (Hy.q ⟨self,40,s.counts 40⟩ 3 i) 2⟩:Ask):=λla=>rfl
 have hg:∀ la i,(GX s self la).asks[i]? = if i < s.disk.pending.length then some ⟨Hy.q ⟨self,40,s.counts 40⟩ 3 i,2,EJ la (Hy.q ⟨self,40,s.counts 40⟩ 3 i) 2⟩ else none:=by
  intro la i;rw[he,BI];by_cases h:i < s.disk.pending.length
  ·rw[Dc h,if_pos h];rfl
  ·rw[AO (by rw[BO];omega),if_neg h];rfl
 refine⟨λi hi=>?_,λa ha=>?_,λhl=>?_⟩
 ·rw[hg,hg]
  split
  ·rename_i h
   have:=H i _ (by rw[hg,if_pos h]) hi;exact congrArg (λz=>some (⟨_,2,z⟩:Ask)) this
  ·rfl
 ·rw[hg] at ha |-
  split at ha
  ·rename_i h
   obtain rfl:=Aa ha;rw[if_pos h]
  ·cases ha
 ·have e:(GX s self as2).asks=(GX s self as1).asks:=by
   apply CA;intro i;rw[hg,hg];split
   ·rename_i h
    have:=H i _ (by rw[hg,if_pos h]) (Ar (by simpa [he] using h) hl);exact congrArg (λz=>some (⟨_,2,z⟩:Ask)) this
   ·rfl
  rw[he,he] at e;unfold GX;simp only[e]
def TQ(w:E4)(e:Fu):∃ (f:List Gy->LB) (g:LB->E4),ze f/\∀ la,Eh w e la=(g (f la),f la):=by
 by_cases h1:e.kind=1
 ·refine⟨JH (w.nodes.getD e.node.toNat Fl) (w.c.programs.getD e.arg.toNat default) e.arg e.node.toNat w.nodes.length w.c.drift,λr=>Ht w e.node.toNat r (-1),QA _ _ _ _ _ _ _,λla=>?_⟩
  unfold Eh;dsimp only;rw[if_pos h1]
 have hw:∀ (w1:E4) (n h:Nat) (nm:Nat->Int),∃ (f:List Gy->LB) (g:LB->E4),ze f/\∀ la,GG w1 n h nm la=(g (f la),f la):=λw1 n h nm=>
  ⟨FR (w1.nodes.getD n Fl) (w1.c.programs.getD (w1.nodes.getD n Fl).version.toNat default) h n w1.nodes.length w1.c.drift nm,λr=>Ht w1 n r (w1.nodes.getD n Fl).waiting,QA _ _ _ _ _ _ _,λla=>rfl⟩
 unfold Eh;dsimp only;simp only[if_neg h1];by_cases h2:e.kind=2
 ·simp only[if_pos h2];exact hw _ _ _ _
 simp only[if_neg h2];by_cases h3:e.kind=3
 ·simp only[if_pos h3];exact hw _ _ _ _
 simp only[if_neg h3];by_cases h4:e.kind=4
 ·simp only[if_pos h4];exact hw _ _ _ _
 simp only[if_neg h4];by_cases h5:e.kind=5
 ·simp only[if_pos h5];exact⟨λ_=>Xn,λr=>_,.const _ rfl,λla=>rfl⟩
 simp only[if_neg h5];by_cases h6:e.kind=6
 ·simp only[if_pos h6];exact⟨λ_=>Xn,λr=>_,.const _ rfl,λla=>rfl⟩
 simp only[if_neg h6];exact⟨GX (w.nodes.getD e.node.toNat Fl) e.node.toNat,λr=>Ir (Il w e.node.toNat λ_=>r.s) e.node.toNat,dY _ _,λla=>rfl⟩
def Oc(w:E4)(e:Fu):(∃ x:Int,x≠0/\∀ la,EK w e la=(w,Ut,x))\/
  ∃ (f:List Gy->LB) (g:LB->E4 × I6 × Int),ze f/\(∀ la,EK w e la=g (f la))/\∀ la,(g (f la)).2.1.asks=(f la).asks/\(g (f la)).2.1.ev=e/\(g (f la)).2.2=0:=by
 obtain⟨f,g,hf,hg⟩:=TQ w e;unfold EK;by_cases h1:5000<=w.steps
 ·exact .inl ⟨2,iF,λla=>by rw[if_pos h1]⟩
 by_cases h2:e∈FO w
 ·refine .inr ⟨f,λr=>({ g r with steps:=w.steps+1 },⟨e,r.asks,decide (w.obs.length < (g r).obs.length),r.sent.map GF.msg⟩,0),hf,λla=>?_,λla=>⟨rfl,rfl,rfl⟩⟩
  rw[if_neg h1,if_pos h2];simp only[hg]
 ·exact .inl ⟨21,iF,λla=>by rw[if_neg h1,if_neg h2]⟩
def dZ{w:E4}{e:Fu}{as1 as2:List Gy}(H:∀ a∈(EK w e as1).2.1.asks,EJ as2 a.q a.arity=a.n):EK w e as2=EK w e as1:=by
 rcases Oc w e with ⟨x,_,h⟩ | ⟨f,g,hf,hg,ha⟩
 ·rw[h,h]
 ·have e1:(EK w e as1).2.1.asks=(f as1).asks:=by rw[hg];exact (ha as1).1
  rw[e1] at H;rw[hg,hg,(hf as1 as2 _ (λi a hi _=>H a (AF hi))).2.2 (Af _)]
def ec{w:E4}{e:Fu}{as1 as2:List Gy}{j:Nat}(H:∀ i a,(EK w e as1).2.1.asks[i]? = some a->i < j->EJ as2 a.q a.arity=a.n) :
  (EK w e as2).2.2=(EK w e as1).2.2/\(∀ i,i < j->(EK w e as2).2.1.asks[i]? = (EK w e as1).2.1.asks[i]?)/\(∀ a,(EK w e as1).2.1.asks[j]? = some a->(EK w e as2).2.1.asks[j]? = some ⟨a.q,a.arity,EJ as2 a.q a.arity⟩):=by
 rcases Oc w e with ⟨x,_,h⟩ | ⟨f,g,hf,hg,ha⟩
 ·rw[h,h]
  exact⟨rfl,λ_ _=>rfl,λa h=>by simp[Ut] at h⟩
 ·have e1:∀ la,(EK w e la).2.1.asks=(f la).asks:=λla=>by rw[hg];exact (ha la).1
  rw[e1] at H;obtain⟨b1,b2,_⟩:=hf as1 as2 j H;refine⟨by rw[hg,hg,(ha as2).2.2,(ha as1).2.2],λi hi=>by rw[e1,e1];exact b1 i hi,λa hx=>?_⟩;rw[e1] at hx |-;exact b2 a hx
structure ON(la:List Gy)(l:List Ask):Prop where
 len:l.length<=4
 ok:∀ a∈l,2<=a.arity/\a.arity<=4/\a.n=EJ la a.q a.arity
 nd:(l.map Ask.q).Nodup
def ON.nil(la:List Gy):ON la []:=⟨AM _,λa h=>by simp at h,List.nodup_nil⟩
def ON.range{la:List Gy}{l:List Ask}(h:ON la l){a:Ask}(ha:a∈l):0<=a.n/\a.n < a.arity:=by
 obtain⟨h1,h2,h3⟩:=h.ok a ha;rw[h3];unfold EJ;exact⟨Bf _ (HD _ _),A2 _ dO⟩
def Rr(c:Hy)(kind:Int):∀ (l:List Nat),l.Nodup->(l.map λ(i:Nat)=>c.q kind i).Nodup
 | [],_=>List.nodup_nil
 | i::l,h=>by
  rw[Co] at h;rw[Au,Co];refine⟨λhm=>?_,Rr c kind l h.2⟩;obtain⟨j,hj,e⟩:=AT.1 hm;have:(j:Int)=i:=congrArg Qn.index e;exact h.1 (by rwa [<- (show j=i by omega)])
def ix(la:List Gy)(c:Hy)(l:List Int):(E2 la c l).map Ask.q=(List.range l.length).map λ(i:Nat)=>c.q 1 i:=by
 apply CA;intro i;rw[BI,IA,BI];by_cases h:i < l.length
 ·rw[Ah h,Dc h];rfl
 ·rw[AO dO,AO (by rw[BO];omega)];rfl
def JW{p:HW}(hp:Iz p){drift:Int}(hd:drift<=3)(s:FZ)(h:Nat)(self nodes:Int)(nm:Nat->Int)(la:List Gy):ON la (FR s p h self nodes drift nm la).asks:=by
 unfold FR;dsimp only;rw[PL];dsimp only;generalize hc:(⟨self,(h:Int),s.counts h⟩:Hy)=c;generalize ho:FF p h (GK s) (Ft nm self nodes (s.clock+1+if 0 < drift then EJ la (c.q 2 0) (drift+1) else 0)) (Ik la c)=o;have h1:o.asked.length<=3:=by rw[<- ho];exact Xs hp
 have h2:∀ a∈o.asked,2<=a/\a<=4:=by rw[<- ho];exact nJ
 have hdr:∀ a∈E2 la c o.asked,2<=a.arity/\a.arity<=4/\a.n=EJ la a.q a.arity:=by
  intro a ha;obtain⟨i,hi⟩:=List.getElem?_of_mem ha;rw[IA,Ab] at hi;obtain⟨k,hk,rfl⟩:=hi;have:=h2 k (AF hk);exact⟨this.1,this.2,rfl⟩
 by_cases hz:0 < drift
 ·rw[if_pos hz]
  refine⟨?_,λa ha=>?_,?_⟩
  ·rw[Ad,PM,Br];omega
  ·rcases Aw.1 ha with ha | ha
   ·rw[AG] at ha
    subst ha;exact⟨ab0,ab0,rfl⟩
   ·exact hdr a ha
  ·rw[AX,ix,Au,AD,DH,Co]
   refine⟨λhm=>?_,Rr _ _ _ Dv⟩;obtain⟨j,_,e⟩:=AT.1 hm;have:(1:Int)=2:=congrArg Qn.kind e;omega
 ·rw[if_neg hz,Ba]
  exact⟨by rw[PM];omega,hdr,by rw[ix];exact Rr _ _ _ Dv⟩
def Xu{s:FZ}(h:s.disk.pending.length<=4)(self:Int)(la:List Gy):ON la (GX s self la).asks:=by
 unfold GX;dsimp only;refine⟨by rw[AJ,BO];exact h,λa ha=>?_,?_⟩
 ·obtain⟨i,_,rfl⟩:=AT.1 ha
  exact⟨ab0,ab0,rfl⟩
 ·rw[BN]
  exact Rr _ _ _ Dv
def KL(c:I2):Prop:=∀ p∈c.programs,Iz p
def KL.getD{c:I2}(h:KL c)(i:Nat):Iz (c.programs.getD i default):=by
 rw[List.getD];cases hv:c.programs[i]? with
 | none=>exact Iz.none
 | some p=>exact h p (AF hv)
def TR{w:E4}(hD:KL w.c)(hd:w.c.drift<=3)(hp:∀ s∈w.nodes,s.disk.pending.length<=4)(e:Fu)(la:List Gy):ON la (Eh w e la).2.asks:=by
 have hg:=hD.getD;unfold Eh;dsimp only;split
 ·exact JW (hg _) hd _ _ _ _ _ _
 split
 ·exact JW (hg _) hd _ _ _ _ _ _
 split
 ·exact JW (hg _) hd _ _ _ _ _ _
 split
 ·exact JW (hg _) hd _ _ _ _ _ _
 split
 ·exact ON.nil _
 split
 ·exact ON.nil _
 ·refine Xu ?_ _ _
  rw[List.getD];cases hv:w.nodes[e.node.toNat]? with
  | none=>exact AM _
  | some s=>exact hp s (AF hv)
def RW{w:E4}(h:JI w)(hD:KL w.c)(e:Fu)(la:List Gy):ON la (EK w e la).2.1.asks:=by
 unfold EK;split
 ·exact ON.nil _
 split
 ·exact TR hD h.inv.cfg.drift.2 (λs hs=>(h.inv.node s hs).disk.pend) e la
 ·exact ON.nil _
def RX(q:Qn):∀ (l:List Gy) (n:Int),(∀ a∈l,a.q≠q)->l.foldl (λn a=>if a.q=q then max a.n 0 else n) n=n
 | [],n,_=>rfl
 | a::l,n,h=>by
  rw[Bg,if_neg (h a iN),RX q l n λb hb=>h b (by simp[hb])]
def ko{l:List Gy}(h:(l.map Gy.q).Nodup){a:Gy}(ha:a∈l):GH l a.q=max a.n 0:=by
 obtain⟨l1,l2,rfl⟩:=List.append_of_mem ha;rw[AX,Au] at h;have h2:=(Co.1 (B9.1 h).2.1).1;unfold GH;rw[Cm,Bg,if_pos rfl];exact RX _ _ _ λb hb e=>h2 (AT.2 ⟨b,hb,e⟩)
def VH{l:List Gy}(h:(l.map Gy.q).Nodup){a:Gy}(ha:a∈l){k:Int}(h0:0<=a.n)(h1:a.n < k):EJ l a.q k=a.n:=by
 unfold EJ;rw[ko h ha,Int.max_eq_left h0,Int.tmod_eq_of_lt h0 h1]
def Uu(s:I6):(Eb s).map Gy.q=s.asks.map Ask.q:=by
 unfold Eb;rw[BN];rfl
def ee{w:E4}{e:Fu}{la:List Gy}(h:ON la (EK w e la).2.1.asks):EK w e (Eb (EK w e la).2.1)=EK w e la:=by
 refine dZ λa ha=>?_
 have hr:=h.range ha;exact VH (a:=⟨a.q,a.n⟩) (l:=Eb (EK w e la).2.1) (by rw[Uu];exact h.nd) (AT.2 ⟨a,ha,rfl⟩) hr.1 hr.2
def Mu:Nat->List Ask->Nat
 | 0,_=>0
 | _+1,[]=>0
 | d+1,a::l=>a.n.toNat * 5 ^ d+Mu d l
def iy(d:Nat):∀ (l:List Ask),(∀ a∈l,a.n<=4)->Mu d l < 5 ^ d:=by
 induction d with
 | zero=>intro l _;simp[Mu]
 | succ d ih=>
  intro l h;cases l with
  | nil=>simp[Mu];exact Nat.pow_pos iF
  | cons a l=>
   rw[Mu,Nat.pow_succ];have h1:=ih l λb hb=>h b (by simp[hb])
   have h2:a.n.toNat<=4:=by have:=h a iN;omega
   have h3:=AL (5 ^ d) h2;omega
def Uv:∀ (d k:Nat) (l1 l2:List Ask) (a b:Ask),k < d->(∀ i,i < k->l2[i]? = l1[i]?)->l1[k]? = some a->l2[k]? = some b->a.n.toNat < b.n.toNat->(∀ a∈l1,a.n<=4)->Mu d l1 < Mu d l2
 | 0,k,l1,l2,a,b,hk,_,_,_,_,_=>absurd hk (Cn k)
 | d+1,0,l1,l2,a,b,hk,h,h1,h2,hlt,hd=>by
  cases l1 with
  | nil=>simp at h1
  | cons x l1=>
   cases l2 with
   | nil=>simp at h2
   | cons y l2=>
    simp only[BH,AE] at h1 h2;subst h1 h2;rw[Mu,Mu];have h3:=iy d l1 λc hc=>hd c (by simp[hc])
    have h4:=AL (5 ^ d) (show x.n.toNat+1<=y.n.toNat from hlt);rw[Bd,CY] at h4;omega
 | d+1,k+1,l1,l2,a,b,hk,h,h1,h2,hlt,hd=>by
  cases l1 with
  | nil=>simp at h1
  | cons x l1=>
   cases l2 with
   | nil=>simp at h2
   | cons y l2=>
    have h0:=h 0 (Nat.succ_pos k);simp only[BH,AE] at h0;subst h0;rw[Mu,Mu];have:=Uv d k l1 l2 a b dO (λi hi=>by have:=h (i+1) dO;simpa using this) ac0 ad0 hlt λc hc=>hd c (by simp[hc])
    omega
def W5(w:E4)(e:Fu)(s:I6):Prop:=∃ la,(EK w e la).2=(s,0)
def W5.asks{w:E4}{e:Fu}{s:I6}(h:W5 w e s)(hw:JI w)(hD:KL w.c):∃ la,ON la s.asks/\(EK w e la).2=(s,0):=by
 obtain⟨la,h⟩:=h;have:=RW hw hD e la;rw[h] at this;exact⟨la,this,h⟩
def nK{w:E4}{e:Fu}{la:List Gy}(h:(EK w e la).2.2=0):(EK w e la).2.1.ev=e:=by
 rcases Oc w e with ⟨x,hx,h'⟩ | ⟨f,g,hf,hg,ha⟩
 ·rw[h'] at h;exact absurd h hx
 ·rw[hg];exact (ha la).2.1
def W5.self{w:E4}{e:Fu}{s:I6}(h:W5 w e s)(hw:JI w)(hD:KL w.c):s.ev=e/\(EK w s.ev (Eb s)).2=(s,0):=by
 obtain⟨la,h⟩:=h;have e1:(EK w e la).2.1=s:=by rw[h]
 have e2:(EK w e la).2.2=0:=by rw[h]
 have e3:=nK e2;rw[e1] at e3;have:=ee (RW hw hD e la);rw[e1] at this;exact⟨e3,by rw[e3,this,h]⟩
def IJ(s:I6)(k:Nat):List Gy:=(Eb s).take k++[⟨(s.asks.getD k default).q,(s.asks.getD k default).n+1⟩]
def W5.Adb{w:E4}{e:Fu}{s:I6}(h:W5 w e s)(hw:JI w)(hD:KL w.c){k:Nat}{a:Ask}(hk:s.asks[k]? = some a)(hn:a.n+1≠a.arity):W5 w e (EK w e (IJ s k)).2.1/\Mu 4 s.asks < Mu 4 (EK w e (IJ s k)).2.1.asks/\(EK w e (IJ s k)).2.2=0:=by
 obtain⟨la,ha,hs⟩:=h.asks hw hD;have e1:(EK w e la).2.1=s:=by rw[hs]
 have e2:(EK w e la).2.2=0:=by rw[hs]
 have hlt:=(Am.1 hk).1;have hg:s.asks.getD k default=a:=by rw[List.getD,hk];rfl
 have har:=ha.range (AF hk);have hnd:((IJ s k).map Gy.q).Nodup:=by
  have:(IJ s k).map Gy.q=(s.asks.map Ask.q).take (k+1):=by
   unfold IJ;rw[AX,List.map_take,Uu,hg,Au,AD];show _++[a.q]=_
   rw[Bn,BI,hk];rfl
  rw[this];exact List.Nodup.sublist (List.take_sublist _ _) ha.nd
 have H:∀ i b,(EK w e la).2.1.asks[i]? = some b->i < k->EJ (IJ s k) b.q b.arity=b.n:=by
  intro i b hb hi;rw[e1] at hb;have hbr:=ha.range (AF hb);refine VH (a:=⟨b.q,b.n⟩) hnd ?_ hbr.1 hbr.2;unfold IJ;refine Aw.2 (.inl ?_);apply AF (i:=i);rw[BZ,if_pos hi];unfold Eb;rw[BI,hb];rfl
 obtain⟨p1,p2,p3⟩:=ec H;rw[e1] at p2 p3;have hz:(EK w e (IJ s k)).2.2=0:=by rw[p1,e2]
 refine⟨⟨IJ s k,by rw[<- hz]⟩,?_,hz⟩;have hl:EJ (IJ s k) a.q a.arity=a.n+1:=VH (a:=⟨a.q,a.n+1⟩) hnd (by unfold IJ;rw[hg];simp) ab0 ab0;exact Uv 4 k _ _ a _ (by have:=ha.len;omega) p2 hk (p3 a hk) (by dsimp only;rw[hl];omega) λb hb=>by have:=ha.range hb;have:=ha.ok b hb;omega
inductive Ju(w0:E4):List I6->E4->Prop
 | nil:Ju w0 [] w0
 | snoc {l:List I6} {w w':E4} {s:I6}:Ju w0 l w->EK w s.ev (Eb s)=(w',s,0)->Ju w0 (l++[s]) w'
def Ju.inv{w0 w:E4}{l:List I6}(h:Ju w0 l w)(h0:JI w0):JI w/\w.c=w0.c:=by
 induction h with
 | nil=>exact⟨h0,rfl⟩
 | snoc hr hs ih=>
  have e:=congrArg Prod.fst hs;dsimp only at e;rw[<- e];exact⟨kg ih.1 _ _,(uy _ _ _).trans ih.2⟩
def nM{w:E4}{e:Fu}{la:List Gy}(h:(EK w e la).2.2=0):(EK w e la).1.steps=w.steps+1:=by
 unfold EK at h |-;split at h
 ·cases h
 split at h
 ·rename_i h1 h2
  rw[if_neg h1,if_pos h2]
 ·cases h
def Ju.steps{w0 w:E4}{l:List I6}(h:Ju w0 l w):w.steps=w0.steps+l.length:=by
 induction h with
 | nil=>simp
 | snoc hr hs ih=>
  rename_i l' w1 w2 s;have h1:=nM (w:=w1) (e:=s.ev) (la:=Eb s) (by rw[hs]);rw[hs] at h1;dsimp only at h1;rw[h1,ih,Ad,Br];omega
end Go.Proofs.YtkkpchcniicimaaGreat

/- The abstract forms of the functions of this seat (printed by a program). -/
import Derived.Test.YtkkpchcniicimaaGreatZMb
import Derived.Test.YtkkpchcniicimaaGreatProg
import Derived.KernelRfl
set_option linter.all false
set_option maxRecDepth 100000
noncomputable section
namespace Go.Proofs.YtkkpchcniicimaaGreat
open Go Go.RowKit
namespace Zp
abbrev A:=Nat
abbrev B:=EW
abbrev C:=List EW
abbrev D:=Fh
abbrev E:=Operand
abbrev F:=Gk
abbrev G:=Int
abbrev H:=Value
abbrev I:=List Nat
abbrev J:=BinOp
abbrev K:=Array Operand
abbrev L:=Bool × Bool
abbrev M:=(Bool × Bool) × Bool
abbrev N:=List Value
abbrev O:=List JK
abbrev P:=Array Value
abbrev Q:=Option Operand
abbrev R:=List (Nat × Nat × Operand)
abbrev S:=List (List Nat)
abbrev T:=List ((Bool × Bool) × Bool)
abbrev U:=Option (Nat × Bool)
abbrev V:=Nat × Nat × Operand
abbrev d7(a:A)(b:F)(c:U):B:=⟨(.some a),b,c⟩
abbrev q(a:A)(b:F):B:=d7 a b .none
abbrev d8(a:G):H:=.int .i64 a
abbrev a:H:=d8 0
abbrev d2(a:A):F:=.mv (.tmp a)
abbrev y(a:C)(b:D):D:=.seq (.region a) b
abbrev e(a b:A):B:=q a (d2 b)
abbrev dk(a b:A):H:=.slice .none a b
abbrev d3(a:Bool)(b c:A):F:=.load a b (.tmp c)
abbrev d4(a b:A):F:=.fa a (.tmp b)
abbrev db(a:A)(b:Bool)(c d:A):B:=q a (d3 b c d)
abbrev cO(a:J)(b:A)(c:E):F:=.bin a (.tmp b) c
abbrev d9(a:Bool):L:=(a,.false)
abbrev da:L:=d9 .false
abbrev f(a b c:A):B:=q a (d4 b c)
abbrev cY(a:L):M:=(a,.false)
abbrev b:M:=cY da
abbrev ae(a:G):E:=.const (d8 a)
abbrev dc(a b:A)(c:E):F:=.store a (.tmp b) c
abbrev dn(a b c:A):B:=db a .false b c
abbrev dq(a:A)(b:F)(c:Nat × Bool):B:=d7 a b (.some c)
abbrev d5(a:A)(b:J)(c:A)(d:E):B:=q a (cO b c d)
abbrev j:H:=.bool .false
abbrev cB(a:A)(b c:D):D:=.cond (.tmp a) b c
abbrev dm(a:H):F:=.mv (.const a)
abbrev dj(a b c:A):F:=dc a b (.tmp c)
abbrev di(a:F)(b:U):B:=⟨.none,a,b⟩
abbrev dd(a:F):B:=di a .none
abbrev l(a b c:A):B:=dd (dj a b c)
abbrev dl(a:A):H:=dk 0 a
abbrev c:H:=dl 0
abbrev m(a b c:A):B:=db a .true b c
abbrev aP(a b:A)(c:K):B:=q a (.call b c)
abbrev bj(a:A)(b:J)(c:A)(d:G):B:=d5 a b c (ae d)
abbrev bu(a:A)(b:H):B:=q a (dm b)
abbrev bd(a b c d:A)(e:N)(f:R):B:=q a (.buildSlice b c d e f)
abbrev de(a b:A)(c:E):F:=.ia a (.tmp b) c
abbrev c9(a:C)(b c:D):D:=.seq (y a b) c
abbrev z(a b:C)(c:D):D:=y a (y b c)
abbrev cZ(a b c:A):F:=de a b (.tmp c)
abbrev dp(a b c d:A)(e:E):F:=.append a b c (.tmp d) e
abbrev dr(a:A)(b:P):F:=.zero a (.agg b)
abbrev cy(a:A):F:=.len (.tmp a)
abbrev a4(a b c d:A):B:=q a (cZ b c d)
abbrev d(a b:A):B:=dn a 1 b
abbrev dt(a b:A):F:=.ext (.tmp a) b
abbrev aK(a:A)(b:J)(c d:A):B:=d5 a b c (.tmp d)
abbrev bE(a:A)(b:D):D:=.block a (.loop b)
abbrev aw:E:=.const a
abbrev o(a:A)(b:N)(c:R):B:=q a (.build b c)
abbrev d0(a:A)(b c:E):F:=.pick (.tmp a) b c
abbrev ds(a b c d e:A):F:=dp a b c d (.tmp e)
abbrev aS(a:C)(b:S)(c:T):D:=.draw ⟨a,b,c⟩
abbrev du(a b:A):F:=.box a (.tmp b)
abbrev cP(a:D)(b:C):D:=.seq a (.region b)
abbrev cQ(a:C)(b:A)(c d e:D):D:=c9 a (cB b c d) e
abbrev df(a:A)(b:F)(c:A)(d:Bool):B:=dq a b (c,d)
abbrev aV(a:A)(b:F)(c:A):B:=df a b c .true
abbrev cS:E:=.const j
abbrev ab(a:C):D:=y a .ret
abbrev r(a b:A)(c:P):B:=q a (dr b c)
abbrev W(a b c d e f:A):B:=q a (ds b c d e f)
abbrev b2(a b c:A):B:=q a (dt b c)
abbrev k(a b:A):B:=q a (cy b)
abbrev ce(a b c:A):B:=q a (du b c)
abbrev bP(a:A)(b:D)(c:C):D:=cP (.block a b) c
abbrev aM(a:A)(b:F)(c:A):B:=df a b c .false
abbrev dg(a b:A)(c d:E):B:=q a (d0 b c d)
abbrev ak(a':A):B:=bu a' a
abbrev dx(a b c:A)(d:E):B:=dg a b (.tmp c) d
abbrev dy(a b:A)(c:G):B:=bj a .add b c
abbrev bQ(a:C)(b:A)(c d:D):D:=y a (cB b c d)
abbrev a8(a:C)(b:S)(c:T)(d:D):D:=.seq (aS a b c) d
abbrev X(a b c:A):B:=aV a (d2 b) c
abbrev dv:L:=d9 .true
abbrev dw(a:C)(b:A)(c:D)(d:A)(e:D):D:=cQ a b c (.exit d) e
abbrev dh(a b:A):F:=d3 .false a b
abbrev bz(a:C)(b:A)(c d:D):D:=cQ a b c .skip d
abbrev bv(a:A):B:=bu a c
abbrev u(a b c:A):B:=aK a .lss b c
abbrev cG(a:C)(b:A)(c:C)(d:D):D:=bQ a b (.region c) d
abbrev bD(a b:A):JK:=.cell a .true b
abbrev ct(a:C)(b:A)(c d:D):D:=c9 a (bE b c) d
abbrev cX(a b:A)(c:G):B:=bj a .eql b c
abbrev g(a b:A):B:=f a 0 b
abbrev cd(a:A):K:=#[(.tmp a)]
abbrev a0(a b c:A):B:=aP a b (cd c)
abbrev ad:M:=cY dv
abbrev cT(a:C)(b c:A)(d:D):D:=dw a b .skip c d
abbrev cH(a:A)(b:E):K:=#[(.tmp a),b]
abbrev cW(a b:A):K:=cH a (.tmp b)
abbrev a2(a b c d:A):B:=aP a b (cW c d)
abbrev cs(a:A)(b:J)(c:A)(d:E)(e:A):B:=aV a (cO b c d) e
abbrev cR:H:=.bool .true
abbrev Y(a b c:A):B:=dx a b c cS
abbrev h(a b:A):B:=l 1 a b
abbrev af(a:C)(b c d:A)(e:D)(f:C):D:=cT a b c (bP d e f)
abbrev cU(a b c:A)(d:E):F:=.iaArr a b (.tmp c) d
abbrev au(a b c d:A):B:=aV a (d4 b c) d
abbrev x(a:A):B:=e a 0
abbrev ao(a:B)(b c:A):C:=[a,(e b c)]
abbrev aB(a b:A)(c:G)(d e:A):C:=ao (cX a b c) d e
abbrev bm(a:C)(b:A)(c:C)(d:D):D:=bz a b (ab c) d
abbrev cE(a:A):Q:=.some (.tmp a)
abbrev dF(a b c d:A):B:=aV a (dh b c) d
abbrev cF:E:=.const cR
abbrev a1(a:A):B:=e a 13
abbrev cr:H:=.pointer .none
abbrev cx(a:A):O:=[(.tmp a)]
abbrev av(a b:C):D:=z a b .ret
abbrev s(a b:A):B:=f a 1 b
abbrev aW(a b:A):B:=dy a b 1
abbrev p(a:A):B:=e a 5
abbrev cn(a b:A)(c:G):B:=bj a .sub b c
abbrev bf(a:A)(b:J)(c:A):B:=d5 a b c aw
abbrev dB(a b:A)(c d:Q):F:=.sl a (.tmp b) c d
abbrev bY(a:A)(b c:E):K:=#[(.tmp a),b,c]
abbrev dz(a b:A)(c:E):K:=bY a (.tmp b) c
abbrev c1(a b c d:A)(e:E):B:=aP a b (dz c d e)
abbrev dA(a:G):F:=.mv (ae a)
abbrev cA(a:C)(b:A)(c:D)(d:C):D:=ct a b c (ab d)
abbrev b6(a:A):C:=[(ak a)]
abbrev t(a:A):B:=e a 6
abbrev aY(a:A)(b:G):B:=q a (dA b)
abbrev aQ(a b c:C)(d:D):D:=y a (z b c d)
abbrev v(a:A):B:=e a 8
abbrev i:I:=[12]
abbrev a3(a:A):B:=e a 1
abbrev ah(a b:A):B:=f a b 3
abbrev aZ(a b:A)(c:E):B:=dd (dc a b c)
abbrev am(a:A):B:=e a 15
abbrev w(a b c:A):B:=a4 a 1 b c
abbrev cu(a b c:A)(d e:Q):B:=q a (dB b c d e)
abbrev dD(a:A)(b:D)(c:A):D:=cB a b (.exit c)
abbrev bl(a b:B)(c d:A):C:=[a,b,(e c d)]
abbrev aX(a:B)(b c d e:A):C:=bl a (aW b c) d e
abbrev aR(a' b' c' d' e' f':A):C:=aX (e a' b') c' d' e' f'
abbrev be(a b c d e:A):B:=c1 a b c d (.tmp e)
abbrev dC(a b c:A)(d:N)(e:R):B:=bd a b c 1 d e
abbrev a7(a b c:A)(d:N)(e:V):B:=dC a b c d [e]
abbrev aC(a:A):C:=[(bv a)]
abbrev bZ:E:=.const c
abbrev b5(a b:A)(c:D)(d:C):D:=cA (b6 a) b c d
abbrev cm(a b c d:A)(e:E):B:=q a (cU b c d e)
abbrev bt(a b:A)(c:K)(d:A):B:=aV a (.call b c) d
abbrev n:I:=[10]
abbrev b4:E:=ae 1
abbrev b7:O:=cx 4
abbrev a6(a b:A):B:=m a 8 b
abbrev c2(a b:C):D:=y a (.region b)
abbrev a9(a:A):B:=e a 4
abbrev bc:O:=cx 2
abbrev cL(a b:A):D:=dD a .skip b
abbrev ac(a:A):B:=e a 3
abbrev d1(a:A)(b:D):D:=cB a b .skip
abbrev bG(a:C)(b:A)(c:D)(d:C)(e:A)(f g:D):D:=bQ a b c (bQ d e f g)
abbrev b3(a b:A)(c:E)(d:A):B:=cs a .eql b c d
abbrev aa(a b:A):B:=ce a b 0
abbrev ag(a:A):B:=e a 9
abbrev aD(a b:A):B:=m a 16 b
abbrev ai(a:A):B:=e a 2
abbrev bg(a b:C)(c:A)(d:C)(e:D):D:=y a (bm b c d e)
abbrev aH(a b:A):B:=l 16 a b
abbrev cV(a:C)(b c:D):D:=y a (.seq b c)
abbrev bA:N:=[a]
abbrev aL(a:A):B:=e a 10
abbrev bo(a b:A)(c d:D):D:=ct (b6 a) b c d
abbrev d6(a b c:A)(d:Q):B:=cu a b c .none d
abbrev al(a b:A):B:=m a 5 b
abbrev bw(a b c d:A):B:=d6 a b c (cE d)
abbrev Z:I:=[17]
abbrev ar(a:A):B:=e a 7
abbrev dE(a b:A):F:=d3 .true a b
abbrev cJ(a b c:A)(d:E):B:=q a (de b c d)
abbrev bT:E:=ae (-1)
abbrev ay(a:A):B:=e 6 a
abbrev aq(a b:A):B:=b2 a b 1
abbrev ap(a b:A):B:=b2 a b 0
abbrev dJ(a b:A)(c:E)(d:A):B:=dg a b c (.tmp d)
abbrev a5:I:=[18]
abbrev bI(a b c d:A):B:=aM a (dh b c) d
abbrev bH(a b c d:A):B:=aM a (d4 b c) d
abbrev bp(a b:A)(c:G):B:=bj a .quo b c
abbrev bN(a b c:A):B:=aM a (d2 b) c
abbrev bx(a:C)(b:A)(c:D):D:=z a (aC b) c
abbrev cc(a:C)(b:A)(c:C)(d:D):D:=bz a b (.region c) d
abbrev bM:B:=bv 4
abbrev az(a b:A):B:=f a b 1
abbrev cD(a:A):F:=.nilck (.tmp a)
abbrev b1(a b:A):B:=l 67 a b
abbrev br(a b:A)(c:E)(d:A):B:=cs a .lss b c d
abbrev bL(a b c d:A):B:=aV a (dE b c) d
abbrev bb(a b c:A)(d:V):B:=a7 a b c bA d
abbrev dH(a:UnOp)(b:A):F:=.un a (.tmp b)
abbrev aO(a:A)(b:G)(c d:A):C:=aB a 51 b c d
abbrev cI:E:=.const cr
abbrev bK(a b:A):B:=bf a .eql b
abbrev bV:B:=x 7
abbrev cj(a:A)(b:Bool)(c:E)(d:List Operand):B:=q a (.minmax b c d)
abbrev aA(a b c:A):B:=dF a 1 b c
abbrev dG(a:L):M:=(a,.true)
abbrev aJ:M:=dG da
abbrev cb(a:I)(b c:E):F:=.eqf a .false b c
abbrev ck(a b c d e:A):B:=W a b 1 c d e
abbrev bR(a b c d e:A):B:=aV a (cZ b c d) e
abbrev cM(a:A)(b:C):D:=.block a (.region b)
abbrev b9(a b c:A):B:=a4 a 52 b c
abbrev aj:I:=[34]
abbrev c0:O:=cx 6
abbrev bi(a:A):B:=e 13 a
abbrev c5:C:=aC 2
abbrev aI(a b:A):B:=ce a b 1
abbrev bX(a b c d:A):C:=ao (aW a b) c d
abbrev bn(a:A):B:=s a 11
abbrev bh(a b:A):B:=f a b 17
abbrev bJ(a:A):B:=bu a j
abbrev cw:E:=.tmp 38
abbrev an:I:=[15]
abbrev cC:E:=.tmp 18
abbrev bS(a b c d:A)(e:G):B:=cm a b c d (ae e)
abbrev bq(a:A):B:=e a 11
abbrev bC(a:C)(b:S)(c:T):D:=a8 a b c .ret
abbrev ax:I:=[14]
abbrev cf:C:=b6 6
abbrev ch:B:=x 6
abbrev ci:B:=x 8
abbrev aN(a b:A):B:=f a b 4
abbrev cg(a:J)(b c:A):F:=cO a b (.tmp c)
abbrev c7(a:A)(b:UnOp)(c:A):B:=q a (dH b c)
abbrev c6(a b:A):B:=bf a .lss b
abbrev c8(a:C)(b:A)(c:C):D:=cG a b c .skip
abbrev aT(a b:A):B:=cn a b 1
abbrev bF(a:A)(b:P):B:=r a 160 b
abbrev cv:E:=ae 20
abbrev cz:B:=a3 16
abbrev bs(a b:A):B:=f a b 11
abbrev ca(a b c:A):B:=aV a (cy b) c
abbrev aU(a b:A):B:=m a 2 b
abbrev co(a:C)(b:A)(c d:C)(e:A)(f:C)(g:D):D:=cG a b c (cG d e f g)
abbrev dI(a b c d:A):B:=ck a 3 b c d
abbrev aF(a b c:A):B:=dI a 8 b c
abbrev bk(a:A)(b:P):B:=r a 68 b
abbrev cq:B:=x 3
abbrev bW(a:C)(b c:A)(d:D):D:=cV a (cL b c) d
abbrev b8(a:A):B:=ah a 8
abbrev ba(a:A):B:=g a 1
abbrev aE:I:=[11]
abbrev cl(a:A)(b:C):D:=d1 a (ab b)
abbrev cN:E:=.tmp 31
abbrev aG:I:=[22]
abbrev bB(a:A):B:=e a 12
abbrev bU(a b:A)(c:G):B:=bj a .rem b c
abbrev b0(a b:A):O:=[(bD a b)]
abbrev cp(a:J)(b:E)(c:A):F:=.bin a b (.tmp c)
abbrev c4(a b c:A):B:=aK a .rem b c
abbrev c3(a b c:A)(d:G):B:=cJ a b c (ae d)
abbrev bO(a b c:A):B:=dJ a b cF c
abbrev cK(a:A)(b:C):D:=d1 a (.region b)
end Zp
open Zp
def xf3:Ed:=⟨128,z [bJ 6] [x 21,a0 22 4 21,r 7 26 #[c,c,c,c,a,a,a,a],l 8 7 22] (a8 [a6 23 7,a3 24,a0 25 6 24,a2 26 5 23 25,r 8 31 #[c,c],l 2 8 26] [[2,3],[2],[2,3],[3,5],[2,3,5],[5,6]] [b,b,ad,b,b,b] (y [a6 27 7,r 9 26 #[c,c,c,c,a,a,a,a],l 8 9 27] (c9 [ai 28,aP 29 7 (cH 28 (ae 5))] (.block 0 (co (ao (bK 39 29) 38 39) 38 [f 40 7 9,aZ 1 40 (ae 4)] (aB 42 29 1 41 42) 41 [s 43 9,aZ 1 43 bZ] (co (aB 45 29 2 44 45) 44 [g 46 9,aZ 1 46 bZ] (aB 48 29 3 47 48) 47 [f 49 4 9,aZ 1 49 bT] (.region [bd 30 36 4 0 [a,a,a,a] [],f 31 3 7,d 32 31,W 33 36 4 32 30 32,o 34 [a,a,a,a] [(0,(1,.const (.int .i64 12)))],a7 35 36 4 [a,a,a,a] (0,(4,.tmp 34)),W 36 36 4 32 33 35,f 37 3 9,h 37 36])))) (aQ [a6 51 9,aU 52 8,a2 53 8 51 52,e 50 53,ap 54 50,aq 55 50,b2 56 50 2,b2 57 50 3,e 10 54,e 11 55,e 12 56,bi 57] [a6 59 9,aU 60 8,a2 61 9 59 60,e 58 61,ap 62 58,aq 63 58,b2 64 58 2,e 14 62,e 15 63,e 16 64] [a6 66 9,a6 67 7,aU 68 8,be 69 10 66 67 68,e 65 69,ap 70 65,aq 71 65,r 17 49 #[a,a,a,a,a,a,j],l 7 17 70,e 18 71] (av [a6 73 7,a6 74 9,aU 75 8,be 76 10 73 74 75,e 72 76,ap 77 72,aq 78 72,r 19 49 #[a,a,a,a,a,a,j],l 7 19 77,e 20 78] [aL 79,k 80 79,bK 81 80,e 82 81,X 83 11 82,aV 84 (.eqp .false (.tmp 83) cI) 82,Y 85 82 84,e 86 85,X 87 12 86,b3 88 87 aw 86,Y 89 86 88,e 90 89,X 91 13 90,b3 92 91 cv 90,Y 93 90 92,e 94 93,X 95 14 94,ca 96 95 94,b3 97 96 aw 94,Y 98 94 97,e 99 98,X 100 15 99,aV 101 (.eqp .false (.tmp 100) cI) 99,Y 102 99 101,e 103 102,X 104 16 103,b3 105 104 cv 103,Y 106 103 105,e 107 106,X 108 18 107,b3 109 108 cv 107,Y 110 107 109,e 111 110,X 112 20 111,b3 113 112 cv 111,Y 114 111 113,e 115 114,bL 116 7 17 115,aV 117 (.build [a,a,a,a,a,a,j] []) 115,aV 118 (cb [1,1,1,1,1,1,0] (.tmp 116) (.tmp 117)) 115,Y 119 115 118,e 120 119,bL 121 7 19 120,aV 122 (.build [a,a,a,a,a,a,j] []) 120,aV 123 (cb [1,1,1,1,1,1,0] (.tmp 121) (.tmp 122)) 120,Y 124 120 123,e 125 124,bt 126 11 #[] 125,Y 127 125 126,ay 127]))))),c0⟩
theorem XF3:XF Tryz.prog 3=some xf3:=af0
def xf4:Ed:=⟨160,bx [r 2 26 #[c,c,c,c,a,a,a,a]] 3 (bo 4 0 (af [a9 14,bj 15 .lss 14 14] 15 0 1 (.region [ac 18,x 19,a9 20,c1 21 12 19 20 (ae 1000000),bb 22 3 1 (0,(1,.tmp 21)),aF 23 18 22,e 3 23]) (aR 16 4 17 16 4 17)) (aQ [r 5 26 #[c,c,c,c,a,a,a,a]] [ac 25,cJ 26 1 25 aw,d 27 26,a0 28 14 27,a0 29 13 28,e 24 29,ap 30 24,aq 31 24,r 6 58 #[c,a,a,a,a,a,a,a,a,a,a,a,a,a,a,a,a,a,a,a,a,a,a,a,a,a,a,a,a,a,a,a,a,a,a,a,a,a,a,a,a,a,a],l 43 6 30,e 7 31] [m 32 43 6,a7 33 58 43 [c,a,a,a,a,a,a,a,a,a,a,a,a,a,a,a,a,a,a,a,a,a,a,a,a,a,a,a,a,a,a,a,a,a,a,a,a,a,a,a,a,a,a] (0,(43,.tmp 32)),g 34 5,h 34 33] (bz [ac 35,cJ 36 1 35 b4,d 37 36,bU 38 37 3,bK 39 38] 39 (c2 [ac 41,cJ 42 1 41 b4,d 43 42,bp 44 43 3,a0 45 14 44,a0 46 13 45,e 40 46,ap 47 40,aq 48 40,r 8 58 #[c,a,a,a,a,a,a,a,a,a,a,a,a,a,a,a,a,a,a,a,a,a,a,a,a,a,a,a,a,a,a,a,a,a,a,a,a,a,a,a,a,a,a],l 43 8 47,e 9 48] [g 49 5,d 50 49,m 51 43 8,a7 52 58 43 [c,a,a,a,a,a,a,a,a,a,a,a,a,a,a,a,a,a,a,a,a,a,a,a,a,a,a,a,a,a,a,a,a,a,a,a,a,a,a,a,a,a,a] (0,(43,.tmp 51)),W 53 58 43 360 50 52,g 54 5,h 54 53]) (y [ac 55,c3 56 1 55 2,d 57 56,aW 58 57,bU 59 58 3,q 60 (cp .add b4 59),e 10 60] (bo 11 2 (af [bq 61,aL 62,u 63 61 62] 63 2 3 (aS [s 66 5,d 67 66,ac 68,c3 69 1 68 2,d 70 69,bp 71 70 3,bq 72,aW 73 72,aK 74 .quo 71 73,g 75 5,d 76 75,k 77 76,c4 78 74 77,bb 79 3 1 (0,(1,.tmp 78)),aF 80 67 79,s 81 5,h 81 80] [ax,ax,ax,ax,ax,ax,ax,ax,ax,ax,ax,ax,ax,ax,[14,16],[16],[16,17]] [b,b,b,b,b,b,b,b,b,b,b,b,b,b,b,b,b]) (aR 64 11 65 64 11 65)) (bz [ac 82,c3 83 1 82 3,d 84 83,bU 85 84 3,bK 86 85] 86 (aS [ac 87,c3 88 1 87 3,d 89 88,bp 90 89 3,g 91 5,d 92 91,k 93 92,c4 94 90 93,bd 95 3 1 2 bA [(0,(1,.tmp 94)),(1,(1,.const (.int .i64 0)))],f 96 2 5,h 96 95] [n,n,n,n,n,n,n,n,n,n,[10,11]] [b,b,b,b,b,b,b,b,b,b,b]) (z [ac 97,c3 98 1 97 4,d 99 98,bU 100 99 3,bp 101 100 2,f 102 4 5,h 102 101] [ac 103,c3 104 1 103 4,d 105 104,bp 106 105 3,bU 107 106 4,bp 108 107 3,f 109 5 5,h 109 108] (z [ac 110,c3 111 1 110 4,d 112 111,bp 113 112 12,bU 114 113 4,bp 115 114 3,f 116 6 5,h 116 115] [ac 117,c3 118 1 117 4,d 119 118,bp 120 119 48,bU 121 120 5,bp 122 121 4,f 123 7 5,h 123 122] (b5 12 4 (af [bB 124,ac 125,c3 126 1 125 5,d 127 126,bU 128 127 7,u 129 124 128] 129 4 5 (y [ac 132,bB 133,q 134 (cp .add (ae 6) 133),w 135 132 134,d 136 135,bi 136] (aS [f 137 3 5,d 138 137,a1 139,aL 140,c4 141 139 140,bd 142 3 1 8 bA [(0,(1,.const (.int .i64 0))),(1,(1,.const (.int .i64 1))),(2,(1,.const (.int .i64 2))),(3,(1,.const (.int .i64 3))),(4,(1,.const (.int .i64 4))),(5,(1,.const (.int .i64 0))),(6,(1,.const (.int .i64 1))),(7,(1,.const (.int .i64 3)))],a1 143,bp 144 143 3,bU 145 144 8,w 146 142 145,d 147 146,a1 148,bp 149 148 24,bU 150 149 5,bp 151 150 4,q 152 (cp .add b4 151),bB 153,q 154 (cp .add b4 153),o 155 [a,a,a,a] [(0,(1,.tmp 141)),(1,(1,.tmp 147)),(2,(1,.tmp 152)),(3,(1,.tmp 154))],a7 156 36 4 [a,a,a,a] (0,(4,.tmp 155)),W 157 36 4 32 138 156,f 158 3 5,h 158 157] [[20],[20],[20],[20],[20],[20],[20],[20],[20],[20],[20],[20],[20],[20],[20],[20],[20],[20],[20],[20],[20,22],aG,[22,23]] [b,b,b,b,b,b,b,b,b,b,b,b,b,b,b,b,b,b,b,b,b,b,b])) (aR 130 12 131 130 12 131)) [a6 159 5,l 8 2 159]))))))))),b0 2 8⟩
theorem XF4:XF Tryz.prog 4=some xf4:=af0
def xf5:Ed:=⟨41,aQ [aa 2 26,r 4 31 #[c,c]] [a6 10 2,a3 11,a2 12 15 10 11,bB 9,ap 13 9,aq 14 9,bk 6 #[c,c,c,c,a,a,a,a,c,c,c,c,c,c,c,a],a1 5,aH 6 14] [r 7 31 #[c,c]] (b5 8 0 (af [v 15,p 16,k 17 16,u 18 15 17] 18 0 1 (a8 [g 21 7,d 22 21,p 23,v 24,a4 25 11 23 24,g 26 25,a6 27 26,a7 28 74 8 [a,a,a,a,a,a,a,a] (0,(8,.tmp 27)),W 29 74 8 64 22 28,g 30 7,h 30 29] [[8],[8],[8],[8],[8],[8],[8],[8],[8,10],n,[10,11]] [b,b,b,b,b,b,b,b,b,b,b] (aS [s 31 7,d 32 31,p 33,v 34,a4 35 11 33 34,m 36 11 35,a0 37 16 36,W 38 111 6 48 32 37,s 39 7,h 39 38] [[6,7],[6,7],[6],[6],[6],[6],[6,7],[7,9],[9],[9,10]] [b,b,b,b,b,b,ad,b,b,b])) (aX (v 19) 20 19 8 20)) [aU 40 7,l 2 4 40]),b0 4 2⟩
theorem XF5:XF Tryz.prog 5=some xf5:=af0
def xf6:Ed:=⟨5,av c5 (bl cq (aP 4 17 (cH 3 cv)) 2 4),bc⟩
theorem XF6:XF Tryz.prog 6=some xf6:=af0
def xf7:Ed:=⟨13,y (b6 4) (cc [x 5,c6 6 5] 6 [bV,aW 8 7,c7 9 .neg 8,ag 0] (ab [x 10,a3 11,c4 12 10 11,bB 4])),b7⟩
theorem XF7:XF Tryz.prog 7=some xf7:=af0
def xf8:Ed:=⟨26,aQ [aa 2 26,aI 3 31,bM,bu 5 cr,ak 6,ak 7] [q 8 (.zero 3 a),aZ 1 8 bT] [a6 13 2,aU 14 3,q 15 (.mkFunc 19 #[] (cd 8)),be 16 18 13 14 15,e 12 16,ap 17 12,aq 18 12,b2 19 12 2,e 9 17,e 10 18,e 11 19] (cc [bq 20,bf 21 .neq 20] 21 [aZ 1 8 aw] (bC [ag 22,aL 23,d 24 8,bq 25,e 4 22,e 5 23,ay 24,e 7 25] [[8],[8],[8],[8],[8],[8],[8],[8]] [b,b,b,b,b,b,b,b])),[.tmp 4,.tmp 5,.tmp 6,.tmp 7]⟩
theorem XF8:XF Tryz.prog 8=some xf8:=af0
def xf9:Ed:=⟨13,av [aa 2 26,aI 3 31,bM,bu 5 cr,ak 6] [a6 7 2,aU 8 3,c1 9 18 7 8 (.func 20),ap 10 9,aq 11 9,b2 12 9 2,aL 4,bq 5,ay 12],[.tmp 4,.tmp 5,.tmp 6]⟩
theorem XF9:XF Tryz.prog 9=some xf9:=af0
def xf10(lc:Nat->Kj):Ed:=⟨93,z [aa 3 26,aI 4 26,ce 5 31 2,r 6 49 #[a,a,a,a,a,a,j],q 7 (.zero 39 a)] [a6 18 3,a0 19 21 18,e 17 19,ap 20 17,aq 21 17,e 8 20,e 9 21] (bm [ag 22,bf 23 .neq 22] 23 [o 24 [a,a,a,a,a,a,j] [],ag 25,l 7 6 24,h 7 25] (bg [a6 27 4,a0 28 21 27,e 26 28,ap 29 26,aq 30 26,e 10 29,e 9 30] [ag 31,bf 32 .neq 31] 32 [o 33 [a,a,a,a,a,a,j] [],ag 34,l 7 6 33,h 7 34] (y [q 11 (.zero 3 a),aZ 1 11 aw] (c9 [v 35,aL 36,aU 37 5,be 38 22 35 36 37] (.block 0 (.range cw (lc 1))) (ab [o 92 [a,a,a,a,a,a,j] [(0,(1,.const (.int .i64 (-1))))],l 7 6 92,aZ 1 7 aw]))))),[bD 6 7,.cell 7 .false 1]⟩
theorem XF10:XF Tryz.prog 10=some (xf10 (Aah Tryz.prog 10)):=af0
theorem XZ11:XF Tryz.prog 11=none:=af0
def xf12:Ed:=⟨21,bg cf [a3 7,c6 8 7,v 9,bN 10 1 9,bN 11 0 9,aM 12 (cy 11) 9,aM 13 (cg .geq 10 12) 9,bO 14 9 13] 14 cf (ab [x 15,cz,w 17 15 16,d 18 17,ai 19,a2 20 7 18 19,ay 20]),c0⟩
theorem XF12:XF Tryz.prog 12=some xf12:=af0
theorem XZ13:XF Tryz.prog 13=none:=af0
def xf14:Ed:=⟨12,y [bu 2 (.string ⟨#[]⟩)] (av (ao (aP 4 30 #[]) 3 4) [ac 5,ch,ac 7,k 8 7,a2 9 7 6 8,w 10 5 9,d 11 10,bq 2]),bc⟩
theorem XF14:XF Tryz.prog 14=some xf14:=af0
def xf15:Ed:=⟨72,aQ [aa 2 26,bM,bk 5 #[c,c,c,c,a,a,a,a,c,c,c,c,c,c,c,a]] [a6 16 2,a0 17 31 16,bk 6 #[c,c,c,c,a,a,a,a,c,c,c,c,c,c,c,a],aH 6 17] (aC 7) (bo 8 0 (af [v 18,a3 19,k 20 19,u 21 18 20,e 22 21,X 23 8 22,br 24 23 (ae 30) 22,Y 25 22 24] 25 0 1 (z [a3 28,v 29,w 30 28 29,d 31 30,aP 32 7 (cH 31 (ae 1000000)),e 9 32] (bl (aD 33 6) (a0 34 32 33) 10 34) (bz [aL 35,k 36 35,bK 37 36] 37 (.exit 0) (a8 [aD 38 6,aL 39,ag 40,aL 41,k 42 41,c4 43 40 42,a4 44 8 39 43,a6 45 44,a2 46 33 38 45,e 11 46] [[8],[8],[8],[8],[8],[8],[8],[8],[8,10],n] [b,b,b,b,b,b,b,b,b,b] (y [bq 47,ag 48,bp 49 48 50,bq 50,k 51 50,c4 52 49 51,a4 53 11 47 52,m 54 11 53,r 12 78 #[a,a,a,a,a,a,a,a,c,j,c],l 11 12 54] (a8 [aD 56 6,g 57 12,a6 58 57,m 59 11 12,a0 60 16 59,be 61 34 56 58 60,e 55 61,ap 62 55,aq 63 55,b2 64 55 2,bk 13 #[c,c,c,c,a,a,a,a,c,c,c,c,c,c,c,a],r 14 78 #[a,a,a,a,a,a,a,a,c,j,c],aH 13 62,l 11 14 63,e 15 64] [[4,5],[4,5],[4,5],[4],[4,5],[5,12],i,i,[12,13],[12,13,15],[4,5,12],[4,5,12],[12,13],[13,15],an] [b,b,b,b,ad,b,b,b,b,b,b,b,b,b,b] (c2 [aD 65 13,aH 6 65] [ar 66,m 67 11 12,a7 68 78 11 [a,a,a,a,a,a,a,a,c,j,c] (0,(11,.tmp 67)),W 69 78 11 120 66 68,e 7 69])))))) (aX (v 26) 27 26 8 27)) (bC [ar 70,aD 71 6,e 4 70,aH 5 71] [[3],[3],[3],[3,4]] [b,b,b,b])),[.tmp 4,bD 5 16]⟩
theorem XF15:XF Tryz.prog 15=some xf15:=af0
def xf16:Ed:=⟨29,bx [aa 1 78,bv 2] 3 (b5 4 0 (af [a9 5,az 6 8,d 7 6,k 8 7,u 9 5 8] 9 0 1 (aS [ac 12,az 13 8,d 14 13,a9 15,a4 16 7 14 15,g 17 16,al 18 17,az 19 8,d 20 19,a9 21,a4 22 7 20 21,f 23 6 22,d 24 23,o 25 [a,a,a,a,a,a] [(0,(5,.tmp 18)),(5,(1,.tmp 24))],a7 26 111 6 [a,a,a,a,a,a] (0,(6,.tmp 25)),W 27 111 6 48 12 26,e 3 27] [an,an,an,an,an,an,an,an,an,an,an,an,an,an,an,[15,17],Z] [b,b,b,b,b,b,b,b,b,b,b,b,b,b,b,b,b]) (aR 10 4 11 10 4 11)) (ao (ac 28) 2 28)),bc⟩
theorem XF16:XF Tryz.prog 16=some xf16:=af0
def xf17:Ed:=⟨14,y (aC 4) (av (aC 5) [p 6,bV,ci,k 9 8,a3 10,cj 11 .false (.tmp 9) [.tmp 10],bw 12 1 7 11,aF 13 6 12,a1 4]),b7⟩
theorem XF17:XF Tryz.prog 17=some xf17:=af0
def xf18:Ed:=⟨53,z [aa 3 26,aI 4 31,bv 6,bu 7 cr,ak 8] [a6 17 3,a0 18 21 17,e 16 18,ap 19 16,aq 20 16,e 9 19,e 10 20] (bm [aL 21,bf 22 .neq 21] 22 [aL 23,bv 6,bu 7 cr,e 8 23] (y (aC 11) (cA [g 24 4,d 25 24,k 26 25,ak 27] 0 (bW [u 28 27 26] 28 0 (bP 1 (aQ [e 29 27,a4 30 8 25 27,a6 31 30,r 13 74 #[a,a,a,a,a,a,a,a],e 12 29,l 8 13 31] [ag 33,a6 34 13,s 35 4,d 36 35,be 37 35 33 34 36,e 32 37,ap 38 32,aq 39 32,r 14 78 #[a,a,a,a,a,a,a,a,c,j,c],l 11 14 38,e 15 39] [am 40,bK 41 40] (cB 41 (.region [bq 42,m 43 11 14,a7 44 78 11 [a,a,a,a,a,a,a,a,c,j,c] (0,(11,.tmp 43)),W 45 78 11 120 42 44,e 11 45]) (bQ [ai 46,bB 47,q 48 (.callv (.tmp 46) (cd 47)),c7 49 .not 48] 49 (.exit 0) .skip))) (bX 50 27 27 50))) [bq 51,ag 52,ay 51,e 7 52,ak 8]))),[.tmp 6,.tmp 7,.tmp 8]⟩
theorem XF18:XF Tryz.prog 18=some xf18:=af0
def xf21:Ed:=⟨53,y [aa 1 26,bu 2 cr,ak 3] (c9 (bl (a6 8 1) (a0 9 36 8) 4 9) (bQ [a9 10,bf 11 .neq 10] 11 (ab (bl (a9 12) (bu 2 cr) 3 12)) .skip) (y [s 13 1,d 14 13,k 15 14,am 5] (a8 [a6 16 1,a0 17 37 16,p 18,q 19 (.mkSlice 229 1 24 [c] cC cC),p 20,q 21 (.mkSlice 238 1 24 [c] (.tmp 20) (.tmp 20)),q 22 (.extra .mkMap []),o 23 [c,c,c,c,a,a,a,a,c,c,c,c,c,c,.map .none,a] [(0,(8,.tmp 17)),(12,(1,.tmp 19)),(13,(1,.tmp 21)),(14,(1,.tmp 22))],ce 24 118 23,ay 24] [[1],[1,10],[1,10],[1,10],[1,10],[1,10],[1,10],n,n,n] [b,b,b,b,b,b,b,b,b,b] (cA [p 25,ak 26] 0 (bW [u 27 26 25] 27 0 (bP 1 (y (ao (e 28 26) 7 28) (a8 [t 29,t 30,q 31 (cD 30),f 32 8 31,d 33 32,aP 34 38 #[],a7 35 124 52 [j,a,a,a,c,c,c,c,a,a,a,a,a,a,a,a,a,a,a,a,a,a,a,a,a,a,a,a,a,a,a,a,a,a,a,a,a,a,a,a,a,a,a,a,a,a,a,a,a,a,a,a] (0,(52,.tmp 34)),W 36 124 52 480 33 35,q 37 (cD 29),f 38 8 37,h 38 36] [[5,7,10],[5,7],[5,7],[5,7],[5,7],[5,7],[7],[7,10],n,n,[10,11]] [b,b,b,b,b,ad,b,b,b,b,b] (aS [t 39,t 40,q 41 (cD 40),f 42 10 41,d 43 42,t 44,ar 45,c1 46 39 44 45 bT,bb 47 3 1 (0,(1,.tmp 46)),aF 48 43 47,q 49 (cD 39),f 50 10 49,h 50 48] [[7,9,12],[7,9],[7,9],[7,9],[7,9],[7],[7],[7,9],[9],[9,12],i,i,[12,13]] [b,b,b,b,b,b,b,ad,b,b,b,b,b]))) (bX 51 26 26 51))) [t 52,e 2 52,ak 3])))),[.tmp 2,.tmp 3]⟩
theorem XF21:XF Tryz.prog 21=some xf21:=af0
def xf30:Ed:=⟨2,av (aC 0) (ao (bd 1 9 1 12 [.string ⟨#[]⟩] [(0,(1,.const (.string ⟨#[100,117,114,97,98,108,101,32,118,59,32,111,110,32,114,101,113,117,101,115,116,32,123,32,105,102,32,111,112,32,61,61,32,48,32,123,32,114,101,112,108,121,32,105,100,44,32,118,59,32,125,32,101,108,115,101,32,123,32,105,102,32,111,112,32,61,61,32,50,32,123,32,114,101,112,108,121,32,105,100,44,32,118,59,32,118,32,61,32,97,59,32,125,32,101,108,115,101,32,123,32,118,32,61,32,97,59,32,114,101,112,108,121,32,105,100,44,32,48,59,32,125,32,125,32,125]⟩))),(1,(1,.const (.string ⟨#[100,117,114,97,98,108,101,32,118,59,32,111,110,32,114,101,113,117,101,115,116,32,123,32,105,102,32,111,112,32,61,61,32,48,32,123,32,114,101,112,108,121,32,105,100,44,32,118,59,32,125,32,101,108,115,101,32,123,32,105,102,32,111,112,32,61,61,32,50,32,123,32,114,101,112,108,121,32,105,100,44,32,118,59,32,118,32,61,32,97,59,32,115,121,110,99,59,32,125,32,101,108,115,101,32,123,32,118,32,61,32,97,59,32,115,121,110,99,59,32,114,101,112,108,121,32,105,100,44,32,48,59,32,125,32,125,32,125]⟩))),(2,(1,.const (.string ⟨#[100,117,114,97,98,108,101,32,118,59,32,111,110,32,114,101,113,117,101,115,116,32,123,32,105,102,32,115,101,108,102,32,61,61,32,48,32,123,32,105,102,32,111,112,32,61,61,32,48,32,123,32,114,101,112,108,121,32,105,100,44,32,118,59,32,125,32,101,108,115,101,32,123,32,118,32,61,32,97,59,32,115,121,110,99,59,32,114,101,112,108,121,32,105,100,44,32,48,59,32,125,32,125,32,101,108,115,101,32,123,32,115,101,110,100,32,48,44,32,49,32,44,32,105,100,44,32,48,32,45,32,111,112,59,32,105,102,32,111,112,32,33,61,32,48,32,123,32,115,101,110,100,32,48,44,32,50,44,32,105,100,44,32,97,59,32,125,32,125,32,125,32,111,110,32,109,101,115,115,97,103,101,32,49,32,123,32,105,102,32,98,32,61,61,32,48,32,123,32,115,101,110,100,32,102,114,111,109,44,32,51,44,32,97,44,32,118,59,32,125,32,125,32,111,110,32,109,101,115,115,97,103,101,32,50,32,123,32,118,32,61,32,98,59,32,115,121,110,99,59,32,115,101,110,100,32,102,114,111,109,44,32,51,44,32,97,44,32,48,59,32,125,32,111,110,32,109,101,115,115,97,103,101,32,51,32,123,32,114,101,112,108,121,32,97,44,32,98,59,32,125]⟩))),(3,(1,.const (.string ⟨#[118,111,108,97,116,105,108,101,32,118,59,32,111,110,32,114,101,113,117,101,115,116,32,123,32,105,102,32,111,112,32,61,61,32,48,32,123,32,114,101,112,108,121,32,105,100,44,32,118,59,32,125,32,101,108,115,101,32,123,32,118,32,61,32,97,59,32,114,101,112,108,121,32,105,100,44,32,48,59,32,115,101,110,100,32,49,32,45,32,115,101,108,102,44,32,52,44,32,97,44,32,48,59,32,125,32,125,32,111,110,32,109,101,115,115,97,103,101,32,52,32,123,32,118,32,61,32,97,59,32,125]⟩))),(4,(1,.const (.string ⟨#[118,111,108,97,116,105,108,101,32,120,44,32,121,59,32,111,110,32,114,101,113,117,101,115,116,32,123,32,105,102,32,111,112,32,61,61,32,51,32,123,32,115,101,110,100,32,49,32,45,32,115,101,108,102,44,32,53,44,32,105,100,44,32,97,59,32,114,101,112,108,121,32,105,100,44,32,48,59,32,125,32,101,108,115,101,32,123,32,114,101,112,108,121,32,105,100,44,32,120,59,32,120,32,61,32,121,59,32,121,32,61,32,48,59,32,125,32,125,32,111,110,32,109,101,115,115,97,103,101,32,53,32,123,32,105,102,32,120,32,61,61,32,48,32,123,32,120,32,61,32,98,59,32,125,32,101,108,115,101,32,123,32,121,32,61,32,98,59,32,125,32,125]⟩))),(5,(1,.const (.string ⟨#[118,111,108,97,116,105,108,101,32,116,59,32,111,110,32,115,116,97,114,116,32,123,32,105,102,32,115,101,108,102,32,61,61,32,48,32,123,32,116,32,61,32,49,59,32,115,101,110,100,32,110,111,100,101,115,32,45,32,49,44,32,54,44,32,49,44,32,48,59,32,125,32,125,32,111,110,32,109,101,115,115,97,103,101,32,54,32,123,32,116,32,61,32,97,32,43,32,49,59,32,105,102,32,116,32,60,32,52,32,123,32,115,101,110,100,32,102,114,111,109,44,32,54,44,32,116,44,32,48,59,32,125,32,101,108,115,101,32,123,32,102,97,105,108,32,116,59,32,125,32,125]⟩))),(6,(1,.const (.string ⟨#[118,111,108,97,116,105,108,101,32,99,59,32,111,110,32,115,116,97,114,116,32,123,32,116,105,109,101,114,32,49,59,32,125,32,111,110,32,116,105,109,101,114,32,49,32,123,32,99,32,61,32,99,32,43,32,100,114,97,119,40,51,41,59,32,105,102,32,99,32,62,32,52,32,123,32,102,97,105,108,32,55,59,32,125,32,105,102,32,99,32,60,32,51,32,123,32,116,105,109,101,114,32,49,59,32,125,32,125]⟩))),(7,(1,.const (.string ⟨#[118,111,108,97,116,105,108,101,32,108,97,115,116,59,32,111,110,32,114,101,113,117,101,115,116,32,123,32,115,101,110,100,32,49,32,45,32,115,101,108,102,44,32,55,44,32,49,44,32,48,59,32,115,101,110,100,32,49,32,45,32,115,101,108,102,44,32,55,44,32,50,44,32,48,59,32,114,101,112,108,121,32,105,100,44,32,48,59,32,125,32,111,110,32,109,101,115,115,97,103,101,32,55,32,123,32,105,102,32,97,32,60,32,108,97,115,116,32,123,32,102,97,105,108,32,51,59,32,125,32,108,97,115,116,32,61,32,97,59,32,125]⟩))),(8,(1,.const (.string ⟨#[100,117,114,97,98,108,101,32,101,59,32,118,111,108,97,116,105,108,101,32,103,59,32,111,110,32,115,116,97,114,116,32,123,32,101,32,61,32,101,32,43,32,49,59,32,105,102,32,100,114,97,119,40,50,41,32,61,61,32,49,32,123,32,115,121,110,99,59,32,125,32,103,32,61,32,110,111,119,59,32,125,32,111,110,32,114,101,113,117,101,115,116,32,123,32,105,102,32,103,32,62,32,110,111,119,32,123,32,102,97,105,108,32,49,59,32,125,32,114,101,112,108,121,32,105,100,44,32,101,59,32,125]⟩))),(9,(1,.const (.string ⟨#[118,111,108,97,116,105,108,101,32,105,44,32,115,59,32,111,110,32,114,101,113,117,101,115,116,32,123,32,105,32,61,32,48,59,32,115,32,61,32,48,59,32,119,104,105,108,101,32,105,32,60,32,51,32,123,32,115,32,61,32,115,32,43,32,105,32,42,32,97,59,32,105,32,61,32,105,32,43,32,49,59,32,125,32,114,101,112,108,121,32,105,100,44,32,115,59,32,125]⟩))),(10,(1,.const (.string ⟨#[111,110,32,116,105,109,101,114,32,48,32,123,32,119,104,105,108,101,32,116,114,117,101,32,123,32,125,32,125,32,111,110,32,115,116,97,114,116,32,123,32,116,105,109,101,114,32,48,59,32,99,97,110,99,101,108,32,49,59,32,125]⟩))),(11,(1,.const (.string ⟨#[]⟩)))]) 0 1),cx 0⟩
theorem XF30:XF Tryz.prog 30=some xf30:=af0
def xf31:Ed:=⟨39,z [aa 1 26,bk 2 #[c,c,c,c,a,a,a,a,c,c,c,c,c,c,c,a]] [a6 5 1,o 6 [c,c,c,c,a,a,a,a,c,c,c,c,c,c,c,a] [(0,(8,.tmp 5))],bk 3 #[c,c,c,c,a,a,a,a,c,c,c,c,c,c,c,a],aH 3 6] (b5 4 0 (af [a9 7,s 8 1,d 9 8,k 10 9,u 11 7 10] 11 0 1 (a8 [b8 14,d 15 14,aP 16 53 #[],a7 17 124 52 [j,a,a,a,c,c,c,c,a,a,a,a,a,a,a,a,a,a,a,a,a,a,a,a,a,a,a,a,a,a,a,a,a,a,a,a,a,a,a,a,a,a,a,a,a,a,a,a,a,a,a,a] (0,(52,.tmp 16)),W 18 124 52 480 15 17,b8 19,h 19 18] [[2,4],[2,4],[2,4],[4],[4,6],[6],[6,7]] [b,b,ad,b,b,b,b] (a8 [ah 20 10,d 21 20,a6 22 1,a9 23,c1 24 54 22 23 bT,bb 25 3 1 (0,(1,.tmp 24)),aF 26 21 25,ah 27 10,h 27 26] [[4,6],[4,6],[4],[4],[4,6],[6],[6,8],[8],[8,9]] [b,b,b,b,ad,b,b,b,b] (c2 [ah 28 12,d 29 28,a7 30 229 1 [c] (0,(1,.const (.slice .none 0 0))),ck 31 229 24 29 30,ah 32 12,h 32 31] [ah 33 13,d 34 33,a7 35 238 1 [c] (0,(1,.const (.slice .none 0 0))),ck 36 238 24 34 35,ah 37 13,h 37 36]))) [a9 12,aW 13 12,a1 4]) [aD 38 3,aH 2 38]),b0 2 16⟩
theorem XF31:XF Tryz.prog 31=some xf31:=af0
def xf32:Ed:=⟨167,bx [aa 1 68,bv 2] 3 (b5 4 0 (af [a9 11,az 12 8,d 13 12,k 14 13,u 15 11 14] 15 0 1 (y [az 18 8,d 19 18,a9 20,b9 21 19 20,m 22 52 21,r 5 124 #[j,a,a,a,c,c,c,c,a,a,a,a,a,a,a,a,a,a,a,a,a,a,a,a,a,a,a,a,a,a,a,a,a,a,a,a,a,a,a,a,a,a,a,a,a,a,a,a,a,a,a,a],l 52 5 22] (bz [g 23 5,d 24 23,c7 25 .not 24] 25 (y [ba 26,f 27 2 26,d 28 27,ay 28] (cQ [s 29 5,d 30 29,c6 31 30] 31 (.region [ba 32,s 33 32,d 34 33,a9 35,w 36 34 35,d 37 36,bb 38 3 1 (0,(1,.tmp 37)),ay 38]) (c8 [t 39,k 40 39,bK 41 40] 41 [s 42 5,d 43 42,bb 44 3 1 (0,(1,.tmp 43)),ay 44]) (y (b6 7) (bE 2 (af [ar 45,t 46,k 47 46,u 48 45 47] 48 2 3 (.region [ac 51,a9 52,t 53,ar 54,w 55 53 54,d 56 55,o 57 [a,a,a,a,a,a,a,a] [(0,(1,.const (.int .i64 1))),(1,(1,.tmp 52)),(2,(1,.tmp 56))],a2 58 55 51 57,e 3 58]) (aR 49 7 50 49 7 50)))))) (y [az 59 9,d 60 59,a9 61,a2 62 56 60 61,e 8 62] (bo 9 4 (af [ag 63,v 64,k 65 64,u 66 63 65] 66 4 5 (cc [g 69 5,d 70 69] 70 [ac 71,a9 72,v 73,ag 74,a4 75 5 73 74,al 76 75,o 77 [a,a,a,a,a,a,a,a] [(0,(1,.const (.int .i64 3))),(1,(1,.tmp 72)),(3,(5,.tmp 76))],a2 78 55 71 77,e 3 78] (cc [f 79 50 5,d 80 79,ba 81,f 82 5 81,d 83 82,u 84 80 83] 84 [ac 85,a9 86,v 87,ag 88,a4 89 5 87 88,al 90 89,o 91 [a,a,a,a,a,a,a,a] [(0,(1,.const (.int .i64 5))),(1,(1,.tmp 86)),(3,(5,.tmp 90))],a2 92 55 85 91,e 3 92] (c8 [f 93 51 5,d 94 93,ba 95,f 96 6 95,d 97 96,u 98 94 97] 98 [ac 99,a9 100,v 101,ag 102,a4 103 5 101 102,al 104 103,o 105 [a,a,a,a,a,a,a,a] [(0,(1,.const (.int .i64 6))),(1,(1,.tmp 100)),(3,(5,.tmp 104))],a2 106 55 99 105,e 3 106]))) (aR 67 9 68 67 9 68)) (cc [g 107 5,d 108 107,e 109 108,au 110 49 5 109,aA 111 110 109,br 112 111 aw 109,Y 113 109 112,e 114 113,au 115 10 1 114,aA 116 115 114,X 117 4 114,bR 118 1 116 117 114,aA 119 118 114,cs 120 .geq 119 aw 114,Y 121 114 120] 121 [ac 122,a9 123,az 124 10,d 125 124,a9 126,w 127 125 126,d 128 127,o 129 [a,a,a,a,a,a,a,a] [(0,(1,.const (.int .i64 2))),(1,(1,.tmp 123)),(2,(1,.tmp 128))],a2 130 55 122 129,e 3 130] (bo 10 6 (af [aL 131,f 132 7 5,d 133 132,k 134 133,u 135 131 134,e 136 135,au 137 0 5 136,aA 138 137 136,Y 139 136 138] 139 6 7 (.region [ac 142,a9 143,f 144 7 5,d 145 144,aL 146,w 147 145 146,d 148 147,o 149 [a,a,a,a,a,a,a,a] [(0,(1,.const (.int .i64 4))),(1,(1,.tmp 143)),(2,(1,.tmp 148))],a2 150 55 142 149,e 3 150]) (aR 140 10 141 140 10 141)) (c8 [g 151 5,d 152 151,e 153 152,au 154 8 5 153,aV 155 (cU 41 1 154 (ae 40)) 153,aA 156 155 153,au 157 0 1 153,au 158 4 157 153,aA 159 158 153,br 160 156 (.tmp 159) 153,Y 161 153 160] 161 [ac 162,a9 163,o 164 [a,a,a,a,a,a,a,a] [(0,(1,.const (.int .i64 7))),(1,(1,.tmp 163))],a2 165 55 162 164,e 3 165]))))))) (aR 16 4 17 16 4 17)) (ao (ac 166) 2 166)),bc⟩
theorem XF32:XF Tryz.prog 32=some xf32:=af0
def xf33:Ed:=⟨78,z [aa 2 68,aI 3 74,bM] [aD 15 2,a6 16 3,c1 17 34 15 16 bZ,e 14 17,ap 18 14,aq 19 14,b2 20 14 2,bk 5 #[c,c,c,c,a,a,a,a,c,c,c,c,c,c,c,a],r 6 78 #[a,a,a,a,a,a,a,a,c,j,c],aH 5 18,l 11 6 19,e 7 20] (bm [ar 21,bf 22 .neq 21] 22 (aC 4) (cV (aC 8) (bE 0 (.block 1 (z [v 23,m 24 11 6,a7 25 78 11 [a,a,a,a,a,a,a,a,c,j,c] (0,(11,.tmp 24)),W 26 78 11 120 23 25,e 8 26] [f 27 8 6,d 28 27,k 29 28,aT 30 29,e 9 30] (.seq (bE 2 (.seq (a8 [ag 31,bf 32 .geq 31,e 33 32,au 34 8 6 33,aA 35 34 33,X 36 9 33,bR 37 7 35 36 33,au 38 6 37 33,aA 39 38 33,cs 40 .add 39 b4 33,au 41 8 6 33,aA 42 41 33,X 43 9 33,bR 44 7 42 43 33,au 45 5 44 33,aA 46 45 33,b3 47 40 (.tmp 46) 33,Y 48 33 47] [a5,a5,a5,a5,a5,a5,a5,a5,a5,a5,a5,a5,a5,a5,a5,a5,a5,a5] [b,b,b,b,b,b,b,b,b,b,b,b,b,b,b,b,b,b] (cL 48 2)) (cM 3 (bl (ag 49) (aT 50 49) 9 50)))) (bz [ag 51,c6 52 51] 52 (.exit 0) (aQ [m 53 11 6,a0 54 16 53,ag 55,aW 56 55,bw 57 6 54 56,e 10 57] [aL 58,ag 59,aL 60,ag 61,a4 62 6 60 61,f 63 5 62,d 64 63,aW 65 64,a4 66 6 58 59,f 67 5 66,h 67 65] [aD 69 2,a6 70 3,aL 71,be 72 34 69 70 71,e 68 72,ap 73 68,aq 74 68,b2 75 68 2,bk 11 #[c,c,c,c,a,a,a,a,c,c,c,c,c,c,c,a],r 12 78 #[a,a,a,a,a,a,a,a,c,j,c],aH 11 73,l 11 12 74,bi 75] (.region [m 76 11 12,l 11 6 76]))))))) (ab (ao (v 77) 4 77)))),b7⟩
theorem XF33:XF Tryz.prog 33=some xf33:=af0
def xf34:Ed:=⟨69,bg [aa 3 68,aI 4 74,bk 6 #[c,c,c,c,a,a,a,a,c,c,c,c,c,c,c,a],r 7 78 #[a,a,a,a,a,a,a,a,c,j,c],ak 8] [ah 14 15,d 15 14,bj 16 .geq 15 5000] 16 [aD 17 3,o 18 [a,a,a,a,a,a,a,a,c,j,c] [],aH 6 17,l 11 7 18,aY 8 2] (bg [aD 19 3,a6 20 4,a2 21 57 19 20,e 9 21] [ag 22,c7 23 .not 22] 23 [aD 24 3,o 25 [a,a,a,a,a,a,a,a,c,j,c] [],aH 6 24,l 11 7 25,aY 8 21] (a8 [aD 27 3,a0 28 59 27,a6 29 4,ai 30,be 31 58 28 29 30,e 26 31,ap 32 26,aq 33 26,bk 10 #[c,c,c,c,a,a,a,a,c,c,c,c,c,c,c,a],bF 11 #[j,a,a,a,c,c,c,c,a,a,a,a,a,a,a,a,a,a,a,a,a,a,a,a,a,a,a,a,a,a,a,a,a,a,a,a,a,a,a,a,a,a,a,a,a,a,a,a,a,a,a,a,c,c,j,a,c,a,a,a,c,c,a,j,c,c,c],aH 10 32,b1 11 33] [[1],[1,4],[1,4],[1,4],[4,10],n,n,[10,11],[1,4,10],[1,4,10],[10,11],[11,12]] [b,ad,aJ,b,b,b,b,b,b,b,b,b] (z [ah 34 15,d 35 34,aW 36 35,f 37 15 10,h 37 36] [a6 38 4,bs 39 52,d 40 39,f 41 11 10,d 42 41,k 43 42,ah 44 11,d 45 44,k 46 45,aK 47 .gtr 43 46,o 48 [a,a,a,a,a,a,a,a,c,j,c] [(0,(8,.tmp 38)),(8,(1,.tmp 40)),(9,(1,.tmp 47))],r 12 78 #[a,a,a,a,a,a,a,a,c,j,c],l 11 12 48] (bo 13 0 (af [a1 49,bs 50 53,d 51 50,k 52 51,u 53 49 52] 53 0 1 (aS [f 56 10 12,d 57 56,bs 58 53,d 59 58,a1 60,a4 61 9 59 60,g 62 61,al 63 62,a7 64 72 5 [a,a,a,a,a] (0,(5,.tmp 63)),W 65 72 5 40 57 64,f 66 10 12,h 66 65] [[9],[9],[9],[9],[9],[9],[9],[9],[9],[9,11],aE,[11,12]] [b,b,b,b,b,b,b,b,b,b,b,b]) (aX (a1 54) 55 54 13 55)) (bC [aD 67 10,m 68 11 12,aH 6 67,l 11 7 68,ak 8] [[2],[2,3],[2,3],[3,5],[5]] [b,b,ad,b,b]))))),[bD 6 16,bD 7 11,.tmp 8]⟩
theorem XF34:XF Tryz.prog 34=some xf34:=af0
def xf36:Ed:=⟨123,z [aa 1 26,ak 2] (ao (q 13 (.mkFunc 63 #[] (cd 1))) 3 13) (z [s 14 1,d 15 14,k 16 15,aP 17 64 (bY 16 b4 (ae 12)),e 18 17,au 19 0 1 18,aA 20 19 18,ca 21 20 18,bt 22 64 (bY 21 b4 (ae 64)) 18,Y 23 18 22,e 24 23,au 25 3 1 24,aA 26 25 24,ca 27 26 24,cs 28 .leq 27 (ae 300) 24,Y 29 24 28,e 4 29] [a9 30,e 31 30,au 32 4 1 31,aA 33 32 31,bt 34 64 (bY 33 aw (ae 10)) 31,Y 35 31 34,e 36 35,au 37 5 1 36,aA 38 37 36,bt 39 64 (bY 38 aw (ae 10)) 36,Y 40 36 39,e 41 40,au 42 6 1 41,aA 43 42 41,bt 44 64 (bY 43 aw (ae 10)) 41,Y 45 41 44,e 46 45,au 47 7 1 46,aA 48 47 46,bt 49 64 (bY 48 aw (ae 3)) 46,Y 50 46 49,e 4 50] (bm [a9 51,c7 52 .not 51] 52 [aY 2 20] (ct [ba 53,d 54 53,k 55 54,ak 56] 0 (bW [u 57 56 55] 57 0 (bP 1 (c2 [a4 58 43 54 56,m 59 43 58,r 6 58 #[c,a,a,a,a,a,a,a,a,a,a,a,a,a,a,a,a,a,a,a,a,a,a,a,a,a,a,a,a,a,a,a,a,a,a,a,a,a,a,a,a,a,a],l 43 6 59] [a9 60,e 61 60,bL 62 43 6 61,bt 63 65 (cd 62) 61,b3 64 63 aw 61,Y 65 61 64,e 4 65]) (bX 66 56 56 66))) (.seq (a8 [s 67 1,d 68 67,a0 69 66 68,az 70 2,d 71 70,aF 72 69 71,k 73 72,ak 74] [[2],[2],[2,5],[2,5],[2,5],[5,8],[8],[2,5,8]] [b,b,ad,b,aJ,b,b,b] (bE 2 (bW [u 75 74 73] 75 2 (bP 3 (c2 (bl (w 76 72 74) (d 77 76) 8 77) [a9 78,e 79 78,X 80 3 79,X 81 8 79,aV 82 (.callv (.tmp 80) (cd 81)) 79,Y 83 79 82,e 4 83]) (bX 84 74 74 84))))) (ct [az 85 3,d 86 85,k 87 86,ak 88] 4 (bW [u 89 88 87] 89 4 (bP 5 (aQ [a4 90 4 86 88,m 91 4 90,r 10 36 #[a,a,a,a],l 4 10 91] [a9 92,e 93 92,au 94 0 10 93,aA 95 94 93,au 96 1 1 93,aA 97 96 93,ca 98 97 93,cs 99 .sub 98 b4 93,bt 100 64 (bY 95 aw (.tmp 99)) 93,Y 101 93 100,e 4 101] [s 102 10,d 103 102,f 104 2 10,d 105 104,f 106 3 10,d 107 106,bd 108 3 1 3 bA [(0,(1,.tmp 103)),(1,(1,.tmp 105)),(2,(1,.tmp 107))],k 109 108,ak 110] (bE 6 (bW [u 111 110 109] 111 6 (bP 7 (c2 (bl (w 112 108 110) (d 113 112) 12 113) [a9 114,e 115 114,X 116 12 115,bt 117 64 (bY 116 (ae (-2147483647)) (ae 2147483647)) 115,Y 118 115 117,e 4 118]) (bX 119 110 110 119))))) (bX 120 88 88 120))) (bm [a9 121,c7 122 .not 121] 122 [aY 2 20] (ab (b6 2)))))))),bc⟩
theorem XF36:XF Tryz.prog 36=some xf36:=af0
def xf37:Ed:=⟨40,z [aa 1 26,r 2 26 #[c,c,c,c,a,a,a,a]] [ba 4,d 5 4,a0 6 67 5,ba 7,h 7 6] (ct [ba 8,d 9 8,k 10 9,ak 11] 0 (bW [u 12 11 10] 12 0 (bP 1 (y (ao (bi 11) 3 13) (aS [ba 14,d 15 14,ac 16,ba 17,d 18 17,ac 19,a4 20 43 18 19,g 21 20,d 22 21,a0 23 68 22,a4 24 43 15 16,g 25 24,h 25 23] [[9,12],[9,12],[9,12],[9],[9],[9],[9],[9],[9],[9,12],i,i,[12,13]] [b,b,b,b,b,b,b,b,b,ad,b,b,b])) (bX 26 11 11 26))) (a8 [s 27 1,d 28 27,a0 29 66 28,az 30 2,d 31 30,a0 32 66 31,az 33 3,d 34 33,a0 35 69 34,s 36 1,h 36 29,az 37 2,h 37 32,az 38 3,h 38 35] [[2],[2],[2,5],[2,5],[2,5],[5,8],[2,5,8],[2,5,8],[8,10],[5,8,10],[10,12],i,[12,14],ax,[14,15]] [b,b,ad,b,aJ,ad,b,aJ,b,b,b,b,b,b,b] (ab [a6 39 1,l 8 2 39]))),b0 2 8⟩
theorem XF37:XF Tryz.prog 37=some xf37:=af0
def xf38:Ed:=⟨2,av [r 0 124 #[j,a,a,a,c,c,c,c,a,a,a,a,a,a,a,a,a,a,a,a,a,a,a,a,a,a,a,a,a,a,a,a,a,a,a,a,a,a,a,a,a,a,a,a,a,a,a,a,a,a,a,a]] [o 1 [j,a,a,a,c,c,c,c,a,a,a,a,a,a,a,a,a,a,a,a,a,a,a,a,a,a,a,a,a,a,a,a,a,a,a,a,a,a,a,a,a,a,a,a,a,a,a,a,a,a,a,a] [(1,(1,.const (.int .i64 (-1)))),(49,(1,.const (.int .i64 (-1))))],l 52 0 1],b0 0 52⟩
theorem XF38:XF Tryz.prog 38=some xf38:=af0
def xf39:Ed:=⟨32,y cf (cA (aR 8 2 9 8 7 9) 0 (af [ar 10,x 11,q 12 (cD 11),g 13 12,f 14 3 13,d 15 14,k 16 15,u 17 10 16] 17 0 1 (bQ [x 20,q 21 (cD 20),g 22 21,f 23 3 22,d 24 23,ar 25,a4 26 4 24 25,g 27 26,d 28 27,a3 29,aK 30 .eql 28 29] 30 (ab (ao (ar 31) 6 31)) .skip) (aR 18 7 19 18 7 19)) [aY 6 (-1)]),c0⟩
theorem XF39:XF Tryz.prog 39=some xf39:=af0
def xf53:Ed:=⟨2,av [r 0 124 #[j,a,a,a,c,c,c,c,a,a,a,a,a,a,a,a,a,a,a,a,a,a,a,a,a,a,a,a,a,a,a,a,a,a,a,a,a,a,a,a,a,a,a,a,a,a,a,a,a,a,a,a]] [o 1 [j,a,a,a,c,c,c,c,a,a,a,a,a,a,a,a,a,a,a,a,a,a,a,a,a,a,a,a,a,a,a,a,a,a,a,a,a,a,a,a,a,a,a,a,a,a,a,a,a,a,a,a] [(1,(1,.const (.int .i64 (-1)))),(49,(1,.const (.int .i64 (-1))))],l 52 0 1],b0 0 52⟩
theorem XF53:XF Tryz.prog 53=some xf53:=af0
def xf54:Ed:=⟨26,y [aa 3 26,ak 6] (cA (aR 8 2 9 8 7 9) 0 (af [ar 10,ah 11 3,d 12 11,k 13 12,u 14 10 13] 14 0 1 (bQ [ah 17 3,d 18 17,ar 19,a4 20 4 18 19,g 21 20,d 22 21,a3 23,aK 24 .eql 22 23] 24 (ab (ao (ar 25) 6 25)) .skip) (aR 15 7 16 15 7 16)) [aY 6 (-1)]),c0⟩
theorem XF54:XF Tryz.prog 54=some xf54:=af0
def xf55:Ed:=⟨49,z [aI 3 74,bM] (b6 5) (.seq (bE 0 (.seq (a8 [p 7,ci,k 9 8,u 10 7 9,aL 11,X 12 0 11,X 13 5 11,bR 14 8 12 13 11,bL 15 8 14 11,bL 16 8 3 11,bt 17 89 (cW 15 16) 11,br 18 17 aw 11,Y 19 11 18] [n,n,n,n,n,n,n,n,n,n,[10,13],[13],[13]] [b,b,b,b,b,b,b,b,b,b,b,b,b] (cL 19 0)) (cM 1 (aX (p 20) 21 20 5 21)))) (.seq (a8 [p 22,x 23,k 24 23,u 25 22 24,e 26 25,X 27 0 26,X 28 5 26,bR 29 8 27 28 26,bL 30 8 29 26,bL 31 8 3 26,aV 32 (cb [1,1,1,1,1,1,1,1] (.tmp 30) cN) 26,Y 33 26 32] [i,i,i,i,i,i,i,i,i,i,i,i] [b,b,b,b,b,b,b,b,b,b,b,b] (cl 33 (ao (x 34) 4 34))) (z (aC 6) [t 35,x 36,p 37,bw 38 8 36 37,W 39 74 8 64 35 38,ay 39] (av [t 40,a6 41 3,a7 42 74 8 [a,a,a,a,a,a,a,a] (0,(8,.tmp 41)),W 43 74 8 64 40 42,ay 43] [t 44,x 45,p 46,cu 47 8 45 (cE 46) .none,W 48 74 8 64 44 47,e 4 48])))),b7⟩
theorem XF55:XF Tryz.prog 55=some xf55:=af0
def xf56:Ed:=⟨29,bx (aC 4) 5 (b5 6 0 (af [t 7,ci,k 9 8,u 10 7 9] 10 0 1 (c8 [x 13,t 14,a4 15 9 13 14,f 16 5 15,d 17 16,a3 18,aK 19 .eql 17 18] 19 [p 20,x 21,t 22,a4 23 9 21 22,g 24 23,al 25 24,a7 26 72 5 [a,a,a,a,a] (0,(5,.tmp 25)),W 27 72 5 40 20 26,e 5 27]) (aX (t 11) 12 11 6 12)) (ao (p 28) 4 28)),b7⟩
theorem XF56:XF Tryz.prog 56=some xf56:=af0
def xf57:Ed:=⟨21,z [aa 2 68,aI 3 74,bJ 4] [aD 7 2,a0 8 32 7,v 5] (b5 6 0 (af [t 9,p 10,k 11 10,u 12 9 11] 12 0 1 (a8 [p 15,t 16,a4 17 8 15 16,a6 18 17,a6 19 3,q 20 (cb [1,1,1,1,1,1,1,1] cC (.tmp 19))] [[6],[6],[6],[6],[6],[6]] [b,b,b,b,b,b] (cl 20 [bu 4 cR])) (aX (t 13) 14 13 6 14)) [bJ 4]),b7⟩
theorem XF57:XF Tryz.prog 57=some xf57:=af0
def xf58:Ed:=⟨280,aQ [aa 3 68,aI 4 74,bk 6 #[c,c,c,c,a,a,a,a,c,c,c,c,c,c,c,a],bF 7 #[j,a,a,a,c,c,c,c,a,a,a,a,a,a,a,a,a,a,a,a,a,a,a,a,a,a,a,a,a,a,a,a,a,a,a,a,a,a,a,a,a,a,a,a,a,a,a,a,a,a,a,a,c,c,j,a,c,a,a,a,c,c,a,j,c,c,c]] (bl (s 21 4) (d 22 21) 8 22) [r 9 190 #[a,a,a,a,a,a,a,a,a]] (c9 [g 23 4,d 24 23] (.block 0 (bG (aB 26 24 1 25 26) 25 (a8 [b8 27,d 28 27,v 29,b9 30 28 29,m 31 52 30,g 32 3,g 33 32,d 34 33,aN 35 2,d 36 35,a4 37 43 34 36,m 38 43 37,aN 39 2,d 40 39,v 41,b8 42,d 43 42,k 44 43,g 45 3,f 46 7 45,d 47 46,ai 48,aP 49 90 #[cN,cw,.tmp 40,.tmp 41,.tmp 44,.tmp 47,.tmp 48],bF 10 #[j,a,a,a,c,c,c,c,a,a,a,a,a,a,a,a,a,a,a,a,a,a,a,a,a,a,a,a,a,a,a,a,a,a,a,a,a,a,a,a,a,a,a,a,a,a,a,a,a,a,a,a,c,c,j,a,c,a,a,a,c,c,a,j,c,c,c],b1 10 49] [aG,aG,aG,aG,aG,aG,aG,aG,aG,aG,aG,aG,aG,aG,aG,aG,aG,aG,aG,aG,aG,aG,[22,24],[22,24],[24,25]] [b,b,b,b,b,b,b,b,b,b,b,b,b,b,b,b,b,b,b,b,b,b,b,b,b] (bC [aD 50 3,v 51,m 52 67 10,aP 53 91 #[.tmp 50,.tmp 51,.tmp 52,bT],m 54 67 10,aH 6 53,b1 7 54] [[3],[3],[3],[3,5],[3,5,6],[5,6],[6,7]] [b,b,b,ad,aJ,ad,b])) (aB 56 24 2 55 56) 55 (bx [g 57 3,f 58 3 57,d 59 58,aN 60 2,d 61 60,a4 62 4 59 61,m 63 4 62,r 11 36 #[a,a,a,a],l 4 11 63] 12 (a8 [bB 64,ah 65 11,d 66 65,W 67 194 5 40 64 66,aN 68 2,d 69 68,v 70,b8 71,d 72 71,v 73,b9 74 72 73,f 75 2 74,d 76 75,o 77 [j,a,a,a,a] [(1,(1,.tmp 69)),(2,(1,.tmp 70)),(3,(1,.tmp 76))],a7 78 194 5 [j,a,a,a,a] (0,(5,.tmp 77)),W 79 194 5 40 67 78,ah 80 11,h 80 79] [[3],[3],[3],[3,15],[3,15],[3,15],[3,15],[3,15],[3,15],[3,15],[3,15],[3,15],[3,15],[3,15],[3,15],[15,17],Z,[17,18]] [b,b,b,ad,b,aJ,b,b,aJ,b,b,b,aJ,b,b,b,b,b] (y [b8 81,d 82 81,v 83,aN 84 2,d 85 84,b9 86 82 83,f 87 49 86,h 87 85] (a8 [ah 88 10,d 89 88,v 90,g 91 3,a6 92 91,v 93,aN 94 2,d 95 94,be 96 54 92 93 95,w 97 89 90,h 97 96] [[8,10],[8,10],[8,10],[8],[8],[8],[8],[8],[8,10],n,[10,11]] [b,b,b,b,b,b,b,b,ad,b,b] (aQ [aN 98 2,d 99 98,bS 100 9 1 9 6,h 100 99] [bn 101,d 102 101,bS 103 9 1 9 7,h 103 102] [bs 104 2,d 105 104,bS 106 9 1 9 8,h 106 105] (av [bs 107 3,d 108 107,bS 109 9 1 9 4,h 109 108] [aD 110 3,v 111,m 112 9 9,ai 113,aP 114 92 #[.tmp 110,.tmp 111,b4,.tmp 112,.tmp 113],ap 115 114,aq 116 114,aH 6 115,b1 7 116])))))) (bG (aB 118 24 3 117 118) 117 (z [ah 120 9,d 121 120,aN 122 3,al 123 122,a2 124 93 121 123,e 119 124,ap 125 119,aq 126 119,r 13 165 #[a,a,a,a,a,a,a,a,a],l 9 13 125,e 14 126] [ah 127 9,d 128 127,aN 129 3,al 130 129,a2 131 94 128 130,ah 132 9,h 132 131] (z [g 133 13,g 134 133,g 135 134,d 136 135,bS 137 9 1 9 3,h 137 136] [f 138 7 13,d 139 138,bS 140 9 1 9 4,h 140 139] (av [f 141 8 13,d 142 141,bS 143 9 1 9 5,h 143 142] [aD 144 3,v 145,f 146 6 13,d 147 146,q 148 (cp .add (ae 10) 147),m 149 9 9,ai 150,aP 151 92 #[.tmp 144,.tmp 145,.tmp 148,.tmp 149,.tmp 150],ap 152 151,aq 153 151,aH 6 152,b1 7 153]))) (aB 155 24 4 154 155) 154 (y (aC 15) (bo 16 1 (af [e 156 16,b8 157,d 158 157,v 159,b9 160 158 159,f 161 7 160,d 162 161,k 163 162,u 164 156 163] 164 1 2 (a8 [b8 167,d 168 167,v 169,b9 170 168 169,f 171 7 170,d 172 171,e 173 16,w 174 172 173,d 175 174,aN 176 2,d 177 176,aK 178 .neq 175 177] [i,i,i,i,i,i,i,i,i,i,i,i] [b,b,b,b,b,b,b,b,b,b,b,b] (cK 178 [am 179,b8 180,d 181 180,v 182,b9 183 181 182,f 184 7 183,d 185 184,e 186 16,w 187 185 186,d 188 187,bb 189 3 1 (0,(1,.tmp 188)),aF 190 179 189,e 15 190])) (aR 165 16 166 165 16 166)) (av [b8 191,d 192 191,v 193,am 194,b9 195 192 193,f 196 7 195,h 196 194] [aD 197 3,v 198,aN 199 2,d 200 199,q 201 (cp .add (ae 2) 200),m 202 9 9,ai 203,aP 204 92 #[.tmp 197,.tmp 198,.tmp 201,.tmp 202,.tmp 203],ap 205 204,aq 206 204,aH 6 205,b1 7 206]))) (bG (aB 208 24 5 207 208) 207 (y [ah 209 9,d 210 209,aN 211 3,al 212 211,a2 213 94 210 212,ah 214 9,h 214 213] (a8 [b8 215,d 216 215,v 217,b8 218,d 219 218,v 220,b9 221 219 220,f 222 50 221,d 223 222,aW 224 223,b9 225 216 217,f 226 50 225,h 226 224] [i,i,i,i,i,i,i,i,i,i,i,i,[12,13]] [b,b,b,b,b,b,b,b,b,b,b,b,b] (ab [aD 227 3,o 228 [j,a,a,a,c,c,c,c,a,a,a,a,a,a,a,a,a,a,a,a,a,a,a,a,a,a,a,a,a,a,a,a,a,a,a,a,a,a,a,a,a,a,a,a,a,a,a,a,a,a,a,a,c,c,j,a,c,a,a,a,c,c,a,j,c,c,c] [],aH 6 227,b1 7 228]))) (aB 230 24 6 229 230) 229 (a8 [b8 231,d 232 231,v 233,b8 234,d 235 234,v 236,b9 237 235 236,f 238 51 237,d 239 238,aW 240 239,b9 241 232 233,f 242 51 241,h 242 240] [i,i,i,i,i,i,i,i,i,i,i,i,[12,13]] [b,b,b,b,b,b,b,b,b,b,b,b,b] (a8 [ah 244 9,d 245 244,aN 246 3,al 247 246,b8 248,d 249 248,v 250,b9 251 249 250,f 252 51 251,d 253 252,be 254 95 245 247 253,e 243 254,ap 255 243,aq 256 243,b2 257 243 2,r 18 72 #[a,a,a,a,a],e 17 255,l 5 18 256,e 19 257] [n,n,n,n,n,n,n,n,n,n,[10,17],Z,Z,Z,[17,19],[10,17],Z,[17,19],[19]] [b,b,b,b,b,b,b,b,b,b,b,b,b,b,b,b,b,b,b] (av [e 258 17,ah 259 9,h 259 258] [aD 260 3,o 261 [j,a,a,a,c,c,c,c,a,a,a,a,a,a,a,a,a,a,a,a,a,a,a,a,a,a,a,a,a,a,a,a,a,a,a,a,a,a,a,a,a,a,a,a,a,a,a,a,a,a,a,a,c,c,j,a,c,a,a,a,c,c,a,j,c,c,c] [],aH 6 260,b1 7 261]))) .skip)))) (z [b8 262,d 263 262,v 264,b9 265 263 264,m 266 52 265,v 267,ai 268,be 269 96 266 267 268,bF 20 #[j,a,a,a,c,c,c,c,a,a,a,a,a,a,a,a,a,a,a,a,a,a,a,a,a,a,a,a,a,a,a,a,a,a,a,a,a,a,a,a,a,a,a,a,a,a,a,a,a,a,a,a,c,c,j,a,c,a,a,a,c,c,a,j,c,c,c],b1 20 269] [b8 270,d 271 270,v 272,g 273 20,m 274 52 273,b9 275 271 272,l 52 275 274] (bC [aD 276 3,v 277,a2 278 97 276 277,m 279 67 20,aH 6 278,b1 7 279] [[2],[2],[2,4],[2,4,5],[4,5],[5,6]] [b,b,ad,aJ,ad,b]))),[bD 6 16,bD 7 67]⟩
theorem XF58:XF Tryz.prog 58=some xf58:=af0
def xf59:Ed:=⟨28,bx [aa 1 68,bk 2 #[c,c,c,c,a,a,a,a,c,c,c,c,c,c,c,a]] 3 (bx (aC 4) 5 (z (aC 6) [ac 7,az 8 8,d 9 8,W 10 124 52 480 7 9,az 11 8,h 11 10] (z [a9 12,az 13 10,d 14 13,aF 15 12 14,az 16 10,h 16 15] [p 17,az 18 12,d 19 18,ck 20 229 24 17 19,az 21 12,h 21 20] (av [t 22,az 23 13,d 24 23,ck 25 238 24 22 24,az 26 13,h 26 25] [aD 27 1,aH 2 27])))),b0 2 16⟩
theorem XF59:XF Tryz.prog 59=some xf59:=af0
def xf63:Ed:=⟨10,av [bJ 3] [x 4,ba 5,d 6 5,k 7 6,aT 8 7,aP 9 64 (bY 4 aw (.tmp 8)),ag 3],cx 3⟩
theorem XF63:XF Tryz.prog 63=some xf63:=af0
def xf64:Ed:=⟨15,av [bJ 6] [bV,a3 8,aK 9 .geq 7 8,ag 10,X 11 0 10,X 12 2 10,cs 13 .leq 11 (.tmp 12) 10,Y 14 10 13,ay 14],c0⟩
theorem XF64:XF Tryz.prog 64=some xf64:=af0
theorem XZ65:XF Tryz.prog 65=none:=af0
def xf66:Ed:=⟨8,bg c5 [cq,q 4 (.eqs .false (.tmp 3) bZ)] 4 c5 (ab [bd 5 3 1 0 bA [],ch,aF 7 5 6,ar 2]),bc⟩
theorem XF66:XF Tryz.prog 66=some xf66:=af0
def xf67:Ed:=⟨8,bg c5 [cq,q 4 (.eqs .false (.tmp 3) bZ)] 4 c5 (ab [bd 5 58 43 0 [c,a,a,a,a,a,a,a,a,a,a,a,a,a,a,a,a,a,a,a,a,a,a,a,a,a,a,a,a,a,a,a,a,a,a,a,a,a,a,a,a,a,a] [],ch,W 7 58 43 360 5 6,ar 2]),bc⟩
theorem XF67:XF Tryz.prog 67=some xf67:=af0
def xf68:Ed:=⟨8,bg c5 [cq,q 4 (.eqs .false (.tmp 3) bZ)] 4 c5 (ab [bd 5 150 2 0 [a,a] [],ch,W 7 150 2 16 5 6,ar 2]),bc⟩
theorem XF68:XF Tryz.prog 68=some xf68:=af0
def xf69:Ed:=⟨8,bg c5 [cq,q 4 (.eqs .false (.tmp 3) bZ)] 4 c5 (ab [bd 5 36 4 0 [a,a,a,a] [],ch,W 7 36 4 32 5 6,ar 2]),bc⟩
theorem XF69:XF Tryz.prog 69=some xf69:=af0
def xf89:Ed:=⟨10,y [aa 2 74,aI 3 74,ak 4] (bC [a6 5 2,a0 6 115 5,a6 7 3,a0 8 115 7,a2 9 114 6 8,ag 4] [[1],[1,3],[1,3],[3,4],[4,6],[6]] [b,ad,aJ,b,b,b]),b7⟩
theorem XF89:XF Tryz.prog 89=some xf89:=af0
def xf90:Ed:=⟨45,z [aa 7 124,aI 8 58,bF 14 #[j,a,a,a,c,c,c,c,a,a,a,a,a,a,a,a,a,a,a,a,a,a,a,a,a,a,a,a,a,a,a,a,a,a,a,a,a,a,a,a,a,a,a,a,a,a,a,a,a,a,a,a,c,c,j,a,c,a,a,a,c,c,a,j,c,c,c]] [ai 15,s 16 7,h 16 15] (cc [f 17 4 7,g 18 17,d 19 18,k 20 19,f 21 41 8,d 22 21,aK 23 .neq 20 22] 23 [f 24 4 7,aU 25 24,f 26 41 8,d 27 26,a2 28 116 25 27,f 29 4 7,l 2 29 28] (aQ [f 30 42 8,d 31 30,q 32 (.mkSlice 3 1 8 bA cN cN),f 33 6 7,h 33 32] [f 34 7 7,aZ 1 34 bZ] [f 35 49 7,aZ 1 35 bT] (av [g 36 7,aZ 1 36 cF] [m 37 52 7,m 38 43 8,ac 39,a9 40,p 41,o 42 [a,a,a,a,a,a,a,a,a] [],t 43,aP 44 117 #[.tmp 37,cw,aw,.tmp 39,.tmp 40,.tmp 41,.tmp 42,.tmp 43],b1 14 44]))),b0 14 67⟩
theorem XF90:XF Tryz.prog 90=some xf90:=af0
def xf91:Ed:=⟨110,z [aa 4 68,ce 6 160 2,bk 8 #[c,c,c,c,a,a,a,a,c,c,c,c,c,c,c,a]] [aN 16 8,d 17 16,a3 18,g 19 6,m 20 52 19,b9 21 17 18,l 52 21 20] (bo 9 0 (af [ag 22,f 23 53 6,d 24 23,k 25 24,u 26 22 25] 26 0 1 (cP (aS [aN 30 9,d 31 30,f 32 53 6,d 33 32,ag 34,a4 35 9 33 34,m 36 9 35,a2 37 118 31 36,e 29 37,ap 38 29,aq 39 29,e 10 38,e 11 39] [[7],[7],[7],[7],[7],[7],[7],[7,13],[13],[13],[13],[13],[13]] [b,b,b,b,b,b,b,b,b,b,b,b,b]) [aL 40,aN 41 9,h 41 40]) (aR 27 9 28 27 9 28)) (bz [f 42 54 6,d 43 42] 43 (y (aC 12) (aS [bB 44,aN 45 11,d 46 45,W 47 194 5 40 44 46,ac 48,a3 49,g 50 6,f 51 2 50,d 52 51,f 53 55 6,d 54 53,o 55 [j,a,a,a,a] [(0,(1,.const (.bool .true))),(1,(1,.tmp 48)),(2,(1,.tmp 49)),(3,(1,.tmp 52)),(4,(1,.tmp 54))],a7 56 194 5 [j,a,a,a,a] (0,(5,.tmp 55)),W 57 194 5 40 47 56,aN 58 11,h 58 57] [[3],[3],[3],[3,13],[3,13],[3,13],[3,13],[3,13],[3,13],[3,13],[3,13],[3,13],[3,13],[13,15],an,[15,16]] [b,b,b,ad,b,b,b,b,aJ,b,aJ,b,b,b,b,b])) (bo 13 2 (af [a1 59,f 60 56 6,d 61 60,k 62 61,u 63 59 62] 63 2 3 (y (aC 14) (aS [aN 66 12,d 67 66,a3 68,e 69 14,aN 70 12,d 71 70,a3 72,w 73 71 72,d 74 73,W 75 231 4 32 69 74,f 76 57 6,m 77 3 76,f 78 56 6,d 79 78,a1 80,w 81 79 80,d 82 81,o 83 [a,a,a,a] [(0,(3,.tmp 77)),(3,(1,.tmp 82))],a7 84 231 4 [a,a,a,a] (0,(4,.tmp 83)),W 85 231 4 32 75 84,w 86 67 68,h 86 85] [[9,19,21],[9,19,21],[9,19,21],[9],[9],[9],[9],[9],[9],[9,19],[9,19],[9,19],[9,19],[9,19],[9,19],[9,19],[9,19],[9,19],[9,19],[19,21],[21],[21,22]] [b,b,b,b,b,b,b,b,b,ad,b,aJ,b,aJ,b,b,aJ,b,b,ad,b,b])) (aX (a1 64) 65 64 13 65)) (b5 15 4 (af [am 87,f 88 66 6,d 89 88,k 90 89,u 91 87 90] 91 4 5 (aS [aN 94 14,d 95 94,g 96 6,s 97 96,d 98 97,f 99 66 6,d 100 99,am 101,w 102 100 101,d 103 102,o 104 [a,a] [(0,(1,.tmp 98)),(1,(1,.tmp 103))],a2 105 119 95 104,aN 106 14,h 106 105] [aE,aE,aE,aE,aE,aE,aE,aE,aE,aE,aE,[11,13],[13],[13,14]] [b,b,b,b,b,b,b,b,b,b,b,b,b,b]) (aX (am 92) 93 92 15 93)) [aD 107 4,a3 108,a2 109 97 107 108,aH 8 109])))),b0 8 16⟩
theorem XF91:XF Tryz.prog 91=some xf91:=af0
def xf92:Ed:=⟨45,z [aa 5 68,ce 8 190 3,bk 10 #[c,c,c,c,a,a,a,a,c,c,c,c,c,c,c,a],bF 11 #[j,a,a,a,c,c,c,c,a,a,a,a,a,a,a,a,a,a,a,a,a,a,a,a,a,a,a,a,a,a,a,a,a,a,a,a,a,a,a,a,a,a,a,a,a,a,a,a,a,a,a,a,c,c,j,a,c,a,a,a,c,c,a,j,c,c,c]] [f 14 8 5,d 15 14,cz,b9 17 15 16,m 18 52 17,r 12 124 #[j,a,a,a,c,c,c,c,a,a,a,a,a,a,a,a,a,a,a,a,a,a,a,a,a,a,a,a,a,a,a,a,a,a,a,a,a,a,a,a,a,a,a,a,a,a,a,a,a,a,a,a],l 52 12 18] (a8 [m 19 52 12,g 20 5,g 21 20,d 22 21,s 23 12,d 24 23,a4 25 43 22 24,m 26 43 25,ai 27,a3 28,f 29 8 5,d 30 29,k 31 30,g 32 5,f 33 7 32,d 34 33,m 35 9 8,a9 36,aP 37 117 #[.tmp 19,.tmp 26,.tmp 27,.tmp 28,cN,.tmp 34,.tmp 35,.tmp 36],bF 13 #[j,a,a,a,c,c,c,c,a,a,a,a,a,a,a,a,a,a,a,a,a,a,a,a,a,a,a,a,a,a,a,a,a,a,a,a,a,a,a,a,a,a,a,a,a,a,a,a,a,a,a,a,c,c,j,a,c,a,a,a,c,c,a,j,c,c,c],b1 13 37] [a5,a5,a5,a5,a5,a5,a5,a5,a5,a5,a5,a5,a5,a5,a5,a5,a5,a5,[18,20],[18,20],[20,21]] [b,b,b,b,b,b,b,b,b,b,b,b,b,b,b,b,b,b,b,b,b] (bC [aD 38 5,a3 39,m 40 67 13,f 41 49 12,d 42 41,aP 43 91 #[cw,.tmp 39,.tmp 40,.tmp 42],m 44 67 13,aH 10 43,b1 11 44] [[5],[5],[5],[5],[5],[5,7],[5,7,8],[7,8],[8,9]] [b,b,b,b,b,ad,aJ,ad,b])),[bD 10 16,bD 11 67]⟩
theorem XF92:XF Tryz.prog 92=some xf92:=af0
def xf93:Ed:=⟨17,z [aI 3 72,r 4 165 #[a,a,a,a,a,a,a,a,a],bJ 5] [bV,al 8 3,a2 9 120 7 8,ag 6] (bm [t 10,c6 11 10] 11 [o 12 [a,a,a,a,a,a,a,a,a] [],l 9 4 12,bJ 5] (ab [x 13,t 14,a4 15 9 13 14,m 16 9 15,l 9 4 16,bu 5 cR])),[bD 4 9,.tmp 5]⟩
theorem XF93:XF Tryz.prog 93=some xf93:=af0
def xf94:Ed:=⟨28,bx [aI 3 72,bM] 5 (b5 6 0 (af [t 7,ci,k 9 8,u 10 7 9] 10 0 1 (a8 [x 13,t 14,a4 15 9 13 14,g 16 15,al 17 16,al 18 3,q 19 (.eqf [1,1,1,1,1] .true (.tmp 17) cC)] [[7],[7],[7],[7],[7],[7],[7]] [b,b,b,b,b,b,b] (cK 19 [p 20,x 21,t 22,a4 23 9 21 22,m 24 9 23,a7 25 165 9 [a,a,a,a,a,a,a,a,a] (0,(9,.tmp 24)),W 26 165 9 72 20 25,e 5 26])) (aX (t 11) 12 11 6 12)) (ao (p 27) 4 27)),b7⟩
theorem XF94:XF Tryz.prog 94=some xf94:=af0
def xf95:Ed:=⟨34,z [aI 4 72,bv 6,r 7 72 #[a,a,a,a,a],ak 8] [x 12,al 13 4,a2 14 93 12 13,e 11 14,ap 15 11,aq 16 11,r 9 165 #[a,a,a,a,a,a,a,a,a],l 9 9 15,e 10 16] (bm [aL 17,c7 18 .not 17] 18 [o 19 [a,a,a,a,a] [],bv 6,l 5 7 19,aY 8 3] (bg [ai 20,g 21 9,f 22 4 21,h 22 20] [x 23,g 24 9,al 25 24,a2 26 120 23 25,bf 27 .geq 26] 27 [o 28 [a,a,a,a,a] [],bv 6,l 5 7 28,aY 8 4] (bC [x 29,m 30 9 9,a2 31 121 29 30,g 32 9,al 33 32,ay 31,l 5 7 33,ak 8] [[2],[2],[2,6],[2,6],[2,6],[6],[6,8],[8]] [b,b,ad,b,aJ,b,b,b]))),[.tmp 6,bD 7 5,.tmp 8]⟩
theorem XF95:XF Tryz.prog 95=some xf95:=af0
def xf96:Ed:=⟨80,aQ [aa 3 124,bF 6 #[j,a,a,a,c,c,c,c,a,a,a,a,a,a,a,a,a,a,a,a,a,a,a,a,a,a,a,a,a,a,a,a,a,a,a,a,a,a,a,a,a,a,a,a,a,a,a,a,a,a,a,a,c,c,j,a,c,a,a,a,c,c,a,j,c,c,c]] [m 12 52 3,a3 13,b8 14,bS 15 41 1 14 40,d 16 15,o 17 [a,a,a] [(0,(1,.tmp 13)),(1,(1,.const (.int .i64 40))),(2,(1,.tmp 16))],o 18 [j,a,a,a,c,c,c,c,a,a,a,a,a,a,a,a,a,a,a,a,a,a,a,a,a,a,a,a,a,a,a,a,a,a,a,a,a,a,a,a,a,a,a,a,a,a,a,a,a,a,a,a,c,c,j,a,c,a,a,a,c,c,a,j,c,c,c] [(0,(52,.tmp 12)),(57,(3,.tmp 17))],bF 7 #[j,a,a,a,c,c,c,c,a,a,a,a,a,a,a,a,a,a,a,a,a,a,a,a,a,a,a,a,a,a,a,a,a,a,a,a,a,a,a,a,a,a,a,a,a,a,a,a,a,a,a,a,c,c,j,a,c,a,a,a,c,c,a,j,c,c,c],b1 7 18] (aC 8) (bo 9 0 (af [ag 19,ah 20 4,s 21 20,d 22 21,k 23 22,u 24 19 23] 24 0 1 (aQ [f 27 57 7,m 28 3 27,ag 29,o 30 [a,a,a,a,a] [(0,(3,.tmp 28)),(3,(1,.const (.int .i64 3))),(4,(1,.tmp 29))],r 10 47 #[a,a,a,a,a],l 5 10 30] [ai 31,al 32 10,c1 33 122 31 32 (ae 2),e 11 33] [f 34 52 7,d 35 34,al 36 10,bq 37,o 38 [a,a,a,a,a,a,a] [(0,(5,.tmp 36)),(5,(1,.const (.int .i64 2))),(6,(1,.tmp 37))],a7 39 109 7 [a,a,a,a,a,a,a] (0,(7,.tmp 38)),W 40 109 7 56 35 39,f 41 52 7,h 41 40] (.region [v 42,bq 43,cX 44 43 1,a7 45 4 1 [j] (0,(1,.tmp 44)),ck 46 4 1 42 45,e 8 46])) (aR 25 9 26 25 9 26)) (z [ah 47 4,aU 48 47,v 49,a2 50 123 48 49,g 51 7,f 52 4 51,l 2 52 50] [g 53 7,f 54 8 53,bS 55 41 1 54 40,d 56 55,aW 57 56,g 58 7,f 59 8 58,bS 60 41 1 59 40,h 60 57] (z [g 61 7,f 62 2 61,d 63 62,aW 64 63,g 65 7,f 66 2 65,h 66 64] [ah 67 6,d 68 67,k 69 68,q 70 (.mkSlice 3 1 8 bA (.tmp 69) (.tmp 69)),g 71 7,f 72 6 71,h 72 70] (z [g 73 7,f 74 7 73,aZ 1 74 bZ] [g 75 7,f 76 49 75,aZ 1 76 bT] (av [g 77 7,g 78 77,aZ 1 78 cS] [m 79 67 7,b1 6 79]))))),b0 6 67⟩
theorem XF96:XF Tryz.prog 96=some xf96:=af0
def xf97:Ed:=⟨26,bx [aa 2 68,bk 4 #[c,c,c,c,a,a,a,a,c,c,c,c,c,c,c,a]] 5 (a8 [f 6 13 2,d 7 6,a3 8,p 9,f 10 13 2,d 11 10,a3 12,w 13 11 12,d 14 13,ck 15 22 24 9 14,f 16 8 2,d 17 16,a3 18,b9 19 17 18,m 20 52 19,a0 21 124 20,a7 22 22 1 [c] (0,(1,.tmp 21)),ck 23 22 24 15 22,w 24 7 8,h 24 23] [[9,15,17,19],[9,15,17,19],[9,15,17,19],[9],[9],[9],[9],[9],[9],[9,15],[9,15],[9,15],[9,15],[9,15],[9,15],[15,17],Z,[17,19],[19],[19,20]] [b,b,b,b,b,b,b,b,b,ad,b,aJ,b,b,aJ,ad,b,ad,b,b] (ab [aD 25 2,aH 4 25])),b0 4 16⟩
theorem XF97:XF Tryz.prog 97=some xf97:=af0
def xf114:Ed:=⟨46,y (b6 4) (bo 5 0 (af [p 6,bV,k 8 7,u 9 6 8,ag 10,X 11 5 10,X 12 1 10,ca 13 12 10,br 14 11 (.tmp 13) 10,Y 15 10 14] 15 0 1 (.seq (a8 [x 18,p 19,w 20 18 19,d 21 20,a3 22,p 23,w 24 22 23,d 25 24,u 26 21 25] [[9],[9],[9],[9],[9],[9],[9],[9],[9]] [b,b,b,b,b,b,b,b,b] (cl 26 [aY 4 (-1)])) (a8 [x 27,p 28,w 29 27 28,d 30 29,a3 31,p 32,w 33 31 32,d 34 33,aK 35 .gtr 30 34] [[9],[9],[9],[9],[9],[9],[9],[9],[9]] [b,b,b,b,b,b,b,b,b] (cl 35 [aY 4 1]))) (aX (p 16) 17 16 5 17)) (bm [x 36,k 37 36,a3 38,k 39 38,u 40 37 39] 40 [aY 4 (-1)] (bm [x 41,k 42 41,a3 43,k 44 43,aK 45 .gtr 42 44] 45 [aY 4 1] (ab (b6 4))))),b7⟩
theorem XF114:XF Tryz.prog 114=some xf114:=af0
def xf115:Ed:=⟨14,y [aa 1 74,bv 2] (bC [ba 3,d 4 3,s 5 1,d 6 5,az 7 2,d 8 7,bd 9 3 1 3 bA [(0,(1,.tmp 4)),(1,(1,.tmp 6)),(2,(1,.tmp 8))],az 10 3,al 11 10,a0 12 142 11,aF 13 9 12,a1 2] [[9,10],[9,10],[9,10],[9,10],[9,10],[9,10],[9,10],[9],[9],[9,10],[10,12],i] [b,b,b,b,b,b,b,b,b,cY (.true,.true),b,b]),bc⟩
theorem XF115:XF Tryz.prog 115=some xf115:=af0
def xf116:Ed:=⟨19,z [aa 2 121,r 4 121 #[c,c]] (bl (aU 6 2) (a0 7 143 6) 5 7) (.seq (bE 0 (cT [p 8,k 9 8,a3 10,u 11 9 10] 11 0 (cM 1 [p 12,bb 13 3 1 (0,(1,.const (.int .i64 0))),aF 14 12 13,e 5 14]))) (ab [p 15,cz,bw 17 1 15 16,o 18 [c,c] [(0,(1,.tmp 17))],l 2 4 18])),b0 4 2⟩
theorem XF116:XF Tryz.prog 116=some xf116:=af0
def xf117:Ed:=⟨158,y [aa 8 124,aI 9 58,ce 14 190 6,bF 16 #[j,a,a,a,c,c,c,c,a,a,a,a,a,a,a,a,a,a,a,a,a,a,a,a,a,a,a,a,a,a,a,a,a,a,a,a,a,a,a,a,a,a,a,a,a,a,a,a,a,a,a,a,c,c,j,a,c,a,a,a,c,c,a,j,c,c,c]] (a8 [m 23 52 8,ac 24,ai 25,ai 26,f 27 8 8,cm 28 41 1 27 (.tmp 26),d 29 28,o 30 [a,a,a] [(0,(1,.tmp 24)),(1,(1,.tmp 25)),(2,(1,.tmp 29))],o 31 [j,a,a,a,c,c,c,c,a,a,a,a,a,a,a,a,a,a,a,a,a,a,a,a,a,a,a,a,a,a,a,a,a,a,a,a,a,a,a,a,a,a,a,a,a,a,a,a,a,a,a,a,c,c,j,a,c,a,a,a,c,c,a,j,c,c,c] [(0,(52,.tmp 23)),(57,(3,.tmp 30))],bF 17 #[j,a,a,a,c,c,c,c,a,a,a,a,a,a,a,a,a,a,a,a,a,a,a,a,a,a,a,a,a,a,a,a,a,a,a,a,a,a,a,a,a,a,a,a,a,a,a,a,a,a,a,a,c,c,j,a,c,a,a,a,c,c,a,j,c,c,c],b1 17 31] [n,n,n,n,n,n,n,n,n,n,[10,11]] [b,b,b,b,b,b,b,b,b,b,b] (y [g 32 17,f 33 3 32,d 34 33,aW 35 34,g 36 17,f 37 3 36,h 37 35] (bz [p 38,bf 39 .gtr 38] 39 (aQ [bh 40 57,m 41 3 40,o 42 [a,a,a,a,a] [(0,(3,.tmp 41)),(3,(1,.const (.int .i64 2)))],r 18 47 #[a,a,a,a,a],l 5 18 42] [ar 43,al 44 18,p 45,aW 46 45,be 47 122 43 44 46,e 19 47] [bh 48 52,d 49 48,al 50 18,p 51,aW 52 51,e 53 19,o 54 [a,a,a,a,a,a,a] [(0,(5,.tmp 50)),(5,(1,.tmp 52)),(6,(1,.tmp 53))],a7 55 109 7 [a,a,a,a,a,a,a] (0,(7,.tmp 54)),W 56 109 7 56 49 55,bh 57 52,h 57 56] (.region [g 58 17,f 59 3 58,d 60 59,e 61 19,aK 62 .add 60 61,g 63 17,f 64 3 63,h 64 62])) (aQ [ac 65,cm 66 9 1 14 aw,h 66 65] [a9 67,cm 68 9 1 14 b4,h 68 67] [g 69 17,f 70 3 69,d 71 70,bS 72 9 1 14 2,h 72 71] (a8 [m 73 43 9,ai 74,m 75 52 8,a0 76 124 75,m 77 9 14,ar 78,bh 79 57,m 80 3 79,a2 81 145 78 80,aP 82 144 #[.tmp 73,.tmp 74,.tmp 76,.tmp 77,.tmp 81],bh 83 60,l 6 83 82] [[3,8,9],[3,8,9],[3],[3,8],[3,8,9],[3,8],[3,8],[3,8],[8,9],[9,11],aE,[11,12]] [b,b,b,ad,aJ,b,b,aJ,ad,b,b,b] (y [bh 84 60,f 85 4 84,d 86 85,bh 87 66,h 87 86] (bo 20 0 (af [e 88 20,bh 89 60,f 90 5 89,d 91 90,k 92 91,u 93 88 92] 93 0 1 (y [bh 96 57,m 97 3 96,e 98 20,o 99 [a,a,a,a,a] [(0,(3,.tmp 97)),(3,(1,.const (.int .i64 1))),(4,(1,.tmp 98))],r 21 47 #[a,a,a,a,a],l 5 21 99] (aS [bh 100 52,d 101 100,al 102 21,bh 103 60,f 104 5 103,d 105 104,e 106 20,w 107 105 106,d 108 107,ar 109,al 110 21,bh 111 60,f 112 5 111,d 113 112,e 114 20,w 115 113 114,d 116 115,be 117 122 109 110 116,o 118 [a,a,a,a,a,a,a] [(0,(5,.tmp 102)),(5,(1,.tmp 108)),(6,(1,.tmp 117))],a7 119 109 7 [a,a,a,a,a,a,a] (0,(7,.tmp 118)),W 120 109 7 56 101 119,bh 121 52,h 121 120] [[17,20],[17,20],[17,20],[17,20],[17,20],[17,20],[17,20],[17,20],[17,20],Z,Z,Z,Z,Z,Z,Z,Z,[17,20],[20],[20],[20,22],aG,[22,23]] [b,b,b,b,b,b,b,b,b,b,b,b,b,b,b,b,b,ad,b,b,b,b,b])) (aR 94 20 95 94 20 95)) (z [ai 122,ai 123,g 124 17,f 125 8 124,cm 126 41 1 125 (.tmp 123),d 127 126,aW 128 127,g 129 17,f 130 8 129,cm 131 41 1 130 (.tmp 122),h 131 128] [bh 132 60,g 133 132,d 134 133,f 135 41 9,d 136 135,cu 137 1 134 (cE 136) .none,aP 138 17 (cH 137 (ae 16)),g 139 17,f 140 6 139,h 140 138] (b5 22 2 (af [e 141 22,bh 142 60,s 143 142,d 144 143,k 145 144,u 146 141 145] 146 2 3 (aS [m 149 67 17,bh 150 60,s 151 150,d 152 151,e 153 22,a4 154 5 152 153,al 155 154,a2 156 146 149 155,b1 17 156] [[7],[7],[7],[7],[7],[7],[7],[7,8],[8,9]] [b,b,b,b,b,b,b,b,b]) (aR 147 22 148 147 22 148)) [m 157 67 17,b1 16 157]))))))))),b0 16 67⟩
theorem XF117:XF Tryz.prog 117=some xf117:=af0
def xf118:Ed:=⟨14,bg [aI 3 165,bM,ak 5] [ch,g 7 3,al 8 7,a2 9 120 6 8,bf 10 .geq 9] 10 [bM,aY 5 4] (ab [x 11,m 12 9 3,a2 13 121 11 12,a1 4,ak 5]),[.tmp 4,.tmp 5]⟩
theorem XF118:XF Tryz.prog 118=some xf118:=af0
def xf119:Ed:=⟨70,z [aI 3 150,bM] (b6 5) (.seq (bE 0 (.seq (a8 [p 7,ci,k 9 8,u 10 7 9,aL 11,X 12 0 11,X 13 5 11,bR 14 2 12 13 11,au 15 0 14 11,aA 16 15 11,au 17 0 3 11,aA 18 17 11,br 19 16 cC 11,X 20 19 11,bN 21 0 20,bN 22 5 20,aM 23 (cZ 2 21 22) 20,bH 24 0 23 20,bI 25 1 24 20,bH 26 0 3 20,bI 27 1 26 20,aM 28 (cg .eql 25 27) 20,bN 29 28 20,X 30 0 29,X 31 5 29,bR 32 2 30 31 29,au 33 1 32 29,aA 34 33 29,au 35 1 3 29,aA 36 35 29,br 37 34 (.tmp 36) 29,aM 38 (d0 29 (.tmp 37) cS) 20,aV 39 (d0 20 cF cw) 11,Y 40 11 39] [aj,aj,aj,aj,aj,aj,aj,aj,aj,aj,aj,aj,aj,aj,aj,aj,aj,aj,aj,aj,aj,aj,aj,aj,aj,aj,aj,aj,aj,aj,aj,aj,aj,aj] [b,b,b,b,b,b,b,b,b,b,b,b,b,b,b,b,b,b,b,b,b,b,b,b,b,b,b,b,b,b,b,b,b,b] (cL 40 0)) (cM 1 (aX (p 41) 42 41 5 42)))) (.seq (a8 [p 43,x 44,k 45 44,u 46 43 45,e 47 46,X 48 0 47,X 49 5 47,bR 50 2 48 49 47,bL 51 2 50 47,bL 52 2 3 47,aV 53 (cb [1,1] (.tmp 51) (.tmp 52)) 47,Y 54 47 53] [i,i,i,i,i,i,i,i,i,i,i,i] [b,b,b,b,b,b,b,b,b,b,b,b] (cl 54 (ao (x 55) 4 55))) (z (aC 6) [t 56,x 57,p 58,bw 59 2 57 58,W 60 150 2 16 56 59,ay 60] (av [t 61,aU 62 3,a7 63 150 2 [a,a] (0,(2,.tmp 62)),W 64 150 2 16 61 63,ay 64] [t 65,x 66,p 67,cu 68 2 66 (cE 67) .none,W 69 150 2 16 65 68,e 4 69])))),b7⟩
theorem XF119:XF Tryz.prog 119=some xf119:=af0
def xf120:Ed:=⟨20,y [aI 3 72,ak 4] (b5 5 0 (af [p 6,bV,k 8 7,u 9 6 8] 9 0 1 (a8 [x 12,p 13,a4 14 9 12 13,g 15 14,al 16 15,al 17 3,q 18 (cb [1,1,1,1,1] (.tmp 16) (.tmp 17))] [[7],[7],[7],[7],[7],[7],[7]] [b,b,b,b,b,b,b] (cl 18 (ao (p 19) 4 19))) (aX (p 10) 11 10 5 11)) [aY 4 (-1)]),b7⟩
theorem XF120:XF Tryz.prog 120=some xf120:=af0
def xf121:Ed:=⟨38,z [aI 3 165,bM] (b6 5) (.seq (bE 0 (.seq (a8 [p 7,ci,k 9 8,u 10 7 9,aL 11,X 12 0 11,X 13 5 11,bR 14 9 12 13 11,au 15 0 14 11,bL 16 5 15 11,au 17 0 3 11,bL 18 5 17 11,bt 19 147 (cW 16 18) 11,br 20 19 aw 11,Y 21 11 20] [i,i,i,i,i,i,i,i,i,i,i,i,[12,15],an,an] [b,b,b,b,b,b,b,b,b,b,b,b,b,b,b] (cL 21 0)) (cM 1 (aX (p 22) 23 22 5 23)))) (z (aC 6) [t 24,x 25,p 26,bw 27 9 25 26,W 28 165 9 72 24 27,ay 28] (av [t 29,m 30 9 3,a7 31 165 9 [a,a,a,a,a,a,a,a,a] (0,(9,.tmp 30)),W 32 165 9 72 29 31,ay 32] [t 33,x 34,p 35,cu 36 9 34 (cE 35) .none,W 37 165 9 72 33 36,e 4 37]))),b7⟩
theorem XF121:XF Tryz.prog 121=some xf121:=af0
def xf122:Ed:=⟨12,av [aI 4 47,ak 6] [bV,al 8 4,a2 9 148 7 8,ai 10,c4 11 9 10,ay 11],c0⟩
theorem XF122:XF Tryz.prog 122=some xf122:=af0
def xf123:Ed:=⟨37,bx [aa 2 121,r 4 121 #[c,c]] 5 (b5 6 0 (af [t 7,s 8 2,d 9 8,k 10 9,u 11 7 10,bq 12,X 13 6 12,X 14 1 12,ca 15 14 12,br 16 13 (.tmp 15) 12,Y 17 12 16] 17 0 1 (c8 [a3 20,t 21,w 22 20 21,d 23 22] 23 [p 24,s 25 2,d 26 25,t 27,a4 28 2 26 27,aU 29 28,a7 30 257 2 [a,a] (0,(2,.tmp 29)),W 31 257 2 16 24 30,e 5 31]) (aX (t 18) 19 18 6 19)) [g 32 2,d 33 32,p 34,a2 35 149 33 34,o 36 [c,c] [(0,(1,.tmp 35))],l 2 4 36]),b0 4 2⟩
theorem XF123:XF Tryz.prog 123=some xf123:=af0
def xf124:Ed:=⟨9,y [aa 1 124,bv 2] (bC [az 3 4,aU 4 3,a0 5 143 4,az 6 6,d 7 6,aF 8 5 7,v 2] [[2],[2],[2,5],[2,5],[2,5],[5,7],[7]] [b,b,ad,b,aJ,b,b]),bc⟩
theorem XF124:XF Tryz.prog 124=some xf124:=af0
def xf142:Ed:=⟨17,av [aa 1 72,bv 2] [ba 3,g 4 3,d 5 4,ba 6,s 7 6,d 8 7,ba 9,f 10 2 9,d 11 10,az 12 3,d 13 12,az 14 4,d 15 14,bd 16 3 1 5 bA [(0,(1,.tmp 5)),(1,(1,.tmp 8)),(2,(1,.tmp 11)),(3,(1,.tmp 13)),(4,(1,.tmp 15))],e 2 16],bc⟩
theorem XF142:XF Tryz.prog 142=some xf142:=af0
def xf143:Ed:=⟨8,av [aa 1 121,bv 2] [ba 3,d 4 3,s 5 1,d 6 5,a2 7 149 4 6,ar 2],bc⟩
theorem XF143:XF Tryz.prog 143=some xf143:=af0
def xf144:Ed:=⟨330,aQ [aa 5 58,ce 8 190 3,r 10 158 #[c,c,a,j,c,c]] [bd 18 3 1 0 bA [],ai 19,aF 20 18 19,o 21 [c,c,a,j,c,c] [(0,(1,.tmp 20))],r 11 158 #[c,c,a,j,c,c],l 6 11 21] [a3 22,s 23 5,cm 24 40 1 23 (.tmp 22),d 25 24,e 12 25] (bm [bB 26,c6 27 26] 27 [m 28 6 11,l 6 10 28] (cV (aC 13) (bE 0 (cT [bs 29 2,d 30 29,bj 31 .lss 30 500] 31 0 (.block 1 (z [g 32 5,d 33 32,bB 34,a4 35 2 33 34,aU 36 35,r 14 150 #[a,a],l 2 14 36] [bs 37 4,d 38 37,bB 39,a2 40 168 38 39,bs 41 4,h 41 40] (z [bs 42 2,d 43 42,aW 44 43,bs 45 2,h 45 44] (aR 46 12 47 46 12 47) (z (bl (a1 48) (k 49 48) 15 49) [g 50 14,d 51 50] (.block 2 (cG (aO 54 1 53 54) 53 [a1 55,s 56 14,d 57 56,bb 58 3 1 (0,(1,.tmp 57)),aF 59 55 58,bi 59] (co (aO 61 2 60 61) 60 [a1 62,g 63 11,d 64 63,s 65 14,d 66 65,w 67 64 66,d 68 67,bb 69 3 1 (0,(1,.tmp 68)),aF 70 62 69,bi 70] (aO 72 4 71 72) 71 [a1 73,s 74 14,d 75 74,cm 76 9 1 8 (.tmp 75),d 77 76,bb 78 3 1 (0,(1,.tmp 77)),aF 79 73 78,bi 79] (bG (aO 81 3 80 81) 80 (a8 [g 82 11,d 83 82,s 84 14,d 85 84,a1 86,am 87,aT 88 87,w 89 86 88,d 90 89,w 91 83 85,h 91 90] [n,n,n,n,n,n,n,n,n,n,[10,11]] [b,b,b,b,b,b,b,b,b,b,b] (bz [s 92 14,d 93 92,f 94 41 5,d 95 94,u 96 93 95] 96 (aS [bn 97,d 98 97,s 99 14,d 100 99,a1 101,am 102,aT 103 102,w 104 101 103,d 105 104,o 106 [a,a,a,a,a] [(0,(1,.const (.int .i64 1))),(1,(1,.tmp 100)),(2,(1,.tmp 105))],a7 107 253 5 [a,a,a,a,a] (0,(5,.tmp 106)),W 108 253 5 40 98 107,bn 109,h 109 108] [aE,aE,aE,aE,aE,aE,aE,aE,aE,aE,aE,[11,13],[13],[13,14]] [b,b,b,b,b,b,b,b,b,b,b,b,b,b]) (.region [a1 110,am 111,aT 112 111,bw 113 1 110 112,bi 113]))) (aO 115 5 114 115) 114 (aQ [a1 116,am 117,aT 118 117,w 119 116 118,d 120 119,cj 121 .false (.tmp 120) [ae 4],cj 122 .true b4 [.tmp 121],e 16 122] [a1 123,am 124,aT 125 124,w 126 123 125,aZ 1 126 aw] [e 127 16,bj 128 .gtr 127 1] (d1 128 (c2 [a1 129,am 130,aT 131 130,a9 132,bs 133 5,d 134 133,k 135 134,e 136 16,be 137 169 132 135 136,w 138 129 131,h 138 137] [bs 139 5,d 140 139,e 141 16,bb 142 3 1 (0,(1,.tmp 141)),aF 143 140 142,bs 144 5,h 144 143]))) (cQ (aO 146 6 145 146) 145 .skip (bQ (aO 147 7 145 147) 145 .skip (bG (aO 148 8 145 148) 145 .skip (aO 149 9 145 149) 145 .skip (bG (aO 150 11 145 150) 145 .skip (aO 151 12 145 151) 145 .skip (.region (aO 152 13 145 152))))) (cB 145 (cP (aS [a1 153,am 154,cn 155 154 2,g 156 14,d 157 156,a1 158,am 159,cn 160 159 2,w 161 158 160,d 162 161,a1 163,am 164,aT 165 164,w 166 163 165,d 167 166,be 168 170 157 162 167,w 169 153 155,h 169 168] [[15,17],[15,17],[15,17],an,an,an,an,an,an,an,an,an,an,an,an,[15,17],Z,[17,18]] [b,b,b,b,b,b,b,b,b,b,b,b,b,b,b,b,b,b]) [a1 170,am 171,aT 172 171,bw 173 1 170 172,bi 173]) (cG (aO 175 10 174 175) 174 [a1 176,am 177,aT 178 177,a1 179,am 180,aT 181 180,w 182 179 181,d 183 182,c7 184 .neg 183,w 185 176 178,h 185 184] (co (aO 187 14 186 187) 186 [a1 188,am 189,aT 190 189,a1 191,am 192,aT 193 192,w 194 191 193,d 195 194,bK 196 195,a0 197 171 196,w 198 188 190,h 198 197] (aO 200 15 199 200) 199 (bl (s 201 14) (d 202 201) 12 202) (bG (aO 204 16 203 204) 203 (cc [a1 205,am 206,aT 207 206,w 208 205 207,d 209 208,bK 210 209] 210 (bl (s 211 14) (d 212 211) 12 212) (.region [a1 213,am 214,aT 215 214,bw 216 1 213 215,bi 216])) (aO 218 17 217 218) 217 (y [a1 219,am 220,cn 221 220 3,w 222 219 221,d 223 222,e 17 223] (bz [e 224 17,bf 225 .geq 224,e 226 225,X 227 17 226,aV 228 (cU 9 1 8 b4) 226,aA 229 228 226,br 230 227 (.tmp 229) 226,Y 231 226 230,e 232 231,au 233 1 11 232,aA 234 233 232,bt 235 172 (cd 234) 232,br 236 235 cv 232,Y 237 232 236] 237 (aS [bn 238,d 239 238,e 240 17,s 241 14,d 242 241,a1 243,am 244,cn 245 244 2,w 246 243 245,d 247 246,a1 248,am 249,aT 250 249,w 251 248 250,d 252 251,o 253 [a,a,a,a,a] [(0,(1,.const (.int .i64 3))),(1,(1,.tmp 240)),(2,(1,.tmp 242)),(3,(1,.tmp 247)),(4,(1,.tmp 252))],a7 254 253 5 [a,a,a,a,a] (0,(5,.tmp 253)),W 255 253 5 40 239 254,bn 256,h 256 255] [Z,Z,Z,Z,Z,Z,Z,Z,Z,Z,Z,Z,Z,Z,Z,Z,Z,[17,19],[19],[19,20]] [b,b,b,b,b,b,b,b,b,b,b,b,b,b,b,b,b,b,b,b]) (.region [a1 257,am 258,cn 259 258 3,bw 260 1 257 259,bi 260]))) (cG (aO 262 18 261 262) 261 [bn 263,d 264 263,s 265 14,d 266 265,o 267 [a,a,a,a,a] [(0,(1,.const (.int .i64 4))),(1,(1,.tmp 266))],a7 268 253 5 [a,a,a,a,a] (0,(5,.tmp 267)),W 269 253 5 40 264 268,bn 270,h 270 269] (co (aO 272 19 271 272) 271 [bn 273,d 274 273,s 275 14,d 276 275,o 277 [a,a,a,a,a] [(0,(1,.const (.int .i64 5))),(1,(1,.tmp 276))],a7 278 253 5 [a,a,a,a,a] (0,(5,.tmp 277)),W 279 253 5 40 274 278,bn 280,h 280 279] (aO 282 20 281 282) 281 [bn 283,d 284 283,o 285 [a,a,a,a,a] [(0,(1,.const (.int .i64 2)))],a7 286 253 5 [a,a,a,a,a] (0,(5,.tmp 285)),W 287 253 5 40 284 286,bn 288,h 288 287] (bG (aO 290 21 289 290) 289 (cP (aS [bn 291,d 292 291,a1 293,am 294,cn 295 294 2,w 296 293 295,d 297 296,a1 298,am 299,aT 300 299,w 301 298 300,d 302 301,o 303 [a,a,a,a,a] [(0,(1,.const (.int .i64 6))),(1,(1,.tmp 297)),(2,(1,.tmp 302))],a7 304 253 5 [a,a,a,a,a] (0,(5,.tmp 303)),W 305 253 5 40 292 304,bn 306,h 306 305] [ax,ax,ax,ax,ax,ax,ax,ax,ax,ax,ax,ax,ax,ax,[14,16],[16],[16,17]] [b,b,b,b,b,b,b,b,b,b,b,b,b,b,b,b,b]) [a1 307,am 308,cn 309 308 2,bw 310 1 307 309,bi 310]) (aO 312 22 311 312) 311 (cP (aS [bn 313,d 314 313,a1 315,am 316,aT 317 316,w 318 315 317,d 319 318,o 320 [a,a,a,a,a] [(0,(1,.const (.int .i64 7))),(1,(1,.tmp 319))],a7 321 253 5 [a,a,a,a,a] (0,(5,.tmp 320)),W 322 253 5 40 314 321,bn 323,h 323 322] [[9],[9],[9],[9],[9],[9],[9],[9],[9],[9,11],aE,[11,12]] [b,b,b,b,b,b,b,b,b,b,b,b]) [a1 324,am 325,aT 326 325,bw 327 1 324 326,bi 327]) (ab [m 52 6 11,l 6 10 52]))))))))))))))))))) (av [bs 328 3,aZ 1 328 cF] [m 329 6 11,l 6 10 329]))),b0 10 6⟩
theorem XF144:XF Tryz.prog 144=some xf144:=af0
def xf145:Ed:=⟨58,aQ [aI 3 45,bM] (aC 5) [aY 6 (-1)] (bo 7 0 (af [ar 9,x 10,k 11 10,u 12 9 11] 12 0 1 (a8 [x 15,ar 16,a4 17 6 15 16,g 18 17,g 19 18,m 20 3 19,m 21 3 3,q 22 (cb [1,1,1] (.tmp 20) (.tmp 21)),e 23 22,X 24 0 23,X 25 7 23,bR 26 6 24 25 23,au 27 0 26 23,au 28 3 27 23,aA 29 28 23,b3 30 29 b4 23,Y 31 23 30] [Z,Z,Z,Z,Z,Z,Z,Z,Z,Z,Z,Z,Z,Z,Z,Z,Z] [b,b,b,b,b,b,b,b,b,b,b,b,b,b,b,b,b] (cK 31 [t 32,x 33,ar 34,a4 35 6 33 34,g 36 35,f 37 4 36,d 38 37,cj 39 .true (.tmp 32) [cw],ay 39])) (aR 13 7 14 13 7 14)) (b5 8 2 (af [v 40,t 41,aK 42 .leq 40 41,e 43 42,X 44 8 43,br 45 44 (ae 500) 43,Y 46 43 45] 46 2 3 (.region [p 49,x 50,m 51 3 3,v 52,o 53 [a,a,a,a,a] [(0,(3,.tmp 51)),(3,(1,.const (.int .i64 1))),(4,(1,.tmp 52))],a2 54 148 50 53,bb 55 3 1 (0,(1,.tmp 54)),aF 56 49 55,e 5 56]) (aX (v 47) 48 47 8 48)) (ao (p 57) 4 57))),b7⟩
theorem XF145:XF Tryz.prog 145=some xf145:=af0
def xf146:Ed:=⟨101,y [aa 2 160,aI 3 253,bF 4 #[j,a,a,a,c,c,c,c,a,a,a,a,a,a,a,a,a,a,a,a,a,a,a,a,a,a,a,a,a,a,a,a,a,a,a,a,a,a,a,a,a,a,a,a,a,a,a,a,a,a,a,a,c,c,j,a,c,a,a,a,c,c,a,j,c,c,c]] (c9 [g 6 3,d 7 6] (.block 0 (co (aB 9 7 1 8 9) 8 [g 10 2,f 11 4 10,aU 12 11,s 13 3,d 14 13,ah 15 2,d 16 15,be 17 173 12 14 16,g 18 2,f 19 4 18,l 2 19 17] (aB 21 7 2 20 21) 20 [g 22 2,f 23 4 22,aU 24 23,a0 25 174 24,g 26 2,f 27 4 26,l 2 27 25] (co (aB 29 7 4 28 29) 28 [g 30 2,f 31 7 30,d 32 31,s 33 3,d 34 33,c1 35 175 32 34 cF,g 36 2,f 37 7 36,h 37 35] (aB 39 7 5 38 39) 38 [g 40 2,f 41 7 40,d 42 41,s 43 3,d 44 43,c1 45 175 42 44 cS,g 46 2,f 47 7 46,h 47 45] (bG (aB 49 7 3 48 49) 48 (c2 [f 50 57 2,m 51 3 50,f 52 53 2,d 53 52,k 54 53,o 55 [a,a,a,a,a] [(0,(3,.tmp 51)),(3,(1,.tmp 54))],r 5 72 #[a,a,a,a,a],l 5 5 55] [f 56 53 2,d 57 56,al 58 5,s 59 3,d 60 59,ah 61 2,d 62 61,ah 63 3,d 64 63,ah 65 4,d 66 65,o 67 [a,a,a,a,a,a,a,a,a] [(0,(5,.tmp 58)),(5,(1,.tmp 60)),(6,(1,.tmp 62)),(7,(1,.tmp 64)),(8,(1,.tmp 66))],a7 68 165 9 [a,a,a,a,a,a,a,a,a] (0,(9,.tmp 67)),W 69 165 9 72 57 68,f 70 53 2,h 70 69]) (aB 72 7 6 71 72) 71 (bQ [g 73 2,f 74 49 73,d 75 74,bf 76 .geq 75,e 77 76,au 78 1 3 77,aA 79 78 77,au 80 0 2 77,au 81 49 80 77,aA 82 81 77,b3 83 79 (.tmp 82) 77,Y 84 77 83] 84 (z [f 85 54 2,aZ 1 85 cF] [ah 86 2,d 87 86,f 88 55 2,h 88 87] (.region [g 89 2,f 90 49 89,aZ 1 90 bT])) .skip) (c8 (aB 92 7 7 91 92) 91 [f 93 56 2,d 94 93,s 95 3,d 96 95,bb 97 3 1 (0,(1,.tmp 96)),aF 98 94 97,f 99 56 2,h 99 98]))))) (ab [m 100 67 2,b1 4 100])),b0 4 67⟩
theorem XF146:XF Tryz.prog 146=some xf146:=af0
def xf147:Ed:=⟨10,y [aa 2 72,aI 3 72,ak 4] (bC [al 5 2,a0 6 142 5,al 7 3,a0 8 142 7,a2 9 114 6 8,ag 4] [[1],[1,3],[1,3],[3,4],[4,6],[6]] [b,ad,aJ,b,b,b]),b7⟩
theorem XF147:XF Tryz.prog 147=some xf147:=af0
def xf148:Ed:=⟨27,z [aI 3 47,ak 4] (b6 5) (b5 6 0 (af [t 7,ci,k 9 8,u 10 7 9] 10 0 1 (a8 [x 13,t 14,a4 15 6 13 14,g 16 15,al 17 16,al 18 3,q 19 (cb [1,1,1,1,1] (.tmp 17) cC)] [[7],[7],[7],[7],[7],[7],[7]] [b,b,b,b,b,b,b] (cK 19 [x 20,t 21,a4 22 6 20 21,f 23 5 22,d 24 23,cj 25 .true (.tmp 24) [aw],e 5 25])) (aX (t 11) 12 11 6 12)) (ao (p 26) 4 26)),b7⟩
theorem XF148:XF Tryz.prog 148=some xf148:=af0
def xf149:Ed:=⟨29,z (aC 4) [bd 7 3 1 0 bA [],ci,aF 9 7 8,ag 5] (b5 6 0 (af [t 10,a3 11,k 12 11,u 13 10 12] 13 0 1 (aS [p 16,a3 17,t 18,a4 19 2 17 18,g 20 19,d 21 20,a3 22,t 23,a4 24 2 22 23,s 25 24,d 26 25,w 27 16 21,h 27 26] [i,i,i,i,i,i,i,i,i,i,i,i,[12,13]] [b,b,b,b,b,b,b,b,b,b,b,b,b]) [t 14,aW 15 14,am 6]) (ao (p 28) 4 28)),b7⟩
theorem XF149:XF Tryz.prog 149=some xf149:=af0
def xf168:Ed:=⟨41,bg (aC 4) [bV,a3 8,a2 9 202 7 8] 9 (ao (x 10) 4 10) (z (aC 5) cf (.seq (bE 0 (cT [t 11,x 12,k 13 12,u 14 11 13,e 15 14,X 16 0 15,X 17 6 15,bR 18 1 16 17 15,aA 19 18 15,X 20 1 15,br 21 19 (.tmp 20) 15,Y 22 15 21] 22 0 (.block 1 (c2 [p 23,x 24,t 25,w 26 24 25,d 27 26,bb 28 3 1 (0,(1,.tmp 27)),aF 29 23 28,e 5 29] (aX (t 30) 31 30 6 31))))) (av [p 32,a3 33,bb 34 3 1 (0,(1,.tmp 33)),aF 35 32 34,e 5 35] [p 36,x 37,t 38,cu 39 1 37 (cE 38) .none,aF 40 36 39,e 4 40]))),b7⟩
theorem XF168:XF Tryz.prog 168=some xf168:=af0
def xf169:Ed:=⟨25,bg cf [a3 7,c6 8 7,v 9,bN 10 1 9,bN 11 0 9,aM 12 (cy 11) 9,aM 13 (cg .geq 10 12) 9,bO 14 9 13] 14 cf (ab [x 15,cz,w 17 15 16,d 18 17,ai 19,c4 20 18 19,ai 21,aK 22 .add 20 21,ai 23,c4 24 22 23,ay 24]),c0⟩
theorem XF169:XF Tryz.prog 169=some xf169:=af0
def xf170:Ed:=⟨50,y cf (c9 [bV] (.block 0 (bG (aB 9 7 6 8 9) 8 (ab [a3 10,ai 11,aK 12 .add 10 11,a0 13 203 12,a1 6]) (aB 15 7 7 14 15) 14 (ab [cz,ai 17,aK 18 .sub 16 17,a0 19 203 18,ay 19]) (bG (aB 21 7 8 20 21) 20 (ab [a3 22,ai 23,aK 24 .mul 22 23,a0 25 203 24,ay 25]) (aB 27 7 9 26 27) 26 (bm [ai 28,bK 29 28] 29 cf (ab [a3 30,ai 31,aK 32 .quo 30 31,a0 33 203 32,ay 33])) (bG (aB 35 7 11 34 35) 34 (ab [a3 36,ai 37,u 38 36 37,a0 39 171 38,ay 39]) (aB 41 7 12 40 41) 40 (ab [a3 42,ai 43,aK 44 .leq 42 43,a0 45 171 44,ay 45]) .skip)))) (ab [a3 46,ai 47,aK 48 .eql 46 47,a0 49 171 48,ay 49])),c0⟩
theorem XF170:XF Tryz.prog 170=some xf170:=af0
def xf171:Ed:=⟨4,bg (b6 2) [cq] 3 [aY 2 1] (ab (b6 2)),bc⟩
theorem XF171:XF Tryz.prog 171=some xf171:=af0
def xf172:Ed:=⟨20,z (b6 2) (b6 3) (b5 4 0 (af [a9 5,ch,k 7 6,u 8 5 7] 8 0 1 (c8 [x 11,a9 12,a4 13 5 11 12,g 14 13,d 15 14,cX 16 15 3] 16 (aR 17 3 18 17 3 18)) (aR 9 4 10 9 4 10)) (ao (ac 19) 2 19)),bc⟩
theorem XF172:XF Tryz.prog 172=some xf172:=af0
def xf173:Ed:=⟨42,bg [aa 3 121,r 6 121 #[c,c]] [a3 8,c6 9 8,ag 10,bN 11 1 10,bH 12 0 3 10,bI 13 1 12 10,aM 14 (cy 13) 10,aM 15 (cg .geq 11 14) 10,bO 16 10 15] 16 [aU 17 3,l 2 6 17] (y [bd 18 257 2 0 [a,a] [],s 19 3,d 20 19,W 21 257 2 16 18 20,a3 22,ai 23,o 24 [a,a] [(0,(1,.tmp 22)),(1,(1,.tmp 23))],a7 25 257 2 [a,a] (0,(2,.tmp 24)),W 26 257 2 16 21 25,e 7 26] (bz [ar 27,k 28 27,bj 29 .gtr 28 4] 29 (bC [g 30 3,d 31 30,ar 32,d6 33 2 32 (.some b4),a2 34 149 31 33,ar 35,cu 36 2 35 (.some b4) .none,o 37 [c,c] [(0,(1,.tmp 34)),(1,(1,.tmp 36))],l 2 6 37] [[4],[4],[4],[4],[4,8],[4,8],[4,8],[8],[8,9]] [b,b,b,b,ad,b,aJ,b,b]) (ab [g 38 3,d 39 38,ar 40,o 41 [c,c] [(0,(1,.tmp 39)),(1,(1,.tmp 40))],l 2 6 41]))),b0 6 2⟩
theorem XF173:XF Tryz.prog 173=some xf173:=af0
def xf174:Ed:=⟨6,av [aa 1 121,r 2 121 #[c,c]] [aU 3 1,a0 4 143 3,o 5 [c,c] [(0,(1,.tmp 4))],l 2 2 5],b0 2 2⟩
theorem XF174:XF Tryz.prog 174=some xf174:=af0
def xf175:Ed:=⟨27,bx (aC 6) 7 (b5 8 0 (af [v 10,bj 11 .lss 10 8] 11 0 1 (y [x 14,v 15,a2 16 202 14 15,e 9 16] (cc [v 17,a3 18,aK 19 .eql 17 18] 19 (ao (ai 20) 9 20) (c8 [ag 21] 21 [ar 22,v 23,bb 24 3 1 (0,(1,.tmp 23)),aF 25 22 24,e 7 25]))) [v 12,aW 13 12,a1 8]) (ao (ar 26) 6 26)),c0⟩
theorem XF175:XF Tryz.prog 175=some xf175:=af0
def xf202:Ed:=⟨18,y [bJ 4] (b5 5 0 (af [p 6,bV,k 8 7,u 9 6 8] 9 0 1 (bQ [x 12,p 13,w 14 12 13,d 15 14,cz,aK 17 .eql 15 16] 17 (ab [bu 4 cR]) .skip) (aX (p 10) 11 10 5 11)) [bJ 4]),b7⟩
theorem XF202:XF Tryz.prog 202=some xf202:=af0
def xf203:Ed:=⟨6,av (b6 2) [cq,cj 4 .false (.tmp 3) [ae 2147483647],cj 5 .true (ae (-2147483647)) [.tmp 4],p 2],bc⟩
theorem XF203:XF Tryz.prog 203=some xf203:=af0
end Go.Proofs.YtkkpchcniicimaaGreat
end

/- The abstract forms of the functions of this seat, part 2 (printed by a program). -/
import Derived.Test.YtghcggoodgfaoaaGreatDoorP1
set_option maxRecDepth 100000
noncomputable section
namespace Go.Proofs.YtghcggoodgfaoaaGreatDoor
open Go Go.RowKit
open Zp
def xf354 : XFunc := ⟨22,s [o 2 (.box 209 e),bh] (s [o 7 (.mkFunc 375 #[] #[l]),o 5 (.zero 97 .nilFunc),q (.store 1 f j)] (s [o 8 (.mkFunc 376 #[] #[f]),o 9 (.build [.int .i64 0,.nilFunc] [(0,(1,X)),(1,(1,g))]),o 10 (.mkFunc 377 #[] #[f]),o 11 (.build [.int .i64 0,.nilFunc] [(0,(1,aw)),(1,(1,u))]),o 12 (.mkFunc 378 #[] #[l]),o 13 (.build [.int .i64 0,.nilFunc] [(0,(1,bp)),(1,(1,y))]),o 14 (.buildSlice 464 2 3 [.int .i64 0,.nilFunc] [(0,(2,v)),(2,(2,x)),(4,(2,A))]),dC] (.seq (s [m 15 d] (i 15 (r [ef,o 17 (.mkFunc 379 #[] #[l]),o 18 (.build [.int .i64 0,.nilFunc] [(0,(1,b3)),(1,(1,C))]),o 19 (.buildSlice 464 2 1 [.int .i64 0,.nilFunc] [(0,(2,D))]),o 20 (.append 464 2 16 B G),m 6 R]) .skip)) (s [m 21 c,m 4 E] .ret)))),[.tmp 4]⟩
theorem XF354 : XF Tryz.prog 354 = some xf354 := by kernel_rfl
def xf355 : XFunc := ⟨51,s [bh] (s [cG,o 10 (.mkSlice 22 1 24 [.slice .none 0 0] v v),m 5 u] (.seq (s [d9,fa,e7] (.block 0 (.loop (s [h5] (.seq dP (.seq (.block 1 (s [o 15 (.ia 2 x A),o 16 (.load .true 2 z),o 7 (.zero 423 (.agg #[.int .i64 0,.int .i64 0])),q (.store 2 j B)] (.draw ⟨[m 17 f,o 18 (.iaArr 2 1 j a),cv,m 20 f,o 21 (.iaArr 2 1 j a),j2,jR,bQ,o 25 (.iaArr 2 1 j b),dO,o 27 (.buildSlice 3 1 1 [.int .i64 0] [(0,(1,K))]),o 28 (.append 3 1 8 F I),o 29 (.ia 1 C G),q (.store 1 T L)],[[11,13],[11,13],[11,13],[11],[11],[11],[11],[11],[11],[11],[11],[11,13],[13],[13,14]],[((.false,.false),.false),((.false,.false),.false),((.false,.false),.false),((.false,.false),.false),((.false,.false),.false),((.false,.false),.false),((.false,.false),.false),((.false,.false),.false),((.false,.false),.false),((.false,.false),.false),((.false,.false),.false),((.true,.false),.false),((.false,.false),.false),((.false,.false),.false)]⟩))) (r [o 30 (.bin .add A b),m 13 P]))))))) (.seq (s [m 31 f,d6,m 33 a] (.block 2 (.loop (s [jw] (.seq (i 34 .skip ap) (.seq (.block 3 (s [m 35 O,m 8 a6] (s [db,m 37 g,hH,dJ,o 40 (.call 152 #[a5])] (r [m 41 f,m 42 g,m 43 f,m 44 g,jf,fg,o 47 (.call 153 #[af]),o 48 (.ia 1 a2 ab),q (.store 1 ah ae)])))) (r [o 49 (.bin .add O b),m 33 a7]))))))) (s [m 50 f,m 4 aa] .ret)))),[.tmp 4]⟩
theorem XF355 : XF Tryz.prog 355 = some xf355 := by kernel_rfl
def xf362 : XFunc := ⟨7,s [bI] (s [bR,fy,jU,o 6 (.len f),m 2 c] .ret),[.tmp 2]⟩
theorem XF362 : XF Tryz.prog 362 = some xf362 := by kernel_rfl
def xf370 : XFunc := ⟨4,s [o 1 (.box 22 e),m 2 (.const .nilFunc)] (s [o 3 (.mkFunc 386 #[] #[d]),m 2 n] .ret),[.tmp 2]⟩
theorem XF370 : XF Tryz.prog 370 = some xf370 := by kernel_rfl
def xf373 : XFunc := ⟨38,s [c7] (s [bJ,du,o 8 (.fa 0 j),cL,o 10 (.mkSlice 3 1 8 [.int .i64 0] v v),m 3 u] (.seq (s [c2,o 12 (.nilck x),o 13 (.fa 0 y),fO,m 15 a] (.block 0 (.loop (s [jI] (.seq f1 (.seq (.block 1 (s [m 17 z,dR] (s [dl,o 19 (.nilck D),o 20 (.fa 0 G),cT,m 22 a] (.block 2 (.loop (s [o 23 (.bin .lss Q E)] (.seq (i 23 .skip ap) (.seq (.block 3 (s [m 24 Q,m 5 F] (s [m 25 e,m 26 p,cR,o 28 (.call 374 #[H,K,I])] (i 28 (r [m 29 n,dZ,o 31 (.ia 1 T P),cI,hT,o 34 (.ia 1 T P),q (.store 1 a0 O)]) .skip)))) (r [o 35 (.bin .add Q b),m 22 a6]))))))))) (r [o 36 (.bin .add z b),m 15 a3]))))))) (s [m 37 n,m 2 Y] .ret))),[.tmp 2]⟩
theorem XF373 : XF Tryz.prog 373 = some xf373 := by kernel_rfl
def xf386 : XFunc := ⟨19,s [o 4 (.load .false 1 d),o 5 (.len p),o 6 (.bin .sub f b),m 3 c] (.block 0 (.loop (.seq (s [m 7 n,o 8 (.bin .geq j a)] (i 8 .skip a9)) (.seq (.block 1 (s [c2,eB,o 13 (.load .false 1 d),m 14 n,l6,cQ,o 17 (.callv x #[y,B]),eS] (i 18 .ret .skip))) (r [m 9 n,l2,m 3 u]))))),[]⟩
theorem XF386 : XF Tryz.prog 386 = some xf386 := by kernel_rfl
end Go.Proofs.YtghcggoodgfaoaaGreatDoor
end

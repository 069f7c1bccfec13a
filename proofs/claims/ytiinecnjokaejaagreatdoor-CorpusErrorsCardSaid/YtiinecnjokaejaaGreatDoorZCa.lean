/- The corpus on empty tapes. The corpus on empty tapes: adding, running, entries. The corpus on empty tapes: running, entries, the law. The corpus on empty tapes: the law of errors. -/
import Derived.Test.YtiinecnjokaejaaGreatDoorZEa
set_option linter.unusedSimpArgs false
set_option linter.unusedSectionVars false
set_option linter.unusedVariables false
namespace Go.Proofs.YtiinecnjokaejaaGreatDoor
open Go Go.RowKit
def e0:VV:=.agg [vl ([]:List Int),vl ([]:List Int)]
def w0:VV:=.agg [vi 0,vi 0,vi 0,.v (.slice none 0 0),.v (.slice none 0 0)]
def K0:Int:=3552461004539083949
structure Ent where
instance encEnt:VEnc Ent:=⟨8,fun _=>[vl ([]:List Int),vl ([]:List Int),vi 0,vi 0,vi 0,vl ([]:List Int),vl ([]:List Int),.v (.int .u64 K0)],fun _=>rfl,fun _=>rfl,fun _=>by simp only [List.map_cons,List.map_nil,fg_int,fg_vl],by decide⟩
theorem eEnt (a:Ent):VEnc.e a=[vl ([]:List Int),vl ([]:List Int),vi 0,vi 0,vi 0,vl ([]:List Int),vl ([]:List Int),.v (.int .u64 K0)]:=rfl
theorem valid_of {c:Cfg} (h:CfgOK c):validC c=true:=by
 unfold validC
 rw [Bool.and_eq_true,Bool.and_eq_true]
 have h1:=h.progs;have h2:=h.first;have h3:=h.reqs;have h4:=h.crashes;have h5:=h.drops;have h6:=h.dups;have h7:=h.drift
 refine ⟨decide_eq_true ?_,List.all_eq_true.2 fun v hv=>?_,List.all_eq_true.2 fun r hr=>?_⟩
 ·unfold headC;omega
 ·unfold inR
  rcases List.mem_append.1 hv with hv | hv
  ·have:=h.firsts v hv;exact decide_eq_true (by omega)
  ·have:=h.restarts v hv;exact decide_eq_true (by omega)
 ·obtain ⟨a,b,c1,c2,c3⟩:=h.req r hr
  unfold small31 at c1 c2 c3
  simp only [reqC,inR,List.all_cons,List.all_nil,Bool.and_true,Bool.and_eq_true,decide_eq_true_eq]
  omega
section
variable [Prim Tryz.prog] [SrcOK]
theorem first_nil (v:VV) (σ:VSt):VC Tryz.prog 29 [v,nilS] σ (fun r σ'=>σ.next≤σ'.low∧r=.tup [w0,vi 0]):=by
 refine VC_body XF29 ?_
 (repeat' (first | simp (decide:=true) only [↓wsD,wsU,List.map_cons,List.map_nil,ne_eq,List.length_cons,List.length_nil,Nat.zero_add,Nat.reduceAdd,List.map_cons,List.map_nil,xf29,nilS,w0]))
 refine VW_loopR 0 (fun k fe Z=>fe 4=.ptr σ.next 0∧fe 11=vi 0∧fe 12=vi 0∧σ.next≤Z.low∧Z.heap σ.next=.cells [vi 0,vi 0,vi 0,.v (.slice none 0 0),.v (.slice none 0 0)] 65 5 σ.next) (fun fe Z=>fe 4=.ptr σ.next 0∧σ.next≤Z.low∧Z.heap σ.next=.cells [vi 0,vi 0,vi 0,.v (.slice none 0 0),.v (.slice none 0 0)] 65 5 σ.next) 0 ?_ ?_ ?_
 ·(repeat' (first | simp (decide:=true) only [↓wsD,wsU,ne_eq,wmU,↓reduceIte,and_self,Nat.le_refl,eq_self]))
 ·rintro k fe Z ⟨f4,f11,f12,lo,hz⟩
  (repeat' (first | simp (decide:=true) only [↓wsD,wsU,ne_eq,true_and,eq_self,decide_false,f4,f11,f12]))
  exact ⟨lo,hz⟩
 ·rintro fe Z ⟨f4,lo,hz⟩
  (repeat' (first | simp (decide:=true) only [↓wsD,wsU,Option.bind_some,List.map_cons,List.map_nil,ne_eq,List.append_nil,List.nil_append,wmU,↓reduceIte,List.length_cons,List.length_nil,List.drop_zero,List.drop_succ_cons,List.take_succ_cons,List.take_zero,Nat.zero_add,Nat.reduceAdd,and_true,wfU,vsplice,List.map_cons,List.map_nil,Nat.le_refl,List.append_nil,Nat.le_min,eq_self,f4,hz]))
  exact lo
def RunR (c:Cfg) (σ:VSt) (r:VV) (σ':VSt):Prop:=σ.next≤σ'.low∧if validC c then ∃ b idN idX,σ.next≤b∧r=.tup [nilS,.ptr (b+3) 0,vi 0]∧NewW σ' b idN idX c else r=.tup [nilS,.v (.pointer none),vi 20]
theorem run0 (c:Cfg) (hp:ProgsOK c) (σ:VSt):VC Tryz.prog 12 [.agg (VEnc.e c),e0,.fn 13 [] []] σ (RunR c σ):=by
 refine VC_body XF12 ?_
 (repeat' (first | simp (decide:=true) only [↓wsD,wsU,List.map_cons,List.map_nil,ne_eq,wmU,↓reduceIte,Nat.left_eq_add,List.length_cons,List.length_nil,List.drop_zero,List.take_succ_cons,List.take_zero,Nat.zero_add,Nat.reduceAdd,encU,List.map_cons,List.map_nil,Nat.le_refl,eq_self,xf12,e0]))
 refine VCall_at (fun A hA=>?_)
 have z1:A.heap (σ.next+1)=.cells [vl ([]:List Int),vl ([]:List Int)] 36 2 (σ.next+1):=by rw [hA];simp (decide:=true) only [wsU,wmU,↓reduceIte,eq_self]
 have zl:A.low=σ.next:=by rw [hA];simp (decide:=true) only [wsU,eq_self]
 have zn:A.next=σ.next+2:=by rw [hA];simp (decide:=true) only [wsU,Nat.add_assoc,Nat.reduceAdd,eq_self]
 clear hA
 refine VCall.any (new_raw c hp A) ?_
 rintro v B ⟨hlo,hv⟩ hn hkp
 have y1:(A.join B).heap (σ.next+1)=.cells [vl ([]:List Int),vl ([]:List Int)] 36 2 (σ.next+1):=(hkp _ (by omega) (by omega)).1.trans z1
 have yl:(A.join B).low=σ.next:=by show min A.low B.low=_;omega
 have yn:A.next≤(A.join B).next:=hn
 unfold RunR
 cases hvc:validC c
 ·rw [hvc,if_neg (by decide)] at hv
  subst hv
  generalize A.join B=C at y1 yl yn ⊢
  (repeat' (first | simp (decide:=true) only [↓wsD,wsU,Option.bind_some,ne_eq,↓reduceIte,true_and,and_true,Nat.le_refl,VV.tup.injEq,List.cons.injEq,eq_self,decide_true,yl]))
  rfl
 ·rw [hvc,if_pos rfl] at hv
  obtain ⟨b,idN,idX,hb,rfl,hW⟩:=hv
  have hW':NewW (A.join B) b idN idX c:=hW.keep (Nat.le_refl _) (fun _ _=>rfl)
  generalize A.join B=C at y1 yl yn hW' ⊢
  (repeat' (first | simp (decide:=true) only [↓wsD,wsU,ne_eq,Nat.add_zero,↓reduceIte,List.length_nil,List.drop_zero,List.take_succ_cons,List.take_zero,decide_false,y1]))
  refine VW_loopR 0 (fun m fe Z=>fe 9=.ptr (b+3) 0∧fe 11=nilS∧fe 26=vi 0∧fe 27=vi 0∧σ.next≤Z.low∧NewW Z b idN idX c)
   (fun fe Z=>fe 9=.ptr (b+3) 0∧fe 11=nilS∧σ.next≤Z.low∧NewW Z b idN idX c) 0 ?_ ?_ ?_
  ·(repeat' (first | simp (decide:=true) only [↓wsD,ne_eq,true_and,Nat.le_refl,VV.v.injEq,Value.int.injEq,eq_self,true_and,yl]))
   exact ⟨rfl,hW'⟩
  ·rintro m fe Z ⟨f9,f11,f26,f27,lo,hZ⟩
   (repeat' (first | simp (decide:=true) only [↓wsD,wsU,ne_eq,true_and,eq_self,decide_false,f9,f11,f26,f27]))
   exact ⟨lo,hZ⟩
  ·rintro fe Z ⟨f9,f11,lo,hZ⟩
   (repeat' (first | simp (decide:=true) only [↓wsD,wsU,Option.bind_some,ne_eq,↓reduceIte,true_and,and_true,VV.tup.injEq,List.cons.injEq,eq_self,f9,f11]))
   exact ⟨lo,b,idN,idX,by omega,rfl,hZ⟩
theorem lenient0 (c:Cfg) (hp:ProgsOK c) (σ:VSt):VC Tryz.prog 5 [.agg (VEnc.e c),e0] σ (RunR c σ):=by
 refine VC_body XF5 ?_
 (repeat' (first | simp (decide:=true) only [↓wsD,wsU,List.map_cons,List.map_nil,ne_eq,wmU,↓reduceIte,Nat.left_eq_add,List.length_cons,List.length_nil,List.drop_zero,List.take_succ_cons,List.take_zero,Nat.zero_add,Nat.reduceAdd,encU,List.map_cons,List.map_nil,Nat.le_refl,eq_self,xf5,e0]))
 refine VCall_at (fun A hA=>?_)
 have zl:A.low=σ.next:=by rw [hA];simp (decide:=true) only [wsU,eq_self]
 have zn:A.next=σ.next+2:=by rw [hA];simp (decide:=true) only [wsU,Nat.add_assoc,Nat.reduceAdd,eq_self]
 clear hA
 refine VCall.any (run0 c hp A) ?_
 rintro v B ⟨hlo,hv⟩ hn hkp
 have yl:σ.next≤(A.join B).low:=by show σ.next≤min A.low B.low;omega
 unfold RunR
 cases hvc:validC c
 ·rw [hvc,if_neg (by decide)] at hv
  subst hv
  (repeat' (first | simp (decide:=true) only [↓wsD,wsU,Option.bind_some,ne_eq,↓reduceIte,and_true,eq_self]))
  exact yl
 ·rw [hvc,if_pos rfl] at hv
  obtain ⟨b,idN,idX,hb,rfl,hW⟩:=hv
  have hW':NewW (A.join B) b idN idX c:=hW.keep (Nat.le_refl _) (fun _ _=>rfl)
  (repeat' (first | simp (decide:=true) only [↓wsD,wsU,Option.bind_some,ne_eq,↓reduceIte,true_and,and_true,VV.tup.injEq,List.cons.injEq,eq_self]))
  exact ⟨yl,b,idN,idX,by omega,rfl,hW'⟩
theorem judge0 (c:Cfg) (hp:ProgsOK c) (k:Nat) (ev:VV) (σ:VSt) (hk:k < σ.next) {t:TypeId} {q:Nat} (hg:σ.heap k=.cells [nilS,ev] t 2 q):VC Tryz.prog 16 [.ptr k 0,.agg (VEnc.e c),e0] σ (fun r σ'=>σ.next≤σ'.low∧r=.tup [nilS,w0,vi (if validC c then 0 else 20),vi 0]):=by
 refine VC_body XF16 ?_
 have n0:(k=σ.next)=False:=eq_false (by omega)
 have n1:∀ x,(k=σ.next+x)=False:=fun x=>eq_false (by omega)
 (repeat' (first | simp (decide:=true) only [↓wsD,wsU,List.map_cons,List.map_nil,ne_eq,wmU,↓reduceIte,Nat.left_eq_add,Nat.add_right_cancel_iff,List.length_cons,List.length_nil,List.drop_zero,List.take_succ_cons,List.take_zero,Nat.zero_add,Nat.add_assoc,Nat.reduceAdd,encU,List.map_cons,List.map_nil,Nat.le_refl,eq_self,xf16,e0]))
 refine VCall_at (fun A hA=>?_)
 have z2:A.heap (σ.next+2)=.cells [vi 0,vi 0,vi 0,.v (.slice none 0 0),.v (.slice none 0 0)] 65 5 (σ.next+2):=by rw [hA];simp (decide:=true) only [wsU,wmU,↓reduceIte,Nat.add_assoc,Nat.reduceAdd,eq_self]
 have zk:A.heap k=.cells [nilS,ev] t 2 q:=by rw [hA];simp (decide:=true) only [wsU,wmU,↓reduceIte,Nat.add_assoc,Nat.reduceAdd,eq_self,n0,n1,hg]
 have zl:A.low=σ.next:=by rw [hA];simp (decide:=true) only [wsU,eq_self]
 have zn:A.next=σ.next+3:=by rw [hA];simp (decide:=true) only [wsU,Nat.add_assoc,Nat.reduceAdd,eq_self]
 clear hA
 refine VCall.any (lenient0 c hp A) ?_
 rintro v B ⟨hlo,hv⟩ hn hkp
 have y2:(A.join B).heap (σ.next+2)=.cells [vi 0,vi 0,vi 0,.v (.slice none 0 0),.v (.slice none 0 0)] 65 5 (σ.next+2):=(hkp _ (by omega) (by omega)).1.trans z2
 have yk:(A.join B).heap k=.cells [nilS,ev] t 2 q:=(hkp _ (by omega) (by omega)).1.trans zk
 have yl:(A.join B).low=σ.next:=by show min A.low B.low=_;omega
 have yn:A.next≤(A.join B).next:=hn
 cases hvc:validC c
 ·rw [hvc,if_neg (by decide)] at hv
  subst hv
  generalize A.join B=C at y2 yk yl yn ⊢
  (repeat' (first | simp (decide:=true) only [↓wsD,wsU,Option.bind_some,List.map_cons,List.map_nil,ne_eq,List.append_nil,List.nil_append,wmU,↓reduceIte,List.length_cons,List.length_nil,List.drop_zero,List.drop_succ_cons,List.take_succ_cons,List.take_zero,Nat.zero_add,Nat.reduceAdd,true_and,and_true,and_self,wfU,vsplice,List.map_cons,List.map_nil,Nat.le_refl,VV.tup.injEq,List.cons.injEq,List.append_nil,Nat.le_min,Nat.le_add_right,eq_self,decide_true,y2,yl]))
  exact ⟨rfl,rfl⟩
 ·rw [hvc,if_pos rfl] at hv
  obtain ⟨b,idN,idX,hb,rfl,hW⟩:=hv
  generalize A.join B=C at y2 yk yl yn ⊢
  have m2:∀ x,(σ.next+2=C.next+x)=False:=fun x=>eq_false (by omega)
  (repeat' (first | simp (decide:=true) only [↓wsD,wsU,List.zip_cons_cons,List.zip_nil_left,Option.bind_some,List.map_cons,List.map_nil,ne_eq,List.append_nil,List.nil_append,Nat.add_zero,wmU,↓reduceIte,List.length_cons,List.length_nil,List.drop_zero,List.drop_succ_cons,List.take_succ_cons,List.take_zero,Nat.zero_add,Nat.add_assoc,Nat.reduceAdd,Nat.reduceLeDiff,true_and,and_true,vsplice,List.map_cons,List.map_nil,Nat.le_refl,List.append_nil,Nat.le_min,Nat.le_add_right,eq_self,decide_false,y2,yk,yl,m2,w0] | ((with_reducible apply VCall.goX);(first | exact first_nil _ _);intro gn)))
  all_goals omega
end
end Go.Proofs.YtiinecnjokaejaaGreatDoor

set_option linter.unusedSimpArgs false
set_option linter.unusedSectionVars false
set_option linter.unusedVariables false
namespace Go.Proofs.YtiinecnjokaejaaGreatDoor
open Go Go.RowKit
class KeyOK [Prim Tryz.prog]:Prop where
 key:∀ σ,VC Tryz.prog 17 [.v (.slice none 0 0)] σ (fun r σ'=>σ.next≤σ'.low∧r=.v (.int .u64 K0))
 tapeOf:∀ σ,VC Tryz.prog 20 [.v (.slice none 0 0)] σ (fun r σ'=>σ.next≤σ'.low∧r=.agg [.v (.slice none 0 0),.v (.slice none 0 0)])
theorem takeEnt (x:Ent):(VEnc.e x).take 8=VEnc.e x:=rfl
theorem eqK:vbin .eql (.v (.int .u64 K0)) (.v (.int .u64 K0))=some (vb true):=by simp [vbin,xbin,xbinI]
section
variable [Prim Tryz.prog] [SrcOK] [KeyOK]
theorem add1 (x:Ent) (id:Nat) (σ:VSt) (hi:id < σ.next) {t:TypeId} {q:Nat} (hg:σ.heap id=.cells [.v (.int .u64 K0)] t 1 q):VC Tryz.prog 19 [.agg (VEnc.e x),.ptr id 0] σ (fun r σ'=>σ.next≤σ'.low∧r=vb true):=by
 refine VC_body XF19 ?_
 have n0:(id=σ.next)=False:=eq_false (by omega)
 (repeat' (first | simp (decide:=true) only [↓wsD,wsU,ne_eq,wmU,↓reduceIte,List.length_cons,List.length_nil,List.drop_zero,List.drop_succ_cons,List.take_succ_cons,List.take_zero,Nat.zero_add,Nat.reduceAdd,and_self,Nat.le_refl,eq_self,xf19,eEnt,hg,n0,eqK]))
theorem index0 (l:List Ent) (hl:l.length≤10) (id:Nat) (σ:VSt) (hi:id < σ.next) {t:TypeId} {q:Nat} (hg:σ.heap id=.cells [.v (.int .u64 K0)] t 1 q):VC Tryz.prog 33 [vl l,.fn 19 [] [.ptr id 0]] σ (fun r σ'=>σ.next≤σ'.low∧r=vi (if l.isEmpty then -1 else 0)):=by
 refine VC_body XF33 ?_
 (repeat' (first | simp (decide:=true) only [↓wsD,wsU,ne_eq,xf33]))
 refine VW_loopR 0 (fun k fe Z=>fe 0=vl l∧fe 1=.fn 19 [] [.ptr id 0]∧fe 7=vi l.length∧fe 8=vi 0∧σ.next≤Z.low∧σ.next≤Z.next∧Z.heap id=.cells [.v (.int .u64 K0)] t 1 q)
  (fun fe Z=>l.isEmpty=true∧σ.next≤Z.low) 0 ?_ ?_ ?_
 ·(repeat' (first | simp (decide:=true) only [↓wsD,wsU,ne_eq,wmU,true_and,Nat.le_refl,eq_self,true_and]))
  exact hg
 ·rintro m fe Z ⟨f0,f1,f7,f8,lo,hn,hz⟩
  rcases (show l.length=0∨0 < l.length by omega) with h | h
  ·have he:l.isEmpty=true:=by rw [List.isEmpty_iff];exact List.eq_nil_of_length_eq_zero h
   (repeat' (first | simp (decide:=true) only [↓wsD,wsU,true_and,eq_self,decide_false,f7,f8,h,he]))
   exact lo
  ·have he:l.isEmpty=false:=by cases l with | nil=>simp at h | cons x r=>rfl
   (repeat' (first | simp (decide:=true) only [↓wsD,wsU,List.map_cons,List.map_nil,ne_eq,List.nil_append,List.cons_append,↓reduceIte,List.drop_zero,and_true,List.map_cons,List.map_nil,Int.toNat_zero,eq_self,f0,f1,f7,f8,he,takeEnt,Bool.false_eq_true] | ((with_reducible apply VCall.goX);(first | exact add1 _ id _ (by omega) hz);intro gn) | ((with_reducible refine TestV_decE (fun _ gd=>?_) (fun _ gd=>?_))<;>(try rw [gd])) | ((with_reducible refine Got_viaI ?_ ?_ ?_ ?_);(omega);(omega);(rfl)) | ((with_reducible refine Got_vld ?_ ?_ ?_);(omega);(decide))))
   ·exact lo
   ·exfalso;omega
 ·rintro fe Z ⟨he,lo⟩
  (repeat' (first | simp (decide:=true) only [↓wsD,wsU,↓reduceIte,and_true,eq_self,he]))
  exact lo
theorem contains0 (l:List Ent) (hl:l.length≤10) (id:Nat) (σ:VSt) (hi:id < σ.next) {t:TypeId} {q:Nat} (hg:σ.heap id=.cells [.v (.int .u64 K0)] t 1 q):VC Tryz.prog 18 [vl l,.fn 19 [] [.ptr id 0]] σ (fun r σ'=>σ.next≤σ'.low∧r=vb (!l.isEmpty)):=by
 refine VC_body XF18 ?_
 cases he:l.isEmpty
 ·have h:=fun σ hi hg=>index0 l hl id σ hi (t:=t) (q:=q) hg
  rw [he] at h
  (repeat' (first | simp (decide:=true) only [↓wsD,wsU,List.map_cons,List.map_nil,ne_eq,Bool.not_false,↓reduceIte,and_self,List.map_cons,List.map_nil,Nat.le_refl,eq_self,decide_true,xf18] | ((with_reducible apply VCall.goX);(first | exact h _ hi hg);intro gn)))
 ·have h:=fun σ hi hg=>index0 l hl id σ hi (t:=t) (q:=q) hg
  rw [he] at h
  (repeat' (first | simp (decide:=true) only [↓wsD,wsU,List.map_cons,List.map_nil,ne_eq,Bool.not_true,↓reduceIte,and_self,List.map_cons,List.map_nil,Nat.le_refl,eq_self,decide_false,xf18] | ((with_reducible apply VCall.goX);(first | exact h _ hi hg);intro gn)))
def AddR (c:Cfg) (k:Nat) (l:List Ent) (σ:VSt) (r:VV) (σ':VSt):Prop:=k≤σ'.low∧r=.tup [vb (validC c && l.isEmpty),vi (if validC c then 0 else 20)]∧σ.next≤σ'.next∧∃ ev' q,σ'.heap k=.cells [nilS,ev'] 59 2 q∧k≤q∧App σ' k ev' (if validC c then [⟨⟩] else l)∧∀ j,j < σ.next→j≠k→σ'.heap j=σ.heap j
theorem add0 (c:Cfg) (hp:ProgsOK c) (k:Nat) (ev:VV) (l:List Ent) (hl:l=[]∨l=[⟨⟩]) (σ:VSt) (hk:k < σ.next) {q:Nat} (hq:k≤q) (hg:σ.heap k=.cells [nilS,ev] 59 2 q) (ha:App σ k ev l):VC Tryz.prog 7 [.ptr k 0,.agg (VEnc.e c),e0] σ (AddR c k l σ):=by
 refine VC_body XF7 ?_
 have n0:(k=σ.next)=False:=eq_false (by omega)
 have n1:∀ x,(k=σ.next+x)=False:=fun x=>eq_false (by omega)
 have hl10:l.length≤10:=by rcases hl with rfl | rfl<;>simp
 (repeat' (first | simp (decide:=true) only [↓wsD,wsU,List.map_cons,List.map_nil,ne_eq,wmU,↓reduceIte,Nat.left_eq_add,List.length_cons,List.length_nil,List.drop_zero,List.take_succ_cons,List.take_zero,Nat.zero_add,Nat.reduceAdd,encU,List.map_cons,List.map_nil,Nat.le_refl,eq_self,xf7,e0]))
 refine VCall_at (fun A hA=>?_)
 have zk:A.heap k=.cells [nilS,ev] 59 2 q:=by rw [hA];simp (decide:=true) only [wsU,wmU,↓reduceIte,eq_self,n0,n1,hg]
 have zl:A.low=σ.next:=by rw [hA];simp (decide:=true) only [wsU,eq_self]
 have zn:A.next=σ.next+2:=by rw [hA];simp (decide:=true) only [wsU,Nat.add_assoc,Nat.reduceAdd,eq_self]
 have zj:∀ j,j < σ.next→A.heap j=σ.heap j:=fun j hj=>by
  have q0:(j=σ.next)=False:=eq_false (by omega)
  have q1:∀ x,(j=σ.next+x)=False:=fun x=>eq_false (by omega)
  rw [hA];simp (decide:=true) only [wsU,wmU,↓reduceIte,eq_self,q0,q1]
 have za:App A k ev l:=by rw [hA];exact (ha.skip 0).keep (by simp only [next_skip,next_box,next_fresh];omega) (fun t ht _=>rfl)
 clear hA
 have hj:=judge0 c hp k ev A (by omega) zk
 unfold AddR
 cases hvc:validC c
 ·rw [hvc] at hj
  (repeat' (first | simp (decide:=true) only [↓wsD,wsU,Bool.false_and,Option.bind_some,List.map_cons,List.map_nil,ne_eq,List.append_nil,List.nil_append,wmU,↓reduceIte,List.length_cons,List.length_nil,List.drop_zero,List.drop_succ_cons,List.take_zero,Nat.zero_add,Nat.add_assoc,Nat.reduceAdd,true_and,vsplice,List.map_cons,List.map_nil,List.append_nil,Nat.le_min,Nat.le_add_right,eq_self,decide_true,zk,zl,zn,w0,n1] | ((with_reducible apply VCall.goX);(first | exact hj);intro gn)))
  exact ⟨by omega,ev,q,rfl,hq,za.keep (by simp only [next_skip,next_box,next_write];omega) (fun _ _ _=>rfl),fun j hj hne=>by
   have q1:∀ x,(j=σ.next+x)=False:=fun x=>eq_false (by omega)
   simp (decide:=true) only [↓reduceIte,eq_self,q1,zj j hj]⟩
 ·rw [hvc] at hj
  (repeat' (first | simp (decide:=true) only [↓wsD,wsU,List.map_cons,List.map_nil,ne_eq,List.append_nil,List.nil_append,wmU,↓reduceIte,List.length_cons,List.length_nil,List.drop_zero,List.drop_succ_cons,List.take_succ_cons,List.take_zero,Nat.zero_add,Nat.add_assoc,Nat.reduceAdd,vsplice,List.map_cons,List.map_nil,Nat.le_refl,List.append_nil,eq_self,decide_false,zk,zn,w0,n1] | ((with_reducible apply VCall.goX);(first | exact hj | exact KeyOK.key _);intro gn)))
  refine VCall_at (fun B hB=>?_)
  rename_i g1
  have y0:B.heap (σ.next+(2+g1))=.cells [vi 0,vi 0,vi 0,.v (.slice none 0 0),.v (.slice none 0 0)] 65 5 (σ.next+(2+g1)):=by rw [hB];simp (decide:=true) only [wsU,wmU,↓reduceIte,Nat.left_eq_add,Nat.add_left_cancel_iff,Nat.add_assoc,eq_self,nfU,zn]
  have y1:B.heap (σ.next+(2+(g1+(1+gn))))=.cells [.v (.int .u64 K0)] 68 1 (σ.next+(2+(g1+(1+gn)))):=by rw [hB];simp (decide:=true) only [wmU,↓reduceIte,eq_self]
  have yk:B.heap k=.cells [nilS,ev] 59 2 q:=by rw [hB];simp (decide:=true) only [wsU,wmU,↓reduceIte,Nat.add_assoc,eq_self,zn,zk,n1]
  have yl:B.low=σ.next:=by rw [hB];simp (decide:=true) only [wsU,zl];try omega
  have yn:B.next=σ.next+(2+(g1+(1+gn)))+1:=by rw [hB];simp (decide:=true) only [wsU,Nat.add_assoc,eq_self,zn];try omega
  have yj:∀ j,j < σ.next→B.heap j=σ.heap j:=fun j hj=>by
   have q0:(j=σ.next)=False:=eq_false (by omega)
   have q1:∀ x,(j=σ.next+x)=False:=fun x=>eq_false (by omega)
   rw [hB];simp (decide:=true) only [wsU,wmU,↓reduceIte,Nat.add_assoc,eq_self,q1,zn,zj j hj]
  have ya:App B k ev l:=by rw [hB];exact za.keep (by simp only [next_skip,next_box,next_write];omega) (fun t ht _=>rfl)
  clear hB
  have hfg:=ya.fg
  refine VCall.goY (args2:=[vl l,.fn 19 [] [.ptr (σ.next+(2+(g1+(1+gn)))) 0]]) ⟨.inr hfg.symm,.inl rfl,trivial⟩ (contains0 l hl10 _ B (by omega) y1) ?_
  intro g3
  rcases hl with rfl | rfl
  ·simp only [List.isEmpty_nil,Bool.not_true]
   have hlt:∀ x,(0 < 1+x)=True:=fun x=>eq_true (by omega)
   (repeat' (first | simp (decide:=true) only [↓wsD,wsU,List.zip_cons_cons,List.zip_nil_left,allOld_any,keepsOld,Bool.and_true,Option.bind_some,List.map_cons,List.map_nil,ne_eq,List.append_nil,List.nil_append,List.cons_append,↓reduceIte,List.length_cons,List.length_nil,List.drop_zero,List.drop_succ_cons,List.take_succ_cons,List.take_zero,Nat.zero_add,Nat.add_assoc,Nat.reduceAdd,Nat.lt_add_right_iff_pos,Nat.add_lt_add_iff_left,true_and,wfU,vsplice,List.map_cons,List.map_nil,Nat.le_refl,List.append_nil,eq_self,y0,y1,yk,yn,hlt] | ((with_reducible apply VCall.goX);(first | exact KeyOK.tapeOf _);intro gn) | ((with_reducible apply VBuild.enc [(⟨⟩:Ent)]);(exact rfl);(simp (decide:=true) only [wsU,List.map_cons,List.map_nil,List.append_nil,List.nil_append,↓reduceIte,List.length_cons,List.length_nil,List.drop_zero,List.drop_succ_cons,List.take_zero,Nat.zero_add,Nat.reduceAdd,wfU,vsplice,rep,List.replicate_succ,List.replicate_zero,List.flatten_cons,List.flatten_nil];exact rfl);(exact rfl);(exact rfl);(exact rfl);((try simp only [List.map_cons,List.map_nil,fg_int,fg_nilS]);exact rfl))))
   refine VAppend.app1 (α:=Ent) (b:=k) (l:=[]) (m:=[⟨⟩]) (by simp) (ya.keep (by simp only [next_skip,next_newTok];omega) (fun t ht _=>by simp only [VSt.newTok];rw [if_neg (by simp only [next_skip];omega)];rfl)) (vcont_vo _ _ _ rfl) rfl (by unfold reach;simp) (by decide) (by simp only [next_skip,next_newTok];omega) (fun t n lo lv ga g4 g5 g6=>?_)
   (repeat' (first | simp (decide:=true) only [↓wsD,wsU,ne_eq,List.append_nil,List.nil_append,List.cons_append,wmU,↓reduceIte,List.length_cons,List.length_nil,List.drop_zero,List.drop_succ_cons,List.take_succ_cons,List.take_zero,Nat.zero_add,Nat.add_assoc,Nat.reduceAdd,true_and,and_self,vsplice,Nat.le_refl,List.append_nil,Nat.le_min,Nat.le_add_right,eq_self,yk,yn]))
   simp only [low_skip,low_newTok] at g4 g5
   exact ⟨⟨by omega,hq⟩,_,q,rfl,hq,ga.write _ _ _ _ _,fun j hj hne=>by
    have q1:(j=k)=False:=eq_false hne
    simp (decide:=true) only [↓reduceIte,eq_self,q1,yj j hj]⟩
  ·simp only [List.isEmpty_cons,Bool.not_false]
   (repeat' (first | simp (decide:=true) only [↓wsD,wsU,Bool.and_false,Option.bind_some,ne_eq,↓reduceIte,Nat.add_assoc,true_and,Nat.le_add_right,eq_self,yk,yl,yn]))
   exact ⟨by omega,ev,q,rfl,hq,ya.skip _,fun j hj hne=>yj j hj⟩
end
end Go.Proofs.YtiinecnjokaejaaGreatDoor

set_option linter.unusedSimpArgs false
set_option linter.unusedSectionVars false
set_option linter.unusedVariables false
namespace Go.Proofs.YtiinecnjokaejaaGreatDoor
open Go Go.RowKit
structure Edg where
 a:Int
 b:Int
 c:Int
instance encEdg:VEnc Edg:=⟨3,fun x=>[vi x.a,vi x.b,vi x.c],fun _=>rfl,fun _=>rfl,fun _=>by simp only [List.map_cons,List.map_nil,fg_int],by decide⟩
structure Chq where
 a:Int
section
variable [Prim Tryz.prog] [SrcOK] [KeyOK]
theorem cloneEdg_app (l:List Edg) (hl:l.length≤100000) (σ:VSt):VC Tryz.prog 36 [vl l] σ (fun r σ'=>σ.next≤σ'.low∧App σ' σ.next r l):=by
 refine VC_body XF36 ?_
 (repeat' (first | simp (decide:=true) only [↓wsD,wsU,ne_eq,xf36]))
 refine VEqs.lst (fun h=>by rw [List.eq_nil_of_length_eq_zero h];rfl) (fun h=>?_) ?_
 ·(repeat' (first | simp (decide:=true) only [↓wsD,wsU,true_and,Nat.le_refl]))
  rw [List.eq_nil_of_length_eq_zero h]
  exact .nil _ _
 ·(repeat' (first | simp (decide:=true) only [↓wsD,wsU,List.map_nil,ne_eq,List.nil_append,List.map_nil] | ((with_reducible apply VBuild.enc ([]:List (Edg)));(exact rfl);(simp (decide:=true) only [List.map_nil,wfU,rep,List.replicate_zero,List.flatten_nil];exact rfl);(exact rfl);(exact rfl);(exact rfl);((try simp only [List.map_nil]);exact rfl)) | ((with_reducible apply VAppend.appO (α:=Edg) (b:=σ.next));(first | assumption | exact App.nil _ _ | exact App.new (by first | omega | (simp only [next_fresh];omega)) | ((repeat (first | (with_reducible refine App.newE ?_ ?_<;>(simp only [low_skip,low_box,low_write,low_newTok,low_fresh,low_pu,next_skip,next_box,next_write,next_newTok,next_fresh,next_pu];omega)) | with_reducible apply App.skip | with_reducible apply App.box | with_reducible apply App.newTok | with_reducible apply App.write | with_reducible apply App.alloc));(try (first | assumption | exact App.new (by first | omega | (simp only [low_skip,low_box,low_write,low_newTok,low_fresh,low_pu,next_skip,next_box,next_write,next_newTok,next_fresh,next_pu];omega)) | exact App.newE (by (simp only [low_skip,low_box,low_write,low_newTok,low_fresh,low_pu,next_skip,next_box,next_write,next_newTok,next_fresh,next_pu]);omega) (by first | omega | (simp only [low_skip,low_box,low_write,low_newTok,low_fresh,low_pu,next_skip,next_box,next_write,next_newTok,next_fresh,next_pu];omega)) | exact App.weak (by assumption) (by first | omega | (simp only [low_skip,low_box,low_write,low_newTok,low_fresh,low_pu,next_skip,next_box,next_write,next_newTok,next_fresh,next_pu];omega))))));(first | exact vcont_vo _ _ _ rfl | exact vcont_vl _ _ rfl | exact App.cont (by assumption) _ rfl | exact Rd.cont (by assumption) _ rfl);(exact rfl);(unfold reach;(try simp only [List.length_nil]);omega);decide;(first | omega | (simp only [next_newTok,next_fresh];omega));intro gt gn glo glv ga g1 g2 g3;try simp only [low_newTok,low_fresh] at g1 g2)))
  exact ⟨by omega,by simpa using ga⟩
theorem cloneEdg_any (l:List Edg) (hl:l.length≤100000):VD Tryz.prog 36 [vl l] (vl l):=VD.of_app (cloneEdg_app l hl)
theorem cloneChk_nil (σ:VSt):VC Tryz.prog 14 [.v (.slice none 0 0)] σ (fun r σ'=>σ.next≤σ'.low∧r=.v (.slice none 0 0)):=by
 refine VC_body XF14 ?_
 (repeat' (first | simp (decide:=true) only [↓wsD,wsU,ne_eq,and_self,Nat.le_refl,eq_self,xf14]))
theorem new0 (σ:VSt):VC Tryz.prog 6 [.v (.slice none 0 0)] σ (fun r σ'=>σ.next≤σ'.low∧∃ k,σ.next≤k∧k < σ'.next∧r=.ptr k 0∧σ'.heap k=.cells [nilS,nilS] 59 2 k):=by
 refine VC_body XF6 ?_
 (repeat' (first | simp (decide:=true) only [↓wsD,wsU,List.map_cons,List.map_nil,ne_eq,List.nil_append,List.cons_append,Nat.add_zero,wmU,↓reduceIte,List.length_cons,List.length_nil,List.drop_zero,List.drop_succ_cons,List.take_succ_cons,List.take_zero,Nat.zero_add,Nat.reduceAdd,wfU,vsplice,List.map_cons,List.map_nil,eq_self,xf6] | ((with_reducible apply VCall.goX);(first | exact cloneChk_nil _);intro gn)))
 refine VW_loopR 0 (fun m fe Z=>fe 3=.ptr (σ.next+gn) 0∧fe 13=vi 0∧fe 14=vi 0∧σ.next≤Z.low∧σ.next+gn < Z.next∧Z.heap (σ.next+gn)=.cells [nilS,nilS] 59 2 (σ.next+gn)) (fun fe Z=>fe 3=.ptr (σ.next+gn) 0∧σ.next≤Z.low∧σ.next+gn < Z.next∧Z.heap (σ.next+gn)=.cells [nilS,nilS] 59 2 (σ.next+gn)) 0 ?_ ?_ ?_
 ·(repeat' (first | simp (decide:=true) only [↓wsD,wsU,ne_eq,wmU,↓reduceIte,Nat.add_assoc,Nat.add_lt_add_iff_left,Nat.lt_add_one,true_and,Nat.le_refl,eq_self,true_and]))
  rfl
 ·rintro m fe Z ⟨f3,f13,f14,lo,hn,hz⟩
  (repeat' (first | simp (decide:=true) only [↓wsD,wsU,ne_eq,true_and,eq_self,decide_false,f3,f13,f14]))
  exact ⟨lo,hn,hz⟩
 ·rintro fe Z ⟨f3,lo,hn,hz⟩
  (repeat' (first | simp (decide:=true) only [↓wsD,wsU,f3]))
  exact ⟨lo,_,by omega,hn,rfl,hz⟩
theorem same0 (σ:VSt):VC Tryz.prog 21 [w0,.agg [vi 0,vi 0,vi 0,vl ([]:List Int),vl ([]:List Int)]] σ (fun r σ'=>σ.next≤σ'.low∧r=vb true):=by
 refine VC_body XF21 ?_
 (repeat' (first | simp (decide:=true) only [↓wsD,wsU,ne_eq,Nat.add_zero,wmU,↓reduceIte,Nat.left_eq_add,List.length_cons,List.length_nil,List.drop_zero,List.drop_succ_cons,List.take_succ_cons,List.take_zero,Nat.zero_add,Nat.reduceAdd,and_self,Nat.le_refl,eq_self,decide_true,xf21,w0]))
theorem runC (c:Cfg) (hp:ProgsOK c) (k:Nat) (ev:VV) (l:List Ent) (hl:l.length≤10) (σ:VSt) (hk:k < σ.next) {q:Nat} (hg:σ.heap k=.cells [nilS,ev] 59 2 q) (ha:App σ k ev l):VC Tryz.prog 8 [.ptr k 0,.agg (VEnc.e c)] σ (fun r σ'=>σ.next≤σ'.low∧r=.tup [nilS,vi (if validC c || l.isEmpty then 0 else 20)]):=by
 refine VC_body XF8 ?_
 have n0:(k=σ.next)=False:=eq_false (by omega)
 have n1:∀ x,(k=σ.next+x)=False:=fun x=>eq_false (by omega)
 have hla:=ha.len
 (repeat' (first | simp (decide:=true) only [↓wsD,wsU,ne_eq,wmU,↓reduceIte,List.length_cons,List.length_nil,List.drop_zero,List.drop_succ_cons,List.take_succ_cons,List.take_zero,Nat.zero_add,Nat.reduceAdd,encU,Nat.le_refl,eq_self,xf8,hg,n0,hla]))
 refine VW_loopR 0 (fun m fe Z=>fe 0=.ptr k 0∧fe 3=.ptr σ.next 0∧fe 6=nilS∧fe 16=ev∧fe 17=vi l.length∧σ.next≤Z.low∧σ.next < Z.next∧Z.heap k=.cells [nilS,ev] 59 2 q∧Z.heap σ.next=.cells [vl c.programs,vl c.first,vl c.restarts,vl c.requests,vi c.crashes,vi c.drops,vi c.dups,vi c.drift] 26 8 σ.next∧∃ i:Nat,fe 18=vi i∧m+i=l.length∧(i=0∨validC c=true))
  (fun fe Z=>fe 6=nilS∧σ.next≤Z.low∧(validC c || l.isEmpty)=true) l.length ?_ ?_ ?_
 ·(repeat' (first | simp (decide:=true) only [↓wsD,wsU,ne_eq,wmU,↓reduceIte,Nat.add_eq_left,Nat.lt_add_one,true_and,Nat.le_refl,VV.v.injEq,Value.int.injEq,eq_self,true_and,hg,n0]))
  exact ⟨rfl,0,rfl,rfl,.inl rfl⟩
 ·rintro m fe Z ⟨f0,f3,f6,f16,f17,lo,hn,zk,z0,i,f18,hm,hi⟩
  have m0:(k=Z.next)=False:=eq_false (by omega)
  have m1:∀ x,(k=Z.next+x)=False:=fun x=>eq_false (by omega)
  have m2:(σ.next=Z.next)=False:=eq_false (by omega)
  have m3:∀ x,(σ.next=Z.next+x)=False:=fun x=>eq_false (by omega)
  rcases (show i < l.length∨i=l.length by omega) with h | h
  ·have hne:l.isEmpty=false:=by cases l with | nil=>simp at h | cons x r=>rfl
   (repeat' (first | simp (decide:=true) only [↓wsD,wsU,List.map_cons,List.map_nil,ne_eq,List.append_nil,List.nil_append,Nat.add_zero,wmU,↓reduceIte,List.length_cons,List.length_nil,List.drop_zero,List.drop_succ_cons,List.take_succ_cons,List.take_zero,Nat.zero_add,Nat.reduceAdd,true_and,vsplice,List.map_cons,List.map_nil,Nat.le_refl,List.append_nil,Int.toNat_natCast,eq_self,f0,f3,f6,f16,f17,f18,z0,m2,eEnt] | ((with_reducible refine TestV_decE (fun _ gd=>?_) (fun _ gd=>?_))<;>(try rw [gd])) | ((with_reducible refine Got_vld ?_ ?_ ?_);(omega);(decide)) | ((with_reducible apply Got_viaRI (α:=Ent));(first | (apply App.rd;assumption) | assumption);omega;omega;rfl)))
   ·refine VCall_at (fun A hA=>?_)
    have yk:A.heap k=.cells [nilS,ev] 59 2 q:=by rw [hA];simp (decide:=true) only [wmU,↓reduceIte,eq_self,m0,zk]
    have y0:A.heap σ.next=.cells [vl c.programs,vl c.first,vl c.restarts,vl c.requests,vi c.crashes,vi c.drops,vi c.dups,vi c.drift] 26 8 σ.next:=by rw [hA];simp (decide:=true) only [wmU,↓reduceIte,eq_self,m2,z0]
    have y1:A.heap Z.next=.cells [vl ([]:List Int),vl ([]:List Int),vi 0,vi 0,vi 0,vl ([]:List Int),vl ([]:List Int),.v (.int .u64 K0)] 72 8 Z.next:=by rw [hA];simp (decide:=true) only [wmU,↓reduceIte,eq_self]
    have yl:σ.next≤A.low:=by rw [hA];simp only [low_box,low_write];omega
    have yn:A.next=Z.next+1:=by rw [hA];simp (decide:=true) only [wsU,eq_self]
    clear hA
    have hj:=judge0 c hp k ev A (by omega) yk
    have p0:∀ x,(k=A.next+x)=False:=fun x=>eq_false (by omega)
    have p1:∀ x,(σ.next=A.next+x)=False:=fun x=>eq_false (by omega)
    have p2:∀ x,(Z.next=A.next+x)=False:=fun x=>eq_false (by omega)
    cases hvc:validC c
    ·rw [hvc] at hj hi
     (repeat' (first | simp (decide:=true) only [↓wsD,wsU,Option.bind_some,List.map_cons,List.map_nil,ne_eq,List.append_nil,List.nil_append,wmU,↓reduceIte,List.length_cons,List.length_nil,List.drop_zero,List.drop_succ_cons,List.take_zero,Nat.zero_add,Nat.reduceAdd,and_true,vsplice,List.map_cons,List.map_nil,VV.tup.injEq,List.cons.injEq,List.append_nil,Nat.le_min,Int.toNat_natCast,eq_self,decide_true,w0,hne] | ((with_reducible apply VCall.goX);(first | exact hj);intro gn)))
     exact ⟨⟨by omega,by omega⟩,rfl⟩
    ·rw [hvc] at hj
     (repeat' (first | simp (decide:=true) only [↓wsD,wsU,List.map_cons,List.map_nil,ne_eq,List.append_nil,List.nil_append,wmU,↓reduceIte,List.length_cons,List.length_nil,List.drop_zero,List.drop_succ_cons,List.take_succ_cons,List.take_zero,Nat.zero_add,Nat.reduceAdd,vsplice,List.map_cons,List.map_nil,List.append_nil,Int.toNat_natCast,eq_self,decide_false,y1,p2,w0] | ((with_reducible apply VCall.goX);(first | exact hj);intro gn)))
     refine VCall.goX (same0 _) (fun g2=>?_)
     (repeat' (first | simp (decide:=true) only [↓wsD,wsU,ne_eq,Bool.not_true,wmU,↓reduceIte,Nat.add_assoc,true_and,VV.v.injEq,Value.int.injEq,Nat.le_min,eq_self,f0,f3,f6,f16,f17,f18,yk,y0,p0,p1]))
     exact ⟨m - 1,by omega,⟨by omega,by omega⟩,by omega,i+1,w64_1' (by omega),by omega,.inr trivial⟩
   ·exfalso;omega
  ·(repeat' (first | simp (decide:=true) only [↓wsD,wsU,List.map_cons,List.map_nil,ne_eq,List.nil_append,wmU,↓reduceIte,List.length_cons,List.length_nil,List.drop_zero,List.take_zero,Nat.zero_add,Nat.reduceAdd,true_and,vsplice,List.map_cons,List.map_nil,Int.toNat_natCast,eq_self,f6,f16,f17,f18] | ((with_reducible refine TestV_decE (fun _ gd=>?_) (fun _ gd=>?_))<;>(try rw [gd])) | ((with_reducible refine Got_vld ?_ ?_ ?_);(omega);(decide)) | ((with_reducible apply Got_viaRI (α:=Ent));(first | (apply App.rd;assumption) | assumption);omega;omega;rfl)))
   ·exfalso;omega
   ·refine ⟨lo,?_⟩
    rcases hi with hi | hi
    ·rw [List.eq_nil_of_length_eq_zero (show l.length=0 by omega)];simp
    ·rw [hi];rfl
 ·rintro fe Z ⟨f6,lo,he⟩
  (repeat' (first | simp (decide:=true) only [↓wsD,wsU,Option.bind_some,ne_eq,true_and,and_true,VV.v.injEq,Value.int.injEq,VV.tup.injEq,List.cons.injEq,eq_self,f6]))
  exact ⟨lo,by rw [if_pos he]⟩
theorem mk0a (e:TypeId) (σ:VSt):vmk e 8 64 [.int .i64 0,.int .i64 0,.int .i64 0,.int .i64 0,.int .i64 0,.int .i64 0,.int .i64 0,.int .i64 0] (vi ((0:Nat):Int)) (vi ((0:Nat):Int)) σ=some (.slice σ.next 0 0 0,σ.box [] e 8):=by
 simp [vmk,flatL,flat1,rep,reach]
theorem mk0b (e:TypeId) (σ:VSt):vmk e 6 48 [.int .i64 0,.int .i64 0,.int .i64 0,.int .i64 0,.int .i64 0,.int .i64 0] (vi ((0:Nat):Int)) (vi ((0:Nat):Int)) σ=some (.slice σ.next 0 0 0,σ.box [] e 6):=by
 simp [vmk,flatL,flat1,rep,reach]
theorem cp0 (esz id:Nat) (σ:VSt):vcopy esz (.slice id 0 0 0) (vl ([]:List Int)) σ=some (vi 0,σ):=by
 show vcopy esz (.slice id 0 0 0) (.lst 0 []) σ=_
 simp [vcopy,vcont]
set_option maxHeartbeats 1000000 in
theorem own_raw0 (x:Ent) (σ:VSt):VC Tryz.prog 22 [.agg (VEnc.e x)] σ (fun r σ'=>σ.next≤σ'.low∧∃ i j t t' z z' q q',σ.next≤i∧σ.next≤j∧i≠j∧σ'.heap i=.cells [] t z q∧σ'.heap j=.cells [] t' z' q'∧r=.agg [.slice i 0 0 0,.slice j 0 0 0,vi 0,vi 0,vi 0,vl ([]:List Int),vl ([]:List Int),.v (.int .u64 K0)]):=by
 refine VC_body XF22 ?_
 (repeat' (first | simp (decide:=true) only [↓wsD,wsU,List.zip_cons_cons,List.zip_nil_left,allOld_any,keepsOld,Bool.and_true,List.map_cons,List.map_nil,ne_eq,List.append_nil,List.nil_append,List.cons_append,Nat.add_zero,wmU,↓reduceIte,Nat.left_eq_add,Nat.add_eq_left,Nat.add_right_cancel_iff,List.length_cons,List.length_nil,List.drop_zero,List.drop_succ_cons,List.take_succ_cons,List.take_zero,Nat.zero_add,Nat.add_assoc,Nat.reduceAdd,Nat.reduceLeDiff,Nat.lt_add_right_iff_pos,true_and,and_true,and_self,wfU,vsplice,List.map_cons,List.map_nil,Nat.le_refl,VV.agg.injEq,List.cons.injEq,List.append_nil,Nat.le_min,Nat.le_add_right,eq_self,xf22,eEnt,mk0a,mk0b,cp0] | ((with_reducible apply VCall.goF);((try simp only [List.map_cons,List.map_nil,fg_vl]);exact rfl);(first | exact cloneInt_any [] (by simp) | exact cloneEdg_any [] (by simp));intro gn)))
 refine ⟨σ.next+2,σ.next+3,92,111,8,6,σ.next+2,σ.next+3,by omega,by omega,by omega,?_,?_,rfl,rfl,rfl⟩
 ·simp (decide:=true) only [↓reduceIte,Nat.left_eq_add,Nat.add_eq_left,Nat.add_right_cancel_iff,Nat.add_left_cancel_iff,eq_self]
 ·simp (decide:=true) only [↓reduceIte,Nat.add_eq_left,Nat.add_left_cancel_iff,eq_self]
theorem fzAgg (id z:Nat) (cs:List VV) (xs:List VV):fzV id z cs (.agg xs)=.agg (xs.map (fzV id z cs)):=by rw [fzV]
theorem fzVv (id z:Nat) (cs:List VV) (x:Value):fzV id z cs (.v x)=.v x:=by rw [fzV]
theorem fzVl {α:Type} [VEnc α] (id z:Nat) (cs:List VV) (l:List α):fzV id z cs (vl l)=vl l:=by unfold vl;rw [fzV]
theorem fzL (id z n:Nat) (cs xs:List VV):fzV id z cs (.lst n xs)=.lst n xs:=by rw [fzV]
theorem own0 (x:Ent) (σ:VSt):VC Tryz.prog 22 [.agg (VEnc.e x)] σ (fun r σ'=>σ.next≤σ'.low∧r.fg=.agg (VEnc.e x)):=by
 refine VG.fz (VG.fz (own_raw0 x σ) (Q':=fun r σ'=>σ.next≤σ'.low∧∃ j t' z' q',σ.next≤j∧σ'.heap j=.cells [] t' z' q'∧r=.agg [.lst 0 [],.slice j 0 0 0,vi 0,vi 0,vi 0,vl ([]:List Int),vl ([]:List Int),.v (.int .u64 K0)]) ?_) ?_
 ·rintro v σ' ⟨hlo,i,j,t,t',z,z',q,q',hi,hj,hij,h1,h2,rfl⟩
  refine ⟨i,[],t,z,q,h1,by rw [low_freeze];omega,j,t',z',q',hj,?_,?_⟩
  ·rw [heap_freeze_ne _ _ _ (Ne.symm hij)];exact h2
  ·rw [fzAgg]
   simp only [List.map_cons,List.map_nil,fzVl,fzVv,fz_row i z 0 [] (by simp)]
   rw [fzV,if_neg (fun h=>hij h.1.symm)]
 ·rintro v σ' ⟨hlo,j,t',z',q',hj,h2,rfl⟩
  refine ⟨j,[],t',z',q',h2,by rw [low_freeze];omega,?_⟩
  rw [fzAgg]
  simp only [List.map_cons,List.map_nil,fzVl,fzVv,fzL,fz_row j z' 0 [] (by simp)]
  simp only [List.map_cons,List.map_nil,fg_int,fg_vl,fg_agg,eEnt]
  rw [show (VV.lst 0 []).fg=vl ([]:List Int) from fg_vl ([]:List Int)]
end
end Go.Proofs.YtiinecnjokaejaaGreatDoor

set_option linter.unusedSimpArgs false
set_option linter.unusedSectionVars false
set_option linter.unusedVariables false
namespace Go.Proofs.YtiinecnjokaejaaGreatDoor
open Go Go.RowKit
theorem rep_succ (n:Nat):List.replicate n (⟨⟩:Ent)++[⟨⟩]=List.replicate (n+1) (⟨⟩:Ent):=by rw [List.replicate_succ']
theorem veqpN (k o:Nat):veqp false (.ptr k o) (.v (.pointer none))=some (vb false):=Eq.trans rfl rfl
section
variable [Prim Tryz.prog] [SrcOK] [KeyOK]
theorem entries0 (k:Nat) (ev:VV) (l:List Ent) (hl:l.length≤10) (σ:VSt) (hk:k < σ.next) {q:Nat} (hg:σ.heap k=.cells [nilS,ev] 59 2 q) (ha:App σ k ev l):VC Tryz.prog 9 [.ptr k 0] σ (fun r σ'=>σ.next≤σ'.low∧r.fg=vl (List.replicate l.length (⟨⟩:Ent))):=by
 refine VC_body XF9 ?_
 have hla:=ha.len
 (repeat' (first | simp (decide:=true) only [↓wsD,wsU,ne_eq,wmU,↓reduceIte,List.length_cons,List.length_nil,List.drop_zero,List.drop_succ_cons,List.take_succ_cons,List.take_zero,Nat.zero_add,Nat.reduceAdd,Nat.le_refl,xf9,hg,hla]))
 refine VW_loopR 0 (fun m fe Z=>fe 0=.ptr k 0∧fe 9=ev∧fe 10=vi l.length∧σ.next≤Z.low∧σ.next≤Z.next∧∃ (i:Nat) (av:VV),fe 11=vi i∧fe 3=av∧App Z σ.next av (List.replicate i (⟨⟩:Ent))∧m+i=l.length)
  (fun fe Z=>σ.next≤Z.low∧App Z σ.next (fe 3) (List.replicate l.length (⟨⟩:Ent))) l.length ?_ ?_ ?_
 ·(repeat' (first | simp (decide:=true) only [↓wsD,wsU,ne_eq,Nat.add_eq_left,true_and,Nat.le_refl,VV.v.injEq,Value.int.injEq,eq_self,true_and]))
  exact ⟨0,_,rfl,rfl,.nil _ _,rfl⟩
 ·rintro m fe Z ⟨f0,f9,f10,lo,hn,i,av,f11,f3,hav,hm⟩
  rcases (show i < l.length∨i=l.length by omega) with h | h
  ·have hll:(List.replicate i (⟨⟩:Ent)).length=i:=List.length_replicate ..
   (repeat' (first | simp (decide:=true) only [↓wsD,wsU,List.map_cons,List.map_nil,ne_eq,List.append_nil,List.nil_append,wmU,↓reduceIte,List.length_cons,List.length_nil,List.drop_zero,List.drop_succ_cons,List.take_succ_cons,List.take_zero,Nat.zero_add,Nat.add_assoc,Nat.reduceAdd,true_and,vsplice,List.map_cons,List.map_nil,VV.v.injEq,Value.int.injEq,List.append_nil,Int.toNat_natCast,eq_self,f0,f3,f9,f10,f11,eEnt] | ((with_reducible apply VCall.goG);((try simp only [List.map_cons,List.map_nil,fg_int,fg_vl,fg_agg]);exact rfl);(first | exact own0 ⟨⟩ _);intro gn) | ((with_reducible refine TestV_decE (fun _ gd=>?_) (fun _ gd=>?_))<;>(try rw [gd])) | ((with_reducible refine Got_vld ?_ ?_ ?_);(omega);(decide)) | ((with_reducible apply Got_viaRI (α:=Ent));(first | (apply App.rd;assumption) | assumption);omega;omega;rfl) | ((with_reducible apply VBuild.enc [(⟨⟩:Ent)]);(exact rfl);(simp (decide:=true) only [wsU,List.map_cons,List.map_nil,List.append_nil,List.nil_append,↓reduceIte,List.length_cons,List.length_nil,List.drop_zero,List.drop_succ_cons,List.take_zero,Nat.zero_add,Nat.reduceAdd,wfU,vsplice,rep,List.replicate_succ,List.replicate_zero,List.flatten_cons,List.flatten_nil];exact rfl);(exact rfl);(exact rfl);(exact rfl);((try simp only [List.map_cons,List.map_nil,fg_int,fg_vl]);exact rfl)) | ((with_reducible apply VAppend.app1 (α:=Ent) (b:=σ.next));rotate_left 2;((first | exact vcont_vo _ _ _ rfl | exact vcont_vl _ _ rfl | exact App.cont (by assumption) _ rfl | exact Rd.cont (by assumption) _ rfl));rotate_right 2;(first | omega | (simp only [List.length_cons,List.length_nil];omega));(first | assumption | exact App.nil _ _ | exact App.new (by first | omega | (simp only [low_skip,low_box,low_write,low_newTok,low_fresh,low_pu,next_skip,next_box,next_write,next_newTok,next_fresh,next_pu];omega)) | ((repeat (first | (with_reducible refine App.newE ?_ ?_<;>(simp only [low_skip,low_box,low_write,low_newTok,low_fresh,low_pu,next_skip,next_box,next_write,next_newTok,next_fresh,next_pu];omega)) | with_reducible apply App.skip | with_reducible apply App.box | with_reducible apply App.newTok | with_reducible apply App.write | with_reducible apply App.alloc));(try (first | assumption | exact App.new (by first | omega | (simp only [low_skip,low_box,low_write,low_newTok,low_fresh,low_pu,next_skip,next_box,next_write,next_newTok,next_fresh,next_pu];omega)) | exact App.newE (by (simp only [low_skip,low_box,low_write,low_newTok,low_fresh,low_pu,next_skip,next_box,next_write,next_newTok,next_fresh,next_pu]);omega) (by first | omega | (simp only [low_skip,low_box,low_write,low_newTok,low_fresh,low_pu,next_skip,next_box,next_write,next_newTok,next_fresh,next_pu];omega)) | exact App.weak (by assumption) (by first | omega | (simp only [low_skip,low_box,low_write,low_newTok,low_fresh,low_pu,next_skip,next_box,next_write,next_newTok,next_fresh,next_pu];omega))))));(exact rfl);(unfold reach;(try simp only [List.length_cons,List.length_nil,List.length_replicate]);omega);decide;(first | omega | (simp only [next_skip,next_box,next_write,next_newTok];omega));intro gt gn glo glv ga g1 g2 g3;try simp only [low_skip,low_box,low_write,low_newTok] at g1 g2)))
   ·rw [rep_succ] at ga
    rw [rep_succ]
    exact ⟨m - 1,by omega,by omega,by omega,i+1,_,w64_1' (by omega),rfl,ga,by omega⟩
   ·exfalso;omega
  ·(repeat' (first | simp (decide:=true) only [↓wsD,wsU,List.map_cons,List.map_nil,ne_eq,List.nil_append,wmU,↓reduceIte,List.length_cons,List.length_nil,List.drop_zero,List.take_zero,Nat.zero_add,Nat.reduceAdd,true_and,vsplice,List.map_cons,List.map_nil,Int.toNat_natCast,eq_self,f3,f9,f10,f11] | ((with_reducible refine TestV_decE (fun _ gd=>?_) (fun _ gd=>?_))<;>(try rw [gd])) | ((with_reducible refine Got_vld ?_ ?_ ?_);(omega);(decide)) | ((with_reducible apply Got_viaRI (α:=Ent));(first | (apply App.rd;assumption) | assumption);omega;omega;rfl)))
   ·exfalso;omega
   ·exact ⟨lo,by rw [← h];exact hav⟩
 ·rintro fe Z ⟨lo,hav⟩
  generalize hf3:fe 3=av at hav
  (repeat' (first | simp (decide:=true) only [↓wsD,wsU,hf3]))
  exact ⟨lo,hav.fg⟩
theorem lives_any (σ:VSt):VC Tryz.prog 10 [] σ (fun r σ'=>σ.next≤σ'.low∧r.fg=vb true):=by
 refine VC_body XF10 ?_
 (repeat' (first | simp (decide:=true) only [↓wsD,wsU,List.map_cons,List.map_nil,List.map_cons,List.map_nil,xf10]))
 refine VCall.any (new0 _) ?_
 rintro _ B ⟨blo,k,hk1,hk2,rfl,hBk⟩ hn hkp
 obtain ⟨C,hC⟩:∃ C:VSt,C=σ.fresh.join B:=⟨_,rfl⟩
 have c0:C.heap k=.cells [nilS,nilS] 59 2 k:=by rw [hC];exact hBk
 have c1:σ.next≤C.low:=by rw [hC];show σ.next≤min _ B.low;simp only [low_fresh,next_fresh] at blo ⊢; omega
 have c2:k < C.next:=by rw [hC];exact hk2
 simp only [next_fresh] at hk1
 rw [← hC]
 clear hC hkp hn
 (repeat' (first | simp (decide:=true) only [↓wsD,wsU,List.map_cons,List.map_nil,List.map_cons,List.map_nil,veqpN]))
 refine VCall.goP (R:=fun v=>∃ c,SmallCfg c∧v=.agg (VEnc.e c)) (args2:=[vl ([]:List Int)]) (by simp only [List.map_cons,List.map_nil,fg_nilS];rfl) (small_any [] (fun x hx=>by simp at hx) _) ?_
 rintro _ n0 ⟨c,hc,rfl⟩
 have hv:=valid_of hc.gen.ok
 obtain ⟨j1,j2,j3,j4,j5,j6,j7,j8,j9,j10,j11,j12⟩:=hc.gen
 have hp:ProgsOK c:=⟨by omega,by omega,by omega,by omega,j2⟩
 have e1:(k=C.next+n0)=False:=eq_false (by omega)
 (repeat' (first | simp (decide:=true) only [↓wsD,wsU,List.map_cons,List.map_nil,ne_eq,List.append_nil,List.nil_append,wmU,↓reduceIte,List.length_cons,List.length_nil,List.drop_zero,List.drop_succ_cons,List.take_succ_cons,List.take_zero,Nat.zero_add,Nat.reduceAdd,and_self,wfU,vsplice,encU,List.map_cons,List.map_nil,Nat.le_refl,List.append_nil,eq_self]))
 refine VCall_at (fun A hA=>?_)
 have a0:A.heap k=.cells [nilS,nilS] 59 2 k:=by rw [hA];simp (decide:=true) only [wsU,wmU,↓reduceIte,eq_self,e1,c0]
 have a1:A.heap (C.next+n0)=.cells (VEnc.e c) 26 8 (C.next+n0):=by rw [hA];simp (decide:=true) only [wmU,↓reduceIte,encU,eq_self]
 have a2:A.next=C.next+n0+1:=by rw [hA];simp (decide:=true) only [wsU,Nat.add_assoc,eq_self]
 have a3:σ.next≤A.low:=by rw [hA];simp only [low_skip,low_box,low_write];omega
 clear hA
 refine VCall.any (VC.fg (args2:=[.ptr k 0,.agg (VEnc.e c),e0]) ⟨.inl rfl,.inl rfl,.inr (by simp only [List.map_cons,List.map_nil,fg_nilS,fg_agg];rfl),trivial⟩ (add0 c hp k nilS [] (.inl rfl) A (by omega) (Nat.le_refl _) a0 (.nil _ _))) ?_
 rintro v B2 ⟨b1,rfl,b2,ev,q,b3,b4,b5,b6⟩ hn2 hkp2
 rw [hv,if_pos rfl] at b5
 obtain ⟨D,hD⟩:∃ D:VSt,D=A.join B2:=⟨_,rfl⟩
 have d0:D.heap k=.cells [nilS,ev] 59 2 q:=by rw [hD];exact b3
 have d1:D.heap (C.next+n0)=.cells (VEnc.e c) 26 8 (C.next+n0):=by rw [hD];exact (b6 _ (by omega) (by omega)).trans a1
 have d2:C.next+n0 < D.next:=by rw [hD];show _ < B2.next;omega
 have d3:σ.next≤D.low:=by rw [hD];show σ.next≤min _ _;omega
 have d5:App D k ev ([⟨⟩]:List Ent):=by rw [hD];exact b5
 rw [← hD]
 clear hD b1 b2 b3 b5 b6 hn2 hkp2
 (repeat' (first | simp (decide:=true) only [↓wsD,wsU,Bool.and_true,List.map_cons,List.map_nil,ne_eq,↓reduceIte,List.length_cons,List.length_nil,List.drop_zero,List.take_succ_cons,List.take_zero,Nat.zero_add,Nat.reduceAdd,wfU,encU,List.map_cons,List.map_nil,Nat.le_refl,eq_self,d1,hv,List.isEmpty_nil,Bool.and_true]))
 refine VCall.any (VC.fg (args2:=[.ptr k 0,.agg (VEnc.e c),e0]) ⟨.inl rfl,.inl rfl,.inr (by simp only [List.map_cons,List.map_nil,fg_nilS,fg_agg];rfl),trivial⟩ (add0 c hp k ev [⟨⟩] (.inr rfl) D (by omega) b4 d0 d5)) ?_
 rintro v B3 ⟨b1,rfl,b2,ev2,q2,b3,b4',b5,b6⟩ hn2 hkp2
 rw [hv,if_pos rfl] at b5
 obtain ⟨E,hE⟩:∃ E:VSt,E=D.join B3:=⟨_,rfl⟩
 have e0':E.heap k=.cells [nilS,ev2] 59 2 q2:=by rw [hE];exact b3
 have e2:k < E.next:=by rw [hE];show _ < B3.next;omega
 have e3:σ.next≤E.low:=by rw [hE];show σ.next≤min _ _;omega
 have e5:App E k ev2 ([⟨⟩]:List Ent):=by rw [hE];exact b5
 rw [← hE]
 clear hE b1 b2 b3 b5 b6 hn2 hkp2
 (repeat' (first | simp (decide:=true) only [↓wsD,wsU,Bool.true_and,Bool.and_false,List.map_cons,List.map_nil,ne_eq,Bool.not_false,↓reduceIte,List.length_cons,List.length_nil,Nat.zero_add,List.replicate_succ,List.replicate_zero,encU,List.map_cons,List.map_nil,eq_self,decide_true,hv,List.isEmpty_cons,Bool.and_false] | ((with_reducible apply VCall.goG);((try simp only [List.map_cons,List.map_nil,fg_ptr]);exact rfl);(first | exact entries0 k ev2 [⟨⟩] (by simp) E e2 e0' e5);intro gn)))
 refine Got_via (α:=Ent) (l:=[⟨⟩]) (i:=0) (by decide) rfl ?_
 (repeat' (first | simp (decide:=true) only [↓wsD,wsU,ne_eq,Nat.add_zero,List.length_cons,List.length_nil,Nat.zero_add,Nat.lt_add_one]))
 refine Got_vld (by decide) (by decide) ?_
 (repeat' (first | simp (decide:=true) only [↓wsD,wsU,ne_eq,List.length_cons,List.length_nil,List.drop_zero,List.take_succ_cons,List.take_zero,Nat.zero_add,and_true,wfU,List.replicate_succ,List.replicate_zero,encU,eq_self,decide_true,eEnt]))
 exact e3
theorem lenientE (c:Cfg) (hp:ProgsOK c) (σ:VSt):VC Tryz.prog 5 [.agg (VEnc.e c),e0] σ (fun r σ'=>σ.next≤σ'.low∧∃ x,r.fg=.tup [vl ([]:List Int),x,vi (if validC c then 0 else 20)]):=VG.mono (lenient0 c hp σ) (by
 rintro r σ' ⟨h1,h2⟩
 refine ⟨h1,?_⟩
 cases hv:validC c
 ·rw [hv,if_neg (by decide)] at h2
  subst h2
  exact ⟨.v (.pointer none),by simp only [nilS,List.map_cons,List.map_nil,fg_int,fg_nilS,fg_tup,VV.fg];rfl⟩
 ·rw [hv,if_pos rfl] at h2
  obtain ⟨b,idN,idX,_,rfl,_⟩:=h2
  exact ⟨.ptr (b+3) 0,by simp only [nilS,List.map_cons,List.map_nil,fg_int,fg_nilS,fg_tup,fg_ptr];rfl⟩)
structure Cor (Z:VSt) (s k q7 q8:Nat) (c c':Cfg) (l:List Ent):Prop where
 lo:s≤Z.low
 s7:s≤q7
 l7:q7 < k
 l8:q8 < k
 lk:k < Z.next
 c7:Z.heap q7=.cells (VEnc.e c) 26 8 q7
 c8:Z.heap q8=.cells (VEnc.e c') 26 8 q8
 ev:∃ ev q,k≤q∧Z.heap k=.cells [nilS,ev] 59 2 q∧App Z k ev l
theorem Cor.skip {Z:VSt} {s k q7 q8:Nat} {c c':Cfg} {l:List Ent} (h:Cor Z s k q7 q8 c c' l) (n:Nat):Cor (Z.skip n) s k q7 q8 c c' l:=by
 obtain ⟨ev,q,h1,h2,h3⟩:=h.ev
 have:=h.lk
 exact ⟨h.lo,h.s7,h.l7,h.l8,by simp only [next_skip];omega,h.c7,h.c8,ev,q,h1,h2,h3.skip n⟩
theorem addCor {Z:VSt} {s k q7 q8:Nat} {c c' d:Cfg} {l:List Ent} (h:Cor Z s k q7 q8 c c' l) (hp:ProgsOK d) (hl:l=[]∨l=[⟨⟩]) {K:VV→VSt→Bool→Prop} (tv:VV) (ht:tv.fg=e0)
  (hq:∀ Z',Cor Z' s k q7 q8 c c' (if validC d then [⟨⟩] else l)→K (.tup [vb (validC d && l.isEmpty),vi (if validC d then 0 else 20)]) Z' false):@VCall Tryz.prog _ 7 [.ptr k 0,.agg (VEnc.e d),tv] ⟨((false,false),Z,K)⟩:=by
 obtain ⟨ev,q,h1,h2,h3⟩:=h.ev
 have hk:=h.lk;have hq7:=h.l7;have hq8:=h.l8;have hlo:=h.lo;have hs:=h.s7
 refine VCall.any (VC.fg (args2:=[.ptr k 0,.agg (VEnc.e d),e0]) ⟨.inl rfl,.inl rfl,.inr ht.symm,trivial⟩ (add0 d hp k ev l hl Z hk h1 h2 h3)) ?_
 rintro v B ⟨b1,rfl,b2,ev2,q2,b3,b4,b5,b6⟩ hn hkp
 refine hq _ ⟨by show s≤min Z.low B.low;omega,hs,hq7,hq8,by show k < B.next;omega,(b6 _ (by omega) (by omega)).trans h.c7,(b6 _ (by omega) (by omega)).trans h.c8,ev2,q2,b4,b3,b5⟩
theorem runCor {Z:VSt} {s k q7 q8:Nat} {c c' d:Cfg} {l:List Ent} (h:Cor Z s k q7 q8 c c' l) (hp:ProgsOK d) (hl:l.length≤10):VC Tryz.prog 8 [.ptr k 0,.agg (VEnc.e d)] Z (fun r σ'=>Z.next≤σ'.low∧r=.tup [nilS,vi (if validC d || l.isEmpty then 0 else 20)]):=by
 obtain ⟨ev,q,h1,h2,h3⟩:=h.ev
 exact runC d hp k ev l hl Z h.lk h2 h3
theorem entCor {Z:VSt} {s k q7 q8:Nat} {c c':Cfg} {l:List Ent} (h:Cor Z s k q7 q8 c c' l) (hl:l.length≤10):VC Tryz.prog 9 [.ptr k 0] Z (fun r σ'=>Z.next≤σ'.low∧r.fg=vl (List.replicate l.length (⟨⟩:Ent))):=by
 obtain ⟨ev,q,h1,h2,h3⟩:=h.ev
 exact entries0 k ev l hl Z h.lk h2 h3
set_option maxHeartbeats 1000000 in
theorem law_any (l:List Int) (hl:∀ x∈l,I64 x) (n:Int) (h2:I64 n) (b:Bool) (σ:VSt):VC Tryz.prog 3 [vl l,vi n,vb b] σ (fun r σ'=>σ.next≤σ'.low∧r.fg=vb true):=by
 have hlv:=fun τ=>lives_any τ
 refine VC_body XF3 ?_
 (repeat' (first | simp (decide:=true) only [↓wsD,wsU,List.map_cons,List.map_nil,ne_eq,List.map_cons,List.map_nil,xf3]))
 refine VCall.goP (R:=fun v=>∃ c,SmallCfg c∧v=.agg (VEnc.e c)) (by rw [List.map_cons,List.map_nil,fg_vl]) (small_any l hl _) ?_
 rintro _ n0 ⟨c,hc,rfl⟩
 have hv:=valid_of hc.gen.ok
 obtain ⟨j1,j2,j3,j4,j5,j6,j7,j8,j9,j10,j11,j12⟩:=hc.gen
 have hp:ProgsOK c:=⟨by omega,by omega,by omega,by omega,j2⟩
 obtain ⟨d,hd⟩:∃ d:Cfg,d={ c with drift:=n }:=⟨_,rfl⟩
 have hpd:ProgsOK d:=by rw [hd];exact ⟨by dsimp only;omega,by dsimp only;omega,by dsimp only;omega,by dsimp only;omega,j2⟩
 have ed:VEnc.e d=[vl c.programs,vl c.first,vl c.restarts,vl c.requests,vi c.crashes,vi c.drops,vi c.dups,vi n]:=by rw [hd];rfl
 (repeat' (first | simp (decide:=true) only [↓wsD,wsU,List.map_cons,List.map_nil,ne_eq,List.append_nil,List.nil_append,List.cons_append,wmU,↓reduceIte,List.length_cons,List.length_nil,List.drop_zero,List.drop_succ_cons,List.take_succ_cons,List.take_zero,Nat.zero_add,Nat.add_assoc,Nat.reduceAdd,and_self,wfU,vsplice,encU,List.map_cons,List.map_nil,Nat.le_refl,List.append_nil,eq_self]))
 rw [← ed]
 refine VCall.goP (R:=fun v=>∃ x,v=.tup [vl ([]:List Int),x,vi (if validC d then 0 else 20)]) (args2:=[.agg (VEnc.e d),e0]) (by simp only [List.map_cons,List.map_nil,fg_nilS,fg_agg,VEnc.fgd];rfl) (lenientE d hpd _) ?_
 rintro _ n1 ⟨x,rfl⟩
 (repeat' (first | simp (decide:=true) only [↓wsD,wsU,List.map_cons,List.map_nil,ne_eq,encU,List.map_cons,List.map_nil]))
 refine VCall_at (fun A hA=>?_)
 have a7:A.heap (σ.next+n0)=.cells (VEnc.e c) 26 8 (σ.next+n0):=by rw [hA];simp (decide:=true) only [wsU,wmU,↓reduceIte,Nat.left_eq_add,Nat.add_left_cancel_iff,Nat.add_assoc,encU,eq_self]
 have a8:A.heap (σ.next+(n0+1))=.cells (VEnc.e d) 26 8 (σ.next+(n0+1)):=by rw [hA,ed];simp (decide:=true) only [wsU,wmU,↓reduceIte,eq_self]
 have a2:σ.next+(n0+1) < A.next:=by rw [hA];simp only [next_skip,next_box,next_write,next_fresh];omega
 have a3:σ.next≤A.low:=by rw [hA];simp only [low_skip,low_box,low_write,low_fresh];omega
 clear hA
 refine VCall.any (new0 A) ?_
 rintro _ B ⟨blo,k,hk1,hk2,rfl,hBk⟩ hn hkp
 have hC0:Cor (A.join B) σ.next k (σ.next+n0) (σ.next+(n0+1)) c d []:=
  ⟨by show σ.next≤min A.low B.low;omega,by omega,by omega,by omega,hk2,(hkp _ (by omega) (by omega)).1.trans a7,(hkp _ (by omega) (by omega)).1.trans a8,nilS,k,Nat.le_refl _,hBk,.nil _ _⟩
 generalize A.join B=C at hC0 ⊢
 obtain ⟨q7,hq7⟩:∃ q,q=σ.next+n0:=⟨_,rfl⟩
 obtain ⟨q8,hq8⟩:∃ q,q=σ.next+(n0+1):=⟨_,rfl⟩
 rw [← hq7,← hq8] at hC0
 cases b
 ·cases hvd:validC d
  ·(repeat' (first | simp (decide:=true) only [↓wsD,wsU,List.map_cons,List.map_nil,ne_eq,Bool.not_false,↓reduceIte,List.length_cons,List.length_nil,List.drop_zero,List.take_succ_cons,List.take_zero,Nat.zero_add,Nat.reduceAdd,wfU,encU,List.map_cons,List.map_nil,Nat.le_refl,eq_self,decide_false,veqpN,nilS,← hq7,← hq8,hC0.c8,List.isEmpty_nil,Bool.or_true,hvd] | ((with_reducible apply VCall.goX);(first | exact runCor hC0 hpd (by simp));intro gn)))
   refine addCor (hC0.skip _) hpd (.inl rfl) (.agg [.v (.slice none 0 0),.v (.slice none 0 0)]) (by simp only [List.map_cons,List.map_nil,fg_nilS,fg_agg];rfl) (fun Z2 hZ2=>?_)
   rw [hvd] at hZ2
   simp only [Bool.false_eq_true,if_false] at hZ2
   have hlo:=hZ2.lo
   (repeat' (first | simp (decide:=true) only [↓wsD,wsU,Bool.and_true,List.map_cons,List.map_nil,ne_eq,↓reduceIte,List.length_nil,and_true,wfU,List.replicate_zero,encU,List.map_cons,List.map_nil,eq_self,decide_true,decide_false,List.isEmpty_nil,Bool.and_true,hvd,Bool.false_eq_true] | ((with_reducible apply VCall.goG);((try simp only [List.map_cons,List.map_nil,fg_ptr]);exact rfl);(first | exact entCor hZ2 (by simp) | exact hlv _);intro gn)))
   all_goals first
    | exact hlo
    | (simp;done)
    | trace_state
  ·(repeat' (first | simp (decide:=true) only [↓wsD,wsU,List.map_cons,List.map_nil,ne_eq,Bool.not_false,↓reduceIte,List.length_cons,List.length_nil,List.drop_zero,List.take_succ_cons,List.take_zero,Nat.zero_add,Nat.reduceAdd,wfU,encU,List.map_cons,List.map_nil,Nat.le_refl,eq_self,decide_false,veqpN,nilS,← hq7,← hq8,hC0.c8,List.isEmpty_nil,Bool.or_true,hvd] | ((with_reducible apply VCall.goX);(first | exact runCor hC0 hpd (by simp));intro gn)))
   refine addCor (hC0.skip _) hpd (.inl rfl) (.agg [.v (.slice none 0 0),.v (.slice none 0 0)]) (by simp only [List.map_cons,List.map_nil,fg_nilS,fg_agg];rfl) (fun Z2 hZ2=>?_)
   rw [hvd] at hZ2
   simp only [if_true] at hZ2
   have hlo:=hZ2.lo
   (repeat' (first | simp (decide:=true) only [↓wsD,wsU,Bool.and_true,List.map_nil,ne_eq,↓reduceIte,and_true,wfU,encU,List.map_nil,eq_self,decide_false,List.isEmpty_nil,Bool.and_true,hvd] | ((with_reducible apply VCall.goG);((try simp only [List.map_nil]);exact rfl);(first | exact entCor hZ2 (by simp) | exact hlv _);intro gn)))
   all_goals first
    | exact hlo
    | (simp;done)
    | trace_state
 ·(repeat' (first | simp (decide:=true) only [↓wsD,wsU,List.map_cons,List.map_nil,ne_eq,↓reduceIte,List.length_cons,List.length_nil,List.drop_zero,List.take_succ_cons,List.take_zero,Nat.zero_add,Nat.reduceAdd,wfU,encU,List.map_cons,List.map_nil,Nat.le_refl,veqpN,← hq7,← hq8,hC0.c7]))
  refine addCor hC0 hp (.inl rfl) (.agg [.v (.slice none 0 0),.v (.slice none 0 0)]) (by simp only [List.map_cons,List.map_nil,fg_nilS,fg_agg];rfl) (fun C1 hC1=>?_)
  rw [hv,if_pos rfl] at hC1
  cases hvd:validC d
  ·(repeat' (first | simp (decide:=true) only [↓wsD,wsU,Bool.and_true,List.map_cons,List.map_nil,ne_eq,Bool.not_true,↓reduceIte,List.length_cons,List.length_nil,List.drop_zero,List.take_succ_cons,List.take_zero,Nat.zero_add,Nat.reduceAdd,wfU,encU,List.map_cons,List.map_nil,Nat.le_refl,decide_false,nilS,← hq7,← hq8,hC1.c8,List.isEmpty_nil,List.isEmpty_cons,Bool.or_false,hvd,Bool.false_eq_true] | ((with_reducible apply VCall.goX);(first | exact runCor hC1 hpd (by simp));intro gn)))
   refine addCor (hC1.skip _) hpd (.inr rfl) (.agg [.v (.slice none 0 0),.v (.slice none 0 0)]) (by simp only [List.map_cons,List.map_nil,fg_nilS,fg_agg];rfl) (fun Z2 hZ2=>?_)
   rw [hvd] at hZ2
   simp only [Bool.false_eq_true,if_false] at hZ2
   have hlo:=hZ2.lo
   (repeat' (first | simp (decide:=true) only [↓wsD,wsU,Bool.and_true,Bool.and_false,List.map_cons,List.map_nil,ne_eq,↓reduceIte,List.length_cons,List.length_nil,Nat.zero_add,and_true,wfU,List.replicate_succ,List.replicate_zero,encU,List.map_cons,List.map_nil,eq_self,decide_true,decide_false,List.isEmpty_nil,List.isEmpty_cons,Bool.and_true,Bool.and_false,hvd,Bool.false_eq_true] | ((with_reducible apply VCall.goG);((try simp only [List.map_cons,List.map_nil,fg_ptr]);exact rfl);(first | exact entCor hZ2 (by simp) | exact hlv _);intro gn)))
   all_goals first
    | exact hlo
    | (simp;done)
    | trace_state
  ·(repeat' (first | simp (decide:=true) only [↓wsD,wsU,Bool.and_true,List.map_cons,List.map_nil,ne_eq,Bool.not_true,↓reduceIte,List.length_cons,List.length_nil,List.drop_zero,List.take_succ_cons,List.take_zero,Nat.zero_add,Nat.reduceAdd,wfU,encU,List.map_cons,List.map_nil,Nat.le_refl,eq_self,decide_false,nilS,← hq7,← hq8,hC1.c8,List.isEmpty_nil,List.isEmpty_cons,Bool.or_false,hvd] | ((with_reducible apply VCall.goX);(first | exact runCor hC1 hpd (by simp));intro gn)))
   refine addCor (hC1.skip _) hpd (.inr rfl) (.agg [.v (.slice none 0 0),.v (.slice none 0 0)]) (by simp only [List.map_cons,List.map_nil,fg_nilS,fg_agg];rfl) (fun Z2 hZ2=>?_)
   rw [hvd] at hZ2
   simp only [if_true] at hZ2
   have hlo:=hZ2.lo
   (repeat' (first | simp (decide:=true) only [↓wsD,wsU,Bool.and_true,Bool.and_false,List.map_nil,ne_eq,↓reduceIte,and_true,wfU,encU,List.map_nil,eq_self,decide_false,List.isEmpty_nil,List.isEmpty_cons,Bool.and_true,Bool.and_false,hvd] | ((with_reducible apply VCall.goG);((try simp only [List.map_nil]);exact rfl);(first | exact entCor hZ2 (by simp) | exact hlv _);intro gn)))
   all_goals first
    | exact hlo
    | (simp;done)
    | trace_state
end
end Go.Proofs.YtiinecnjokaejaaGreatDoor

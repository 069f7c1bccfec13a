/- What is shown by computing, as calls that are shown by hand; the law. -/
import Derived.Test.YtghcggoodgfaoaaGreatDoorZEa
import Derived.Test.YtghcggoodgfaoaaGreatDoorEl
import Derived.Test.YtghcggoodgfaoaaGreatDoorEm
import Derived.Test.YtghcggoodgfaoaaGreatDoorEn
import Derived.Test.YtghcggoodgfaoaaGreatDoorEo
import Derived.Test.YtghcggoodgfaoaaGreatDoorZVb
set_option linter.unusedVariables false
set_option linter.unusedSectionVars false
set_option maxRecDepth 100000
namespace Go.Proofs.YtghcggoodgfaoaaGreatDoor
open Go Go.RowKit
def bF:FuncId:=26
def vF:FuncId:=30
def lF:FuncId:=10
def chkV (k:Int):Value:=.tuple #[.agg #[.int .i64 k,.int .i64 0,.int .i64 0,.slice none 0 0,.slice none 0 0],.int .i64 0]
def b11:Value:=.tuple #[.agg (.slice none 0 0::cvs (srcR 11)).toArray,.int .i64 0]
def ceB (i:Nat):CE:=if i<11 then ceG bF [.string (srcB i)] (srcN i) (cvs (srcC i)) (cvs (srcR i)) 2 (.int .i64 0) 0 else ceF bF [.string (srcB 11)] b11
def ceV (i:Nat):CE:=ceR vF (srcN i) (cvs (srcC i)) (cvs (srcR i)) [] (.int .i64 0)
def ceK:List CE:=[ceF 315 [.slice none 0 0] (chkV 2),ceF 321 [.slice none 0 0] (chkV 7),ceF 316 [.slice none 0 0] (chkV 3),ceF 319 [.slice none 0 0] (chkV 5),ceF 320 [.slice none 0 0] (chkV 6),ceF lF [] (.bool true)]
def ceL:List CE:=(List.range 12).map ceB++((List.range 12).map ceV++ceK)
theorem k2:Clo Tryz.prog 315 [.slice none 0 0] (chkV 2):=Clo.k (by kernel_rfl) (by kernel_rfl) (by kernel_rfl)
theorem k7:Clo Tryz.prog 321 [.slice none 0 0] (chkV 7):=Clo.k (by kernel_rfl) (by kernel_rfl) (by kernel_rfl)
theorem k3:Clo Tryz.prog 316 [.slice none 0 0] (chkV 3):=Clo.k (by kernel_rfl) (by kernel_rfl) (by kernel_rfl)
theorem k5:Clo Tryz.prog 319 [.slice none 0 0] (chkV 5):=Clo.k (by kernel_rfl) (by kernel_rfl) (by kernel_rfl)
theorem k6:Clo Tryz.prog 320 [.slice none 0 0] (chkV 6):=Clo.k (by kernel_rfl) (by kernel_rfl) (by kernel_rfl)
theorem kl:Clo Tryz.prog lF [] (.bool true):=Clo.k (by kernel_rfl) (by kernel_rfl) (by kernel_rfl)
theorem ceB_good (i:Nat) (hi:i<12):(ceB i).Good Tryz.prog:=by
 rcases lt12 hi with rfl | rfl | rfl | rfl | rfl | rfl | rfl | rfl | rfl | rfl | rfl | rfl
 ·exact CloG.good bld0 0
 ·exact CloG.good bld1 0
 ·exact CloG.good bld2 0
 ·exact CloG.good bld3 0
 ·exact CloG.good bld4 0
 ·exact CloG.good bld5 0
 ·exact CloG.good bld6 0
 ·exact CloG.good bld7 0
 ·exact CloG.good bld8 0
 ·exact CloG.good bld9 0
 ·exact CloG.good bld10 0
 ·exact Clo.good bld11
theorem ver_any (i:Nat) (hi:i<12):VerOK (srcC i) (srcR i) (srcN i):=by
 rcases lt12 hi with rfl | rfl | rfl | rfl | rfl | rfl | rfl | rfl | rfl | rfl | rfl | rfl
 ·exact ver0
 ·exact ver1
 ·exact ver2
 ·exact ver3
 ·exact ver4
 ·exact ver5
 ·exact ver6
 ·exact ver7
 ·exact ver8
 ·exact ver9
 ·exact ver10
 ·exact ver11
theorem ceL_good:∀ e∈ceL,e.Good Tryz.prog:=fun e he=>by
 rcases List.mem_append.1 he with he | he
 ·obtain ⟨i,hi,rfl⟩:=List.mem_map.1 he
  exact ceB_good i (List.mem_range.1 hi)
 rcases List.mem_append.1 he with he | he
 ·obtain ⟨i,hi,rfl⟩:=List.mem_map.1 he
  exact CloR.good (ver_any i (List.mem_range.1 hi))
 ·simp only [ceK,List.mem_cons,List.not_mem_nil,or_false]at he
  rcases he with rfl | rfl | rfl | rfl | rfl | rfl
  ·exact k2.good
  ·exact k7.good
  ·exact k3.good
  ·exact k5.good
  ·exact k6.good
  ·exact kl.good
theorem ceB_f (i:Nat):(ceB i).f=bF:=by unfold ceB;split<;>rfl
theorem srcB_inj {i j:Nat} (hi:i<12) (hj:j<12) (h:srcB i=srcB j):i=j:=by
 have hs:∀ i,i<12→∀ j,j<12→(srcB i).size=(srcB j).size→i=j:=of_decide_eq_true (by kernel_rfl)
 exact hs i hi j hj (congrArg ByteArray.size h)
theorem ceL_f {e:CE} (he:e∈ceL):(e.f=bF∧∃ i,i<12∧e=ceB i)∨(e.f=vF∧∃ i,i<12∧e=ceV i)∨e∈ceK:=by
 rcases List.mem_append.1 he with he | he
 ·obtain ⟨i,hi,rfl⟩:=List.mem_map.1 he
  exact .inl ⟨ceB_f i,i,List.mem_range.1 hi,rfl⟩
 rcases List.mem_append.1 he with he | he
 ·obtain ⟨i,hi,rfl⟩:=List.mem_map.1 he
  exact .inr (.inl ⟨rfl,i,List.mem_range.1 hi,rfl⟩)
 ·exact .inr (.inr he)
theorem ceK_f {e:CE} (he:e∈ceK):e.f≠bF∧e.f≠vF:=by
 simp only [ceK,List.mem_cons,List.not_mem_nil,or_false]at he
 rcases he with rfl | rfl | rfl | rfl | rfl | rfl<;>exact ⟨by show ¬ ((_:Nat)=_);decide,by show ¬ ((_:Nat)=_);decide⟩
theorem ceK_un {f:FuncId} {l:List Value} {v:Value} (hin:ceF f l v∈ceK) (hu:∀ e∈ceK,e.f=f→e=ceF f l v) (hb:f≠bF) (hv:f≠vF):∀ e∈ceL,e.f=f→∀ S,e.cond S l→e.out S=(v,S):=fun e he hef S _=>by
 rcases ceL_f he with ⟨h,_⟩|⟨h,_⟩ | h
 ·exact absurd (hef.symm.trans h) hb
 ·exact absurd (hef.symm.trans h) hv
 ·rw [hu e h hef];rfl
theorem ceK_in {e:CE} (h:e∈ceK):e∈ceL:=List.mem_append.2 (.inr (List.mem_append.2 (.inr h)))
noncomputable instance thePrim:Prim Tryz.prog:=primCE ceL ceL_good
theorem chk_of (k:Int) (f:FuncId) (hf:XF Tryz.prog f=none) (hin:ceF f [.slice none 0 0] (chkV k)∈ceK) (hu:∀ e∈ceK,e.f=f→e=ceF f [.slice none 0 0] (chkV k)) (hb:f≠bF) (hv:f≠vF) (σ:VSt):@VC Tryz.prog thePrim f [.v (.slice none 0 0)] σ (fun r σ'=>σ.next≤σ'.low∧r=.tup [.agg [vi k,vi 0,vi 0,.v (.slice none 0 0),.v (.slice none 0 0)],vi 0]):=
 VG.mono (VC_fl hf [.slice none 0 0] (chkV k) (ceK_in hin) (ceK_un hin hu hb hv) (fun S args' h=>VRelL.v_inv (l:=[.slice none 0 0]) h) rfl) fun r σ' h=>⟨h.1,h.2⟩
theorem nilIn {S:St} {σ:VSt} (args':Array Value) (h:VRelL σ.G S [] args'.toList):args'.toList=[]:=List.eq_nil_of_length_eq_zero h.1.symm
noncomputable instance theLives:LivesOK:=⟨fun σ=>VG.mono (VC_fl (f:=lF) XZ10 [] (.bool true) (ceK_in (by simp [ceK])) (ceK_un (by simp [ceK]) (by
  intro e he hf
  simp only [ceK,List.mem_cons,List.not_mem_nil,or_false]at he
  rcases he with rfl | rfl | rfl | rfl | rfl | rfl
  all_goals first | rfl | exact absurd hf (by show ¬ ((_:Nat)=_);decide)) (by decide) (by decide)) (fun S args' h=>nilIn args' h) rfl) fun r σ' h=>⟨h.1,by rw [h.2];exact fg_bool true⟩⟩
theorem ceK_only (k:Int) (f:FuncId) (hd:(ceK.filter fun e=>e.f==f).length=1) (hin:ceF f [.slice none 0 0] (chkV k)∈ceK):∀ e∈ceK,e.f=f→e=ceF f [.slice none 0 0] (chkV k):=by
 intro e he hf
 have h1:e∈ceK.filter fun e=>e.f==f:=List.mem_filter.2 ⟨he,by rw [hf];exact beq_self_eq_true f⟩
 have h2:ceF f [.slice none 0 0] (chkV k)∈ceK.filter fun e=>e.f==f:=List.mem_filter.2 ⟨hin,beq_self_eq_true f⟩
 obtain ⟨x,hx⟩:=List.length_eq_one_iff.1 hd
 rw [hx]at h1 h2
 rw [List.mem_singleton.1 h1,List.mem_singleton.1 h2]
noncomputable instance theChk:ChkOK where
 c2:=chk_of 2 _ XZ315 (by simp [ceK]) (ceK_only 2 _ rfl (by simp [ceK])) (by decide) (by decide)
 c7:=chk_of 7 _ XZ321 (by simp [ceK]) (ceK_only 7 _ rfl (by simp [ceK])) (by decide) (by decide)
 c3:=chk_of 3 _ XZ316 (by simp [ceK]) (ceK_only 3 _ rfl (by simp [ceK])) (by decide) (by decide)
 c5:=chk_of 5 _ XZ319 (by simp [ceK]) (ceK_only 5 _ rfl (by simp [ceK])) (by decide) (by decide)
 c6:=chk_of 6 _ XZ320 (by simp [ceK]) (ceK_only 6 _ rfl (by simp [ceK])) (by decide) (by decide)
theorem fg_vs (l:List Int):((cvs l).map VV.v).map VV.fg=(cvs l).map VV.v:=by
 unfold cvs
 rw [List.map_map,List.map_map,List.map_map]
 exact List.map_congr_left fun x _=>fg_int .i64 x
theorem build_i (i:Nat) (hi:i<12):VD Tryz.prog bF [.v (.string (srcB i))] (.tup [.agg (VEnc.e (srcP i)),vi 0]):=fun σ=>by
 have ha:∀ S (args':Array Value),VRelL σ.G S [.v (.string (srcB i))] args'.toList→args'.toList=[.string (srcB i)]:=fun S args' h=>VRelL.v_inv (l:=[.string (srcB i)]) h
 have hin:ceB i∈ceL:=List.mem_append.2 (.inl (List.mem_map.2 ⟨i,List.mem_range.2 hi,rfl⟩))
 have hun:∀ e∈ceL,e.f=bF→∀ S,e.cond S [.string (srcB i)]→e.out S=(ceB i).out S:=fun e he hef S hc=>by
  rcases ceL_f he with ⟨_,j,hj,rfl⟩|⟨h,_⟩ | h
  ·have hij:srcB i=srcB j:=by
    unfold ceB at hc
    split at hc
    ·have hc:[Value.string (srcB i)]=[.string (srcB j)]:=hc
     simpa using hc
    ·have hc:[Value.string (srcB i)]=[.string (srcB 11)]:=hc
     have hj11:j=11:=by omega
     rw [hj11];simpa using hc
   rw [srcB_inj hi hj hij]
  ·exact absurd (hef.symm.trans h) (by decide)
  ·exact absurd hef (ceK_f h).1
 by_cases h11:i<11
 ·have e:ceB i=ceG bF [.string (srcB i)] (srcN i) (cvs (srcC i)) (cvs (srcR i)) 2 (.int .i64 0) 0:=by unfold ceB;rw [if_pos h11]
  rw [e]at hin
  refine VG.mono (VC_gen (f:=bF) XZ26 hin ha (fun x hx hf S hc=>by rw [← e];exact hun x hx hf S hc) (cvs_flat _) (cvs_flat _) rfl (by unfold cvs;rw [List.length_map,srcC_len hi];omega)) fun r σ' h=>⟨h.1,?_⟩
  rw [h.2,srcP_v hi]
  simp only [fg_tup,fg_agg,List.map_cons,List.map_nil,fg_int,VV.fg,fg_vs]
 ·obtain rfl:i=11:=by omega
  have e:ceB 11=ceF bF [.string (srcB 11)] b11:=rfl
  rw [e]at hin
  refine VG.mono (VC_fl (f:=bF) XZ26 _ _ hin (fun x hx hf S hc=>hun x hx hf S hc) ha (by kernel_rfl)) fun r σ' h=>⟨h.1,?_⟩
  rw [h.2,srcP_v hi]
  show VV.fg (.tup [.agg (.v (.slice none 0 0)::(cvs (srcR 11)).map .v),vi 0])=_
  simp only [fg_tup,fg_agg,List.map_cons,List.map_nil,fg_int,fg_nilS,fg_vs]
  rfl
theorem verify_i (i:Nat) (hi:i<12):VD Tryz.prog vF [.agg (VEnc.e (srcP i))] (vi 0):=fun σ=>by
 have hin:ceV i∈ceL:=List.mem_append.2 (.inr (List.mem_append.2 (.inl (List.mem_map.2 ⟨i,List.mem_range.2 hi,rfl⟩))))
 rw [srcP_v hi]
 refine VG.mono (VC_row (f:=vF) XZ30 (cvs (srcC i)) (cvs (srcR i)) (.int .i64 0) rfl rfl hin (fun e he hef S=>?_) rfl) fun r σ' h=>⟨h.1,by rw [h.2];exact fg_int _ 0⟩
 rcases ceL_f he with ⟨h,_⟩|⟨_,j,hj,rfl⟩ | h
 ·exact absurd (hef.symm.trans h) (by decide)
 ·rfl
 ·exact absurd hef (ceK_f h).2
noncomputable instance theSrc:SrcOK:=⟨build_i,verify_i⟩
theorem errors_any (l:List Int) (hl:∀ x∈l,I64 x) (how n which:Int) (h1:I64 how) (h2:I64 n) (h3:I64 which):VD Tryz.prog 3 [vl l,vi how,vi n,vi which] (vb true):=fun σ=>law_any l hl how n which h1 h2 h3 σ
theorem shrinkErrors_any {a:Value} {l:List Int} {how n which:Int} {S:St} (ha:RdS S a l) (hl:∀ x∈l,-9223372036854775808≤x∧x≤9223372036854775807) (h1 : -9223372036854775808≤how∧how≤9223372036854775807) (h2 : -9223372036854775808≤n∧n≤9223372036854775807) (h3 : -9223372036854775808≤which∧which≤9223372036854775807) :
  XC Tryz.prog 3 #[a,.int .i64 how,.int .i64 n,.int .i64 which] S fun r S'=>Ext S S'∧r=.bool true:=
 VD.law (errors_any l hl how n which h1 h2 h3) (.cons ha.vl (.cons (.int _) (.cons (.int _) (.cons (.int _) .nil))))
end Go.Proofs.YtghcggoodgfaoaaGreatDoor

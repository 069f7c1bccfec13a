/- Configurations out of numbers. Small configurations; they may be run. slices.Clone at the simulation's types (printed by a program). The world: configurations checked and owned, a new world. The world: a configuration's copy, a new world. The world: a new world. -/
import Derived.Test.YtiinecnjokaejaaGreatDoorZAa
import Derived.Test.YtiinecnjokaejaaGreatDoorZVb
set_option linter.unusedSimpArgs false
set_option linter.unusedSectionVars false
set_option linter.unusedVariables false
namespace Go.Proofs.YtiinecnjokaejaaGreatDoor
open Go Go.RowKit
def I64 (n:Int):Prop:=-9223372036854775808≤n∧n≤9223372036854775807
theorem aroundI_range {n m:Int} (h:I64 n) (hm:1≤m):0≤aroundI n m∧aroundI n m < m:=by
 unfold I64 at h
 unfold aroundI
 split
 ·rw [w64_ok (n:=n+1) (by omega) (by omega),w64_ok (by omega) (by omega)]
  exact ⟨Int.tmod_nonneg _ (by omega),Int.tmod_lt_of_pos _ (by omega)⟩
 ·exact ⟨Int.tmod_nonneg _ (by omega),Int.tmod_lt_of_pos _ (by omega)⟩
theorem pickI_range {l:List Int} (h:∀ x∈l,I64 x) (i:Nat) {m:Int} (hm:1≤m):0≤pickI l i m∧pickI l i m < m:=by
 unfold pickI
 split
 ·rename_i x hx
  exact aroundI_range (h x (List.mem_of_getElem? hx)) hm
 ·omega
theorem I64.of {n:Int} (h0:0≤n) (h1:n≤1000000):I64 n:=by unfold I64;omega
theorem w64_1' {i:Nat} (h:i≤1000000):w64 ((i:Int)+1)=((i+1:Nat):Int):=by rw [w64_ok (by omega) (by omega)];omega
class SrcOK [Prim Tryz.prog]:Prop where
 build:∀ i,i < 12→VD Tryz.prog 24 [.v (.string (srcB i))] (.tup [.agg (VEnc.e (srcP i)),vi 0])
 verify:∀ i,i < 12→VD Tryz.prog 76 [.agg (VEnc.e (srcP i))] (vi 0)
structure GenCfg (c:Cfg):Prop where
 progs:1≤c.programs.length∧c.programs.length≤2
 prog:∀ p∈c.programs,∃ i,i < 12∧p=srcP i
 first:1≤c.first.length∧c.first.length≤3
 firsts:∀ v∈c.first,0≤v∧v < c.programs.length
 restarts:∀ v∈c.restarts,0≤v∧v < c.programs.length
 rlen:c.restarts.length≤2
 reqs:c.requests.length≤6
 req:∀ r∈c.requests,0≤r.node∧r.node < c.first.length∧0≤r.op∧r.op≤4∧1≤r.key∧r.key≤2∧1≤r.arg∧r.arg≤6
 crashes:0≤c.crashes∧c.crashes≤1
 drops:0≤c.drops∧c.drops≤1
 dups:0≤c.dups∧c.dups≤1
 drift:0≤c.drift∧c.drift≤1
theorem vsplice_all (l x:List VV) (h:l.length=x.length):vsplice l 0 x=x:=by
 unfold vsplice
 rw [List.take_zero,List.nil_append,Nat.zero_add,← h,List.drop_length,List.append_nil]
theorem nf1_0 (x:Nat):(1+x=0)=False:=eq_false (by omega)
theorem nfr1_0 (x:Nat):(0=1+x)=False:=eq_false (by omega)
theorem nf2_0 (x:Nat):(2+x=0)=False:=eq_false (by omega)
theorem nfr2_0 (x:Nat):(0=2+x)=False:=eq_false (by omega)
theorem nf2_1 (x:Nat):(2+x=1)=False:=eq_false (by omega)
theorem nfr2_1 (x:Nat):(1=2+x)=False:=eq_false (by omega)
theorem nf3_0 (x:Nat):(3+x=0)=False:=eq_false (by omega)
theorem nfr3_0 (x:Nat):(0=3+x)=False:=eq_false (by omega)
theorem nf3_1 (x:Nat):(3+x=1)=False:=eq_false (by omega)
theorem nfr3_1 (x:Nat):(1=3+x)=False:=eq_false (by omega)
theorem nf3_2 (x:Nat):(3+x=2)=False:=eq_false (by omega)
theorem nfr3_2 (x:Nat):(2=3+x)=False:=eq_false (by omega)
theorem nf4_0 (x:Nat):(4+x=0)=False:=eq_false (by omega)
theorem nfr4_0 (x:Nat):(0=4+x)=False:=eq_false (by omega)
theorem nf4_1 (x:Nat):(4+x=1)=False:=eq_false (by omega)
theorem nfr4_1 (x:Nat):(1=4+x)=False:=eq_false (by omega)
theorem nf4_2 (x:Nat):(4+x=2)=False:=eq_false (by omega)
theorem nfr4_2 (x:Nat):(2=4+x)=False:=eq_false (by omega)
theorem nf4_3 (x:Nat):(4+x=3)=False:=eq_false (by omega)
theorem nfr4_3 (x:Nat):(3=4+x)=False:=eq_false (by omega)
theorem nf5_0 (x:Nat):(5+x=0)=False:=eq_false (by omega)
theorem nfr5_0 (x:Nat):(0=5+x)=False:=eq_false (by omega)
theorem nf5_1 (x:Nat):(5+x=1)=False:=eq_false (by omega)
theorem nfr5_1 (x:Nat):(1=5+x)=False:=eq_false (by omega)
theorem nf5_2 (x:Nat):(5+x=2)=False:=eq_false (by omega)
theorem nfr5_2 (x:Nat):(2=5+x)=False:=eq_false (by omega)
theorem nf5_3 (x:Nat):(5+x=3)=False:=eq_false (by omega)
theorem nfr5_3 (x:Nat):(3=5+x)=False:=eq_false (by omega)
theorem nf5_4 (x:Nat):(5+x=4)=False:=eq_false (by omega)
theorem nfr5_4 (x:Nat):(4=5+x)=False:=eq_false (by omega)
theorem nf6_0 (x:Nat):(6+x=0)=False:=eq_false (by omega)
theorem nfr6_0 (x:Nat):(0=6+x)=False:=eq_false (by omega)
theorem nf6_1 (x:Nat):(6+x=1)=False:=eq_false (by omega)
theorem nfr6_1 (x:Nat):(1=6+x)=False:=eq_false (by omega)
theorem nf6_2 (x:Nat):(6+x=2)=False:=eq_false (by omega)
theorem nfr6_2 (x:Nat):(2=6+x)=False:=eq_false (by omega)
theorem nf6_3 (x:Nat):(6+x=3)=False:=eq_false (by omega)
theorem nfr6_3 (x:Nat):(3=6+x)=False:=eq_false (by omega)
theorem nf6_4 (x:Nat):(6+x=4)=False:=eq_false (by omega)
theorem nfr6_4 (x:Nat):(4=6+x)=False:=eq_false (by omega)
theorem nf6_5 (x:Nat):(6+x=5)=False:=eq_false (by omega)
theorem nfr6_5 (x:Nat):(5=6+x)=False:=eq_false (by omega)
theorem nf7_0 (x:Nat):(7+x=0)=False:=eq_false (by omega)
theorem nfr7_0 (x:Nat):(0=7+x)=False:=eq_false (by omega)
theorem nf7_1 (x:Nat):(7+x=1)=False:=eq_false (by omega)
theorem nfr7_1 (x:Nat):(1=7+x)=False:=eq_false (by omega)
theorem nf7_2 (x:Nat):(7+x=2)=False:=eq_false (by omega)
theorem nfr7_2 (x:Nat):(2=7+x)=False:=eq_false (by omega)
theorem nf7_3 (x:Nat):(7+x=3)=False:=eq_false (by omega)
theorem nfr7_3 (x:Nat):(3=7+x)=False:=eq_false (by omega)
theorem nf7_4 (x:Nat):(7+x=4)=False:=eq_false (by omega)
theorem nfr7_4 (x:Nat):(4=7+x)=False:=eq_false (by omega)
theorem nf7_5 (x:Nat):(7+x=5)=False:=eq_false (by omega)
theorem nfr7_5 (x:Nat):(5=7+x)=False:=eq_false (by omega)
theorem nf7_6 (x:Nat):(7+x=6)=False:=eq_false (by omega)
theorem nfr7_6 (x:Nat):(6=7+x)=False:=eq_false (by omega)
set_option linter.defProp false in
def nfU:=And.intro @nf1_0 (And.intro @nfr1_0 (And.intro @nf2_0 (And.intro @nfr2_0 (And.intro @nf2_1 (And.intro @nfr2_1 (And.intro @nf3_0 (And.intro @nfr3_0 (And.intro @nf3_1 (And.intro @nfr3_1 (And.intro @nf3_2 (And.intro @nfr3_2 (And.intro @nf4_0 (And.intro @nfr4_0 (And.intro @nf4_1 (And.intro @nfr4_1 (And.intro @nf4_2 (And.intro @nfr4_2 (And.intro @nf4_3 (And.intro @nfr4_3 (And.intro @nf5_0 (And.intro @nfr5_0 (And.intro @nf5_1 (And.intro @nfr5_1 (And.intro @nf5_2 (And.intro @nfr5_2 (And.intro @nf5_3 (And.intro @nfr5_3 (And.intro @nf5_4 (And.intro @nfr5_4 (And.intro @nf6_0 (And.intro @nfr6_0 (And.intro @nf6_1 (And.intro @nfr6_1 (And.intro @nf6_2 (And.intro @nfr6_2 (And.intro @nf6_3 (And.intro @nfr6_3 (And.intro @nf6_4 (And.intro @nfr6_4 (And.intro @nf6_5 (And.intro @nfr6_5 (And.intro @nf7_0 (And.intro @nfr7_0 (And.intro @nf7_1 (And.intro @nfr7_1 (And.intro @nf7_2 (And.intro @nfr7_2 (And.intro @nf7_3 (And.intro @nfr7_3 (And.intro @nf7_4 (And.intro @nfr7_4 (And.intro @nf7_5 (And.intro @nfr7_5 (And.intro @nf7_6 (@nfr7_6)))))))))))))))))))))))))))))))))))))))))))))))))))))))
theorem takeP (s:Prg):(VEnc.e s).take 43=VEnc.e s:=List.take_of_length_le (by rw [lenPrg];exact Nat.le_refl _)
theorem VBuild.one {α:Type} [VEnc α] {σ:VSt} {K:VV→VSt→Bool→Prop} {e:TypeId} {esz w:Nat} {z:List Value} (x:α) {v:VV} (h1:z.length=esz) (hw:esz=VEnc.w α) (hw2:w=esz) (hv:v.cs=VEnc.e x) (hk:K (vo [x] σ.next) σ.newTok true):@VBuild e esz 1 z [(0,w,v)] ⟨(σ,K)⟩:=by
 have hz:((rep 1 z).map VV.v).length=esz:=by simp [rep,h1]
 refine VBuild.own (l:=VEnc.e x) h1 ?_ (VEnc.all x) ?_
 ·rw [vfill_cons,if_pos ⟨by rw [hv,hw2,hw,VEnc.len],by rw [hz,hw2];omega⟩,vfill_nil,hv,vsplice_all _ _ (by rw [hz,hw,VEnc.len])]
 ·have:=hk
  unfold vo at this
  rw [vencs_one,← hw] at this
  rw [VEnc.fgd]
  exact this
theorem w64_dv {a m:Int} (h0:0≤a) (h1:a≤1000000) (hm:0 < m):w64 (a.tdiv m)=a.tdiv m∧0≤w64 (a.tdiv m)∧w64 (a.tdiv m)≤1000000:=by
 have hp:0≤a.tdiv m:=Int.tdiv_nonneg h0 (by omega)
 have hq:a.tdiv m≤a:=by
  rw [Int.tdiv_eq_ediv_of_nonneg h0]
  exact Int.ediv_le_self _ h0
 rw [w64_ok (by omega) (by omega)]
 exact ⟨rfl,hp,by omega⟩
theorem rng01 {x m q:Int} (h0:0≤x) (hm:0 < m) (hq:0 < q) (hmq:m≤2 * q):0≤w64 ((x.tmod m).tdiv q)∧w64 ((x.tmod m).tdiv q)≤1:=by
 have a:=Int.tmod_nonneg m h0
 have b:=Int.tmod_lt_of_pos x hm
 have c:(x.tmod m).tdiv q < 2:=by
  rw [Int.tdiv_eq_ediv_of_nonneg a]
  exact Int.ediv_lt_of_lt_mul hq (by omega)
 have d:0≤(x.tmod m).tdiv q:=Int.tdiv_nonneg a (by omega)
 rw [w64_ok (by omega) (by omega)]
 omega
def ReqOK (n:Int) (r:Req):Prop:=0≤r.node∧r.node < n∧0≤r.op∧r.op≤4∧1≤r.key∧r.key≤2∧1≤r.arg∧r.arg≤6
theorem pick8 (x:Int) (h0:0≤x):∀ h:(x.tmod 8).toNat < ([0,1,2,3,4,0,1,3]:List Int).length,0≤([0,1,2,3,4,0,1,3]:List Int)[(x.tmod 8).toNat]'h∧([0,1,2,3,4,0,1,3]:List Int)[(x.tmod 8).toNat]'h≤4:=fun h=>
 (show ∀ y∈([0,1,2,3,4,0,1,3]:List Int),0≤y∧y≤4 by decide) _ (List.getElem_mem h)
theorem w64_6 {i:Nat} (h:i≤1000000):w64 (6+(i:Int))=((6+i:Nat):Int):=by rw [w64_ok (by omega) (by omega)];omega
theorem Rd.vAll {α:Type} [VEnc α] {v:VV} {l:List α} (h:Rd v l):∀ r,Go.Proofs.YtiinecnjokaejaaGreatDoor.vAll (v::r)=Go.Proofs.YtiinecnjokaejaaGreatDoor.vAll r:=fun r=>by
 rcases h with ⟨rfl,_⟩ | ⟨t,rfl⟩ | rfl
 ·exact vAll_v _ _
 ·exact vAll_vo _ _ _
 ·exact vAll_vl _ _
theorem Rd.cs1 {α:Type} [VEnc α] {v:VV} {l:List α} (h:Rd v l):v.cs=[v]:=by
 rcases h with ⟨rfl,_⟩ | ⟨t,rfl⟩ | rfl
 ·rfl
 ·rfl
 ·rfl
def PsOK (ps:List Prg):Prop:=1≤ps.length∧ps.length≤2∧∀ p∈ps,∃ i,i < 12∧p=srcP i
def zeroC:List VV:=[nilS,nilS,nilS,nilS,vi 0,vi 0,vi 0,vi 0]
section
variable [Prim Tryz.prog]
set_option maxRecDepth 100000 in
theorem sources_any:VD Tryz.prog 41 [] (vl srcT):=by
 intro σ
 refine VC_body XF41 ?_
 (repeat' (first | simp (decide:=true) only [↓wsD,wsU,List.map_cons,List.map_nil,true_and,wfU,List.map_cons,List.map_nil,Nat.le_refl,xf41] | ((with_reducible apply VBuild.enc [(⟨_⟩:Txt),(⟨_⟩:Txt),(⟨_⟩:Txt),(⟨_⟩:Txt),(⟨_⟩:Txt),(⟨_⟩:Txt),(⟨_⟩:Txt),(⟨_⟩:Txt),(⟨_⟩:Txt),(⟨_⟩:Txt),(⟨_⟩:Txt),(⟨_⟩:Txt)]);(exact rfl);(simp (decide:=true) only [wsU,List.map_cons,List.map_nil,List.append_nil,List.nil_append,List.cons_append,↓reduceIte,List.length_cons,List.length_nil,List.drop_zero,List.drop_succ_cons,List.take_succ_cons,List.take_zero,Nat.zero_add,Nat.reduceAdd,wfU,vsplice,rep,List.replicate_succ,List.replicate_zero,List.flatten_cons,List.flatten_nil];exact rfl);(exact rfl);(exact rfl);(exact rfl);((try simp only [List.map_cons,List.map_nil,fg_str]);exact rfl))))
 rfl
theorem source_any (n:Int) (hn:I64 n):VD Tryz.prog 25 [vi n] (.v (.string (srcB (aroundI n 12).toNat))):=by
 intro σ
 have hr:=aroundI_range hn (show (1:Int)≤12 by decide)
 have hl:=srcT_len
 refine VC_body XF25 ?_
 (repeat' (first | simp (decide:=true) only [↓wsD,wsU,List.map_cons,List.map_nil,ne_eq,List.drop_zero,List.take_succ_cons,List.take_zero,true_and,wfU,List.map_cons,List.map_nil,Nat.le_refl,VV.v.injEq,xf25,srcT_len,eTxt] | ((with_reducible apply VCall.goF);((try simp only [List.map_cons,List.map_nil,fg_int]);exact rfl);(first | exact sources_any | exact around_any n 12 (by decide));intro gn) | ((with_reducible refine Got_viaI ?_ ?_ ?_ ?_);(omega);(omega);(rfl)) | ((with_reducible refine Got_vld ?_ ?_ ?_);(omega);(decide))))
 unfold srcB
 rw [List.getD,List.getElem?_eq_getElem (by omega)]
 rfl
variable [SrcOK]
theorem build_any (i:Nat) (hi:i < 12):VD Tryz.prog 24 [.v (.string (srcB i))] (.tup [.agg (VEnc.e (srcP i)),vi 0]):=SrcOK.build i hi
set_option maxHeartbeats 4000000 in
set_option maxRecDepth 100000 in
theorem config_any (l:List Int) (hl:∀ x∈l,I64 x) (σ:VSt):VC Tryz.prog 11 [vl l] σ (fun r σ'=>σ.next≤σ'.low∧∃ c,GenCfg c∧r.fg=.agg (VEnc.e c)):=by
 refine VC_body XF11 ?_
 (repeat' (first | simp (decide:=true) only [↓wsD,wsU,List.map_cons,List.map_nil,List.length_cons,List.length_nil,Nat.zero_add,Nat.reduceAdd,encU,List.map_cons,List.map_nil,xf11]))
 refine VW_loopR 0 (fun k fe Z=>fe 0=vl l∧fe 2=.ptr σ.next 0∧σ.next≤Z.low∧σ.next+1≤Z.next∧Z.heap σ.next=.cells zeroC 26 8 σ.next∧∃ i:Nat,fe 4=vi i∧k+i=14∧∃ ks:List Int,App Z σ.next (fe 3) ks∧ks.length=i∧∀ x∈ks,0≤x∧x < 1000000)
  (fun fe Z=>fe 2=.ptr σ.next 0∧σ.next≤Z.low∧σ.next+1≤Z.next∧Z.heap σ.next=.cells zeroC 26 8 σ.next∧∃ ks:List Int,App Z σ.next (fe 3) ks∧ks.length=14∧∀ x∈ks,0≤x∧x < 1000000) 14 ?_ ?_ ?_
 ·(repeat' (first | simp (decide:=true) only [↓wsD,wsU,ne_eq,wmU,↓reduceIte,Nat.add_eq_left,true_and,Nat.le_refl,VV.v.injEq,Value.int.injEq,eq_self,true_and]))
  exact ⟨rfl,0,rfl,rfl,[],.nil _ _,rfl,fun x hx=>by simp at hx⟩
 ·rintro k fe Z ⟨f0,f2,hlo,hn,z0,i,f4,hk,ks,ha,hkl,hks⟩
  (repeat' (first | simp (decide:=true) only [↓wsD,wsU,List.map_cons,List.map_nil,ne_eq,wmU,Nat.add_assoc,true_and,List.map_cons,List.map_nil,VV.v.injEq,Value.int.injEq,eq_self,f0,f2,f4,z0] | ((with_reducible apply VCall.goF);((try simp only [List.map_cons,List.map_nil,fg_int,fg_vl]);exact rfl);(first | exact pick_any l i 1000000 (by decide));intro gn) | ((with_reducible refine TestV_decE (fun _ gd=>?_) (fun _ gd=>?_))<;>(try rw [gd])) | ((with_reducible apply VBuild.enc [(_:Int)]);(exact rfl);(simp (decide:=true) only [wsU,List.map_cons,List.map_nil,List.append_nil,List.nil_append,↓reduceIte,List.length_cons,List.length_nil,List.drop_zero,List.drop_succ_cons,List.take_zero,Nat.zero_add,and_self,wfU,vsplice,rep,List.replicate_succ,List.replicate_zero,List.flatten_cons,List.flatten_nil];exact rfl);(exact rfl);(exact rfl);(exact rfl);((try simp only [List.map_cons,List.map_nil,fg_int]);exact rfl)) | ((with_reducible apply VAppend.app1 (α:=Int) (b:=σ.next));rotate_left 2;((first | exact vcont_vo _ _ _ rfl | exact vcont_vl _ _ rfl | exact App.cont (by assumption) _ rfl | exact Rd.cont (by assumption) _ rfl));rotate_right 2;(first | omega | (simp only [List.length_cons,List.length_nil];omega));(first | assumption | exact App.nil _ _ | exact App.new (by first | omega | (simp only [low_skip,low_box,low_write,low_newTok,low_fresh,low_pu,next_skip,next_box,next_write,next_newTok,next_fresh,next_pu];omega)) | ((repeat (first | (with_reducible refine App.newE ?_ ?_<;>(simp only [low_skip,low_box,low_write,low_newTok,low_fresh,low_pu,next_skip,next_box,next_write,next_newTok,next_fresh,next_pu];omega)) | with_reducible apply App.skip | with_reducible apply App.box | with_reducible apply App.newTok | with_reducible apply App.write | with_reducible apply App.alloc));(try (first | assumption | exact App.new (by first | omega | (simp only [low_skip,low_box,low_write,low_newTok,low_fresh,low_pu,next_skip,next_box,next_write,next_newTok,next_fresh,next_pu];omega)) | exact App.newE (by (simp only [low_skip,low_box,low_write,low_newTok,low_fresh,low_pu,next_skip,next_box,next_write,next_newTok,next_fresh,next_pu]);omega) (by first | omega | (simp only [low_skip,low_box,low_write,low_newTok,low_fresh,low_pu,next_skip,next_box,next_write,next_newTok,next_fresh,next_pu];omega)) | exact App.weak (by assumption) (by first | omega | (simp only [low_skip,low_box,low_write,low_newTok,low_fresh,low_pu,next_skip,next_box,next_write,next_newTok,next_fresh,next_pu];omega))))));(exact rfl);(unfold reach;(try simp only [List.length_cons,List.length_nil]);omega);decide;(first | omega | (simp only [next_skip,next_newTok];omega));intro gt gn glo glv ga g1 g2 g3;try simp only [low_skip,low_newTok] at g1 g2)))
  ·have hp:=pickI_range hl i (m:=1000000) (by decide)
   refine ⟨k - 1,by omega,by omega,by omega,i+1,w64_1' (by omega),by omega,_,ga,by rw [List.length_append,hkl];rfl,fun x hx=>?_⟩
   rcases List.mem_append.1 hx with hx | hx
   ·exact hks x hx
   ·rw [List.mem_singleton.1 hx];exact hp
  ·exact ⟨hlo,hn,ks,ha,by omega,hks⟩
 ·rintro fe Z ⟨f2,hlo,hn,z0,ks,ha,hkl,hks⟩
  have hI:∀ (i:Nat) (h:i < ks.length),I64 ks[i]:=fun i h=>by have:=hks _ (List.getElem_mem h);exact I64.of this.1 (by omega)
  have hQ:∀ (i:Nat) (h:i < ks.length) (m:Int),0 < m→I64 (w64 (ks[i].tdiv m)):=fun i h m hm=>by have:=hks _ (List.getElem_mem h);have:=w64_dv this.1 (show ks[i]≤1000000 by omega) hm;exact I64.of this.2.1 this.2.2
  have hBQ:∀ (i:Nat) (h:i < ks.length) (m:Int),0 < m→(aroundI (w64 (ks[i].tdiv m)) 12).toNat < 12:=fun i h m hm=>by have:=aroundI_range (hQ i h m hm) (show (1:Int)≤12 by decide);omega
  have hB:∀ (i:Nat) (h:i < ks.length),(aroundI ks[i] 12).toNat < 12:=fun i h=>by have:=aroundI_range (hI i h) (show (1:Int)≤12 by decide);omega
  (repeat' (first | simp (decide:=true) only [↓wsC,wsU,List.map_cons,List.map_nil,ne_eq,List.append_nil,List.nil_append,wmU,↓reduceIte,List.length_cons,List.length_nil,List.drop_zero,List.drop_succ_cons,List.take_succ_cons,List.take_zero,Nat.zero_add,Nat.add_assoc,Nat.reduceAdd,and_self,vsplice,encU,List.map_cons,List.map_nil,Nat.le_refl,List.append_nil,Int.toNat_zero,VEnc.all,eq_self,takeP] | ((with_reducible apply VCall.goF);((try simp only [List.map_cons,List.map_nil,fg_int,fg_str]);exact rfl);(first | exact source_any _ (hI _ _) | exact build_any _ (hB _ _));intro gn) | ((with_reducible refine Got_vld ?_ ?_ ?_);(omega);(decide)) | ((with_reducible apply Got_viaRI (α:=Int));(first | (apply App.rd;assumption) | assumption);omega;omega;rfl)))
  refine VBuild.one (srcP (aroundI ks[0] 12).toNat) rfl rfl rfl (cs_agg _) ?_
  (repeat' (first | simp (decide:=true) only [↓wsC,wsU,ne_eq,List.nil_append,List.cons_append,Nat.add_zero,wmU,↓reduceIte,Nat.left_eq_add,List.length_cons,List.length_nil,List.drop_zero,List.drop_succ_cons,List.take_succ_cons,List.take_zero,Nat.zero_add,Nat.add_assoc,and_self,vsplice,Int.toNat_zero,Int.toNat_one,eq_self,nfU] | ((with_reducible refine Got_rem ?_ ?_);(first | assumption | omega)) | ((with_reducible refine Got_vld ?_ ?_ ?_);(omega);(decide)) | ((with_reducible apply Got_viaRI (α:=Int));(first | (apply App.rd;assumption) | assumption);omega;omega;rfl)))
  have hrk:=ha.rd
  have e0:(σ.next=Z.next)=False:=eq_false (by omega)
  have e1:∀ x,(σ.next=Z.next+x)=False:=fun x=>eq_false (by omega)
  have e2:(Z.next=σ.next)=False:=eq_false (by omega)
  have e3:∀ x,(Z.next+x=σ.next)=False:=fun x=>eq_false (by omega)
  refine VW_cut (fun fe' A=>fe' 2=.ptr σ.next 0∧fe' 3=fe 3∧fe' 5=.ptr Z.next 0∧σ.next≤A.low∧Z.next+1≤A.next∧A.heap σ.next=.cells zeroC 26 8 σ.next∧∃ (pv:VV) (ps:List Prg),Rd pv ps∧PsOK ps∧A.heap Z.next=.cells [pv,nilS,nilS,nilS,vi 0,vi 0,vi 0,vi 0] 26 8 Z.next) ?_ ?_
  ·(repeat' (first | simp (decide:=true) only [↓wsD,wsU,List.map_cons,List.map_nil,ne_eq,List.append_nil,List.nil_append,Nat.add_zero,wmU,↓reduceIte,Nat.left_eq_add,List.length_cons,List.length_nil,List.drop_zero,List.drop_succ_cons,List.take_succ_cons,List.take_zero,Nat.zero_add,Nat.add_assoc,Nat.reduceAdd,Nat.reduceLeDiff,true_and,and_self,vsplice,encU,List.map_cons,List.map_nil,Nat.le_refl,List.append_nil,Nat.le_min,Int.toNat_one,VEnc.all,eq_self,f2,z0,takeP,nfU,e0,e1] | ((with_reducible apply VCall.goF);((try simp only [List.map_cons,List.map_nil,fg_int,fg_str]);exact rfl);(first | exact source_any _ (hQ _ _ 3 (by decide)) | exact build_any _ (hBQ _ _ 3 (by decide)));intro gn) | ((with_reducible refine TestV_decE (fun _ gd=>?_) (fun _ gd=>?_))<;>(try rw [gd])) | ((with_reducible refine Got_quo ?_ ?_);(first | assumption | omega)) | ((with_reducible refine Got_vld ?_ ?_ ?_);(omega);(decide)) | ((with_reducible apply Got_viaRI (α:=Int));(first | (apply App.rd;assumption) | assumption);omega;omega;rfl)))
   ·refine VBuild.one (srcP (aroundI (w64 (ks[1].tdiv 3)) 12).toNat) rfl rfl rfl (cs_agg _) ?_
    (repeat' (first | simp (decide:=true) only [↓wsD,wsU,ne_eq,List.nil_append,List.cons_append,Nat.add_zero,wmU,↓reduceIte,Nat.left_eq_add,List.length_cons,List.length_nil,List.drop_zero,List.drop_succ_cons,List.take_zero,Nat.zero_add,Nat.add_assoc,Nat.reduceAdd,Nat.reduceLeDiff,true_and,and_self,vsplice,Nat.le_min,eq_self,f2,z0,nfU,e0,e1] | ((with_reducible apply VAppend.appO (α:=Prg) (b:=σ.next));(first | assumption | exact App.nil _ _ | exact App.new (by first | omega | (simp only [low_skip,low_box,low_write,low_newTok,low_fresh,low_pu,next_skip,next_box,next_write,next_newTok,next_fresh,next_pu];omega)) | ((repeat (first | (with_reducible refine App.newE ?_ ?_<;>(simp only [next_skip,next_box,next_write,next_newTok];omega)) | with_reducible apply App.skip | with_reducible apply App.box | with_reducible apply App.newTok | with_reducible apply App.write | with_reducible apply App.alloc));(try (first | assumption | exact App.new (by first | omega | (simp only [low_skip,low_box,low_write,low_newTok,low_fresh,low_pu,next_skip,next_box,next_write,next_newTok,next_fresh,next_pu];omega)) | exact App.newE (by (simp only [low_skip,low_box,low_write,low_newTok,low_fresh,low_pu,next_skip,next_box,next_write,next_newTok,next_fresh,next_pu]);omega) (by first | omega | (simp only [low_skip,low_box,low_write,low_newTok,low_fresh,low_pu,next_skip,next_box,next_write,next_newTok,next_fresh,next_pu];omega)) | exact App.weak (by assumption) (by first | omega | (simp only [low_skip,low_box,low_write,low_newTok,low_fresh,low_pu,next_skip,next_box,next_write,next_newTok,next_fresh,next_pu];omega))))));(first | exact vcont_vo _ _ _ rfl | exact vcont_vl _ _ rfl | exact App.cont (by assumption) _ rfl | exact Rd.cont (by assumption) _ rfl);(exact rfl);(unfold reach;(try simp only [List.length_cons,List.length_nil]);omega);decide;(first | omega | (simp only [next_skip,next_box,next_write,next_newTok];omega));intro gt gn glo glv ga g1 g2 g3;try simp only [low_skip,low_box,low_write,low_newTok] at g1 g2)))
    exact ⟨⟨by omega,by omega⟩,by omega,_,_,.inr (.inl ⟨_,rfl⟩),⟨by simp,by simp,fun p hp=>by
     rcases List.mem_cons.1 hp with rfl | hp
     ·exact ⟨_,hB 0 (by omega),rfl⟩
     ·rw [List.mem_singleton.1 hp];exact ⟨_,hBQ 1 (by omega) 3 (by decide),rfl⟩⟩,rfl⟩
   ·exact ⟨⟨⟨by omega,by omega⟩,by omega⟩,by omega,_,_,.inr (.inl ⟨_,rfl⟩),⟨by simp,by simp,fun p hp=>by
     rw [List.mem_singleton.1 hp];exact ⟨_,hB 0 (by omega),rfl⟩⟩,rfl⟩
  ·rintro fe1 A ⟨a2,a3,a5,alo,an,az,pv,ps,hpv,hps,aq⟩
   have d0:(σ.next=A.next)=False:=eq_false (by omega)
   have d1:∀ x,(σ.next=A.next+x)=False:=fun x=>eq_false (by omega)
   have d2:(Z.next=A.next)=False:=eq_false (by omega)
   have d3:∀ x,(Z.next=A.next+x)=False:=fun x=>eq_false (by omega)
   (repeat' (first | simp (decide:=true) only [↓wsC,wsU,List.drop_zero,List.take_succ_cons,List.take_zero,Int.reduceToNat,a3] | ((with_reducible refine Got_rem ?_ ?_);(first | assumption | omega)) | ((with_reducible refine Got_vld ?_ ?_ ?_);(omega);(decide)) | ((with_reducible apply Got_viaRI (α:=Int));(first | (apply App.rd;assumption) | assumption);omega;omega;rfl)))
   obtain ⟨nn,hnn⟩:∃ nn:Int,nn=w64 (1+(w64 (ks[2]+1)).tmod 3):=⟨_,rfl⟩
   have hnr:1≤nn∧nn≤3:=by
    have h2:=hks _ (List.getElem_mem (show 2 < ks.length by omega))
    rw [w64_ok (n:=ks[2]+1) (by omega) (by omega)] at hnn
    have a:=Int.tmod_nonneg 3 (show 0≤ks[2]+1 by omega)
    have b:=Int.tmod_lt_of_pos (ks[2]+1) (show (0:Int) < 3 by decide)
    rw [w64_ok (by omega) (by omega)] at hnn
    omega
   have hp1:=hps.1
   refine VW_loopR 2 (fun k fe' B=>fe' 2=.ptr σ.next 0∧fe' 3=fe 3∧fe' 5=.ptr Z.next 0∧fe' 10=vi nn∧σ.next≤B.low∧Z.next+1≤B.next∧B.heap σ.next=.cells zeroC 26 8 σ.next∧∃ (fv:VV) (fs:List Int) (i:Nat),B.heap Z.next=.cells [pv,fv,nilS,nilS,vi 0,vi 0,vi 0,vi 0] 26 8 Z.next∧App B σ.next fv fs∧fe' 11=vi i∧fs.length=i∧k+i=3∧(i:Int)≤nn∧∀ v∈fs,0≤v∧v < ps.length)
    (fun fe' B=>fe' 2=.ptr σ.next 0∧fe' 3=fe 3∧fe' 5=.ptr Z.next 0∧fe' 10=vi nn∧σ.next≤B.low∧Z.next+1≤B.next∧B.heap σ.next=.cells zeroC 26 8 σ.next∧∃ (fv:VV) (fs:List Int),B.heap Z.next=.cells [pv,fv,nilS,nilS,vi 0,vi 0,vi 0,vi 0] 26 8 Z.next∧Rd fv fs∧(fs.length:Int)=nn∧∀ v∈fs,0≤v∧v < ps.length) 3 ?_ ?_ ?_
   ·(repeat' (first | simp (decide:=true) only [↓wsD,ne_eq,Nat.add_eq_left,true_and,VV.v.injEq,Value.int.injEq,eq_self,true_and,a2,a3,a5,az,aq]))
    exact ⟨hnn.symm,alo,an,_,[],0,rfl,.nil _ _,rfl,rfl,rfl,by omega,fun v hv=>by simp at hv⟩
   ·rintro k fe2 B ⟨b2,b3,b5,b10,blo,bn,bz,fv,fs,i,bq,bA,b11,bl,bk,bi,bf⟩
    (repeat' (first | simp (decide:=true) only [↓wsD,wsU,List.zip_cons_cons,List.zip_nil_left,List.map_cons,List.map_nil,ne_eq,List.nil_append,List.cons_append,Nat.add_zero,wmU,↓reduceIte,List.length_cons,List.length_nil,List.drop_zero,List.drop_succ_cons,List.take_succ_cons,List.take_zero,Nat.zero_add,Nat.add_assoc,Nat.reduceAdd,Nat.reduceLeDiff,true_and,and_self,vsplice,List.map_cons,List.map_nil,VV.v.injEq,Value.int.injEq,Nat.le_min,Int.reduceToNat,eq_self,b2,b3,b5,b10,b11,bz,bq,e0,w64_1' (show i≤1000000 by omega)] | ((with_reducible refine TestV_decE (fun _ gd=>?_) (fun _ gd=>?_))<;>(try rw [gd])) | ((with_reducible refine Got_quo ?_ ?_);(first | assumption | omega)) | ((with_reducible refine Got_rem ?_ ?_);(first | assumption | omega)) | ((with_reducible refine Got_vld ?_ ?_ ?_);(omega);(decide)) | ((with_reducible apply Got_viaRI (α:=Int));(first | (apply App.rd;assumption) | assumption);omega;omega;rfl) | ((with_reducible apply Got_lenR (α:=Prg));(first | (apply App.rd;assumption) | assumption)) | ((with_reducible apply VBuild.enc [(_:Int)]);(exact rfl);(simp (decide:=true) only [wsU,List.map_cons,List.map_nil,List.append_nil,List.nil_append,↓reduceIte,List.length_cons,List.length_nil,List.drop_zero,List.drop_succ_cons,List.take_zero,Nat.zero_add,and_self,wfU,vsplice,rep,List.replicate_succ,List.replicate_zero,List.flatten_cons,List.flatten_nil];exact rfl);(exact rfl);(exact rfl);(exact rfl);((try simp only [List.map_cons,List.map_nil,fg_int]);exact rfl)) | ((with_reducible apply VAppend.app1 (α:=Int) (b:=σ.next));rotate_left 2;((first | exact vcont_vo _ _ _ rfl | exact vcont_vl _ _ rfl | exact App.cont (by assumption) _ rfl | exact Rd.cont (by assumption) _ rfl));rotate_right 2;(first | omega | (simp only [List.length_cons,List.length_nil];omega));(first | assumption | exact App.nil _ _ | exact App.new (by first | omega | (simp only [low_skip,low_box,low_write,low_newTok,low_fresh,low_pu,next_skip,next_box,next_write,next_newTok,next_fresh,next_pu];omega)) | ((repeat (first | (with_reducible refine App.newE ?_ ?_<;>(simp only [low_skip,low_box,low_write,low_newTok,low_fresh,low_pu,next_skip,next_box,next_write,next_newTok,next_fresh,next_pu];omega)) | with_reducible apply App.skip | with_reducible apply App.box | with_reducible apply App.newTok | with_reducible apply App.write | with_reducible apply App.alloc));(try (first | assumption | exact App.new (by first | omega | (simp only [low_skip,low_box,low_write,low_newTok,low_fresh,low_pu,next_skip,next_box,next_write,next_newTok,next_fresh,next_pu];omega)) | exact App.newE (by (simp only [low_skip,low_box,low_write,low_newTok,low_fresh,low_pu,next_skip,next_box,next_write,next_newTok,next_fresh,next_pu]);omega) (by first | omega | (simp only [low_skip,low_box,low_write,low_newTok,low_fresh,low_pu,next_skip,next_box,next_write,next_newTok,next_fresh,next_pu];omega)) | exact App.weak (by assumption) (by first | omega | (simp only [low_skip,low_box,low_write,low_newTok,low_fresh,low_pu,next_skip,next_box,next_write,next_newTok,next_fresh,next_pu];omega))))));(exact rfl);(unfold reach;(try simp only [List.length_cons,List.length_nil]);omega);decide;(first | omega | (simp only [next_newTok];omega));intro gt gn glo glv ga g1 g2 g3;try simp only [low_newTok] at g1 g2)))
    ·have h2:=hks _ (List.getElem_mem (show 2 < ks.length by omega))
     have q1:=w64_dv h2.1 (show ks[2]≤1000000 by omega) (show (0:Int) < 3 by decide)
     have q2:=w64_dv q1.2.1 q1.2.2 (show (0:Int) < ((i+1:Nat):Int) by omega)
     refine ⟨k - 1,by omega,⟨by omega,by omega⟩,by omega,_,_,i+1,rfl,ga.write _ _ _ _ _,rfl,by rw [List.length_append,bl];rfl,by omega,by omega,fun v hv=>?_⟩
     rcases List.mem_append.1 hv with hv | hv
     ·exact bf v hv
     ·rw [List.mem_singleton.1 hv]
      exact ⟨Int.tmod_nonneg _ q2.2.1,Int.tmod_lt_of_pos _ (by omega)⟩
    ·exact ⟨blo,bn,_,fs,rfl,bA.rd,by omega,bf⟩
   ·rintro fe2 B ⟨b2,b3,b5,b10,blo,bn,bz,fv,fs,bq,bR0,bl0,bf0⟩
    (repeat' (first | simp (decide:=true) only [↓wsC,wsU,List.drop_zero,List.take_succ_cons,List.take_zero,Int.reduceToNat,b3] | ((with_reducible refine Got_rem ?_ ?_);(first | assumption | omega)) | ((with_reducible refine Got_vld ?_ ?_ ?_);(omega);(decide)) | ((with_reducible apply Got_viaRI (α:=Int));(first | (apply App.rd;assumption) | assumption);omega;omega;rfl)))
    refine VW_cut (fun fe' C=>fe' 2=.ptr σ.next 0∧fe' 3=fe 3∧fe' 5=.ptr Z.next 0∧fe' 10=vi nn∧σ.next≤C.low∧Z.next+1≤C.next∧C.heap σ.next=.cells zeroC 26 8 σ.next∧∃ (rv:VV) (rs:List Int),C.heap Z.next=.cells [pv,fv,rv,nilS,vi 0,vi 0,vi 0,vi 0] 26 8 Z.next∧Rd rv rs∧rs.length≤2∧∀ v∈rs,0≤v∧v < ps.length) ?_ ?_
    ·(repeat' (first | simp (decide:=true) only [↓wsD,wsU,List.zip_cons_cons,List.zip_nil_left,List.map_cons,List.map_nil,ne_eq,List.nil_append,List.cons_append,Nat.add_zero,wmU,↓reduceIte,List.length_cons,List.length_nil,List.drop_zero,List.drop_succ_cons,List.take_succ_cons,List.take_zero,Nat.zero_add,Nat.reduceAdd,Nat.reduceLeDiff,true_and,and_self,vsplice,List.map_cons,List.map_nil,Nat.le_min,Int.reduceToNat,eq_self,b2,b3,b5,b10,bz,bq,e0] | ((with_reducible refine TestV_decE (fun _ gd=>?_) (fun _ gd=>?_))<;>(try rw [gd])) | ((with_reducible refine Got_quo ?_ ?_);(first | assumption | omega)) | ((with_reducible refine Got_rem ?_ ?_);(first | assumption | omega)) | ((with_reducible refine Got_vld ?_ ?_ ?_);(omega);(decide)) | ((with_reducible apply Got_lenR (α:=Prg));(first | (apply App.rd;assumption) | assumption)) | ((with_reducible apply Got_viaRI (α:=Int));(first | (apply App.rd;assumption) | assumption);omega;omega;rfl) | ((with_reducible apply VBuild.enc [(_:Int),(_:Int)]);(exact rfl);(simp (decide:=true) only [wsU,List.map_cons,List.map_nil,List.append_nil,List.nil_append,List.cons_append,↓reduceIte,List.length_cons,List.length_nil,List.drop_zero,List.drop_succ_cons,List.take_succ_cons,List.take_zero,Nat.zero_add,Nat.reduceAdd,Nat.reduceLeDiff,and_self,wfU,vsplice,rep,List.replicate_succ,List.replicate_zero,List.flatten_cons,List.flatten_nil];exact rfl);(exact rfl);(exact rfl);(exact rfl);((try simp only [List.map_cons,List.map_nil,fg_int]);exact rfl))))
     ·have h3:=hks _ (List.getElem_mem (show 3 < ks.length by omega))
      have q1:=w64_dv h3.1 (show ks[3]≤1000000 by omega) (show (0:Int) < 3 by decide)
      refine ⟨⟨blo,by omega⟩,by omega,_,_,rfl,.inr (.inl ⟨_,rfl⟩),by simp,fun v hv=>?_⟩
      rcases List.mem_cons.1 hv with rfl | hv
      ·exact ⟨Int.tmod_nonneg _ q1.2.1,Int.tmod_lt_of_pos _ (by omega)⟩
      ·rw [List.mem_singleton.1 hv];omega
     ·exact ⟨blo,bn,_,[],rfl,.inl ⟨rfl,rfl⟩,by simp,fun v hv=>by simp at hv⟩
    ·rintro fe3 C ⟨c2,c3,c5,c10,clo,cn,cz,rv,rs,cq,cR,cl,cr⟩
     (repeat' (first | simp (decide:=true) only [↓wsC,wsU,ne_eq,List.append_nil,List.nil_append,List.cons_append,wmU,↓reduceIte,List.length_cons,List.length_nil,List.drop_zero,List.drop_succ_cons,List.take_succ_cons,List.take_zero,Nat.zero_add,Nat.reduceAdd,Nat.reduceLeDiff,and_self,vsplice,Nat.le_refl,List.append_nil,Int.reduceToNat,eq_self,c3,c5,cq] | ((with_reducible refine Got_quo ?_ ?_);(first | assumption | omega)) | ((with_reducible refine Got_rem ?_ ?_);(first | assumption | omega)) | ((with_reducible refine Got_vld ?_ ?_ ?_);(omega);(decide)) | ((with_reducible apply Got_viaRI (α:=Int));(first | (apply App.rd;assumption) | assumption);omega;omega;rfl)))
     have h4:=hks _ (List.getElem_mem (show 4 < ks.length by omega))
     have h5:=hks _ (List.getElem_mem (show 5 < ks.length by omega))
     have w3:=w64_dv h4.1 (show ks[4]≤1000000 by omega) (show (0:Int) < 3 by decide)
     have w12:=w64_dv h4.1 (show ks[4]≤1000000 by omega) (show (0:Int) < 12 by decide)
     have w48:=w64_dv h4.1 (show ks[4]≤1000000 by omega) (show (0:Int) < 48 by decide)
     have hm:=Int.tmod_nonneg 7 h5.1
     have hm7:=Int.tmod_lt_of_pos ks[5] (show (0:Int) < 7 by decide)
     refine VW_loopR 4 (fun k fe' B=>fe' 2=.ptr σ.next 0∧fe' 3=fe 3∧fe' 5=.ptr Z.next 0∧fe' 10=vi nn∧σ.next≤B.low∧Z.next+1≤B.next∧B.heap σ.next=.cells zeroC 26 8 σ.next∧∃ (qv:VV) (qs:List Req) (i:Nat) (x y z t:Int),B.heap Z.next=.cells [pv,fv,rv,qv,vi x,vi y,vi z,vi t] 26 8 Z.next∧App B σ.next qv qs∧fe' 12=vi i∧qs.length=i∧k+i=6∧(i:Int)≤ks[5].tmod 7∧(∀ r∈qs,ReqOK nn r)∧(0≤x∧x≤1)∧(0≤y∧y≤1)∧(0≤z∧z≤1)∧(0≤t∧t≤1))
      (fun fe' B=>fe' 2=.ptr σ.next 0∧fe' 5=.ptr Z.next 0∧σ.next≤B.low∧Z.next+1≤B.next∧B.heap σ.next=.cells zeroC 26 8 σ.next∧∃ (qv:VV) (qs:List Req) (x y z t:Int),B.heap Z.next=.cells [pv,fv,rv,qv,vi x,vi y,vi z,vi t] 26 8 Z.next∧Rd qv qs∧qs.length≤6∧(∀ r∈qs,ReqOK nn r)∧(0≤x∧x≤1)∧(0≤y∧y≤1)∧(0≤z∧z≤1)∧(0≤t∧t≤1)) 6 ?_ ?_ ?_
     ·(repeat' (first | simp (decide:=true) only [↓wsD,wsU,ne_eq,wmU,↓reduceIte,Nat.add_eq_left,true_and,VV.v.injEq,Value.int.injEq,Nat.le_min,eq_self,true_and,c2,c3,c5,c10,cz,e0]))
      exact ⟨⟨⟨⟨⟨clo,by omega⟩,by omega⟩,by omega⟩,by omega⟩,cn,_,[],0,_,_,_,_,rfl,.nil _ _,rfl,rfl,rfl,by omega,fun r hr=>by simp at hr,rng01 h4.1 (by decide) (by decide) (by decide),rng01 w3.2.1 (by decide) (by decide) (by decide),rng01 w12.2.1 (by decide) (by decide) (by decide),rng01 w48.2.1 (by decide) (by decide) (by decide)⟩
     ·rintro k fe2 B ⟨b2,b3,b5,b10,blo,bn,bz,qv,qs,i,x,y,z,t,bq,bA,b12,bl,bk,bi,bf,bx⟩
      have h6:=hks _ (List.getElem_mem (show 6+i < ks.length by omega))
      have v3:=w64_dv h6.1 (show ks[6+i]≤1000000 by omega) (show (0:Int) < 3 by decide)
      have v24:=w64_dv h6.1 (show ks[6+i]≤1000000 by omega) (show (0:Int) < 24 by decide)
      have n8a:=Int.tmod_nonneg 8 v3.2.1
      have n8b:=Int.tmod_lt_of_pos (w64 (ks[6+i].tdiv 3)) (show (0:Int) < 8 by decide)
      (repeat' (first | simp (decide:=true) only [↓wsD,wsU,List.zip_cons_cons,List.zip_nil_left,List.map_cons,List.map_nil,ne_eq,↓reduceIte,List.length_cons,List.length_nil,List.drop_zero,List.drop_succ_cons,List.take_succ_cons,List.take_zero,Nat.zero_add,Nat.reduceAdd,Nat.reduceLeDiff,true_and,List.map_cons,List.map_nil,Int.toNat_natCast,Int.reduceToNat,eq_self,b2,b3,b5,b10,b12,bz,bq,w64_6 (show i≤1000000 by omega)] | ((with_reducible refine TestV_decE (fun _ gd=>?_) (fun _ gd=>?_))<;>(try rw [gd])) | ((with_reducible refine Got_quo ?_ ?_);(first | assumption | omega)) | ((with_reducible refine Got_rem ?_ ?_);(first | assumption | omega)) | ((with_reducible refine Got_viaOI ?_ ?_ ?_ ?_);(omega);(omega);(rfl)) | ((with_reducible refine Got_vld ?_ ?_ ?_);(omega);(decide)) | ((with_reducible apply Got_viaRI (α:=Int));(first | (apply App.rd;assumption) | assumption);omega;omega;rfl) | ((with_reducible apply VBuild.enc [(_:Int),(_:Int),(_:Int),(_:Int),(_:Int),(_:Int),(_:Int),(_:Int)]);(exact rfl);(simp (decide:=true) only [wsU,List.map_cons,List.map_nil,List.append_nil,List.nil_append,List.cons_append,↓reduceIte,List.length_cons,List.length_nil,List.drop_zero,List.drop_succ_cons,List.take_succ_cons,List.take_zero,Nat.zero_add,Nat.reduceAdd,wfU,vsplice,rep,List.replicate_succ,List.replicate_zero,List.flatten_cons,List.flatten_nil];exact rfl);(exact rfl);(exact rfl);(exact rfl);((try simp only [List.map_cons,List.map_nil,fg_int]);exact rfl))))
      ·refine Got_vld (by (show _ < 8);omega) (by decide) ?_
       (repeat' (first | simp (decide:=true) only [↓wsD,wsU,List.map_cons,List.map_nil,ne_eq,List.append_nil,List.nil_append,List.cons_append,↓reduceIte,List.length_cons,List.length_nil,List.drop_zero,List.drop_succ_cons,List.take_succ_cons,List.take_zero,Nat.zero_add,Nat.reduceAdd,Nat.reduceLeDiff,and_self,wfU,vsplice,List.map_cons,List.map_nil,Nat.le_refl,List.append_nil,eq_self,b12] | ((with_reducible refine Got_quo ?_ ?_);(first | assumption | omega)) | ((with_reducible refine Got_rem ?_ ?_);(first | assumption | omega))))
       have ho:=pick8 (w64 (ks[6+i].tdiv 3)) v3.2.1 (by (show _ < 8);omega)
       have hy2:=rng01 (x:=w64 (ks[6+i].tdiv 24)) (m:=5) (q:=4) v24.2.1 (by decide) (by decide) (by decide)
       have hn0:=Int.tmod_nonneg nn h6.1
       have hn1:=Int.tmod_lt_of_pos ks[6+i] (show 0 < nn by omega)
       have hk2:w64 (1+w64 (((w64 (ks[6+i].tdiv 24)).tmod 5).tdiv 4))=1+w64 (((w64 (ks[6+i].tdiv 24)).tmod 5).tdiv 4):=w64_ok (by omega) (by omega)
       have hi2:w64 (1+(i:Int))=1+(i:Int):=w64_ok (by omega) (by omega)
       try rw [hk2]
       try rw [hi2]
       generalize ([0,1,2,3,4,0,1,3]:List Int)[((w64 (ks[6+i].tdiv 3)).tmod 8).toNat]'_=oo at ho ⊢
       generalize ks[6+i].tmod nn=o1 at hn0 hn1 ⊢
       generalize w64 (((w64 (ks[6+i].tdiv 24)).tmod 5).tdiv 4)=o2 at hy2 ⊢
       obtain ⟨o3,ho3⟩:∃ o3:Int,o3=1+o2:=⟨_,rfl⟩
       obtain ⟨o4,ho4⟩:∃ o4:Int,o4=1+(i:Int):=⟨_,rfl⟩
       rw [← ho3,← ho4]
       (repeat' (first | simp (decide:=true) only [↓wsD,wsU,ne_eq,List.nil_append,List.cons_append,wmU,↓reduceIte,List.length_cons,List.length_nil,List.drop_zero,List.drop_succ_cons,List.take_succ_cons,List.take_zero,Nat.zero_add,Nat.add_assoc,Nat.reduceAdd,Nat.reduceLeDiff,true_and,and_self,vsplice,VV.v.injEq,Value.int.injEq,Nat.le_min,eq_self,b2,b3,b5,b10,b12,bz,bq,e0,w64_1' (show i≤1000000 by omega)] | ((with_reducible apply VBuild.enc [(⟨_,_,_,_⟩:Req)]);(exact rfl);(simp (decide:=true) only [wsU,List.map_cons,List.map_nil,List.append_nil,List.nil_append,↓reduceIte,List.length_cons,List.length_nil,List.drop_zero,List.drop_succ_cons,List.take_zero,Nat.zero_add,Nat.reduceAdd,and_self,wfU,vsplice,rep,List.replicate_succ,List.replicate_zero,List.flatten_cons,List.flatten_nil];exact rfl);(exact rfl);(exact rfl);(exact rfl);((try simp only [List.map_cons,List.map_nil,fg_int]);exact rfl)) | ((with_reducible apply VAppend.app1 (α:=Req) (b:=σ.next));rotate_left 2;((first | exact vcont_vo _ _ _ rfl | exact vcont_vl _ _ rfl | exact App.cont (by assumption) _ rfl | exact Rd.cont (by assumption) _ rfl));rotate_right 2;(first | omega | (simp only [List.length_cons,List.length_nil];omega));(first | assumption | exact App.nil _ _ | exact App.new (by first | omega | (simp only [low_skip,low_box,low_write,low_newTok,low_fresh,low_pu,next_skip,next_box,next_write,next_newTok,next_fresh,next_pu];omega)) | ((repeat (first | (with_reducible refine App.newE ?_ ?_<;>(simp only [low_skip,low_box,low_write,low_newTok,low_fresh,low_pu,next_skip,next_box,next_write,next_newTok,next_fresh,next_pu];omega)) | with_reducible apply App.skip | with_reducible apply App.box | with_reducible apply App.newTok | with_reducible apply App.write | with_reducible apply App.alloc));(try (first | assumption | exact App.new (by first | omega | (simp only [low_skip,low_box,low_write,low_newTok,low_fresh,low_pu,next_skip,next_box,next_write,next_newTok,next_fresh,next_pu];omega)) | exact App.newE (by (simp only [low_skip,low_box,low_write,low_newTok,low_fresh,low_pu,next_skip,next_box,next_write,next_newTok,next_fresh,next_pu]);omega) (by first | omega | (simp only [low_skip,low_box,low_write,low_newTok,low_fresh,low_pu,next_skip,next_box,next_write,next_newTok,next_fresh,next_pu];omega)) | exact App.weak (by assumption) (by first | omega | (simp only [low_skip,low_box,low_write,low_newTok,low_fresh,low_pu,next_skip,next_box,next_write,next_newTok,next_fresh,next_pu];omega))))));(exact rfl);(unfold reach;(try simp only [List.length_cons,List.length_nil]);omega);decide;(first | omega | (simp only [next_newTok];omega));intro gt gn glo glv ga g1 g2 g3;try simp only [low_newTok] at g1 g2)))
       refine ⟨k - 1,by omega,⟨by omega,by omega⟩,by omega,_,_,i+1,_,_,_,_,rfl,ga.write _ _ _ _ _,rfl,by rw [List.length_append,bl];rfl,by omega,by omega,fun r hr=>?_,bx⟩
       rcases List.mem_append.1 hr with hr | hr
       ·exact bf r hr
       ·rw [List.mem_singleton.1 hr]
        exact ⟨hn0,hn1,ho.1,ho.2,by dsimp only;omega,by dsimp only;omega,by dsimp only;omega,by dsimp only;omega⟩
      ·exact ⟨blo,bn,_,qs,_,_,_,_,rfl,bA.rd,by omega,bf,bx⟩
     ·rintro fe2 B ⟨b2,b5,blo,bn,bz,qv,qs,x,y,z,t,bq,bR,bl,bf,bx⟩
      have bFR:=bR0
      (repeat' (first | simp (decide:=true) only [↓wsD,wsU,List.map_cons,List.map_nil,ne_eq,List.append_nil,List.nil_append,wmU,↓reduceIte,List.length_cons,List.length_nil,List.drop_zero,List.drop_succ_cons,List.take_succ_cons,List.take_zero,Nat.zero_add,Nat.reduceAdd,true_and,and_true,and_self,wfU,vsplice,List.map_cons,List.map_nil,Nat.le_refl,VV.v.injEq,Value.int.injEq,VV.agg.injEq,List.cons.injEq,List.append_nil,Nat.le_min,eq_self,b2,b5,bz,bq,hpv.vAll,bFR.vAll,cR.vAll,bR.vAll,zeroC]))
      refine ⟨blo,⟨ps,fs,rs,qs,x,y,z,t⟩,⟨⟨hps.1,hps.2.1⟩,hps.2.2,⟨by dsimp only;omega,by dsimp only;omega⟩,bf0,cr,cl,bl,fun r hr=>?_,bx.1,bx.2.1,bx.2.2.1,bx.2.2.2⟩,hpv.fg,bFR.fg,cR.fg,bR.fg,rfl,rfl,rfl,rfl⟩
      have:=bf r hr
      unfold ReqOK at this
      dsimp only
      rw [bl0]
      exact this
end
end Go.Proofs.YtiinecnjokaejaaGreatDoor

set_option linter.unusedSimpArgs false
set_option linter.unusedSectionVars false
set_option linter.unusedVariables false
namespace Go.Proofs.YtiinecnjokaejaaGreatDoor
open Go Go.RowKit
theorem GenCfg.ok {c:Cfg} (h:GenCfg c):CfgOK c:=by
 obtain ⟨h1,h2,h3,h4,h5,h6,h7,h8,h9,h10,h11,h12⟩:=h
 refine ⟨by omega,fun p hp=>?_,by omega,h4,h5,by omega,by omega,fun r hr=>?_,by omega,by omega,by omega,by omega⟩
 ·obtain ⟨i,hi,rfl⟩:=h2 p hp
  exact srcOK hi
 ·have:=h8 r hr
  unfold small31
  omega
structure SmallCfg (c:Cfg):Prop where
 gen:GenCfg c
 drift:c.drift=0
 first:c.first.length≤2
 reqs:c.requests.length≤2
section
variable [Prim Tryz.prog] [SrcOK]
set_option maxHeartbeats 4000000 in
theorem small_any (l:List Int) (hl:∀ x∈l,I64 x) (σ:VSt):VC Tryz.prog 4 [vl l] σ (fun r σ'=>σ.next≤σ'.low∧∃ c,SmallCfg c∧r.fg=.agg (VEnc.e c)):=by
 refine VC_body XF4 ?_
 (repeat' (first | simp (decide:=true) only [↓wsD,wsU,List.map_cons,List.map_nil,ne_eq,List.length_cons,List.length_nil,Nat.zero_add,Nat.reduceAdd,encU,List.map_cons,List.map_nil,xf4]))
 refine VCall.goP (R:=fun v=>∃ c,GenCfg c∧v=.agg (VEnc.e c)) (by rw [List.map_cons,List.map_nil,fg_vl]) (config_any l hl _) ?_
 rintro _ n0 ⟨c,hc,rfl⟩
 have h1:=hc.first
 have h2:=hc.reqs
 (repeat' (first | simp (decide:=true) only [↓wsD,wsU,Option.map_some,Option.map_none,List.map_cons,List.map_nil,ne_eq,List.append_nil,List.nil_append,List.cons_append,wmU,↓reduceIte,List.length_cons,List.length_nil,List.drop_zero,List.drop_succ_cons,List.take_succ_cons,List.take_zero,Nat.zero_add,Nat.add_assoc,Nat.reduceAdd,Nat.reduceLeDiff,and_self,vsplice,encU,List.map_cons,List.map_nil,Nat.le_refl,List.append_nil,eq_self] | ((with_reducible refine Got_hiI ?_ ?_ ?_ ?_);(omega);(omega);(rfl))))
 have hq0:(σ.next=σ.next+(1+n0))=False:=eq_false (by omega)
 have hq1:(σ.next+(1+n0)=σ.next)=False:=eq_false (by omega)
 refine VW_loopR 0 (fun k fe Z=>fe 2=.ptr σ.next 0∧fe 3=.ptr (σ.next+(1+n0)) 0∧σ.next≤Z.low∧σ.next+(1+n0)+1≤Z.next∧Z.heap σ.next=.cells zeroC 26 8 σ.next∧∃ (f:List Int),Z.heap (σ.next+(1+n0))=.cells [vl c.programs,vl f,vl c.restarts,vl c.requests,vi c.crashes,vi c.drops,vi c.dups,vi 0] 26 8 (σ.next+(1+n0))∧1≤f.length∧f.length≤2∧(∀ v∈f,v∈c.first)∧∃ (rv:VV) (rs:List Req) (i:Nat),fe 4=rv∧App Z σ.next rv rs∧fe 5=vi i∧k+i=c.requests.length∧rs.length≤2∧∀ r∈rs,r∈c.requests∧r.node < f.length)
  (fun fe Z=>fe 2=.ptr σ.next 0∧fe 3=.ptr (σ.next+(1+n0)) 0∧σ.next≤Z.low∧σ.next+(1+n0)+1≤Z.next∧Z.heap σ.next=.cells zeroC 26 8 σ.next∧∃ (f:List Int),Z.heap (σ.next+(1+n0))=.cells [vl c.programs,vl f,vl c.restarts,vl c.requests,vi c.crashes,vi c.drops,vi c.dups,vi 0] 26 8 (σ.next+(1+n0))∧1≤f.length∧f.length≤2∧(∀ v∈f,v∈c.first)∧∃ (rv:VV) (rs:List Req),fe 4=rv∧Rd rv rs∧rs.length≤2∧∀ r∈rs,r∈c.requests∧r.node < f.length) c.requests.length ?_ ?_ ?_
 ·(repeat' (first | simp (decide:=true) only [↓wsD,wsU,ne_eq,wmU,↓reduceIte,Nat.add_eq_left,Nat.add_assoc,true_and,and_self,Nat.le_refl,VV.v.injEq,Value.int.injEq,Nat.le_min,Nat.le_add_right,eq_self,true_and,hq0,zeroC]))
  have ht:((if 2 < (c.first.length:Int) then 2 else (c.first.length:Int)):Int).toNat≤2∧1≤((if 2 < (c.first.length:Int) then 2 else (c.first.length:Int)):Int).toNat:=by split<;>omega
  refine ⟨rfl,_,rfl,?_,?_,fun v hv=>List.mem_of_mem_take hv,_,[],0,rfl,.nil _ _,rfl,rfl,Nat.zero_le _,fun r hr=>by simp at hr⟩
  ·rw [List.length_take];omega
  ·rw [List.length_take];omega
 ·rintro k fe Z ⟨a2,a3,alo,an,az,f,aq,f1,f2,f3,rv,rs,i,a4,aA,a5,ak,ar,am⟩
  (repeat' (first | simp (decide:=true) only [↓wsD,wsU,List.zip_cons_cons,List.zip_nil_left,List.map_cons,List.map_nil,ne_eq,Nat.add_zero,wmU,↓reduceIte,List.length_cons,List.length_nil,List.drop_zero,List.drop_succ_cons,List.take_succ_cons,List.take_zero,Nat.zero_add,Nat.add_assoc,Nat.reduceAdd,Nat.reduceLeDiff,true_and,encU,List.map_cons,List.map_nil,VV.v.injEq,Value.int.injEq,Int.toNat_natCast,eq_self,a2,a3,a4,a5,az,aq] | ((with_reducible refine TestV_decE (fun _ gd=>?_) (fun _ gd=>?_))<;>(try rw [gd])) | ((with_reducible refine PickV_tE (fun _ gd=>?_) (fun _ gd=>?_))<;>(try rw [gd])) | ((with_reducible refine Got_viaI ?_ ?_ ?_ ?_);(omega);(omega);(rfl)) | ((with_reducible refine Got_vld ?_ ?_ ?_);(omega);(decide)) | ((with_reducible apply Got_lenR (α:=Req));(first | (apply App.rd;assumption) | assumption)) | ((with_reducible apply VBuild.enc [(_:Req)]);(exact rfl);(simp (decide:=true) only [wsU,List.map_cons,List.map_nil,List.append_nil,List.nil_append,↓reduceIte,List.length_cons,List.length_nil,List.drop_zero,List.drop_succ_cons,List.take_zero,Nat.zero_add,Nat.reduceAdd,and_self,wfU,vsplice,rep,List.replicate_succ,List.replicate_zero,List.flatten_cons,List.flatten_nil];exact rfl);(exact rfl);(exact rfl);(exact rfl);((try simp only [List.map_cons,List.map_nil,fg_int]);exact rfl)) | ((with_reducible apply VAppend.app1 (α:=Req) (b:=σ.next));rotate_left 2;((first | exact vcont_vo _ _ _ rfl | exact vcont_vl _ _ rfl | exact App.cont (by assumption) _ rfl | exact Rd.cont (by assumption) _ rfl));rotate_right 2;(first | omega | (simp only [List.length_cons,List.length_nil];omega));(first | assumption | exact App.nil _ _ | exact App.new (by first | omega | (simp only [low_skip,low_box,low_write,low_newTok,low_fresh,low_pu,next_skip,next_box,next_write,next_newTok,next_fresh,next_pu];omega)) | ((repeat (first | (with_reducible refine App.newE ?_ ?_<;>(simp only [low_skip,low_box,low_write,low_newTok,low_fresh,low_pu,next_skip,next_box,next_write,next_newTok,next_fresh,next_pu];omega)) | with_reducible apply App.skip | with_reducible apply App.box | with_reducible apply App.newTok | with_reducible apply App.write | with_reducible apply App.alloc));(try (first | assumption | exact App.new (by first | omega | (simp only [low_skip,low_box,low_write,low_newTok,low_fresh,low_pu,next_skip,next_box,next_write,next_newTok,next_fresh,next_pu];omega)) | exact App.newE (by (simp only [low_skip,low_box,low_write,low_newTok,low_fresh,low_pu,next_skip,next_box,next_write,next_newTok,next_fresh,next_pu]);omega) (by first | omega | (simp only [low_skip,low_box,low_write,low_newTok,low_fresh,low_pu,next_skip,next_box,next_write,next_newTok,next_fresh,next_pu];omega)) | exact App.weak (by assumption) (by first | omega | (simp only [low_skip,low_box,low_write,low_newTok,low_fresh,low_pu,next_skip,next_box,next_write,next_newTok,next_fresh,next_pu];omega))))));(exact rfl);(unfold reach;(try simp only [List.length_cons,List.length_nil]);omega);decide;(first | omega | (simp only [next_newTok];omega));intro gt gn glo glv ga g1 g2 g3;try simp only [low_newTok] at g1 g2)))
  ·have hi:i < c.requests.length:=by omega
   refine ⟨k - 1,by omega,by omega,by omega,f,rfl,f1,f2,f3,_,_,i+1,rfl,ga,w64_1' (by omega),by omega,by rw [List.length_append,List.length_singleton];omega,fun r hr=>?_⟩
   rcases List.mem_append.1 hr with hr | hr
   ·exact am r hr
   ·rw [List.mem_singleton.1 hr];exact ⟨List.getElem_mem _,by assumption⟩
  ·exact ⟨k - 1,by omega,alo,by omega,f,rfl,f1,f2,f3,_,_,i+1,rfl,aA,w64_1' (by omega),by omega,ar,am⟩
  all_goals exact ⟨alo,by omega,f,rfl,f1,f2,f3,_,rs,rfl,aA.rd,by omega,am⟩
 ·rintro fe Z ⟨a2,a3,alo,an,az,f,aq,f1,f2,f3,rv,rs,a4,aR,ar,am⟩
  (repeat' (first | simp (decide:=true) only [↓wsD,wsU,List.map_cons,List.map_nil,ne_eq,List.append_nil,List.nil_append,List.cons_append,wmU,↓reduceIte,List.length_cons,List.length_nil,List.drop_zero,List.drop_succ_cons,List.take_succ_cons,List.take_zero,Nat.zero_add,Nat.reduceAdd,Nat.reduceLeDiff,true_and,and_true,and_self,wfU,vsplice,List.map_cons,List.map_nil,Nat.le_refl,VV.v.injEq,Value.int.injEq,VV.agg.injEq,List.cons.injEq,List.append_nil,Nat.le_min,Nat.le_add_right,eq_self,a2,a3,a4,az,aq,hq0,zeroC,aR.vAll,aR.cs1]))
  have hg:=hc
  obtain ⟨g1,g2,g3,g4,g5,g6,g7,g8,g9,g10,g11,g12⟩:=hg
  refine ⟨by omega,{ c with first:=f,requests:=rs,drift:=0 },⟨⟨g1,g2,⟨f1,by dsimp only;omega⟩,fun v hv=>g4 v (f3 v hv),g5,g6,by dsimp only;omega,fun r hr=>?_,g9,g10,g11,by dsimp only;omega⟩,rfl,f2,ar⟩,rfl,rfl,rfl,aR.fg,rfl,rfl,rfl,rfl⟩
  have:=g8 r (am r hr).1
  exact ⟨this.1,(am r hr).2,this.2.2⟩
end
end Go.Proofs.YtiinecnjokaejaaGreatDoor

set_option linter.unusedSimpArgs false
set_option linter.unusedSectionVars false
set_option linter.unusedVariables false
namespace Go.Proofs.YtiinecnjokaejaaGreatDoor
open Go Go.RowKit
section
variable [Prim Tryz.prog]
theorem cloneInt_app (l:List Int) (hl:l.length≤100000) (σ:VSt):VC Tryz.prog 35 [vl l] σ (fun r σ'=>σ.next≤σ'.low∧App σ' σ.next r l):=by
 refine VC_body XF35 ?_
 (repeat' (first | simp (decide:=true) only [↓wsD,wsU,ne_eq,xf35]))
 refine VEqs.lst (fun h=>by rw [List.eq_nil_of_length_eq_zero h];rfl) (fun h=>?_) ?_
 ·(repeat' (first | simp (decide:=true) only [↓wsD,wsU,true_and,Nat.le_refl]))
  rw [List.eq_nil_of_length_eq_zero h]
  exact .nil _ _
 ·(repeat' (first | simp (decide:=true) only [↓wsD,wsU,List.map_nil,ne_eq,List.nil_append,List.map_nil] | ((with_reducible apply VBuild.enc ([]:List (Int)));(exact rfl);(simp (decide:=true) only [List.map_nil,wfU,rep,List.replicate_zero,List.flatten_nil];exact rfl);(exact rfl);(exact rfl);(exact rfl);((try simp only [List.map_nil]);exact rfl)) | ((with_reducible apply VAppend.appO (α:=Int) (b:=σ.next));(first | assumption | exact App.nil _ _ | exact App.new (by first | omega | (simp only [next_fresh];omega)) | ((repeat (first | (with_reducible refine App.newE ?_ ?_<;>(simp only [low_skip,low_box,low_write,low_newTok,low_fresh,low_pu,next_skip,next_box,next_write,next_newTok,next_fresh,next_pu];omega)) | with_reducible apply App.skip | with_reducible apply App.box | with_reducible apply App.newTok | with_reducible apply App.write | with_reducible apply App.alloc));(try (first | assumption | exact App.new (by first | omega | (simp only [low_skip,low_box,low_write,low_newTok,low_fresh,low_pu,next_skip,next_box,next_write,next_newTok,next_fresh,next_pu];omega)) | exact App.newE (by (simp only [low_skip,low_box,low_write,low_newTok,low_fresh,low_pu,next_skip,next_box,next_write,next_newTok,next_fresh,next_pu]);omega) (by first | omega | (simp only [low_skip,low_box,low_write,low_newTok,low_fresh,low_pu,next_skip,next_box,next_write,next_newTok,next_fresh,next_pu];omega)) | exact App.weak (by assumption) (by first | omega | (simp only [low_skip,low_box,low_write,low_newTok,low_fresh,low_pu,next_skip,next_box,next_write,next_newTok,next_fresh,next_pu];omega))))));(first | exact vcont_vo _ _ _ rfl | exact vcont_vl _ _ rfl | exact App.cont (by assumption) _ rfl | exact Rd.cont (by assumption) _ rfl);(exact rfl);(unfold reach;(try simp only [List.length_nil]);omega);decide;(first | omega | (simp only [next_newTok,next_fresh];omega));intro gt gn glo glv ga g1 g2 g3;try simp only [low_newTok,low_fresh] at g1 g2)))
  exact ⟨by omega,by simpa using ga⟩
theorem cloneInt_any (l:List Int) (hl:l.length≤100000):VD Tryz.prog 35 [vl l] (vl l):=VD.of_app (cloneInt_app l hl)
theorem clonePrg_row (l:List Prg) (h1:1≤l.length) (hl:l.length≤100000) (σ:VSt):VC Tryz.prog 77 [vl l] σ (fun v σ'=>σ.next≤σ'.low∧Rw σ' σ.next v l):=by
 refine VC_body XF77 ?_
 (repeat' (first | simp (decide:=true) only [↓wsD,wsU,ne_eq,xf77]))
 refine VEqs.lst (fun h=>by rw [List.eq_nil_of_length_eq_zero h];rfl) (fun h=>absurd h (by omega)) ?_
 (repeat' (first | simp (decide:=true) only [↓wsD,wsU,List.map_nil,List.map_nil]))
 refine VBuild.row (l:=[]) rfl rfl rfl ?_
 (repeat' (first | simp (decide:=true) only [↓wsD,wsU,ne_eq]))
 refine VAppend.rw (l:=([]:List Prg)) (m:=l) (b:=σ.next) ⟨81,σ.next,Nat.le_refl _,Nat.le_refl _,by simp [next_box,next_fresh],heap_box_self _ _ _ _⟩ rfl (vcont_vl _ _ rfl) rfl (by unfold reach;simp;omega) (by decide) (fun id τ hR h1 h2 h3 h4 h5=>?_)
 simp only [low_box,low_fresh,Nat.min_self] at h2
 simp only [List.nil_append] at hR
 (repeat' (first | simp (decide:=true) only [↓wsD,wsU,List.length_nil,Nat.zero_add,List.length_nil,Nat.zero_add]))
 exact ⟨h2,hR.rw rfl⟩
theorem cloneIns_app (l:List Ins) (hl:l.length≤100000) (σ:VSt):VC Tryz.prog 78 [vl l] σ (fun r σ'=>σ.next≤σ'.low∧App σ' σ.next r l):=by
 refine VC_body XF78 ?_
 (repeat' (first | simp (decide:=true) only [↓wsD,wsU,ne_eq,xf78]))
 refine VEqs.lst (fun h=>by rw [List.eq_nil_of_length_eq_zero h];rfl) (fun h=>?_) ?_
 ·(repeat' (first | simp (decide:=true) only [↓wsD,wsU,true_and,Nat.le_refl]))
  rw [List.eq_nil_of_length_eq_zero h]
  exact .nil _ _
 ·(repeat' (first | simp (decide:=true) only [↓wsD,wsU,List.map_nil,ne_eq,List.nil_append,List.map_nil] | ((with_reducible apply VBuild.enc ([]:List (Ins)));(exact rfl);(simp (decide:=true) only [List.map_nil,wfU,rep,List.replicate_zero,List.flatten_nil];exact rfl);(exact rfl);(exact rfl);(exact rfl);((try simp only [List.map_nil]);exact rfl)) | ((with_reducible apply VAppend.appO (α:=Ins) (b:=σ.next));(first | assumption | exact App.nil _ _ | exact App.new (by first | omega | (simp only [next_fresh];omega)) | ((repeat (first | (with_reducible refine App.newE ?_ ?_<;>(simp only [low_skip,low_box,low_write,low_newTok,low_fresh,low_pu,next_skip,next_box,next_write,next_newTok,next_fresh,next_pu];omega)) | with_reducible apply App.skip | with_reducible apply App.box | with_reducible apply App.newTok | with_reducible apply App.write | with_reducible apply App.alloc));(try (first | assumption | exact App.new (by first | omega | (simp only [low_skip,low_box,low_write,low_newTok,low_fresh,low_pu,next_skip,next_box,next_write,next_newTok,next_fresh,next_pu];omega)) | exact App.newE (by (simp only [low_skip,low_box,low_write,low_newTok,low_fresh,low_pu,next_skip,next_box,next_write,next_newTok,next_fresh,next_pu]);omega) (by first | omega | (simp only [low_skip,low_box,low_write,low_newTok,low_fresh,low_pu,next_skip,next_box,next_write,next_newTok,next_fresh,next_pu];omega)) | exact App.weak (by assumption) (by first | omega | (simp only [low_skip,low_box,low_write,low_newTok,low_fresh,low_pu,next_skip,next_box,next_write,next_newTok,next_fresh,next_pu];omega))))));(first | exact vcont_vo _ _ _ rfl | exact vcont_vl _ _ rfl | exact App.cont (by assumption) _ rfl | exact Rd.cont (by assumption) _ rfl);(exact rfl);(unfold reach;(try simp only [List.length_nil]);omega);decide;(first | omega | (simp only [next_newTok,next_fresh];omega));intro gt gn glo glv ga g1 g2 g3;try simp only [low_newTok,low_fresh] at g1 g2)))
  exact ⟨by omega,by simpa using ga⟩
theorem cloneReq_app (l:List Req) (hl:l.length≤100000) (σ:VSt):VC Tryz.prog 79 [vl l] σ (fun r σ'=>σ.next≤σ'.low∧App σ' σ.next r l):=by
 refine VC_body XF79 ?_
 (repeat' (first | simp (decide:=true) only [↓wsD,wsU,ne_eq,xf79]))
 refine VEqs.lst (fun h=>by rw [List.eq_nil_of_length_eq_zero h];rfl) (fun h=>?_) ?_
 ·(repeat' (first | simp (decide:=true) only [↓wsD,wsU,true_and,Nat.le_refl]))
  rw [List.eq_nil_of_length_eq_zero h]
  exact .nil _ _
 ·(repeat' (first | simp (decide:=true) only [↓wsD,wsU,List.map_nil,ne_eq,List.nil_append,List.map_nil] | ((with_reducible apply VBuild.enc ([]:List (Req)));(exact rfl);(simp (decide:=true) only [List.map_nil,wfU,rep,List.replicate_zero,List.flatten_nil];exact rfl);(exact rfl);(exact rfl);(exact rfl);((try simp only [List.map_nil]);exact rfl)) | ((with_reducible apply VAppend.appO (α:=Req) (b:=σ.next));(first | assumption | exact App.nil _ _ | exact App.new (by first | omega | (simp only [next_fresh];omega)) | ((repeat (first | (with_reducible refine App.newE ?_ ?_<;>(simp only [low_skip,low_box,low_write,low_newTok,low_fresh,low_pu,next_skip,next_box,next_write,next_newTok,next_fresh,next_pu];omega)) | with_reducible apply App.skip | with_reducible apply App.box | with_reducible apply App.newTok | with_reducible apply App.write | with_reducible apply App.alloc));(try (first | assumption | exact App.new (by first | omega | (simp only [low_skip,low_box,low_write,low_newTok,low_fresh,low_pu,next_skip,next_box,next_write,next_newTok,next_fresh,next_pu];omega)) | exact App.newE (by (simp only [low_skip,low_box,low_write,low_newTok,low_fresh,low_pu,next_skip,next_box,next_write,next_newTok,next_fresh,next_pu]);omega) (by first | omega | (simp only [low_skip,low_box,low_write,low_newTok,low_fresh,low_pu,next_skip,next_box,next_write,next_newTok,next_fresh,next_pu];omega)) | exact App.weak (by assumption) (by first | omega | (simp only [low_skip,low_box,low_write,low_newTok,low_fresh,low_pu,next_skip,next_box,next_write,next_newTok,next_fresh,next_pu];omega))))));(first | exact vcont_vo _ _ _ rfl | exact vcont_vl _ _ rfl | exact App.cont (by assumption) _ rfl | exact Rd.cont (by assumption) _ rfl);(exact rfl);(unfold reach;(try simp only [List.length_nil]);omega);decide;(first | omega | (simp only [next_newTok,next_fresh];omega));intro gt gn glo glv ga g1 g2 g3;try simp only [low_newTok,low_fresh] at g1 g2)))
  exact ⟨by omega,by simpa using ga⟩
theorem cloneReq_any (l:List Req) (hl:l.length≤100000):VD Tryz.prog 79 [vl l] (vl l):=VD.of_app (cloneReq_app l hl)
end
end Go.Proofs.YtiinecnjokaejaaGreatDoor

set_option linter.unusedSimpArgs false
set_option linter.unusedSectionVars false
set_option linter.unusedVariables false
namespace Go.Proofs.YtiinecnjokaejaaGreatDoor
open Go Go.RowKit
theorem find_range (p:Nat→Bool) (n k:Nat) (hk:k < n) (hp:p k=true) (hn:∀ j,j < k→p j=false):(List.range n).find? p=some k:=by
  rw [List.find?_eq_some_iff_getElem]
  refine ⟨hp,k,by simpa using hk,by simp,fun j hj=>?_⟩
  simp [hn j hj]
theorem afterR_some (c:Cfg) (n i:Int) (k:Nat) (hk:k < c.requests.length) (hi:i < k) (hn:c.requests[k].node=n) (h:∀ j (hj:j < k),i < j→(c.requests[j]'(by omega)).node≠n):afterR c n i=k:=by
  unfold afterR
  rw [List.find?_filter,find_range _ _ k hk]
  · simp [hi,List.getElem?_eq_getElem hk,hn]
  · intro j hj
    by_cases hij:i < (j:Int)
    · rw [List.getElem?_eq_getElem (by omega)]
      simp [hij,h j hj hij]
    · simp [hij]
theorem afterR_none (c:Cfg) (n i:Int) (h:∀ j (hj:j < c.requests.length),i < j→c.requests[j].node≠n):afterR c n i = -1:=by
  unfold afterR
  rw [List.find?_filter,List.find?_eq_none.2]
  intro j hj
  have hj:=List.mem_range.1 hj
  by_cases hij:i < (j:Int)
  · rw [List.getElem?_eq_getElem hj]
    simp [h j hj hij]
  · simp [hij]
theorem all_take {α:Type} (P:α→Bool) (L:List α) (i:Nat) (hi:i < L.length):(L.take (i+1)).all P=((L.take i).all P && P L[i]):=by
  rw [← List.take_append_getElem hi,List.all_append]
  simp
section
variable [Prim Tryz.prog]
theorem nodeNew_any:VD Tryz.prog 44 [] (.agg (VEnc.e newN)):=by
  intro σ
  refine VC_body XF44 ?_
  (repeat' (first | simp (decide:=true) only [↓wsD,wsU,List.map_cons,List.map_nil,ne_eq,List.append_nil,List.nil_append,List.cons_append,wmU,↓reduceIte,List.length_cons,List.length_nil,List.drop_zero,List.drop_succ_cons,List.take_succ_cons,List.take_zero,Nat.zero_add,Nat.reduceAdd,true_and,and_self,wfU,vsplice,List.map_cons,List.map_nil,Nat.le_refl,VV.agg.injEq,List.append_nil,Nat.le_min,eq_self,xf44]))
  rfl
theorem after_any (c:Cfg) (id:Nat) (n i:Int) (hi : -1≤i∧i≤1000000) (hr:c.requests.length≤100000) (σ:VSt) {t:TypeId} {q:Nat} {a8 a9 a10 a11 a12 a13 a14 a15:VV} (hg:σ.heap id=.cells [vl c.programs,vl c.first,vl c.restarts,vl c.requests,vi c.crashes,vi c.drops,vi c.dups,vi c.drift,a8,a9,a10,a11,a12,a13,a14,a15] t 16 q) :
    VC Tryz.prog 45 [.ptr id 0,vi n,vi i] σ (fun r σ'=>σ.next≤σ'.low∧r.fg=vi (afterR c n i)):=by
  refine VC_body XF45 ?_
  (repeat' (first | simp (decide:=true) only [↓wsD,wsU,ne_eq,xf45]))
  refine VW_loopR 0 (fun k fe Z=>fe 0=.ptr id 0∧fe 1=vi n∧σ.next≤Z.low∧Z.heap id=σ.heap id∧∃ j:Nat,fe 7=vi j∧i < j∧k+j=c.requests.length+1000001∧∀ m (hm:m < c.requests.length),i < m→m < j→c.requests[m].node≠n)
    (fun fe Z=>σ.next≤Z.low∧afterR c n i = -1) (c.requests.length+1000001 - (i+1).toNat) ?_ ?_ ?_
  · (repeat' (first | simp (decide:=true) only [↓wsD,wsU,ne_eq,wmU,true_and,Nat.le_refl,VV.v.injEq,Value.int.injEq,eq_self,true_and]))
    exact ⟨(i+1).toNat,by rw [w64_ok (by omega) (by omega)];omega,by omega,by omega,fun m hm h1 h2=>by omega⟩
  · rintro k fe Z ⟨f0,f1,hlo,hz,j,f7,hij,hk,hno⟩
    rw [hg] at hz
    (repeat' (first | simp (decide:=true) only [↓wsD,wsU,ne_eq,Nat.add_zero,↓reduceIte,List.length_cons,List.length_nil,List.drop_zero,List.drop_succ_cons,List.take_succ_cons,List.take_zero,Nat.zero_add,Nat.reduceAdd,Nat.reduceLeDiff,true_and,wfU,encU,VV.v.injEq,Value.int.injEq,Int.toNat_natCast,eq_self,f0,f1,f7,hz] | ((with_reducible refine TestV_decE (fun _ gd=>?_) (fun _ gd=>?_))<;>(try rw [gd])) | ((with_reducible refine Got_viaI ?_ ?_ ?_ ?_);(omega);(omega);(rfl)) | ((with_reducible refine Got_vld ?_ ?_ ?_);(omega);(decide))))
    · exact ⟨hlo,(afterR_some c n i j (by omega) hij (by assumption) fun m hm him=>hno m (by omega) him hm).symm⟩
    · refine ⟨k - 1,by omega,hlo,by rw [hg],j+1,w64_1' (by omega),by omega,by omega,fun m hm h1 h2=>?_⟩
      rcases Nat.lt_succ_iff_lt_or_eq.mp h2 with h | h
      · exact hno m hm h1 h
      · subst h;assumption
    · exact ⟨hlo,afterR_none c n i fun m hm him=>hno m hm him (by omega)⟩
  · rintro fe Z ⟨hlo,he⟩
    (repeat' (first | simp (decide:=true) only [↓wsD,wsU,and_true,wfU,eq_self,he]))
    exact hlo
def ProgsOK (c:Cfg):Prop:=c.programs.length≤1000∧c.first.length≤1000∧c.restarts.length≤1000∧c.requests.length≤1000∧∀ p∈c.programs,∃ i,i < 12∧p=srcP i
def inR (n a b:Int):Bool:=decide (a≤n∧n≤b)
def headC (c:Cfg):Prop:=(1≤(c.first.length:Int)∧(c.first.length:Int)≤12)∧(1≤(c.programs.length:Int)∧(c.programs.length:Int)≤64)∧(c.requests.length:Int)≤300∧(0≤c.crashes∧c.crashes≤10)∧(0≤c.drops∧c.drops≤10)∧(0≤c.dups∧c.dups≤10)∧(0≤c.drift∧c.drift≤3)
instance (c:Cfg):Decidable (headC c):=by unfold headC;infer_instance
def reqC (c:Cfg) (r:Req):Bool:=inR r.node 0 ((c.first.length:Int) - 1) && [r.op,r.key,r.arg].all (fun n=>inR n (-2147483647) 2147483647)
def validC (c:Cfg):Bool:=decide (headC c) && ((c.first++c.restarts).all (fun v=>inR v 0 ((c.programs.length:Int) - 1)) && c.requests.all (reqC c))
variable [SrcOK]
theorem check1_any (c:Cfg) (hp:c.programs.length≤1000) (id:Nat) (v:Int) (σ:VSt) {t:TypeId} {q:Nat} (hg:σ.heap id=.cells (VEnc.e c) t 8 q) :
    VC Tryz.prog 74 [vi v,.ptr id 0] σ (fun r σ'=>σ.next≤σ'.low∧r.fg=vb (inR v 0 ((c.programs.length:Int) - 1))):=by
  refine VC_body XF74 ?_
  have w1:w64 ((c.programs.length:Int) - 1)=(c.programs.length:Int) - 1:=w64_ok (by omega) (by omega)
  (repeat' (first | simp (decide:=true) only [↓wsD,wsU,List.map_cons,List.map_nil,ne_eq,Nat.add_zero,wmU,↓reduceIte,List.length_cons,List.length_nil,List.drop_zero,List.take_succ_cons,List.take_zero,Nat.zero_add,Nat.reduceAdd,Nat.reduceLeDiff,true_and,wfU,encU,List.map_cons,List.map_nil,Nat.le_refl,VV.v.injEq,Value.bool.injEq,xf74,hg,w1] | ((with_reducible apply VCall.goF);((try simp only [List.map_cons,List.map_nil,fg_int]);exact rfl);(first | exact within_any _ _ _);intro gn)))
  rfl
theorem verify_any (p:Prg) (h:∃ i,i < 12∧p=srcP i):VD Tryz.prog 76 [.agg (VEnc.e p)] (vi 0):=by
  obtain ⟨i,hi,rfl⟩:=h
  exact SrcOK.verify i hi
set_option maxHeartbeats 1000000 in
theorem check_any (c:Cfg) (hp:ProgsOK c):VD Tryz.prog 42 [.agg (VEnc.e c)] (vi (if validC c then 0 else 20)):=by
  intro σ
  refine VC_body XF42 ?_
  obtain ⟨hp1,hp2,hp3,hp4,hp5⟩:=hp
  (repeat' (first | simp (decide:=true) only [↓wsD,wsU,List.map_cons,List.map_nil,ne_eq,Nat.add_zero,Bool.not_false,wmU,↓reduceIte,List.length_cons,List.length_nil,List.drop_zero,List.drop_succ_cons,List.take_succ_cons,List.take_zero,Nat.zero_add,Nat.reduceAdd,Nat.reduceLeDiff,true_and,wfU,encU,List.map_cons,List.map_nil,Nat.le_refl,VV.v.injEq,Value.int.injEq,eq_self,xf42] | ((with_reducible apply VCall.goF);((try simp only [List.map_cons,List.map_nil,fg_int]);exact rfl);(first | exact within_any _ _ _);intro gn) | ((with_reducible refine PickV_tE (fun _ gd=>?_) (fun _ gd=>?_))<;>(try rw [gd])) | ((with_reducible refine TestV_bool (fun gd=>?_) (fun gd=>?_))<;>(try rw [gd]))))
  all_goals first
    | (show (20:Int)=_
       (try simp only [Bool.not_eq_true',decide_eq_false_iff_not,decide_eq_true_eq] at *)
       rw [if_neg]
       intro hv
       simp only [validC,Bool.and_eq_true,decide_eq_true_eq] at hv
       have h1:=hv.1
       unfold headC at h1
       omega)
    | skip
  have hH:headC c:=by
    simp only [Bool.not_eq_false',decide_eq_true_eq] at gd
    unfold headC
    omega
  refine VW_loopR 0 (fun k fe Z=>fe 1=.ptr σ.next 0∧fe 3=.fn 74 [] [.ptr σ.next 0]∧fe 4=vb true∧σ.next≤Z.low∧σ.next+1≤Z.next∧Z.heap σ.next=.cells (VEnc.e c) 26 8 σ.next∧fe 54=vl c.programs∧fe 55=vi c.programs.length∧∃ i:Nat,fe 56=vi i∧k+i=c.programs.length)
    (fun fe Z=>fe 1=.ptr σ.next 0∧fe 3=.fn 74 [] [.ptr σ.next 0]∧fe 4=vb true∧σ.next≤Z.low∧σ.next+1≤Z.next∧Z.heap σ.next=.cells (VEnc.e c) 26 8 σ.next) c.programs.length ?_ ?_ ?_
  · (repeat' (first | simp (decide:=true) only [↓wsD,wsU,ne_eq,wmU,↓reduceIte,Nat.add_eq_left,Nat.add_assoc,true_and,encU,Nat.le_refl,VV.v.injEq,Value.int.injEq,Value.bool.injEq,eq_self,true_and]))
    exact ⟨decide_eq_true hH.2.2.2.2.2.2,by omega,0,rfl,rfl⟩
  · rintro k fe Z ⟨f1,f3,f4,hlo,hn,hz,f54,f55,i,f56,hk⟩
    have d0:(σ.next=Z.next)=False:=eq_false (by omega)
    have d1:∀ x,(σ.next=Z.next+x)=False:=fun x=>eq_false (by omega)
    (repeat' (first | simp (decide:=true) only [↓wsD,wsU,List.map_cons,List.map_nil,ne_eq,List.append_nil,List.nil_append,wmU,↓reduceIte,List.length_cons,List.length_nil,List.drop_zero,List.drop_succ_cons,List.take_zero,Nat.zero_add,Nat.add_assoc,Nat.reduceAdd,true_and,and_true,and_self,vsplice,encU,List.map_cons,List.map_nil,Nat.le_refl,VV.v.injEq,Value.int.injEq,List.append_nil,Nat.le_min,Int.toNat_natCast,VEnc.all,eq_self,decide_true,f1,f3,f4,f54,f55,f56,hz,takeP,d0,w64_1' (show i≤1000000 by omega)] | ((with_reducible apply VCall.goF);((try simp only [List.map_cons,List.map_nil,fg_agg,VEnc.fgd]);exact rfl);(first | exact verify_any _ (hp5 _ (List.getElem_mem _)));intro gn) | ((with_reducible refine TestV_decE (fun _ gd=>?_) (fun _ gd=>?_))<;>(try rw [gd])) | ((with_reducible refine Got_viaI ?_ ?_ ?_ ?_);(omega);(omega);(rfl)) | ((with_reducible refine Got_vld ?_ ?_ ?_);(omega);(decide))))
    · exact ⟨k - 1,by omega,⟨by omega,by omega⟩,by omega,i+1,rfl,by omega⟩
    · exact ⟨hlo,hn⟩
  · rintro fe Z ⟨f1,f3,f4,hlo,hn,hz⟩
    have hlt:(σ.next < Z.next)=True:=eq_true (by omega)
    (repeat' (first | simp (decide:=true) only [↓wsD,wsU,List.zip_cons_cons,List.zip_nil_left,allOld_any,keepsOld,Bool.and_true,List.map_cons,List.map_nil,ne_eq,↓reduceIte,List.length_cons,List.length_nil,List.drop_zero,List.drop_succ_cons,List.take_succ_cons,List.take_zero,Nat.zero_add,Nat.reduceAdd,Nat.reduceLeDiff,encU,List.map_cons,List.map_nil,f1,hz,hlt] | ((with_reducible apply VCall.goAF (α:=Int));((try simp only [List.map_cons,List.map_nil,fg_vl]);exact rfl);(exact cloneInt_app _ (by omega) _);intro gv gn glv ga gl;try simp only [low_skip,low_box,low_write,low_newTok,low_fresh,low_pu,next_skip,next_box,next_write,next_newTok,next_fresh,next_pu] at ga gl) | ((with_reducible apply Got_lenR (α:=Int));(first | (apply App.rd;assumption) | assumption)) | ((with_reducible apply VAppend.app (α:=Int) (b:=σ.next));(first | assumption | exact App.nil _ _ | exact App.new (by first | omega | (simp only [low_skip,low_box,low_write,low_newTok,low_fresh,low_pu,next_skip,next_box,next_write,next_newTok,next_fresh,next_pu];omega)) | ((repeat (first | (with_reducible refine App.newE ?_ ?_<;>(simp only [low_skip,low_box,low_write,low_newTok,low_fresh,low_pu,next_skip,next_box,next_write,next_newTok,next_fresh,next_pu];omega)) | with_reducible apply App.skip | with_reducible apply App.box | with_reducible apply App.newTok | with_reducible apply App.write | with_reducible apply App.alloc));(try (first | assumption | exact App.new (by first | omega | (simp only [low_skip,low_box,low_write,low_newTok,low_fresh,low_pu,next_skip,next_box,next_write,next_newTok,next_fresh,next_pu];omega)) | exact App.newE (by (simp only [low_skip,low_box,low_write,low_newTok,low_fresh,low_pu,next_skip,next_box,next_write,next_newTok,next_fresh,next_pu]);omega) (by first | omega | (simp only [low_skip,low_box,low_write,low_newTok,low_fresh,low_pu,next_skip,next_box,next_write,next_newTok,next_fresh,next_pu];omega)) | exact App.weak (by assumption) (by first | omega | (simp only [low_skip,low_box,low_write,low_newTok,low_fresh,low_pu,next_skip,next_box,next_write,next_newTok,next_fresh,next_pu];omega))))));(first | exact vcont_vo _ _ _ rfl | exact vcont_vl _ _ rfl | exact App.cont (by assumption) _ rfl | exact Rd.cont (by assumption) _ rfl);(exact rfl);(unfold reach;(try simp only [List.length_cons,List.length_nil,List.length_append,List.length_replicate,List.length_take,List.length_drop,List.length_map,List.length_range]);omega);decide;(first | omega | (simp only [next_pu];omega));intro gr gn glo glv ga g1 g2 g3;try simp only [low_pu] at g1 g2)))
    obtain ⟨L,hL⟩:∃ L,L=c.first++c.restarts:=⟨_,rfl⟩
    have hLl:L.length≤2000:=by rw [hL,List.length_append];omega
    obtain ⟨P,hP⟩:∃ P:Int→Bool,P=fun v=>inR v 0 ((c.programs.length:Int) - 1):=⟨_,rfl⟩
    refine VW_loopR 2 (fun k fe Z=>fe 1=.ptr σ.next 0∧fe 3=.fn 74 [] [.ptr σ.next 0]∧σ.next≤Z.low∧σ.next+1≤Z.next∧Z.heap σ.next=.cells (VEnc.e c) 26 8 σ.next∧fe 73=vi L.length∧∃ (i:Nat) (tv:VV) (acc:Bool),fe 72=tv∧Rd tv L∧fe 74=vi i∧k+i=L.length∧fe 4=vb acc∧acc=(L.take i).all P)
      (fun fe Z=>fe 1=.ptr σ.next 0∧σ.next≤Z.low∧σ.next+1≤Z.next∧Z.heap σ.next=.cells (VEnc.e c) 26 8 σ.next∧fe 4=vb (L.all P)) L.length ?_ ?_ ?_
    · (repeat' (first | simp (decide:=true) only [↓wsD,wsU,ne_eq,Nat.add_eq_left,Nat.add_assoc,true_and,encU,VV.v.injEq,Value.int.injEq,Value.bool.injEq,eq_self,true_and,f1,f3,f4,hz]))
      exact ⟨by omega,by omega,by rw [hL],0,_,true,rfl,by rw [hL];exact App.rd (by assumption),rfl,rfl,rfl,rfl⟩
    · rintro k fe Z ⟨f1,f3,hlo,hn,hz,f73,i,tv,acc,f72,hR,f74,hk,f4,hacc⟩
      cases acc
      · (repeat' (first | simp (decide:=true) only [↓wsD,wsU,ne_eq,List.drop_zero,List.take_succ_cons,List.take_zero,true_and,encU,VV.v.injEq,Value.int.injEq,Value.bool.injEq,Int.toNat_natCast,eq_self,f1,f3,f4,f72,f73,f74,hz,w64_1' (show i≤1000000 by omega)] | ((with_reducible refine TestV_decE (fun _ gd=>?_) (fun _ gd=>?_))<;>(try rw [gd])) | ((with_reducible refine Got_vld ?_ ?_ ?_);(omega);(decide)) | ((with_reducible apply Got_viaRI (α:=Int));(first | (apply App.rd;assumption) | assumption);omega;omega;rfl)))
        · exact ⟨k - 1,by omega,hlo,hn,i+1,tv,false,rfl,hR,rfl,by omega,rfl,by rw [all_take P L i (by omega),← hacc];rfl⟩
        · exact ⟨hlo,hn,by rw [List.take_of_length_le (by omega)] at hacc;exact hacc⟩
      · (repeat' (first | simp (decide:=true) only [↓wsD,wsU,List.map_cons,List.map_nil,ne_eq,List.nil_append,List.cons_append,List.drop_zero,List.take_succ_cons,List.take_zero,true_and,encU,List.map_cons,List.map_nil,VV.v.injEq,Value.int.injEq,Value.bool.injEq,Int.toNat_natCast,eq_self,f1,f3,f4,f72,f73,f74,hz,w64_1' (show i≤1000000 by omega)] | ((with_reducible apply VCall.goG);((try simp only [List.map_cons,List.map_nil,fg_int,fg_ptr]);exact rfl);(first | exact check1_any c hp1 σ.next _ _ hz);intro gn) | ((with_reducible refine TestV_decE (fun _ gd=>?_) (fun _ gd=>?_))<;>(try rw [gd])) | ((with_reducible refine Got_vld ?_ ?_ ?_);(omega);(decide)) | ((with_reducible apply Got_viaRI (α:=Int));(first | (apply App.rd;assumption) | assumption);omega;omega;rfl)))
        · exact ⟨k - 1,by omega,hlo,by omega,i+1,tv,_,rfl,hR,rfl,by omega,rfl,by rw [all_take P L i (by omega),← hacc,hP];rfl⟩
        · exact ⟨hlo,hn,by rw [List.take_of_length_le (by omega)] at hacc;exact hacc⟩
    · rintro fe Z ⟨f1,hlo,hn,hz,f4⟩
      have w1:w64 ((c.first.length:Int) - 1)=(c.first.length:Int) - 1:=w64_ok (by omega) (by omega)
      (repeat' (first | simp (decide:=true) only [↓wsD,wsU,↓reduceIte,List.length_cons,List.length_nil,List.drop_zero,List.drop_succ_cons,List.take_succ_cons,List.take_zero,Nat.zero_add,Nat.reduceAdd,Nat.reduceLeDiff,encU,f1,hz]))
      refine VW_loopR 4 (fun k fe Z=>fe 1=.ptr σ.next 0∧σ.next≤Z.low∧σ.next+1≤Z.next∧Z.heap σ.next=.cells (VEnc.e c) 26 8 σ.next∧fe 86=vl c.requests∧fe 87=vi c.requests.length∧∃ (i:Nat) (acc:Bool),fe 88=vi i∧k+i=c.requests.length∧fe 4=vb acc∧acc=(L.all P && (c.requests.take i).all (reqC c)))
        (fun fe Z=>σ.next≤Z.low∧fe 4=vb (L.all P && c.requests.all (reqC c))) c.requests.length ?_ ?_ ?_
      · (repeat' (first | simp (decide:=true) only [↓wsD,ne_eq,Nat.add_eq_left,true_and,encU,VV.v.injEq,Value.int.injEq,Value.bool.injEq,eq_self,true_and,f1,f4,hz]))
        exact ⟨hlo,hn,0,_,rfl,rfl,rfl,by simp⟩
      · rintro k fe Z ⟨f1,hlo,hn,hz,f86,f87,i,acc,f88,hk,f4,hacc⟩
        have d0:(σ.next=Z.next)=False:=eq_false (by omega)
        have d1:∀ x,(σ.next=Z.next+x)=False:=fun x=>eq_false (by omega)
        obtain ⟨Q,hQ⟩:∃ Q:Int→Bool,Q=fun n=>inR n (-2147483647) 2147483647:=⟨_,rfl⟩
        rcases (show i < c.requests.length∨c.requests.length≤i by omega) with hil | hil
        · obtain ⟨l3,hl3⟩:∃ l3,l3=[c.requests[i].op,c.requests[i].key,c.requests[i].arg]:=⟨_,rfl⟩
          have hl3l:l3.length=3:=by rw [hl3];rfl
          cases acc
          · (repeat' (first | simp (decide:=true) only [↓wsD,wsU,List.map_cons,List.map_nil,ne_eq,List.append_nil,List.nil_append,wmU,↓reduceIte,List.length_cons,List.length_nil,List.drop_zero,List.drop_succ_cons,List.take_succ_cons,List.take_zero,Nat.zero_add,Nat.reduceAdd,Nat.reduceLeDiff,and_self,vsplice,encU,List.map_cons,List.map_nil,Nat.le_refl,VV.v.injEq,Value.bool.injEq,List.append_nil,Int.toNat_natCast,eq_self,f4,f86,f87,f88] | ((with_reducible refine TestV_decE (fun _ gd=>?_) (fun _ gd=>?_))<;>(try rw [gd])) | ((with_reducible refine Got_viaI ?_ ?_ ?_ ?_);(omega);(omega);(rfl)) | ((with_reducible refine Got_vld ?_ ?_ ?_);(omega);(decide)) | ((with_reducible apply VBuild.enc [(_:Int),(_:Int),(_:Int)]);(exact rfl);(simp (decide:=true) only [wsU,List.map_cons,List.map_nil,List.append_nil,List.nil_append,List.cons_append,↓reduceIte,List.length_cons,List.length_nil,List.drop_zero,List.drop_succ_cons,List.take_succ_cons,List.take_zero,Nat.zero_add,Nat.reduceAdd,Nat.reduceLeDiff,and_self,wfU,vsplice,rep,List.replicate_succ,List.replicate_zero,List.flatten_cons,List.flatten_nil];exact rfl);(exact rfl);(exact rfl);(exact rfl);((try simp only [List.map_cons,List.map_nil,fg_int]);exact rfl))))
            · obtain ⟨a1,ha1⟩:∃ a1:Bool,a1=false:=⟨_,rfl⟩
              refine VW_loopR 6 (fun k fe B=>fe 1=.ptr σ.next 0∧σ.next≤B.low∧σ.next+1≤B.next∧B.heap σ.next=.cells (VEnc.e c) 26 8 σ.next∧fe 86=vl c.requests∧fe 87=vi c.requests.length∧fe 88=vi i∧fe 109=vi 3∧∃ (j tk:Nat) (a:Bool),fe 108=vo l3 tk∧fe 110=vi j∧k+j=3∧fe 4=vb a∧a=(a1 && (l3.take j).all Q))
                (fun fe B=>fe 1=.ptr σ.next 0∧σ.next≤B.low∧σ.next+1≤B.next∧B.heap σ.next=.cells (VEnc.e c) 26 8 σ.next∧fe 86=vl c.requests∧fe 87=vi c.requests.length∧fe 88=vi i∧fe 4=vb (a1 && l3.all Q)) 3 ?_ ?_ ?_
              · (repeat' (first | simp (decide:=true) only [↓wsD,wsU,ne_eq,wmU,↓reduceIte,Nat.add_eq_left,Nat.add_assoc,Nat.reduceAdd,Nat.reduceLeDiff,true_and,encU,VV.v.injEq,Value.int.injEq,Value.bool.injEq,Nat.le_min,eq_self,true_and,f1,f86,f87,f88,hz,d0]))
                exact ⟨⟨hlo,by omega⟩,by omega,0,_,_,by rw [hl3],rfl,rfl,rfl,by rw [ha1,List.take_zero];rfl⟩
              · rintro m fe B ⟨h1,hlo,hn,hz,h86,h87,h88,h109,j,tk,a,h108,h110,hm,h4,ha⟩
                have hj3:j≤3:=by omega
                cases a
                · (repeat' (first | simp (decide:=true) only [↓wsD,wsU,ne_eq,List.drop_zero,List.take_succ_cons,List.take_zero,true_and,encU,VV.v.injEq,Value.int.injEq,Value.bool.injEq,Int.toNat_natCast,eq_self,h1,h4,h86,h87,h88,h108,h109,h110,hz,w64_1' (show j≤1000000 by omega)] | ((with_reducible refine TestV_decE (fun _ gd=>?_) (fun _ gd=>?_))<;>(try rw [gd])) | ((with_reducible refine Got_viaOI ?_ ?_ ?_ ?_);(omega);(omega);(rfl)) | ((with_reducible refine Got_vld ?_ ?_ ?_);(omega);(decide))))
                  · exact ⟨m - 1,by omega,hlo,hn,j+1,_,_,rfl,rfl,by omega,rfl,by rw [all_take Q l3 j (by omega),← Bool.and_assoc,← ha];rfl⟩
                  · exact ⟨hlo,hn,by rw [List.take_of_length_le (by omega)] at ha;exact ha⟩
                · (repeat' (first | simp (decide:=true) only [↓wsD,wsU,List.map_cons,List.map_nil,ne_eq,List.drop_zero,List.take_succ_cons,List.take_zero,true_and,encU,List.map_cons,List.map_nil,VV.v.injEq,Value.int.injEq,Value.bool.injEq,Int.toNat_natCast,eq_self,h1,h4,h86,h87,h88,h108,h109,h110,hz,w64_1' (show j≤1000000 by omega)] | ((with_reducible apply VCall.goF);((try simp only [List.map_cons,List.map_nil,fg_int]);exact rfl);(first | exact within_any _ _ _);intro gn) | ((with_reducible refine TestV_decE (fun _ gd=>?_) (fun _ gd=>?_))<;>(try rw [gd])) | ((with_reducible refine Got_viaOI ?_ ?_ ?_ ?_);(omega);(omega);(rfl)) | ((with_reducible refine Got_vld ?_ ?_ ?_);(omega);(decide))))
                  · exact ⟨m - 1,by omega,hlo,by omega,j+1,_,_,rfl,rfl,by omega,rfl,by rw [all_take Q l3 j (by omega),← Bool.and_assoc,← ha,hQ];rfl⟩
                  · exact ⟨hlo,hn,by rw [List.take_of_length_le (by omega)] at ha;exact ha⟩
              · rintro fe B ⟨h1,hlo,hn,hz,h86,h87,h88,h4⟩
                (repeat' (first | simp (decide:=true) only [↓wsD,wsU,ne_eq,true_and,encU,VV.v.injEq,Value.int.injEq,Value.bool.injEq,eq_self,h1,h4,h86,h87,h88,hz,w64_1' (show i≤1000000 by omega)]))
                exact ⟨k - 1,by omega,hlo,hn,i+1,_,rfl,by omega,rfl,by rw [all_take (reqC c) c.requests i (by omega),← Bool.and_assoc,← hacc,reqC,ha1,hl3,hQ];rfl⟩
            · exact ⟨hlo,by rw [List.take_of_length_le (by omega)] at hacc;exact hacc⟩
          · (repeat' (first | simp (decide:=true) only [↓wsD,wsU,List.map_cons,List.map_nil,ne_eq,List.append_nil,List.nil_append,Nat.add_zero,wmU,↓reduceIte,List.length_cons,List.length_nil,List.drop_zero,List.drop_succ_cons,List.take_succ_cons,List.take_zero,Nat.zero_add,Nat.add_assoc,Nat.reduceAdd,Nat.reduceLeDiff,and_self,vsplice,encU,List.map_cons,List.map_nil,Nat.le_refl,VV.v.injEq,Value.bool.injEq,List.append_nil,Int.toNat_natCast,eq_self,f1,f4,f86,f87,f88,hz,d0,w1] | ((with_reducible apply VCall.goF);((try simp only [List.map_cons,List.map_nil,fg_int]);exact rfl);(first | exact within_any _ _ _);intro gn) | ((with_reducible refine TestV_decE (fun _ gd=>?_) (fun _ gd=>?_))<;>(try rw [gd])) | ((with_reducible refine Got_viaI ?_ ?_ ?_ ?_);(omega);(omega);(rfl)) | ((with_reducible refine Got_vld ?_ ?_ ?_);(omega);(decide)) | ((with_reducible apply VBuild.enc [(_:Int),(_:Int),(_:Int)]);(exact rfl);(simp (decide:=true) only [wsU,List.map_cons,List.map_nil,List.append_nil,List.nil_append,List.cons_append,↓reduceIte,List.length_cons,List.length_nil,List.drop_zero,List.drop_succ_cons,List.take_succ_cons,List.take_zero,Nat.zero_add,Nat.reduceAdd,Nat.reduceLeDiff,and_self,wfU,vsplice,rep,List.replicate_succ,List.replicate_zero,List.flatten_cons,List.flatten_nil];exact rfl);(exact rfl);(exact rfl);(exact rfl);((try simp only [List.map_cons,List.map_nil,fg_int]);exact rfl))))
            · obtain ⟨a1,ha1⟩:∃ a1:Bool,a1=inR c.requests[i].node 0 ((c.first.length:Int) - 1):=⟨_,rfl⟩
              refine VW_loopR 6 (fun k fe B=>fe 1=.ptr σ.next 0∧σ.next≤B.low∧σ.next+1≤B.next∧B.heap σ.next=.cells (VEnc.e c) 26 8 σ.next∧fe 86=vl c.requests∧fe 87=vi c.requests.length∧fe 88=vi i∧fe 109=vi 3∧∃ (j tk:Nat) (a:Bool),fe 108=vo l3 tk∧fe 110=vi j∧k+j=3∧fe 4=vb a∧a=(a1 && (l3.take j).all Q))
                (fun fe B=>fe 1=.ptr σ.next 0∧σ.next≤B.low∧σ.next+1≤B.next∧B.heap σ.next=.cells (VEnc.e c) 26 8 σ.next∧fe 86=vl c.requests∧fe 87=vi c.requests.length∧fe 88=vi i∧fe 4=vb (a1 && l3.all Q)) 3 ?_ ?_ ?_
              · (repeat' (first | simp (decide:=true) only [↓wsD,wsU,ne_eq,wmU,↓reduceIte,Nat.add_eq_left,Nat.add_assoc,true_and,encU,VV.v.injEq,Value.int.injEq,Value.bool.injEq,Nat.le_min,eq_self,true_and,f1,f86,f87,f88,hz,d0]))
                exact ⟨⟨hlo,by omega⟩,by omega,0,_,_,by rw [hl3],rfl,rfl,rfl,by rw [ha1,List.take_zero];(rw [List.all_nil,Bool.and_true];rfl)⟩
              · rintro m fe B ⟨h1,hlo,hn,hz,h86,h87,h88,h109,j,tk,a,h108,h110,hm,h4,ha⟩
                have hj3:j≤3:=by omega
                cases a
                · (repeat' (first | simp (decide:=true) only [↓wsD,wsU,ne_eq,List.drop_zero,List.take_succ_cons,List.take_zero,true_and,encU,VV.v.injEq,Value.int.injEq,Value.bool.injEq,Int.toNat_natCast,eq_self,h1,h4,h86,h87,h88,h108,h109,h110,hz,w64_1' (show j≤1000000 by omega)] | ((with_reducible refine TestV_decE (fun _ gd=>?_) (fun _ gd=>?_))<;>(try rw [gd])) | ((with_reducible refine Got_viaOI ?_ ?_ ?_ ?_);(omega);(omega);(rfl)) | ((with_reducible refine Got_vld ?_ ?_ ?_);(omega);(decide))))
                  · exact ⟨m - 1,by omega,hlo,hn,j+1,_,_,rfl,rfl,by omega,rfl,by rw [all_take Q l3 j (by omega),← Bool.and_assoc,← ha];rfl⟩
                  · exact ⟨hlo,hn,by rw [List.take_of_length_le (by omega)] at ha;exact ha⟩
                · (repeat' (first | simp (decide:=true) only [↓wsD,wsU,List.map_cons,List.map_nil,ne_eq,List.drop_zero,List.take_succ_cons,List.take_zero,true_and,encU,List.map_cons,List.map_nil,VV.v.injEq,Value.int.injEq,Value.bool.injEq,Int.toNat_natCast,eq_self,h1,h4,h86,h87,h88,h108,h109,h110,hz,w64_1' (show j≤1000000 by omega)] | ((with_reducible apply VCall.goF);((try simp only [List.map_cons,List.map_nil,fg_int]);exact rfl);(first | exact within_any _ _ _);intro gn) | ((with_reducible refine TestV_decE (fun _ gd=>?_) (fun _ gd=>?_))<;>(try rw [gd])) | ((with_reducible refine Got_viaOI ?_ ?_ ?_ ?_);(omega);(omega);(rfl)) | ((with_reducible refine Got_vld ?_ ?_ ?_);(omega);(decide))))
                  · exact ⟨m - 1,by omega,hlo,by omega,j+1,_,_,rfl,rfl,by omega,rfl,by rw [all_take Q l3 j (by omega),← Bool.and_assoc,← ha,hQ];rfl⟩
                  · exact ⟨hlo,hn,by rw [List.take_of_length_le (by omega)] at ha;exact ha⟩
              · rintro fe B ⟨h1,hlo,hn,hz,h86,h87,h88,h4⟩
                (repeat' (first | simp (decide:=true) only [↓wsD,wsU,ne_eq,true_and,encU,VV.v.injEq,Value.int.injEq,Value.bool.injEq,eq_self,h1,h4,h86,h87,h88,hz,w64_1' (show i≤1000000 by omega)]))
                exact ⟨k - 1,by omega,hlo,hn,i+1,_,rfl,by omega,rfl,by rw [all_take (reqC c) c.requests i (by omega),← Bool.and_assoc,← hacc,reqC,ha1,hl3,hQ];rfl⟩
            · exact ⟨hlo,by rw [List.take_of_length_le (by omega)] at hacc;exact hacc⟩
        · (repeat' (first | simp (decide:=true) only [↓wsD,wsU,List.map_cons,List.map_nil,ne_eq,List.append_nil,List.nil_append,Nat.add_zero,wmU,↓reduceIte,List.length_cons,List.length_nil,List.drop_zero,List.drop_succ_cons,List.take_succ_cons,List.take_zero,Nat.zero_add,Nat.reduceAdd,Nat.reduceLeDiff,and_self,vsplice,encU,List.map_cons,List.map_nil,Nat.le_refl,VV.v.injEq,Value.bool.injEq,List.append_nil,Int.toNat_natCast,eq_self,f1,f4,f86,f87,f88,hz] | ((with_reducible refine TestV_decE (fun _ gd=>?_) (fun _ gd=>?_))<;>(try rw [gd])) | ((with_reducible refine PickV_t (fun gd=>?_) (fun gd=>?_))<;>(try rw [gd])) | ((with_reducible refine Got_viaI ?_ ?_ ?_ ?_);(omega);(omega);(rfl)) | ((with_reducible refine Got_vld ?_ ?_ ?_);(omega);(decide))))
          all_goals first
            | omega
            | exact ⟨hlo,by rw [List.take_of_length_le (by omega)] at hacc;exact hacc⟩
      · rintro fe Z ⟨hlo,f4⟩
        cases hb:(L.all P && c.requests.all (reqC c))
        · rw [hb] at f4
          (repeat' (first | simp (decide:=true) only [↓wsD,wsU,Bool.not_false,true_and,wfU,VV.v.injEq,Value.int.injEq,f4]))
          refine ⟨hlo,?_⟩
          rw [if_neg]
          rw [validC,decide_eq_true hH,← hL,← hP,hb]
          decide
        · rw [hb] at f4
          (repeat' (first | simp (decide:=true) only [↓wsD,wsU,Bool.not_true,true_and,wfU,VV.v.injEq,Value.int.injEq,f4]))
          refine ⟨hlo,?_⟩
          rw [if_pos]
          rw [validC,decide_eq_true hH,← hL,← hP,hb]
          rfl
end
end Go.Proofs.YtiinecnjokaejaaGreatDoor

set_option linter.unusedSimpArgs false
set_option linter.unusedSectionVars false
set_option linter.unusedVariables false
namespace Go.Proofs.YtiinecnjokaejaaGreatDoor
open Go Go.RowKit
theorem fz_row (id z n:Nat) (cs:List VV) (h:cs.length=n * z):fzV id z cs (.slice id 0 n n)=.lst n cs:=by
 rw [fzV,if_pos ⟨rfl,Nat.le_refl _,by omega⟩,List.drop_zero,List.take_of_length_le (by omega)]
theorem VCall.goW {P:Program} [Prim P] {α:Type} [VEnc α] {σ:VSt} {f:FuncId} {args:List VV} {l:List α} {K:VV→VSt→Bool→Prop} (h:VC P f args σ (fun r σ'=>σ.next≤σ'.low∧Rw σ' σ.next r l))
  (hq:∀ id τ t q,σ.next≤q→q≤id→id < τ.next→τ.heap id=.cells (vencs l) t (VEnc.w α) q→σ.next≤τ.next→min σ.low σ.next≤τ.low→τ.low≤σ.low→(∀ j,j < σ.next→τ.heap j=σ.heap j)→(∀ j,j < σ.next→τ.live j=σ.live j)→K (.slice id 0 l.length l.length) τ false):@VCall P _ f args ⟨((false,false),σ,K)⟩:=by
 refine VCall.any h ?_
 rintro v σ' ⟨hlo,id,t,q,rfl,a1,a2,a3,a4⟩ hn hk
 exact hq id (σ.join σ') t q a1 a2 a3 a4 hn (by show _≤min σ.low σ'.low;omega) (Nat.min_le_left _ _) (fun j hj=>(hk j hj (by omega)).1) (fun j hj=>(hk j hj (by omega)).2)
section
variable [Prim Tryz.prog]
set_option maxHeartbeats 1000000 in
theorem own_raw (c:Cfg) (h1:1≤c.programs.length) (hp:c.programs.length≤1000∧c.first.length≤1000∧c.restarts.length≤1000∧c.requests.length≤1000) (hc:∀ p∈c.programs,p.code.length≤1000) (σ:VSt) :
  VC Tryz.prog 43 [.agg (VEnc.e c)] σ (fun r σ'=>σ.next≤σ'.low∧∃ (id:Nat) (A:List VV) (t:TypeId) (q:Nat),σ.next≤id∧σ'.heap id=.cells A t 43 q∧A.map VV.fg=vencs c.programs∧r=.agg [.slice id 0 c.programs.length c.programs.length,vl c.first,vl c.restarts,vl c.requests,vi c.crashes,vi c.drops,vi c.dups,vi c.drift]):=by
 refine VC_body XF43 ?_
 (repeat' (first | simp (decide:=true) only [↓wsD,wsU,List.map_cons,List.map_nil,ne_eq,Nat.add_zero,wmU,↓reduceIte,Nat.left_eq_add,List.length_cons,List.length_nil,List.drop_zero,List.take_succ_cons,List.take_zero,Nat.zero_add,Nat.reduceAdd,Nat.reduceLeDiff,encU,List.map_cons,List.map_nil,eq_self,xf43]))
 refine VCall.goW (clonePrg_row c.programs h1 (by omega) _) ?_
 intro id τ t q q1 q2 q3 q4 q5 q6 q7 q8 q9
 simp only [low_box,low_fresh,next_box,next_fresh] at q1 q5 q6 q7 q8 q9
 have z1:τ.heap σ.next=.cells (VEnc.e c) 26 8 σ.next:=by rw [q8 σ.next (by omega)];simp (decide:=true) only [wsU,wmU,↓reduceIte,Nat.left_eq_add,encU,eq_self]
 have z2:τ.heap (σ.next+1)=.cells zeroC 26 8 (σ.next+1):=by rw [q8 (σ.next+1) (by omega)];simp (decide:=true) only [wsU,wmU,↓reduceIte,eq_self];rfl
 clear q8
 have n1:(σ.next=id)=False:=eq_false (by omega)
 have n2:(σ.next+1=id)=False:=eq_false (by omega)
 have n3:(id=σ.next)=False:=eq_false (by omega)
 have n4:(id=σ.next+1)=False:=eq_false (by omega)
 (repeat' (first | simp (decide:=true) only [↓wsD,wsU,ne_eq,List.nil_append,List.cons_append,Nat.add_zero,wmU,↓reduceIte,List.length_cons,List.length_nil,List.drop_zero,List.drop_succ_cons,List.take_succ_cons,List.take_zero,Nat.zero_add,Nat.reduceAdd,Nat.reduceLeDiff,and_self,vsplice,encU,eq_self,z1]))
 refine VW_loopR 0 (fun k fe Z=>fe 1=.ptr σ.next 0∧fe 2=.ptr (σ.next+1) 0∧fe 10=vi c.programs.length∧σ.next≤Z.low∧id < Z.next∧Z.heap σ.next=.cells [.slice id 0 c.programs.length c.programs.length,vl c.first,vl c.restarts,vl c.requests,vi c.crashes,vi c.drops,vi c.dups,vi c.drift] 26 8 σ.next∧Z.heap (σ.next+1)=.cells zeroC 26 8 (σ.next+1)∧∃ (i:Nat) (A:List VV),fe 11=vi i∧k+i=c.programs.length∧i≤c.programs.length∧Z.heap id=.cells (A++vencs (c.programs.drop i)) t 43 q∧A.length=i * 43∧A.map VV.fg=vencs (c.programs.take i))
  (fun fe Z=>fe 1=.ptr σ.next 0∧fe 2=.ptr (σ.next+1) 0∧σ.next≤Z.low∧id < Z.next∧Z.heap σ.next=.cells [.slice id 0 c.programs.length c.programs.length,vl c.first,vl c.restarts,vl c.requests,vi c.crashes,vi c.drops,vi c.dups,vi c.drift] 26 8 σ.next∧Z.heap (σ.next+1)=.cells zeroC 26 8 (σ.next+1)∧∃ A:List VV,Z.heap id=.cells A t 43 q∧A.map VV.fg=vencs c.programs) c.programs.length ?_ ?_ ?_
 ·(repeat' (first | simp (decide:=true) only [↓wsD,wsU,ne_eq,wmU,↓reduceIte,Nat.add_eq_left,true_and,and_true,encU,Nat.le_refl,VV.v.injEq,Value.int.injEq,Nat.le_min,eq_self,true_and,z2,q4,n3]))
  exact ⟨by omega,q3,0,[],rfl,rfl,Nat.zero_le _,rfl,by simp,rfl⟩
 ·rintro k fe Z ⟨f1,f2,f10,hlo,hn,y1,y2,i,A,f11,hk,hi,y3,hA,hAf⟩
  rcases (show i < c.programs.length∨c.programs.length≤i by omega) with hil | hil
  ·have r1:((A++vencs (c.programs.drop i)).drop (i * 43)).take 1=[vl c.programs[i].code]:=by
    rw [← hA,List.drop_left,List.drop_eq_getElem_cons hil,vencs_cons]
    rfl
   have r2:(i * 43+1≤(A++vencs (c.programs.drop i)).length)=True:=eq_true (by rw [List.length_append,hA,vencs_length,wPrg,List.length_drop];omega)
   (repeat' (first | simp (decide:=true) only [↓wsD,wsU,List.zip_cons_cons,List.zip_nil_left,List.map_cons,List.map_nil,ne_eq,Nat.add_zero,↓reduceIte,List.length_cons,List.length_nil,List.drop_zero,List.take_succ_cons,List.take_zero,Nat.zero_add,Nat.reduceAdd,Nat.reduceLeDiff,true_and,vsplice,List.append_assoc,List.map_cons,List.map_nil,Int.toNat_natCast,eq_self,f1,f2,f10,f11,y1,y2,y3,r1,r2] | ((with_reducible apply VCall.goAF (α:=Ins));((try simp only [List.map_cons,List.map_nil,fg_vl]);exact rfl);(exact cloneIns_app _ (by have:=hc _ (List.getElem_mem hil);omega) _);intro gv gn glv ga gl;try simp only [low_skip,low_box,low_write,low_newTok,low_fresh,low_pu,next_skip,next_box,next_write,next_newTok,next_fresh,next_pu] at ga gl) | ((with_reducible refine TestV_decE (fun _ gd=>?_) (fun _ gd=>?_))<;>(try rw [gd])) | ((with_reducible refine Got_viaSI ?_ ?_ ?_);(omega);(omega))))
   ·have e1:(A++vencs (c.programs.drop i)).take (i * 43)=A:=by rw [← hA,List.take_left]
    have e2:(A++vencs (c.programs.drop i)).drop (i * 43+1)=(VEnc.e c.programs[i]).drop 1++vencs (c.programs.drop (i+1)):=by
     rw [← List.drop_drop,← hA,List.drop_left,List.drop_eq_getElem_cons hil,vencs_cons,List.drop_append_of_le_length (by rw [lenPrg];decide)]
    have r3:=ga.rd.cs1
    have r4:=ga.rd.vAll
    (repeat' (first | simp (decide:=true) only [↓wsD,wsU,ne_eq,List.nil_append,List.cons_append,wmU,↓reduceIte,List.length_cons,List.length_nil,Nat.zero_add,true_and,and_self,VV.v.injEq,Value.int.injEq,Nat.le_min,eq_self,f1,f2,f10,f11,y1,y2,n1,n2,r3,r4,e1,e2,w64_1' (show i≤1000000 by omega)]))
    refine ⟨k - 1,by omega,by omega,by omega,i+1,A++(gv::(VEnc.e c.programs[i]).drop 1),rfl,by omega,by omega,by rw [List.append_assoc];rfl,?_,?_⟩
    ·rw [List.length_append,List.length_cons,List.length_drop,lenPrg,hA];omega
    ·rw [List.map_append,List.map_cons,hAf,ga.rd.fg,List.map_drop,VEnc.fgd,← List.take_append_getElem hil,vencs_append,vencs_one]
     rfl
   ·omega
  ·(repeat' (first | simp (decide:=true) only [↓wsD,wsU,List.zip_cons_cons,List.zip_nil_left,ne_eq,Nat.add_zero,↓reduceIte,List.length_cons,List.length_nil,List.drop_zero,List.take_succ_cons,List.take_zero,Nat.zero_add,Nat.reduceAdd,Nat.reduceLeDiff,true_and,Int.toNat_natCast,eq_self,f1,f2,f10,f11,y1,y2,y3] | ((with_reducible refine TestV_decE (fun _ gd=>?_) (fun _ gd=>?_))<;>(try rw [gd])) | ((with_reducible refine Got_viaSI ?_ ?_ ?_);(omega);(omega))))
   all_goals first
    | omega
    | skip
   refine ⟨hlo,hn,A,?_,?_⟩
   ·rw [List.drop_of_length_le (by omega)];exact congrArg (fun x=>VB.cells x t 43 q) (List.append_nil A)
   ·rw [List.take_of_length_le (by omega)] at hAf;exact hAf
 ·rintro fe Z ⟨f1,f2,hlo,hn,y1,y2,A,y3,hAf⟩
  have hlt:(σ.next < Z.next)=True:=eq_true (by omega)
  (repeat' (first | simp (decide:=true) only [↓wsD,wsU,List.zip_cons_cons,List.zip_nil_left,allOld_any,keepsOld,Bool.and_true,List.map_cons,List.map_nil,ne_eq,List.append_nil,List.nil_append,List.cons_append,wmU,↓reduceIte,Nat.add_eq_left,List.length_cons,List.length_nil,List.drop_zero,List.drop_succ_cons,List.take_succ_cons,List.take_zero,Nat.zero_add,Nat.reduceAdd,Nat.reduceLeDiff,and_true,and_self,vsplice,List.map_cons,List.map_nil,Nat.le_refl,VV.agg.injEq,List.cons.injEq,List.append_nil,Nat.le_min,Nat.le_add_right,eq_self,f1,f2,y1,y2,hlt,zeroC] | ((with_reducible apply VCall.goF);((try simp only [List.map_cons,List.map_nil,fg_vl]);exact rfl);(first | exact cloneInt_any _ (by omega) | exact cloneReq_any _ (by omega));intro gn)))
  exact ⟨hlo,id,A,t,q,by omega,by simp only [n3,n4,if_false];exact y3,hAf,rfl⟩
theorem own_any (c:Cfg) (h1:1≤c.programs.length) (hp:c.programs.length≤1000∧c.first.length≤1000∧c.restarts.length≤1000∧c.requests.length≤1000) (hc:∀ p∈c.programs,p.code.length≤1000):VD Tryz.prog 43 [.agg (VEnc.e c)] (.agg (VEnc.e c)):=fun σ=>by
 refine VG.fz (own_raw c h1 hp hc σ) ?_
 rintro v σ' ⟨hlo,id,A,t,q,hid,hg,hA,rfl⟩
 refine ⟨id,A,t,43,q,hg,by rw [low_freeze];omega,?_⟩
 have hlen:A.length=c.programs.length * 43:=by
  have:=congrArg List.length hA
  rwa [List.length_map,vencs_length,wPrg] at this
 have q0:fzV id 43 A (.slice id 0 c.programs.length c.programs.length)=.lst c.programs.length A:=fz_row id 43 _ A (by rw [hlen])
 have q1:∀ {α:Type} [VEnc α] (l:List α),fzV id 43 A (vl l)=vl l:=fun l=>by unfold vl;rw [fzV]
 have q2:∀ n:Int,fzV id 43 A (vi n)=vi n:=fun n=>by rw [fzV]
 rw [fzV]
 simp only [List.map_cons,List.map_nil,q0,q1,q2,List.map_cons,List.map_nil,fg_int,fg_vl,fg_agg,VV.fg,hA]
 rfl
end
end Go.Proofs.YtiinecnjokaejaaGreatDoor

set_option linter.unusedSimpArgs false
set_option linter.unusedSectionVars false
set_option linter.unusedVariables false
namespace Go.Proofs.YtiinecnjokaejaaGreatDoor
open Go Go.RowKit
def rid:VV→Option Nat
 | .slice id _ _ _=>some id
 | _=>none
def RowN {α:Type} [VEnc α] (σ:VSt) (b:Nat) (v:VV) (l:List α):Prop:=(l=[]∧v=nilS)∨∃ id,v=.slice id 0 l.length l.length∧Rws σ b id l
theorem RowN.keep {α:Type} [VEnc α] {σ τ:VSt} {b:Nat} {v:VV} {l:List α} (h:RowN σ b v l) (hn:σ.next≤τ.next) (hh:∀ j,j < σ.next→rid v=some j→τ.heap j=σ.heap j):RowN τ b v l:=by
 rcases h with h | ⟨id,rfl,t,q,h1,h2,h3,h4⟩
 ·exact .inl h
 ·exact .inr ⟨id,rfl,t,q,h1,h2,by omega,by rw [hh id h3 rfl];exact h4⟩
theorem RowN.lt {α:Type} [VEnc α] {σ:VSt} {b:Nat} {v:VV} {l:List α} (h:RowN σ b v l) {id:Nat} (hi:rid v=some id):b≤id∧id < σ.next:=by
 rcases h with ⟨_,rfl⟩ | ⟨id',rfl,t,q,h1,h2,h3,h4⟩
 ·cases hi
 ·cases hi;omega
theorem RowN.cs1 {α:Type} [VEnc α] {σ:VSt} {b:Nat} {v:VV} {l:List α} (h:RowN σ b v l):v.cs=[v]:=by
 rcases h with ⟨_,rfl⟩ | ⟨id',rfl,_⟩<;>rfl
theorem RowN.vAll {α:Type} [VEnc α] {σ:VSt} {b:Nat} {v:VV} {l:List α} (h:RowN σ b v l) (r:List VV):Go.Proofs.YtiinecnjokaejaaGreatDoor.vAll (v::r)=Go.Proofs.YtiinecnjokaejaaGreatDoor.vAll r:=by
 rcases h with ⟨_,rfl⟩ | ⟨id',rfl,_⟩
 ·exact vAll_v _ _
 ·exact vAll_slice _ _ _ _ _
theorem VAppend.rwN {α:Type} [VEnc α] {σ:VSt} {K:VV→VSt→Bool→Prop} {b:Nat} {l m:List α} {e:TypeId} {esz bytes:Nat} {v x:VV} (h:RowN σ b v l) (hbn:b≤σ.next) (hm:m.length≠0) (hx:vcont σ esz x=some (m.length,vencs m)) (hw:esz=VEnc.w α) (hr:(l.length+m.length) * bytes≤reach) (hb:0 < bytes)
  (hk:∀ id' τ,Rws τ b id' (l++m)→σ.next=id'→σ.next≤τ.next→min σ.low b≤τ.low→τ.low≤σ.low→(∀ j,j < σ.next→rid v≠some j→τ.heap j=σ.heap j)→K (.slice id' 0 (l.length+m.length) (l.length+m.length)) τ false):@VAppend e esz bytes v x ⟨((false,false),σ,K)⟩:=by
 subst hw
 rcases h with ⟨rfl,rfl⟩ | ⟨id,rfl,t,q,h1,h2,h3,h4⟩
 ·refine VAppend.rw0 hx rfl (by simpa using hr) hb hm ?_
  have:=hk σ.next (σ.box (vencs m) e (VEnc.w α)) ⟨e,σ.next,hbn,Nat.le_refl _,by rw [next_box];omega,heap_box_self _ _ _ _⟩ rfl (by rw [next_box];omega) (by rw [low_box];omega) (by rw [low_box];exact Nat.le_refl _) (fun j hj _=>by rw [heap_box,if_neg (by omega)])
  simpa using this
 ·refine VAppend.row (r:=.slice σ.next 0 (l.length+m.length) (l.length+m.length)) (σ':=(σ.kill id q).alloc (.cells (vencs (l++m)) e (VEnc.w α) q)) ?_ (hk σ.next _ ⟨e,q,h1,by omega,by simp [VSt.alloc,VSt.kill],by simp [VSt.alloc,VSt.kill]⟩ rfl (by simp [VSt.alloc,VSt.kill]) (by simp only [VSt.alloc,VSt.kill];omega) (by simp only [VSt.alloc,VSt.kill];omega) (fun j hj hne=>?_))
  ·unfold vappS
   rw [hx]
   simp only [Option.bind_some,hm,if_false,h4]
   rw [if_pos (by simp [vencs_all,VEnc.pos,hb]),if_pos ⟨trivial,trivial,by rw [vencs_length];omega⟩,if_pos hr,List.drop_zero,← vencs_append]
  ·have hji:j≠id:=fun e=>hne (by rw [e];rfl)
   simp [VSt.alloc,VSt.kill,hji]
   intro e;omega
theorem srcC_code {c:Cfg} (h:∀ p∈c.programs,∃ i,i < 12∧p=srcP i):∀ p∈c.programs,p.code.length≤1000:=fun p hp=>by
 obtain ⟨i,hi,rfl⟩:=h p hp
 obtain ⟨D,hD⟩:=srcOK hi
 have:=hD.code
 omega
theorem vx_mkMap (σ:VSt):vextra .mkMap [] σ=some (.map σ.next,σ.alloc (.obj (.map [] 0))):=Eq.trans rfl rfl
theorem heapAl (σ:VSt) (b:VB) (j:Nat):(σ.alloc b).heap j=if j=σ.next then b else σ.heap j:=Eq.trans rfl rfl
theorem nextAl (σ:VSt) (b:VB):(σ.alloc b).next=σ.next+1:=Eq.trans rfl rfl
theorem lowAl (σ:VSt) (b:VB):(σ.alloc b).low=σ.low:=Eq.trans rfl rfl
theorem vmk_S (n:Int) (e:TypeId) (σ:VSt) (h0:0≤n) (h:n≤1000000):vmk e 1 24 [.slice none 0 0] (vi n) (vi n) σ=some (.slice σ.next 0 n.toNat n.toNat,σ.box (List.replicate n.toNat nilS) e 1):=by
 simp only [vmk]
 rw [if_pos ⟨by omega,by omega,by unfold reach;omega,by decide,rfl,rfl⟩]
 have:(rep n.toNat [Value.slice none 0 0]).map VV.v=List.replicate n.toNat nilS:=by
  generalize n.toNat=m
  induction m with
  | zero=>rfl
  | succ m ih=>rw [List.replicate_succ,← ih];simp [rep,List.replicate_succ,nilS]
 simp only [this]
theorem Rws.put {α:Type} [VEnc α] {σ:VSt} {b id j:Nat} {l:List α} (h:Rws σ b id l) (hj:id≠j) (cs:List VV) (t:TypeId) (z q:Nat):Rws (σ.write j cs t z q) b id l:=by
 obtain ⟨t',q',a1,a2,a3,a4⟩:=h
 exact ⟨t',q',a1,a2,a3,by rw [heap_write_ne _ _ _ _ _ _ _ hj];exact a4⟩
structure NewW (τ:VSt) (b idN idX:Nat) (c:Cfg):Prop where
 next:b+4≤τ.next
 fails:τ.heap b=.cells (List.replicate c.first.length nilS) 207 1 b
 traces:τ.heap (b+1)=.cells (List.replicate c.first.length nilS) 212 1 (b+1)
 cov:τ.heap (b+2)=.obj (.map [] 0)
 ne:idN≠idX
 nodes:Rws τ (b+4) idN (List.replicate c.first.length newN)
 nexts:Rws τ (b+4) idX ((List.range c.first.length).map fun (j:Nat)=>afterR c j (-1))
 world:τ.heap (b+3)=.cells [vl c.programs,vl c.first,vl c.restarts,vl c.requests,vi c.crashes,vi c.drops,vi c.dups,vi c.drift,.slice idN 0 c.first.length c.first.length,nilS,.slice idX 0 c.first.length c.first.length,nilS,.slice b 0 c.first.length c.first.length,.slice (b+1) 0 c.first.length c.first.length,.map (b+2),vi 0] 136 16 (b+3)
section
variable [Prim Tryz.prog] [SrcOK]
set_option maxHeartbeats 1000000 in
theorem new_raw (c:Cfg) (hp:ProgsOK c) (σ:VSt) :
  VC Tryz.prog 26 [.agg (VEnc.e c)] σ (fun r σ'=>σ.next≤σ'.low∧if validC c then ∃ b idN idX,σ.next≤b∧r=.tup [.ptr (b+3) 0,vi 0]∧NewW σ' b idN idX c else r=.tup [.v (.pointer none),vi 20]):=by
 have vm:=fun (n:Int) e τ=>vmk_S n e τ
 obtain ⟨hp1,hp2,hp3,hp4,hp5⟩:=hp
 have hcode:=srcC_code hp5
 refine VC_body XF26 ?_
 cases hv:validC c
 ·have hk:=check_any c ⟨hp1,hp2,hp3,hp4,hp5⟩
  rw [hv] at hk
  (repeat' (first | simp (decide:=true) only [↓wsD,wsU,Option.bind_some,List.map_cons,List.map_nil,ne_eq,wmU,↓reduceIte,List.length_cons,List.length_nil,List.drop_zero,List.take_succ_cons,List.take_zero,Nat.zero_add,Nat.reduceAdd,and_self,encU,List.map_cons,List.map_nil,Nat.le_refl,eq_self,decide_true,xf26] | ((with_reducible apply VCall.goF);((try simp only [List.map_cons,List.map_nil,fg_int,fg_vl,fg_agg]);exact rfl);(first | exact hk);intro gn)))
 ·have hk:=check_any c ⟨hp1,hp2,hp3,hp4,hp5⟩
  rw [hv] at hk
  have hf:1≤c.first.length∧c.first.length≤12∧1≤c.programs.length:=by
   rw [validC,Bool.and_eq_true,decide_eq_true_eq] at hv
   have h1:=hv.1
   unfold headC at h1
   omega
  have vm:=fun e τ=>vmk_S c.first.length e τ (by omega) (by omega)
  (repeat' (first | simp (decide:=true) only [↓wsD,wsU,List.zip_cons_cons,List.zip_nil_left,List.map_cons,List.map_nil,ne_eq,List.nil_append,List.cons_append,wmU,↓reduceIte,List.length_cons,List.length_nil,List.drop_zero,List.drop_succ_cons,List.take_succ_cons,List.take_zero,Nat.zero_add,Nat.add_assoc,Nat.reduceAdd,Nat.reduceLeDiff,and_self,wfU,vsplice,encU,List.map_cons,List.map_nil,Nat.le_refl,Int.toNat_natCast,eq_self,decide_false,xf26,vm,Int.toNat_natCast,vx_mkMap,nextAl] | ((with_reducible apply VCall.goF);((try simp only [List.map_cons,List.map_nil,fg_int,fg_vl,fg_agg]);exact rfl);(first | exact hk | exact own_any c (by omega) (by omega) hcode);intro gn)))
  rename_i g1
  refine VLoop_at (fun A hA=>?_)
  obtain ⟨n,hn⟩:∃ n,n=c.first.length:=⟨_,rfl⟩
  obtain ⟨b,hb⟩:∃ b,b=σ.next+(1+(g1+gn)):=⟨_,rfl⟩
  have zF:A.heap b=.cells (List.replicate n nilS) 207 1 b:=by rw [hA,hb,hn];simp (decide:=true) only [wsU,wmU,↓reduceIte,Nat.left_eq_add,Nat.add_left_cancel_iff,Nat.add_assoc,Nat.reduceAdd,eq_self,heapAl,nextAl]
  have zT:A.heap (b+1)=.cells (List.replicate n nilS) 212 1 (b+1):=by rw [hA,hb,hn];simp (decide:=true) only [wsU,wmU,↓reduceIte,Nat.left_eq_add,Nat.add_right_cancel_iff,Nat.add_left_cancel_iff,Nat.add_assoc,Nat.reduceAdd,eq_self,heapAl,nextAl]
  have zM:A.heap (b+2)=.obj (.map [] 0):=by rw [hA,hb];simp (decide:=true) only [wsU,wmU,↓reduceIte,Nat.left_eq_add,Nat.add_right_cancel_iff,Nat.add_left_cancel_iff,Nat.add_assoc,Nat.reduceAdd,eq_self,heapAl,nextAl]
  have zW:A.heap (b+3)=.cells [vl c.programs,vl c.first,vl c.restarts,vl c.requests,vi c.crashes,vi c.drops,vi c.dups,vi c.drift,nilS,nilS,nilS,nilS,.slice b 0 n n,.slice (b+1) 0 n n,.map (b+2),vi 0] 136 16 (b+3):=by rw [hA,hb,hn];simp (decide:=true) only [wsU,wmU,↓reduceIte,Nat.add_assoc,Nat.reduceAdd,eq_self,nextAl];rfl
  have zn:A.next=b+4:=by rw [hA,hb];simp (decide:=true) only [wsU,Nat.add_assoc,Nat.reduceAdd,eq_self,nextAl]
  have zl:A.low=σ.next:=by rw [hA];simp (decide:=true) only [wsU,eq_self,lowAl]
  clear hA
  obtain ⟨nx,hnx⟩:∃ nx:List Int,nx=(List.range n).map fun (j:Nat)=>afterR c j (-1):=⟨_,rfl⟩
  have hnxl:nx.length=n:=by rw [hnx,List.length_map,List.length_range]
  refine VW_loopR 0 (fun k fe Z=>fe 6=.ptr (b+3) 0∧fe 25=vi n∧σ.next≤Z.low∧b+4≤Z.next∧Z.heap b=.cells (List.replicate n nilS) 207 1 b∧Z.heap (b+1)=.cells (List.replicate n nilS) 212 1 (b+1)∧Z.heap (b+2)=.obj (.map [] 0)∧∃ (i:Nat) (NV XV:VV),fe 26=vi i∧k+i=n∧Z.heap (b+3)=.cells [vl c.programs,vl c.first,vl c.restarts,vl c.requests,vi c.crashes,vi c.drops,vi c.dups,vi c.drift,NV,nilS,XV,nilS,.slice b 0 n n,.slice (b+1) 0 n n,.map (b+2),vi 0] 136 16 (b+3)∧
    RowN Z (b+4) NV (List.replicate i newN)∧RowN Z (b+4) XV (nx.take i)∧∀ j,rid NV=some j→rid XV≠some j)
   (fun fe Z=>fe 6=.ptr (b+3) 0∧σ.next≤Z.low∧b+4≤Z.next∧Z.heap b=.cells (List.replicate n nilS) 207 1 b∧Z.heap (b+1)=.cells (List.replicate n nilS) 212 1 (b+1)∧Z.heap (b+2)=.obj (.map [] 0)∧∃ idN idX,idN≠idX∧Rws Z (b+4) idN (List.replicate n newN)∧Rws Z (b+4) idX nx∧Z.heap (b+3)=.cells [vl c.programs,vl c.first,vl c.restarts,vl c.requests,vi c.crashes,vi c.drops,vi c.dups,vi c.drift,.slice idN 0 n n,nilS,.slice idX 0 n n,nilS,.slice b 0 n n,.slice (b+1) 0 n n,.map (b+2),vi 0] 136 16 (b+3)) n ?_ ?_ ?_
  ·(repeat' (first | simp (decide:=true) only [↓wsD,ne_eq,Nat.add_eq_left,true_and,VV.v.injEq,Value.int.injEq,eq_self,true_and,← hn]))
   exact ⟨by rw [hb];congr 1,by omega,by omega,zF,zT,zM,0,nilS,nilS,rfl,rfl,zW,.inl ⟨rfl,rfl⟩,.inl ⟨rfl,rfl⟩,fun j hj=>by cases hj⟩
  ·rintro k fe Z ⟨f6,f25,lo,nx4,y0,y1,y2,i,NV,XV,f26,hk,y3,hN,hX,hd⟩
   have hs1:∀ x,rid NV=some x→b+4≤x:=fun x hx=>(hN.lt hx).1
   have hs2:∀ x,rid XV=some x→b+4≤x:=fun x hx=>(hX.lt hx).1
   have c1:=hN.cs1
   have c2:=hX.cs1
   have c3:=hN.vAll
   have c4:=hX.vAll
   (repeat' (first | simp (decide:=true) only [↓wsD,wsU,List.zip_cons_cons,List.zip_nil_left,Option.bind_some,List.map_cons,List.map_nil,ne_eq,↓reduceIte,List.length_cons,List.length_nil,List.drop_zero,List.drop_succ_cons,List.take_succ_cons,List.take_zero,Nat.zero_add,Nat.reduceAdd,Nat.reduceLeDiff,true_and,and_true,List.map_cons,List.map_nil,VV.tup.injEq,List.cons.injEq,eq_self,f6,f25,f26,y0,y1,y2,y3] | ((with_reducible apply VCall.goF);((try simp only [List.map_nil]);exact rfl);(first | exact nodeNew_any);intro gn) | ((with_reducible refine TestV_decE (fun _ gd=>?_) (fun _ gd=>?_))<;>(try rw [gd]))))
   ·refine VBuild.one newN rfl rfl rfl (cs_agg _) ?_
    (repeat' (first | simp (decide:=true) only [↓wsD,wsU,ne_eq]))
    refine VAppend.rwN (b:=b+4) (l:=List.replicate i newN) (m:=[newN]) (hN.keep (by simp only [next_skip,next_newTok];omega) (fun j hj hr=>by simp (decide:=true) only [wsU,wmU,eq_self])) (by simp only [next_skip,next_newTok];omega) (by decide) (vcont_vo _ _ _ rfl) rfl (by rw [List.length_replicate];unfold reach;simp;omega) (by decide) ?_
    intro id1 τ k1 k2 k3 k4 k5 k6
    simp only [low_skip,low_newTok,next_skip,next_newTok] at k2 k3 k4 k5 k6
    have ne:∀ x,x < b+4→rid NV≠some x:=fun x hx h=>by have:=hs1 x h;omega
    have u0:τ.heap b=.cells (List.replicate n nilS) 207 1 b:=by rw [k6 b (by omega) (ne b (by omega))];simp (decide:=true) only [wsU,wmU];exact y0
    have u1:τ.heap (b+1)=.cells (List.replicate n nilS) 212 1 (b+1):=by rw [k6 _ (by omega) (ne _ (by omega))];simp (decide:=true) only [wsU,wmU];exact y1
    have u2:τ.heap (b+2)=.obj (.map [] 0):=by rw [k6 _ (by omega) (ne _ (by omega))];simp (decide:=true) only [wsU,wmU];exact y2
    have u3:=(k6 (b+3) (by omega) (ne _ (by omega))).trans (show _=_ from by simp (decide:=true) only [wsU,wmU];exact y3)
    have uX:RowN τ (b+4) XV (nx.take i):=hX.keep (by omega) (fun j hj hr=>by rw [k6 j (by omega) (fun h=>hd j h hr)];simp (decide:=true) only [wsU,wmU,eq_self])
    clear k6
    (repeat' (first | simp (decide:=true) only [↓wsD,wsU,List.map_cons,List.map_nil,ne_eq,List.nil_append,List.cons_append,wmU,↓reduceIte,List.length_cons,List.length_nil,List.drop_zero,List.drop_succ_cons,List.take_succ_cons,List.take_zero,Nat.zero_add,Nat.reduceAdd,Nat.reduceLeDiff,and_self,vsplice,List.map_cons,List.map_nil,eq_self,f6,u3,List.length_replicate]))
    refine VCall_at (fun B hB=>?_)
    have nb:∀ x,x < b+3→((x=b+3)=False):=fun x hx=>eq_false (by omega)
    have v0:B.heap b=.cells (List.replicate n nilS) 207 1 b:=by rw [hB,heap_write,if_neg (by omega)];exact u0
    have v1:B.heap (b+1)=.cells (List.replicate n nilS) 212 1 (b+1):=by rw [hB,heap_write,if_neg (by omega)];exact u1
    have v2:B.heap (b+2)=.obj (.map [] 0):=by rw [hB,heap_write,if_neg (by omega)];exact u2
    have v3:=(congrArg (fun s:VSt=>s.heap (b+3)) hB).trans (heap_write_self _ _ _ _ _ _)
    have vN:Rws B (b+4) id1 (List.replicate i newN++[newN]):=by
     obtain ⟨t,q,a1,a2,a3,a4⟩:=k1
     exact ⟨t,q,a1,a2,by rw [hB];exact a3,by rw [hB,heap_write,if_neg (by omega)];exact a4⟩
    have vX:RowN B (b+4) XV (nx.take i):=uX.keep (by rw [hB];exact Nat.le_refl _) (fun j hj hr=>by rw [hB,heap_write,if_neg (by have:=hs2 j hr;omega)])
    have vl1:B.low=min τ.low (b+3):=by rw [hB];rfl
    have vn1:B.next=τ.next:=by rw [hB];rfl
    have hid1:∀ j,rid XV=some j→j≠id1:=fun j hj=>by
     have:=(hX.lt hj).2
     omega
    clear hB
    refine VCall.goG (by simp only [List.map_cons,List.map_nil,fg_int,fg_ptr]) (after_any c (b+3) i (-1) ⟨by omega,by omega⟩ (by omega) B v3) ?_
    intro gn2
    (repeat' (first | simp (decide:=true) only [↓wsD,wsU,List.map_cons,List.map_nil,ne_eq,List.length_cons,List.length_nil,Nat.zero_add,List.map_cons,List.map_nil,f6] | ((with_reducible apply VBuild.enc [(_:Int)]);(exact rfl);(simp (decide:=true) only [wsU,List.map_cons,List.map_nil,List.append_nil,List.nil_append,↓reduceIte,List.length_cons,List.length_nil,List.drop_zero,List.drop_succ_cons,List.take_zero,Nat.zero_add,and_self,wfU,vsplice,rep,List.replicate_succ,List.replicate_zero,List.flatten_cons,List.flatten_nil];exact rfl);(exact rfl);(exact rfl);(exact rfl);((try simp only [List.map_cons,List.map_nil,fg_int]);exact rfl))))
    have hX1:(nx.take i).length=i:=by rw [List.length_take,hnxl];omega
    refine VAppend.rwN (b:=b+4) (l:=nx.take i) (m:=[afterR c i (-1)]) (vX.keep (by simp only [next_skip,next_newTok];omega) (fun j hj hr=>by simp (decide:=true) only [wsU,wmU,eq_self])) (by simp only [next_skip,next_newTok];omega) (by simp) (vcont_vo _ _ _ rfl) rfl (by rw [hX1];unfold reach;simp;omega) (by decide) ?_
    intro id2 τ2 l1 l2 l3 l4 l5 l6
    simp only [low_skip,low_newTok,next_skip,next_newTok] at l2 l3 l4 l5 l6
    have ne2:∀ x,x < b+4→rid XV≠some x:=fun x hx h=>by have:=hs2 x h;omega
    have w0:τ2.heap b=.cells (List.replicate n nilS) 207 1 b:=by rw [l6 b (by omega) (ne2 b (by omega))];simp (decide:=true) only [wsU,wmU];exact v0
    have w1:τ2.heap (b+1)=.cells (List.replicate n nilS) 212 1 (b+1):=by rw [l6 _ (by omega) (ne2 _ (by omega))];simp (decide:=true) only [wsU,wmU];exact v1
    have w2:τ2.heap (b+2)=.obj (.map [] 0):=by rw [l6 _ (by omega) (ne2 _ (by omega))];simp (decide:=true) only [wsU,wmU];exact v2
    have w3:=(l6 (b+3) (by omega) (ne2 _ (by omega))).trans (show _=_ from by simp (decide:=true) only [wsU,wmU];exact v3)
    have wN:Rws τ2 (b+4) id1 (List.replicate i newN++[newN]):=by
     obtain ⟨t,q,a1,a2,a3,a4⟩:=vN
     exact ⟨t,q,a1,a2,by omega,by rw [l6 id1 (by omega) (fun h=>hid1 id1 h rfl)];simp (decide:=true) only [wsU,wmU,encU];exact a4⟩
    clear l6
    (repeat' (first | simp (decide:=true) only [↓wsD,wsU,ne_eq,List.nil_append,List.cons_append,wmU,↓reduceIte,Nat.left_eq_add,Nat.add_right_cancel_iff,List.length_cons,List.length_nil,List.drop_zero,List.drop_succ_cons,List.take_succ_cons,List.take_zero,Nat.zero_add,Nat.reduceAdd,Nat.reduceLeDiff,true_and,and_self,vsplice,VV.v.injEq,Value.int.injEq,Nat.le_min,eq_self,f6,f25,f26,w0,w1,w2,w3,hX1,w64_1' (show i≤1000000 by omega)]))
    have hil:i < n:=by omega
    have e1:List.replicate i newN++[newN]=List.replicate (i+1) newN:=List.replicate_succ'.symm
    have e2:nx.take i++[afterR c i (-1)]=nx.take (i+1):=by
     rw [← List.take_append_getElem (show i < nx.length by omega)]
     simp [hnx]
    rw [e1] at wN
    rw [e2] at l1
    have hb1:id1≠b+3:=by obtain ⟨t,q,a1,a2,_⟩:=wN;omega
    have hb2:id2≠b+3:=by obtain ⟨t,q,a1,a2,_⟩:=l1;omega
    exact ⟨k - 1,by omega,⟨by omega,by omega⟩,by omega,i+1,_,_,rfl,by omega,rfl,.inr ⟨id1,by rw [List.length_replicate],wN.put hb1 _ _ _ _⟩,.inr ⟨id2,by rw [List.length_take,Nat.min_eq_left (by omega)],l1.put hb2 _ _ _ _⟩,fun j hj hj2=>by cases hj;cases hj2;omega⟩
   ·have hin:i=n:=by omega
    subst hin
    rcases hN with ⟨h,_⟩ | ⟨idN,rfl,hN⟩
    ·have:=congrArg List.length h;rw [List.length_replicate,List.length_nil] at this;omega
    rcases hX with ⟨h,_⟩ | ⟨idX,rfl,hX⟩
    ·have:=congrArg List.length h;rw [List.length_take,hnxl,Nat.min_self,List.length_nil] at this;omega
    rw [List.take_of_length_le (by omega)] at hX
    refine ⟨lo,nx4,idN,idX,fun e=>hd idN rfl (by rw [e];rfl),hN,hX,?_⟩
    rw [List.length_replicate,List.length_take,hnxl,Nat.min_self]
  ·rintro fe Z ⟨f6,lo,nx4,y0,y1,y2,idN,idX,hne,hN,hX,y3⟩
   (repeat' (first | simp (decide:=true) only [↓wsD,wsU,Option.bind_some,ne_eq,and_true,VV.tup.injEq,List.cons.injEq,eq_self,f6]))
   refine ⟨lo,?_⟩
   subst hn
   subst hnx
   exact ⟨b,idN,idX,by omega,rfl,nx4,y0,y1,y2,hne,hN,hX,y3⟩
end
theorem NewW.keep {τ τ':VSt} {b idN idX:Nat} {c:Cfg} (h:NewW τ b idN idX c) (hn:τ.next≤τ'.next) (hh:∀ j,j < τ.next→τ'.heap j=τ.heap j):NewW τ' b idN idX c:=by
 have h1:=h.next
 have rw1:∀ {α:Type} [VEnc α] {id:Nat} {l:List α},Rws τ (b+4) id l→Rws τ' (b+4) id l:=fun ⟨t,q,a1,a2,a3,a4⟩=>⟨t,q,a1,a2,by omega,by rw [hh _ a3];exact a4⟩
 exact ⟨by omega,by rw [hh b (by omega)];exact h.fails,by rw [hh _ (by omega)];exact h.traces,by rw [hh _ (by omega)];exact h.cov,h.ne,rw1 h.nodes,rw1 h.nexts,by rw [hh _ (by omega)];exact h.world⟩
theorem VCall.goY {P:Program} [Prim P] {σ:VSt} {f:FuncId} {args args2:List VV} {x:VV} {k:Bool × Bool} {K:VV→VSt→Bool→Prop} (ha:FgL args args2) (h:VC P f args2 σ (fun r σ'=>σ.next≤σ'.low∧r=x)) (hq:∀ n,K x (σ.skip n) true):@VCall P _ f args ⟨(k,σ,K)⟩:=VCall.goX (VC.fg ha h) hq
end Go.Proofs.YtiinecnjokaejaaGreatDoor

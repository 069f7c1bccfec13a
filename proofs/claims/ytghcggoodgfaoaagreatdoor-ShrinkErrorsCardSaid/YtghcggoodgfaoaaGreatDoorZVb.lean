/- The second view: its logic, and that it is sound. No program in sight. The second view: code is sound; functions. No program in sight. The second view: rules to evaluate a piece of code. The second view: lists of elements, calls that only compute. A law that is shown in the second view. A row that nobody writes any more becomes a value. Rows that are written: elements read, elements set; what a call leaves as it was. What a call laid and nobody holds is dropped: the memory after it is a closed term. Appends in the same form. Calls that are shown by hand, as a list of entries; their contracts in the second view. No program in sight. Lists of rules, each under one name. The simulation's structures, and how they lie in memory (printed by a program). The simulation as plain functions: disk, machine, node, network, world. No program in sight. The simulation as plain functions: node, network, world. No program in sight. Closed calls that give a list and numbers; closed calls that use known ones. No program in sight. Programs that may be run never fail; disks: plainly. No program in sight. What holds of a simulation while it runs: plainly. No program in sight. What holds of a simulation while it runs: the world, plainly. No program in sight. What holds of a simulation while it runs: events and steps, plainly. No program in sight. Contracts of calls that are entries of a list, when several entries share a function. No program in sight. -/
import Derived.Test.YtghcggoodgfaoaaGreatDoorZVa
import Derived.Test.YtghcggoodgfaoaaGreatDoorZMb
set_option linter.unusedVariables false
set_option linter.unusedSectionVars false
set_option linter.unusedSimpArgs false
namespace Go.Proofs.YtghcggoodgfaoaaGreatDoor
open Go Go.RowKit
def vfev (fe:FV):Operand→VV
 | .tmp t=>fe t
 | .const v=>toV v
 | .global _=>.tup []
 | .func f=>.fn f [] []
def vupd (fe:FV) (d:Tmp) (v:VV):FV:=fun t=>if t=d then v else fe t
def vupdO (fe:FV):Option Tmp→VV→FV
 | some d,v=>vupd fe d v
 | none,_=>fe
def vwantV (x:VV) (want:Bool):Bool:=match x with
 | .v (.bool b)=>b==want
 | _=>false
def vwant (fe:FV):Option (Tmp × Bool)→Bool
 | none=>true
 | some (t,want)=>vwantV (fe t) want
abbrev vundef:VV:=.tup []
def VG (P:Program) [Prim P] (g:Go.Fn) (args:List VV) (σ:VSt) (Q:VV→VSt→Prop):Prop:=
 ∀ S (args':Array Value),VSim σ S→VRelL σ.G S args args'.toList→XG P g args' S (fun v' S'=>∃ v σ',VSim σ' S'∧VStep σ.fresh S σ' S'∧VRel σ'.G S' v v'∧Q v σ')
def VC (P:Program) [Prim P] (f:FuncId) (args:List VV) (σ:VSt) (Q:VV→VSt→Prop):Prop:=VG P (.func f) args σ Q
theorem VG.mono {P:Program} [Prim P] {g:Go.Fn} {args:List VV} {σ:VSt} {Q Q':VV→VSt→Prop} (h:VG P g args σ Q) (hq:∀ v σ',Q v σ'→Q' v σ'):VG P g args σ Q':=fun S args' h1 h2=>by
 refine XG.mono (h S args' h1 h2) ?_
 rintro v' S' ⟨v,σ',k1,k2,k3,k4⟩
 exact ⟨v,σ',k1,k2,k3,hq _ _ k4⟩
def fnOf:VV→Option (Go.Fn × List VV × List VV)
 | .fn f a b=>some (.func f,a,b)
 | .yield id=>some (.yield id,[],[])
 | _=>none
def VCK (P:Program) [Prim P] (k:Bool × Bool) (g:Go.Fn) (args:List VV) (σ:VSt) (K:VV→VSt→Bool→Prop):Prop:=
 VG P g args σ (fun v σ'=>∃ c:Bool,(c=true→σ.next≤σ'.low)∧((k.1||k.2)=true→c=true)∧K v (σ.join σ') c)
def VS (P:Program) [Prim P] (k:Bool × Bool) (o:XOp) (ρ:Operand→VV) (σ:VSt) (K:VV→VSt→Bool→Prop):Prop:=
 match o with
 | .call f args=>VCK P k (.func f) (args.toList.map ρ) σ K
 | .callv x args=>∃ g a b,fnOf (ρ x)=some (g,a,b)∧VCK P k g (a++args.toList.map ρ++b) σ K
 | .append e esz bytes s x=>(k.2=false∧∃ r,vapp esz bytes (ρ s) (ρ x) σ=some r∧K r.1 r.2 false)∨(k=(false,false)∧∃ r,vappS e esz bytes (ρ s) (ρ x) σ=some r∧K r.1 r.2 false)
 | .buildSlice e esz n z parts=>(∃ r,vbs e esz n z (parts.map fun p=>(p.1,p.2.1,ρ p.2.2)) σ=some r∧K r.1 r.2 true)∨(∃ r,vbsS e esz n z (parts.map fun p=>(p.1,p.2.1,ρ p.2.2)) σ=some r∧K r.1 r.2 true)
 | .extra e l=>(readsE e=true∨k=(false,false))∧∃ r,vextra e (l.map ρ) σ=some r∧K r.1 r.2 (readsE e)
 | .store sz a x=>k=(false,false)∧∃ σ',vst σ sz (ρ a) (ρ x)=some σ'∧K (.tup []) σ' false
 | .copy esz d s=>k=(false,false)∧∃ r,vcopy esz (ρ d) (ρ s) σ=some r∧K r.1 r.2 false
 | .clr esz z x=>k=(false,false)∧∃ r,vclr esz z (ρ x) σ=some r∧K r.1 r.2 false
 | .eqs neg x y=>(∃ v,veqs neg (ρ x) (ρ y)=some v∧K v σ true)∨(ρ x=.lst 0 []∧ρ y=nilS∧K (.v (.bool (notIf neg true))) σ true∧K (.v (.bool (notIf neg false))) σ true)
 | o=>∃ r,vop o ρ σ=some r∧K r.1 r.2 true
def VO (P:Program) [Prim P]:List XOper→FV→VSt→(FV→VSt→Prop)→Prop
 | [],fe,σ,Q=>Q fe σ
 | o::r,fe,σ,Q=>if vwant fe o.guard=true then VS P (false,false) o.op (vfev fe) σ (fun v σ' _=>VO P r (vupdO fe o.dst v) σ' Q) else VO P r (vupdO fe o.dst vundef) σ Q
def oldOpd (old:Tmp→Bool):Operand→Bool
 | .tmp t=>old t
 | _=>true
def vlowV (n0:Nat) (o:Bool):VV→Prop
 | .ptr id _=>id<n0
 | .slice id _ _ _=>id<n0
 | .v _=>True
 | _=>o=true
def vEarly (o:XOp) (ρ:Operand→VV) (n0:Nat) (old:Tmp→Bool):Prop:=match o with
 | .load _ _ x=>vlowV n0 (oldOpd old x) (ρ x)
 | .sl _ x _ _=>vlowV n0 (oldOpd old x) (ρ x)
 | _=>True
def keepsOld (o:XOp) (old:Tmp→Bool) (cl:Bool):Bool:=match o with
 | .mv x=>oldOpd old x
 | .fa _ x=>oldOpd old x
 | .fld _ _ _ x=>oldOpd old x
 | .ia _ x _=>oldOpd old x
 | .iaArr _ _ x _=>oldOpd old x
 | .idx _ _ _ x _=>oldOpd old x
 | .ext x _=>oldOpd old x
 | .load _ _ x=>oldOpd old x&&cl
 | .sl _ x _ _=>oldOpd old x
 | _=>false
def oldO (old:Tmp→Bool):Option Tmp→Bool→Tmp→Bool
 | some d,b=>fun t=>if t=d then b else old t
 | none,_=>old
def VM (P:Program) [Prim P] (n0:Nat):List (XOper × (Bool × Bool) × Bool)→(Tmp→Bool)→Bool→FV→VSt→(FV→VSt→Prop)→Prop
 | [],_,_,fe,σ,Q=>Q fe σ
 | (o,k,early)::r,old,cl,fe,σ,Q=>if vwant fe o.guard=true then
   (early=true→vEarly o.op (vfev fe) n0 old)∧VS P k o.op (vfev fe) σ (fun v σ' c=>VM P n0 r (oldO old o.dst (keepsOld o.op old cl)) (cl&&c) (vupdO fe o.dst v) σ' Q)
  else VM P n0 r (oldO old o.dst true) cl (vupdO fe o.dst vundef) σ Q
def VW (P:Program) [Prim P]:XCode→FV→VSt→(Ex→FV→VSt→Prop)→Prop
 | .skip,fe,σ,Q=>Q .normal fe σ
 | .region ops,fe,σ,Q=>VO P ops fe σ (Q .normal)
 | .draw d,fe,σ,Q=>VM P σ.next (d.ops.zip d.flags) (fun _=>true) true fe σ (Q .normal)
 | .seq a b,fe,σ,Q=>VW P a fe σ (fun e fe' σ'=>match e with
  | .normal=>VW P b fe' σ' Q
  | e=>Q e fe' σ')
 | .cond c x y,fe,σ,Q=>∃ b,vfev fe c=.v (.bool b)∧(b=true→VW P x fe σ Q)∧(b=false→VW P y fe σ Q)
 | .block id c,fe,σ,Q=>VW P c fe σ (fun e fe' σ'=>match e with
  | .exit id'=>if id'=id then Q .normal fe' σ' else Q (.exit id') fe' σ'
  | e=>Q e fe' σ')
 | .loop c,fe,σ,Q=>∃ (I:Nat→FV→VSt→Prop) (n:Nat),I n fe σ∧∀ k fe σ,I k fe σ→VW P c fe σ (fun e fe' σ'=>match e with
  | .normal=>∃ k',k'<k∧I k' fe' σ'
  | e=>Q e fe' σ')
 | .exit id,fe,σ,Q=>Q (.exit id) fe σ
 | .ret,fe,σ,Q=>Q .ret fe σ
 | .range x L,fe,σ,Q=>∃ g a b,vfev fe x=.fn g a b∧VG P (.func g) (a++[.yield σ.next]++b) (σ.alloc (.loop fe L none)) (fun _ σ2=>∃ fe2 L2 pe,σ2.heap σ.next=.loop fe2 L2 pe∧Q (pe.getD .normal) fe ((σ.join σ2).put σ.next .dead))
structure VR (σ:VSt) (S:St) (fe:FV) (fe':FEnv):Prop where
 sim:VSim σ S
 env:∀ t,VRel σ.G S (fe t) (fe' t)
 ws:WS S
 se:∀ t,Sc S.next (fe' t)
section
variable {P:Program} [Prim P]
theorem XG.ws {g:Go.Fn} {args:Array Value} {S:St} {Q:Value→St→Prop} (h:XG P g args S Q):XG P g args S (fun v S'=>Q v S'∧WS S'∧S.next≤S'.next∧Sc S'.next v):=fun h1 h2=>by
 obtain ⟨n,v,S',h3,h4⟩:=h h1 h2
 exact ⟨n,v,S',h3,h4,xcall_ws P n g args S v S' h3 h1 h2⟩
variable {σ:VSt} {S:St} {fe:FV} {fe':FEnv}
theorem VR.ev (h:VR σ S fe fe'):∀ x,okOpd x=true→VRel σ.G S (vfev fe x) (fev fe' x):=by
 intro x hx
 cases x with
 | tmp t=>exact h.env t
 | const v=>exact .toV hx
 | func f=>exact .fn f [] [] #[] #[] rfl rfl (fun i h=>by simp at h) (fun i h=>by simp at h)
 | global g=>cases hx
theorem VR.sc (h:VR σ S fe fe'):∀ x,okOpd x=true→Sc S.next (fev fe' x):=by
 intro x hx
 cases x with
 | tmp t=>exact h.se t
 | const v=>exact Sc.flatV hx
 | func f=>exact .func f _ _ (fun i h=>by simp at h) (fun i h=>by simp at h)
 | global g=>cases hx
theorem VR.want (h:VR σ S fe fe') (g:Option (Tmp × Bool)):vwant fe g=fwant fe' g:=by
 cases g with
 | none=>rfl
 | some p=>
  obtain ⟨t,w⟩:=p
  have:=h.env t
  simp only [vwant,fwant]
  generalize fe t=x at this
  generalize fe' t=x' at this
  cases this with
  | v x hf=>unfold vwantV;cases x'<;>rfl
  | _=>rfl
theorem VSim.join {σ':VSt} {S':St} (h:VSim σ' S'):VSim (σ.join σ') S':=⟨h.next,h.hi,by simp only [VSt.join];have:=h.low;omega,h.blk⟩
theorem VStep.join {σ':VSt} {S':St} (h:VStep σ.fresh S σ' S'):VStep σ S (σ.join σ') S':=
 ⟨h.next,h.still,by simp only [VSt.join];omega,fun id h1 h2=>by
  simp only [VSt.join]at h2 ⊢
  exact h.keep id h1 (by omega)⟩
theorem VStep.ext {σ':VSt} {S':St} (h:VStep σ.fresh S σ' S') (hn:σ.next=S.next) (hn':σ'.next=S'.next) (hp:σ.next≤σ'.low):Ext S S':=
 ⟨by rw [← hn,← hn'];exact h.next,fun id hid=>(h.keep id (by rw [← hn]at hid;exact hid) (by omega)).2.2⟩
theorem VSim.fresh (h:VSim σ S):VSim σ.fresh S:=⟨h.next,h.hi,Nat.le_refl _,h.blk⟩
theorem argsL {ρ:Operand→VV} {ρ':Operand→Value} (hρ:∀ x,okOpd x=true→VRel σ.G S (ρ x) (ρ' x)) {l:List Operand} (hl:l.all okOpd=true):VRelL σ.G S (l.map ρ) (l.map ρ'):=by
 refine ⟨by simp,fun i h1 h2=>?_⟩
 simp only [List.getElem_map]
 simp only [List.all_eq_true]at hl
 exact hρ _ (hl _ (List.getElem_mem _))
def VOut (σ:VSt) (S:St) (k:Bool × Bool) (K:VV→VSt→Bool→Prop) (v':Value) (S':St):Prop:=
 ∃ v σ' c,VSim σ' S'∧VStep σ S σ' S'∧VRel σ'.G S' v v'∧WS S'∧S.next≤S'.next∧Sc S'.next v'∧(c=true→Ext S S')∧(k.1=true→ExtL S S')∧(k.2=true→Ext S S')∧K v σ' c
theorem VCK_sound {k:Bool × Bool} {g:Go.Fn} {args:List VV} {args':Array Value} {K:VV→VSt→Bool→Prop} (hs:VSim σ S) (hargs:VRelL σ.G S args args'.toList) (h:VCK P k g args σ K):XG P g args' S (VOut σ S k K):=by
 refine XG.mono (h S args' hs hargs).ws ?_
 rintro v' S' ⟨⟨v,σ',k1,k2,k3,c,c1,c2,k4⟩,w1,w2,w3⟩
 have he:(k.1||k.2)=true→Ext S S':=fun hk=>k2.ext hs.next k1.next (c1 (c2 hk))
 exact ⟨v,σ.join σ',c,k1.join,k2.join,k3,w1,w2,w3,fun hc=>k2.ext hs.next k1.next (c1 hc),fun hk=>(he (by simp [hk])).toL,fun hk=>he (by simp [hk]),k4⟩
theorem VS_sound {k:Bool × Bool} {o:XOp} {K:VV→VSt→Bool→Prop} (h:VR σ S fe fe') (hok:opdsOk o=true) (hv:VS P k o (vfev fe) σ K):XS P o (fev fe') S (VOut σ S k K):=by
 have hs:=h.sim
 have gen:∀ {r:VV × VSt} {c:Bool} {v':Value} {S':St},(∀ f a,o≠.call f a)→(∀ x a,o≠.callv x a)→xop o (fev fe') S=some (v',S')→VSim r.2 S'→VStep σ S r.2 S'→VRel r.2.G S' r.1 v'→(c=true→Ext S S')→(k.1=true→ExtL S S')→(k.2=true→Ext S S')→K r.1 r.2 c→XS P o (fev fe') S (VOut σ S k K):=by
  intro r c v' S' n1 n2 hx h1 h2 h3 h4 h5 h6 h7
  rw [XS_gen n1 n2]
  obtain ⟨w1,w2,w3⟩:=xop_ws h.ws hok h.sc hx
  exact ⟨(v',S'),hx,r.1,r.2,c,h1,h2,h3,w1,w2,w3,h4,h5,h6,h7⟩
 have ff:∀ {Q:Prop} {b:Bool × Bool},b=(false,false)→(b.1=true→Q)∧(b.2=true→Q):=fun e=>⟨fun h=>(by rw [e]at h;cases h),fun h=>(by rw [e]at h;cases h)⟩
 unfold VS at hv
 split at hv
 ·rename_i f args
  exact VCK_sound hs (by simpa using argsL h.ev (l:=args.toList) (by simpa [opdsOk] using hok)) hv
 ·rename_i x args
  obtain ⟨g,a,b,hf,hv⟩:=hv
  simp only [opdsOk,Bool.and_eq_true]at hok
  have hx:=h.ev x hok.1
  have hargs:=argsL h.ev (l:=args.toList) (by simpa using hok.2)
  unfold fnOf at hf
  generalize ex:vfev fe x=xv at hf hx
  generalize ex':fev fe' x=xv' at hx
  split at hf
  ·obtain ⟨rfl,rfl,rfl⟩:=by simpa using hf
   cases hx with
   | fn f _ _ a' b' ha hb h1 h2=>
    refine ⟨_,a',b',ex',VCK_sound hs ?_ hv⟩
    simp only [Array.toList_append,Array.toList_map]
    exact VRelL.append (VRelL.append ⟨by simpa using ha,fun i k1 k2=>by simpa using h1 i k1 (by simpa using k2)⟩ hargs) ⟨by simpa using hb,fun i k1 k2=>by simpa using h2 i k1 (by simpa using k2)⟩
  ·obtain ⟨rfl,rfl,rfl⟩:=by simpa using hf
   cases hx
   refine ⟨_,#[],#[],ex',VCK_sound hs ?_ hv⟩
   simpa using hargs
  ·cases hf
 ·rename_i e esz bytes s x
  simp only [opdsOk,Bool.and_eq_true]at hok
  rcases hv with ⟨hk,r,hr,hK⟩|⟨hk,r,hr,hK⟩
  ·obtain ⟨v',S',k1,k2,k3,k4,k5⟩:=vapp_sound (e:=e) hs (h.ev s hok.1) (h.ev x hok.2) hr
   exact gen (by simp) (by simp) (by simpa only [xop] using k1) k2 k3 k4 (fun hc=>by cases hc) (fun _=>k5) (fun hc=>by rw [hk]at hc;cases hc) hK
  ·obtain ⟨v',S',k1,k2,k3,k4⟩:=vappS_sound hs (h.ev s hok.1) (h.ev x hok.2) hr
   exact gen (by simp) (by simp) (by simpa only [xop] using k1) k2 k3 k4 (fun hc=>by cases hc) (ff hk).1 (ff hk).2 hK
 ·rename_i e esz n z parts
  simp only [opdsOk,Bool.and_eq_true]at hok
  rcases hv with ⟨r,hr,hK⟩|⟨r,hr,hK⟩
  ·obtain ⟨v',S',k1,k2,k3,k4⟩:=vbs_sound hs hok.1 h.ev hok.2 hr
   have he:Ext S S':=float_ext (cl:=fun _ _ _=>none) (o:=.buildSlice e esz n z parts) rfl k1
   exact gen (by simp) (by simp) k1 k2 k3 k4 (fun _=>he) (fun _=>he.toL) (fun _=>he) hK
  ·obtain ⟨v',S',k1,k2,k3,k4⟩:=vbsS_sound hs hok.1 h.ev hok.2 hr
   have he:Ext S S':=float_ext (cl:=fun _ _ _=>none) (o:=.buildSlice e esz n z parts) rfl k1
   exact gen (by simp) (by simp) k1 k2 k3 k4 (fun _=>he) (fun _=>he.toL) (fun _=>he) hK
 ·rename_i e l
  simp only [opdsOk]at hok
  obtain ⟨hk,r,hr,hK⟩:=hv
  obtain ⟨v',S',k1,k2,k3,k4,k5⟩:=vextra_sound hs (argsL h.ev (l:=l) (by simp only [Bool.and_eq_true]at hok;exact hok.2)) hr
  have he:readsE e=true→Ext S S':=fun hc=>by rw [k5 hc];exact Ext.refl _
  have he':∀ b:Bool,b=k.1∨b=k.2→b=true→Ext S S':=fun b hb hbt=>by
   rcases hk with hk | hk
   ·exact he hk
   ·rw [hk]at hb;rcases hb with rfl | rfl<;>cases hbt
  exact gen (by simp) (by simp) (by simpa only [xop] using k1) k2 k3 k4 he (fun hc=>(he' k.1 (.inl rfl) hc).toL) (fun hc=>he' k.2 (.inr rfl) hc) hK
 ·rename_i sz a x
  simp only [opdsOk,Bool.and_eq_true]at hok
  obtain ⟨hk,σ',hr,hK⟩:=hv
  obtain ⟨v',S',k1,k2,k3,k4⟩:=vop_sound hs (o:=.store sz a x) h.ev (by simp [opdsOk,hok]) (v:=.tup []) (σ':=σ') (by simp only [vop,hr,Option.map_some])
  exact gen (r:=(.tup [],σ')) (by simp) (by simp) k1 k2 k3 k4 (fun hc=>by cases hc) (ff hk).1 (ff hk).2 hK
 ·rename_i esz d s
  obtain ⟨hk,r,hr,hK⟩:=hv
  obtain ⟨v',S',k1,k2,k3,k4⟩:=vop_sound hs (o:=.copy esz d s) h.ev hok (v:=r.1) (σ':=r.2) (by simp only [vop];exact hr)
  exact gen (by simp) (by simp) k1 k2 k3 k4 (fun hc=>by cases hc) (ff hk).1 (ff hk).2 hK
 ·rename_i esz z x
  obtain ⟨hk,r,hr,hK⟩:=hv
  obtain ⟨v',S',k1,k2,k3,k4⟩:=vop_sound hs (o:=.clr esz z x) h.ev hok (v:=r.1) (σ':=r.2) (by simp only [vop];exact hr)
  exact gen (by simp) (by simp) k1 k2 k3 k4 (fun hc=>by cases hc) (ff hk).1 (ff hk).2 hK
 ·rename_i neg x y
  have hok':=hok
  simp only [opdsOk,Bool.and_eq_true]at hok
  rcases hv with ⟨v,hr,hK⟩|⟨e1,e2,hK1,hK2⟩
  ·obtain ⟨v',S',k1,k2,k3,k4⟩:=vop_sound hs (o:=.eqs neg x y) h.ev hok' (v:=v) (σ':=σ) (by simp only [vop,hr,Option.map_some])
   have he:Ext S S':=float_ext (cl:=fun _ _ _=>none) (o:=.eqs neg x y) rfl k1
   exact gen (r:=(v,σ)) (by simp) (by simp) k1 k2 k3 k4 (fun _=>he) (fun _=>he.toL) (fun _=>he) hK
  ·have hx:=h.ev x hok.1
   have hy:=h.ev y hok.2
   rw [e1]at hx
   rw [e2]at hy
   generalize ex':fev fe' x=xv' at hx
   generalize ey':fev fe' y=yv' at hy
   cases hy
   cases hx with
   | lstNil=>exact gen (r:=(.v (.bool (notIf neg true)),σ)) (c:=true) (S':=S) (v':=.bool (notIf neg true)) (by simp) (by simp) (by simp only [xop,ex',ey',Option.isNone_none]) hs (.refl _ _) (.v _ rfl) (fun _=>Ext.refl _) (fun _=>ExtL.refl _) (fun _=>Ext.refl _) hK1
   | lst=>exact gen (r:=(.v (.bool (notIf neg false)),σ)) (c:=true) (S':=S) (v':=.bool (notIf neg false)) (by simp) (by simp) (by simp only [xop,ex',ey',Option.isNone_some]) hs (.refl _ _) (.v _ rfl) (fun _=>Ext.refl _) (fun _=>ExtL.refl _) (fun _=>Ext.refl _) hK2
 ·rename_i n1 n2 n3 n4 n5 n6 n7 n8 n9
  obtain ⟨r,hr,hK⟩:=hv
  obtain ⟨v',S',k1,k2,k3,k4⟩:=vop_sound hs h.ev hok (v:=r.1) (σ':=r.2) hr
  have ha:anch o=false:=by
   cases o<;>first | rfl | (exact (n1 _ _ rfl).elim)|(exact (n2 _ _ rfl).elim)|(exact (n3 _ _ _ _ _ rfl).elim)|(exact (n5 _ _ rfl).elim)|(exact (n6 _ _ _ rfl).elim)|(exact (n7 _ _ _ rfl).elim)|(exact (n8 _ _ _ rfl).elim)
  have he:Ext S S':=float_ext (cl:=fun _ _ _=>none) ha (by rw [xstep_xop ha];exact k1)
  exact gen (fun f a e=>n1 f a e) (fun x a e=>n2 x a e) k1 k2 k3 k4 (fun _=>he) (fun _=>he.toL) (fun _=>he) hK
end
end Go.Proofs.YtghcggoodgfaoaaGreatDoor

set_option linter.unusedVariables false
set_option linter.unusedSectionVars false
set_option linter.unusedSimpArgs false
namespace Go.Proofs.YtghcggoodgfaoaaGreatDoor
open Go Go.RowKit
section
variable {P:Program} [Prim P]
theorem oldOpd_sc {old:Tmp→Bool} {fe':FEnv} {m:Nat} (ho:∀ t,old t=true→Sc m (fe' t)) {x:Operand} (hok:okOpd x=true) (h:oldOpd old x=true):Sc m (fev fe' x):=by
 cases x with
 | tmp t=>exact ho t h
 | const v=>exact Sc.flatV hok
 | func f=>exact .func f _ _ (fun i h=>by simp at h) (fun i h=>by simp at h)
 | global g=>cases hok
theorem part_sc {m:Nat} {agg:Bool} {l:List Value} {v:Value} (h:part1 agg l=some v) (hl:ScL m l):Sc m v:=by
 unfold part1 at h
 split at h
 ·obtain rfl:=Option.some.inj h
  exact .agg _ fun i hi=>hl _ (by simp)
 ·unfold one at h
  split at h
  ·obtain rfl:=Option.some.inj h;exact hl _ (by simp)
  ·cases h
theorem keepsOld_sc {o:XOp} {old:Tmp→Bool} {cl:Bool} {fe':FEnv} {S0 S S':St} {v':Value} (hk:keepsOld o old cl=true) (ho:∀ t,old t=true→Sc S0.next (fe' t)) (hcl:cl=true→Ext S0 S) (hw:WS S0) (hok:opdsOk o=true) (hx:xop o (fev fe') S=some (v',S')):Sc S0.next v':=by
 cases o<;>simp only [keepsOld,Bool.and_eq_true]at hk<;>first | (cases hk;done) | skip
 all_goals simp only [opdsOk,Bool.and_eq_true]at hok
 case mv x=>
  obtain ⟨rfl,_⟩:=Prod.mk.inj (Option.some.inj hx)
  exact oldOpd_sc ho hok hk
 case load agg sz x=>
  have hs:=oldOpd_sc ho hok hk.1
  simp only [xop]at hx
  split at hx
  case h_2=>cases hx
  rename_i id o e
  rw [e]at hs
  simp only [Option.bind_eq_some_iff,Option.map_eq_some_iff,Prod.mk.injEq]at hx
  obtain ⟨c,hc,u,hu,rfl,_⟩:=hx
  cases hs with
  | ptr _ _ hid=>
   refine part_sc hu (hw.rd (id:=id) (o:=o) (n:=sz) ?_)
   rw [← hc]
   unfold St.rd
   rw [(hcl hk.2).get id hid]
 case sl esz x lo hi=>
  have hs:=oldOpd_sc ho hok.1.1 hk
  simp only [xop]at hx
  split at hx
  case h_2=>cases hx
  rename_i a n c e
  rw [e]at hs
  split at hx
  case h_2=>cases hx
  split at hx
  case isFalse=>cases hx
  unfold slRes at hx
  split at hx
  ·split at hx
   ·obtain ⟨rfl,_⟩:=Prod.mk.inj (Option.some.inj hx);exact .sliceNil _ _
   ·cases hx
  ·split at hx
   ·obtain ⟨rfl,_⟩:=Prod.mk.inj (Option.some.inj hx)
    cases hs with
    | slice _ _ _ _ hid=>exact .slice _ _ _ _ hid
   ·cases hx
  ·cases hx
 case fa off x=>
  have hs:=oldOpd_sc ho hok hk
  simp only [xop]at hx
  split at hx
  case h_2=>cases hx
  rename_i id o e
  rw [e]at hs
  obtain ⟨rfl,_⟩:=Prod.mk.inj (Option.some.inj hx)
  cases hs with
  | ptr _ _ hid=>exact .ptr _ _ hid
 case fld agg sz off x=>
  have hs:=oldOpd_sc ho hok hk
  simp only [xop]at hx
  split at hx
  case h_2=>cases hx
  rename_i a e
  rw [e]at hs
  split at hx
  case isFalse=>cases hx
  simp only [Option.map_eq_some_iff,Prod.mk.injEq]at hx
  obtain ⟨u,hu,rfl,_⟩:=hx
  cases hs with
  | agg _ ha=>
   refine part_sc hu fun w hw=>?_
   have:=List.mem_of_mem_drop (List.mem_of_mem_take hw)
   obtain ⟨i,hi,rfl⟩:=List.getElem_of_mem this
   simpa using ha i (by simpa using hi)
 case ia esz x i=>
  have hs:=oldOpd_sc ho hok.1 hk
  simp only [xop]at hx
  split at hx
  case h_2=>cases hx
  rename_i id o n c k j e e2
  rw [e]at hs
  split at hx
  case isFalse=>cases hx
  obtain ⟨rfl,_⟩:=Prod.mk.inj (Option.some.inj hx)
  cases hs with
  | slice _ _ _ _ hid=>exact .ptr _ _ hid
 case iaArr n esz x i=>
  have hs:=oldOpd_sc ho hok.1 hk
  simp only [xop]at hx
  split at hx
  case h_2=>cases hx
  rename_i id o k j e e2
  rw [e]at hs
  split at hx
  case isFalse=>cases hx
  obtain ⟨rfl,_⟩:=Prod.mk.inj (Option.some.inj hx)
  cases hs with
  | ptr _ _ hid=>exact .ptr _ _ hid
 case idx n agg esz x i=>
  have hs:=oldOpd_sc ho hok.1 hk
  simp only [xop]at hx
  split at hx
  case h_2=>cases hx
  rename_i a k j e e2
  rw [e]at hs
  split at hx
  case isFalse=>cases hx
  simp only [Option.map_eq_some_iff,Prod.mk.injEq]at hx
  obtain ⟨u,hu,rfl,_⟩:=hx
  cases hs with
  | agg _ ha=>
   refine part_sc hu fun w hw=>?_
   have:=List.mem_of_mem_drop (List.mem_of_mem_take hw)
   obtain ⟨i,hi,rfl⟩:=List.getElem_of_mem this
   simpa using ha i (by simpa using hi)
 case ext x i=>
  have hs:=oldOpd_sc ho hok hk
  simp only [xop]at hx
  split at hx
  case h_2=>cases hx
  rename_i a e
  rw [e]at hs
  simp only [Option.map_eq_some_iff,Prod.mk.injEq]at hx
  obtain ⟨u,hu,rfl,_⟩:=hx
  cases hs with
  | tuple _ ha=>
   obtain ⟨hi,rfl⟩:=Array.getElem?_eq_some_iff.1 hu
   exact ha i hi
theorem XS_val {o:XOp} {ρ:Operand→Value} {S:St} {K:Value→St→Prop} (n1:∀ f a,o≠.call f a) (n2:∀ x a,o≠.callv x a) (h:XS P o ρ S K):XS P o ρ S (fun v S'=>K v S'∧xop o ρ S=some (v,S')):=by
 rw [XS_gen n1 n2]at h ⊢
 obtain ⟨r,h1,h2⟩:=h
 exact ⟨r,h1,h2,h1⟩
theorem VR.put {σ σ':VSt} {S S':St} {fe:FV} {fe':FEnv} (h:VR σ S fe fe') (hs:VSim σ' S') (k:VStep σ S σ' S') (hw:WS S') (hn:S.next≤S'.next) (d:Option Tmp) {v:VV} {v':Value} (hv:VRel σ'.G S' v v') (hsc:Sc S'.next v'):VR σ' S' (vupdO fe d v) (updO fe' d v'):=by
 cases d with
 | none=>exact ⟨hs,fun t=>(h.env t).step k,hw,fun t=>(h.se t).mono hn⟩
 | some d=>
  refine ⟨hs,fun t=>?_,hw,fun t=>?_⟩
  ·simp only [vupdO,vupd,updO,upd]
   split
   ·exact hv
   ·exact (h.env t).step k
  ·simp only [updO,upd]
   split
   ·exact hsc
   ·exact (h.se t).mono hn
theorem VR.put0 {σ:VSt} {S:St} {fe:FV} {fe':FEnv} (h:VR σ S fe fe') (d:Option Tmp):VR σ S (vupdO fe d vundef) (updO fe' d undef):=
 h.put h.sim (.refl _ _) h.ws (Nat.le_refl _) d (tup_nil h.sim) (Sc.undef _)
theorem XO_mono {l:List XOper} {fe:FEnv} {S:St} {Q Q':FEnv→St→Prop} (h:∀ fe S,Q fe S→Q' fe S) (hx:XO P l fe S Q):XO P l fe S Q':=XW.mono (c:=.region l) (Q:=fun _=>Q) (Q':=fun _=>Q') (fun _=>h) hx
theorem XM_mono {S0:St}:∀ {l:List (XOper × (Bool × Bool) × Bool)} {fe:FEnv} {S:St} {Q Q':FEnv→St→Prop},(∀ fe S,Q fe S→Q' fe S)→XM P S0 l fe S Q→XM P S0 l fe S Q':=by
 intro l
 induction l with
 | nil=>intro fe S Q Q' h hx;exact h _ _ hx
 | cons o l ih=>
  obtain ⟨o,k,e⟩:=o
  intro fe S Q Q' h hx
  simp only [XM]at hx ⊢
  split at hx
  ·rename_i hw
   rw [if_pos hw]
   exact ⟨hx.1,XS_mono (fun v S' hh=>⟨hh.1,ih h hh.2⟩) hx.2⟩
  ·rename_i hw
   rw [if_neg hw]
   exact ih h hx
theorem VO_sound {n:Nat}:∀ (l:List XOper),wfO n l=true→∀ (fe:FV) (σ:VSt) (Q:FV→VSt→Prop) (S:St) (fe':FEnv),VR σ S fe fe'→VO P l fe σ Q→XO P l fe' S (fun fe'' S'=>∃ fe2 σ',VR σ' S' fe2 fe''∧VStep σ S σ' S'∧Q fe2 σ'):=by
 intro l
 induction l with
 | nil=>intro _ fe σ Q S fe' h hv;exact ⟨fe,σ,h,.refl _ _,hv⟩
 | cons o l ih=>
  intro hwf fe σ Q S fe' h hv
  obtain ⟨h1,_,h3⟩:=wfO_cons hwf
  simp only [VO,XO]at *
  rw [h.want]at hv
  split at hv
  ·rename_i hw
   rw [if_pos hw]
   refine XS_mono (fun v' S1 hh=>?_) (VS_sound h h1 hv)
   obtain ⟨v,σ1,c,k1,k2,k3,k4,k5,k6,_,_,_,k7⟩:=hh
   refine XO_mono (fun fe2 S2 hh=>?_) (ih h3 _ _ _ _ _ (h.put k1 k2 k4 k5 o.dst k3 k6) k7)
   obtain ⟨fe3,σ3,a1,a2,a3⟩:=hh
   exact ⟨fe3,σ3,a1,k2.trans a2,a3⟩
  ·rename_i hw
   rw [if_neg hw]
   exact ih h3 _ _ _ _ _ (h.put0 o.dst) hv
theorem VM_sound {S0:St} (hw0:WS S0) {n:Nat}:∀ (l:List (XOper × (Bool × Bool) × Bool)),wfO n (l.map (·.1))=true→∀ (old:Tmp→Bool) (cl:Bool) (fe:FV) (σ:VSt) (Q:FV→VSt→Prop) (S:St) (fe':FEnv),VR σ S fe fe'→(∀ t,old t=true→Sc S0.next (fe' t))→(cl=true→Ext S0 S)→
  VM P S0.next l old cl fe σ Q→XM P S0 l fe' S (fun fe'' S'=>∃ fe2 σ',VR σ' S' fe2 fe''∧VStep σ S σ' S'∧Q fe2 σ'):=by
 intro l
 induction l with
 | nil=>intro _ old cl fe σ Q S fe' h _ _ hv;exact ⟨fe,σ,h,.refl _ _,hv⟩
 | cons o l ih=>
  obtain ⟨o,k,early⟩:=o
  intro hwf old cl fe σ Q S fe' h hold hcl hv
  obtain ⟨h1,_,h3⟩:=wfO_cons hwf
  simp only [VM,XM]at *
  rw [h.want]at hv
  split at hv
  ·rename_i hw
   rw [if_pos hw]
   obtain ⟨he,hv⟩:=hv
   refine ⟨fun hea id hid=>?_,?_⟩
   ·have hE:=he hea
    have key:∀ (x:Operand) (u:Value),okOpd x=true→fev fe' x=u→vlowV S0.next (oldOpd old x) (vfev fe x)→(∀ a,(u=.pointer (some a)∨∃ n c,u=.slice (some a) n c)→a.block=id→id<S0.next):=by
     intro x u hx hu hl a ha hb
     have hr:=h.ev x hx
     rw [hu]at hr
     have hs:oldOpd old x=true→Sc S0.next u:=fun ho=>by rw [← hu];exact oldOpd_sc hold hx ho
     have fin:Sc S0.next u→id<S0.next:=fun hsc=>by
      rcases ha with rfl | ⟨n,c,rfl⟩
      ·cases hsc with | ptr _ _ hid=>rw [← hb];exact hid
      ·cases hsc with | slice _ _ _ _ hid=>rw [← hb];exact hid
     generalize vfev fe x=y at hr hl
     cases hr with
     | ptr id' o'=>
      rcases ha with ha | ⟨_,_,ha⟩
      ·obtain rfl:a=_:=by injection ha with ha;injection ha with ha;exact ha.symm
       rw [← hb];exact hl
      ·cases ha
     | slice id' o' n' c'=>
      rcases ha with ha | ⟨_,_,ha⟩
      ·cases ha
      ·injection ha with ha _ _
       injection ha with ha
       subst ha
       rw [← hb];exact hl
     | v _ hf=>
      rcases ha with rfl | ⟨_,_,rfl⟩
      ·simp [flat1]at hf
      ·simp [flat1]at hf
     | _=>exact fin (hs hl)
    cases ho:o.op<;>rw [ho]at hid hE h1<;>simp only [readsAt]at hid<;>first | (cases hid;done) | skip
    case load agg sz x=>
     split at hid
     ·rename_i a e
      exact key x _ h1 e hE a (.inl rfl) (Option.some.inj hid)
     ·cases hid
    case sl esz x lo hi=>
     simp only [opdsOk,Bool.and_eq_true]at h1
     split at hid
     ·rename_i a nn cc e
      exact key x _ h1.1.1 e hE a (.inr ⟨_,_,rfl⟩) (Option.some.inj hid)
     ·cases hid
   ·have hx:=VS_sound h h1 hv
    have hx2:XS P o.op (fev fe') S (fun v' S'=>VOut σ S k (fun v σ' c=>VM P S0.next l (oldO old o.dst (keepsOld o.op old cl)) (cl&&c) (vupdO fe o.dst v) σ' Q) v' S'∧(keepsOld o.op old cl=true→Sc S0.next v')):=by
     by_cases hk:keepsOld o.op old cl=true
     ·have n1:∀ f a,o.op≠.call f a:=fun f a e=>by rw [e]at hk;cases hk
      have n2:∀ x a,o.op≠.callv x a:=fun x a e=>by rw [e]at hk;cases hk
      exact XS_mono (fun v' S' hh=>⟨hh.1,fun _=>keepsOld_sc hk hold hcl hw0 h1 hh.2⟩) (XS_val n1 n2 hx)
     ·exact XS_mono (fun v' S' hh=>⟨hh,fun h=>absurd h hk⟩) hx
    refine XS_mono (fun v' S1 hh=>?_) hx2
    obtain ⟨⟨v,σ1,c,k1,k2,k3,k4,k5,k6,k7,k8,k9,k10⟩,hsc⟩:=hh
    refine ⟨⟨k8,k9⟩,XM_mono (fun fe2 S2 hh=>?_) (ih h3 _ _ _ _ _ _ _ (h.put k1 k2 k4 k5 o.dst k3 k6) (fun t ht=>?_) (fun hc=>?_) k10)⟩
    ·obtain ⟨fe3,σ3,a1,a2,a3⟩:=hh
     exact ⟨fe3,σ3,a1,k2.trans a2,a3⟩
    ·cases hd:o.dst with
     | none=>rw [hd]at ht;exact hold t ht
     | some d=>
      rw [hd]at ht
      simp only [oldO]at ht
      simp only [updO,upd]
      split at ht
      ·rename_i e;rw [if_pos e];exact hsc ht
      ·rename_i e;rw [if_neg e];exact hold t ht
    ·simp only [Bool.and_eq_true]at hc
     exact (hcl hc.1).trans (k7 hc.2)
  ·rename_i hw
   rw [if_neg hw]
   refine ih h3 _ _ _ _ _ _ _ (h.put0 o.dst) (fun t ht=>?_) hcl hv
   cases hd:o.dst with
   | none=>rw [hd]at ht;exact hold t ht
   | some d=>
    rw [hd]at ht
    simp only [oldO]at ht
    simp only [updO,upd]
    split at ht
    ·rename_i e;rw [if_pos e];exact Sc.undef _
    ·rename_i e;rw [if_neg e];exact hold t ht
theorem VW_sound {n:Nat}:∀ (c:XCode),wfC n c=true→∀ (fe:FV) (σ:VSt) (Q:Ex→FV→VSt→Prop) (S:St) (fe':FEnv),VR σ S fe fe'→VW P c fe σ Q→XW P c fe' S (fun e fe'' S'=>∃ fe2 σ',VR σ' S' fe2 fe''∧VStep σ S σ' S'∧Q e fe2 σ'):=by
 intro c
 induction c with
 | skip=>intro _ fe σ Q S fe' h hv;exact ⟨fe,σ,h,.refl _ _,hv⟩
 | exit id=>intro _ fe σ Q S fe' h hv;exact ⟨fe,σ,h,.refl _ _,hv⟩
 | ret=>intro _ fe σ Q S fe' h hv;exact ⟨fe,σ,h,.refl _ _,hv⟩
 | region ops=>intro hwf fe σ Q S fe' h hv;exact VO_sound ops hwf fe σ _ S fe' h hv
 | draw d=>
  intro hwf fe σ Q S fe' h hv
  simp only [wfC,Bool.and_eq_true]at hwf
  have hv:VM P σ.next (d.ops.zip d.flags) (fun _=>true) true fe σ (Q .normal):=hv
  rw [h.sim.next]at hv
  have hl:(flagsOf d.ops d.stages).length=d.ops.length:=by simp [flagsOf]
  refine VM_sound h.ws (n:=n) _ ?_ _ _ _ _ _ _ _ h (fun t _=>h.se t) (fun _=>Ext.refl _) hv
  have hf:d.flags=flagsOf d.ops d.stages:=by simpa using hwf.2
  rw [hf,List.map_fst_zip (by omega)]
  exact hwf.1
 | seq a b iha ihb=>
  intro hwf fe σ Q S fe' h hv
  simp only [wfC,Bool.and_eq_true]at hwf
  rw [XW_seq]
  refine XW.mono (fun e fe2 S2 hh=>?_) (iha hwf.1 _ _ _ _ _ h hv)
  obtain ⟨fe3,σ3,k1,k2,k3⟩:=hh
  cases e with
  | normal=>
   refine XW.mono (fun e fe4 S4 hh=>?_) (ihb hwf.2 _ _ _ _ _ k1 k3)
   obtain ⟨fe5,σ5,a1,a2,a3⟩:=hh
   exact ⟨fe5,σ5,a1,k2.trans a2,a3⟩
  | exit id=>exact ⟨fe3,σ3,k1,k2,k3⟩
  | ret=>exact ⟨fe3,σ3,k1,k2,k3⟩
 | cond c x y ihx ihy=>
  intro hwf fe σ Q S fe' h hv
  obtain ⟨b,e,h1,h2⟩:=hv
  have hok:okOpd c=true∨okOpd c=false:=by cases okOpd c<;>simp
  have hc:fev fe' c=.bool b:=by
   cases c with
   | tmp t=>
    have:=h.env t
    simp only [vfev]at e
    rw [e]at this
    simp only [fev]
    generalize fe' t=y at this
    cases this;rfl
   | const v=>
    simp only [vfev]at e
    simp only [fev]
    unfold toV at e
    split at e
    ·cases e
    ·cases e
    ·injection e
   | func f=>cases e
   | global g=>cases e
  simp only [wfC,Bool.and_eq_true]at hwf
  exact ⟨b,hc,fun hb=>ihx hwf.1 _ _ _ _ _ h (h1 hb),fun hb=>ihy hwf.2 _ _ _ _ _ h (h2 hb)⟩
 | block id c ih=>
  intro hwf fe σ Q S fe' h hv
  rw [XW_block]
  refine XW.mono (fun e fe2 S2 hh=>?_) (ih hwf _ _ _ _ _ h hv)
  obtain ⟨fe3,σ3,k1,k2,k3⟩:=hh
  cases e with
  | normal=>exact ⟨fe3,σ3,k1,k2,k3⟩
  | ret=>exact ⟨fe3,σ3,k1,k2,k3⟩
  | exit i=>
   simp only [bindB]at k3 ⊢
   split at k3
   ·rename_i e;rw [if_pos e];exact ⟨fe3,σ3,k1,k2,k3⟩
   ·rename_i e;rw [if_neg e];exact ⟨fe3,σ3,k1,k2,k3⟩
 | loop c ih=>
  intro hwf fe σ Q S fe' h hv
  obtain ⟨I,m,hI,hr⟩:=hv
  have:=XW_loop (P:=P) (c:=c) (fe:=fe') (S:=S) (Q:=fun e fe'' S'=>∃ fe2 σ',VR σ' S' fe2 fe''∧VStep σ S σ' S'∧Q e fe2 σ') (fun k fe'' S'=>∃ fe2 σ',VR σ' S' fe2 fe''∧VStep σ S σ' S'∧I k fe2 σ') m ⟨fe,σ,h,.refl _ _,hI⟩ ?_
  ·exact this
  ·rintro k fe2 S2 ⟨fe3,σ3,k1,k2,k3⟩
   refine XW.mono (fun e fe4 S4 hh=>?_) (ih hwf _ _ _ _ _ k1 (hr _ _ _ k3))
   obtain ⟨fe5,σ5,a1,a2,a3⟩:=hh
   cases e with
   | normal=>
    obtain ⟨k',hk,hI'⟩:=a3
    exact ⟨k',hk,fe5,σ5,a1,k2.trans a2,hI'⟩
   | exit i=>exact ⟨fe5,σ5,a1,k2.trans a2,a3⟩
   | ret=>exact ⟨fe5,σ5,a1,k2.trans a2,a3⟩
 | range x L=>
  intro hwf fe σ Q S fe' h hv
  simp only [wfC,Bool.and_eq_true]at hwf
  obtain ⟨g,a,b,e,hv⟩:=hv
  have hx:=h.ev x hwf.1
  rw [e]at hx
  have hscx:=h.sc x hwf.1
  generalize ex:fev fe' x=xv at hx hscx
  cases hx with
  | fn _ _ _ a' b' ha hb h1 h2=>
  refine ⟨g,a',b',ex,fun env he hn=>?_⟩
  have hse:SE S.next env:=fun t=>by rw [he];exact h.se t
  obtain ⟨q1,q2⟩:=h.sim.allocB (.loop fe L none) (.obj (.loop env L none)) (by simp) fun G' hG=>⟨rfl,env,rfl,fun t=>by rw [he];exact (h.env t).mono hG⟩
  have hargs:VRelL (σ.alloc (.loop fe L none)).G (S.alloc (.loop env L none)) (a++[.yield σ.next]++b) (a'++#[Value.func (.yield S.next) #[] #[]]++b').toList:=by
   have hm:=q2.rel
   simp only [Array.toList_append]
   refine VRelL.append (VRelL.append (VRelL.mono hm ⟨by simpa using ha,fun i k1 k2=>by simpa using h1 i k1 (by simpa using k2)⟩) ?_) (VRelL.mono hm ⟨by simpa using hb,fun i k1 k2=>by simpa using h2 i k1 (by simpa using k2)⟩)
   refine .cons ?_ .nil
   rw [h.sim.next]
   exact .yield _
  refine XC.mono (h:=(hv _ _ q1 hargs).ws) ?_
  rintro v' S2 ⟨⟨v,σ2,k1,k2,k3,fe2,L2,pe,k4,k5⟩,w1,w2,w3⟩
  have hb2:=k1.blk σ.next
  rw [k4]at hb2
  obtain ⟨_,env2,hg2,_⟩:=hb2
  rw [h.sim.next]at hg2
  refine ⟨env2,L2,pe,hg2,fe,(σ.join σ2).put σ.next .dead,?_⟩
  have hj:VSim (σ.join σ2) S2:=k1.join
  have hst:VStep σ S (σ.join σ2) S2:=q2.trans (VStep.join (σ:=σ.alloc (.loop fe L none)) k2)
  have hlt:S.next<S2.next:=by simp at w2;omega
  have e0:(σ.join σ2).heap σ.next=.loop fe2 L2 pe:=k4
  obtain ⟨r1,r2⟩:=hj.turn (σ':=(σ.join σ2).put σ.next .dead) (S':=S2.put S.next .gone) (id:=σ.next) (lo:=σ.next) (by rw [e0];simp) (by rw [e0];simp) (Nat.le_refl _) (fun j hj=>by simp only [VSt.put];rw [if_neg hj]) rfl rfl rfl (by simp [VSt.put]) (by simp)
   (fun j hj=>by rw [St.get_put,if_neg (by rw [← h.sim.next];exact hj)];exact .inl rfl) (fun G' hG=>by simp [VSt.put,BRel])
  have hall:=hst.trans r2
  refine ⟨⟨r1,fun t=>(h.env t).step hall,w1.putB hlt (b:=.gone) trivial,fun t=>(h.se t).mono (by simp;simp at w2;omega)⟩,hall,k5⟩
def vfe0 (args:List VV):FV:=fun t=>args.getD t vundef
def vr1 (fe:FV) (σ:VSt):XRes→Option VV
 | .tmp t=>some (fe t)
 | .cell a agg sz=>vld σ agg sz (fe a)
def vpack:List VV→VV
 | [v]=>v
 | vs=>.tup vs
def vrs (l:List XRes) (fe:FV) (σ:VSt):Option VV:=(l.mapM (vr1 fe σ)).map vpack
def vatEnd (l:List XRes) (Q:VV→VSt→Prop):Ex→FV→VSt→Prop:=fun e fe σ=>(∀ id,e≠.exit id)∧∃ v,vrs l fe σ=some v∧Q v σ
theorem vr1_sound {σ:VSt} {S:St} {fe:FV} {fe':FEnv} (h:VR σ S fe fe') {x:XRes} {v:VV} (hv:vr1 fe σ x=some v):∃ v',xr1 fe' S x=some v'∧VRel σ.G S v v':=by
 cases x with
 | tmp t=>obtain rfl:=Option.some.inj hv;exact ⟨_,rfl,h.env t⟩
 | cell a agg sz=>
  obtain ⟨id,o,c,v',e,h1,h2,h3⟩:=vld_sound h.sim (h.env a) hv
  refine ⟨v',?_,h3⟩
  rw [xr1_cell,e,ldv_ptr,← rd_eq,h1]
  exact h2
theorem vrs_sound {σ:VSt} {S:St} {fe:FV} {fe':FEnv} (h:VR σ S fe fe') {l:List XRes} {v:VV} (hv:vrs l fe σ=some v):∃ v',xrs l fe' S=some v'∧VRel σ.G S v v':=by
 unfold vrs at hv
 simp only [Option.map_eq_some_iff]at hv
 obtain ⟨vs,h1,rfl⟩:=hv
 have key:∀ (l:List XRes) (vs:List VV),l.mapM (vr1 fe σ)=some vs→∃ vs',l.mapM (xr1 fe' S)=some vs'∧VRelL σ.G S vs vs':=by
  intro l
  induction l with
  | nil=>intro vs h1;simp at h1;subst h1;exact ⟨[],by simp,.nil⟩
  | cons x l ih=>
   intro vs h1
   simp only [List.mapM_cons,Option.bind_eq_bind,Option.bind_eq_some_iff,Option.pure_def,Option.some.injEq]at h1
   obtain ⟨u,hu,us,hus,rfl⟩:=h1
   obtain ⟨u',q1,q2⟩:=vr1_sound h hu
   obtain ⟨us',q3,q4⟩:=ih us hus
   exact ⟨u'::us',by simp [List.mapM_cons,q1,q3],.cons q2 q4⟩
 obtain ⟨vs',q1,q2⟩:=key l vs h1
 have hp:xrs l fe' S=some (pack vs'):=by
  unfold xrs
  rw [q1]
  rfl
 refine ⟨pack vs',hp,?_⟩
 match vs,vs',q2 with
 | [],[],_=>exact .tup _ _ rfl (fun i h=>by simp at h)
 | [x],[y],q=>exact q.2 0 (by simp) (by simp)
 | a::b::r,[],q=>exact absurd q.1 (by simp)
 | a::b::r,[_],q=>exact absurd q.1 (by simp)
 | a::b::r,x::y::s,q=>exact .tup _ _ (by simpa using q.1) (fun i h1 h2=>by simpa using q.2 i h1 (by simpa using h2))
 | [],_::_,q=>exact absurd q.1 (by simp)
 | [_],[],q=>exact absurd q.1 (by simp)
 | [_],_::_::_,q=>exact absurd q.1 (by simp)
theorem VC_body {f:FuncId} {xf:XFunc} (hf:XF P f=some xf) {args:List VV} {σ:VSt} {Q:VV→VSt→Prop} (h:VW P xf.body (vfe0 args) σ.fresh (vatEnd xf.results Q)):VC P f args σ Q:=by
 intro S args' hs hargs
 refine XC.given fun hw hsc=>?_
 have hr:VR σ.fresh S (vfe0 args) (fe0 args'.toList):=by
  refine ⟨hs.fresh,fun t=>?_,hw,fun t=>?_⟩
  ·show VRel σ.G S (vfe0 args t) (fe0 args'.toList t)
   simp only [vfe0,fe0,List.getD_eq_getElem?_getD]
   cases e:args[t]? with
   | none=>
    have:args'.toList[t]? = none:=by
     rw [List.getElem?_eq_none_iff]at e ⊢
     rw [← hargs.1];exact e
    rw [this]
    exact tup_nil hs
   | some x=>
    obtain ⟨x',k1,k2⟩:=hargs.at e
    rw [k1]
    exact k2
  ·simp only [fe0,List.getD_eq_getElem?_getD]
   cases e:args'.toList[t]? with
   | none=>exact Sc.undef _
   | some x=>exact hsc x (List.mem_of_getElem? e)
 have:=VW_sound xf.body (XF_wf hf).1 _ _ _ _ _ hr h
 refine XC_intro hf (XW.mono (fun e fe2 S2 hh=>?_) this)
 obtain ⟨fe3,σ3,k1,k2,k3,v,k4,k5⟩:=hh
 obtain ⟨v',q1,q2⟩:=vrs_sound k1 k4
 exact ⟨k3,v',q1,v,σ3,k1.sim,k2,q2,k5⟩
end
end Go.Proofs.YtghcggoodgfaoaaGreatDoor

set_option linter.unusedVariables false
set_option linter.unusedSectionVars false
set_option linter.unusedSimpArgs false
namespace Go.Proofs.YtghcggoodgfaoaaGreatDoor
open Go Go.RowKit
abbrev vi (n:Int):VV:=.v (.int .i64 n)
abbrev vb (b:Bool):VV:=.v (.bool b)
def TestV (v:VV) [H:Hold (Prop × Prop)]:Prop:=∃ b,v=.v (.bool b)∧(b=true→H.it.1)∧(b=false→H.it.2)
theorem TestV_true (T F:Prop):@TestV (.v (.bool true)) ⟨(T,F)⟩=T:=by simp [TestV]
theorem TestV_false (T F:Prop):@TestV (.v (.bool false)) ⟨(T,F)⟩=F:=by simp [TestV]
theorem TestV_bool {b:Bool} {T F:Prop} (h1:b=true→T) (h2:b=false→F):@TestV (.v (.bool b)) ⟨(T,F)⟩:=⟨b,rfl,h1,h2⟩
theorem TestV_dec {p:Prop} [Decidable p] {T F:Prop} (h1:p→T) (h2:¬ p→F):@TestV (.v (.bool (decide p))) ⟨(T,F)⟩:=⟨_,rfl,fun h=>h1 (by simpa using h),fun h=>h2 (by simpa using h)⟩
def PickV (v:VV) (want:Bool) [H:Hold (Prop × Prop)]:Prop:=if vwantV v want=true then H.it.1 else H.it.2
theorem PickV_tt (T F:Prop):@PickV (.v (.bool true)) true ⟨(T,F)⟩=T:=by simp [PickV,vwantV]
theorem PickV_ft (T F:Prop):@PickV (.v (.bool false)) true ⟨(T,F)⟩=F:=by simp [PickV,vwantV]
theorem PickV_tf (T F:Prop):@PickV (.v (.bool true)) false ⟨(T,F)⟩=F:=by simp [PickV,vwantV]
theorem PickV_ff (T F:Prop):@PickV (.v (.bool false)) false ⟨(T,F)⟩=T:=by simp [PickV,vwantV]
theorem PickV_undef (w:Bool) (T F:Prop):@PickV (.tup []) w ⟨(T,F)⟩=F:=by simp [PickV,vwantV]
theorem PickV_t {b:Bool} {T F:Prop} (h1:b=true→T) (h2:b=false→F):@PickV (.v (.bool b)) true ⟨(T,F)⟩:=by
 cases b
 ·rw [PickV_ft];exact h2 rfl
 ·rw [PickV_tt];exact h1 rfl
theorem PickV_f {b:Bool} {T F:Prop} (h1:b=false→T) (h2:b=true→F):@PickV (.v (.bool b)) false ⟨(T,F)⟩:=by
 cases b
 ·rw [PickV_ff];exact h1 rfl
 ·rw [PickV_tf];exact h2 rfl
def vbindN (K:FV→VSt→Prop) (Q:Ex→FV→VSt→Prop):Ex→FV→VSt→Prop:=fun e fe σ=>match e with
 | .normal=>K fe σ
 | e=>Q e fe σ
section
variable (K:FV→VSt→Prop) (Q:Ex→FV→VSt→Prop) (fe:FV) (σ:VSt)
theorem vbindN_normal:vbindN K Q .normal fe σ=K fe σ:=Eq.trans rfl rfl
theorem vbindN_exit (id:Nat):vbindN K Q (.exit id) fe σ=Q (.exit id) fe σ:=Eq.trans rfl rfl
theorem vbindN_ret:vbindN K Q .ret fe σ=Q .ret fe σ:=Eq.trans rfl rfl
def vbindB (id:Nat) (Q:Ex→FV→VSt→Prop):Ex→FV→VSt→Prop:=fun e fe σ=>match e with
 | .exit id'=>if id'=id then Q .normal fe σ else Q (.exit id') fe σ
 | e=>Q e fe σ
theorem vbindB_normal (id:Nat):vbindB id Q .normal fe σ=Q .normal fe σ:=Eq.trans rfl rfl
theorem vbindB_ret (id:Nat):vbindB id Q .ret fe σ=Q .ret fe σ:=Eq.trans rfl rfl
theorem vbindB_self (id:Nat):vbindB id Q (.exit id) fe σ=Q .normal fe σ:=by simp [vbindB]
theorem vbindB_ne (id id':Nat) (h:id'≠id):vbindB id Q (.exit id') fe σ=Q (.exit id') fe σ:=by simp [vbindB,h]
def vbindL (I:Nat→FV→VSt→Prop) (k:Nat) (Q:Ex→FV→VSt→Prop):Ex→FV→VSt→Prop:=fun e fe σ=>match e with
 | .normal=>∃ k',k'<k∧I k' fe σ
 | e=>Q e fe σ
variable (I:Nat→FV→VSt→Prop) (k:Nat)
theorem vbindL_normal:vbindL I k Q .normal fe σ = ∃ k',k'<k∧I k' fe σ:=Eq.trans rfl rfl
theorem vbindL_exit (id:Nat):vbindL I k Q (.exit id) fe σ=Q (.exit id) fe σ:=Eq.trans rfl rfl
theorem vbindL_ret:vbindL I k Q .ret fe σ=Q .ret fe σ:=Eq.trans rfl rfl
def vatExit (id:Nat) (R:FV→VSt→Prop) (Q:Ex→FV→VSt→Prop):Ex→FV→VSt→Prop:=fun e fe σ=>match e with
 | .exit i=>if i=id then R fe σ else Q (.exit i) fe σ
 | e=>Q e fe σ
variable (R:FV→VSt→Prop)
theorem vatExit_self (id:Nat):vatExit id R Q (.exit id) fe σ=R fe σ:=by simp [vatExit]
theorem vatExit_ne (id i:Nat) (h:i≠id):vatExit id R Q (.exit i) fe σ=Q (.exit i) fe σ:=by simp [vatExit,h]
theorem vatExit_ret (id:Nat):vatExit id R Q .ret fe σ=Q .ret fe σ:=Eq.trans rfl rfl
theorem vatEnd_normal (l:List XRes) (Q:VV→VSt→Prop) (fe:FV) (σ:VSt):vatEnd l Q .normal fe σ = @Got _ (vrs l fe σ) ⟨fun v=>Q v σ⟩:=by simp [vatEnd,Got]
theorem vatEnd_ret (l:List XRes) (Q:VV→VSt→Prop) (fe:FV) (σ:VSt):vatEnd l Q .ret fe σ = @Got _ (vrs l fe σ) ⟨fun v=>Q v σ⟩:=by simp [vatEnd,Got]
end
theorem vrs_one (x:XRes) (fe:FV) (σ:VSt):vrs [x] fe σ=vr1 fe σ x:=by
 simp only [vrs,List.mapM_cons,List.mapM_nil]
 cases vr1 fe σ x<;>rfl
theorem vrs_two (x y:XRes) (fe:FV) (σ:VSt):vrs [x,y] fe σ=(vr1 fe σ x).bind fun a=>(vr1 fe σ y).bind fun b=>some (.tup [a,b]):=by
 simp only [vrs,List.mapM_cons,List.mapM_nil]
 cases vr1 fe σ x
 ·rfl
 ·cases vr1 fe σ y<;>rfl
theorem vrs_three (x y z:XRes) (fe:FV) (σ:VSt):vrs [x,y,z] fe σ=(vr1 fe σ x).bind fun a=>(vr1 fe σ y).bind fun b=>(vr1 fe σ z).bind fun c=>some (.tup [a,b,c]):=by
 simp only [vrs,List.mapM_cons,List.mapM_nil]
 cases vr1 fe σ x
 ·rfl
 ·cases vr1 fe σ y
  ·rfl
  ·cases vr1 fe σ z<;>rfl
theorem vrs_four (x y z u:XRes) (fe:FV) (σ:VSt):vrs [x,y,z,u] fe σ=(vr1 fe σ x).bind fun a=>(vr1 fe σ y).bind fun b=>(vr1 fe σ z).bind fun c=>(vr1 fe σ u).bind fun d=>some (.tup [a,b,c,d]):=by
 simp only [vrs,List.mapM_cons,List.mapM_nil]
 cases vr1 fe σ x
 ·rfl
 ·cases vr1 fe σ y
  ·rfl
  ·cases vr1 fe σ z
   ·rfl
   ·cases vr1 fe σ u<;>rfl
theorem vrs_nil (fe:FV) (σ:VSt):vrs [] fe σ=some (.tup []):=Eq.trans rfl rfl
theorem vr1_tmp (t:Tmp) (fe:FV) (σ:VSt):vr1 fe σ (.tmp t)=some (fe t):=Eq.trans rfl rfl
theorem vr1_cell (a:Tmp) (agg:Bool) (sz:Nat) (fe:FV) (σ:VSt):vr1 fe σ (.cell a agg sz)=vld σ agg sz (fe a):=Eq.trans rfl rfl
theorem vfev_tmp (fe:FV) (t:Tmp):vfev fe (.tmp t)=fe t:=Eq.trans rfl rfl
theorem vfev_int (fe:FV) (k:IntKind) (n:Int):vfev fe (.const (.int k n))=.v (.int k n):=Eq.trans rfl rfl
theorem vfev_bool (fe:FV) (b:Bool):vfev fe (.const (.bool b))=.v (.bool b):=Eq.trans rfl rfl
theorem vfev_str (fe:FV) (s:ByteArray):vfev fe (.const (.string s))=.v (.string s):=Eq.trans rfl rfl
theorem vfev_nilS (fe:FV):vfev fe (.const (.slice none 0 0))=.v (.slice none 0 0):=Eq.trans rfl rfl
theorem vfev_nilP (fe:FV):vfev fe (.const (.pointer none))=.v (.pointer none):=Eq.trans rfl rfl
theorem vfev_nilM (fe:FV):vfev fe (.const (.map none))=.v (.map none):=Eq.trans rfl rfl
theorem vfev_nilF (fe:FV):vfev fe (.const .nilFunc)=.v .nilFunc:=Eq.trans rfl rfl
theorem vfev_nilI (fe:FV):vfev fe (.const .nilIface)=.v .nilIface:=Eq.trans rfl rfl
theorem vfev_agg (fe:FV) (l:List Value):vfev fe (.const (.agg l.toArray))=.agg (l.map .v):=Eq.trans rfl rfl
theorem vfev_tup (fe:FV) (l:List Value):vfev fe (.const (.tuple l.toArray))=.tup (l.map .v):=Eq.trans rfl rfl
theorem vfev_func (fe:FV) (f:FuncId):vfev fe (.func f)=.fn f [] []:=Eq.trans rfl rfl
theorem vupd_same (fe:FV) (d:Tmp) (v:VV):vupd fe d v d=v:=by simp [vupd]
theorem vupd_ne (fe:FV) (d t:Tmp) (v:VV) (h:t≠d):vupd fe d v t=fe t:=by simp [vupd,h]
theorem vfe0_zero (a:VV) (l:List VV):vfe0 (a::l) 0=a:=Eq.trans rfl rfl
theorem vfe0_succ (a:VV) (l:List VV) (n:Nat):vfe0 (a::l) (n+1)=vfe0 l n:=Eq.trans rfl rfl
def VCall (P:Program) [Prim P] (f:FuncId) (args:List VV) [H:Hold ((Bool × Bool) × VSt × (VV→VSt→Bool→Prop))]:Prop:=VCK P H.it.1 (.func f) args H.it.2.1 H.it.2.2
def VYield (P:Program) [Prim P] (id:Nat) (args:List VV) [H:Hold ((Bool × Bool) × VSt × (VV→VSt→Bool→Prop))]:Prop:=VCK P H.it.1 (.yield id) args H.it.2.1 H.it.2.2
def VCallv (P:Program) [Prim P] (v:VV) (args:List VV) [H:Hold ((Bool × Bool) × VSt × (VV→VSt→Bool→Prop))]:Prop:=∃ g a b,fnOf v=some (g,a,b)∧VCK P H.it.1 g (a++args++b) H.it.2.1 H.it.2.2
def VLoop (P:Program) [Prim P] [H:Hold (XCode × FV × VSt × (Ex→FV→VSt→Prop))]:Prop:=VW P (.loop H.it.1) H.it.2.1 H.it.2.2.1 H.it.2.2.2
def VRange (P:Program) [Prim P] (x:VV) (L:LoopC) [H:Hold (FV × VSt × (Ex→FV→VSt→Prop))]:Prop:=
 ∃ g a b,x=.fn g a b∧VG P (.func g) (a++[.yield H.it.2.1.next]++b) (H.it.2.1.alloc (.loop H.it.1 L none)) (fun _ σ2=>∃ fe2 L2 pe,σ2.heap H.it.2.1.next=.loop fe2 L2 pe∧H.it.2.2 (pe.getD .normal) H.it.1 ((H.it.2.1.join σ2).put H.it.2.1.next .dead))
section
variable {P:Program} [Prim P] {fe:FV} {σ:VSt}
theorem VCallv_func (f:FuncId) (a b args:List VV) (k:Bool × Bool) (σ:VSt) (K:VV→VSt→Bool→Prop):@VCallv P _ (.fn f a b) args ⟨(k,σ,K)⟩ = @VCall P _ f (a++args++b) ⟨(k,σ,K)⟩:=by
 simp only [VCallv,VCall,fnOf,Option.some.injEq,Prod.mk.injEq]
 exact propext ⟨fun ⟨_,_,_,⟨rfl,rfl,rfl⟩,h⟩=>h,fun h=>⟨_,_,_,⟨rfl,rfl,rfl⟩,h⟩⟩
theorem VCallv_yield (id:Nat) (args:List VV) (k:Bool × Bool) (σ:VSt) (K:VV→VSt→Bool→Prop):@VCallv P _ (.yield id) args ⟨(k,σ,K)⟩ = @VYield P _ id args ⟨(k,σ,K)⟩:=by
 simp only [VCallv,VYield,fnOf,Option.some.injEq,Prod.mk.injEq]
 exact propext ⟨fun ⟨_,_,_,⟨rfl,rfl,rfl⟩,h⟩=>by simpa using h,fun h=>⟨_,_,_,⟨rfl,rfl,rfl⟩,by simpa using h⟩⟩
section
variable {Q:Ex→FV→VSt→Prop}
theorem VW_skip:VW P .skip fe σ Q=Q .normal fe σ:=Eq.trans rfl rfl
theorem VW_exit (id:Nat):VW P (.exit id) fe σ Q=Q (.exit id) fe σ:=Eq.trans rfl rfl
theorem VW_ret:VW P .ret fe σ Q=Q .ret fe σ:=Eq.trans rfl rfl
theorem VW_region (ops:List XOper):VW P (.region ops) fe σ Q=VO P ops fe σ (Q .normal):=Eq.trans rfl rfl
def allOld:Tmp→Bool:=fun _=>true
theorem VW_draw (ops:List XOper) (st:List (List Nat)) (fl:List ((Bool × Bool) × Bool)):VW P (.draw ⟨ops,st,fl⟩) fe σ Q=VM P σ.next (ops.zip fl) allOld true fe σ (Q .normal):=Eq.trans rfl rfl
theorem VW_seq (a b:XCode):VW P (.seq a b) fe σ Q=VW P a fe σ (vbindN (fun fe σ=>VW P b fe σ Q) Q):=by
 show VW P a fe σ (fun e fe' σ'=>match e with
  | .normal=>VW P b fe' σ' Q
  | e=>Q e fe' σ')=_
 congr 1
theorem VW_block (id:Nat) (c:XCode):VW P (.block id c) fe σ Q=VW P c fe σ (vbindB id Q):=by
 show VW P c fe σ (fun e fe' σ'=>match e with
  | .exit id'=>if id'=id then Q .normal fe' σ' else Q (.exit id') fe' σ'
  | e=>Q e fe' σ')=_
 congr 1
theorem VW_cond (c:Operand) (a b:XCode):VW P (.cond c a b) fe σ Q = @TestV (vfev fe c) ⟨(VW P a fe σ Q,VW P b fe σ Q)⟩:=Eq.trans rfl rfl
theorem VW_range (x:Operand) (L:LoopC):VW P (.range x L) fe σ Q = @VRange P _ (vfev fe x) L ⟨(fe,σ,Q)⟩:=Eq.trans rfl rfl
theorem VW_stuck (c:XCode):VW P (.loop c) fe σ Q = @VLoop P _ ⟨(c,fe,σ,Q)⟩:=Eq.trans rfl rfl
theorem VS_mono {k:Bool × Bool} {o:XOp} {ρ:Operand→VV} {K K':VV→VSt→Bool→Prop} (hk:∀ v σ c,K v σ c→K' v σ c) (h:VS P k o ρ σ K):VS P k o ρ σ K':=by
 have ck:∀ {g:Go.Fn} {args:List VV},VCK P k g args σ K→VCK P k g args σ K':=fun h=>VG.mono h fun v σ' ⟨c,h1,h2,h3⟩=>⟨c,h1,h2,hk _ _ _ h3⟩
 unfold VS at *
 split at h
 ·exact ck h
 ·obtain ⟨g,a,b,e,h⟩:=h
  exact ⟨g,a,b,e,ck h⟩
 ·rcases h with ⟨h1,r,h2,h3⟩|⟨h1,r,h2,h3⟩
  ·exact .inl ⟨h1,r,h2,hk _ _ _ h3⟩
  ·exact .inr ⟨h1,r,h2,hk _ _ _ h3⟩
 ·rcases h with ⟨r,h2,h3⟩|⟨r,h2,h3⟩
  ·exact .inl ⟨r,h2,hk _ _ _ h3⟩
  ·exact .inr ⟨r,h2,hk _ _ _ h3⟩
 ·obtain ⟨h1,r,h2,h3⟩:=h;exact ⟨h1,r,h2,hk _ _ _ h3⟩
 ·obtain ⟨h1,r,h2,h3⟩:=h;exact ⟨h1,r,h2,hk _ _ _ h3⟩
 ·obtain ⟨h1,r,h2,h3⟩:=h;exact ⟨h1,r,h2,hk _ _ _ h3⟩
 ·obtain ⟨h1,r,h2,h3⟩:=h;exact ⟨h1,r,h2,hk _ _ _ h3⟩
 ·rcases h with ⟨v,h1,h2⟩|⟨h1,h2,h3,h4⟩
  ·exact .inl ⟨v,h1,hk _ _ _ h2⟩
  ·exact .inr ⟨h1,h2,hk _ _ _ h3,hk _ _ _ h4⟩
 ·obtain ⟨r,h2,h3⟩:=h;exact ⟨r,h2,hk _ _ _ h3⟩
theorem VW.mono {c:XCode}:∀ {fe:FV} {σ:VSt} {Q Q':Ex→FV→VSt→Prop},(∀ e fe σ,Q e fe σ→Q' e fe σ)→VW P c fe σ Q→VW P c fe σ Q':=by
 have hO:∀ (l:List XOper) {fe:FV} {σ:VSt} {Q Q':FV→VSt→Prop},(∀ fe σ,Q fe σ→Q' fe σ)→VO P l fe σ Q→VO P l fe σ Q':=by
  intro l
  induction l with
  | nil=>intro fe σ Q Q' h hx;exact h _ _ hx
  | cons o l ih=>
   intro fe σ Q Q' h hx
   simp only [VO]at hx ⊢
   split at hx
   ·rename_i hw
    rw [if_pos hw]
    exact VS_mono (fun v σ' _=>ih h) hx
   ·rename_i hw
    rw [if_neg hw]
    exact ih h hx
 have hM:∀ (n0:Nat) (l:List (XOper × (Bool × Bool) × Bool)) {old:Tmp→Bool} {cl:Bool} {fe:FV} {σ:VSt} {Q Q':FV→VSt→Prop},(∀ fe σ,Q fe σ→Q' fe σ)→VM P n0 l old cl fe σ Q→VM P n0 l old cl fe σ Q':=by
  intro n0 l
  induction l with
  | nil=>intro old cl fe σ Q Q' h hx;exact h _ _ hx
  | cons o l ih=>
   obtain ⟨o,k,e⟩:=o
   intro old cl fe σ Q Q' h hx
   simp only [VM]at hx ⊢
   split at hx
   ·rename_i hw
    rw [if_pos hw]
    exact ⟨hx.1,VS_mono (fun v σ' c hh=>ih h hh) hx.2⟩
   ·rename_i hw
    rw [if_neg hw]
    exact ih h hx
 induction c with
 | skip=>intro fe σ Q Q' h hx;exact h _ _ _ hx
 | exit id=>intro fe σ Q Q' h hx;exact h _ _ _ hx
 | ret=>intro fe σ Q Q' h hx;exact h _ _ _ hx
 | region ops=>intro fe σ Q Q' h hx;exact hO ops (h .normal) hx
 | draw d=>intro fe σ Q Q' h hx;exact hM _ _ (h .normal) hx
 | seq a b iha ihb=>
  intro fe σ Q Q' h hx
  rw [VW_seq]at hx ⊢
  refine iha (fun e fe σ hh=>?_) hx
  cases e with
  | normal=>exact ihb h hh
  | exit id=>exact h _ _ _ hh
  | ret=>exact h _ _ _ hh
 | cond c a b iha ihb=>
  intro fe σ Q Q' h hx
  obtain ⟨b,e,h1,h2⟩:=hx
  exact ⟨b,e,fun hb=>iha h (h1 hb),fun hb=>ihb h (h2 hb)⟩
 | block id c ih=>
  intro fe σ Q Q' h hx
  rw [VW_block]at hx ⊢
  refine ih (fun e fe σ hh=>?_) hx
  cases e with
  | normal=>exact h _ _ _ hh
  | ret=>exact h _ _ _ hh
  | exit i=>
   simp only [vbindB]at hh ⊢
   split at hh
   ·rename_i hi;rw [if_pos hi];exact h _ _ _ hh
   ·rename_i hi;rw [if_neg hi];exact h _ _ _ hh
 | loop c ih=>
  intro fe σ Q Q' h hx
  obtain ⟨I,n,h1,h2⟩:=hx
  refine ⟨I,n,h1,fun k fe σ hI=>ih (fun e fe' σ' hh=>?_) (h2 k fe σ hI)⟩
  cases e with
  | normal=>exact hh
  | exit id=>exact h _ _ _ hh
  | ret=>exact h _ _ _ hh
 | range x L=>
  intro fe σ Q Q' h hx
  obtain ⟨g,a,b,e,hx⟩:=hx
  exact ⟨g,a,b,e,VG.mono hx fun _ σ2 ⟨fe2,L2,pe,k1,k2⟩=>⟨fe2,L2,pe,k1,h _ _ _ k2⟩⟩
theorem VW_loop {c:XCode} {Q:Ex→FV→VSt→Prop} (I:Nat→FV→VSt→Prop) (n:Nat) (h0:I n fe σ) (h:∀ k fe σ,I k fe σ→VW P c fe σ (vbindL I k Q)):@VLoop P _ ⟨(c,fe,σ,Q)⟩:=by
 refine ⟨I,n,h0,fun k fe σ hI=>VW.mono (fun e fe σ hh=>?_) (h k fe σ hI)⟩
 cases e<;>exact hh
theorem VW_loopR {c:XCode} {Q:Ex→FV→VSt→Prop} (id:Nat) (I:Nat→FV→VSt→Prop) (R:FV→VSt→Prop) (n:Nat) (h0:I n fe σ) (h:∀ k fe σ,I k fe σ→VW P c fe σ (vbindL I k (vatExit id R Q))) (hq:∀ fe σ,R fe σ→Q (.exit id) fe σ):@VLoop P _ ⟨(c,fe,σ,Q)⟩:=by
 refine VW_loop I n h0 fun k fe σ hI=>VW.mono (fun e fe σ hh=>?_) (h k fe σ hI)
 cases e with
 | normal=>exact hh
 | ret=>exact hh
 | exit i=>
  simp only [vbindL,vatExit]at hh ⊢
  split at hh
  ·rename_i e;subst e;exact hq _ _ hh
  ·exact hh
theorem VW_cut {c:XCode} {K:FV→VSt→Prop} (R:FV→VSt→Prop) (h1:VW P c fe σ (vbindN R Q)) (h2:∀ fe σ,R fe σ→K fe σ):VW P c fe σ (vbindN K Q):=by
 refine VW.mono (fun e fe σ hh=>?_) h1
 cases e with
 | normal=>exact h2 _ _ hh
 | ret=>exact hh
 | exit i=>exact hh
end
section
variable {Q:FV→VSt→Prop}
theorem VO_nil:VO P [] fe σ Q=Q fe σ:=Eq.trans rfl rfl
theorem VO_cons (d:Tmp) (o:XOp) (r:List XOper):VO P (⟨some d,o,none⟩::r) fe σ Q=VS P (false,false) o (vfev fe) σ (fun v σ' _=>VO P r (vupd fe d v) σ' Q):=by simp [VO,vwant,vupdO]
theorem VO_cons_drop (o:XOp) (r:List XOper):VO P (⟨none,o,none⟩::r) fe σ Q=VS P (false,false) o (vfev fe) σ (fun _ σ' _=>VO P r fe σ' Q):=by simp [VO,vwant,vupdO]
theorem VO_guard (d:Tmp) (o:XOp) (t:Tmp) (w:Bool) (r:List XOper):VO P (⟨some d,o,some (t,w)⟩::r) fe σ Q = @PickV (fe t) w ⟨(VS P (false,false) o (vfev fe) σ (fun v σ' _=>VO P r (vupd fe d v) σ' Q),VO P r (vupd fe d vundef) σ Q)⟩:=Eq.trans rfl rfl
theorem VO_guard_drop (o:XOp) (t:Tmp) (w:Bool) (r:List XOper):VO P (⟨none,o,some (t,w)⟩::r) fe σ Q = @PickV (fe t) w ⟨(VS P (false,false) o (vfev fe) σ (fun _ σ' _=>VO P r fe σ' Q),VO P r fe σ Q)⟩:=Eq.trans rfl rfl
def oldU (old:Tmp→Bool) (d:Tmp) (b:Bool):Tmp→Bool:=fun t=>if t=d then b else old t
theorem oldU_same (old:Tmp→Bool) (d:Tmp) (b:Bool):oldU old d b d=b:=by simp [oldU]
theorem oldU_ne (old:Tmp→Bool) (d t:Tmp) (b:Bool) (h:t≠d):oldU old d b t=old t:=by simp [oldU,h]
theorem allOld_any (t:Tmp):allOld t=true:=Eq.trans rfl rfl
theorem oldOpd_tmp (old:Tmp→Bool) (t:Tmp):oldOpd old (.tmp t)=old t:=Eq.trans rfl rfl
theorem oldOpd_const (old:Tmp→Bool) (v:Value):oldOpd old (.const v)=true:=Eq.trans rfl rfl
def vearlyP (e:Bool) [H:Hold (XOp × (Operand→VV) × Nat × (Tmp→Bool) × Prop)]:Prop:=(e=true→vEarly H.it.1 H.it.2.1 H.it.2.2.1 H.it.2.2.2.1)∧H.it.2.2.2.2
theorem vearlyP_false (o:XOp) (ρ:Operand→VV) (n0:Nat) (old:Tmp→Bool) (K:Prop):@vearlyP false ⟨(o,ρ,n0,old,K)⟩=K:=by simp [vearlyP]
def VLow (v:VV) (n0:Nat) (o:Bool) [K:Hold Prop]:Prop:=vlowV n0 o v∧K.it
theorem VLow_ptr (id p n0:Nat) (o:Bool) (K:Prop):@VLow (.ptr id p) n0 o ⟨K⟩ = @Need (id<n0) ⟨K⟩:=Eq.trans rfl rfl
theorem VLow_slice (id p n c n0:Nat) (o:Bool) (K:Prop):@VLow (.slice id p n c) n0 o ⟨K⟩ = @Need (id<n0) ⟨K⟩:=Eq.trans rfl rfl
theorem VLow_v (x:Value) (n0:Nat) (o:Bool) (K:Prop):@VLow (.v x) n0 o ⟨K⟩=K:=by simp [VLow,vlowV]
theorem VLow_ep (xs:List VV) (p n0:Nat) (K:Prop):@VLow (.ep xs p) n0 true ⟨K⟩=K:=by simp [VLow,vlowV]
theorem VLow_lst (n:Nat) (xs:List VV) (n0:Nat) (K:Prop):@VLow (.lst n xs) n0 true ⟨K⟩=K:=by simp [VLow,vlowV]
theorem VLow_own (z n:Nat) (xs:List VV) (t n0:Nat) (K:Prop):@VLow (.own z n xs t) n0 true ⟨K⟩=K:=by simp [VLow,vlowV]
theorem vearly_load (agg:Bool) (sz:Nat) (x:Operand) (ρ:Operand→VV) (n0:Nat) (old:Tmp→Bool) (K:Prop):@vearlyP true ⟨(.load agg sz x,ρ,n0,old,K)⟩ = @Now _ (ρ x) ⟨fun v=>@VLow v n0 (oldOpd old x) ⟨K⟩⟩:=by simp [vearlyP,vEarly,Now,VLow]
theorem vearly_sl (esz:Nat) (x:Operand) (lo hi:Option Operand) (ρ:Operand→VV) (n0:Nat) (old:Tmp→Bool) (K:Prop):@vearlyP true ⟨(.sl esz x lo hi,ρ,n0,old,K)⟩ = @Now _ (ρ x) ⟨fun v=>@VLow v n0 (oldOpd old x) ⟨K⟩⟩:=by simp [vearlyP,vEarly,Now,VLow]
variable {n0:Nat} {old:Tmp→Bool} {cl:Bool}
theorem VM_nil:VM P n0 [] old cl fe σ Q=Q fe σ:=Eq.trans rfl rfl
theorem VM_cons (d:Tmp) (o:XOp) (k:Bool × Bool) (e:Bool) (r:List (XOper × (Bool × Bool) × Bool)):VM P n0 ((⟨some d,o,none⟩,k,e)::r) old cl fe σ Q = @vearlyP e ⟨(o,vfev fe,n0,old,VS P k o (vfev fe) σ (fun v σ' c=>VM P n0 r (oldU old d (keepsOld o old cl)) (cl&&c) (vupd fe d v) σ' Q))⟩:=by simp [VM,vwant,vupdO,vearlyP];intro _;rfl
theorem VM_cons_drop (o:XOp) (k:Bool × Bool) (e:Bool) (r:List (XOper × (Bool × Bool) × Bool)):VM P n0 ((⟨none,o,none⟩,k,e)::r) old cl fe σ Q = @vearlyP e ⟨(o,vfev fe,n0,old,VS P k o (vfev fe) σ (fun _ σ' c=>VM P n0 r old (cl&&c) fe σ' Q))⟩:=by simp [VM,vwant,vupdO,vearlyP,oldO]
theorem VM_guard (d:Tmp) (o:XOp) (t:Tmp) (w:Bool) (k:Bool × Bool) (e:Bool) (r:List (XOper × (Bool × Bool) × Bool)):VM P n0 ((⟨some d,o,some (t,w)⟩,k,e)::r) old cl fe σ Q = @PickV (fe t) w ⟨(@vearlyP e ⟨(o,vfev fe,n0,old,VS P k o (vfev fe) σ (fun v σ' c=>VM P n0 r (oldU old d (keepsOld o old cl)) (cl&&c) (vupd fe d v) σ' Q))⟩,VM P n0 r (oldU old d true) cl (vupd fe d vundef) σ Q)⟩:=Eq.trans rfl rfl
theorem VM_guard_drop (o:XOp) (t:Tmp) (w:Bool) (k:Bool × Bool) (e:Bool) (r:List (XOper × (Bool × Bool) × Bool)):VM P n0 ((⟨none,o,some (t,w)⟩,k,e)::r) old cl fe σ Q = @PickV (fe t) w ⟨(@vearlyP e ⟨(o,vfev fe,n0,old,VS P k o (vfev fe) σ (fun _ σ' c=>VM P n0 r old (cl&&c) fe σ' Q))⟩,VM P n0 r old cl fe σ Q)⟩:=Eq.trans rfl rfl
end
section
variable {k:Bool × Bool} {ρ:Operand→VV} {K:VV→VSt→Bool→Prop}
theorem VS_call (f:FuncId) (args:List Operand):VS P k (.call f args.toArray) ρ σ K = @VCall P _ f (args.map ρ) ⟨(k,σ,K)⟩:=Eq.trans rfl rfl
theorem VS_callv (x:Operand) (args:List Operand):VS P k (.callv x args.toArray) ρ σ K = @Now _ (ρ x) ⟨fun v=>@VCallv P _ v (args.map ρ) ⟨(k,σ,K)⟩⟩:=Eq.trans rfl rfl
theorem VS_gen1 {o:XOp} {r:Option VV} (h:VS P k o ρ σ K = ∃ q,vop o ρ σ=some q∧K q.1 q.2 true) (hr:vop o ρ σ=r.map fun v=>(v,σ)):VS P k o ρ σ K = @Got _ r ⟨fun v=>K v σ true⟩:=by
 rw [h,hr]
 apply propext
 unfold Got
 constructor
 ·rintro ⟨q,h1,h2⟩
  simp only [Option.map_eq_some_iff]at h1
  obtain ⟨u,h3,rfl⟩:=h1
  exact ⟨u,h3,h2⟩
 ·rintro ⟨u,h3,h2⟩
  exact ⟨(u,σ),by simp [h3],h2⟩
theorem VS_mv (x:Operand):VS P k (.mv x) ρ σ K = @Now _ (ρ x) ⟨fun v=>K v σ true⟩:=by
 rw [VS_gen1 (r:=some (ρ x)) rfl rfl,Got_some];rfl
theorem VS_pick (c a b:Operand):VS P k (.pick c a b) ρ σ K = @Now _ (ρ c) ⟨fun v=>@Now _ (ρ a) ⟨fun x=>@Now _ (ρ b) ⟨fun y=>@Got _ (vpick v x y) ⟨fun r=>K r σ true⟩⟩⟩⟩:=by rw [VS_gen1 rfl rfl];rfl
theorem VS_load (agg:Bool) (sz:Nat) (x:Operand):VS P k (.load agg sz x) ρ σ K = @Now _ (ρ x) ⟨fun v=>@Got _ (vld σ agg sz v) ⟨fun r=>K r σ true⟩⟩:=by rw [VS_gen1 rfl rfl];rfl
theorem VS_nilck (x:Operand):VS P k (.nilck x) ρ σ K = @Now _ (ρ x) ⟨fun v=>@Got _ (vnilck v) ⟨fun r=>K r σ true⟩⟩:=by rw [VS_gen1 rfl rfl];rfl
theorem VS_bin (op:BinOp) (x y:Operand):VS P k (.bin op x y) ρ σ K = @Now _ (ρ x) ⟨fun v=>@Now _ (ρ y) ⟨fun u=>@Got _ (vbin op v u) ⟨fun r=>K r σ true⟩⟩⟩:=by rw [VS_gen1 rfl rfl];rfl
theorem VS_eqb (neg:Bool) (x y:Operand):VS P k (.eqb neg x y) ρ σ K = @Now _ (ρ x) ⟨fun v=>@Now _ (ρ y) ⟨fun u=>@Got _ (veqb neg v u) ⟨fun r=>K r σ true⟩⟩⟩:=by rw [VS_gen1 rfl rfl];rfl
theorem VS_eqf (ks:List Nat) (neg:Bool) (x y:Operand):VS P k (.eqf ks neg x y) ρ σ K = @Now _ (ρ x) ⟨fun v=>@Now _ (ρ y) ⟨fun u=>@Got _ (veqf ks neg v u) ⟨fun r=>K r σ true⟩⟩⟩:=by rw [VS_gen1 rfl rfl];rfl
theorem VS_eqp (neg:Bool) (x y:Operand):VS P k (.eqp neg x y) ρ σ K = @Now _ (ρ x) ⟨fun v=>@Now _ (ρ y) ⟨fun u=>@Got _ (veqp neg v u) ⟨fun r=>K r σ true⟩⟩⟩:=by rw [VS_gen1 rfl rfl];rfl
theorem VS_un (op:UnOp) (x:Operand):VS P k (.un op x) ρ σ K = @Now _ (ρ x) ⟨fun v=>@Got _ (vun op v) ⟨fun r=>K r σ true⟩⟩:=by rw [VS_gen1 rfl rfl];rfl
theorem VS_cvi (j:IntKind) (x:Operand):VS P k (.cvi j x) ρ σ K = @Now _ (ρ x) ⟨fun v=>@Got _ (vcvi j v) ⟨fun r=>K r σ true⟩⟩:=by rw [VS_gen1 rfl rfl];rfl
theorem VS_cvs (x:Operand):VS P k (.cvs x) ρ σ K = @Now _ (ρ x) ⟨fun v=>@Got _ (vcvs v) ⟨fun r=>K r σ true⟩⟩:=by rw [VS_gen1 rfl rfl];rfl
theorem VS_sl (esz:Nat) (x:Operand) (lo hi:Option Operand):VS P k (.sl esz x lo hi) ρ σ K = @Now _ (ρ x) ⟨fun v=>@Now _ (lo.map ρ) ⟨fun l=>@Now _ (hi.map ρ) ⟨fun h=>@Got _ (vsl σ esz v l h) ⟨fun r=>K r σ true⟩⟩⟩⟩:=by rw [VS_gen1 rfl rfl];rfl
theorem VS_slStr (x:Operand) (lo hi:Option Operand):VS P k (.slStr x lo hi) ρ σ K = @Now _ (ρ x) ⟨fun v=>@Now _ (lo.map ρ) ⟨fun l=>@Now _ (hi.map ρ) ⟨fun h=>@Got _ (vslStr v l h) ⟨fun r=>K r σ true⟩⟩⟩⟩:=by rw [VS_gen1 rfl rfl];rfl
theorem VS_fa (off:Nat) (x:Operand):VS P k (.fa off x) ρ σ K = @Now _ (ρ x) ⟨fun v=>@Got _ (vadd v off) ⟨fun r=>K r σ true⟩⟩:=by rw [VS_gen1 rfl rfl];rfl
theorem VS_fld (agg:Bool) (sz off:Nat) (x:Operand):VS P k (.fld agg sz off x) ρ σ K = @Now _ (ρ x) ⟨fun v=>@Got _ (vfld agg sz off v) ⟨fun r=>K r σ true⟩⟩:=by rw [VS_gen1 rfl rfl];rfl
theorem VS_ia (esz:Nat) (x i:Operand):VS P k (.ia esz x i) ρ σ K = @Now _ (ρ x) ⟨fun v=>@Now _ (ρ i) ⟨fun u=>@Got _ (via esz v u) ⟨fun r=>K r σ true⟩⟩⟩:=by rw [VS_gen1 rfl rfl];rfl
theorem VS_iaArr (n esz:Nat) (x i:Operand):VS P k (.iaArr n esz x i) ρ σ K = @Now _ (ρ x) ⟨fun v=>@Now _ (ρ i) ⟨fun u=>@Got _ (viaArr n esz v u) ⟨fun r=>K r σ true⟩⟩⟩:=by rw [VS_gen1 rfl rfl];rfl
theorem VS_idx (n:Nat) (agg:Bool) (esz:Nat) (x i:Operand):VS P k (.idx n agg esz x i) ρ σ K = @Now _ (ρ x) ⟨fun v=>@Now _ (ρ i) ⟨fun u=>@Got _ (vidx n agg esz v u) ⟨fun r=>K r σ true⟩⟩⟩:=by rw [VS_gen1 rfl rfl];rfl
theorem VS_idxStr (x i:Operand):VS P k (.idxStr x i) ρ σ K = @Now _ (ρ x) ⟨fun v=>@Now _ (ρ i) ⟨fun u=>@Got _ (vidxStr v u) ⟨fun r=>K r σ true⟩⟩⟩:=by rw [VS_gen1 rfl rfl];rfl
theorem VS_ext (x:Operand) (i:Nat):VS P k (.ext x i) ρ σ K = @Now _ (ρ x) ⟨fun v=>@Got _ (vext v i) ⟨fun r=>K r σ true⟩⟩:=by rw [VS_gen1 rfl rfl];rfl
theorem VS_len (x:Operand):VS P k (.len x) ρ σ K = @Now _ (ρ x) ⟨fun v=>@Got _ (vlenv v) ⟨fun r=>K r σ true⟩⟩:=by rw [VS_gen1 rfl rfl];rfl
theorem VS_lenStr (x:Operand):VS P k (.lenStr x) ρ σ K = @Now _ (ρ x) ⟨fun v=>@Got _ (vlenStr v) ⟨fun r=>K r σ true⟩⟩:=by rw [VS_gen1 rfl rfl];rfl
theorem VS_minmax (mx:Bool) (x:Operand) (l:List Operand):VS P k (.minmax mx x l) ρ σ K = @Now _ (ρ x) ⟨fun v=>@Now _ (l.map ρ) ⟨fun u=>@Got _ (vmm mx v u) ⟨fun r=>K r σ true⟩⟩⟩:=by rw [VS_gen1 rfl rfl];rfl
theorem VS_mkFunc (f:FuncId) (a b:List Operand):VS P k (.mkFunc f a.toArray b.toArray) ρ σ K = @Now _ (a.map ρ) ⟨fun a=>@Now _ (b.map ρ) ⟨fun b=>K (.fn f a b) σ true⟩⟩:=by
 rw [VS_gen1 (r:=some (.fn f (a.map ρ) (b.map ρ))) rfl rfl,Got_some];rfl
theorem VS_mkIface (t:TypeId) (x:Operand):VS P k (.mkIface t x) ρ σ K = @Now _ (ρ x) ⟨fun v=>K (.iface t v) σ true⟩:=by
 rw [VS_gen1 (r:=some (.iface t (ρ x))) rfl rfl,Got_some];rfl
theorem VS_build (z:List Value) (parts:List (Nat × Nat × Operand)):VS P k (.build z parts) ρ σ K = @Got _ (vfill (z.map .v) (parts.map fun p=>(p.1,p.2.1,ρ p.2.2))) ⟨fun l=>K (.agg l) σ true⟩:=by
 rw [VS_gen1 (r:=(vfill (z.map .v) (parts.map fun p=>(p.1,p.2.1,ρ p.2.2))).map .agg) rfl (by simp only [vop,Option.map_map];rfl)]
 unfold Got
 apply propext
 constructor
 ·rintro ⟨v,h1,h2⟩
  simp only [Option.map_eq_some_iff]at h1
  obtain ⟨l,h3,rfl⟩:=h1
  exact ⟨l,h3,h2⟩
 ·rintro ⟨l,h3,h2⟩
  exact ⟨_,by rw [h3];rfl,h2⟩
theorem VS_gen2 {o:XOp} (h:VS P k o ρ σ K = ∃ q,vop o ρ σ=some q∧K q.1 q.2 true):VS P k o ρ σ K = @Got _ (vop o ρ σ) ⟨fun r=>K r.1 r.2 true⟩:=by rw [h];rfl
theorem VS_box (t:TypeId) (x:Operand):VS P k (.box t x) ρ σ K = @Now _ (ρ x) ⟨fun v=>@Now _ v.cs ⟨fun c=>@Need (vAll c=true) ⟨@Now _ c.length ⟨fun n=>@Now _ σ.next ⟨fun m=>K (.ptr m 0) (σ.box c t n) true⟩⟩⟩⟩⟩:=by
 rw [VS_gen2 rfl]
 simp only [vop,Now,Need,Got]
 apply propext
 constructor
 ·rintro ⟨r,h1,h2⟩
  split at h1
  ·rename_i hc;obtain rfl:=Option.some.inj h1;exact ⟨hc,h2⟩
  ·cases h1
 ·rintro ⟨hc,h2⟩
  exact ⟨_,if_pos hc,h2⟩
theorem VS_zero (t:TypeId) (z:Value):VS P k (.zero t z) ρ σ K = @Need (flatL z.cells.toList=true) ⟨@Now _ (z.cells.toList.map VV.v) ⟨fun c=>K (.ptr σ.next 0) (σ.box c t c.length) true⟩⟩:=by
 rw [VS_gen2 rfl]
 simp only [vop,Now,Need,Got]
 apply propext
 constructor
 ·rintro ⟨r,h1,h2⟩
  split at h1
  ·rename_i hc;obtain rfl:=Option.some.inj h1;exact ⟨hc,by simpa using h2⟩
  ·cases h1
 ·rintro ⟨hc,h2⟩
  exact ⟨_,if_pos hc,by simpa using h2⟩
theorem VS_zeroA (t:TypeId) (l:List Value):VS P k (.zero t (.agg l.toArray)) ρ σ K = @Need (flatL l=true) ⟨@Now _ (l.map VV.v) ⟨fun c=>@Now _ c.length ⟨fun n=>@Now _ σ.next ⟨fun m=>K (.ptr m 0) (σ.box c t n) true⟩⟩⟩⟩:=VS_zero t _
theorem VS_zeroI (t:TypeId) (j:IntKind) (n:Int):VS P k (.zero t (.int j n)) ρ σ K = @Now _ σ.next ⟨fun m=>K (.ptr m 0) (σ.box [.v (.int j n)] t 1) true⟩:=by rw [VS_zero];simp [Need,Now,flatL,flat1,Value.cells]
theorem VS_zeroB (t:TypeId) (b:Bool):VS P k (.zero t (.bool b)) ρ σ K = @Now _ σ.next ⟨fun m=>K (.ptr m 0) (σ.box [.v (.bool b)] t 1) true⟩:=by rw [VS_zero];simp [Need,Now,flatL,flat1,Value.cells]
theorem VS_zeroT (t:TypeId) (s:ByteArray):VS P k (.zero t (.string s)) ρ σ K = @Now _ σ.next ⟨fun m=>K (.ptr m 0) (σ.box [.v (.string s)] t 1) true⟩:=by rw [VS_zero];simp [Need,Now,flatL,flat1,Value.cells]
theorem VS_zeroS (t:TypeId):VS P k (.zero t (.slice none 0 0)) ρ σ K = @Now _ σ.next ⟨fun m=>K (.ptr m 0) (σ.box [.v (.slice none 0 0)] t 1) true⟩:=by rw [VS_zero];simp [Need,Now,flatL,flat1,Value.cells]
theorem VS_zeroP (t:TypeId):VS P k (.zero t (.pointer none)) ρ σ K = @Now _ σ.next ⟨fun m=>K (.ptr m 0) (σ.box [.v (.pointer none)] t 1) true⟩:=by rw [VS_zero];simp [Need,Now,flatL,flat1,Value.cells]
theorem VS_zeroM (t:TypeId):VS P k (.zero t (.map none)) ρ σ K = @Now _ σ.next ⟨fun m=>K (.ptr m 0) (σ.box [.v (.map none)] t 1) true⟩:=by rw [VS_zero];simp [Need,Now,flatL,flat1,Value.cells]
theorem VS_zeroF (t:TypeId):VS P k (.zero t .nilFunc) ρ σ K = @Now _ σ.next ⟨fun m=>K (.ptr m 0) (σ.box [.v .nilFunc] t 1) true⟩:=by rw [VS_zero];simp [Need,Now,flatL,flat1,Value.cells]
theorem VS_mkSlice (e:TypeId) (esz bytes:Nat) (z:List Value) (l c:Operand):VS P k (.mkSlice e esz bytes z l c) ρ σ K = @Now _ (ρ l) ⟨fun v=>@Now _ (ρ c) ⟨fun u=>@Got _ (vmk e esz bytes z v u σ) ⟨fun r=>K r.1 r.2 true⟩⟩⟩:=by rw [VS_gen2 rfl];rfl
theorem VS_store (sz:Nat) (a x:Operand):VS P (false,false) (.store sz a x) ρ σ K = @Now _ (ρ a) ⟨fun p=>@Now _ (ρ x) ⟨fun v=>@Got _ (vst σ sz p v) ⟨fun σ'=>K (.tup []) σ' false⟩⟩⟩:=by
 simp only [VS,Now,Got,true_and]
theorem VS_copy (esz:Nat) (d s:Operand):VS P (false,false) (.copy esz d s) ρ σ K = @Now _ (ρ d) ⟨fun v=>@Now _ (ρ s) ⟨fun u=>@Got _ (vcopy esz v u σ) ⟨fun r=>K r.1 r.2 false⟩⟩⟩:=by simp only [VS,Now,Got,true_and]
theorem VS_clr (esz:Nat) (z:List Value) (x:Operand):VS P (false,false) (.clr esz z x) ρ σ K = @Now _ (ρ x) ⟨fun v=>@Got _ (vclr esz z v σ) ⟨fun r=>K r.1 r.2 false⟩⟩:=by simp only [VS,Now,Got,true_and]
theorem VS_extra0 (e:EOp) (l:List Operand):VS P (false,false) (.extra e l) ρ σ K = @Now _ (l.map ρ) ⟨fun v=>@Got _ (vextra e v σ) ⟨fun r=>K r.1 r.2 (readsE e)⟩⟩:=by simp only [VS,Now,Got,or_true,true_and]
theorem VS_extraR (e:EOp) (l:List Operand) (h:readsE e=true):VS P k (.extra e l) ρ σ K = @Now _ (l.map ρ) ⟨fun v=>@Got _ (vextra e v σ) ⟨fun r=>K r.1 r.2 (readsE e)⟩⟩:=by simp only [VS,Now,Got,h,true_or,true_and]
theorem VS_extraL (ks:List Nat) (agg:Bool) (z:Value) (ok:Bool) (l:List Operand):VS P k (.extra (.lookup ks agg z ok) l) ρ σ K = @Now _ (l.map ρ) ⟨fun v=>@Got _ (vextra (.lookup ks agg z ok) v σ) ⟨fun r=>K r.1 r.2 true⟩⟩:=VS_extraR _ _ rfl
theorem VS_extraM (l:List Operand):VS P k (.extra .mapLen l) ρ σ K = @Now _ (l.map ρ) ⟨fun v=>@Got _ (vextra .mapLen v σ) ⟨fun r=>K r.1 r.2 true⟩⟩:=VS_extraR _ _ rfl
theorem VS_extraG (l:List Operand):VS P k (.extra .gload l) ρ σ K = @Now _ (l.map ρ) ⟨fun v=>@Got _ (vextra .gload v σ) ⟨fun r=>K r.1 r.2 true⟩⟩:=VS_extraR _ _ rfl
theorem VS_extraK (z:Value) (ok:Bool) (l:List Operand):VS P k (.extra (.lookG z ok) l) ρ σ K = @Now _ (l.map ρ) ⟨fun v=>@Got _ (vextra (.lookG z ok) v σ) ⟨fun r=>K r.1 r.2 true⟩⟩:=VS_extraR _ _ rfl
theorem VS_extraN (neg:Bool) (l:List Operand):VS P k (.extra (.nilF neg) l) ρ σ K = @Now _ (l.map ρ) ⟨fun v=>@Got _ (vextra (.nilF neg) v σ) ⟨fun r=>K r.1 r.2 true⟩⟩:=VS_extraR _ _ rfl
theorem VS_extraC (l:List Operand):VS P k (.extra .capNil l) ρ σ K = @Now _ (l.map ρ) ⟨fun v=>@Got _ (vextra .capNil v σ) ⟨fun r=>K r.1 r.2 true⟩⟩:=VS_extraR _ _ rfl
def VBuild (e:TypeId) (esz n:Nat) (z:List Value) (ps:List (Nat × Nat × VV)) [H:Hold (VSt × (VV→VSt→Bool→Prop))]:Prop:=
 (∃ r,vbs e esz n z ps H.it.1=some r∧H.it.2 r.1 r.2 true)∨(∃ r,vbsS e esz n z ps H.it.1=some r∧H.it.2 r.1 r.2 true)
theorem VS_buildSlice (e:TypeId) (esz n:Nat) (z:List Value) (parts:List (Nat × Nat × Operand)):VS P k (.buildSlice e esz n z parts) ρ σ K = @Now _ (parts.map fun p=>(p.1,p.2.1,ρ p.2.2)) ⟨fun ps=>@VBuild e esz n z ps ⟨(σ,K)⟩⟩:=Eq.trans rfl rfl
theorem VBuild.own {e:TypeId} {esz n:Nat} {z:List Value} {ps:List (Nat × Nat × VV)} {l:List VV} (h1:z.length=esz) (h2:vfill ((rep n z).map .v) ps=some l) (h3:vAll l=true) (hk:K (.own esz n (l.map VV.fg) σ.next) σ.newTok true):@VBuild e esz n z ps ⟨(σ,K)⟩:=
 .inl ⟨_,by unfold vbs;rw [if_pos h1,h2];simp only [Option.bind_some];rw [if_pos h3],hk⟩
theorem VBuild.row {e:TypeId} {esz n:Nat} {z:List Value} {ps:List (Nat × Nat × VV)} {l:List VV} (h1:z.length=esz) (h2:vfill ((rep n z).map .v) ps=some l) (h3:vAll l=true) (hk:K (.slice σ.next 0 n n) (σ.box l e esz) true):@VBuild e esz n z ps ⟨(σ,K)⟩:=
 .inr ⟨_,by unfold vbsS;rw [if_pos h1,h2];simp only [Option.bind_some];rw [if_pos h3],hk⟩
def VAppend (e:TypeId) (esz bytes:Nat) (s x:VV) [H:Hold ((Bool × Bool) × VSt × (VV→VSt→Bool→Prop))]:Prop:=
 (H.it.1.2=false∧∃ r,vapp esz bytes s x H.it.2.1=some r∧H.it.2.2 r.1 r.2 false)∨(H.it.1=(false,false)∧∃ r,vappS e esz bytes s x H.it.2.1=some r∧H.it.2.2 r.1 r.2 false)
theorem VS_append (e:TypeId) (esz bytes:Nat) (s x:Operand):VS P k (.append e esz bytes s x) ρ σ K = @Now _ (ρ s) ⟨fun v=>@Now _ (ρ x) ⟨fun u=>@VAppend e esz bytes v u ⟨(k,σ,K)⟩⟩⟩:=Eq.trans rfl rfl
theorem VAppend.own {e:TypeId} {esz bytes:Nat} {s x r:VV} {σ':VSt} {b:Bool} (h:vapp esz bytes s x σ=some (r,σ')) (hk:K r σ' false):@VAppend e esz bytes s x ⟨((b,false),σ,K)⟩:=.inl ⟨rfl,_,h,hk⟩
theorem VAppend.row {e:TypeId} {esz bytes:Nat} {s x r:VV} {σ':VSt} (h:vappS e esz bytes s x σ=some (r,σ')) (hk:K r σ' false):@VAppend e esz bytes s x ⟨((false,false),σ,K)⟩:=.inr ⟨rfl,_,h,hk⟩
def VEqs (neg:Bool) (x y:VV) [H:Hold (VSt × (VV→VSt→Bool→Prop))]:Prop:=
 (∃ v,veqs neg x y=some v∧H.it.2 v H.it.1 true)∨(x=.lst 0 []∧y=nilS∧H.it.2 (.v (.bool (notIf neg true))) H.it.1 true∧H.it.2 (.v (.bool (notIf neg false))) H.it.1 true)
theorem VS_eqs (neg:Bool) (x y:Operand):VS P k (.eqs neg x y) ρ σ K = @Now _ (ρ x) ⟨fun v=>@Now _ (ρ y) ⟨fun u=>@VEqs neg v u ⟨(σ,K)⟩⟩⟩:=Eq.trans rfl rfl
theorem VEqs_own (neg:Bool) (z n:Nat) (xs:List VV) (t:Nat):@VEqs neg (.own z n xs t) (.v (.slice none 0 0)) ⟨(σ,K)⟩=K (.v (.bool (notIf neg false))) σ true:=by simp [VEqs,veqs]
theorem VEqs_slice (neg:Bool) (id o n c:Nat):@VEqs neg (.slice id o n c) (.v (.slice none 0 0)) ⟨(σ,K)⟩=K (.v (.bool (notIf neg false))) σ true:=by simp [VEqs,veqs]
theorem VEqs_nil (neg:Bool):@VEqs neg (.v (.slice none 0 0)) (.v (.slice none 0 0)) ⟨(σ,K)⟩=K (.v (.bool (notIf neg true))) σ true:=by simp [VEqs,veqs]
theorem VEqs.lst {neg:Bool} {n:Nat} {xs:List VV} (hn:n=0→xs=[]) (h1:n=0→K (.v (.bool (notIf neg true))) σ true) (h2:K (.v (.bool (notIf neg false))) σ true):@VEqs neg (.lst n xs) (.v (.slice none 0 0)) ⟨(σ,K)⟩:=by
 by_cases h:n=0
 ·subst h
  exact .inr ⟨by rw [hn rfl],rfl,h1 rfl,h2⟩
 ·exact .inl ⟨_,by simp [veqs,h],h2⟩
theorem notIf_tt:notIf true true=false:=rfl
theorem notIf_tf:notIf true false=true:=rfl
theorem notIf_ff (b:Bool):notIf false b=b:=rfl
end
structure Sub (σ σ':VSt):Prop where
 next:σ.next≤σ'.next
 heap:∀ id,id<σ.next→σ'.heap id=σ.heap id
 live:∀ id,id<σ.next→σ'.live id=σ.live id
 low:σ'.low=σ.low
theorem Sub.refl (σ:VSt):Sub σ σ:=⟨Nat.le_refl _,fun _ _=>rfl,fun _ _=>rfl,rfl⟩
theorem Sub.trans {σ σ' σ'':VSt} (h:Sub σ σ') (k:Sub σ' σ''):Sub σ σ'':=
 ⟨Nat.le_trans h.next k.next,fun id hid=>(k.heap id (Nat.lt_of_lt_of_le hid h.next)).trans (h.heap id hid),fun id hid=>(k.live id (Nat.lt_of_lt_of_le hid h.next)).trans (h.live id hid),k.low.trans h.low⟩
theorem Sub.box (σ:VSt) (c:List VV) (t:TypeId) (z:Nat):Sub σ (σ.box c t z):=
 ⟨by simp [VSt.box,VSt.alloc],fun id hid=>by simp only [VSt.box,VSt.alloc];rw [if_neg (by omega)],fun _ _=>rfl,rfl⟩
theorem Sub.newTok (σ:VSt):Sub σ σ.newTok:=
 ⟨by simp [VSt.newTok],fun id hid=>rfl,fun _ _=>by simp only [VSt.newTok];rw [if_neg (by omega)],rfl⟩
theorem VG.frame {g:Go.Fn} {args:List VV} {Q:VV→VSt→Prop} (h:VG P g args σ Q):VG P g args σ (fun v σ'=>Q v σ'∧σ.next≤σ'.next∧σ.low≤σ.next∧(∀ id,id<σ.next→id<σ'.low→σ'.heap id=σ.heap id∧σ'.live id=σ.live id)∧σ'.low≤σ.next):=fun S args' h1 h2=>by
 refine XG.mono (h S args' h1 h2) ?_
 rintro v' S' ⟨v,σ',k1,k2,k3,k4⟩
 exact ⟨v,σ',k1,k2,k3,k4,k2.next,h1.low,fun id a b=>⟨(k2.keep id a b).1,(k2.keep id a b).2.1⟩,k2.low⟩
theorem VCall.pure {f:FuncId} {args:List VV} {k:Bool × Bool} {K:VV→VSt→Bool→Prop} {Q:VV→VSt→Prop} (h:VC P f args σ (fun v σ'=>σ.next≤σ'.low∧Q v σ')) (hj:∀ v σ',Q v σ'→Q v (σ.join σ')) (hq:∀ v σ',Q v σ'→Sub σ σ'→K v σ' true):@VCall P _ f args ⟨(k,σ,K)⟩:=by
 show VCK P k (.func f) args σ K
 refine VG.mono (VG.frame h) ?_
 rintro v σ' ⟨⟨h1,h2⟩,h3,h4,h5,h6⟩
 refine ⟨true,fun _=>h1,fun _=>rfl,hq _ _ (hj _ _ h2) ⟨h3,fun id hid=>(h5 id hid (by omega)).1,fun id hid=>(h5 id hid (by omega)).2,?_⟩⟩
 simp only [VSt.join]
 omega
theorem VCall.any {f:FuncId} {args:List VV} {K:VV→VSt→Bool→Prop} {Q:VV→VSt→Prop} (h:VC P f args σ Q) (hq:∀ v σ',Q v σ'→σ.next≤σ'.next→(∀ id,id<σ.next→id<σ'.low→σ'.heap id=σ.heap id∧σ'.live id=σ.live id)→K v (σ.join σ') false):@VCall P _ f args ⟨((false,false),σ,K)⟩:=by
 show VCK P (false,false) (.func f) args σ K
 refine VG.mono (VG.frame h) ?_
 rintro v σ' ⟨h2,h3,h4,h5,h6⟩
 exact ⟨false,fun h=>(by cases h),fun h=>(by cases h),hq _ _ h2 h3 h5⟩
theorem VCall_at {f:FuncId} {args:List VV} {k:Bool × Bool} {K:VV→VSt→Bool→Prop} (h:∀ σ',σ'=σ→@VCall P _ f args ⟨(k,σ',K)⟩):@VCall P _ f args ⟨(k,σ,K)⟩:=h σ rfl
theorem VLoop_at {c:XCode} {Q:Ex→FV→VSt→Prop} (h:∀ σ',σ'=σ→@VLoop P _ ⟨(c,fe,σ',Q)⟩):@VLoop P _ ⟨(c,fe,σ,Q)⟩:=h σ rfl
def Fg (a b:VV):Prop:=b=a∨b=a.fg
def FgL:List VV→List VV→Prop
 | [],[]=>True
 | a::r,b::s=>Fg a b∧FgL r s
 | _,_=>False
theorem FgL.rel {G:Nat→Prop} {S:St}:∀ {a b:List VV} {l:List Value},FgL a b→VRelL G S a l→VRelL G S b l:=by
 intro a
 induction a with
 | nil=>intro b l h hr;cases b with
  | nil=>exact hr
  | cons _ _=>cases h
 | cons x a ih=>
  intro b l h hr
  match b,l,h,hr with
  | [],_,h,_=>cases h
  | y::b,[],_,hr=>exact absurd hr.1 (by simp)
  | y::b,u::l,h,hr=>
   have hx:VRel G S x u:=hr.2 0 (by simp) (by simp)
   refine .cons ?_ (ih h.2 ⟨by simpa using hr.1,fun i h1 h2=>hr.2 (i+1) (by simpa using h1) (by simpa using h2)⟩)
   rcases h.1 with rfl | rfl
   ·exact hx
   ·exact hx.fg
theorem VG.fg {g:Go.Fn} {args args2:List VV} {Q:VV→VSt→Prop} (hf:FgL args args2) (h:VG P g args2 σ Q):VG P g args σ Q:=fun S args' h1 h2=>h S args' h1 (hf.rel h2)
theorem VC.fg {f:FuncId} {args args2:List VV} {Q:VV→VSt→Prop} (hf:FgL args args2) (h:VC P f args2 σ Q):VC P f args σ Q:=VG.fg hf h
end
theorem flatL_int (j:IntKind) (n:Int) (l:List Value):flatL (.int j n::l)=flatL l:=Eq.trans rfl rfl
theorem flatL_bool (b:Bool) (l:List Value):flatL (.bool b::l)=flatL l:=Eq.trans rfl rfl
theorem flatL_str (s:ByteArray) (l:List Value):flatL (.string s::l)=flatL l:=Eq.trans rfl rfl
theorem flatL_slice (l:List Value):flatL (.slice none 0 0::l)=flatL l:=Eq.trans rfl rfl
theorem flatL_ptr (l:List Value):flatL (.pointer none::l)=flatL l:=Eq.trans rfl rfl
theorem flatL_map (l:List Value):flatL (.map none::l)=flatL l:=Eq.trans rfl rfl
theorem flatL_fn (l:List Value):flatL (.nilFunc::l)=flatL l:=Eq.trans rfl rfl
theorem flatL_nil:flatL []=true:=Eq.trans rfl rfl
theorem vfill_nil (l:List VV):vfill l []=some l:=Eq.trans rfl rfl
theorem vfill_cons (l:List VV) (o s:Nat) (v:VV) (r:List (Nat × Nat × VV)):vfill l ((o,s,v)::r)=if v.cs.length=s∧o+s≤l.length then vfill (vsplice l o v.cs) r else none:=Eq.trans rfl rfl
theorem vbin_v (op:BinOp) (a b:Value):vbin op (.v a) (.v b)=(xbin op a b).map .v:=Eq.trans rfl rfl
theorem vbin_add (a b:Int):vbin .add (vi a) (vi b)=some (vi (w64 (a+b))):=Eq.trans rfl rfl
theorem vbin_sub (a b:Int):vbin .sub (vi a) (vi b)=some (vi (w64 (a-b))):=Eq.trans rfl rfl
theorem vbin_mul (a b:Int):vbin .mul (vi a) (vi b)=some (vi (w64 (a*b))):=Eq.trans rfl rfl
theorem vbin_quo (a b:Int) (h:b≠0):vbin .quo (vi a) (vi b)=some (vi (w64 (a.tdiv b))):=by rw [vbin_v,xbin_quo a b h];rfl
theorem vbin_rem (a b:Int) (h:b≠0):vbin .rem (vi a) (vi b)=some (vi (a.tmod b)):=by rw [vbin_v,xbin_rem a b h];rfl
theorem vbin_eql (a b:Int):vbin .eql (vi a) (vi b)=some (vb (decide (a=b))):=by rw [vbin_v,xbin_eql];rfl
theorem vbin_neq (a b:Int):vbin .neq (vi a) (vi b)=some (vb (decide (a≠b))):=by rw [vbin_v,xbin_neq];rfl
theorem vbin_lss (a b:Int):vbin .lss (vi a) (vi b)=some (vb (decide (a<b))):=Eq.trans rfl rfl
theorem vbin_leq (a b:Int):vbin .leq (vi a) (vi b)=some (vb (decide (a≤b))):=Eq.trans rfl rfl
theorem vbin_gtr (a b:Int):vbin .gtr (vi a) (vi b)=some (vb (decide (a > b))):=Eq.trans rfl rfl
theorem vbin_geq (a b:Int):vbin .geq (vi a) (vi b)=some (vb (decide (a ≥ b))):=Eq.trans rfl rfl
theorem vmm_min (a b:Int):vmm false (vi a) [vi b]=some (vi (if b<a then b else a)):=Eq.trans rfl rfl
theorem vmm_max (a b:Int):vmm true (vi a) [vi b]=some (vi (if b > a then b else a)):=Eq.trans rfl rfl
theorem vun_not (b:Bool):vun .not (vb b)=some (vb !b):=Eq.trans rfl rfl
theorem vun_neg (n:Int):vun .neg (vi n)=some (vi (w64 (0-n))):=Eq.trans rfl rfl
theorem vpick_t (a b:VV):vpick (.v (.bool true)) a b=some a:=Eq.trans rfl rfl
theorem vpick_f (a b:VV):vpick (.v (.bool false)) a b=some b:=Eq.trans rfl rfl
theorem veqb_b (neg a b:Bool):veqb neg (vb a) (vb b)=some (vb (notIf neg (a==b))):=Eq.trans rfl rfl
theorem vadd_ptr (id o off:Nat):vadd (.ptr id o) off=some (.ptr id (o+off)):=Eq.trans rfl rfl
theorem vadd_ep (xs:List VV) (o off:Nat):vadd (.ep xs o) off=some (.ep xs (o+off)):=Eq.trans rfl rfl
theorem vnilck_ptr (id o:Nat):vnilck (.ptr id o)=some (.ptr id o):=Eq.trans rfl rfl
theorem vnilck_ep (xs:List VV) (o:Nat):vnilck (.ep xs o)=some (.ep xs o):=Eq.trans rfl rfl
theorem vnilck_fn (f:FuncId) (a b:List VV):vnilck (.fn f a b)=some (.fn f a b):=Eq.trans rfl rfl
theorem vext_zero (a:VV) (l:List VV):vext (.tup (a::l)) 0=some a:=Eq.trans rfl rfl
theorem vext_one (a b:VV) (l:List VV):vext (.tup (a::b::l)) 1=some b:=Eq.trans rfl rfl
theorem vext_two (a b c:VV) (l:List VV):vext (.tup (a::b::c::l)) 2=some c:=Eq.trans rfl rfl
theorem vext_three (a b c d:VV) (l:List VV):vext (.tup (a::b::c::d::l)) 3=some d:=Eq.trans rfl rfl
theorem vlenv_slice (id o n c:Nat):vlenv (.slice id o n c)=some (vi n):=Eq.trans rfl rfl
theorem vlenv_nil:vlenv (.v (.slice none 0 0))=some (vi 0):=Eq.trans rfl rfl
theorem vAll_v (x:Value) (l:List VV):vAll (.v x::l)=vAll l:=Eq.trans rfl rfl
theorem vAll_lst (n:Nat) (xs l:List VV):vAll (.lst n xs::l)=vAll l:=Eq.trans rfl rfl
theorem vAll_own (z n:Nat) (xs:List VV) (t:Nat) (l:List VV):vAll (.own z n xs t::l)=vAll l:=Eq.trans rfl rfl
theorem vAll_slice (id o n c:Nat) (l:List VV):vAll (.slice id o n c::l)=vAll l:=Eq.trans rfl rfl
theorem vAll_ptr (id o:Nat) (l:List VV):vAll (.ptr id o::l)=vAll l:=Eq.trans rfl rfl
theorem vAll_map (id:Nat) (l:List VV):vAll (.map id::l)=vAll l:=Eq.trans rfl rfl
theorem vAll_fn (f:FuncId) (a b l:List VV):vAll (.fn f a b::l)=vAll l:=Eq.trans rfl rfl
theorem vAll_nil:vAll []=true:=Eq.trans rfl rfl
theorem vAll_append (a b:List VV):vAll (a++b)=(vAll a&&vAll b):=by simp [vAll]
theorem cs_agg (l:List VV):(VV.agg l).cs=l:=Eq.trans rfl rfl
theorem cs_v (x:Value):(VV.v x).cs=[.v x]:=Eq.trans rfl rfl
theorem cs_lst (n:Nat) (xs:List VV):(VV.lst n xs).cs=[.lst n xs]:=Eq.trans rfl rfl
theorem cs_own (z n:Nat) (xs:List VV) (t:Nat):(VV.own z n xs t).cs=[.own z n xs t]:=Eq.trans rfl rfl
theorem cs_slice (id o n c:Nat):(VV.slice id o n c).cs=[.slice id o n c]:=Eq.trans rfl rfl
theorem cs_ptr (id o:Nat):(VV.ptr id o).cs=[.ptr id o]:=Eq.trans rfl rfl
theorem cs_map (id:Nat):(VV.map id).cs=[.map id]:=Eq.trans rfl rfl
theorem cs_fn (f:FuncId) (a b:List VV):(VV.fn f a b).cs=[.fn f a b]:=Eq.trans rfl rfl
theorem vpart_agg (l:List VV):vpart true l=some (.agg l):=Eq.trans rfl rfl
theorem vpart_one (x:VV):vpart false [x]=some x:=Eq.trans rfl rfl
def vrdB (b:VB) (agg:Bool) (o sz:Nat):Option VV:=match b with
 | .cells c _ _ _=>if o+sz≤c.length then vpart agg ((c.drop o).take sz) else none
 | _=>none
theorem vld_ptr (σ:VSt) (agg:Bool) (sz id o:Nat):vld σ agg sz (.ptr id o)=vrdB (σ.heap id) agg o sz:=Eq.trans rfl rfl
theorem vrdB_cells (c:List VV) (t:TypeId) (z b:Nat) (agg:Bool) (o sz:Nat):vrdB (.cells c t z b) agg o sz=if o+sz≤c.length then vpart agg ((c.drop o).take sz) else none:=Eq.trans rfl rfl
def vstB (σ:VSt) (id sz o:Nat) (cs:List VV) (b:VB):Option VSt:=match b with
 | .cells c t z b=>if cs.length=sz∧o+sz≤c.length∧vAll cs=true then some (σ.write id (vsplice c o cs) t z b) else none
 | _=>none
theorem vst_ptr (σ:VSt) (sz id o:Nat) (x:VV):vst σ sz (.ptr id o) x=vstB σ id sz o x.cs (σ.heap id):=Eq.trans rfl rfl
theorem vstB_cells (σ:VSt) (id sz o:Nat) (cs c:List VV) (t:TypeId) (z b:Nat):vstB σ id sz o cs (.cells c t z b)=if cs.length=sz∧o+sz≤c.length∧vAll cs=true then some (σ.write id (vsplice c o cs) t z b) else none:=Eq.trans rfl rfl
theorem heap_box (σ:VSt) (c:List VV) (t:TypeId) (z j:Nat):(σ.box c t z).heap j=if j=σ.next then .cells c t z σ.next else σ.heap j:=Eq.trans rfl rfl
theorem heap_box_self (σ:VSt) (c:List VV) (t:TypeId) (z:Nat):(σ.box c t z).heap σ.next=.cells c t z σ.next:=by rw [heap_box,if_pos rfl]
theorem heap_write (σ:VSt) (id:Nat) (c:List VV) (t:TypeId) (z b j:Nat):(σ.write id c t z b).heap j=if j=id then .cells c t z b else σ.heap j:=Eq.trans rfl rfl
theorem heap_write_self (σ:VSt) (id:Nat) (c:List VV) (t:TypeId) (z b:Nat):(σ.write id c t z b).heap id=.cells c t z b:=by rw [heap_write,if_pos rfl]
theorem heap_write_ne (σ:VSt) (id:Nat) (c:List VV) (t:TypeId) (z b j:Nat) (h:j≠id):(σ.write id c t z b).heap j=σ.heap j:=by rw [heap_write,if_neg h]
theorem heap_newTok (σ:VSt):σ.newTok.heap=σ.heap:=Eq.trans rfl rfl
theorem heap_fresh (σ:VSt):σ.fresh.heap=σ.heap:=Eq.trans rfl rfl
theorem next_box (σ:VSt) (c:List VV) (t:TypeId) (z:Nat):(σ.box c t z).next=σ.next+1:=Eq.trans rfl rfl
theorem next_write (σ:VSt) (id:Nat) (c:List VV) (t:TypeId) (z b:Nat):(σ.write id c t z b).next=σ.next:=Eq.trans rfl rfl
theorem next_newTok (σ:VSt):σ.newTok.next=σ.next+1:=Eq.trans rfl rfl
theorem next_useTok (σ:VSt) (t:Nat):(σ.useTok t).next=σ.next+1:=Eq.trans rfl rfl
theorem next_fresh (σ:VSt):σ.fresh.next=σ.next:=Eq.trans rfl rfl
theorem low_box (σ:VSt) (c:List VV) (t:TypeId) (z:Nat):(σ.box c t z).low=σ.low:=Eq.trans rfl rfl
theorem low_write (σ:VSt) (id:Nat) (c:List VV) (t:TypeId) (z b:Nat):(σ.write id c t z b).low=min σ.low b:=Eq.trans rfl rfl
theorem low_newTok (σ:VSt):σ.newTok.low=σ.low:=Eq.trans rfl rfl
theorem low_fresh (σ:VSt):σ.fresh.low=σ.next:=Eq.trans rfl rfl
end Go.Proofs.YtghcggoodgfaoaaGreatDoor

set_option linter.unusedVariables false
set_option linter.unusedSectionVars false
set_option linter.unusedSimpArgs false
namespace Go.Proofs.YtghcggoodgfaoaaGreatDoor
open Go Go.RowKit
class VEnc (α:Type) where
 w:Nat
 e:α→List VV
 len:∀ a,(e a).length=w
 all:∀ a,vAll (e a)=true
 fgd:∀ a,(e a).map VV.fg=e a
 pos:0<w
section
variable {α:Type} [VEnc α]
def vencs (l:List α):List VV:=l.flatMap VEnc.e
theorem vencs_nil:vencs ([]:List α)=[]:=rfl
theorem vencs_cons (a:α) (l:List α):vencs (a::l)=VEnc.e a++vencs l:=rfl
theorem vencs_append (l m:List α):vencs (l++m)=vencs l++vencs m:=by simp [vencs]
theorem vencs_one (a:α):vencs [a]=VEnc.e a:=by simp [vencs]
theorem vencs_length (l:List α):(vencs l).length=l.length*VEnc.w α:=by
 induction l with
 | nil=>simp [vencs_nil]
 | cons a l ih=>rw [vencs_cons,List.length_append,ih,VEnc.len,List.length_cons,Nat.add_mul];omega
theorem vencs_fg (l:List α):(vencs l).map VV.fg=vencs l:=by
 induction l with
 | nil=>rfl
 | cons a l ih=>rw [vencs_cons,List.map_append,ih,VEnc.fgd]
theorem vencs_all (l:List α):vAll (vencs l)=true:=by
 induction l with
 | nil=>rfl
 | cons a l ih=>rw [vencs_cons,vAll_append,ih,VEnc.all];rfl
theorem vencs_drop (l:List α) (i:Nat):(vencs l).drop (i*VEnc.w α)=vencs (l.drop i):=by
 induction i generalizing l with
 | zero=>simp
 | succ i ih=>
  cases l with
  | nil=>simp [vencs_nil]
  | cons a l=>
   simp only [vencs_cons,List.drop_succ_cons]
   rw [show (i+1)*VEnc.w α=(VEnc.e a).length+i*VEnc.w α by rw [VEnc.len,Nat.add_mul];omega,List.drop_append,List.drop_eq_nil_of_le (by omega)]
   simp [ih]
theorem vencs_take (l:List α) (i:Nat):(vencs l).take (i*VEnc.w α)=vencs (l.take i):=by
 induction i generalizing l with
 | zero=>simp [vencs_nil]
 | succ i ih=>
  cases l with
  | nil=>simp [vencs_nil]
  | cons a l=>
   simp only [vencs_cons,List.take_succ_cons]
   rw [show (i+1)*VEnc.w α=(VEnc.e a).length+i*VEnc.w α by rw [VEnc.len,Nat.add_mul];omega,List.take_append,List.take_of_length_le (by omega)]
   simp [ih]
theorem vencs_part (l:List α) (i:Nat) (hi:i<l.length) (off sz:Nat) (h:off+sz≤VEnc.w α):((vencs l).drop (i*VEnc.w α+off)).take sz=((VEnc.e l[i]).drop off).take sz:=by
 rw [← List.drop_drop,vencs_drop,List.drop_eq_getElem_cons hi,vencs_cons,List.drop_append,List.take_append,VEnc.len]
 have h0:((VEnc.e l[i]).drop off).length=VEnc.w α-off:=by simp [VEnc.len]
 rw [h0,show sz-(VEnc.w α-off)=0 by omega]
 simp
def vl (l:List α):VV:=.lst l.length (vencs l)
def vo (l:List α) (t:Nat):VV:=.own (VEnc.w α) l.length (vencs l) t
def vep (l:List α) (i o:Nat):VV:=.ep (vencs l) (i*VEnc.w α+o)
theorem fg_vl (l:List α):(vl l).fg=vl l:=by simp only [vl,VV.fg,vencs_fg]
theorem fg_vo (l:List α) (t:Nat):(vo l t).fg=vl l:=by simp only [vl,vo,VV.fg,vencs_fg]
theorem len_vl (l:List α):vlenv (vl l)=some (vi l.length):=Eq.trans rfl rfl
theorem len_vo (l:List α) (t:Nat):vlenv (vo l t)=some (vi l.length):=Eq.trans rfl rfl
theorem via_vl {l:List α} {i:Nat} (h:i<l.length) {esz:Nat} (hw:esz=VEnc.w α):via esz (vl l) (vi i)=some (vep l i 0):=by
 subst hw
 unfold vl via vep
 simp only
 rw [if_pos ⟨by omega,by omega,vencs_length l⟩]
 simp
theorem via_vo {l:List α} {t:Nat} {i:Nat} (h:i<l.length) {esz:Nat} (hw:esz=VEnc.w α):via esz (vo l t) (vi i)=some (vep l i 0):=by
 subst hw
 unfold vo via vep
 simp only
 rw [if_pos ⟨by omega,by omega,vencs_length l⟩]
 simp
theorem vadd_vep (l:List α) (i o off:Nat):vadd (vep l i o) off=some (vep l i (o+off)):=by unfold vep vadd;simp [Nat.add_assoc]
theorem vld_vep {σ:VSt} {agg:Bool} {sz:Nat} {l:List α} {i o:Nat} (h:i<l.length) (hw:o+sz≤VEnc.w α):vld σ agg sz (vep l i o)=vpart agg (((VEnc.e l[i]).drop o).take sz):=by
 unfold vep vld
 have hm:i*VEnc.w α+VEnc.w α≤l.length*VEnc.w α:=by
  have:=Nat.mul_le_mul_right (VEnc.w α) (show i+1≤l.length by omega)
  rw [Nat.add_mul]at this;omega
 simp only
 rw [if_pos (by rw [vencs_length];omega),vencs_part l i h o sz hw]
theorem vnilck_vep (l:List α) (i o:Nat):vnilck (vep l i o)=some (vep l i o):=Eq.trans rfl rfl
theorem VLow_vep (l:List α) (i o n0:Nat) (K:Prop):@VLow (vep l i o) n0 true ⟨K⟩=K:=VLow_ep _ _ _ _
theorem VLow_vl (l:List α) (n0:Nat) (K:Prop):@VLow (vl l) n0 true ⟨K⟩=K:=VLow_lst _ _ _ _
theorem VLow_vo (l:List α) (t n0:Nat) (K:Prop):@VLow (vo l t) n0 true ⟨K⟩=K:=VLow_own _ _ _ _ _ _
theorem vcont_vl (σ:VSt) (l:List α) {esz:Nat} (hw:esz=VEnc.w α):vcont σ esz (vl l)=some (l.length,vencs l):=by subst hw;simp only [vl,vcont,vencs_length,if_true]
theorem vcont_vo (σ:VSt) (l:List α) (t:Nat) {esz:Nat} (hw:esz=VEnc.w α):vcont σ esz (vo l t)=some (l.length,vencs l):=by subst hw;simp only [vo,vcont,vencs_length,if_true]
theorem cs_vl (l:List α):(vl l).cs=[vl l]:=Eq.trans rfl rfl
theorem cs_vo (l:List α) (t:Nat):(vo l t).cs=[vo l t]:=Eq.trans rfl rfl
theorem vAll_vl (l:List α) (m:List VV):vAll (vl l::m)=vAll m:=Eq.trans rfl rfl
theorem vAll_vo (l:List α) (t:Nat) (m:List VV):vAll (vo l t::m)=vAll m:=Eq.trans rfl rfl
theorem vsl_vl {σ:VSt} {l:List α} {esz:Nat} {lo hi:Option VV} {a b:Nat} (hw:esz=VEnc.w α) (h1:vbound lo 0=some a) (h2:vbound hi l.length=some b) (hab:a≤b) (hb:b≤l.length):vsl σ esz (vl l) lo hi=some (vl ((l.take b).drop a)):=by
 subst hw
 unfold vl vsl
 simp only [h1,h2]
 rw [if_pos ⟨hab,hb,vencs_length l⟩]
 have e:((vencs l).drop (a*VEnc.w α)).take ((b-a)*VEnc.w α)=vencs ((l.take b).drop a):=by
  rw [vencs_drop,vencs_take]
  congr 1
  rw [List.drop_take]
 rw [e]
 simp [List.length_drop,List.length_take,Nat.min_eq_left hb]
theorem vbound_nat (a d:Nat):vbound (some (vi a)) d=some a:=by simp [vbound]
theorem vsl_hi {σ:VSt} {l:List α} {esz b:Nat} (hw:esz=VEnc.w α) (hb:b≤l.length):vsl σ esz (vl l) none (some (vi b))=some (vl (l.take b)):=by
 have:=vsl_vl (σ:=σ) (l:=l) (lo:=none) (hi:=some (vi b)) hw rfl (vbound_nat b _) (Nat.zero_le _) hb
 simpa using this
theorem vsl_lo {σ:VSt} {l:List α} {esz a:Nat} (hw:esz=VEnc.w α) (ha:a≤l.length):vsl σ esz (vl l) (some (vi a)) none=some (vl (l.drop a)):=by
 have:=vsl_vl (σ:=σ) (l:=l) (lo:=some (vi a)) (hi:=none) hw (vbound_nat a _) rfl ha (Nat.le_refl _)
 simpa using this
theorem vsl_lohi {σ:VSt} {l:List α} {esz a b:Nat} (hw:esz=VEnc.w α) (hab:a≤b) (hb:b≤l.length):vsl σ esz (vl l) (some (vi a)) (some (vi b))=some (vl ((l.take b).drop a)):=
 vsl_vl hw (vbound_nat a _) (vbound_nat b _) hab hb
def App (σ:VSt) (b:Nat) (v:VV) (l:List α):Prop:=(v=.v (.slice none 0 0)∧l=[])∨∃ t,v=vo l t∧σ.live t=true∧b≤t∧t<σ.next
theorem App.nil (σ:VSt) (b:Nat):App σ b (.v (.slice none 0 0)) ([]:List α):=.inl ⟨rfl,rfl⟩
theorem App.fg {σ:VSt} {b:Nat} {v:VV} {l:List α} (h:App σ b v l):v.fg=vl l:=by
 rcases h with ⟨rfl,rfl⟩|⟨t,rfl,_⟩
 ·rw [VV.fg];rfl
 ·exact fg_vo _ _
theorem App.weak {σ:VSt} {b b':Nat} {v:VV} {l:List α} (h:App σ b v l) (hb:b'≤b):App σ b' v l:=by
 rcases h with h | ⟨t,h1,h2,h3,h4⟩
 ·exact .inl h
 ·exact .inr ⟨t,h1,h2,by omega,h4⟩
theorem App.keep {σ σ':VSt} {b:Nat} {v:VV} {l:List α} (h:App σ b v l) (hn:σ.next≤σ'.next) (hl:∀ t,t<σ.next→b≤t→σ'.live t=σ.live t):App σ' b v l:=by
 rcases h with h | ⟨t,h1,h2,h3,h4⟩
 ·exact .inl h
 ·exact .inr ⟨t,h1,by rw [hl t h4 h3];exact h2,h3,by omega⟩
theorem App.sub {σ σ':VSt} {b:Nat} {v:VV} {l:List α} (h:App σ b v l) (k:Sub σ σ'):App σ' b v l:=h.keep k.next fun t ht _=>k.live t ht
theorem App.cs {σ:VSt} {b:Nat} {v:VV} {l:List α} (h:App σ b v l):v.cs=[v]:=by
 rcases h with ⟨rfl,rfl⟩|⟨t,rfl,_⟩<;>rfl
theorem App.all {σ:VSt} {b:Nat} {v:VV} {l:List α} (h:App σ b v l) (m:List VV):vAll (v::m)=vAll m:=by
 rcases h with ⟨rfl,rfl⟩|⟨t,rfl,_⟩<;>rfl
theorem App.len {σ:VSt} {b:Nat} {v:VV} {l:List α} (h:App σ b v l):vlenv v=some (vi l.length):=by
 rcases h with ⟨rfl,rfl⟩|⟨t,rfl,_⟩<;>rfl
theorem App.via {σ:VSt} {b:Nat} {v:VV} {l:List α} (h:App σ b v l) {i:Nat} (hi:i<l.length) {esz:Nat} (hw:esz=VEnc.w α):Go.Proofs.YtghcggoodgfaoaaGreatDoor.via esz v (vi i)=some (vep l i 0):=by
 rcases h with ⟨rfl,rfl⟩|⟨t,rfl,_⟩
 ·exact absurd hi (by simp)
 ·exact via_vo hi hw
theorem App.cont {σ:VSt} {b:Nat} {v:VV} {l:List α} (h:App σ b v l) (σ':VSt) {esz:Nat} (hw:esz=VEnc.w α):vcont σ' esz v=some (l.length,vencs l):=by
 rcases h with ⟨rfl,rfl⟩|⟨t,rfl,_⟩
 ·rfl
 ·exact vcont_vo _ _ _ hw
def Rd (v:VV) (l:List α):Prop:=(v=.v (.slice none 0 0)∧l=[])∨(∃ t,v=vo l t)∨v=vl l
theorem App.rd {σ:VSt} {b:Nat} {v:VV} {l:List α} (h:App σ b v l):Rd v l:=by
 rcases h with h | ⟨t,h,_⟩
 ·exact .inl h
 ·exact .inr (.inl ⟨t,h⟩)
theorem Rd.vl (l:List α):Rd (Go.Proofs.YtghcggoodgfaoaaGreatDoor.vl l) l:=.inr (.inr rfl)
theorem Rd.fg {v:VV} {l:List α} (h:Rd v l):v.fg=Go.Proofs.YtghcggoodgfaoaaGreatDoor.vl l:=by
 rcases h with ⟨rfl,rfl⟩|⟨t,rfl⟩ | rfl
 ·rw [VV.fg];rfl
 ·exact fg_vo _ _
 ·exact fg_vl _
theorem Rd.cs {v:VV} {l:List α} (h:Rd v l):v.cs=[v]:=by
 rcases h with ⟨rfl,rfl⟩|⟨t,rfl⟩ | rfl<;>rfl
theorem Rd.all {v:VV} {l:List α} (h:Rd v l) (m:List VV):vAll (v::m)=vAll m:=by
 rcases h with ⟨rfl,rfl⟩|⟨t,rfl⟩ | rfl<;>rfl
theorem Rd.len {v:VV} {l:List α} (h:Rd v l):vlenv v=some (vi l.length):=by
 rcases h with ⟨rfl,rfl⟩|⟨t,rfl⟩ | rfl<;>rfl
theorem Rd.via {v:VV} {l:List α} (h:Rd v l) {i:Nat} (hi:i<l.length) {esz:Nat} (hw:esz=VEnc.w α):Go.Proofs.YtghcggoodgfaoaaGreatDoor.via esz v (vi i)=some (vep l i 0):=by
 rcases h with ⟨rfl,rfl⟩|⟨t,rfl⟩ | rfl
 ·exact absurd hi (by simp)
 ·exact via_vo hi hw
 ·exact via_vl hi hw
theorem Rd.cont {v:VV} {l:List α} (h:Rd v l) (σ':VSt) {esz:Nat} (hw:esz=VEnc.w α):vcont σ' esz v=some (l.length,vencs l):=by
 rcases h with ⟨rfl,rfl⟩|⟨t,rfl⟩ | rfl
 ·rfl
 ·exact vcont_vo _ _ _ hw
 ·exact vcont_vl _ _ hw
structure Pushed (σ:VSt) (b:Nat) (σ':VSt):Prop where
 heap:σ'.heap=σ.heap
 next:σ.next≤σ'.next
 low:min σ.low b≤σ'.low
 low':σ'.low≤σ.low
theorem App.push {σ:VSt} {b:Nat} {v x:VV} {l m:List α} (h:App σ b v l) {esz bytes:Nat} (hx:vcont σ esz x=some (m.length,vencs m)) (hw:esz=VEnc.w α) (hr:(l.length+m.length)*bytes≤reach) (hb:0<bytes) (hbn:b≤σ.next) :
  ∃ r σ',vapp esz bytes v x σ=some (r,σ')∧App σ' b r (l++m)∧Pushed σ b σ'∧∀ t,t<b→σ'.live t=σ.live t:=by
 subst hw
 unfold vapp
 rw [hx]
 simp only [Option.bind_some]
 by_cases hm:m.length=0
 ·obtain rfl:m=[]:=List.eq_nil_of_length_eq_zero hm
  rcases h with ⟨rfl,rfl⟩|⟨t,rfl,h1,h2,h3⟩
  ·exact ⟨_,σ,rfl,.inl ⟨rfl,rfl⟩,⟨rfl,Nat.le_refl _,by omega,Nat.le_refl _⟩,fun _ _=>rfl⟩
  ·exact ⟨_,σ,rfl,.inr ⟨t,by rw [List.append_nil];rfl,h1,h2,h3⟩,⟨rfl,Nat.le_refl _,by omega,Nat.le_refl _⟩,fun _ _=>rfl⟩
 ·rw [if_neg hm,if_pos (by simp [vencs_all,VEnc.pos,hb])]
  rcases h with ⟨rfl,rfl⟩|⟨t,rfl,h1,h2,h3⟩
  ·simp only
   rw [if_pos (by simpa using hr)]
   refine ⟨_,_,rfl,.inr ⟨σ.next,by rw [vencs_fg];rfl,by simp [VSt.newTok],hbn,by simp [VSt.newTok]⟩,⟨rfl,by simp [VSt.newTok],by simp only [VSt.newTok];omega,Nat.le_refl _⟩,fun t ht=>?_⟩
   simp only [VSt.newTok]
   rw [if_neg (by omega)]
  ·unfold vo
   simp only
   rw [if_pos ⟨h1,trivial,hr⟩]
   refine ⟨_,_,rfl,.inr ⟨σ.next,by unfold vo;rw [vencs_fg,vencs_append,List.length_append],by simp [VSt.useTok],hbn,by simp [VSt.useTok]⟩,⟨rfl,by simp [VSt.useTok],by simp only [VSt.useTok];omega,by simp only [VSt.useTok];omega⟩,fun t' ht=>?_⟩
   simp only [VSt.useTok]
   rw [if_neg (by omega),if_neg (by omega)]
end
theorem fg_v (x:Value) (h:∀ n c,x≠.slice none n c):(VV.v x).fg=.v x:=by
 rw [VV.fg]
 unfold fgv
 split
 ·exact absurd rfl (h _ _)
 ·rfl
theorem fg_int (k:IntKind) (n:Int):(VV.v (.int k n)).fg=.v (.int k n):=fg_v _ (by simp)
theorem fg_bool (b:Bool):(VV.v (.bool b)).fg=.v (.bool b):=fg_v _ (by simp)
theorem fg_str (s:ByteArray):(VV.v (.string s)).fg=.v (.string s):=fg_v _ (by simp)
theorem fg_nilS:(VV.v (.slice none 0 0)).fg=.lst 0 []:=by rw [VV.fg];rfl
instance encInt:VEnc Int:=⟨1,fun n=>[vi n],fun _=>rfl,fun _=>rfl,fun _=>by rw [List.map_cons,List.map_nil,fg_int],by decide⟩
instance encBool:VEnc Bool:=⟨1,fun n=>[vb n],fun _=>rfl,fun _=>rfl,fun _=>by rw [List.map_cons,List.map_nil,fg_bool],by decide⟩
theorem wInt:VEnc.w Int=1:=rfl
theorem eInt (n:Int):VEnc.e n=[vi n]:=rfl
theorem wBool:VEnc.w Bool=1:=rfl
theorem eBool (n:Bool):VEnc.e n=[vb n]:=rfl
section
variable {P:Program} [Prim P]
def VD (P:Program) [Prim P] (f:FuncId) (args:List VV) (x:VV):Prop:=∀ σ,VC P f args σ (fun r σ'=>σ.next≤σ'.low∧r.fg=x)
theorem VG.resFg {g:Go.Fn} {args:List VV} {σ:VSt} {Q:VV→VSt→Prop} (h:VG P g args σ Q):VG P g args σ (fun v σ'=>∃ v0,v=v0.fg∧Q v0 σ'):=fun S args' h1 h2=>by
 refine XG.mono (h S args' h1 h2) ?_
 rintro v' S' ⟨v,σ',k1,k2,k3,k4⟩
 exact ⟨v.fg,σ',k1,k2,k3.fg,v,rfl,k4⟩
theorem fg_agg (l:List VV):(VV.agg l).fg=.agg (l.map VV.fg):=by rw [VV.fg]
theorem fg_tup (l:List VV):(VV.tup l).fg=.tup (l.map VV.fg):=by rw [VV.fg]
theorem fg_ptr (id o:Nat):(VV.ptr id o).fg=.ptr id o:=by rw [VV.fg]
theorem fg_map (id:Nat):(VV.map id).fg=.map id:=by rw [VV.fg]
theorem fg_fn (f:FuncId) (a b:List VV):(VV.fn f a b).fg=.fn f a b:=by rw [VV.fg]
theorem fg_slice (id o n c:Nat):(VV.slice id o n c).fg=.slice id o n c:=by rw [VV.fg]
theorem Fg.rfl (a:VV):Fg a a:=.inl (Eq.refl a)
theorem Fg.of {a b:VV} (h:a.fg=b):Fg a b:=.inr h.symm
end
end Go.Proofs.YtghcggoodgfaoaaGreatDoor

set_option linter.unusedVariables false
set_option linter.unusedSectionVars false
namespace Go.Proofs.YtghcggoodgfaoaaGreatDoor
open Go Go.RowKit
def VSt.begin (S:St):VSt:=⟨fun _=>.gone,fun _=>false,S.next,S.next⟩
theorem VSim.begin (S:St):VSim (.begin S) S:=⟨rfl,fun _ _=>⟨rfl,rfl⟩,Nat.le_refl _,fun id h=>by cases h⟩
theorem vencs_encI (l:List Int):vencs l=(encs l).map VV.v:=by
 induction l with
 | nil=>rfl
 | cons a l ih=>rw [vencs_cons,ih];rfl
theorem encs_flatI (l:List Int):flatL (encs l)=true:=by
 induction l with
 | nil=>rfl
 | cons a l ih=>exact ih
theorem RdS.vl {S:St} {v:Value} {l:List Int} (h:RdS S v l):VRel (VSt.begin S).G S (vl l) v:=by
 rcases h with ⟨rfl,rfl⟩|⟨id,o,c,cc,t,mi,an,rfl,hc,hid,hg,hb,he⟩
 ·exact .lstNil
 ·have hw:Enc.w Int=1:=rfl
  rw [hw]at hg hb he
  rw [Nat.mul_one]at hb he
  have hlen:(vencs l).length=l.length:=by rw [vencs_length];exact Nat.mul_one _
  refine .lst 1 id o l.length c cc t (vencs l) ⟨hid,rfl⟩ (by rw [hg];rfl) hc (by rw [hlen,Nat.mul_one]) (by rw [hlen];exact hb) fun i h1 h2=>?_
  have hi:i<l.length:=by omega
  have e1:(vencs l)[i]? = some (.v cc[o+i]):=by
   rw [vencs_encI,← he,List.getElem?_map,List.getElem?_take,if_pos hi,List.getElem?_drop,List.getElem?_eq_getElem h2];rfl
  rw [List.getElem?_eq_getElem h1,Option.some.injEq]at e1
  rw [e1]
  refine .v _ ?_
  have:=encs_flatI l
  rw [← he]at this
  simp only [flatL,List.all_eq_true]at this
  refine this _ ?_
  have e2:((cc.drop o).take l.length)[i]? = some cc[o+i]:=by
   rw [List.getElem?_take,if_pos hi,List.getElem?_drop,List.getElem?_eq_getElem h2]
  exact List.mem_of_getElem? e2
theorem VRel.int {G:Nat→Prop} {S:St} (n:Int):VRel G S (vi n) (.int .i64 n):=.v _ rfl
theorem VRel.bool {G:Nat→Prop} {S:St} (b:Bool):VRel G S (vb b) (.bool b):=.v _ rfl
theorem VD.law {P:Program} [Prim P] {f:FuncId} {args:List VV} {args':Array Value} {S:St} (h:VD P f args (vb true)) (ha:VRelL (VSt.begin S).G S args args'.toList) :
  XC P f args' S fun r S'=>Ext S S'∧r=.bool true:=by
 refine XG.mono (h (.begin S) S args' (VSim.begin S) ha) ?_
 rintro r S' ⟨v,σ',k1,k2,k3,k4,k5⟩
 refine ⟨⟨?_,fun id hid=>(k2.keep id hid (Nat.lt_of_lt_of_le hid k4)).2.2⟩,?_⟩
 ·have:=k2.next
  rw [k1.next]at this
  exact this
 ·have:=k3.fg
  rw [k5]at this
  cases this
  rfl
end Go.Proofs.YtghcggoodgfaoaaGreatDoor

set_option linter.unusedVariables false
set_option linter.unusedSectionVars false
namespace Go.Proofs.YtghcggoodgfaoaaGreatDoor
open Go Go.RowKit
def VSt.freeze (σ:VSt) (id:Nat):VSt:={ σ with heap:=fun j=>if j=id then .gone else σ.heap j,low:=min σ.low id }
theorem heap_freeze_ne (σ:VSt) (id j:Nat) (h:j≠id):(σ.freeze id).heap j=σ.heap j:=by simp [VSt.freeze,h]
theorem next_freeze (σ:VSt) (id:Nat):(σ.freeze id).next=σ.next:=rfl
theorem low_freeze (σ:VSt) (id:Nat):(σ.freeze id).low=min σ.low id:=rfl
theorem live_freeze (σ:VSt) (id j:Nat):(σ.freeze id).live j=σ.live j:=rfl
theorem VSim.freeze {σ:VSt} {S:St} (h:VSim σ S) {id:Nat} {cs:List VV} {t:TypeId} {z b:Nat} (hg:σ.heap id=.cells cs t z b) :
  VSim (σ.freeze id) S∧VStep σ S (σ.freeze id) S∧∀ o n c,n≤c→o+n*z≤cs.length→VRel (σ.freeze id).G S (.lst n ((cs.drop o).take (n*z))) (.slice (some ⟨id,o,none⟩) n c):=by
 have hid:id<σ.next:=Nat.lt_of_not_le fun hle=>by have:=(h.hi id hle).1;rw [hg]at this;cases this
 have hG:∀ j,σ.G j→(σ.freeze id).G j∧(S.get j).look=(S.get j).look:=fun j hj=>by
  refine ⟨⟨hj.1,?_⟩,rfl⟩
  by_cases e:j=id
  ·simp [VSt.freeze,e]
  ·rw [heap_freeze_ne _ _ _ e];exact hj.2
 have hb:=h.blk id
 rw [hg]at hb
 obtain ⟨h0,h00,c',an,h1,h2,h3⟩:=hb
 refine ⟨⟨h.next,fun j hj=>?_,?_,fun j=>?_⟩,⟨Nat.le_refl _,fun j hj=>⟨(hG j hj).1.2,rfl⟩,?_,fun j h1 h2=>⟨?_,rfl,rfl⟩⟩,fun o n c hn ho=>?_⟩
 ·have:=h.hi j hj
  refine ⟨?_,this.2⟩
  by_cases e:j=id
  ·simp [VSt.freeze,e]
  ·rw [heap_freeze_ne _ _ _ e];exact this.1
 ·rw [low_freeze,next_freeze];have:=h.low;omega
 ·by_cases e:j=id
  ·subst e
   have:(σ.freeze j).heap j=.gone:=by simp [VSt.freeze]
   rw [this,live_freeze,h0]
   exact fun h=>by cases h
  ·rw [heap_freeze_ne _ _ _ e,live_freeze]
   refine BRel.mono hG (fun k hk=>?_) (h.blk j)
   have hk':σ.heap k=.dead:=hk
   have:k≠id:=fun e=>by rw [e,hg]at hk';cases hk'
   show (σ.freeze id).heap k=.dead
   rw [heap_freeze_ne _ _ _ this];exact hk'
 ·rw [low_freeze];omega
 ·rw [low_freeze]at h2
  exact heap_freeze_ne _ _ _ (by omega)
 ·have hlen:((cs.drop o).take (n*z)).length=n*z:=by rw [List.length_take,List.length_drop];omega
  refine .lst z id o n c c' t _ ⟨hid,by simp [VSt.freeze]⟩ (by rw [h1];rfl) hn hlen (by rw [hlen,← h2.1];exact ho) fun i h3 h4=>?_
  rw [List.getElem_take,List.getElem_drop]
  exact (h2.2 (o+i) (by rw [hlen]at h3;omega) h4).mono hG
theorem VG.freeze {P:Program} [Prim P] {g:Go.Fn} {args:List VV} {σ:VSt} {Q Q':VV→VSt→Prop} (h:VG P g args σ Q)
  (hq:∀ v σ',Q v σ'→∃ id o n c cs t z b,v=.slice id o n c∧σ'.heap id=.cells cs t z b∧n≤c∧o+n*z≤cs.length∧Q' (.lst n ((cs.drop o).take (n*z))) (σ'.freeze id)):VG P g args σ Q':=fun S args' h1 h2=>by
 refine XG.mono (h S args' h1 h2) ?_
 rintro v' S' ⟨v,σ',k1,k2,k3,k4⟩
 obtain ⟨id,o,n,c,cs,t,z,b,rfl,hg,hn,ho,hq'⟩:=hq _ _ k4
 obtain ⟨f1,f2,f3⟩:=k1.freeze hg
 cases k3
 exact ⟨_,_,f1,k2.trans f2,f3 o n c hn ho,hq'⟩
end Go.Proofs.YtghcggoodgfaoaaGreatDoor

set_option linter.unusedVariables false
set_option linter.unusedSectionVars false
namespace Go.Proofs.YtghcggoodgfaoaaGreatDoor
open Go Go.RowKit
section
variable {α:Type} [VEnc α]
theorem via_row {id n c i w:Nat} (hi:i<n):via w (.slice id 0 n c) (vi i)=some (.ptr id (i*w)):=by
 simp only [via]
 rw [if_pos ⟨by omega,by omega⟩]
 simp
end
structure Only (σ σ':VSt) (id:Nat):Prop where
 next:σ.next≤σ'.next
 heap:∀ j,j<σ.next→j≠id→σ'.heap j=σ.heap j
 live:∀ j,j<σ.next→j≠id→σ'.live j=σ.live j
theorem Only.refl (σ:VSt) (id:Nat):Only σ σ id:=⟨Nat.le_refl _,fun _ _ _=>rfl,fun _ _ _=>rfl⟩
theorem Only.trans {σ σ' σ'':VSt} {id:Nat} (h:Only σ σ' id) (k:Only σ' σ'' id):Only σ σ'' id:=
 ⟨Nat.le_trans h.next k.next,fun j h1 h2=>(k.heap j (Nat.lt_of_lt_of_le h1 h.next) h2).trans (h.heap j h1 h2),fun j h1 h2=>(k.live j (Nat.lt_of_lt_of_le h1 h.next) h2).trans (h.live j h1 h2)⟩
theorem Only.write (σ:VSt) (id:Nat) (c:List VV) (t:TypeId) (z b:Nat):Only σ (σ.write id c t z b) id:=⟨Nat.le_refl _,fun j _ h=>heap_write_ne _ _ _ _ _ _ _ h,fun _ _ _=>rfl⟩
theorem Only.sub {σ σ':VSt} {id:Nat} (h:Sub σ σ'):Only σ σ' id:=⟨h.next,fun j hj _=>h.heap j hj,fun j hj _=>h.live j hj⟩
end Go.Proofs.YtghcggoodgfaoaaGreatDoor

set_option linter.unusedVariables false
set_option linter.unusedSectionVars false
set_option linter.unusedSimpArgs false
namespace Go.Proofs.YtghcggoodgfaoaaGreatDoor
open Go Go.RowKit
def VSt.skip (σ:VSt) (n:Nat):VSt:={ σ with next:=σ.next+n }
def VSt.pu (σ:VSt) (n lo:Nat) (lv:Nat→Bool):VSt:=⟨σ.heap,lv,σ.next+n,lo⟩
theorem heap_skip (σ:VSt) (n:Nat):(σ.skip n).heap=σ.heap:=Eq.trans rfl rfl
theorem next_skip (σ:VSt) (n:Nat):(σ.skip n).next=σ.next+n:=Eq.trans rfl rfl
theorem low_skip (σ:VSt) (n:Nat):(σ.skip n).low=σ.low:=Eq.trans rfl rfl
theorem heap_pu (σ:VSt) (n lo:Nat) (lv:Nat→Bool):(σ.pu n lo lv).heap=σ.heap:=Eq.trans rfl rfl
theorem next_pu (σ:VSt) (n lo:Nat) (lv:Nat→Bool):(σ.pu n lo lv).next=σ.next+n:=Eq.trans rfl rfl
theorem low_pu (σ:VSt) (n lo:Nat) (lv:Nat→Bool):(σ.pu n lo lv).low=lo:=Eq.trans rfl rfl
theorem live_pu (σ:VSt) (n lo:Nat) (lv:Nat→Bool):(σ.pu n lo lv).live=lv:=Eq.trans rfl rfl
theorem Sub.skip (σ:VSt) (n:Nat):Sub σ (σ.skip n):=⟨Nat.le_add_right _ _,fun _ _=>rfl,fun _ _=>rfl,rfl⟩
theorem VSim.drop {σ σ':VSt} {S S':St} (h:VSim σ S) (k1:VSim σ' S') (k2:VStep σ.fresh S σ' S') (hl:σ.next≤σ'.low) (lv:Nat→Bool) (hlv:∀ j,j<σ.next→lv j=σ.live j) (hlv2:∀ j,σ.next≤j→lv j=true→σ'.live j=true) :
  VSim ((σ.pu (σ'.next-σ.next) σ.next lv)) S'∧VStep σ.fresh S (σ.pu (σ'.next-σ.next) σ.next lv) S'∧∀ id,σ'.G id→(σ.pu (σ'.next-σ.next) σ.next lv).G id∧(S'.get id).look=(S'.get id).look:=by
 have hn:=h.next
 have hn':=k1.next
 have hle:σ.next≤σ'.next:=k2.next
 have e:(σ.pu (σ'.next-σ.next) σ.next lv).next=σ'.next:=by rw [next_pu];omega
 have hG:∀ id,σ'.G id→(σ.pu (σ'.next-σ.next) σ.next lv).G id:=fun id hid=>by
  refine ⟨by rw [e];exact hid.1,?_⟩
  rw [heap_pu]
  by_cases hi:id<σ.next
  ·have:=(k2.keep id hi (by omega)).1
   rw [heap_fresh]at this
   rw [← this];exact hid.2
  ·exact (h.hi id (by omega)).1
 have hst:∀ id,σ.G id→(σ.pu (σ'.next-σ.next) σ.next lv).heap id=.gone∧(S'.get id).look=(S.get id).look:=fun id hid=>⟨hid.2,(k2.still id hid).2⟩
 refine ⟨⟨by rw [e];exact hn',fun id hid=>?_,by rw [e,low_pu];exact hle,fun id=>?_⟩,⟨by rw [e];exact hle,hst,by rw [low_pu];exact Nat.le_refl _,fun id h1 h2=>⟨rfl,hlv id h1,(k2.keep id h1 (Nat.lt_of_lt_of_le h1 hl)).2.2⟩⟩,fun id hid=>⟨hG id hid,rfl⟩⟩
 ·rw [e]at hid
  refine ⟨(h.hi id (by omega)).1,?_⟩
  rw [live_pu]
  cases hv:lv id with
  | false=>rfl
  | true=>have:=hlv2 id (by omega) hv;rw [(k1.hi id hid).2]at this;cases this
 ·by_cases hi:id<σ.next
  ·rw [heap_pu,live_pu,hlv id hi,(k2.keep id hi (Nat.lt_of_lt_of_le hi hl)).2.2]
   refine (h.blk id).mono (fun j hj=>⟨⟨by rw [e];exact Nat.lt_of_lt_of_le hj.1 hle,hj.2⟩,(k2.still j hj).2⟩) (fun j hd=>hd)
  ·rw [heap_pu,live_pu,(h.hi id (by omega)).1]
   intro hv
   have hv':=hlv2 id (by omega) hv
   have hb:=k1.blk id
   rw [(k1.live_lt hv').2]at hb
   exact hb hv'
section
variable {P:Program} [Prim P] {σ:VSt}
theorem VSt.join_pu (h:σ.low≤σ.next) (n:Nat) (lv:Nat→Bool):σ.join (σ.pu n σ.next lv)=σ.pu n σ.low lv:=by
 unfold VSt.join VSt.pu
 simp [Nat.min_eq_left h]
theorem VSt.pu_skip (n:Nat):σ.pu n σ.low σ.live=σ.skip n:=rfl
theorem VG.drop {g:Go.Fn} {args:List VV} {R:VV→VSt→Prop} (h:VG P g args σ (fun v σ'=>σ.next≤σ'.low∧R v σ')) :
  VG P g args σ (fun v τ=>∃ σ' lv,R v σ'∧σ.next≤σ'.next∧(∀ j,j<σ.next→lv j=σ.live j)∧(∀ j,σ.next≤j→lv j=σ'.live j)∧σ.low≤σ.next∧τ=σ.pu (σ'.next-σ.next) σ.next lv):=fun S args' h1 h2=>by
 refine XG.mono (h S args' h1 h2) ?_
 rintro v' S' ⟨v,σ',k1,k2,k3,hlow,hr⟩
 have a1:∀ j,j<σ.next→(fun j=>if j<σ.next then σ.live j else σ'.live j) j=σ.live j:=fun j hj=>if_pos hj
 have a2:∀ j,σ.next≤j→(fun j=>if j<σ.next then σ.live j else σ'.live j) j=σ'.live j:=fun j hj=>if_neg (by omega)
 obtain ⟨q1,q2,q3⟩:=h1.drop k1 k2 hlow _ a1 (fun j hj e=>by have:=a2 j hj;simp only at this e;rw [this]at e;exact e)
 exact ⟨v,_,q1,q2,k3.mono q3,σ',_,hr,k2.next,a1,a2,h1.low,rfl⟩
theorem VG.drop0 {g:Go.Fn} {args:List VV} {R:VV→Prop} (h:VG P g args σ (fun v σ'=>σ.next≤σ'.low∧R v)) :
  VG P g args σ (fun v τ=>∃ n,R v∧σ.low≤σ.next∧τ=σ.pu n σ.next σ.live):=fun S args' h1 h2=>by
 refine XG.mono (h S args' h1 h2) ?_
 rintro v' S' ⟨v,σ',k1,k2,k3,hlow,hr⟩
 obtain ⟨q1,q2,q3⟩:=h1.drop k1 k2 hlow σ.live (fun _ _=>rfl) (fun j hj e=>by rw [(h1.hi j hj).2]at e;cases e)
 exact ⟨v,_,q1,q2,k3.mono q3,_,hr,h1.low,rfl⟩
theorem VCall.goC {f:FuncId} {args args2:List VV} {x:VV} {k:Bool × Bool} {K:VV→VSt→Bool→Prop} (h:VC P f args2 σ (fun r σ'=>σ.next≤σ'.low∧r.fg=x)) (hf:FgL args args2) (hq:∀ n,K x (σ.skip n) true):@VCall P _ f args ⟨(k,σ,K)⟩:=by
 show VCK P k (.func f) args σ K
 have h0:VG P (.func f) args σ (fun r σ'=>σ.next≤σ'.low∧r=x):=by
  refine VG.mono (VG.resFg (VC.fg hf h)) ?_
  rintro v σ' ⟨v0,rfl,h1,h2⟩
  exact ⟨h1,h2⟩
 refine VG.mono (VG.drop0 (R:=fun v=>v=x) h0) ?_
 rintro v τ ⟨n,rfl,hlow,rfl⟩
 refine ⟨true,fun _=>Nat.le_refl _,fun _=>rfl,?_⟩
 rw [VSt.join_pu hlow,VSt.pu_skip]
 exact hq n
theorem VCall.go {f:FuncId} {args args2:List VV} {x:VV} {k:Bool × Bool} {K:VV→VSt→Bool→Prop} (h:VD P f args2 x) (hf:FgL args args2) (hq:∀ n,K x (σ.skip n) true):@VCall P _ f args ⟨(k,σ,K)⟩:=VCall.goC (h σ) hf hq
theorem VCall.goA {α:Type} [VEnc α] {f:FuncId} {args args2:List VV} {l:List α} {k:Bool × Bool} {K:VV→VSt→Bool→Prop} (h:VC P f args2 σ (fun r σ'=>σ.next≤σ'.low∧App σ' σ.next r l)) (hf:FgL args args2)
  (hq:∀ v n lv,App (σ.pu n σ.low lv) σ.next v l→(∀ t,t<σ.next→lv t=σ.live t)→K v (σ.pu n σ.low lv) true):@VCall P _ f args ⟨(k,σ,K)⟩:=by
 show VCK P k (.func f) args σ K
 refine VG.mono (VG.drop (R:=fun v σ'=>App σ' σ.next v l) (VC.fg hf h)) ?_
 rintro v τ ⟨σ',lv,ha,hle,h1,h2,hlow,rfl⟩
 refine ⟨true,fun _=>Nat.le_refl _,fun _=>rfl,?_⟩
 rw [VSt.join_pu hlow]
 refine hq v _ lv ?_ h1
 rcases ha with ha | ⟨t,rfl,a1,a2,a3⟩
 ·exact .inl ha
 ·refine .inr ⟨t,rfl,?_,a2,?_⟩
  ·rw [live_pu,h2 t a2];exact a1
  ·rw [next_pu];omega
section
variable {α:Type} [VEnc α] {k:Bool × Bool} {K:VV→VSt→Bool→Prop}
theorem VBuild.enc {e:TypeId} {esz n:Nat} {z:List Value} {ps:List (Nat × Nat × VV)} (l:List α) {cs:List VV} (h1:z.length=esz) (h2:vfill ((rep n z).map .v) ps=some cs) (h3:vAll cs=true) (hw:esz=VEnc.w α) (hn:n=l.length) (hc:cs.map VV.fg=vencs l) (hk:K (vo l σ.next) σ.newTok true):@VBuild e esz n z ps ⟨(σ,K)⟩:=by
 refine VBuild.own h1 h2 h3 ?_
 rw [hc,hn,hw]
 exact hk
theorem VAppend.app {e:TypeId} {esz bytes:Nat} {s x:VV} {b:Nat} {l m:List α} {kk:Bool} (h:App σ b s l) (hx:vcont σ esz x=some (m.length,vencs m)) (hw:esz=VEnc.w α) (hr:(l.length+m.length)*bytes≤reach) (hb:0<bytes) (hbn:b≤σ.next)
  (hk:∀ r n lo lv,App (σ.pu n lo lv) b r (l++m)→min σ.low b≤lo→lo≤σ.low→(∀ t,t<b→lv t=σ.live t)→K r (σ.pu n lo lv) false):@VAppend e esz bytes s x ⟨((kk,false),σ,K)⟩:=by
 obtain ⟨r,σ',h1,h2,h3,h4⟩:=h.push hx hw hr hb hbn
 refine VAppend.own h1 ?_
 have e:σ'=σ.pu (σ'.next-σ.next) σ'.low σ'.live:=by
  obtain ⟨hp,lv,nx,lo⟩:=σ'
  have:=h3.heap
  have hn:=h3.next
  simp only at this hn ⊢
  subst this
  unfold VSt.pu
  congr 1
  omega
 rw [e]at h2 ⊢
 exact hk r _ _ _ h2 h3.low h3.low' h4
end
section
variable {α:Type} [VEnc α] {b:Nat} {v:VV} {l:List α}
theorem App.skip (h:App σ b v l) (n:Nat):App (σ.skip n) b v l:=h.keep (Nat.le_add_right _ _) fun _ _ _=>rfl
theorem App.box (h:App σ b v l) (c:List VV) (t:TypeId) (z:Nat):App (σ.box c t z) b v l:=h.keep (Nat.le_add_right _ _) fun _ _ _=>rfl
theorem App.write (h:App σ b v l) (id:Nat) (c:List VV) (t:TypeId) (z q:Nat):App (σ.write id c t z q) b v l:=h.keep (Nat.le_refl _) fun _ _ _=>rfl
theorem App.newTok (h:App σ b v l):App σ.newTok b v l:=h.keep (Nat.le_add_right _ _) fun t ht _=>by simp only [VSt.newTok];rw [if_neg (by omega)]
theorem App.alloc (h:App σ b v l) (k:VB):App (σ.alloc k) b v l:=h.keep (Nat.le_add_right _ _) fun _ _ _=>rfl
theorem App.put (h:App σ b v l) (id:Nat) (k:VB):App (σ.put id k) b v l:=h.keep (Nat.le_refl _) fun _ _ _=>rfl
end
end
section
variable {P:Program} [Prim P] {σ:VSt}
theorem FgL.map:∀ (args:List VV),FgL args (args.map VV.fg)
 | []=>trivial
 | a::r=>⟨.inr rfl,FgL.map r⟩
theorem VCall.goF {f:FuncId} {args args2:List VV} {x:VV} {k:Bool × Bool} {K:VV→VSt→Bool→Prop} (ha:args.map VV.fg=args2) (h:VD P f args2 x) (hq:∀ n,K x (σ.skip n) true):@VCall P _ f args ⟨(k,σ,K)⟩:=VCall.go h (by rw [← ha];exact FgL.map args) hq
theorem VCall.goG {f:FuncId} {args args2:List VV} {x:VV} {k:Bool × Bool} {K:VV→VSt→Bool→Prop} (ha:args.map VV.fg=args2) (h:VC P f args2 σ (fun r σ'=>σ.next≤σ'.low∧r.fg=x)) (hq:∀ n,K x (σ.skip n) true):@VCall P _ f args ⟨(k,σ,K)⟩:=VCall.goC h (by rw [← ha];exact FgL.map args) hq
end
theorem TestV_decE {p:Prop} [Decidable p] {T F:Prop} (h1:p→decide p=true→T) (h2:¬ p→decide p=false→F):@TestV (.v (.bool (decide p))) ⟨(T,F)⟩:=TestV_dec (fun h=>h1 h (decide_eq_true h)) (fun h=>h2 h (decide_eq_false h))
theorem PickV_tE {p:Prop} [Decidable p] {T F:Prop} (h1:p→decide p=true→T) (h2:¬ p→decide p=false→F):@PickV (.v (.bool (decide p))) true ⟨(T,F)⟩:=PickV_t (fun h=>h1 (of_decide_eq_true h) h) (fun h=>h2 (of_decide_eq_false h) h)
theorem PickV_fE {p:Prop} [Decidable p] {T F:Prop} (h1:¬ p→decide p=false→T) (h2:p→decide p=true→F):@PickV (.v (.bool (decide p))) false ⟨(T,F)⟩:=PickV_f (fun h=>h1 (of_decide_eq_false h) h) (fun h=>h2 (of_decide_eq_true h) h)
section
variable {α:Type} [VEnc α] {l:List α} {esz:Nat} {K:VV→Prop}
theorem Got_viaI {i:Int} (h0:0≤i) (h:i<l.length) (hw:esz=VEnc.w α) (hk:K (vep l i.toNat 0)):@Got _ (via esz (vl l) (vi i)) ⟨K⟩:=by
 obtain ⟨j,rfl⟩:=Int.eq_ofNat_of_zero_le h0
 exact ⟨_,via_vl (by omega) hw,hk⟩
theorem Got_viaOI {t:Nat} {i:Int} (h0:0≤i) (h:i<l.length) (hw:esz=VEnc.w α) (hk:K (vep l i.toNat 0)):@Got _ (via esz (vo l t) (vi i)) ⟨K⟩:=by
 obtain ⟨j,rfl⟩:=Int.eq_ofNat_of_zero_le h0
 exact ⟨_,via_vo (by omega) hw,hk⟩
theorem Got_vld {σ:VSt} {agg:Bool} {sz i o:Nat} (h:i<l.length) (hw:o+sz≤VEnc.w α) (hk:@Got _ (vpart agg (((VEnc.e l[i]).drop o).take sz)) ⟨K⟩):@Got _ (vld σ agg sz (vep l i o)) ⟨K⟩:=by
 rw [vld_vep h hw];exact hk
theorem Got_lenR {v:VV} (h:Rd v l) (hk:K (vi l.length)):@Got _ (vlenv v) ⟨K⟩:=⟨_,h.len,hk⟩
end
section
variable {α:Type} [VEnc α] {l:List α} {esz:Nat} {σ:VSt} {K:VV→Prop}
theorem Got_all (hw:esz=VEnc.w α) (hk:K (vl l)):@Got _ (vsl σ esz (vl l) none none) ⟨K⟩:=⟨_,by rw [vsl_vl hw rfl rfl (Nat.zero_le _) (Nat.le_refl _)];simp,hk⟩
end
def Rw {α:Type} [VEnc α] (σ:VSt) (b:Nat) (v:VV) (l:List α):Prop:=∃ (id:Nat) (t:TypeId) (q:Nat),v=.slice id 0 l.length l.length∧b≤q∧q≤id∧id<σ.next∧σ.heap id=.cells (vencs l) t (VEnc.w α) q
def VSt.own (σ:VSt) (id:Nat):VSt:={ σ with heap:=fun j=>if j=id then .gone else σ.heap j,live:=fun j=>if j=id then true else σ.live j,low:=min σ.low id }
theorem VSim.own {σ:VSt} {S:St} (h:VSim σ S) {id:Nat} {cs:List VV} {t:TypeId} {z b n:Nat} (hg:σ.heap id=.cells cs t z b) (hn:cs.length=n*z) :
  VSim (σ.own id) S∧VStep σ S (σ.own id) S∧VRel (σ.own id).G S (.own z n cs id) (.slice (some ⟨id,0,none⟩) n n):=by
 have hid:id<σ.next:=Nat.lt_of_not_le fun hle=>by have:=(h.hi id hle).1;rw [hg]at this;cases this
 have hne:∀ j,j≠id→(σ.own id).heap j=σ.heap j:=fun j e=>by simp [VSt.own,e]
 have hse:(σ.own id).heap id=.gone:=by simp [VSt.own]
 have hG:∀ j,σ.G j→(σ.own id).G j∧(S.get j).look=(S.get j).look:=fun j hj=>by
  refine ⟨⟨hj.1,?_⟩,rfl⟩
  by_cases e:j=id
  ·rw [e];exact hse
  ·rw [hne j e];exact hj.2
 have hb:=h.blk id
 rw [hg]at hb
 obtain ⟨h0,h00,c',an,h1,h2,h3⟩:=hb
 refine ⟨⟨h.next,fun j hj=>?_,?_,fun j=>?_⟩,⟨Nat.le_refl _,fun j hj=>⟨(hG j hj).1.2,rfl⟩,Nat.min_le_left _ _,fun j a1 a2=>?_⟩,?_⟩
 ·have:=h.hi j hj
  have e:j≠id:=fun e=>by rw [e]at hj;have:σ.next≤id:=hj;omega
  exact ⟨(hne j e).trans this.1,by simp [VSt.own,e,this.2]⟩
 ·exact Nat.le_trans (Nat.min_le_left _ _) h.low
 ·by_cases e:j=id
  ·subst e
   rw [hse]
   exact fun _=>⟨c',t,z,an,h1⟩
  ·have e2:(σ.own id).live j=σ.live j:=by simp [VSt.own,e]
   rw [hne j e,e2]
   refine BRel.mono hG (fun k hk=>?_) (h.blk j)
   have hk':σ.heap k=.dead:=hk
   have:k≠id:=fun e=>by rw [e,hg]at hk';cases hk'
   show (σ.own id).heap k=.dead
   rw [hne k this];exact hk'
 ·have:j≠id:=fun e=>by subst e;have:j<min σ.low j:=a2;omega
  exact ⟨hne j this,by simp [VSt.own,this],rfl⟩
 ·exact .own z id n c' t cs ⟨hid,hse⟩ (by rw [h1];rfl) hn (by rw [← h2.1]) fun i k1 k2=>(h2.2 i k1 k2).mono hG
theorem VG.own {P:Program} [Prim P] {α:Type} [VEnc α] {g:Go.Fn} {args:List VV} {σ:VSt} {l:List α} (h:VG P g args σ (fun v σ'=>σ.next≤σ'.low∧Rw σ' σ.next v l)):VG P g args σ (fun v σ'=>σ.next≤σ'.low∧App σ' σ.next v l):=fun S args' h1 h2=>by
 refine XG.mono (h S args' h1 h2) ?_
 rintro v' S' ⟨v,σ',k1,k2,k3,hlo,id,t,q,rfl,hq,hqi,hin,hg⟩
 obtain ⟨f1,f2,f3⟩:=k1.own hg (vencs_length l)
 cases k3
 refine ⟨_,_,f1,k2.trans f2,f3,?_,.inr ⟨id,rfl,by simp [VSt.own],by omega,hin⟩⟩
 show σ.next≤min σ'.low id
 omega
theorem VD.of_app {P:Program} [Prim P] {α:Type} [VEnc α] {f:FuncId} {args:List VV} {l:List α} (h:∀ σ,VC P f args σ (fun v σ'=>σ.next≤σ'.low∧App σ' σ.next v l)):VD P f args (vl l):=fun σ=>VG.mono (h σ) fun v σ' ⟨a,b⟩=>⟨a,b.fg⟩
section
variable {P:Program} [Prim P] {α:Type} [VEnc α] {σ:VSt} {K:VV→VSt→Bool→Prop} {b id q:Nat} {l m:List α} {t:TypeId}
def Rws (σ:VSt) (b id:Nat) (l:List α):Prop:=∃ (t:TypeId) (q:Nat),b≤q∧q≤id∧id<σ.next∧σ.heap id=.cells (vencs l) t (VEnc.w α) q
theorem Rws.rw {σ:VSt} {b id:Nat} {l:List α} (h:Rws σ b id l) {n:Nat} (hn:n=l.length):Rw σ b (.slice id 0 n n) l:=by
 obtain ⟨t,q,h1,h2,h3,h4⟩:=h
 subst hn
 exact ⟨id,t,q,rfl,h1,h2,h3,h4⟩
theorem Got_viaSI {n c esz:Nat} {i:Int} {K:VV→Prop} (h0:0≤i) (h:i<n) (hk:K (.ptr id (i.toNat*esz))):@Got _ (via esz (.slice id 0 n c) (vi i)) ⟨K⟩:=by
 obtain ⟨j,rfl⟩:=Int.eq_ofNat_of_zero_le h0
 exact ⟨_,via_row (by omega),hk⟩
theorem VAppend.rw {e:TypeId} {esz bytes n:Nat} {x:VV} (h:Rws σ b id l) (hn:n=l.length) (hx:vcont σ esz x=some (m.length,vencs m)) (hw:esz=VEnc.w α) (hr:(l.length+m.length)*bytes≤reach) (hb:0<bytes)
  (hk:∀ id' τ,Rws τ b id' (l++m)→σ.next≤τ.next→min σ.low b≤τ.low→τ.low≤σ.low→(∀ j,j<σ.next→j≠id→τ.heap j=σ.heap j)→(∀ j,j<σ.next→τ.live j=σ.live j)→K (.slice id' 0 (l.length+m.length) (l.length+m.length)) τ false):@VAppend e esz bytes (.slice id 0 n n) x ⟨((false,false),σ,K)⟩:=by
 obtain ⟨t,q,h1,h2,h3,h4⟩:=h
 subst hw hn
 by_cases hm:m.length=0
 ·obtain rfl:=List.eq_nil_of_length_eq_zero hm
  refine VAppend.row (r:=.slice id 0 l.length l.length) (σ':=σ) ?_ (hk id σ ⟨t,q,h1,h2,h3,by rw [List.append_nil];exact h4⟩ (Nat.le_refl _) (Nat.min_le_left _ _) (Nat.le_refl _) (fun _ _ _=>rfl) (fun _ _=>rfl))
  unfold vappS
  rw [hx]
  simp
 ·refine VAppend.row (r:=.slice σ.next 0 (l.length+m.length) (l.length+m.length)) (σ':=(σ.kill id q).alloc (.cells (vencs (l++m)) e (VEnc.w α) q)) ?_ (hk σ.next _ ⟨e,q,h1,by omega,by simp [VSt.alloc,VSt.kill],by simp [VSt.alloc,VSt.kill]⟩ (by simp [VSt.alloc,VSt.kill]) (by simp only [VSt.alloc,VSt.kill];omega) (by simp only [VSt.alloc,VSt.kill];omega) (fun j hj hne=>by simp [VSt.alloc,VSt.kill,hne];intro e;omega) (fun j hj=>rfl))
  unfold vappS
  rw [hx]
  simp only [Option.bind_some,hm,if_false,h4]
  rw [if_pos (by simp [vencs_all,VEnc.pos,hb]),if_pos ⟨trivial,trivial,by rw [vencs_length];omega⟩,if_pos hr,List.drop_zero,← vencs_append]
theorem VAppend.rw0 {e:TypeId} {esz bytes:Nat} {x:VV} (hx:vcont σ esz x=some (m.length,vencs m)) (hw:esz=VEnc.w α) (hr:m.length*bytes≤reach) (hb:0<bytes) (hm:m.length≠0)
  (hk:K (.slice σ.next 0 m.length m.length) (σ.box (vencs m) e esz) false):@VAppend e esz bytes (.v (.slice none 0 0)) x ⟨((false,false),σ,K)⟩:=by
 subst hw
 refine VAppend.row ?_ hk
 unfold vappS
 rw [hx]
 simp only [Option.bind_some,hm,if_false]
 rw [if_pos (by simp [vencs_all,VEnc.pos,hb]),if_pos hr]
end
section
variable {P:Program} [Prim P] {α:Type} [VEnc α] {σ:VSt}
theorem VCall.goAF {f:FuncId} {args args2:List VV} {l:List α} {k:Bool × Bool} {K:VV→VSt→Bool→Prop} (ha:args.map VV.fg=args2) (h:VC P f args2 σ (fun r σ'=>σ.next≤σ'.low∧App σ' σ.next r l))
  (hq:∀ v n lv,App (σ.pu n σ.low lv) σ.next v l→(∀ t,t<σ.next→lv t=σ.live t)→K v (σ.pu n σ.low lv) true):@VCall P _ f args ⟨(k,σ,K)⟩:=VCall.goA h (by rw [← ha];exact FgL.map args) hq
theorem App.new {b:Nat} {l:List α} (hb:b≤σ.next):App σ.newTok b (vo l σ.next) l:=.inr ⟨σ.next,rfl,by simp [VSt.newTok],hb,by simp [VSt.newTok]⟩
theorem App.newE {b t:Nat} {l:List α} (ht:t=σ.next) (hb:b≤σ.next):App σ.newTok b (vo l t) l:=by rw [ht];exact App.new hb
end
section
variable {α:Type} [VEnc α] {l:List α} {esz:Nat} {σ:VSt} {K:VV→Prop} {v:VV}
theorem Got_hiI {b:Int} (h0:0≤b) (hb:b≤l.length) (hw:esz=VEnc.w α) (hk:K (vl (l.take b.toNat))):@Got _ (vsl σ esz (vl l) none (some (vi b))) ⟨K⟩:=by
 obtain ⟨c,rfl⟩:=Int.eq_ofNat_of_zero_le h0
 exact ⟨_,vsl_hi hw (by omega),by simpa using hk⟩
theorem Got_loI {b:Int} (h0:0≤b) (hb:b≤l.length) (hw:esz=VEnc.w α) (hk:K (vl (l.drop b.toNat))):@Got _ (vsl σ esz (vl l) (some (vi b)) none) ⟨K⟩:=by
 obtain ⟨c,rfl⟩:=Int.eq_ofNat_of_zero_le h0
 exact ⟨_,vsl_lo hw (by omega),by simpa using hk⟩
theorem Got_lohiI {a b:Int} (h0:0≤a) (hab:a≤b) (hb:b≤l.length) (hw:esz=VEnc.w α) (hk:K (vl ((l.take b.toNat).drop a.toNat))):@Got _ (vsl σ esz (vl l) (some (vi a)) (some (vi b))) ⟨K⟩:=by
 obtain ⟨c,rfl⟩:=Int.eq_ofNat_of_zero_le h0
 obtain ⟨d,rfl⟩:=Int.eq_ofNat_of_zero_le (show (0:Int)≤b by omega)
 exact ⟨_,vsl_lohi hw (by omega) (by omega),by simpa using hk⟩
theorem Got_slO {t:Nat} {lo hi:Option VV} (h:@Got _ (vsl σ esz (vl l) lo hi) ⟨K⟩):@Got _ (vsl σ esz (vo l t) lo hi) ⟨K⟩:=h
theorem Got_viaRI {i:Int} (hv:Rd v l) (h0:0≤i) (h:i<l.length) (hw:esz=VEnc.w α) (hk:K (vep l i.toNat 0)):@Got _ (via esz v (vi i)) ⟨K⟩:=by
 obtain ⟨j,rfl⟩:=Int.eq_ofNat_of_zero_le h0
 exact ⟨_,hv.via (by omega) hw,hk⟩
end
section
variable {α:Type} [VEnc α] {σ:VSt} {K:VV→VSt→Bool→Prop}
theorem VAppend.app1 {e:TypeId} {esz bytes:Nat} {s x:VV} {b:Nat} {l m:List α} {kk:Bool} (hm:m.length≠0) (h:App σ b s l) (hx:vcont σ esz x=some (m.length,vencs m)) (hw:esz=VEnc.w α) (hr:(l.length+m.length)*bytes≤reach) (hb:0<bytes) (hbn:b≤σ.next)
  (hk:∀ t n lo lv,App (σ.pu n lo lv) b (vo (l++m) t) (l++m)→min σ.low b≤lo→lo≤σ.low→(∀ t,t<b→lv t=σ.live t)→K (vo (l++m) t) (σ.pu n lo lv) false):@VAppend e esz bytes s x ⟨((kk,false),σ,K)⟩:=by
 refine VAppend.app h hx hw hr hb hbn fun r n lo lv ha h1 h2 h3=>?_
 rcases ha with ⟨rfl,e⟩|⟨t,rfl,q⟩
 ·simp at e;exact absurd (by simp [e.2]) hm
 ·exact hk t n lo lv (.inr ⟨t,rfl,q⟩) h1 h2 h3
theorem VAppend.appO {e:TypeId} {esz bytes:Nat} {t0:Nat} {x:VV} {b:Nat} {l m:List α} {kk:Bool} (h:App σ b (vo l t0) l) (hx:vcont σ esz x=some (m.length,vencs m)) (hw:esz=VEnc.w α) (hr:(l.length+m.length)*bytes≤reach) (hb:0<bytes) (hbn:b≤σ.next)
  (hk:∀ t n lo lv,App (σ.pu n lo lv) b (vo (l++m) t) (l++m)→min σ.low b≤lo→lo≤σ.low→(∀ t,t<b→lv t=σ.live t)→K (vo (l++m) t) (σ.pu n lo lv) false):@VAppend e esz bytes (vo l t0) x ⟨((kk,false),σ,K)⟩:=by
 by_cases hm:m.length=0
 ·obtain rfl:=List.eq_nil_of_length_eq_zero hm
  refine VAppend.own (r:=vo l t0) (σ':=σ) ?_ ?_
  ·unfold vapp
   rw [hx];rfl
  ·have h0:=hk t0 0 σ.low σ.live (by rw [List.append_nil];exact h.skip 0) (Nat.min_le_left _ _) (Nat.le_refl _) fun _ _=>rfl
   rw [List.append_nil]at h0
   exact h0
 ·exact VAppend.app1 hm h hx hw hr hb hbn hk
end
theorem Got_quo {a b:Int} {K:VV→Prop} (h:b≠0) (hk:K (vi (w64 (a.tdiv b)))):@Got _ (vbin .quo (vi a) (vi b)) ⟨K⟩:=⟨_,vbin_quo a b h,hk⟩
theorem Got_rem {a b:Int} {K:VV→Prop} (h:b≠0) (hk:K (vi (a.tmod b))):@Got _ (vbin .rem (vi a) (vi b)) ⟨K⟩:=⟨_,vbin_rem a b h,hk⟩
structure OwnE where
 v:VV
 z:Nat
 n:Nat
 xs:List VV
def ent {α:Type} [VEnc α] (v:VV) (l:List α):OwnE:=⟨v,VEnc.w α,l.length,vencs l⟩
def tkV:VV→Option Nat
 | .own _ _ _ t=>some t
 | _=>none
def okE (σ:VSt) (b:Nat) (e:OwnE):Prop:=(e.v=.v (.slice none 0 0)∧e.n=0∧e.xs=[])∨∃ t,e.v=.own e.z e.n e.xs t∧σ.live t=true∧b≤t∧t<σ.next
structure AppN (σ:VSt) (b:Nat) (L:List OwnE):Prop where
 ok:∀ e∈L,okE σ b e
 nd:(L.filterMap fun e=>tkV e.v).Nodup
theorem okE.app {α:Type} [VEnc α] {σ:VSt} {b:Nat} {v:VV} {l:List α} (h:okE σ b (ent v l)):App σ b v l:=by
 rcases h with ⟨h1,h2,h3⟩|⟨t,h1,h2,h3,h4⟩
 ·exact .inl ⟨h1,List.eq_nil_of_length_eq_zero h2⟩
 ·exact .inr ⟨t,h1,h2,h3,h4⟩
theorem okE.keep {σ σ':VSt} {b:Nat} {e:OwnE} (h:okE σ b e) (hn:σ.next≤σ'.next) (hl:∀ t,t<σ.next→tkV e.v=some t→σ'.live t=σ.live t):okE σ' b e:=by
 rcases h with h | ⟨t,h1,h2,h3,h4⟩
 ·exact .inl h
 ·exact .inr ⟨t,h1,by rw [hl t h4 (by rw [h1];rfl)];exact h2,h3,by omega⟩
theorem okE.tk {σ:VSt} {b:Nat} {e:OwnE} (h:okE σ b e) {t:Nat} (ht:tkV e.v=some t):e.v=.own e.z e.n e.xs t∧σ.live t=true∧b≤t∧t<σ.next:=by
 rcases h with h | ⟨t',h1,h2,h3,h4⟩
 ·rw [h.1]at ht;cases ht
 ·rw [h1]at ht;cases ht;exact ⟨h1,h2,h3,h4⟩
theorem AppN.keep {σ σ':VSt} {b:Nat} {L:List OwnE} (h:AppN σ b L) (hn:σ.next≤σ'.next) (hl:∀ t,t<σ.next→b≤t→σ'.live t=σ.live t):AppN σ' b L:=
 ⟨fun e he=>(h.ok e he).keep hn fun t ht htk=>hl t ht ((h.ok e he).tk htk).2.2.1,h.nd⟩
theorem AppN.app {α:Type} [VEnc α] {σ:VSt} {b:Nat} {L:List OwnE} (h:AppN σ b L) {v:VV} {l:List α} (he:ent v l∈L):App σ b v l:=(h.ok _ he).app
theorem AppN.nil (σ:VSt) (b:Nat):AppN σ b []:=⟨fun _ h=>by simp at h,by simp⟩
theorem AppN.skip {σ:VSt} {b:Nat} {L:List OwnE} (h:AppN σ b L) (n:Nat):AppN (σ.skip n) b L:=h.keep (Nat.le_add_right _ _) fun _ _ _=>rfl
theorem AppN.box {σ:VSt} {b:Nat} {L:List OwnE} (h:AppN σ b L) (c:List VV) (t:TypeId) (z:Nat):AppN (σ.box c t z) b L:=h.keep (Nat.le_add_right _ _) fun _ _ _=>rfl
theorem AppN.write {σ:VSt} {b:Nat} {L:List OwnE} (h:AppN σ b L) (id:Nat) (c:List VV) (t:TypeId) (z q:Nat):AppN (σ.write id c t z q) b L:=h.keep (Nat.le_refl _) fun _ _ _=>rfl
theorem AppN.newTok {σ:VSt} {b:Nat} {L:List OwnE} (h:AppN σ b L):AppN σ.newTok b L:=h.keep (Nat.le_add_right _ _) fun t ht _=>by simp only [VSt.newTok];rw [if_neg (by omega)]
theorem AppN.put {σ σ':VSt} {b:Nat} {L1 L2:List OwnE} {e e':OwnE} (h:AppN σ b (L1++e::L2)) (hn:σ.next≤σ'.next) (he:okE σ' b e') (hl:∀ t,t<σ.next→tkV e.v≠some t→σ'.live t=σ.live t) (ht:∀ t,tkV e'.v=some t→tkV e.v=some t∨σ.next≤t):AppN σ' b (L1++e'::L2):=by
 have hnd:=h.nd
 rw [List.filterMap_append,List.filterMap_cons]at hnd
 have dis:∀ x∈L1++L2,∀ t,tkV x.v=some t→tkV e.v≠some t:=by
  intro x hx t hxt het
  rw [het]at hnd
  rcases List.mem_append.1 hx with hx | hx
  ·exact (List.nodup_append.1 hnd).2.2 t (List.mem_filterMap.2 ⟨x,hx,hxt⟩) t (by simp) rfl
  ·have:=(List.nodup_append.1 hnd).2.1
   exact (List.nodup_cons.1 this).1 (List.mem_filterMap.2 ⟨x,hx,hxt⟩)
 have old:∀ x∈L1++L2,okE σ b x:=fun x hx=>h.ok x (by
  rcases List.mem_append.1 hx with hx | hx
  ·exact List.mem_append_left _ hx
  ·exact List.mem_append_right _ (List.mem_cons_of_mem _ hx))
 refine ⟨fun x hx=>?_,?_⟩
 ·rcases List.mem_append.1 hx with hx | hx
  ·exact (old x (List.mem_append_left _ hx)).keep hn fun t ht2 htk=>hl t ht2 (dis x (List.mem_append_left _ hx) t htk)
  ·rcases List.mem_cons.1 hx with rfl | hx
   ·exact he
   ·exact (old x (List.mem_append_right _ hx)).keep hn fun t ht2 htk=>hl t ht2 (dis x (List.mem_append_right _ hx) t htk)
 ·rw [List.filterMap_append,List.filterMap_cons]
  have base:(L1.filterMap (fun e=>tkV e.v)++L2.filterMap fun e=>tkV e.v).Nodup:=by
   cases hte:tkV e.v with
   | none=>rw [hte]at hnd;exact hnd
   | some t=>
    rw [hte]at hnd
    obtain ⟨n1,n2,n3⟩:=List.nodup_append.1 hnd
    exact List.nodup_append.2 ⟨n1,(List.nodup_cons.1 n2).2,fun a ha c hc=>n3 a ha c (by simp [hc])⟩
  cases hte:tkV e'.v with
  | none=>exact base
  | some t=>
   have fresh:∀ x∈L1++L2,tkV x.v≠some t:=fun x hx hxt=>by
    rcases ht t hte with h1 | h1
    ·exact dis x hx t hxt h1
    ·have:=((old x hx).tk hxt).2.2.2;omega
   obtain ⟨n1,n2,n3⟩:=List.nodup_append.1 base
   refine List.nodup_append.2 ⟨n1,List.nodup_cons.2 ⟨fun hm=>?_,n2⟩,fun a ha c hc=>?_⟩
   ·obtain ⟨x,hx,hxt⟩:=List.mem_filterMap.1 hm
    exact fresh x (List.mem_append_right _ hx) hxt
   ·rcases List.mem_cons.1 hc with rfl | hc
    ·intro e2;subst e2
     obtain ⟨x,hx,hxt⟩:=List.mem_filterMap.1 ha
     exact fresh x (List.mem_append_left _ hx) hxt
    ·exact n3 a ha c hc
theorem Got_arrI {n esz id o:Nat} {i:Int} {K:VV→Prop} (h0:0≤i) (h:i<n) (hk:K (.ptr id (o+i.toNat*esz))):@Got _ (viaArr n esz (.ptr id o) (vi i)) ⟨K⟩:=⟨.ptr id (o+i.toNat*esz),by unfold viaArr;simp [h0,h,vadd],hk⟩
def fzV (id z:Nat) (cs:List VV):VV→VV
 | .slice i o n c=>if i=id∧n≤c∧o+n*z≤cs.length then .lst n ((cs.drop o).take (n*z)) else .slice i o n c
 | .agg xs=>.agg (xs.map (fzV id z cs))
 | .tup xs=>.tup (xs.map (fzV id z cs))
 | .v x=>.v x
 | .ptr i o=>.ptr i o
 | .lst n xs=>.lst n xs
 | .own z n xs t=>.own z n xs t
 | .ep xs o=>.ep xs o
 | .fn f a b=>.fn f a b
 | .yield id=>.yield id
 | .map id=>.map id
 | .iface t x=>.iface t x
 | .tab=>.tab
theorem VRel.fz {σ:VSt} {S:St} (h:VSim σ S) {id:Nat} {cs:List VV} {t:TypeId} {z b:Nat} (hg:σ.heap id=.cells cs t z b) {v:VV} {v':Value} (hr:VRel σ.G S v v'):VRel (σ.freeze id).G S (fzV id z cs v) v':=by
 obtain ⟨f1,f2,f3⟩:=h.freeze hg
 induction hr with
 | slice i o n c=>
  rw [fzV]
  split
  ·rename_i hc
   obtain ⟨rfl,h1,h2⟩:=hc
   exact f3 o n c h1 h2
  ·exact .slice i o n c
 | agg xs a hs hx ih=>rw [fzV];exact .agg _ a (by simpa using hs) (fun i h1 h2=>by simpa using ih i (by simpa using h1) h2)
 | tup xs a hs hx ih=>rw [fzV];exact .tup _ a (by simpa using hs) (fun i h1 h2=>by simpa using ih i (by simpa using h1) h2)
 | v x hf=>rw [fzV];exact .v x hf
 | ptr i o=>rw [fzV];exact .ptr i o
 | lstNil=>rw [fzV];exact .lstNil
 | lst zz i o n c cc tt xs hG hl hn hx hb hh ih=>rw [fzV];exact (VRel.lst zz i o n c cc tt xs hG hl hn hx hb hh).step f2
 | own zz i n cc tt xs hG hl hx hb hh ih=>rw [fzV];exact (VRel.own zz i n cc tt xs hG hl hx hb hh).step f2
 | ep zz i o bb cc tt xs hG hl hb hh ih=>rw [fzV];exact (VRel.ep zz i o bb cc tt xs hG hl hb hh).step f2
 | fn f a b a' b' ha hb h1 h2 ih1 ih2=>rw [fzV];exact (VRel.fn f a b a' b' ha hb h1 h2).step f2
 | yield i=>rw [fzV];exact .yield i
 | map i=>rw [fzV];exact .map i
 | iface tt x x' hx ih=>rw [fzV];exact (VRel.iface tt x x' hx).step f2
 | tab=>rw [fzV];exact .tab
theorem VG.fz {P:Program} [Prim P] {g:Go.Fn} {args:List VV} {σ:VSt} {Q Q':VV→VSt→Prop} (h:VG P g args σ Q)
  (hq:∀ v σ',Q v σ'→∃ id cs t z b,σ'.heap id=.cells cs t z b∧Q' (fzV id z cs v) (σ'.freeze id)):VG P g args σ Q':=fun S args' h1 h2=>by
 refine XG.mono (h S args' h1 h2) ?_
 rintro v' S' ⟨v,σ',k1,k2,k3,k4⟩
 obtain ⟨id,cs,t,z,b,hg,hq'⟩:=hq _ _ k4
 obtain ⟨f1,f2,f3⟩:=k1.freeze hg
 exact ⟨_,_,f1,k2.trans f2,k3.fz k1 hg,hq'⟩
theorem VCall.goP {P:Program} [Prim P] {σ:VSt} {f:FuncId} {args args2:List VV} {R:VV→Prop} {k:Bool × Bool} {K:VV→VSt→Bool→Prop} (ha:args.map VV.fg=args2) (h:VC P f args2 σ (fun r σ'=>σ.next≤σ'.low∧R r.fg)) (hq:∀ v n,R v→K v (σ.skip n) true):@VCall P _ f args ⟨(k,σ,K)⟩:=by
 show VCK P k (.func f) args σ K
 have h0:VG P (.func f) args σ (fun r σ'=>σ.next≤σ'.low∧R r):=by
  refine VG.mono (VG.resFg (VC.fg (by rw [← ha];exact FgL.map args) h)) ?_
  rintro v σ' ⟨v0,rfl,h1,h2⟩
  exact ⟨h1,h2⟩
 refine VG.mono (VG.drop0 h0) ?_
 rintro v τ ⟨n,hr,hlow,rfl⟩
 refine ⟨true,fun _=>Nat.le_refl _,fun _=>rfl,?_⟩
 rw [VSt.join_pu hlow,VSt.pu_skip]
 exact hq v n hr
end Go.Proofs.YtghcggoodgfaoaaGreatDoor

set_option linter.unusedVariables false
set_option linter.unusedSectionVars false
namespace Go.Proofs.YtghcggoodgfaoaaGreatDoor
open Go Go.RowKit
structure CE where
 f:FuncId
 cond:St→List Value→Prop
 out:St→Value × St
structure CE.Good (P:Program) (e:CE):Prop where
 fn:∃ fn,P.funcs[e.f]? = some fn∧fn.body.isSome=true∧(fn.name == "runtime.NumGoroutine")=false
 ws:∀ S args,e.cond S args→WS S→ScL S.next args→WS (e.out S).2∧S.next≤(e.out S).2.next∧Sc (e.out S).2.next (e.out S).1
 ok:∀ B φ S w args args',e.cond S args→RelA φ args.toArray args'→Sim B φ S w→B≤w.heap.size→Calls P e.f args' w (OutC B φ S w (e.out S).1 (e.out S).2)
open Classical in
noncomputable def runCE (L:List CE):Base:=fun f args S=>(L.find? fun e=>decide (e.f=f∧e.cond S args.toList)).map fun e=>e.out S
open Classical in
theorem runCE_inv {L:List CE} {f:FuncId} {args:Array Value} {S:St} {v:Value} {S':St} (h:runCE L f args S=some (v,S')):∃ e∈L,e.f=f∧e.cond S args.toList∧e.out S=(v,S'):=by
 unfold runCE at h
 rw [Option.map_eq_some_iff]at h
 obtain ⟨e,h1,h2⟩:=h
 have h3:=List.find?_some h1
 have h4:=of_decide_eq_true h3
 exact ⟨e,List.mem_of_find?_eq_some h1,h4.1,h4.2,h2⟩
open Classical in
theorem runCE_some {L:List CE} {f:FuncId} {args:Array Value} {S:St} (h:∃ e∈L,e.f=f∧e.cond S args.toList):∃ e∈L,e.f=f∧e.cond S args.toList∧runCE L f args S=some (e.out S):=by
 obtain ⟨e,h1,h2⟩:=h
 have h3:(L.find? fun e=>decide (e.f=f∧e.cond S args.toList)).isSome=true:=List.find?_isSome.2 ⟨e,h1,decide_eq_true h2⟩
 obtain ⟨e',h4⟩:=Option.isSome_iff_exists.1 h3
 have h5:e'.f=f∧e'.cond S args.toList:=of_decide_eq_true (List.find?_some (p:=fun e:CE=>decide (e.f=f∧e.cond S args.toList)) h4)
 exact ⟨e',List.mem_of_find?_eq_some h4,h5.1,h5.2,by unfold runCE;rw [h4];rfl⟩
def PrimD (P:Program):=Prim P
noncomputable def primCE {P:Program} (L:List CE) (hg:∀ e∈L,e.Good P):PrimD P:=show Prim P from ⟨runCE L,fun f args S v S' h hw hsc=>by
 obtain ⟨e,h1,h2,h3,h4⟩:=runCE_inv h
 have:=(hg e h1).ws S _ h3 hw hsc
 rw [h4]at this
 exact this,fun B g args S v S' h=>by
 cases g with
 | func f=>
  obtain ⟨e,h1,rfl,h3,h4⟩:=runCE_inv h
  refine ⟨(hg e h1).fn,fun φ w args' hr hs hB=>?_⟩
  have:=(hg e h1).ok B φ S w _ args' h3 hr hs hB
  rw [h4]at this
  exact this
 | _=>cases h⟩
def ceF (f:FuncId) (args:List Value) (v:Value):CE:=⟨f,fun S a=>a=args,fun S=>(v,S)⟩
def ceR (f:FuncId) (n:Nat) (c rest ex:List Value) (v:Value):CE:=⟨f,fun S a=>headR n c rest ex S a,fun S=>(v,S)⟩
def ceG (f:FuncId) (args:List Value) (n:Nat) (c rest:List Value) (z:Nat) (r:Value) (t:TypeId):CE:=⟨f,fun S a=>a=args,fun S=>(rowRes S.next n rest r,S.alloc (.cells c t z true []))⟩
theorem Clo.good {P:Program} {f:FuncId} {args:List Value} {v:Value} (h:Clo P f args v):(ceF f args v).Good P:=by
 refine ⟨h.fn,fun S a ha hw hsc=>⟨hw,Nat.le_refl _,Sc.flatW h.res⟩,fun B φ S w a a' ha hr hs hB=>?_⟩
 obtain rfl:a=args:=ha
 obtain rfl:=args_inv (by simpa using h.flat) hr
 exact h.calls B φ S w hs hB
theorem CloR.good {P:Program} {f:FuncId} {n:Nat} {c rest ex:List Value} {v:Value} (h:CloR P f n c rest ex v):(ceR f n c rest ex v).Good P:=
 ⟨h.fn,fun S a ha hw hsc=>⟨hw,Nat.le_refl _,Sc.flatW h.res⟩,fun B φ S w a a' ha hr hs hB=>h.calls B φ S w a a' ha hr hs hB⟩
theorem CloG.good {P:Program} {f:FuncId} {args:List Value} {n:Nat} {c rest:List Value} {z:Nat} {r:Value} (h:CloG P f args n c rest z r) (t:TypeId):(ceG f args n c rest z r t).Good P:=by
 refine ⟨h.fn,fun S a ha hw hsc=>?_,fun B φ S w a a' ha hr hs hB=>?_⟩
 ·show WS (S.alloc (.cells c t z true []))∧S.next≤S.next+1∧Sc (S.next+1) (rowRes S.next n rest r)
  refine ⟨⟨fun id hid=>?_,fun id c' t' z' mi an hg=>?_,fun id o hg=>?_⟩,by omega,.tuple _ fun i hi=>?_⟩
  ·have:S.next+1≤id:=hid
   rw [St.get_alloc,if_neg (by omega)];exact hw.gone id (by omega)
  ·rw [St.get_alloc]at hg
   split at hg
   ·cases hg;exact ScL.flat h.cells
   ·exact fun x hx=>(hw.cell id _ _ _ _ _ hg x hx).mono (by show S.next≤S.next+1;omega)
  ·rw [St.get_alloc]at hg
   split at hg
   ·cases hg
   ·exact (hw.obj id o hg).mono (by show S.next≤S.next+1;omega)
  ·match i,hi with
   | 0,_=>
    refine ScL.agg fun y hy=>?_
    rcases List.mem_cons.1 hy with rfl | hy
    ·exact .slice _ _ _ _ (by omega)
    ·exact ScL.flat h.restf y hy
   | 1,_=>exact Sc.flat1 h.one
   | i+2,h=>exact absurd h (Nat.not_lt_of_le (by show 2≤i+2;omega))
 ·obtain rfl:a=args:=ha
  obtain rfl:=args_inv (by simpa using h.flat) hr
  exact h.calls t B φ S w hs hB
section
variable {P:Program} {L:List CE} {hg:∀ e∈L,e.Good P} {f:FuncId} {args:List VV} {σ:VSt} {Q:VV→VSt→Prop}
theorem VC_ce (hf:XF P f=none) (hq:∀ S (args':Array Value),VSim σ S→VRelL σ.G S args args'.toList→(∃ e∈L,e.f=f∧e.cond S args'.toList)∧∀ e∈L,e.f=f→e.cond S args'.toList→∃ v σ',VSim σ' (e.out S).2∧VStep σ.fresh S σ' (e.out S).2∧VRel σ'.G (e.out S).2 v (e.out S).1∧Q v σ'):@VC P (primCE L hg) f args σ Q:=fun S args' h1 h2=>by
 obtain ⟨k1,k2⟩:=hq S args' h1 h2
 obtain ⟨e,e1,e2,e3,e4⟩:=runCE_some k1
 exact @XC_prim P (primCE L hg) f hf _ _ _ ⟨_,_,e4,k2 e e1 e2 e3⟩
def toW:Value→VV
 | .tuple a=>.tup (a.toList.map toV)
 | v=>toV v
theorem VRel.toW {G:Nat→Prop} {S:St} {v:Value} (h:flatW v=true):VRel G S (toW v) v:=by
 unfold flatW at h
 unfold Go.Proofs.YtghcggoodgfaoaaGreatDoor.toW
 split at h
 ·rename_i a
  simp only [List.all_eq_true]at h
  exact .tup _ _ (by simp) fun i h1 h2=>by
   rw [List.getElem_map]
   exact .toV (h _ (by simp))
 ·rename_i n1
  split
  ·exact (n1 _ rfl).elim
  ·exact .toV h
theorem VRel.v_eq {G:Nat→Prop} {S:St} {x y:Value} (h:VRel G S (.v x) y):y=x:=by cases h;rfl
theorem VRelL.v_inv {G:Nat→Prop} {S:St} {l:List Value} {l':List Value} (h:VRelL G S (l.map .v) l'):l'=l:=by
 have hl:l.length=l'.length:=by simpa using h.1
 apply List.ext_getElem hl.symm
 intro i h1 h2
 have:=h.2 i (by simpa using h2) h1
 rw [List.getElem_map]at this
 exact this.v_eq
theorem headR_of {S:St} {n:Nat} {c rest:List Value} {xs ys:List VV} {args':Array Value} (hx:xs=c.map .v) (hy:ys=rest.map .v) (h:VRelL σ.G S [.agg (.lst n xs::ys)] args'.toList):headR n c rest [] S args'.toList:=by
 obtain ⟨l'⟩:=args'
 match l',h with
 | [x'],h=>
  have hx':VRel σ.G S (.agg (.lst n xs::ys)) x':=h.2 0 (by simp) (by simp)
  cases hx' with
  | agg _ a hs he=>
   refine ⟨a,rfl,?_⟩
   obtain ⟨la⟩:=a
   match la,hs,he with
   | q::la,hs,he=>
    have hq:VRel σ.G S (.lst n xs) q:=he 0 (by simp) (by simp)
    have hla:la=rest:=by
     apply VRelL.v_inv (G:=σ.G) (S:=S)
     rw [← hy]
     exact ⟨by simpa using hs,fun i h1 h2=>by
      have:=he (i+1) (by simpa using h1) (by simpa using h2)
      simpa using this⟩
    subst hla
    cases hq with
    | lstNil=>
     right
     exact ⟨List.map_eq_nil_iff.1 hx.symm,rfl,rfl⟩
    | lst z id o _ c0 cc t _ hG hl hn hxz hb hr=>
     left
     subst hx
     rw [List.length_map]at hb
     refine ⟨id,o,c0,cc,t,z,rfl,hl,hb,?_⟩
     have hp:=VRelL.part (xs:=c.map .v) (by rw [List.length_map];exact hb) hr
     rw [List.length_map]at hp
     exact VRelL.v_inv hp
   | [],hs,_=>simp at hs
 | [],h=>simp [VRelL]at h
 | _::_::_,h=>simp [VRelL]at h
theorem VC_row (hf:XF P f=none) {n:Nat} {xs ys:List VV} (c rest:List Value) (v:Value) (hx:xs=c.map .v) (hy:ys=rest.map .v) (hin:ceR f n c rest [] v∈L) (hun:∀ e∈L,e.f=f→∀ S,e.out S=(v,S)) (hv:flatW v=true):@VC P (primCE L hg) f [.agg (.lst n xs::ys)] σ (fun r σ'=>σ.next≤σ'.low∧r=toW v):=
 VC_ce hf fun S args' h1 h2=>⟨⟨_,hin,rfl,headR_of hx hy h2⟩,fun e he hef hc=>by
  rw [hun e he hef S]
  exact ⟨toW v,σ.fresh,h1.fresh,.refl _ _,.toW hv,Nat.le_refl _,rfl⟩⟩
theorem VSim.lay {S:St} (h:VSim σ S) (c:List Value) (t:TypeId) (z:Nat):VSim { σ.fresh with next:=σ.next+1 } (S.alloc (.cells c t z true []))∧VStep σ.fresh S { σ.fresh with next:=σ.next+1 } (S.alloc (.cells c t z true [])):=by
 have hn:=h.next
 have st:VStep σ.fresh S { σ.fresh with next:=σ.next+1 } (S.alloc (.cells c t z true [])):=
  ⟨Nat.le_add_right _ _,fun id hid=>⟨hid.2,by rw [St.get_alloc,if_neg (by have:id<σ.next:=hid.1;omega)]⟩,Nat.le_refl _,fun id h1 h2=>⟨rfl,rfl,by rw [St.get_alloc,if_neg (by have:id<σ.next:=h1;omega)]⟩⟩
 refine ⟨⟨by show σ.next+1=S.next+1;rw [hn],fun id hid=>?_,by show σ.next≤σ.next+1;omega,fun id=>?_⟩,st⟩
 ·have:σ.next+1≤id:=hid
  exact h.hi id (by omega)
 ·by_cases e:id=σ.next
  ·subst e
   have h1:=h.hi σ.next (Nat.le_refl _)
   show BRel _ _ _ _ (σ.heap σ.next) (σ.live σ.next) _
   rw [h1.1,h1.2]
   exact fun h=>by cases h
  ·show BRel _ _ _ _ (σ.heap id) (σ.live id) _
   rw [St.get_alloc,if_neg (by omega)]
   exact (h.blk id).mono (fun j hj=>⟨⟨Nat.lt_of_lt_of_le hj.1 (Nat.le_add_right _ _),hj.2⟩,by rw [St.get_alloc,if_neg (by have:j<σ.next:=hj.1;omega)]⟩) fun _ hd=>hd
theorem VRel.rowRes {S:St} {n z:Nat} {c rest:List Value} {r:Value} {t:TypeId} (h:VSim σ S) (hc:flatL c=true) (hr:flatL rest=true) (h1:flat1 r=true) (hn:c.length=n*z) :
  VRel ({ σ.fresh with next:=σ.next+1 }:VSt).G (S.alloc (.cells c t z true [])) (.tup [.agg (.lst n (c.map .v)::rest.map .v),.v r]) (rowRes S.next n rest r):=by
 have hnx:=h.next
 refine .tup _ _ rfl fun i h2 h3=>?_
 match i,h2 with
 | 0,_=>
  refine .agg _ _ (by simp) fun j h4 h5=>?_
  cases j with
  | zero=>
   refine .lst z S.next 0 n n c t _ ⟨by show S.next<σ.next+1;omega,?_⟩ (by rw [St.get_alloc,if_pos rfl];rfl) (Nat.le_refl _) (by rw [List.length_map];exact hn) (by rw [List.length_map];omega) fun k h6 h7=>?_
   ·show σ.heap S.next=.gone
    exact (h.hi _ (by omega)).1
   ·rw [List.getElem_map]
    simp only [Nat.zero_add]
    exact .v _ (by simp only [flatL,List.all_eq_true]at hc;exact hc _ (List.getElem_mem _))
  | succ j=>
   simp only [List.getElem_cons_succ,List.getElem_map]
   exact .v _ (by simp only [flatL,List.all_eq_true]at hr;exact hr _ (by simp))
 | 1,_=>exact .v _ h1
 | i+2,h=>exact absurd h (Nat.not_lt_of_le (by show 2≤i+2;omega))
end
theorem FgL.refl:∀ (args:List VV),FgL args args
 | []=>trivial
 | a::r=>⟨.inl rfl,FgL.refl r⟩
end Go.Proofs.YtghcggoodgfaoaaGreatDoor

set_option linter.defProp false
namespace Go.Proofs.YtghcggoodgfaoaaGreatDoor
open Go Go.RowKit
def wsD:=And.intro @VW_skip (And.intro @VW_exit (And.intro @VW_ret (And.intro @VW_region (And.intro @VW_draw (And.intro @VW_seq (And.intro @VW_block (And.intro @VW_cond (And.intro @VW_stuck (And.intro @VW_range (And.intro @vbindN_normal (And.intro @vbindN_exit (And.intro @vbindN_ret (And.intro @vbindB_normal (And.intro @vbindB_ret (And.intro @vbindB_self (And.intro @vbindB_ne (And.intro @vbindL_normal (And.intro @vbindL_exit (And.intro @vbindL_ret (And.intro @vatExit_self (And.intro @vatExit_ne (And.intro @vatExit_ret (And.intro @vatEnd_normal (And.intro @vatEnd_ret (And.intro @VO_nil (And.intro @VO_cons (And.intro @VO_cons_drop (And.intro @VO_guard (And.intro @VO_guard_drop (And.intro @VM_nil (And.intro @VM_cons (And.intro @VM_cons_drop (And.intro @VM_guard (And.intro @VM_guard_drop (And.intro @vearlyP_false (And.intro @vearly_load (And.intro @vearly_sl (And.intro @VS_mv (And.intro @VS_call (And.intro @VS_callv (And.intro @VS_load (And.intro @VS_fa (And.intro @VS_fld (And.intro @VS_ia (And.intro @VS_iaArr (And.intro @VS_idx (And.intro @VS_bin (And.intro @VS_len (And.intro @VS_lenStr (And.intro @VS_ext (And.intro @VS_eqf (And.intro @VS_eqb (And.intro @VS_eqp (And.intro @VS_eqs (And.intro @VS_un (And.intro @VS_cvi (And.intro @VS_cvs (And.intro @VS_nilck (And.intro @VS_pick (And.intro @VS_mkFunc (And.intro @VS_mkIface (And.intro @VS_build (And.intro @VS_box (And.intro @VS_zeroA (And.intro @VS_zeroI (And.intro @VS_zeroB (And.intro @VS_zeroT (And.intro @VS_zeroS (And.intro @VS_zeroP (And.intro @VS_zeroM (And.intro @VS_zeroF (And.intro @VS_store (And.intro @VS_buildSlice (And.intro @VS_append (And.intro @VS_copy (And.intro @VS_clr (And.intro @VS_sl (And.intro @VS_slStr (And.intro @VS_idxStr (And.intro @VS_mkSlice (And.intro @VS_minmax (And.intro @VS_extra0 (And.intro @VS_extraL (And.intro @VS_extraM (And.intro @VS_extraC (And.intro @VS_extraG (And.intro @VS_extraK (And.intro @VS_extraN (And.intro @vfev_tmp (And.intro @vfev_int (And.intro @vfev_bool (And.intro @vfev_str (And.intro @vfev_nilS (And.intro @vfev_nilP (And.intro @vfev_nilM (And.intro @vfev_nilF (And.intro @vfev_nilI (And.intro @vfev_agg (And.intro @vfev_tup (And.intro @vfev_func (And.intro @vupd_same (And.intro @vupd_ne (And.intro @vfe0_zero (And.intro @vfe0_succ (@vld_ptr)))))))))))))))))))))))))))))))))))))))))))))))))))))))))))))))))))))))))))))))))))))))))))))))))))))))))
def wsC:=And.intro @VW_skip (And.intro @VW_exit (And.intro @VW_ret (And.intro @VW_region (And.intro @VW_draw (And.intro @VW_seq (And.intro @VW_block (And.intro @VW_stuck (And.intro @VW_range (And.intro @vbindN_normal (And.intro @vbindN_exit (And.intro @vbindN_ret (And.intro @vbindB_normal (And.intro @vbindB_ret (And.intro @vbindB_self (And.intro @vbindB_ne (And.intro @vbindL_normal (And.intro @vbindL_exit (And.intro @vbindL_ret (And.intro @vatExit_self (And.intro @vatExit_ne (And.intro @vatExit_ret (And.intro @vatEnd_normal (And.intro @vatEnd_ret (And.intro @VO_nil (And.intro @VO_cons (And.intro @VO_cons_drop (And.intro @VO_guard (And.intro @VO_guard_drop (And.intro @VM_nil (And.intro @VM_cons (And.intro @VM_cons_drop (And.intro @VM_guard (And.intro @VM_guard_drop (And.intro @vearlyP_false (And.intro @vearly_load (And.intro @vearly_sl (And.intro @VS_mv (And.intro @VS_call (And.intro @VS_callv (And.intro @VS_load (And.intro @VS_fa (And.intro @VS_fld (And.intro @VS_ia (And.intro @VS_iaArr (And.intro @VS_idx (And.intro @VS_bin (And.intro @VS_len (And.intro @VS_lenStr (And.intro @VS_ext (And.intro @VS_eqf (And.intro @VS_eqb (And.intro @VS_eqp (And.intro @VS_eqs (And.intro @VS_un (And.intro @VS_cvi (And.intro @VS_cvs (And.intro @VS_nilck (And.intro @VS_pick (And.intro @VS_mkFunc (And.intro @VS_mkIface (And.intro @VS_build (And.intro @VS_box (And.intro @VS_zeroA (And.intro @VS_zeroI (And.intro @VS_zeroB (And.intro @VS_zeroT (And.intro @VS_zeroS (And.intro @VS_zeroP (And.intro @VS_zeroM (And.intro @VS_zeroF (And.intro @VS_store (And.intro @VS_buildSlice (And.intro @VS_append (And.intro @VS_copy (And.intro @VS_clr (And.intro @VS_sl (And.intro @VS_slStr (And.intro @VS_idxStr (And.intro @VS_mkSlice (And.intro @VS_minmax (And.intro @VS_extra0 (And.intro @VS_extraL (And.intro @VS_extraM (And.intro @VS_extraC (And.intro @VS_extraG (And.intro @VS_extraK (And.intro @VS_extraN (And.intro @vfev_tmp (And.intro @vfev_int (And.intro @vfev_bool (And.intro @vfev_str (And.intro @vfev_nilS (And.intro @vfev_nilP (And.intro @vfev_nilM (And.intro @vfev_nilF (And.intro @vfev_nilI (And.intro @vfev_agg (And.intro @vfev_tup (And.intro @vfev_func (And.intro @vupd_same (And.intro @vupd_ne (And.intro @vfe0_zero (And.intro @vfe0_succ (@vld_ptr))))))))))))))))))))))))))))))))))))))))))))))))))))))))))))))))))))))))))))))))))))))))))))))))))))))))
def wsU:=And.intro @VLow_ptr (And.intro @VLow_slice (And.intro @VLow_v (And.intro @VLow_ep (And.intro @VLow_lst (And.intro @VLow_own (And.intro @VLow_vep (And.intro @VLow_vl (And.intro @VLow_vo (And.intro @oldU_same (And.intro @oldU_ne (And.intro @oldOpd_tmp (And.intro @oldOpd_const (And.intro @Now_any (And.intro @Got_some (And.intro @TestV_true (And.intro @TestV_false (And.intro @PickV_tt (And.intro @PickV_ft (And.intro @PickV_tf (And.intro @PickV_ff (And.intro @PickV_undef (And.intro @vrs_one (And.intro @vrs_two (And.intro @vrs_three (And.intro @vrs_four (And.intro @vrs_nil (And.intro @vr1_tmp (And.intro @vr1_cell (And.intro @vrdB_cells (And.intro @vst_ptr (And.intro @vstB_cells (And.intro @vadd_ptr (And.intro @vadd_ep (And.intro @vadd_vep (And.intro @vnilck_ptr (And.intro @vnilck_ep (And.intro @vnilck_vep (And.intro @vnilck_fn (And.intro @vext_zero (And.intro @vext_one (And.intro @vext_two (And.intro @vext_three (And.intro @len_vl (And.intro @len_vo (And.intro @vlenv_nil (And.intro @vlenv_slice (And.intro @vpart_agg (And.intro @vpart_one (And.intro @cs_agg (And.intro @cs_v (And.intro @cs_vl (And.intro @cs_vo (And.intro @cs_lst (And.intro @cs_own (And.intro @cs_slice (And.intro @cs_ptr (And.intro @cs_map (And.intro @cs_fn (And.intro @vAll_v (And.intro @vAll_vl (And.intro @vAll_vo (And.intro @vAll_lst (And.intro @vAll_own (And.intro @vAll_slice (And.intro @vAll_ptr (And.intro @vAll_map (And.intro @vAll_fn (And.intro @vAll_nil (And.intro @VCallv_func (And.intro @VCallv_yield (And.intro @Need_true (And.intro @vpick_t (And.intro @vpick_f (And.intro @notIf_tt (And.intro @notIf_tf (And.intro @notIf_ff (And.intro @vun_not (And.intro @veqb_b (And.intro @VEqs_own (And.intro @VEqs_slice (And.intro @VEqs_nil (And.intro @flatL_int (And.intro @flatL_bool (And.intro @flatL_str (And.intro @flatL_slice (And.intro @flatL_ptr (And.intro @flatL_map (And.intro @flatL_fn (And.intro @flatL_nil (And.intro @next_box (And.intro @next_write (And.intro @next_newTok (And.intro @next_useTok (And.intro @next_fresh (And.intro @via_vl (And.intro @via_vo (And.intro @vld_vep (And.intro @wInt (And.intro @eInt (And.intro @wBool (And.intro @eBool (And.intro @vcont_vl (And.intro @vcont_vo (And.intro @vbin_add (And.intro @vbin_sub (And.intro @vbin_mul (And.intro @vbin_eql (And.intro @vbin_neq (And.intro @vbin_lss (And.intro @vbin_leq (And.intro @vbin_gtr (And.intro @vbin_geq (And.intro @vmm_min (And.intro @vmm_max (And.intro @vun_neg (And.intro @heap_skip (And.intro @next_skip (And.intro @low_skip (And.intro @heap_pu (And.intro @next_pu (And.intro @low_pu (And.intro @low_box (And.intro @low_write (And.intro @low_newTok (@low_fresh)))))))))))))))))))))))))))))))))))))))))))))))))))))))))))))))))))))))))))))))))))))))))))))))))))))))))))))))))))))))))))))
def wmU:=And.intro @heap_box (And.intro @heap_write (And.intro @heap_newTok (@heap_fresh)))
def wfU:=And.intro @vfill_nil (And.intro @vfill_cons (And.intro @fg_int (And.intro @fg_bool (And.intro @fg_str (And.intro @fg_vl (And.intro @fg_vo (And.intro @fg_nilS (And.intro @fg_agg (And.intro @fg_tup (And.intro @fg_ptr (And.intro @fg_map (And.intro @fg_fn (@fg_slice)))))))))))))
end Go.Proofs.YtghcggoodgfaoaaGreatDoor

set_option linter.unusedSimpArgs false
set_option linter.unusedSectionVars false
set_option linter.unusedVariables false
namespace Go.Proofs.YtghcggoodgfaoaaGreatDoor
open Go Go.RowKit
instance encList {α:Type} [VEnc α]:VEnc (List α):=⟨1,fun l=>[vl l],fun _=>rfl,fun _=>rfl,fun l=>by rw [List.map_cons,List.map_nil,fg_vl],by decide⟩
theorem wList {α:Type} [VEnc α]:VEnc.w (List α)=1:=rfl
theorem eList {α:Type} [VEnc α] (l:List α):VEnc.e l=[vl l]:=rfl
def arrV (n:Nat) (f:Nat→Int):List VV:=(List.range n).map fun i=>vi (f i)
theorem arrV_len (n:Nat) (f:Nat→Int):(arrV n f).length=n:=by simp [arrV]
theorem arrV_fg (n:Nat) (f:Nat→Int):(arrV n f).map VV.fg=arrV n f:=by
 unfold arrV
 rw [List.map_map]
 exact List.map_congr_left fun i _=>fg_int _ _
theorem arrV_all (n:Nat) (f:Nat→Int):vAll (arrV n f)=true:=by simp [arrV,vAll,VV.one1]
structure Msg where
 node:Int
 handler:Int
 count:Int
 index:Int
 copy:Int
 deriving DecidableEq,Inhabited
instance encMsg:VEnc Msg:=⟨5,fun a=>[vi a.node,vi a.handler,vi a.count,vi a.index,vi a.copy],fun _=>rfl,fun _=>rfl,fun _=>by simp only [List.map_append,List.map_cons,List.map_nil,fg_int,fg_bool,fg_vl,arrV_fg,VEnc.fgd],by decide⟩
theorem wMsg:VEnc.w Msg=5:=rfl
theorem eMsg (a:Msg):VEnc.e a=[vi a.node,vi a.handler,vi a.count,vi a.index,vi a.copy]:=rfl
theorem lenMsg (a:Msg):(VEnc.e a).length=5:=VEnc.len a
structure Evt where
 kind:Int
 node:Int
 arg:Int
 msg:Msg
 deriving DecidableEq,Inhabited
instance encEvt:VEnc Evt:=⟨8,fun a=>[vi a.kind,vi a.node,vi a.arg,vi a.msg.node,vi a.msg.handler,vi a.msg.count,vi a.msg.index,vi a.msg.copy],fun _=>rfl,fun _=>rfl,fun _=>by simp only [List.map_append,List.map_cons,List.map_nil,fg_int,fg_bool,fg_vl,arrV_fg,VEnc.fgd],by decide⟩
theorem wEvt:VEnc.w Evt=8:=rfl
theorem eEvt (a:Evt):VEnc.e a=[vi a.kind,vi a.node,vi a.arg,vi a.msg.node,vi a.msg.handler,vi a.msg.count,vi a.msg.index,vi a.msg.copy]:=rfl
theorem lenEvt (a:Evt):(VEnc.e a).length=8:=VEnc.len a
structure Evl where
 msg:Msg
 to:Int
 kind:Int
 a:Int
 b:Int
 deriving DecidableEq,Inhabited
instance encEvl:VEnc Evl:=⟨9,fun a=>[vi a.msg.node,vi a.msg.handler,vi a.msg.count,vi a.msg.index,vi a.msg.copy,vi a.to,vi a.kind,vi a.a,vi a.b],fun _=>rfl,fun _=>rfl,fun _=>by simp only [List.map_append,List.map_cons,List.map_nil,fg_int,fg_bool,fg_vl,arrV_fg,VEnc.fgd],by decide⟩
theorem wEvl:VEnc.w Evl=9:=rfl
theorem eEvl (a:Evl):VEnc.e a=[vi a.msg.node,vi a.msg.handler,vi a.msg.count,vi a.msg.index,vi a.msg.copy,vi a.to,vi a.kind,vi a.a,vi a.b]:=rfl
theorem lenEvl (a:Evl):(VEnc.e a).length=9:=VEnc.len a
structure Qn where
 node:Int
 handler:Int
 count:Int
 kind:Int
 index:Int
 deriving DecidableEq,Inhabited
instance encQn:VEnc Qn:=⟨5,fun a=>[vi a.node,vi a.handler,vi a.count,vi a.kind,vi a.index],fun _=>rfl,fun _=>rfl,fun _=>by simp only [List.map_append,List.map_cons,List.map_nil,fg_int,fg_bool,fg_vl,arrV_fg,VEnc.fgd],by decide⟩
theorem wQn:VEnc.w Qn=5:=rfl
theorem eQn (a:Qn):VEnc.e a=[vi a.node,vi a.handler,vi a.count,vi a.kind,vi a.index]:=rfl
theorem lenQn (a:Qn):(VEnc.e a).length=5:=VEnc.len a
structure Ans where
 q:Qn
 n:Int
 deriving DecidableEq,Inhabited
instance encAns:VEnc Ans:=⟨6,fun a=>[vi a.q.node,vi a.q.handler,vi a.q.count,vi a.q.kind,vi a.q.index,vi a.n],fun _=>rfl,fun _=>rfl,fun _=>by simp only [List.map_append,List.map_cons,List.map_nil,fg_int,fg_bool,fg_vl,arrV_fg,VEnc.fgd],by decide⟩
theorem wAns:VEnc.w Ans=6:=rfl
theorem eAns (a:Ans):VEnc.e a=[vi a.q.node,vi a.q.handler,vi a.q.count,vi a.q.kind,vi a.q.index,vi a.n]:=rfl
theorem lenAns (a:Ans):(VEnc.e a).length=6:=VEnc.len a
structure Ask where
 q:Qn
 arity:Int
 n:Int
 deriving DecidableEq,Inhabited
instance encAsk:VEnc Ask:=⟨7,fun a=>[vi a.q.node,vi a.q.handler,vi a.q.count,vi a.q.kind,vi a.q.index,vi a.arity,vi a.n],fun _=>rfl,fun _=>rfl,fun _=>by simp only [List.map_append,List.map_cons,List.map_nil,fg_int,fg_bool,fg_vl,arrV_fg,VEnc.fgd],by decide⟩
theorem wAsk:VEnc.w Ask=7:=rfl
theorem eAsk (a:Ask):VEnc.e a=[vi a.q.node,vi a.q.handler,vi a.q.count,vi a.q.kind,vi a.q.index,vi a.arity,vi a.n]:=rfl
theorem lenAsk (a:Ask):(VEnc.e a).length=7:=VEnc.len a
structure Ins where
 op:Int
 n:Int
 deriving DecidableEq,Inhabited
instance encIns:VEnc Ins:=⟨2,fun a=>[vi a.op,vi a.n],fun _=>rfl,fun _=>rfl,fun _=>by simp only [List.map_append,List.map_cons,List.map_nil,fg_int,fg_bool,fg_vl,arrV_fg,VEnc.fgd],by decide⟩
theorem wIns:VEnc.w Ins=2:=rfl
theorem eIns (a:Ins):VEnc.e a=[vi a.op,vi a.n]:=rfl
theorem lenIns (a:Ins):(VEnc.e a).length=2:=VEnc.len a
structure Act where
 kind:Int
 a:Int
 b:Int
 c:Int
 d:Int
 deriving DecidableEq,Inhabited
instance encAct:VEnc Act:=⟨5,fun a=>[vi a.kind,vi a.a,vi a.b,vi a.c,vi a.d],fun _=>rfl,fun _=>rfl,fun _=>by simp only [List.map_append,List.map_cons,List.map_nil,fg_int,fg_bool,fg_vl,arrV_fg,VEnc.fgd],by decide⟩
theorem wAct:VEnc.w Act=5:=rfl
theorem eAct (a:Act):VEnc.e a=[vi a.kind,vi a.a,vi a.b,vi a.c,vi a.d]:=rfl
theorem lenAct (a:Act):(VEnc.e a).length=5:=VEnc.len a
structure Wri where
 var:Int
 value:Int
 deriving DecidableEq,Inhabited
instance encWri:VEnc Wri:=⟨2,fun a=>[vi a.var,vi a.value],fun _=>rfl,fun _=>rfl,fun _=>by simp only [List.map_append,List.map_cons,List.map_nil,fg_int,fg_bool,fg_vl,arrV_fg,VEnc.fgd],by decide⟩
theorem wWri:VEnc.w Wri=2:=rfl
theorem eWri (a:Wri):VEnc.e a=[vi a.var,vi a.value]:=rfl
theorem lenWri (a:Wri):(VEnc.e a).length=2:=VEnc.len a
structure Req where
 node:Int
 op:Int
 key:Int
 arg:Int
 deriving DecidableEq,Inhabited
instance encReq:VEnc Req:=⟨4,fun a=>[vi a.node,vi a.op,vi a.key,vi a.arg],fun _=>rfl,fun _=>rfl,fun _=>by simp only [List.map_append,List.map_cons,List.map_nil,fg_int,fg_bool,fg_vl,arrV_fg,VEnc.fgd],by decide⟩
theorem wReq:VEnc.w Req=4:=rfl
theorem eReq (a:Req):VEnc.e a=[vi a.node,vi a.op,vi a.key,vi a.arg]:=rfl
theorem lenReq (a:Req):(VEnc.e a).length=4:=VEnc.len a
structure Obs where
 reply:Bool
 request:Int
 node:Int
 epoch:Int
 value:Int
 deriving DecidableEq,Inhabited
instance encObs:VEnc Obs:=⟨5,fun a=>[vb a.reply,vi a.request,vi a.node,vi a.epoch,vi a.value],fun _=>rfl,fun _=>rfl,fun _=>by simp only [List.map_append,List.map_cons,List.map_nil,fg_int,fg_bool,fg_vl,arrV_fg,VEnc.fgd],by decide⟩
theorem wObs:VEnc.w Obs=5:=rfl
theorem eObs (a:Obs):VEnc.e a=[vb a.reply,vi a.request,vi a.node,vi a.epoch,vi a.value]:=rfl
theorem lenObs (a:Obs):(VEnc.e a).length=5:=VEnc.len a
structure Fai where
 node:Int
 handler:Int
 count:Int
 code:Int
 deriving DecidableEq,Inhabited
instance encFai:VEnc Fai:=⟨4,fun a=>[vi a.node,vi a.handler,vi a.count,vi a.code],fun _=>rfl,fun _=>rfl,fun _=>by simp only [List.map_append,List.map_cons,List.map_nil,fg_int,fg_bool,fg_vl,arrV_fg,VEnc.fgd],by decide⟩
theorem wFai:VEnc.w Fai=4:=rfl
theorem eFai (a:Fai):VEnc.e a=[vi a.node,vi a.handler,vi a.count,vi a.code]:=rfl
theorem lenFai (a:Fai):(VEnc.e a).length=4:=VEnc.len a
structure Dsk where
 cells:List (Int)
 pending:List (Wri)
 deriving Inhabited
instance encDsk:VEnc Dsk:=⟨2,fun a=>[vl a.cells,vl a.pending],fun _=>rfl,fun _=>rfl,fun _=>by simp only [List.map_append,List.map_cons,List.map_nil,fg_int,fg_bool,fg_vl,arrV_fg,VEnc.fgd],by decide⟩
theorem wDsk:VEnc.w Dsk=2:=rfl
theorem eDsk (a:Dsk):VEnc.e a=[vl a.cells,vl a.pending]:=rfl
theorem lenDsk (a:Dsk):(VEnc.e a).length=2:=VEnc.len a
structure Stp where
 ev:Evt
 asks:List (Ask)
 obs:Bool
 sent:List (Msg)
 deriving Inhabited
instance encStp:VEnc Stp:=⟨11,fun a=>[vi a.ev.kind,vi a.ev.node,vi a.ev.arg,vi a.ev.msg.node,vi a.ev.msg.handler,vi a.ev.msg.count,vi a.ev.msg.index,vi a.ev.msg.copy,vl a.asks,vb a.obs,vl a.sent],fun _=>rfl,fun _=>rfl,fun _=>by simp only [List.map_append,List.map_cons,List.map_nil,fg_int,fg_bool,fg_vl,arrV_fg,VEnc.fgd],by decide⟩
theorem wStp:VEnc.w Stp=11:=rfl
theorem eStp (a:Stp):VEnc.e a=[vi a.ev.kind,vi a.ev.node,vi a.ev.arg,vi a.ev.msg.node,vi a.ev.msg.handler,vi a.ev.msg.count,vi a.ev.msg.index,vi a.ev.msg.copy,vl a.asks,vb a.obs,vl a.sent]:=rfl
theorem lenStp (a:Stp):(VEnc.e a).length=11:=VEnc.len a
structure Tap where
 events:List (Evt)
 answers:List (Ans)
 deriving Inhabited
instance encTap:VEnc Tap:=⟨2,fun a=>[vl a.events,vl a.answers],fun _=>rfl,fun _=>rfl,fun _=>by simp only [List.map_append,List.map_cons,List.map_nil,fg_int,fg_bool,fg_vl,arrV_fg,VEnc.fgd],by decide⟩
theorem wTap:VEnc.w Tap=2:=rfl
theorem eTap (a:Tap):VEnc.e a=[vl a.events,vl a.answers]:=rfl
theorem lenTap (a:Tap):(VEnc.e a).length=2:=VEnc.len a
structure Prg where
 code:List (Ins)
 entry:Nat→Int
 durable:Int
 volatile:Int
 deriving Inhabited
instance encPrg:VEnc Prg:=⟨43,fun a=>[vl a.code]++(arrV 40 a.entry++([vi a.durable,vi a.volatile])),fun a=>by simp only [List.length_append,arrV_len,VEnc.len,List.length_cons,List.length_nil]<;>rfl,fun a=>by simp only [vAll_append,arrV_all,VEnc.all,vAll_v,vAll_vl,vAll_nil,Bool.and_true],fun _=>by simp only [List.map_append,List.map_cons,List.map_nil,fg_int,fg_bool,fg_vl,arrV_fg,VEnc.fgd],by decide⟩
theorem wPrg:VEnc.w Prg=43:=rfl
theorem ePrg (a:Prg):VEnc.e a=[vl a.code]++(arrV 40 a.entry++([vi a.durable,vi a.volatile])):=rfl
theorem lenPrg (a:Prg):(VEnc.e a).length=43:=VEnc.len a
structure Nod where
 up:Bool
 version:Int
 epoch:Int
 clock:Int
 disk:Dsk
 vol:List (Int)
 timers:List (Int)
 counts:Nat→Int
 waiting:Int
 dropped:Int
 doubled:Int
 deriving Inhabited
instance encNod:VEnc Nod:=⟨52,fun a=>[vb a.up,vi a.version,vi a.epoch,vi a.clock]++(VEnc.e a.disk++([vl a.vol,vl a.timers]++(arrV 41 a.counts++([vi a.waiting,vi a.dropped,vi a.doubled])))),fun a=>by simp only [List.length_append,arrV_len,VEnc.len,List.length_cons,List.length_nil]<;>rfl,fun a=>by simp only [vAll_append,arrV_all,VEnc.all,vAll_v,vAll_vl,vAll_nil,Bool.and_true],fun _=>by simp only [List.map_append,List.map_cons,List.map_nil,fg_int,fg_bool,fg_vl,arrV_fg,VEnc.fgd],by decide⟩
theorem wNod:VEnc.w Nod=52:=rfl
theorem lenNod (a:Nod):(VEnc.e a).length=52:=VEnc.len a
structure Cfg where
 programs:List (Prg)
 first:List (Int)
 restarts:List (Int)
 requests:List (Req)
 crashes:Int
 drops:Int
 dups:Int
 drift:Int
 deriving Inhabited
instance encCfg:VEnc Cfg:=⟨8,fun a=>[vl a.programs,vl a.first,vl a.restarts,vl a.requests,vi a.crashes,vi a.drops,vi a.dups,vi a.drift],fun _=>rfl,fun _=>rfl,fun _=>by simp only [List.map_append,List.map_cons,List.map_nil,fg_int,fg_bool,fg_vl,arrV_fg,VEnc.fgd],by decide⟩
theorem wCfg:VEnc.w Cfg=8:=rfl
theorem eCfg (a:Cfg):VEnc.e a=[vl a.programs,vl a.first,vl a.restarts,vl a.requests,vi a.crashes,vi a.drops,vi a.dups,vi a.drift]:=rfl
theorem lenCfg (a:Cfg):(VEnc.e a).length=8:=VEnc.len a
structure Wst where
 c:Cfg
 nodes:List (Nod)
 flight:List (Evl)
 next:List (Int)
 obs:List (Obs)
 failures:List (List (Fai))
 traces:List (List (List (Int)))
 covered:List (Ins)
 steps:Int
 deriving Inhabited
instance encWst:VEnc Wst:=⟨16,fun a=>VEnc.e a.c++([vl a.nodes,vl a.flight,vl a.next,vl a.obs,vl a.failures,vl a.traces,vl a.covered,vi a.steps]),fun a=>by simp only [List.length_append,arrV_len,VEnc.len,List.length_cons,List.length_nil]<;>rfl,fun a=>by simp only [vAll_append,arrV_all,VEnc.all,vAll_v,vAll_vl,vAll_nil,Bool.and_true],fun _=>by simp only [List.map_append,List.map_cons,List.map_nil,fg_int,fg_bool,fg_vl,arrV_fg,VEnc.fgd],by decide⟩
theorem wWst:VEnc.w Wst=16:=rfl
theorem eWst (a:Wst):VEnc.e a=VEnc.e a.c++([vl a.nodes,vl a.flight,vl a.next,vl a.obs,vl a.failures,vl a.traces,vl a.covered,vi a.steps]):=rfl
theorem lenWst (a:Wst):(VEnc.e a).length=16:=VEnc.len a
theorem Prg_code (a:Prg):(VEnc.e a).take 1=[vl a.code]:=rfl
theorem Prg_code_set (a:Prg) (x:List (Ins)):vsplice (VEnc.e a) 0 ([vl x])=VEnc.e { a with code:=x }:=rfl
theorem Prg_entry (a:Prg):((VEnc.e a).drop 1).take 40=arrV 40 a.entry:=rfl
theorem Prg_entry_set (a:Prg) (x:Nat→Int):vsplice (VEnc.e a) 1 (arrV 40 x)=VEnc.e { a with entry:=x }:=rfl
theorem Prg_durable (a:Prg):((VEnc.e a).drop 41).take 1=[vi a.durable]:=rfl
theorem Prg_durable_set (a:Prg) (x:Int):vsplice (VEnc.e a) 41 ([vi x])=VEnc.e { a with durable:=x }:=rfl
theorem Prg_volatile (a:Prg):((VEnc.e a).drop 42).take 1=[vi a.volatile]:=rfl
theorem Prg_volatile_set (a:Prg) (x:Int):vsplice (VEnc.e a) 42 ([vi x])=VEnc.e { a with volatile:=x }:=rfl
theorem Nod_up (a:Nod):(VEnc.e a).take 1=[vb a.up]:=rfl
theorem Nod_up_set (a:Nod) (x:Bool):vsplice (VEnc.e a) 0 ([vb x])=VEnc.e { a with up:=x }:=rfl
theorem Nod_version (a:Nod):((VEnc.e a).drop 1).take 1=[vi a.version]:=rfl
theorem Nod_version_set (a:Nod) (x:Int):vsplice (VEnc.e a) 1 ([vi x])=VEnc.e { a with version:=x }:=rfl
theorem Nod_epoch (a:Nod):((VEnc.e a).drop 2).take 1=[vi a.epoch]:=rfl
theorem Nod_epoch_set (a:Nod) (x:Int):vsplice (VEnc.e a) 2 ([vi x])=VEnc.e { a with epoch:=x }:=rfl
theorem Nod_clock (a:Nod):((VEnc.e a).drop 3).take 1=[vi a.clock]:=rfl
theorem Nod_clock_set (a:Nod) (x:Int):vsplice (VEnc.e a) 3 ([vi x])=VEnc.e { a with clock:=x }:=rfl
theorem Nod_disk (a:Nod):((VEnc.e a).drop 4).take 2=VEnc.e a.disk:=rfl
theorem Nod_disk_set (a:Nod) (x:Dsk):vsplice (VEnc.e a) 4 (VEnc.e x)=VEnc.e { a with disk:=x }:=rfl
theorem Nod_vol (a:Nod):((VEnc.e a).drop 6).take 1=[vl a.vol]:=rfl
theorem Nod_vol_set (a:Nod) (x:List (Int)):vsplice (VEnc.e a) 6 ([vl x])=VEnc.e { a with vol:=x }:=rfl
theorem Nod_timers (a:Nod):((VEnc.e a).drop 7).take 1=[vl a.timers]:=rfl
theorem Nod_timers_set (a:Nod) (x:List (Int)):vsplice (VEnc.e a) 7 ([vl x])=VEnc.e { a with timers:=x }:=rfl
theorem Nod_counts (a:Nod):((VEnc.e a).drop 8).take 41=arrV 41 a.counts:=rfl
theorem Nod_counts_set (a:Nod) (x:Nat→Int):vsplice (VEnc.e a) 8 (arrV 41 x)=VEnc.e { a with counts:=x }:=rfl
theorem Nod_waiting (a:Nod):((VEnc.e a).drop 49).take 1=[vi a.waiting]:=rfl
theorem Nod_waiting_set (a:Nod) (x:Int):vsplice (VEnc.e a) 49 ([vi x])=VEnc.e { a with waiting:=x }:=rfl
theorem Nod_dropped (a:Nod):((VEnc.e a).drop 50).take 1=[vi a.dropped]:=rfl
theorem Nod_dropped_set (a:Nod) (x:Int):vsplice (VEnc.e a) 50 ([vi x])=VEnc.e { a with dropped:=x }:=rfl
theorem Nod_doubled (a:Nod):((VEnc.e a).drop 51).take 1=[vi a.doubled]:=rfl
theorem Nod_doubled_set (a:Nod) (x:Int):vsplice (VEnc.e a) 51 ([vi x])=VEnc.e { a with doubled:=x }:=rfl
theorem beq_decI (a b:Int):(a==b)=decide (a=b):=by by_cases h:a=b<;>simp [h]
theorem beq_decB (a b:Bool):(a==b)=decide (a=b):=by cases a<;>cases b<;>rfl
theorem veqf_Msg (neg:Bool) (a b:Msg):veqf [1,1,1,1,1] neg (.agg [vi a.node,vi a.handler,vi a.count,vi a.index,vi a.copy]) (.agg [vi b.node,vi b.handler,vi b.count,vi b.index,vi b.copy])=some (vb (notIf neg (decide (a=b)))):=by
 simp only [veqf,vvals,Option.map_some,Option.bind_some,eqL,eq1,if_true]
 rcases a with ⟨a0,a1,a2,a3,a4⟩;rcases b with ⟨b0,b1,b2,b3,b4⟩
 simp [Msg.mk.injEq,Evt.mk.injEq,Evl.mk.injEq,Qn.mk.injEq,Ans.mk.injEq,Ask.mk.injEq,Ins.mk.injEq,Act.mk.injEq,Wri.mk.injEq,Req.mk.injEq,Obs.mk.injEq,Fai.mk.injEq,and_assoc,beq_decI,beq_decB]
theorem veqf_Evt (neg:Bool) (a b:Evt):veqf [1,1,1,1,1,1,1,1] neg (.agg [vi a.kind,vi a.node,vi a.arg,vi a.msg.node,vi a.msg.handler,vi a.msg.count,vi a.msg.index,vi a.msg.copy]) (.agg [vi b.kind,vi b.node,vi b.arg,vi b.msg.node,vi b.msg.handler,vi b.msg.count,vi b.msg.index,vi b.msg.copy])=some (vb (notIf neg (decide (a=b)))):=by
 simp only [veqf,vvals,Option.map_some,Option.bind_some,eqL,eq1,if_true]
 rcases a with ⟨a0,a1,a2,a3⟩;rcases b with ⟨b0,b1,b2,b3⟩
 rcases a3 with ⟨a3_0,a3_1,a3_2,a3_3,a3_4⟩
 rcases b3 with ⟨b3_0,b3_1,b3_2,b3_3,b3_4⟩
 simp [Msg.mk.injEq,Evt.mk.injEq,Evl.mk.injEq,Qn.mk.injEq,Ans.mk.injEq,Ask.mk.injEq,Ins.mk.injEq,Act.mk.injEq,Wri.mk.injEq,Req.mk.injEq,Obs.mk.injEq,Fai.mk.injEq,and_assoc,beq_decI,beq_decB]
theorem veqf_Evl (neg:Bool) (a b:Evl):veqf [1,1,1,1,1,1,1,1,1] neg (.agg [vi a.msg.node,vi a.msg.handler,vi a.msg.count,vi a.msg.index,vi a.msg.copy,vi a.to,vi a.kind,vi a.a,vi a.b]) (.agg [vi b.msg.node,vi b.msg.handler,vi b.msg.count,vi b.msg.index,vi b.msg.copy,vi b.to,vi b.kind,vi b.a,vi b.b])=some (vb (notIf neg (decide (a=b)))):=by
 simp only [veqf,vvals,Option.map_some,Option.bind_some,eqL,eq1,if_true]
 rcases a with ⟨a0,a1,a2,a3,a4⟩;rcases b with ⟨b0,b1,b2,b3,b4⟩
 rcases a0 with ⟨a0_0,a0_1,a0_2,a0_3,a0_4⟩
 rcases b0 with ⟨b0_0,b0_1,b0_2,b0_3,b0_4⟩
 simp [Msg.mk.injEq,Evt.mk.injEq,Evl.mk.injEq,Qn.mk.injEq,Ans.mk.injEq,Ask.mk.injEq,Ins.mk.injEq,Act.mk.injEq,Wri.mk.injEq,Req.mk.injEq,Obs.mk.injEq,Fai.mk.injEq,and_assoc,beq_decI,beq_decB]
theorem veqf_Qn (neg:Bool) (a b:Qn):veqf [1,1,1,1,1] neg (.agg [vi a.node,vi a.handler,vi a.count,vi a.kind,vi a.index]) (.agg [vi b.node,vi b.handler,vi b.count,vi b.kind,vi b.index])=some (vb (notIf neg (decide (a=b)))):=by
 simp only [veqf,vvals,Option.map_some,Option.bind_some,eqL,eq1,if_true]
 rcases a with ⟨a0,a1,a2,a3,a4⟩;rcases b with ⟨b0,b1,b2,b3,b4⟩
 simp [Msg.mk.injEq,Evt.mk.injEq,Evl.mk.injEq,Qn.mk.injEq,Ans.mk.injEq,Ask.mk.injEq,Ins.mk.injEq,Act.mk.injEq,Wri.mk.injEq,Req.mk.injEq,Obs.mk.injEq,Fai.mk.injEq,and_assoc,beq_decI,beq_decB]
theorem veqf_Ans (neg:Bool) (a b:Ans):veqf [1,1,1,1,1,1] neg (.agg [vi a.q.node,vi a.q.handler,vi a.q.count,vi a.q.kind,vi a.q.index,vi a.n]) (.agg [vi b.q.node,vi b.q.handler,vi b.q.count,vi b.q.kind,vi b.q.index,vi b.n])=some (vb (notIf neg (decide (a=b)))):=by
 simp only [veqf,vvals,Option.map_some,Option.bind_some,eqL,eq1,if_true]
 rcases a with ⟨a0,a1⟩;rcases b with ⟨b0,b1⟩
 rcases a0 with ⟨a0_0,a0_1,a0_2,a0_3,a0_4⟩
 rcases b0 with ⟨b0_0,b0_1,b0_2,b0_3,b0_4⟩
 simp [Msg.mk.injEq,Evt.mk.injEq,Evl.mk.injEq,Qn.mk.injEq,Ans.mk.injEq,Ask.mk.injEq,Ins.mk.injEq,Act.mk.injEq,Wri.mk.injEq,Req.mk.injEq,Obs.mk.injEq,Fai.mk.injEq,and_assoc,beq_decI,beq_decB]
theorem veqf_Ask (neg:Bool) (a b:Ask):veqf [1,1,1,1,1,1,1] neg (.agg [vi a.q.node,vi a.q.handler,vi a.q.count,vi a.q.kind,vi a.q.index,vi a.arity,vi a.n]) (.agg [vi b.q.node,vi b.q.handler,vi b.q.count,vi b.q.kind,vi b.q.index,vi b.arity,vi b.n])=some (vb (notIf neg (decide (a=b)))):=by
 simp only [veqf,vvals,Option.map_some,Option.bind_some,eqL,eq1,if_true]
 rcases a with ⟨a0,a1,a2⟩;rcases b with ⟨b0,b1,b2⟩
 rcases a0 with ⟨a0_0,a0_1,a0_2,a0_3,a0_4⟩
 rcases b0 with ⟨b0_0,b0_1,b0_2,b0_3,b0_4⟩
 simp [Msg.mk.injEq,Evt.mk.injEq,Evl.mk.injEq,Qn.mk.injEq,Ans.mk.injEq,Ask.mk.injEq,Ins.mk.injEq,Act.mk.injEq,Wri.mk.injEq,Req.mk.injEq,Obs.mk.injEq,Fai.mk.injEq,and_assoc,beq_decI,beq_decB]
theorem veqf_Ins (neg:Bool) (a b:Ins):veqf [1,1] neg (.agg [vi a.op,vi a.n]) (.agg [vi b.op,vi b.n])=some (vb (notIf neg (decide (a=b)))):=by
 simp only [veqf,vvals,Option.map_some,Option.bind_some,eqL,eq1,if_true]
 rcases a with ⟨a0,a1⟩;rcases b with ⟨b0,b1⟩
 simp [Msg.mk.injEq,Evt.mk.injEq,Evl.mk.injEq,Qn.mk.injEq,Ans.mk.injEq,Ask.mk.injEq,Ins.mk.injEq,Act.mk.injEq,Wri.mk.injEq,Req.mk.injEq,Obs.mk.injEq,Fai.mk.injEq,and_assoc,beq_decI,beq_decB]
theorem veqf_Act (neg:Bool) (a b:Act):veqf [1,1,1,1,1] neg (.agg [vi a.kind,vi a.a,vi a.b,vi a.c,vi a.d]) (.agg [vi b.kind,vi b.a,vi b.b,vi b.c,vi b.d])=some (vb (notIf neg (decide (a=b)))):=by
 simp only [veqf,vvals,Option.map_some,Option.bind_some,eqL,eq1,if_true]
 rcases a with ⟨a0,a1,a2,a3,a4⟩;rcases b with ⟨b0,b1,b2,b3,b4⟩
 simp [Msg.mk.injEq,Evt.mk.injEq,Evl.mk.injEq,Qn.mk.injEq,Ans.mk.injEq,Ask.mk.injEq,Ins.mk.injEq,Act.mk.injEq,Wri.mk.injEq,Req.mk.injEq,Obs.mk.injEq,Fai.mk.injEq,and_assoc,beq_decI,beq_decB]
theorem veqf_Wri (neg:Bool) (a b:Wri):veqf [1,1] neg (.agg [vi a.var,vi a.value]) (.agg [vi b.var,vi b.value])=some (vb (notIf neg (decide (a=b)))):=by
 simp only [veqf,vvals,Option.map_some,Option.bind_some,eqL,eq1,if_true]
 rcases a with ⟨a0,a1⟩;rcases b with ⟨b0,b1⟩
 simp [Msg.mk.injEq,Evt.mk.injEq,Evl.mk.injEq,Qn.mk.injEq,Ans.mk.injEq,Ask.mk.injEq,Ins.mk.injEq,Act.mk.injEq,Wri.mk.injEq,Req.mk.injEq,Obs.mk.injEq,Fai.mk.injEq,and_assoc,beq_decI,beq_decB]
theorem veqf_Req (neg:Bool) (a b:Req):veqf [1,1,1,1] neg (.agg [vi a.node,vi a.op,vi a.key,vi a.arg]) (.agg [vi b.node,vi b.op,vi b.key,vi b.arg])=some (vb (notIf neg (decide (a=b)))):=by
 simp only [veqf,vvals,Option.map_some,Option.bind_some,eqL,eq1,if_true]
 rcases a with ⟨a0,a1,a2,a3⟩;rcases b with ⟨b0,b1,b2,b3⟩
 simp [Msg.mk.injEq,Evt.mk.injEq,Evl.mk.injEq,Qn.mk.injEq,Ans.mk.injEq,Ask.mk.injEq,Ins.mk.injEq,Act.mk.injEq,Wri.mk.injEq,Req.mk.injEq,Obs.mk.injEq,Fai.mk.injEq,and_assoc,beq_decI,beq_decB]
theorem veqf_Obs (neg:Bool) (a b:Obs):veqf [0,1,1,1,1] neg (.agg [vb a.reply,vi a.request,vi a.node,vi a.epoch,vi a.value]) (.agg [vb b.reply,vi b.request,vi b.node,vi b.epoch,vi b.value])=some (vb (notIf neg (decide (a=b)))):=by
 simp only [veqf,vvals,Option.map_some,Option.bind_some,eqL,eq1,if_true]
 rcases a with ⟨a0,a1,a2,a3,a4⟩;rcases b with ⟨b0,b1,b2,b3,b4⟩
 simp [Msg.mk.injEq,Evt.mk.injEq,Evl.mk.injEq,Qn.mk.injEq,Ans.mk.injEq,Ask.mk.injEq,Ins.mk.injEq,Act.mk.injEq,Wri.mk.injEq,Req.mk.injEq,Obs.mk.injEq,Fai.mk.injEq,and_assoc,beq_decI,beq_decB]
theorem veqf_Fai (neg:Bool) (a b:Fai):veqf [1,1,1,1] neg (.agg [vi a.node,vi a.handler,vi a.count,vi a.code]) (.agg [vi b.node,vi b.handler,vi b.count,vi b.code])=some (vb (notIf neg (decide (a=b)))):=by
 simp only [veqf,vvals,Option.map_some,Option.bind_some,eqL,eq1,if_true]
 rcases a with ⟨a0,a1,a2,a3⟩;rcases b with ⟨b0,b1,b2,b3⟩
 simp [Msg.mk.injEq,Evt.mk.injEq,Evl.mk.injEq,Qn.mk.injEq,Ans.mk.injEq,Ask.mk.injEq,Ins.mk.injEq,Act.mk.injEq,Wri.mk.injEq,Req.mk.injEq,Obs.mk.injEq,Fai.mk.injEq,and_assoc,beq_decI,beq_decB]
set_option linter.defProp false
def encU:=And.intro @veqf_Msg (And.intro @veqf_Evt (And.intro @veqf_Evl (And.intro @veqf_Qn (And.intro @veqf_Ans (And.intro @veqf_Ask (And.intro @veqf_Ins (And.intro @veqf_Act (And.intro @veqf_Wri (And.intro @veqf_Req (And.intro @veqf_Obs (And.intro @veqf_Fai (And.intro @eMsg (And.intro @eEvt (And.intro @eEvl (And.intro @eQn (And.intro @eAns (And.intro @eAsk (And.intro @eIns (And.intro @eAct (And.intro @eWri (And.intro @eReq (And.intro @eObs (And.intro @eFai (And.intro @eDsk (And.intro @eStp (And.intro @eTap (And.intro @eCfg (And.intro @eWst (And.intro @eList (And.intro @wMsg (And.intro @wEvt (And.intro @wEvl (And.intro @wQn (And.intro @wAns (And.intro @wAsk (And.intro @wIns (And.intro @wAct (And.intro @wWri (And.intro @wReq (And.intro @wObs (And.intro @wFai (And.intro @wDsk (And.intro @wStp (And.intro @wTap (And.intro @wPrg (And.intro @wNod (And.intro @wCfg (And.intro @wWst (And.intro @wList (And.intro @lenMsg (And.intro @lenEvt (And.intro @lenEvl (And.intro @lenQn (And.intro @lenAns (And.intro @lenAsk (And.intro @lenIns (And.intro @lenAct (And.intro @lenWri (And.intro @lenReq (And.intro @lenObs (And.intro @lenFai (And.intro @lenDsk (And.intro @lenStp (And.intro @lenTap (And.intro @lenPrg (And.intro @lenNod (And.intro @lenCfg (And.intro @lenWst (And.intro @Prg_code (And.intro @Prg_entry (And.intro @Prg_durable (And.intro @Prg_volatile (And.intro @Nod_up (And.intro @Nod_version (And.intro @Nod_epoch (And.intro @Nod_clock (And.intro @Nod_disk (And.intro @Nod_vol (And.intro @Nod_timers (And.intro @Nod_counts (And.intro @Nod_waiting (And.intro @Nod_dropped (And.intro @Nod_doubled (@arrV_len))))))))))))))))))))))))))))))))))))))))))))))))))))))))))))))))))))))))))))))))))))
def encD:=And.intro @Prg_code_set (And.intro @Prg_entry_set (And.intro @Prg_durable_set (And.intro @Prg_volatile_set (And.intro @Nod_up_set (And.intro @Nod_version_set (And.intro @Nod_epoch_set (And.intro @Nod_clock_set (And.intro @Nod_disk_set (And.intro @Nod_vol_set (And.intro @Nod_timers_set (And.intro @Nod_counts_set (And.intro @Nod_waiting_set (And.intro @Nod_dropped_set (@Nod_doubled_set))))))))))))))
end Go.Proofs.YtghcggoodgfaoaaGreatDoor

set_option linter.unusedSimpArgs false
set_option linter.unusedSectionVars false
set_option linter.unusedVariables false
namespace Go.Proofs.YtghcggoodgfaoaaGreatDoor
open Go Go.RowKit
def afterD:List Int→List Wri→List Int
 | cs,[]=>cs
 | cs,w::r=>afterD (cs.set w.var.toNat w.value) r
def viewD (d:Dsk):List Int:=afterD d.cells d.pending
structure DiskOK (d:Dsk):Prop where
 cells:d.cells.length≤16
 pend:d.pending.length≤4
 var:∀ w∈d.pending,0≤w.var∧w.var<d.cells.length
structure VmS where
 vars:List Int
 acts:List Act
 covered:List Int
 asked:List Int
 stack:List Int
 pc:Int
def sentN (l:List Act):Nat:=(l.filter fun a=>decide (a.kind=3)).length
def pops (op:Int):Nat:=if op=17 then 3 else if op=6∨op=7∨op=8∨op=9∨op=11∨op=12∨op=13∨op=21 then 2 else if op=5∨op=10∨op=14∨op=3∨op=16∨op=22 then 1 else 0
def pushes (op:Int):Nat:=if op=1∨op=2∨op=4∨op=5∨(6≤op∧op≤14) then 1 else 0
def nextI (i:Ins) (at_:Nat):List Int:=if i.op=23 then [] else if i.op=15 then [i.n] else if i.op=16 then [(at_:Int)+1,i.n] else [(at_:Int)+1]
def opndOK (p:Prg) (i:Ins):Bool:=
 if i.op=1 then decide (-2147483647≤i.n∧i.n≤2147483647)
 else if i.op=2∨i.op=3 then decide (0≤i.n∧i.n<p.durable+p.volatile)
 else if i.op=4 then decide (0≤i.n∧i.n≤8)
 else if i.op=17 then decide (0≤i.n∧i.n≤29)
 else if i.op=18∨i.op=19 then decide (0≤i.n∧i.n≤7)
 else if i.op=15∨i.op=16 then decide (0≤i.n∧i.n<p.code.length)
 else decide (i.n=0)
def depthOK (p:Prg) (D:List Nat):Bool:=(List.range p.code.length).all fun k=>match p.code[k]?,D[k]? with
 | some i,some d=>decide (1≤i.op∧i.op≤23)&&opndOK p i&&(d==99||(decide (pops i.op≤d)&&decide (d-pops i.op+pushes i.op≤16)&&(nextI i k).all fun j=>decide (0≤j)&&D[j.toNat]? == some (d-pops i.op+pushes i.op)))
 | _,_=>false
structure PrgOK (p:Prg) (D:List Nat):Prop where
 dur:0≤p.durable
 vol:0≤p.volatile
 vars:p.durable+p.volatile≤16
 code:p.code.length≤400
 dlen:D.length=p.code.length
 depth:depthOK p D=true
 entry:∀ h,h<40→p.entry h = -1∨(0≤p.entry h∧D[(p.entry h).toNat]? = some 0)
end Go.Proofs.YtghcggoodgfaoaaGreatDoor

set_option linter.unusedSimpArgs false
set_option linter.unusedSectionVars false
set_option linter.unusedVariables false
namespace Go.Proofs.YtghcggoodgfaoaaGreatDoor
open Go Go.RowKit
structure Cau where
 node:Int
 handler:Int
 count:Int
 deriving DecidableEq,Inhabited
structure Res where
 s:Nod
 asks:List Ask
 sent:List Evl
 replied:Bool
 value:Int
 fails:List Int
 cause:Cau
 covered:List Int
def newN:Nod:=⟨false,-1,0,0,⟨[],[]⟩,[],[],fun _=>0,-1,0,0⟩
def varsN (s:Nod):List Int:=viewD s.disk++s.vol
def ltM (a b:Msg):Prop:=
 a.node<b.node∨(a.node=b.node∧(a.handler<b.handler∨(a.handler=b.handler∧(a.count<b.count∨(a.count=b.count∧(a.index<b.index∨(a.index=b.index∧a.copy<b.copy)))))))
instance (a b:Msg):Decidable (ltM a b):=by unfold ltM;infer_instance
def ltE (a b:Evt):Prop:=a.kind<b.kind∨(a.kind=b.kind∧(a.node<b.node∨(a.node=b.node∧(a.arg<b.arg∨(a.arg=b.arg∧ltM a.msg b.msg)))))
instance (a b:Evt):Decidable (ltE a b):=by unfold ltE;infer_instance
def afterR (c:Cfg) (n:Int) (i:Int):Int:=match ((List.range c.requests.length).filter fun (k:Nat)=>decide (i<(k:Int))).find? fun (k:Nat)=>decide ((c.requests[k]?.map Req.node)=some n) with
 | some k=>(k:Int)
 | none=>-1
end Go.Proofs.YtghcggoodgfaoaaGreatDoor

set_option linter.unusedVariables false
set_option linter.unusedSectionVars false
namespace Go.Proofs.YtghcggoodgfaoaaGreatDoor
open Go Go.RowKit
def tokRes (id n:Nat) (rest:List Value):Value:=.tuple (.slice (some ⟨id,0,none⟩) n n::rest).toArray
def kTok (n:Nat) (c rest:List Value) (z:Nat):KV:=fun v h nx=>match v with
 | .tuple ⟨.slice (some ⟨k,o,none⟩) n1 n2::rest1⟩=>(match h.get k with
  | some (.cells c1 _ z1 true _)=>Nat.beq o 0&&Nat.beq n1 n&&Nat.beq n2 n&&Nat.beq z1 z&&eqLs eqV1 rest1 rest&&eqLs eqV1 c1 c
  | _=>false)
 | _=>false
theorem kTok_inv {n:Nat} {c rest:List Value} {z:Nat} {v:Value} {h:Tr Blk} {nx:Nat} (hk:kTok n c rest z v h nx=true):∃ k t an,v=tokRes k n rest∧(St.mk h nx).get k=.cells c t z true an:=by
 unfold kTok at hk
 split at hk
 ·rename_i k o n1 n2 rest1
  split at hk
  ·rename_i c1 t z1 an hg
   simp only [Bool.and_eq_true]at hk
   obtain ⟨⟨⟨⟨⟨h1,h2⟩,h3⟩,h4⟩,h5⟩,h7⟩:=hk
   obtain rfl:=Nat.eq_of_beq_eq_true h1
   obtain rfl:=Nat.eq_of_beq_eq_true h2
   obtain rfl:=Nat.eq_of_beq_eq_true h3
   obtain rfl:=Nat.eq_of_beq_eq_true h4
   obtain rfl:=eqLs_ok (fun _ _=>eqV1_ok) h5
   obtain rfl:=eqLs_ok (fun _ _=>eqV1_ok) h7
   exact ⟨k,t,an,rfl,by unfold St.get;rw [hg];rfl⟩
  ·cases hk
 ·cases hk
section
variable {P:Program} [Prim P]
structure CloT (P:Program) (f:FuncId) (args:List Value) (n:Nat) (c rest:List Value) (z:Nat):Prop where
 fn:∃ fn,P.funcs[f]? = some fn∧fn.body.isSome=true∧(fn.name == "runtime.NumGoroutine")=false
 flat:args.all flatV=true
 restf:flatL rest=true
 cells:flatL c=true
 calls:∀ t1 B φ S w,Sim B φ S w→B≤w.heap.size→Calls P f args.toArray w (OutC B φ S w (tokRes S.next n rest) (S.alloc (.cells c t1 z true [])))
theorem CloT.of (hm:P.follows .mixedOrders=true) {tab:Tr XFunc} (ht:TabOK P tab) {pr:FuncId→List Value→Tr Blk→Nat→KV→Bool} (hp:KPrimOK P tab pr) {m fuel:Nat} {f:FuncId} {args:List Value} {n:Nat} {c rest:List Value} {z:Nat} (hfl:args.all flatV=true) (hc:flatL c=true) (hr:flatL rest=true)
  (hk:kcall P tab pr m fuel (.func f) args .leaf 0 (kTok n c rest z)=true):CloT P f args n c rest z:=by
 obtain ⟨h1,h2⟩:=closed_flat hm ht hp hfl hk
 refine ⟨h1,hfl,hr,hc,fun t1 B φ S w hs hB=>?_⟩
 obtain ⟨u,S2,h3,h4⟩:=h2 w φ.tab (hs.loops.1.of hB rfl fun _ _ _ _ e=>e)
 refine h4.mono ?_
 rintro e w' ⟨φ2,v',rfl,p1,p2,p3⟩
 obtain ⟨k,t,an,rfl,hg⟩:=kTok_inv h3
 have hg:S2.get k=_:=hg
 unfold tokRes at p1
 cases p1 with
 | tuple _ b hb hbe=>
  obtain ⟨lb⟩:=b
  match lb,hb,hbe with
  | q::lb,hb,hbe=>
   have hq:Rel φ2 (.slice (some ⟨k,0,none⟩) n n) q:=hbe 0 (by simp) (by simp)
   have hlb:lb=rest:=by
    have hle:rest.length=lb.length:=by simpa using hb
    apply List.ext_getElem hle.symm
    intro i h1 h2
    have:=hbe (i+1) (by simpa using h2) (by simpa using h1)
    exact flat1_inv (by simp only [flatL,List.all_eq_true]at hr;exact hr _ (List.getElem_mem h2)) (by simpa using this)
   subst hlb
   have key:∀ s0:Spot,φ2 k=some s0→(∀ ψ:Emb,ψ S.next=some s0→Rel ψ (.slice (some ⟨S.next,0,none⟩) n n) q)→OutC B φ S w (tokRes S.next n lb) (S.alloc (.cells c t1 z true [])) (.returned (.tuple ⟨q::lb⟩)) w':=by
    intro s0 hs0 hrq
    obtain ⟨q1,q2⟩:=attach1 hB hs p2 p3 hs0 hg hc t1
    refine ⟨_,_,rfl,?_,q1,q2⟩
    refine .tuple _ _ rfl fun j h3 h4=>?_
    cases j with
    | zero=>exact hrq _ (Emb.add_same _ _ _)
    | succ j=>exact flat1_rel (by simp only [flatL,List.all_eq_true]at hr;exact hr _ (List.getElem_mem (by simpa using h3))) _
   cases hq with
   | slice _ _ _ _ c' s hid hn hc' hext=>exact key s hid fun ψ hψ=>.slice _ _ n n c' s hψ hn hc' hext
   | sliceEnd _ _ x s hid=>exact key s hid fun ψ hψ=>.sliceEnd _ _ x s hψ
  | [],hb,_=>simp at hb
end
def ceT (f:FuncId) (args:List Value) (n:Nat) (c rest:List Value) (z:Nat) (t:TypeId):CE:=⟨f,fun S a=>a=args,fun S=>(tokRes S.next n rest,S.alloc (.cells c t z true []))⟩
theorem CloT.good {P:Program} {f:FuncId} {args:List Value} {n:Nat} {c rest:List Value} {z:Nat} (h:CloT P f args n c rest z) (t:TypeId):(ceT f args n c rest z t).Good P:=by
 refine ⟨h.fn,fun S a ha hw hsc=>?_,fun B φ S w a a' ha hr hs hB=>?_⟩
 ·show WS (S.alloc (.cells c t z true []))∧S.next≤S.next+1∧Sc (S.next+1) (tokRes S.next n rest)
  refine ⟨⟨fun id hid=>?_,fun id c' t' z' mi an hg=>?_,fun id o hg=>?_⟩,by omega,.tuple _ fun i hi=>?_⟩
  ·have:S.next+1≤id:=hid
   rw [St.get_alloc,if_neg (by omega)];exact hw.gone id (by omega)
  ·rw [St.get_alloc]at hg
   split at hg
   ·cases hg;exact ScL.flat h.cells
   ·exact fun x hx=>(hw.cell id _ _ _ _ _ hg x hx).mono (by show S.next≤S.next+1;omega)
  ·rw [St.get_alloc]at hg
   split at hg
   ·cases hg
   ·exact (hw.obj id o hg).mono (by show S.next≤S.next+1;omega)
  ·have hi':i<(Value.slice (some ⟨S.next,0,none⟩) n n::rest).length:=by simpa using hi
   cases i with
   | zero=>exact .slice _ _ _ _ (by omega)
   | succ j=>simpa using Sc.flat1 (by have:=h.restf;simp only [flatL,List.all_eq_true]at this;exact this _ (List.getElem_mem (by simpa using hi')))
 ·obtain rfl:a=args:=ha
  obtain rfl:=args_inv (by simpa using h.flat) hr
  exact h.calls t B φ S w hs hB
noncomputable def prT (f0:FuncId) (args:List Value) (n:Nat) (c rest:List Value) (z:Nat) (t:TypeId):FuncId→List Value→Tr Blk→Nat→KV→Bool:=fun f l h nx k=>
 Nat.beq f f0&&(eqLs eqV l args&&k (tokRes nx n rest) ((St.mk h nx).alloc (.cells c t z true [])).heap (nx+1))
theorem runCE_only {L:List CE} {f:FuncId} {args:Array Value} {S:St} {v:Value} {S':St} (h:∃ e∈L,e.f=f∧e.cond S args.toList) (ho:∀ e∈L,e.f=f→e.cond S args.toList→e.out S=(v,S')):runCE L f args S=some (v,S'):=by
 obtain ⟨e,e1,e2,e3,e4⟩:=runCE_some h
 rw [e4,ho e e1 e2 e3]
theorem prT_ok {P:Program} {L:List CE} {f0:FuncId} {args:List Value} {n:Nat} {c rest:List Value} {z:Nat} {t:TypeId} (hg:∀ e∈L,e.Good P) (hin:ceT f0 args n c rest z t∈L) (hu:∀ e∈L,e.f=f0→e=ceT f0 args n c rest z t) (tab:Tr XFunc):@KPrimOK P (primCE L hg) tab (prT f0 args n c rest z t):=fun f l h nx k _ hk _ _=>by
 unfold prT at hk
 simp only [Bool.and_eq_true]at hk
 obtain ⟨h1,h2,h3⟩:=hk
 obtain rfl:=Nat.eq_of_beq_eq_true h1
 obtain rfl:=eqLs_ok (fun _ _=>eqV_ok) h2
 exact ⟨tokRes nx n rest,(St.mk h nx).alloc (.cells c t z true []),runCE_only ⟨_,hin,rfl,rfl⟩ fun e he hf _=>by rw [hu e he hf];rfl,h3⟩
def ceRs (f0:FuncId) (n:Nat) (c rest:List Value) (tab:List (List Value × Value)):List CE:=tab.map fun p=>ceR f0 n c rest p.1 p.2
noncomputable def prRs (f0:FuncId) (n:Nat) (c rest:List Value) (tb:List (List Value × Value)):FuncId→List Value→Tr Blk→Nat→KV→Bool:=fun f l h nx k=>
 Nat.beq f f0&&(match l with
  | .agg ⟨.slice (some ⟨id,o,none⟩) n1 _::rest1⟩::ex=>(match h.get id with
   | some (.cells cc _ _ _ _)=>Nat.beq o 0&&(Nat.beq n1 n&&(eqLs eqV1 rest1 rest&&(eqLs eqV1 cc c&&(match tb.find? (fun p=>eqLs eqV ex p.1) with
    | some p=>k p.2 h nx
    | none=>false))))
   | _=>false)
  | _=>false)
theorem prRs_ok {P:Program} {L:List CE} {f0:FuncId} {n:Nat} {c rest:List Value} {tb:List (List Value × Value)} (hg:∀ e∈L,e.Good P) (hin:∀ e∈ceRs f0 n c rest tb,e∈L) (hu:∀ e∈L,e.f=f0→e∈ceRs f0 n c rest tb) (ht:∀ p∈tb,∀ q∈tb,p.1=q.1→p.2=q.2) (tab:Tr XFunc):@KPrimOK P (primCE L hg) tab (prRs f0 n c rest tb):=fun f l h nx k _ hk _ _=>by
 unfold prRs at hk
 rw [Bool.and_eq_true]at hk
 obtain ⟨h1,hk⟩:=hk
 obtain rfl:=Nat.eq_of_beq_eq_true h1
 split at hk
 case h_2=>cases hk
 rename_i id o n1 c0 rest1 ex hsc
 split at hk
 case h_2=>cases hk
 rename_i cc t z m an hget
 simp only [Bool.and_eq_true]at hk
 obtain ⟨h2,h3,h4,h5,hk⟩:=hk
 obtain rfl:=Nat.eq_of_beq_eq_true h2
 obtain rfl:=Nat.eq_of_beq_eq_true h3
 obtain rfl:=eqLs_ok (fun _ _=>eqV1_ok) h4
 obtain rfl:=eqLs_ok (fun _ _=>eqV1_ok) h5
 split at hk
 case h_2=>cases hk
 rename_i p hp
 have hpm:=List.mem_of_find?_eq_some hp
 have hpe:=eqLs_ok (fun _ _=>eqV_ok) (List.find?_some (p:=fun p:List Value × Value=>eqLs eqV ex p.1) hp)
 have hg1:(St.mk h nx).get id=.cells cc t z m an:=by unfold St.get;rw [hget];rfl
 refine ⟨p.2,⟨h,nx⟩,runCE_only ⟨ceR f n1 cc rest1 p.1 p.2,hin _ (List.mem_map.2 ⟨p,hpm,rfl⟩),rfl,_,by rw [hpe],.inl ⟨id,0,c0,cc,t,z,rfl,by rw [hg1];rfl,by omega,by rw [List.drop_zero,List.take_length]⟩⟩ fun e he hf hc=>?_,hk⟩
 obtain ⟨q,hq,rfl⟩:=List.mem_map.1 (hu e he hf)
 obtain ⟨a,ha,_⟩:=hc
 have hex:ex=q.1:=(List.cons.inj ha).2
 show (q.2,_)=_
 rw [ht q hq p hpm (by rw [← hex,hpe])]
theorem uniq_of {tb:List (List Value × Value)} (h:(tb.all fun p=>eqLs eqV p.1 p.1&&tb.all fun q=>!(eqLs eqV p.1 q.1)||eqV p.2 q.2)=true):∀ p∈tb,∀ q∈tb,p.1=q.1→p.2=q.2:=fun p hp q hq e=>by
 have h1:=List.all_eq_true.1 h p hp
 rw [Bool.and_eq_true]at h1
 have h2:=List.all_eq_true.1 h1.2 q hq
 rw [← e,h1.1]at h2
 exact eqV_ok (by simpa using h2)
theorem prOr_ok {P:Program} [Prim P] {tab:Tr XFunc} {p q:FuncId→List Value→Tr Blk→Nat→KV→Bool} (hp:KPrimOK P tab p) (hq:KPrimOK P tab q):KPrimOK P tab (fun f l h nx k=>p f l h nx k||q f l h nx k):=fun f l h nx k ht hk hw hs=>by
 rcases (Bool.or_eq_true _ _).mp hk with hk | hk
 ·exact hp f l h nx k ht hk hw hs
 ·exact hq f l h nx k ht hk hw hs
end Go.Proofs.YtghcggoodgfaoaaGreatDoor

set_option linter.unusedSimpArgs false
set_option linter.unusedSectionVars false
set_option linter.unusedVariables false
namespace Go.Proofs.YtghcggoodgfaoaaGreatDoor
open Go Go.RowKit
def small31 (n:Int):Prop:=-2147483647≤n∧n≤2147483647
structure VmOK (p:Prg) (D:List Nat) (s:VmS):Prop where
 pc0:0≤s.pc
 pc:D[s.pc.toNat]? = some s.stack.length
 d16:s.stack.length≤16
 vars:(s.vars.length:Int)=p.durable+p.volatile
 st:∀ x∈s.stack,small31 x
 vs:∀ x∈s.vars,small31 x
theorem PrgOK.at {p:Prg} {D:List Nat} (h:PrgOK p D) {k d:Nat} (hd:D[k]? = some d) (hd9:d≤16):∃ i,p.code[k]? = some i∧k<p.code.length∧1≤i.op∧i.op≤23∧opndOK p i=true∧pops i.op≤d∧d-pops i.op+pushes i.op≤16∧∀ j∈nextI i k,0≤j∧D[j.toNat]? = some (d-pops i.op+pushes i.op):=by
 have hk:k<p.code.length:=by
  rw [← h.dlen]
  exact (List.getElem?_eq_some_iff.1 hd).1
 have h1:=List.all_eq_true.1 h.depth k (List.mem_range.2 hk)
 rw [List.getElem?_eq_getElem hk,hd]at h1
 simp only [Bool.and_eq_true,decide_eq_true_eq,Bool.or_eq_true,beq_iff_eq,List.all_eq_true]at h1
 refine ⟨p.code[k],List.getElem?_eq_getElem hk,hk,h1.1.1.1,h1.1.1.2,h1.1.2,?_⟩
 rcases h1.2 with h2 | h2
 ·omega
 ·exact ⟨h2.1.1,h2.1.2,fun j hj=>h2.2 j hj⟩
structure ActI (r:Res) (k:Nat) (al:List Ask) (c:Cau) (cov:List Int):Prop where
 disk:DiskOK r.s.disk
 tim:r.s.timers.length≤1000
 sent:r.sent.length≤k
 fails:r.fails.length≤k
 asks:r.asks=al
 cause:r.cause=c
 cov:r.covered=cov
end Go.Proofs.YtghcggoodgfaoaaGreatDoor

set_option linter.unusedSimpArgs false
set_option linter.unusedSectionVars false
set_option linter.unusedVariables false
namespace Go.Proofs.YtghcggoodgfaoaaGreatDoor
open Go Go.RowKit
structure CfgOK (c:Cfg):Prop where
 progs:1≤c.programs.length∧c.programs.length≤64
 prog:∀ p∈c.programs,∃ D,PrgOK p D
 first:1≤c.first.length∧c.first.length≤12
 firsts:∀ v∈c.first,0≤v∧v<c.programs.length
 restarts:∀ v∈c.restarts,0≤v∧v<c.programs.length
 rlen:c.restarts.length≤1000
 reqs:c.requests.length≤300
 req:∀ r∈c.requests,0≤r.node∧r.node<c.first.length∧small31 r.op∧small31 r.key∧small31 r.arg
 crashes:0≤c.crashes∧c.crashes≤10
 drops:0≤c.drops∧c.drops≤10
 dups:0≤c.dups∧c.dups≤10
 drift:0≤c.drift∧c.drift≤3
def ActOK (p:Prg) (n:Int) (a:Act):Prop:=
 (a.kind=1→0≤a.a∧a.a<p.durable∧small31 a.b)∧(a.kind=3→0≤a.a∧a.a<n∧0≤a.b∧a.b≤29∧small31 a.c∧small31 a.d)∧((a.kind=4∨a.kind=5)→0≤a.a∧a.a≤7)∧(a.kind=6→small31 a.a∧small31 a.b)∧(a.kind=7→small31 a.a)
structure EmOK (p:Prg) (n:Int) (s:VmS):Prop where
 acts:∀ a∈s.acts,ActOK p n a
 sent:sentN s.acts≤20
 cov:∀ x∈s.covered,0≤x∧x<p.code.length
structure NodOK (c:Cfg) (k:Int) (s:Nod):Prop where
 disk:DiskOK s.disk
 dcell:∀ x∈s.disk.cells,small31 x
 dpend:∀ w∈s.disk.pending,small31 w.value
 voll:s.vol.length≤16
 vol:∀ x∈s.vol,small31 x
 timl:s.timers.length≤8
 tim:∀ t∈s.timers,0≤t∧t≤7
 tims:s.timers.Pairwise (· < ·)
 clk:0≤s.clock∧s.clock≤4*k
 cnt:∀ h,h<41→0≤s.counts h∧s.counts h≤k
 ep:0≤s.epoch∧s.epoch≤k
 ver : -1≤s.version∧s.version<c.programs.length
 up:s.up=true→∃ p,c.programs[s.version.toNat]? = some p∧0≤s.version∧(s.disk.cells.length:Int)=p.durable∧(s.vol.length:Int)=p.volatile
 wait : -1≤s.waiting∧s.waiting<c.requests.length
 drop:0≤s.dropped∧s.dropped≤k
 dbl:0≤s.doubled∧s.doubled≤k
theorem NodOK.mono {c:Cfg} {k k':Int} {s:Nod} (h:NodOK c k s) (hk:k≤k'):NodOK c k' s:=
 { h with
  clk:=⟨h.clk.1,by have:=h.clk.2;omega⟩
  cnt:=fun i hi=>⟨(h.cnt i hi).1,by have:=(h.cnt i hi).2;omega⟩
  ep:=⟨h.ep.1,by have:=h.ep.2;omega⟩
  drop:=⟨h.drop.1,by have:=h.drop.2;omega⟩
  dbl:=⟨h.dbl.1,by have:=h.dbl.2;omega⟩ }
theorem afterD_small:∀ (l:List Wri) (cs:List Int),(∀ x∈cs,small31 x)→(∀ w∈l,small31 w.value)→∀ x∈afterD cs l,small31 x
 | [],cs,hc,hl=>hc
 | w::r,cs,hc,hl=>afterD_small r _ (fun x hx=>by
   rcases List.mem_or_eq_of_mem_set hx with h | rfl
   ·exact hc x h
   ·exact hl w (by simp)) fun w hw=>hl w (by simp [hw])
theorem NodOK.view {c:Cfg} {k:Int} {s:Nod} (h:NodOK c k s):∀ x∈viewD s.disk,small31 x:=afterD_small _ _ h.dcell h.dpend
theorem NodOK.vars {c:Cfg} {k:Int} {s:Nod} (h:NodOK c k s):∀ x∈varsN s,small31 x:=fun x hx=>by
 rcases List.mem_append.1 hx with hx | hx
 ·exact h.view x hx
 ·exact h.vol x hx
def EvlOK (n:Int) (e:Evl):Prop:=0≤e.to∧e.to<n∧0≤e.kind∧e.kind≤29∧small31 e.a∧small31 e.b∧small31 e.msg.node
structure ActJ (p:Prg) (n:Int) (r0:Nod) (r:Res) (m:Nat):Prop where
 core:r.s={ r0 with disk:=r.s.disk,timers:=r.s.timers,waiting:=r.s.waiting }
 disk:DiskOK r.s.disk
 dlen:(r.s.disk.cells.length:Int)=p.durable
 dcell:∀ x∈r.s.disk.cells,small31 x
 dpend:∀ w∈r.s.disk.pending,small31 w.value
 timl:r.s.timers.length≤8
 tim:∀ t∈r.s.timers,0≤t∧t≤7
 tims:r.s.timers.Pairwise (· < ·)
 wait:r.s.waiting=r0.waiting∨r.s.waiting = -1
 sent:r.sent.length=m
 evl:∀ e∈r.sent,EvlOK n e
 cau:small31 r.cause.node
structure ResOK (c:Cfg) (k:Int) (r:Res):Prop where
 s:NodOK c k r.s
 sent:r.sent.length≤20
 evl:∀ e∈r.sent,EvlOK c.first.length e
 fails:r.fails.length≤500
 cov:r.covered.length≤500
 asks:r.asks.length≤501
end Go.Proofs.YtghcggoodgfaoaaGreatDoor

set_option linter.unusedSimpArgs false
set_option linter.unusedSectionVars false
set_option linter.unusedVariables false
namespace Go.Proofs.YtghcggoodgfaoaaGreatDoor
open Go Go.RowKit
def SortM (l:List Evl):Prop:=l.Pairwise fun a b=>ltM a.msg b.msg
structure WI (w:Wst) (k o:Int):Prop where
 cfg:CfgOK w.c
 nl:w.nodes.length=w.c.first.length
 node:∀ s∈w.nodes,NodOK w.c k s
 xl:w.next.length=w.c.first.length
 next:∀ x∈w.next,-1≤x∧x<w.c.requests.length
 evl:∀ e∈w.flight,EvlOK w.c.first.length e
 fl:(w.flight.length:Int)≤20*k
 fs:SortM w.flight
 ol:(w.obs.length:Int)≤o
 fal:w.failures.length=w.c.first.length
 fai:∀ l∈w.failures,(l.length:Int)≤500*k
 trl:w.traces.length=w.c.first.length
 tr:∀ l∈w.traces,(l.length:Int)≤k
 cov:(w.covered.length:Int)≤500*k
structure WInv (w:Wst):Prop where
 inv:WI w w.steps (2*w.steps)
 st:0≤w.steps∧w.steps≤5000
theorem WI.mono {w:Wst} {k o k' o':Int} (h:WI w k o) (hk:k≤k') (ho:o≤o'):WI w k' o':=
 { h with
  node:=fun s hs=>(h.node s hs).mono hk
  fl:=by have:=h.fl;omega
  ol:=by have:=h.ol;omega
  fai:=fun l hl=>by have:=h.fai l hl;omega
  tr:=fun l hl=>by have:=h.tr l hl;omega
  cov:=by have:=h.cov;omega }
end Go.Proofs.YtghcggoodgfaoaaGreatDoor

set_option linter.unusedSimpArgs false
set_option linter.unusedSectionVars false
set_option linter.unusedVariables false
namespace Go.Proofs.YtghcggoodgfaoaaGreatDoor
open Go Go.RowKit
end Go.Proofs.YtghcggoodgfaoaaGreatDoor

set_option linter.unusedVariables false
set_option linter.unusedSectionVars false
namespace Go.Proofs.YtghcggoodgfaoaaGreatDoor
open Go Go.RowKit
section
variable {P:Program} {L:List CE} {hg:∀ e∈L,e.Good P} {f:FuncId} {args:List VV} {σ:VSt} {Q:VV→VSt→Prop}
theorem VC_one (hf:XF P f=none) (e0:CE) (hin:e0∈L) (hc0:∀ S (args':Array Value),VRelL σ.G S args args'.toList→e0.f=f∧e0.cond S args'.toList) (hun:∀ S (args':Array Value),VRelL σ.G S args args'.toList→∀ e∈L,e.f=f→e.cond S args'.toList→e.out S=e0.out S)
  (hres:∀ S,VSim σ S→∃ v σ',VSim σ' (e0.out S).2∧VStep σ.fresh S σ' (e0.out S).2∧VRel σ'.G (e0.out S).2 v (e0.out S).1∧Q v σ'):@VC P (primCE L hg) f args σ Q:=
 VC_ce hf fun S args' h1 h2=>⟨⟨e0,hin,(hc0 S args' h2).1,(hc0 S args' h2).2⟩,fun e he hef hc=>by
  rw [hun S args' h2 e he hef hc]
  exact hres S h1⟩
theorem VC_gen (hf:XF P f=none) {l:List Value} {n:Nat} {c rest:List Value} {z:Nat} {r:Value} {t:TypeId} (hin:ceG f l n c rest z r t∈L) (ha:∀ S (args':Array Value),VRelL σ.G S args args'.toList→args'.toList=l) (hun:∀ e∈L,e.f=f→∀ S,e.cond S l→e.out S=(ceG f l n c rest z r t).out S)
  (hc:flatL c=true) (hr:flatL rest=true) (h1:flat1 r=true) (hn:c.length=n*z):@VC P (primCE L hg) f args σ (fun v σ'=>σ.next≤σ'.low∧v=.tup [.agg (.lst n (c.map .v)::rest.map .v),.v r]):=
 VC_one hf _ hin (fun S args' h=>⟨rfl,ha S args' h⟩) (fun S args' h e he hef hcd=>hun e he hef S (by rw [← ha S args' h];exact hcd)) fun S h=>by
  obtain ⟨a,b⟩:=h.lay c t z
  exact ⟨_,_,a,b,.rowRes h hc hr h1 hn,Nat.le_refl _,rfl⟩
theorem VC_fl (hf:XF P f=none) (l:List Value) (v:Value) (hin:ceF f l v∈L) (hun:∀ e∈L,e.f=f→∀ S,e.cond S l→e.out S=(v,S)) (ha:∀ S (args':Array Value),VRelL σ.G S args args'.toList→args'.toList=l) (hv:flatW v=true):@VC P (primCE L hg) f args σ (fun r σ'=>σ.next≤σ'.low∧r=toW v):=
 VC_one hf _ hin (fun S args' h=>⟨rfl,ha S args' h⟩) (fun S args' h e he hef hcd=>hun e he hef S (by rw [← ha S args' h];exact hcd)) fun S h=>⟨toW v,σ.fresh,h.fresh,.refl _ _,.toW hv,Nat.le_refl _,rfl⟩
end
end Go.Proofs.YtghcggoodgfaoaaGreatDoor

/- The code of the abstract machine: branches, loops, calls. A region that draws its order: what the abstract machine does in the order of the text, the model does in whatever order. The run of the text. A region that draws its order: the memory. A region that draws its order: whatever comes up, the two machines fit. A region that draws its order: one operation, whichever comes up. A region that draws its order does what its operations do in the order of the text. Regions that draw their order are read, and done. The abstract machine without fuel: more fuel changes nothing; a way to say what a piece of code does. What the operations leave is in bounds. A logic for the abstract machine. A logic for the abstract machine: what is said of a piece of code holds. A logic for the abstract machine: from what is said of the code to the call. Rules to evaluate a piece of code of the abstract machine: operands first, what follows only then. A logic for functions whose run is not determined: walks through maps. What is said is shown of the model at once. What a call leaves behind, and what of it is kept: blocks that nobody needs are dropped from the abstract memory. Lists in the abstract memory. Lists in the abstract memory: made, written, cleared. How a law begins: the memory that a call finds, as the abstract machine sees it. Several lists of one's own at a time: each block has a colour, and a step of one colour leaves the others alone. make, min and max, words of bits. -/
import Derived.Test.YtiinecnjokaejaaGreatDoorZMa
import Derived.LoopNIn
import Derived.OpenShut
namespace Go.Proofs.YtiinecnjokaejaaGreatDoor
open Go Go.RowKit
inductive XRes where
 | tmp (t:Tmp)
 | cell (a:Tmp) (agg:Bool) (sz:Nat)
structure XFunc where
 ntmps:Nat
 body:XCode
 results:List XRes
abbrev Drawer:=Caller→XDraw→Env→St→Option (Env × St)
def xloop (body:Env→St→Option (Ex × Env × St)):Nat→Env→St→Option (Ex × Env × St)
 | 0,_,_=>none
 | n+1,env,S=>(body env S).bind fun r=>match r.1 with
  | .normal=>xloop body n r.2.1 r.2.2
  | e=>some (e,r.2.1,r.2.2)
def xcode (dr:Drawer) (cl:Caller) (n:Nat):XCode→Env→St→Option (Ex × Env × St)
 | .skip,env,S=>some (.normal,env,S)
 | .region ops,env,S=>(xops cl ops env S).map fun r=>(.normal,r.1,r.2)
 | .draw d,env,S=>(dr cl d env S).map fun r=>(.normal,r.1,r.2)
 | .seq a b,env,S=>(xcode dr cl n a env S).bind fun r=>match r.1 with
  | .normal=>xcode dr cl n b r.2.1 r.2.2
  | e=>some (e,r.2.1,r.2.2)
 | .cond c x y,env,S=>match Env.ev env c with
  | .bool true=>xcode dr cl n x env S
  | .bool false=>xcode dr cl n y env S
  | _=>none
 | .block id c,env,S=>(xcode dr cl n c env S).map fun r=>match r.1 with
  | .exit id'=>if id'=id then (.normal,r.2.1,r.2.2) else r
  | _=>r
 | .loop c,env,S=>xloop (xcode dr cl n c) n env S
 | .exit id,env,S=>some (.exit id,env,S)
 | .ret,env,S=>some (.ret,env,S)
 | .range x L,env,S=>match Env.ev env x with
  | .func (.func g) a b=>(cl (.func g) (a++#[.func (.yield S.next) #[] #[]]++b) (S.alloc (.loop env L none))).bind fun r=>match r.2.get S.next with
   | .obj (.loop _ _ none)=>some (.normal,env,r.2.put S.next .gone)
   | .obj (.loop _ _ (some e))=>some (e,env,r.2.put S.next .gone)
   | _=>none
  | _=>none
def xround (dr:Drawer) (cl:Caller) (n:Nat) (LT:LoopC→Option (XCode × XCode)) (id:Nat) (args:Array Value) (S:St):Option (Value × St):=
 match S.get id with
 | .obj (.loop env L none)=>if args.size=L.ps.size then (LT L).bind fun x=>
   (xcode dr cl n x.1 ((L.ps.zip args).foldl (fun t (p,v)=>t.setIfInBounds p v) env) (S.put id .gone)).bind fun r1=>match r1.1 with
    | .normal=>(xcode dr cl n x.2 r1.2.1 r1.2.2).map fun r2=>match r2.1 with
     | .normal=>(.bool true,r2.2.2.put id (.loop env L none))
     | e=>(.bool false,r2.2.2.put id (.loop env L (some e)))
    | _=>none
  else none
 | _=>none
def xres1 (env:Env) (S:St):XRes→Option Value
 | .tmp t=>some (env.getD t undef)
 | .cell a agg sz=>match env.getD a undef with
  | .pointer (some ⟨id,o,none⟩)=>(S.rd id o sz).bind fun c=>part1 agg c
  | _=>none
def pack:List Value→Value
 | [v]=>v
 | vs=>.tuple vs.toArray
def xres (l:List XRes) (env:Env) (S:St):Option Value:=(l.mapM (xres1 env S)).map pack
abbrev Base:=FuncId→Array Value→St→Option (Value × St)
def xcall (dr:Drawer) (F:FuncId→Option XFunc) (LT:LoopC→Option (XCode × XCode)) (base:Base):Nat→Caller
 | 0,.func f,args,S=>match F f with
  | none=>base f args S
  | some _=>none
 | n+1,.func f,args,S=>match F f with
  | none=>base f args S
  | some fn=>(xcode dr (xcall dr F LT base n) n fn.body (args++Array.replicate (fn.ntmps - args.size) undef) S).bind fun r=>match r.1 with
   | .exit _=>none
   | _=>(xres fn.results r.2.1 r.2.2).map fun v=>(v,r.2.2)
 | n+1,.yield id,args,S=>xround dr (xcall dr F LT base n) n LT id args S
 | _,_,_,_=>none
def trCode (P:Program) (td:Array Oper→Option XDraw) (N:Nat):Code→Option XCode
 | .skip=>some .skip
 | .region _ ops false=>(ops.toList.mapM (trOper P ops)).map .region
 | .region _ ops true=>(td ops).map .draw
 | .seq a b=>match trCode P td N a,trCode P td N b with
  | some x,some y=>some (.seq x y)
  | _,_=>none
 | .cond c a b=>if okOpd c then (match trCode P td N a,trCode P td N b with
  | some x,some y=>some (.cond c x y)
  | _,_=>none) else none
 | .block id c=>(trCode P td N c).map (.block id)
 | .loop c=>(trCode P td N c).map .loop
 | .scope c=>trCode P td N c
 | .rangeFunc g ps assign body=>if okOpd g then (match trCode P td N assign,trCode P td N body with
  | some _,some _=>some (.range g ⟨ps,assign,body,N⟩)
  | _,_=>none) else none
 | .exit id=>some (.exit id)
 | .ret=>some .ret
 | _=>none
def trRes (P:Program):ResultVar→Option XRes
 | .tmp t=>some (.tmp t)
 | .cell a t=>match P.underlying t,P.info? t with
  | some d,some i=>some (.cell a (aggD d) (if aggD d then i.size else 1))
  | _,_=>none
def trFunc (P:Program) (td:Array Oper→Option XDraw) (fn:Func):Option XFunc:=
 if (fn.name == "runtime.NumGoroutine")=false then
  match fn.body with
  | some c=>match trCode P td fn.ntmps c,fn.results.toList.mapM (trRes P) with
   | some x,some r=>some ⟨fn.ntmps,x,r⟩
   | _,_=>none
  | none=>none
 else none
def trLoop (P:Program) (td:Array Oper→Option XDraw) (L:LoopC):Option (XCode × XCode):=(trCode P td L.n L.assign).bind fun a=>(trCode P td L.n L.body).map fun b=>(a,b)
def DrawOK (P:Program) (B:Nat) (td:Array Oper→Option XDraw) (dr:Drawer):Prop:=
 ∀ cl,CallOK P B cl→∀ ops d,td ops=some d→∀ env S env' S',dr cl d env S=some (env',S')→∀ (id:Nat) φ a w (Q:Exit→Act→World→Prop),Sim B φ S w→B≤w.heap.size→EnvR φ env a→
  (∀ φ' a' w',EnvR φ' env' a'→Sim B φ' S' w'→Keep B φ S w φ' S' w'→a'.defers=a.defers→Q .normal a' w')→∀ r,(Code.region id ops true).wpIn (fz r) 0 P Q a w
def toExit:Ex→Exit
 | .normal=>.normal
 | .exit id=>.exit id
 | .ret=>.ret
section
variable {P:Program} {B:Nat}
theorem rounds_mono {F:Fence} {c:Code} {Q Q':Exit→Act→World→Prop} (h:∀ e a w,Q e a w→Q' e a w):∀ n a w,Code.roundsIn F 0 P c Q n a w→Code.roundsIn F 0 P c Q' n a w:=by
 intro n
 induction n with
 | zero=>intro a w h;exact h.elim
 | succ n ih=>
  intro a w hh
  rw [roundsIn_succ] at hh ⊢
  refine wpIn_mono hh ?_
  intro e a' w' hq
  cases e<;>first | exact ih _ _ hq | exact h _ _ _ hq
def PostX (B:Nat) (φ:Emb) (S:St) (w:World) (a:Act) (r:Ex × Env × St):Exit→Act→World→Prop:=fun e a' w'=>
 e=toExit r.1∧∃ φ',EnvR φ' r.2.1 a'∧Sim B φ' r.2.2 w'∧Keep B φ S w φ' r.2.2 w'∧∃ ex,a'.defers=ex++a.defers∧Marks w.heap.size w' ex
theorem PostX.trans {φ φ1:Emb} {S S1:St} {w w1:World} {a a1:Act} {r:Ex × Env × St} (hk:Keep B φ S w φ1 S1 w1) (hs1:Sim B φ1 S1 w1) (hd:∃ ex,a1.defers=ex++a.defers∧Marks w.heap.size w1 ex) {e:Exit} {a':Act} {w':World} (h:PostX B φ1 S1 w1 a1 r e a' w'):PostX B φ S w a r e a' w':=by
 obtain ⟨h1,φ',h2,h3,h4,ex,h5,h6⟩:=h
 obtain ⟨ex1,h7,h8⟩:=hd
 exact ⟨h1,φ',h2,h3,hk.trans h4,ex++ex1,by rw [h5,h7,List.append_assoc],Marks.append hk.size h6 (h8.keep hs1 h4) h8.lt⟩
theorem PostX.same {φ φ':Emb} {S:St} {w:World} {a:Act} {r:Ex × Env × St} {e:Exit} {a':Act} {w':World} (h1:e=toExit r.1) (h2:EnvR φ' r.2.1 a') (h3:Sim B φ' r.2.2 w') (h4:Keep B φ S w φ' r.2.2 w') (h5:a'.defers=a.defers):PostX B φ S w a r e a' w':=
 ⟨h1,φ',h2,h3,h4,[],by rw [h5];rfl,trivial⟩
theorem enter_sound {r:Option Nat} {φ:Emb} {S:St} {w:World} {env:Env} {a:Act} (hs:Sim B φ S w) (hB:B≤w.heap.size) (henv:EnvR φ env a) (hr:InR r φ S w) (fn:FuncId) (L:LoopC) :
  ∃ l mark w1 φ1,(Instr.enterLoop fn a.tmps L.ps L.assign L.body r).run P w=.ok (l,mark) w1∧φ1 S.next=some ⟨l,0,0,0⟩∧Sim B φ1 (S.alloc (.loop env L none)) w1∧Keep B φ S w φ1 (S.alloc (.loop env L none)) w1∧Marks w.heap.size w1 mark∧(∀ d∈mark,d.target≠.collected l)∧w.heap.size≤l:=by
 cases r with
 | none=>
  have hl:LoopR φ env L none { state:=.ready,pending:=none,fn,tmps:=a.tmps,params:=L.ps,assign:=L.assign,body:=L.body,defers:=w.heap.size }:=⟨henv,rfl,rfl,rfl,rfl,rfl⟩
  obtain ⟨k1,k2⟩:=hs.allocOther (.deferred (some []))
  obtain ⟨k3,k4⟩:=k1.loopNew (by simp;omega) hl
  refine ⟨_,_,_,_,run_enterLoop_outer fn a.tmps L.ps L.assign L.body,by rw [Emb.add_same,World.size_alloc],k3,k2.trans k4,⟨⟨w.heap.size,rfl,Nat.le_refl _,?_,by simp⟩,trivial⟩,?_,by omega⟩
  ·rw [heap_alloc',if_neg (by simp),heap_alloc',if_pos rfl]
  ·intro d hd
   simp only [List.mem_singleton] at hd
   subst hd
   intro e
   have:=Go.Target.collected.inj e
   omega
 | some l0=>
  obtain ⟨⟨r0,h0⟩,_⟩:=hr l0 rfl
  have hl:LoopR φ env L none { state:=.ready,pending:=none,fn,tmps:=a.tmps,params:=L.ps,assign:=L.assign,body:=L.body,defers:=r0.defers }:=⟨henv,rfl,rfl,rfl,rfl,rfl⟩
  obtain ⟨k3,k4⟩:=hs.loopNew hB hl
  refine ⟨w.heap.size,[],_,_,?_,Emb.add_same _ _ _,k3,k4,trivial,by simp,Nat.le_refl _⟩
  unfold Instr.enterLoop
  simp only [Sem.run_bind,run_getLoop h0,run_newObj_alloc,Result.andThen,Sem.run_pure]
theorem range_sound {cl:Caller} (hcl:CallOK P B cl) {g:Operand} {ps:Array Tmp} {assign body:Code} {N:Nat} {env:Env} {S S2:St} {r:Ex × Env × St} {gf:FuncId} {fa fb fa' fb':Array Value} {v:Value} {a:Act} {w:World} {φ:Emb} {ro:Option Nat}
  (hc:cl (.func gf) (fa++#[.func (.yield S.next) #[] #[]]++fb) (S.alloc (.loop env ⟨ps,assign,body,N⟩ none))=some (v,S2))
  (h:(match S2.get S.next with
   | .obj (.loop _ _ none)=>some (.normal,env,S2.put S.next .gone)
   | .obj (.loop _ _ (some e))=>some (e,env,S2.put S.next .gone)
   | _=>none)=some r)
  (e':a.eval g=.func (.func gf) fa' fb') (hfa:RelA φ fa fa') (hfb:RelA φ fb fb') (hro:InR ro φ S w) (hs:Sim B φ S w) (hB:B≤w.heap.size) (henv:EnvR φ env a) :
  (Code.rangeFunc g ps assign body).wpIn (fz ro) 0 P (PostX B φ S w a r) a w:=by
 refine wpIn_rangeFunc fun fn _=>?_
 obtain ⟨l,mark,w1,φ1,q1,q2,q3,q4,q5,q6,q7⟩:=enter_sound (P:=P) hs hB henv hro fn ⟨ps,assign,body,N⟩
 obtain ⟨⟨f0,c1,c2,c3⟩,hcall⟩:=hcl _ _ _ _ _ hc
 have hy:RelA φ1 #[.func (.yield S.next) #[] #[]] #[.func (.yield l) #[] #[]]:=⟨rfl,fun i h1 h2=>by
  have:i=0:=by simp at h1;omega
  subst this
  exact Rel.yield S.next ⟨l,0,0,0⟩ q2⟩
 have hcalls:Calls P gf (fa'++#[.func (.yield l) #[] #[]]++fb') w1 (rangePost (fz ro) 0 P l (PostX B φ S w a r) { a with defers:=mark++a.defers }):=by
  have hargs:RelA φ1 (fa++#[.func (.yield S.next) #[] #[]]++fb) (fa'++#[.func (.yield l) #[] #[]]++fb'):=RelA.append (RelA.append (hfa.mono q4.le) hy) (hfb.mono q4.le)
  have hB1:B≤w1.heap.size:=Nat.le_trans hB q4.size
  have hc1:Calls P gf (fa'++#[.func (.yield l) #[] #[]]++fb') w1 (OutC B φ1 (S.alloc (.loop env ⟨ps,assign,body,N⟩ none)) w1 v S2):=hcall φ1 w1 _ hargs q3 hB1
  refine Calls.mono hc1 ?_
  intro ed w3 hout
  obtain ⟨φ2,v',hed,r1,r2,r3⟩:=hout
  subst hed
  have hid:=r3.le _ _ q2
  obtain ⟨env2,L2,pe,hget,hres⟩:∃ env2 L2 pe,S2.get S.next=.loop env2 L2 pe∧r=((pe.getD .normal),env,S2.put S.next .gone):=by
   split at h
   ·rename_i e3
    exact ⟨_,_,_,e3,(Option.some.inj h).symm⟩
   ·rename_i e3
    exact ⟨_,_,_,e3,(Option.some.inj h).symm⟩
   ·cases h
  subst hres
  obtain ⟨hBl,rc,hrc,hlr⟩:=r2.loopAt hid hget
  obtain ⟨g1,g2,g3⟩:=r2.loopGone hid hget
  have hsim:Sim B φ2 (S2.put S.next .gone) (w3.putObj l (.loop { rc with state:=.exhausted })):=g1.putOther _ hrc rfl g3 (.inl hBl.1)
  have hkeep:Keep B φ S w φ2 (S2.put S.next .gone) (w3.putObj l (.loop { rc with state:=.exhausted })):=((q4.trans r3).trans g2).putNew q7 _
  have hmk:Marks w.heap.size (w3.putObj l (.loop { rc with state:=.exhausted })) mark:=(q5.keep q3 r3).putObj _ q6
  have hpost:∀ ex:Ex,PostX B φ S w a (ex,env,S2.put S.next .gone) (toExit ex) { a with defers:=mark++a.defers } (w3.putObj l (.loop { rc with state:=.exhausted })):=fun ex=>
   ⟨rfl,φ2,henv.mono (q4.le.trans r3.le),hsim,hkeep,mark,rfl,hmk⟩
  have hend:=run_endLoop (P:=P) hrc hlr.notBusy
  have hp:=hlr.2.2.2.2.1
  generalize (w3.putObj l (.loop { rc with state:=.exhausted }))=w4 at *
  generalize rc.pending=pend at *
  subst hp
  refine ⟨pe.map Ex.code,w4,hend,?_⟩
  cases pe with
  | none=>exact hpost .normal
  | some ex=>
   cases ex with
   | normal=>exact wpIn_skip (hpost .normal)
   | exit id=>exact wpIn_exit (hpost (.exit id))
   | ret=>exact wpIn_ret (hpost .ret)
 have h1:(resolve a.eval (rangeCall g l) 0).run P w1=.ok { target:=.fn (.func gf) fb',args:=fa'++#[.func (.yield l) #[] #[]] } w1:=by
  simp only [resolve]
  rw [e']
  simp [Deferred.ofValue,Act.eval]
 have h2:(invoke (.fn (.func gf) fb') (fa'++#[.func (.yield l) #[] #[]])).run P w1=.ok (.enter gf (fa'++#[.func (.yield l) #[] #[]]++fb')) w1:=by
  simp [invoke,callFunc_run c1 c2 c3]
 have h3:CallsIn (fz ro) (0 - 1) P gf (fa'++#[.func (.yield l) #[] #[]]++fb') w1 (rangePost (fz ro) 0 P l (PostX B φ S w a r) { a with defers:=mark++a.defers }):=callsIn_fz.2 hcalls
 have h4:(fz ro).depth.isSome=true→1≤0:=fun hd=>by simp [fz,Fence.wide] at hd
 have h5:∀ f',Target.leads P w1 (.fn (.func gf) fb') (fa'++#[.func (.yield l) #[] #[]])=some f'→(fz ro).fn f':=fun _ _=>trivial
 generalize fa'++#[.func (.yield l) #[] #[]]++fb'=A at h2 h3
 generalize fa'++#[.func (.yield l) #[] #[]]=A1 at h1 h2 h5
 exact ⟨l,mark,w1,{ target:=.fn (.func gf) fb',args:=A1 },w1,gf,A,w1,q1,h1,h5,h2,h4,h3⟩
theorem code_sound {N:Nat} {td:Array Oper→Option XDraw} {dr:Drawer} {cl:Caller} (hdr:DrawOK P B td dr) (hcl:CallOK P B cl) (n:Nat):∀ (c:Code) (x:XCode),trCode P td N c=some x→∀ (env:Env) (S:St) (r:Ex × Env × St),xcode dr cl n x env S=some r→
  ∀ (ro:Option Nat) (φ:Emb) (a:Act) (w:World),InR ro φ S w→Sim B φ S w→B≤w.heap.size→EnvR φ env a→c.wpIn (fz ro) 0 P (PostX B φ S w a r) a w:=by
 intro c
 induction c with
 | skip=>
  intro x hx env S r h ro φ a w hro hs hB henv
  obtain rfl:=Option.some.inj hx
  obtain rfl:=Option.some.inj h
  exact wpIn_skip (PostX.same rfl henv hs (Keep.refl _ _ _ _) rfl)
 | region id ops draw=>
  intro x hx env S r h ro φ a w hro hs hB henv
  cases draw with
  | false=>
   simp only [trCode,Option.map_eq_some_iff] at hx
   obtain ⟨xs,hxs,rfl⟩:=hx
   simp only [xcode,Option.map_eq_some_iff] at h
   obtain ⟨⟨env',S'⟩,h,rfl⟩:=h
   refine wpIn_region ?_
   rw [List.range_eq_range']
   exact ops_sound hcl hxs ops.size 0 env S env' S' φ a w (by omega) (by simpa using h) hs hB henv fun φ' a' w' h1 h2 h3 h4=>PostX.same rfl h1 h2 h3 h4
  | true=>
   simp only [trCode,Option.map_eq_some_iff] at hx
   obtain ⟨d,hd,rfl⟩:=hx
   simp only [xcode,Option.map_eq_some_iff] at h
   obtain ⟨⟨env',S'⟩,h,rfl⟩:=h
   exact hdr cl hcl ops d hd env S env' S' h id φ a w _ hs hB henv (fun φ' a' w' h1 h2 h3 h4=>PostX.same rfl h1 h2 h3 h4) ro
 | seq c1 c2 ih1 ih2=>
  intro x hx env S r h ro φ a w hro hs hB henv
  simp only [trCode] at hx
  split at hx
  case h_2=>cases hx
  rename_i x1 x2 hx1 hx2
  obtain rfl:=Option.some.inj hx
  simp only [xcode,Option.bind_eq_some_iff] at h
  obtain ⟨⟨e1,env1,S1⟩,h1,h2⟩:=h
  refine wpIn_seq (wpIn_mono (ih1 x1 hx1 env S _ h1 ro φ a w hro hs hB henv) ?_)
  rintro e a1 w1 ⟨he,φ1,k1,k2,k3,k4⟩
  simp only at he k1 k2 k3
  cases e1 with
  | normal=>
   subst he
   simp only at h2
   exact wpIn_mono (ih2 x2 hx2 env1 S1 r h2 ro φ1 a1 w1 (hro.same k3) k2 (Nat.le_trans hB k3.size) k1) fun e a' w' hp=>PostX.trans k3 k2 k4 hp
  | exit id=>
   subst he
   obtain rfl:=Option.some.inj h2
   exact ⟨rfl,φ1,k1,k2,k3,k4⟩
  | ret=>
   subst he
   obtain rfl:=Option.some.inj h2
   exact ⟨rfl,φ1,k1,k2,k3,k4⟩
 | cond c c1 c2 ih1 ih2=>
  intro x hx env S r h ro φ a w hro hs hB henv
  simp only [trCode] at hx
  split at hx
  case isFalse=>cases hx
  rename_i hok
  split at hx
  case h_2=>cases hx
  rename_i x1 x2 hx1 hx2
  obtain rfl:=Option.some.inj hx
  have hc:=henv.ev hok
  simp only [xcode] at h
  split at h
  ·rename_i e
   rw [e] at hc
   exact wpIn_cond_true (bool_inv hc) (ih1 x1 hx1 env S r h ro φ a w hro hs hB henv)
  ·rename_i e
   rw [e] at hc
   exact wpIn_cond_false (bool_inv hc) (ih2 x2 hx2 env S r h ro φ a w hro hs hB henv)
  ·cases h
 | block id c ih=>
  intro x hx env S r h ro φ a w hro hs hB henv
  simp only [trCode,Option.map_eq_some_iff] at hx
  obtain ⟨x1,hx1,rfl⟩:=hx
  simp only [xcode,Option.map_eq_some_iff] at h
  obtain ⟨⟨e1,env1,S1⟩,h1,rfl⟩:=h
  refine wpIn_block (wpIn_mono (ih x1 hx1 env S _ h1 ro φ a w hro hs hB henv) ?_)
  rintro e a1 w1 ⟨he,φ1,k1,k2,k3,k4⟩
  simp only at he k1 k2 k3
  cases e1 with
  | normal=>subst he;exact ⟨rfl,φ1,k1,k2,k3,k4⟩
  | ret=>subst he;exact ⟨rfl,φ1,k1,k2,k3,k4⟩
  | exit id'=>
   subst he
   simp only [toExit,Exit.inBlock]
   by_cases e:id'=id
   ·subst e
    rw [if_pos rfl,if_pos rfl]
    exact ⟨rfl,φ1,k1,k2,k3,k4⟩
   ·rw [if_neg e,if_neg e]
    exact ⟨rfl,φ1,k1,k2,k3,k4⟩
 | loop c ih=>
  intro x hx env S r h ro φ a w hro hs hB henv
  simp only [trCode,Option.map_eq_some_iff] at hx
  obtain ⟨x1,hx1,rfl⟩:=hx
  simp only [xcode] at h
  refine wpIn_loop_rounds n ?_
  have key:∀ (m:Nat) (env:Env) (S:St) (r:Ex × Env × St),xloop (xcode dr cl n x1) m env S=some r→∀ (φ:Emb) (a:Act) (w:World),InR ro φ S w→Sim B φ S w→B≤w.heap.size→EnvR φ env a→Code.roundsIn (fz ro) 0 P c (PostX B φ S w a r) m a w:=by
   intro m
   induction m with
   | zero=>intro env S r h;cases h
   | succ m ihm=>
    intro env S r h φ a w hro hs hB henv
    rw [roundsIn_succ]
    simp only [xloop,Option.bind_eq_some_iff] at h
    obtain ⟨⟨e1,env1,S1⟩,h1,h2⟩:=h
    refine wpIn_mono (ih x1 hx1 env S _ h1 ro φ a w hro hs hB henv) ?_
    rintro e a1 w1 ⟨he,φ1,k1,k2,k3,k4⟩
    simp only at he k1 k2 k3
    cases e1 with
    | normal=>
     subst he
     simp only at h2
     have:=ihm env1 S1 r h2 φ1 a1 w1 (hro.same k3) k2 (Nat.le_trans hB k3.size) k1
     exact rounds_mono (fun e a' w' hp=>PostX.trans k3 k2 k4 hp) m a1 w1 this
    | exit id=>
     subst he
     obtain rfl:=Option.some.inj h2
     exact ⟨rfl,φ1,k1,k2,k3,k4⟩
    | ret=>
     subst he
     obtain rfl:=Option.some.inj h2
     exact ⟨rfl,φ1,k1,k2,k3,k4⟩
  exact key n env S r h φ a w hro hs hB henv
 | scope c ih=>
  intro x hx env S r h ro φ a w hro hs hB henv
  refine wpIn_scope_straight (wpIn_mono (ih x hx env S r h ro φ a w hro hs hB henv) ?_)
  rintro e a1 w1 ⟨he,rest⟩
  subst he
  obtain ⟨e1,env1,S1⟩:=r
  cases e1<;>exact ⟨rfl,rest⟩
 | exit id=>
  intro x hx env S r h ro φ a w hro hs hB henv
  obtain rfl:=Option.some.inj hx
  obtain rfl:=Option.some.inj h
  exact wpIn_exit (PostX.same rfl henv hs (Keep.refl _ _ _ _) rfl)
 | ret=>
  intro x hx env S r h ro φ a w hro hs hB henv
  obtain rfl:=Option.some.inj hx
  obtain rfl:=Option.some.inj h
  exact wpIn_ret (PostX.same rfl henv hs (Keep.refl _ _ _ _) rfl)
 | rangeFunc g ps assign body _ _=>
  intro x hx env S r h ro φ a w hro hs hB henv
  simp only [trCode] at hx
  split at hx
  case isFalse=>cases hx
  rename_i hok
  split at hx
  case h_2=>cases hx
  obtain rfl:=Option.some.inj hx
  have hg:=henv.ev hok
  simp only [xcode] at h
  split at h
  case h_2=>cases h
  rename_i gf fa fb e
  rw [e] at hg
  obtain ⟨fa',fb',e',hfa,hfb⟩:∃ fa' fb',a.eval g=.func (.func gf) fa' fb'∧RelA φ fa fa'∧RelA φ fb fb':=by
   revert hg
   generalize a.eval g=u
   intro hg
   cases hg with
   | func _ _ _ a' b' ha hb h1 h2=>exact ⟨a',b',rfl,⟨ha,h1⟩,⟨hb,h2⟩⟩
  simp only [Option.bind_eq_some_iff] at h
  obtain ⟨⟨v,S2⟩,hc,h⟩:=h
  exact range_sound hcl hc h e' hfa hfb hro hs hB henv
 | label l=>intro x hx;cases hx
 | goto l=>intro x hx;cases hx
 | refuse why=>intro x hx;cases hx
def resSem (tmps:Array Value):ResultVar→Sem Value
 | .tmp t=>pure (tmps.getD t undef)
 | .cell p t=>do loadVar t (← asAddr (tmps.getD p undef))
theorem results_eq (fn:Func) (tmps:Array Value):results fn tmps=(do let vs ← fn.results.mapM (resSem tmps);pure (if h:vs.size=1 then vs[0] else .tuple vs)):=by
 unfold results
 congr
theorem res1_sound {φ:Emb} {S:St} {w:World} {env:Env} {a:Act} (hs:Sim B φ S w) (henv:EnvR φ env a) {rv:ResultVar} {xr:XRes} (ht:trRes P rv=some xr) {v:Value} (h:xres1 env S xr=some v) :
  ∃ v',(resSem a.tmps rv).run P w=.ok v' w∧Rel φ v v':=by
 cases rv with
 | tmp t=>
  obtain rfl:=Option.some.inj ht
  obtain rfl:=Option.some.inj h
  exact ⟨_,rfl,henv.ev (x:=.tmp t) rfl⟩
 | cell p t=>
  simp only [trRes] at ht
  split at ht
  case h_2=>cases ht
  rename_i d i hd hi
  obtain rfl:=Option.some.inj ht
  simp only [xres1] at h
  split at h
  case h_2=>cases h
  rename_i id o e
  have hx:Rel φ (env.getD p undef) (a.tmps.getD p undef):=henv.ev (x:=.tmp p) rfl
  rw [e] at hx
  simp only [Option.bind_eq_some_iff] at h
  obtain ⟨c,hc,hv⟩:=h
  obtain ⟨s,e1,e2⟩:=ptr_inv hx
  obtain ⟨v',h1,h2⟩:=loadVar_sound (P:=P) hs hd hi e1 hc hv
  refine ⟨v',?_,h2⟩
  simp only [resSem,e2,Sem.run_bind,asAddr,Sem.run_pure,Result.andThen_ok,h1]
theorem res_sound {φ:Emb} {S:St} {w:World} {env:Env} {a:Act} (hs:Sim B φ S w) (henv:EnvR φ env a):∀ (l:List ResultVar) (xs:List XRes) (vs:List Value),l.mapM (trRes P)=some xs→xs.mapM (xres1 env S)=some vs→
  ∃ vs',(l.mapM (resSem a.tmps)).run P w=.ok vs' w∧RelL φ vs vs':=by
 intro l
 induction l with
 | nil=>
  intro xs vs h1 h2
  simp at h1
  subst h1
  simp at h2
  subst h2
  exact ⟨[],by simp,RelL.nil φ⟩
 | cons rv l ih=>
  intro xs vs h1 h2
  simp only [List.mapM_cons,Option.bind_eq_bind,Option.bind_eq_some_iff] at h1
  obtain ⟨x,hx,xs',hxs,h1⟩:=h1
  simp at h1
  subst h1
  simp only [List.mapM_cons,Option.bind_eq_bind,Option.bind_eq_some_iff] at h2
  obtain ⟨v,hv,vs',hvs,h2⟩:=h2
  simp at h2
  subst h2
  obtain ⟨v',k1,k2⟩:=res1_sound hs henv hx hv
  obtain ⟨vs'',k3,k4⟩:=ih xs' vs' hxs hvs
  refine ⟨v'::vs'',?_,RelL.cons k2 k4⟩
  simp only [List.mapM_cons,Sem.run_bind,Sem.run_pure]
  rw [k1]
  simp only [Result.andThen_ok]
  rw [k3]
  rfl
theorem foldl_rel {φ:Emb}:∀ (ps:List Tmp) (xs xs':List Value) (env:Env) (t':Array Value),RelA φ env t'→RelL φ xs xs'→
  RelA φ ((ps.zip xs).foldl (fun t (p,v)=>t.setIfInBounds p v) env) ((ps.zip xs').foldl (fun t (p,v)=>t.setIfInBounds p v) t'):=by
 intro ps
 induction ps with
 | nil=>intro xs xs' env t' h _;simpa using h
 | cons p ps ih=>
  intro xs xs' env t' h hx
  cases xs with
  | nil=>
   obtain rfl:xs'=[]:=List.eq_nil_of_length_eq_zero hx.1.symm
   simpa using h
  | cons x xs=>
   cases xs' with
   | nil=>have:=hx.1;simp at this
   | cons x' xs'=>
    simp only [List.zip_cons_cons,List.foldl_cons]
    refine ih xs xs' _ _ ?_ hx.tail
    exact EnvR.put (a:={ tmps:=t',defers:=[] }) (show EnvR φ env { tmps:=t',defers:=[] } from h) (some p) (hx.2 0 (by simp) (by simp))
theorem zip_foldl (ps:Array Tmp) (args:Array Value) (t:Array Value):(ps.zip args).foldl (fun t (p,v)=>t.setIfInBounds p v) t=(ps.toList.zip args.toList).foldl (fun t (p,v)=>t.setIfInBounds p v) t:=by
 rw [← Array.foldl_toList,Array.toList_zip]
theorem round_sound {td:Array Oper→Option XDraw} {dr:Drawer} {cl:Caller} (hdr:DrawOK P B td dr) (hcl:CallOK P B cl) (n:Nat) {LT:LoopC→Option (XCode × XCode)} (hLT:∀ L x,LT L=some x→trLoop P td L=some x) {id:Nat} {args:Array Value} {S S':St} {v:Value}
  (h:xround dr cl n LT id args S=some (v,S')) {φ:Emb} {w:World} {args':Array Value} (hargs:RelA φ args args') (hs:Sim B φ S w) (hB:B≤w.heap.size) {s:Spot} (hid:φ id=some s):Yields P s.b args' w (OutC B φ S w v S'):=by
 unfold xround at h
 split at h
 case h_2=>cases h
 rename_i env L hget
 split at h
 case isFalse=>cases h
 rename_i hsz
 generalize hE:(L.ps.zip args).foldl (fun t (p,v)=>t.setIfInBounds p v) env=env0 at h
 simp only [Option.bind_eq_some_iff] at h
 obtain ⟨⟨xa,xb⟩,hL,⟨e1,env1,S1⟩,h1,h2⟩:=h
 have hL:=hLT L _ hL
 simp only [trLoop,Option.bind_eq_some_iff,Option.map_eq_some_iff,Prod.mk.injEq] at hL
 obtain ⟨xa',ha,xb',hb,e1',e2'⟩:=hL
 subst e1' e2'
 cases e1 with
 | exit _=>simp at h2
 | ret=>simp at h2
 | normal=>
 simp only [Option.map_eq_some_iff] at h2
 obtain ⟨⟨e2,env2,S2⟩,h2,h3⟩:=h2
 obtain ⟨hBs,r,hr,hlr⟩:=hs.loopAt hid hget
 obtain ⟨q1,q2,q3,q4,q5,q6⟩:=hlr
 obtain ⟨g1,g2,g3⟩:=hs.loopGone hid hget
 have hlt:s.b < w.heap.size:=(Array.getElem?_eq_some_iff.1 hr).1
 refine ⟨r.fn,_,r.assign,r.body,run_yield hr (by rw [q2,← hargs.1];exact hsz),roundIn_of_wpIn trivial ?_⟩
 have hin:InR (some s.b) φ (S.put id .gone) w:=fun l e=>by
  obtain rfl:=Option.some.inj e
  exact ⟨⟨r,hr⟩,g3⟩
 have hwr:(S.get id).wr=true:=wr_loop hget
 have hrel:RelA φ env0 ((r.params.zip args').foldl (fun t (p,v)=>t.setIfInBounds p v) r.tmps):=by
  rw [← hE,q2,zip_foldl,zip_foldl]
  exact foldl_rel _ _ _ _ _ q1 hargs.toL
 have hass:=code_sound hdr hcl n r.assign xa' (by rw [q3];exact ha) _ _ _ h1 (some s.b) φ { tmps:=(r.params.zip args').foldl (fun t (p,v)=>t.setIfInBounds p v) r.tmps,defers:=[] } w hin g1 hB hrel
 refine wpIn_mono hass ?_
 rintro e a1 w1 ⟨he,φ1,k1,k2,k3,ex,k4,k5⟩
 simp only [toExit] at he
 subst he
 simp only at k1 k2 k3
 have hr1:w1.heap[s.b]? = some (.loop r):=by rw [k3.keep s.b hlt g3];exact hr
 have hn1:NoWr φ1 S1 s.b:=g3.keep hlt k3
 refine ⟨_,run_beginRound hr1 q6,?_⟩
 have hs2:Sim B φ1 S1 (w1.putObj s.b (.loop { r with state:=.busy })):=k2.putOther _ hr1 rfl hn1 (.inl hBs.1)
 have hr2:(w1.putObj s.b (.loop { r with state:=.busy })).heap[s.b]? = some (.loop { r with state:=.busy }):=World.putObj_heap_same (Array.getElem?_eq_some_iff.1 hr1).1
 have hin2:InR (some s.b) φ1 S1 (w1.putObj s.b (.loop { r with state:=.busy })):=fun l e=>by
  obtain rfl:=Option.some.inj e
  exact ⟨⟨_,hr2⟩,hn1⟩
 have hk1:Keep B φ S w φ1 S1 (w1.putObj s.b (.loop { r with state:=.busy })):=(g2.trans k3).putObj hid hwr _
 have hbody:=code_sound hdr hcl n r.body xb' (by rw [q4];exact hb) _ _ _ h2 (some s.b) φ1 a1 _ hin2 hs2 (by have:=hk1.size;omega) k1
 refine wpIn_mono hbody ?_
 rintro e a3 w3 ⟨he,φ3,m1,m2,m3,ex3,m4,m5⟩
 simp only at he m1 m2 m3
 have hr3:w3.heap[s.b]? = some (.loop { r with state:=.busy }):=by
  rw [m3.keep s.b (by have:=hk1.size;omega) hn1];exact hr2
 have hn3:NoWr φ3 S2 s.b:=hn1.keep (by have:=hk1.size;omega) m3
 have hk3:Keep B φ S w φ3 S2 w3:=hk1.trans m3
 have fin:∀ (pe:Option Ex),S'=S2.put id (.loop env L pe)→v=.bool (pe.map Ex.code).isNone→∃ v' w',(Instr.endRound s.b (pe.map Ex.code)).run P w3=.ok v' w'∧OutC B φ S w v S' (.returned v') w':=by
  intro pe hS' hv
  subst hS' hv
  have hend:=run_endRound (P:=P) (pe.map Ex.code) hr3
  refine ⟨_,_,hend,φ3,_,rfl,.bool _,?_,?_⟩
  ·exact m2.loopBack (hk3.le _ _ hid) hr3 hn3 hBs ⟨q1.mono hk3.le,q2,q3,q4,rfl,by cases pe<;>rfl⟩
  ·exact (hk3.putObj hid hwr _).setBlk hid hwr _
 cases e2 with
 | normal=>
  subst he
  simp only [Prod.mk.injEq] at h3
  exact fin none h3.2.symm h3.1.symm
 | exit j=>
  subst he
  simp only [Prod.mk.injEq] at h3
  exact fin (some (.exit j)) h3.2.symm h3.1.symm
 | ret=>
  subst he
  simp only [Prod.mk.injEq] at h3
  exact fin (some .ret) h3.2.symm h3.1.symm
theorem call_sound {td:Array Oper→Option XDraw} {dr:Drawer} (hdr:DrawOK P B td dr) {F:FuncId→Option XFunc} (hF:∀ f xf,F f=some xf→∃ fn,P.funcs[f]? = some fn∧trFunc P td fn=some xf) {LT:LoopC→Option (XCode × XCode)} (hLT:∀ L x,LT L=some x→trLoop P td L=some x)
  {base:Base} (hbase:CallOK P B (fun g args S=>match g with
   | .func f=>base f args S
   | _=>none)):∀ n,CallOK P B (xcall dr F LT base n):=by
 intro n
 induction n with
 | zero=>
  intro g args S v S' h
  cases g with
  | func f=>
   simp only [xcall] at h
   split at h
   ·exact hbase (.func f) _ _ _ _ h
   ·cases h
  | yield id=>simp [xcall] at h
  | method _=>simp [xcall] at h
  | methodOf _ _=>simp [xcall] at h
  | via _ _ _ _=>simp [xcall] at h
 | succ n ih=>
  intro g args S v S' h
  cases g with
  | method _=>simp [xcall] at h
  | methodOf _ _=>simp [xcall] at h
  | via _ _ _ _=>simp [xcall] at h
  | yield id=>
   simp only [xcall] at h
   exact fun φ w args' hargs hs hB s hid=>round_sound hdr ih n hLT h hargs hs hB hid
  | func f=>
  simp only [xcall] at h
  split at h
  case h_1=>exact hbase (.func f) _ _ _ _ h
  rename_i xf hf
  obtain ⟨fn,h1,h2⟩:=hF f xf hf
  unfold trFunc at h2
  split at h2
  case isFalse=>cases h2
  rename_i hn
  split at h2
  case h_2=>cases h2
  rename_i c hc
  split at h2
  case h_2=>cases h2
  rename_i x r hx hr
  obtain rfl:=Option.some.inj h2
  refine ⟨⟨fn,h1,by simp [hc],hn⟩,fun φ w args' hargs hs hB=>?_⟩
  simp only [Option.bind_eq_some_iff] at h
  obtain ⟨⟨e1,env1,S1⟩,hx1,h⟩:=h
  refine (callsIn_wide (n:=0)).1 (callsIn_of_wp_marks h1 hc trivial (wpIn_mono (code_sound hdr ih n c x hx _ S _ hx1 none φ { tmps:=args'++Array.replicate (fn.ntmps - args'.size) undef,defers:=[] } w (InR.none _ _ _) hs hB ?_) ?_))
  ·rw [hargs.1]
   exact hargs.append ⟨rfl,fun i h1 h2=>by simpa using Rel.undef φ⟩
  ·rintro e a1 w1 ⟨he,φ1,k1,k2,k3,ex,k4,k5⟩
   simp only at he k1 k2 k3 h
   rw [List.append_nil] at k4
   have fin:(xres r env1 S1).map (fun v=>(v,S1))=some (v,S')→LeavesInM Fence.wide 0 P fn a1.tmps (OutC B φ S w v S') a1.defers .returning w1:=by
    intro h
    simp only [xres,Option.map_eq_some_iff,Prod.mk.injEq] at h
    obtain ⟨v0,⟨vs,hvs,rfl⟩,rfl,rfl⟩:=h
    rw [k4]
    refine leaves_marks ex w1 k2 k5 fun w' g1 g2 g3 g4 g5 g6=>?_
    obtain ⟨vs',q1,q2⟩:=res_sound g6 k1 fn.results.toList r vs hr hvs
    have hk':Keep B φ S w φ1 S1 w':=⟨k3.le,k3.place,k3.new,by rw [← g2];exact k3.size,k3.next,g3.trans k3.os,g4.trans k3.tape,g5.trans k3.output,fun b hb hno=>by rw [g1 b hb];exact k3.keep b hb hno,k3.mine⟩
    refine ⟨(if h:vs'.toArray.size=1 then vs'.toArray[0] else .tuple vs'.toArray),?_,φ1,_,rfl,?_,g6,hk'⟩
    ·have hm:(fn.results.mapM (resSem a1.tmps)).run P w'=.ok vs'.toArray w':=by
      rw [← Array.toArray_toList (xs:=fn.results),List.mapM_toArray,Sem.run_map,q1]
      rfl
     rw [results_eq,Sem.run_bind]
     rw [hm]
     rfl
    ·have hl:=q2.1
     match vs,vs',q2 with
     | [],[],q2=>simpa [pack] using Rel.tuple' q2.toA
     | [x],[y],q2=>simpa [pack] using q2.2 0 (by simp) (by simp)
     | x::x2::xs,y::y2::ys,q2=>simpa [pack] using Rel.tuple' q2.toA
     | [],_::_,q2=>exact absurd q2.1 (by simp)
     | _::_,[],q2=>exact absurd q2.1 (by simp)
     | [_],_::_::_,q2=>exact absurd q2.1 (by simp)
     | _::_::_,[_],q2=>exact absurd q2.1 (by simp)
   cases e1 with
   | normal=>subst he;exact fin h
   | ret=>subst he;exact fin h
   | exit id=>cases h
end
end Go.Proofs.YtiinecnjokaejaaGreatDoor

namespace Go.Proofs.YtiinecnjokaejaaGreatDoor
open Go Go.RowKit
def anch:XOp→Bool
 | .extra .mkMap _ | .extra (.nilF _) _ | .extra .gload _ | .extra (.lookG _ _) _=>false
 | .store _ _ _ | .append _ _ _ _ _ | .copy _ _ _ | .clr _ _ _ | .call _ _ | .callv _ _ | .extra _ _=>true
 | _=>false
def heapy:XOp→Bool
 | .load _ _ _ | .sl _ _ _ _=>true
 | _=>false
def isAlloc:XOp→Bool
 | .box _ _ | .zero _ _ | .mkSlice _ _ _ _ _ _ | .buildSlice _ _ _ _ _ | .extra .mkMap _=>true
 | _=>false
structure Rec where
 env:Env
 S:St
 w:Bool
 v:Value
def xrun (cl:Caller):List XOper→Env→St→Option (List Rec × Env × St)
 | [],env,S=>some ([],env,S)
 | o::r,env,S=>if xwanted o env then (xstep cl o.op (Env.ev env) S).bind fun p=>(xrun cl r (Env.put env o.dst p.1) p.2).map fun q=>(⟨env,S,true,p.1⟩::q.1,q.2)
  else (xrun cl r (Env.put env o.dst undef) S).map fun q=>(⟨env,S,false,undef⟩::q.1,q.2)
def recT (R:List Rec) (S':St) (i:Nat):St:=
 match R[i]? with
 | some r=>r.S
 | none=>S'
def recE (R:List Rec) (env':Env) (i:Nat):Env:=
 match R[i]? with
 | some r=>r.env
 | none=>env'
def Emb.below (φ:Emb) (m:Nat):Emb:=⟨fun id=>if id < m then φ id else none,φ.tab⟩
def Scoped (m:Nat) (v:Value):Prop:=∀ φ v',Rel φ v v'→Rel (φ.below m) v v'
def ChkP (d:XDraw) (R:List Rec) (S':St):Prop:=
 (∀ i,i < R.length→(recT R S' i).next≤(recT R S' (i+1)).next)∧
 ∀ i r o,R[i]? = some r→d.ops[i]? = some o→r.w=true→anch o.op=false→∀ q,q∈(d.stages[i]?).getD []→
  (heapy o.op=true→(∃ S'',xop o.op r.env.ev (recT R S' q)=some (r.v,S''))∧(i < q→Scoped r.S.next r.v))∧
  (isAlloc o.op=true→i < q→(recT R S' q).get r.S.next=(recT R S' (i+1)).get r.S.next)
open Classical in
noncomputable def xdraw:Drawer:=fun cl d env S=>(xrun cl d.ops env S).bind fun r=>if ChkP d r.1 r.2.2 then some r.2 else none
theorem xrun_facts {cl:Caller}:∀ (xs:List XOper) (env:Env) (S:St) (R:List Rec) (env':Env) (S':St),xrun cl xs env S=some (R,env',S')→
  R.length=xs.length∧recE R env' 0=env∧recT R S' 0=S∧∀ i (h:i < xs.length),∃ r,R[i]? = some r∧r.env=recE R env' i∧r.S=recT R S' i∧r.w=xwanted xs[i] (recE R env' i)∧
   (r.w=true→xstep cl xs[i].op (recE R env' i).ev (recT R S' i)=some (r.v,recT R S' (i+1)))∧(r.w=false→r.v=undef∧recT R S' (i+1)=recT R S' i)∧recE R env' (i+1)=(recE R env' i).put xs[i].dst r.v:=by
 intro xs
 induction xs with
 | nil=>
  intro env S R env' S' h
  simp only [xrun,Option.some.injEq,Prod.mk.injEq] at h
  obtain ⟨rfl,rfl,rfl⟩:=h
  exact ⟨rfl,rfl,rfl,fun i h=>by simp at h⟩
 | cons o xs ih=>
  intro env S R env' S' h
  have key:∀ (wn:Bool) (v:Value) (S1:St) (R1:List Rec),R=⟨env,S,wn,v⟩::R1→xrun cl xs (env.put o.dst v) S1=some (R1,env',S')→wn=xwanted o env→(wn=true→xstep cl o.op env.ev S=some (v,S1))→(wn=false→v=undef∧S1=S)→
    R.length=(o::xs).length∧recE R env' 0=env∧recT R S' 0=S∧∀ i (h:i < (o::xs).length),∃ r,R[i]? = some r∧r.env=recE R env' i∧r.S=recT R S' i∧r.w=xwanted (o::xs)[i] (recE R env' i)∧
     (r.w=true→xstep cl (o::xs)[i].op (recE R env' i).ev (recT R S' i)=some (r.v,recT R S' (i+1)))∧(r.w=false→r.v=undef∧recT R S' (i+1)=recT R S' i)∧recE R env' (i+1)=(recE R env' i).put (o::xs)[i].dst r.v:=by
   intro wn v S1 R1 hR h1 hw ht hf
   subst hR
   obtain ⟨l1,l2,l3,l4⟩:=ih _ _ _ _ _ h1
   refine ⟨by simp [l1],rfl,rfl,fun i hi=>?_⟩
   have sT:∀ j,recT (⟨env,S,wn,v⟩::R1) S' (j+1)=recT R1 S' j:=fun j=>by simp [recT]
   have sE:∀ j,recE (⟨env,S,wn,v⟩::R1) env' (j+1)=recE R1 env' j:=fun j=>by simp [recE]
   cases i with
   | zero=>
    refine ⟨⟨env,S,wn,v⟩,rfl,rfl,rfl,hw,fun h=>?_,fun h=>?_,?_⟩
    ·rw [sT,l3];exact ht h
    ·rw [sT,l3];exact hf h
    ·rw [sE,l2];rfl
   | succ i=>
    obtain ⟨r,q⟩:=l4 i (by simpa using hi)
    refine ⟨r,?_⟩
    rw [sT,sT,sE,sE]
    simpa using q
  simp only [xrun] at h
  split at h
  ·rename_i hw
   simp only [Option.bind_eq_some_iff,Option.map_eq_some_iff] at h
   obtain ⟨⟨v,S1⟩,h1,⟨R1,e1,s1⟩,h2,h3⟩:=h
   simp only [Prod.mk.injEq] at h3
   obtain ⟨h3,rfl,rfl⟩:=h3
   exact key true v S1 R1 h3.symm h2 hw.symm (fun _=>h1) (fun x=>by cases x)
  ·rename_i hw
   simp only [Option.map_eq_some_iff] at h
   obtain ⟨⟨R1,e1,s1⟩,h2,h3⟩:=h
   simp only [Prod.mk.injEq] at h3
   obtain ⟨h3,rfl,rfl⟩:=h3
   exact key false undef S R1 h3.symm h2 (Bool.eq_false_iff.2 hw).symm (fun x=>by cases x) (fun _=>⟨rfl,rfl⟩)
def fold (dst:Nat→Option Tmp) (val:Nat→Value) (bd:Nat→Nat) (v0:Tmp→Value) (b0:Nat) (dn:Nat→Bool):Nat→Tmp→Value × Nat
 | 0,t=>(v0 t,b0)
 | k+1,t=>if dn k=true∧dst k=some t then (val k,bd k) else fold dst val bd v0 b0 dn k t
section
variable {dst:Nat→Option Tmp} {val:Nat→Value} {bd:Nat→Nat} {v0:Tmp→Value} {b0:Nat} {dn:Nat→Bool}
theorem fold_read {i:Nat} {t:Tmp} (h1:∀ j,j < i→dst j=some t→dn j=true) (h2:∀ j,i≤j→dst j=some t→dn j=false):∀ k,i≤k→fold dst val bd v0 b0 dn k t=fold dst val bd v0 b0 (fun _=>true) i t:=by
 have a:∀ k,k≤i→fold dst val bd v0 b0 dn k t=fold dst val bd v0 b0 (fun _=>true) k t:=by
  intro k
  induction k with
  | zero=>intro _;rfl
  | succ k ih=>
   intro hk
   simp only [fold]
   rw [ih (by omega)]
   by_cases hd:dst k=some t
   ·simp [hd,h1 k (by omega) hd]
   ·simp [hd]
 intro k
 induction k with
 | zero=>
   intro h
   obtain rfl:i=0:=by omega
   exact a 0 (Nat.le_refl _)
 | succ k ih=>
  intro hk
  by_cases e:i=k+1
  ·rw [← e];exact a i (Nat.le_refl _)
  ·simp only [fold]
   rw [ih (by omega)]
   by_cases hd:dst k=some t
   ·simp [h2 k (by omega) hd]
   ·simp [hd]
theorem fold_write {dn':Nat→Bool} {i:Nat} (hdn:∀ j,dn' j=true↔j=i∨dn j=true) (h0:dn i=false) {t:Tmp} (h2:∀ j,i < j→dst i=some t→dst j=some t→dn j=false):∀ k,i < k→
  fold dst val bd v0 b0 dn' k t=if dst i=some t then (val i,bd i) else fold dst val bd v0 b0 dn k t:=by
 have a:∀ k,k≤i→fold dst val bd v0 b0 dn' k t=fold dst val bd v0 b0 dn k t:=by
  intro k
  induction k with
  | zero=>intro _;rfl
  | succ k ih=>
   intro hk
   simp only [fold]
   rw [ih (by omega)]
   have:dn' k=dn k:=by
    rw [Bool.eq_iff_iff,hdn]
    simp;omega
   rw [this]
 intro k
 induction k with
 | zero=>intro h;omega
 | succ k ih=>
  intro hk
  by_cases e:i=k
  ·subst e
   have hi:dn' i=true:=(hdn i).2 (.inl rfl)
   simp only [fold,hi,h0,true_and,Bool.false_eq_true,false_and,if_false]
   rw [a i (Nat.le_refl _)]
  ·simp only [fold]
   rw [ih (by omega)]
   have hne:dn' k=dn k:=by
    rw [Bool.eq_iff_iff,hdn]
    simp;omega
   rw [hne]
   by_cases hd:dst k=some t
   ·by_cases hi:dst i=some t
    ·simp [hi,h2 k (by omega) hi hd]
    ·simp [hi]
   ·simp [hd]
theorem fold_bound {m:Nat→Nat} (h0:b0≤m 0) (hm:∀ k,bd k≤m (k+1)) (mono:∀ k,m k≤m (k+1)) (t:Tmp):∀ k,(fold dst val bd v0 b0 (fun _=>true) k t).2≤m k:=by
 intro k
 induction k with
 | zero=>exact h0
 | succ k ih=>
  simp only [fold]
  split
  ·exact hm k
  ·exact Nat.le_trans ih (mono k)
end
theorem below_at (φ:Emb) (m id:Nat):(φ.below m) id=if id < m then φ id else none:=rfl
theorem below_le (φ:Emb) (m:Nat):Emb.le (φ.below m) φ:=⟨fun id s h=>by
 rw [below_at] at h
 split at h
 ·exact h
 ·exact absurd h (by simp),rfl⟩
theorem below_mono {φ ψ:Emb} (h:Emb.le φ ψ) {m m':Nat} (hm:m≤m'):Emb.le (φ.below m) (ψ.below m'):=⟨fun id s e=>by
 rw [below_at] at e ⊢
 split at e
 ·rw [if_pos (by omega)];exact h id s e
 ·exact absurd e (by simp),h.tab⟩
theorem below_eq {φ:Emb} {m:Nat} (h:∀ id s,φ id=some s→id < m):φ.below m=φ:=by
 refine Emb.ext' (fun id=>?_) rfl
 rw [below_at]
 split
 ·rfl
 ·cases e:φ id with
  | none=>rfl
  | some s=>exact absurd (h id s e) (by assumption)
theorem below_get {φ:Emb} {m id:Nat} (h:id < m):φ.below m id=φ id:=if_pos h
theorem below_some {φ:Emb} {m id:Nat} {s:Spot} (h:φ.below m id=some s):id < m∧φ id=some s:=by
 rw [below_at] at h
 split at h
 ·exact ⟨by assumption,h⟩
 ·cases h
end Go.Proofs.YtiinecnjokaejaaGreatDoor

namespace Go.Proofs.YtiinecnjokaejaaGreatDoor
open Go Go.RowKit
structure More (w w':World):Prop where
 size:w.heap.size≤w'.heap.size
 block:∀ b,b < w.heap.size→w'.heap[b]? = w.heap[b]?
 os:w'.os=w.os
 tape:w'.tape=w.tape
 output:w'.output=w.output
def SK (B:Nat) (φ0:Emb) (S0:St) (w0:World) (φ:Emb) (T:St) (w:World):Prop:=Sim B φ T w∧Keep B φ0 S0 w0 φ T w
section
variable {B:Nat} {φ0 φ:Emb} {S0 T:St} {w0 w w':World}
theorem Loops.of2 {φ':Emb} {T':St} (h:Loops B φ T w) (hle:Emb.le φ φ') (hS:∀ id s o,φ' id=some s→T'.get id=.obj o→φ id=some s∧T.get id=.obj o)
  (hw:∀ (b:Nat) r,w.heap[b]? = some r→w'.heap[b]? = some r):Loops B φ' T' w':=by
 refine ⟨h.1.of (Nat.le_refl _) hle.tab (fun b o _ _ e=>hw b o e),?_⟩
 intro id s o e e2
 obtain ⟨f1,f2⟩:=hS id s o e e2
 obtain ⟨h1,⟨r,h2,h3⟩,h4⟩:=h.2 id s o f1 f2
 refine ⟨h1,⟨r,hw _ r h2,h3.mono hle⟩,fun j sj o' hj ej ej2=>?_⟩
 obtain ⟨g1,g2⟩:=hS j sj o' ej ej2
 exact h4 j sj o' hj g1 g2
theorem Sim.more (h:Sim B φ T w) (hm:More w w'):Sim B φ T w':=
 ⟨fun id s e=>⟨(h.dom id s e).1,Nat.lt_of_lt_of_le (h.dom id s e).2 hm.size⟩,h.gone,fun id s c t sz m an e e2=>by
  obtain ⟨a1,a2,a3,cs,t',a4,a5⟩:=h.blk id s c t sz m an e e2
  exact ⟨a1,a2,a3,cs,t',a4.same (hm.block _ (h.dom id s e).2),a5⟩,h.apart,h.loops.of2 (Emb.le.refl _) (fun _ _ _ e e2=>⟨e,e2⟩) fun b r e=>by rw [hm.block b (Array.getElem?_eq_some_iff.1 e).1];exact e⟩
theorem SK.more (h:SK B φ0 S0 w0 φ T w) (hm:More w w'):SK B φ0 S0 w0 φ T w':=
 ⟨h.1.more hm,⟨h.2.le,h.2.place,h.2.new,Nat.le_trans h.2.size hm.size,h.2.next,hm.os.trans h.2.os,hm.tape.trans h.2.tape,hm.output.trans h.2.output,
  fun b hb hno=>by rw [hm.block b (Nat.lt_of_lt_of_le hb h.2.size)];exact h.2.keep b hb hno,h.2.mine⟩⟩
theorem SK.skip (h:SK B φ0 S0 w0 φ T w) (b:Blk):SK B φ0 S0 w0 φ (T.alloc b) w:=by
 have hne:∀ id s,φ id=some s→id≠T.next:=fun id s e=>by have:=(h.1.dom id s e).1;omega
 refine ⟨⟨fun id s e=>⟨by have:=(h.1.dom id s e).1;simp;omega,(h.1.dom id s e).2⟩,(fun id hi=>by rw [St.get_alloc,if_neg (by simp at hi;omega)];exact h.1.gone id (by simp at hi;omega)),fun id s c t sz m an e e2=>?_,fun id s c t sz an e e2 j sj cj tj zj mj aj hj e3 e4=>?_,h.1.loops.of2 (Emb.le.refl _) (fun id s o e e2=>⟨e,by rwa [St.get_alloc,if_neg (hne id s e)] at e2⟩) fun _ _ e=>e⟩,?_⟩
 ·rw [St.get_alloc,if_neg (hne id s e)] at e2
  exact h.1.blk id s c t sz m an e e2
 ·rw [St.get_alloc,if_neg (hne id s e)] at e2
  rw [St.get_alloc,if_neg (hne j sj e3)] at e4
  exact h.1.apart id s c t sz an e e2 j sj cj tj zj mj aj hj e3 e4
 ·refine ⟨h.2.le,h.2.place,h.2.new,h.2.size,by have:=h.2.next;simp;omega,h.2.os,h.2.tape,h.2.output,h.2.keep,fun id s e e2 hlt=>?_⟩
  rw [St.get_alloc,if_neg (hne id s e)] at e2
  exact h.2.mine id s e e2 hlt
inductive Born (φ:Emb) (w:World) (s:Spot):Blk→Prop where
 | row (c:List Value) (t:TypeId) (cs:Array Value) (t':TypeId) (hlen:c.length≤s.ext) (hg:w.heap[s.b]? = some (.cells cs t' (0,0))) (hext:s.base+s.ext≤cs.size)
  (hcell:∀ (i:Nat) v,c[i]? = some v→v.oneCell'=true∧∃ v',cs[s.base+i]? = some v'∧Rel φ v v'):Born φ w s (.cells c t s.sz true [])
 | map (hb:s.base=0) (hg:w.heap[s.b]? = some (.map #[] 0)):Born φ w s (.map [] 0)
theorem Born.mono {ψ:Emb} {s:Spot} {b:Blk} (hle:Emb.le φ ψ) (h:Born φ w s b):Born ψ w s b:=by
 cases h with
 | row c t cs t' h1 h2 h3 h4=>
  refine .row c t cs t' h1 h2 h3 fun i v hv=>?_
  obtain ⟨q1,v',q2,q3⟩:=h4 i v hv
  exact ⟨q1,v',q2,q3.mono hle⟩
 | map h1 h2=>exact .map h1 h2
theorem Born.same {s:Spot} {b:Blk} (h:Born φ w s b) (e:w'.heap[s.b]? = w.heap[s.b]?):Born φ w' s b:=by
 cases h with
 | row c t cs t' h1 h2 h3 h4=>exact .row c t cs t' h1 (e.trans h2) h3 h4
 | map h1 h2=>exact .map h1 (e.trans h2)
theorem Born.lt {s:Spot} {b:Blk} (h:Born φ w s b):s.b < w.heap.size:=by
 cases h with
 | row c t cs t' h1 h2 h3 h4=>exact (Array.getElem?_eq_some_iff.1 h2).1
 | map h1 h2=>exact (Array.getElem?_eq_some_iff.1 h2).1
theorem SK.insert (h:SK B φ0 S0 w0 φ T w) {id:Nat} (hid:φ id=none) (h0:φ0 id=none) (hlt:id < T.next) (hn:S0.next≤id) {b:Blk} (hget:T.get id=b) {s:Spot} (hBb:B≤s.b) (hborn:Born (φ.add id s) w s b) (hw0:w0.heap.size≤s.b)
  (hapart:∀ j sj,φ j=some sj→sj.b≠s.b):SK B φ0 S0 w0 (φ.add id s) T w:=by
 have hle:=Emb.le_add φ id s hid
 have hsb:s.b < w.heap.size:=hborn.lt
 refine ⟨⟨fun j sj e=>?_,h.1.gone,fun j sj cj tj zj mj aj e e2=>?_,fun j sj cj tj zj aj e e2 k sk ck tk zk mk ak hk e3 e4 e5=>?_,h.1.loops.1.of (Nat.le_refl _) hle.tab (fun _ _ _ _ e=>e),fun j sj o e e2=>?_⟩,?_⟩
 ·by_cases hj:j=id
  ·subst hj
   rw [Emb.add_same] at e
   obtain rfl:=Option.some.inj e
   exact ⟨hlt,hsb⟩
  ·rw [Emb.add_other _ _ hj] at e
   exact h.1.dom j sj e
 ·by_cases hj:j=id
  ·subst hj
   rw [Emb.add_same] at e
   obtain rfl:=Option.some.inj e
   rw [hget] at e2
   subst e2
   cases hborn with
   | row _ _ cs t' h1 h2 h3 h4=>exact ⟨rfl,h1,fun _=>hBb,cs,t',Row.of h2,h3,fun i v hv=>h4 i v hv⟩
  ·rw [Emb.add_other _ _ hj] at e
   obtain ⟨a1,a2,a3,cs',t2,a4,a5,a6⟩:=h.1.blk j sj cj tj zj mj aj e e2
   refine ⟨a1,a2,a3,cs',t2,a4,a5,fun i v hv=>?_⟩
   obtain ⟨q1,v',q2,q3⟩:=a6 i v hv
   exact ⟨q1,v',q2,q3.mono hle⟩
 ·by_cases hj:j=id
  ·subst hj
   rw [Emb.add_same] at e
   obtain rfl:=Option.some.inj e
   rw [Emb.add_other _ _ hk] at e3
   exact absurd e5 (hapart k sk e3)
  ·rw [Emb.add_other _ _ hj] at e
   by_cases hk2:k=id
   ·subst hk2
    rw [Emb.add_same] at e3
    obtain rfl:=Option.some.inj e3
    exact absurd e5.symm (hapart j sj e)
   ·rw [Emb.add_other _ _ hk2] at e3
    exact h.1.apart j sj cj tj zj aj e e2 k sk ck tk zk mk ak hk e3 e4 e5
 ·by_cases hj:j=id
  ·subst hj
   rw [Emb.add_same] at e
   obtain rfl:=Option.some.inj e
   rw [hget] at e2
   subst e2
   generalize hbb:Blk.obj o=bb at hborn
   cases hborn with
   | row=>cases hbb
   | map h1 h2=>
    obtain rfl:=Blk.obj.inj hbb
    exact ⟨⟨hBb,h1⟩,⟨_,h2,#[],rfl,rfl,fun i h=>by simp at h⟩,fun k sk o' hk e3 _=>by
     rw [Emb.add_other _ _ hk] at e3
     exact hapart k sk e3⟩
  ·rw [Emb.add_other _ _ hj] at e
   obtain ⟨a1,⟨r,a2,a3⟩,a4⟩:=h.1.loops.2 j sj o e e2
   refine ⟨a1,⟨r,a2,a3.mono hle⟩,fun k sk o' hk e3 e4=>?_⟩
   by_cases hk2:k=id
   ·subst hk2
    rw [Emb.add_same] at e3
    obtain rfl:=Option.some.inj e3
    exact (hapart j sj e).symm
   ·rw [Emb.add_other _ _ hk2] at e3
    exact a4 k sk o' hk e3 e4
 ·refine ⟨h.2.le.trans hle,fun j sj e e2=>?_,fun j sj e e2=>?_,h.2.size,h.2.next,h.2.os,h.2.tape,h.2.output,h.2.keep,fun j sj e e2 hl=>?_⟩
  ·by_cases hj:j=id
   ·subst hj
    rw [Emb.add_same] at e
    obtain rfl:=Option.some.inj e
    exact .inl hw0
   ·rw [Emb.add_other _ _ hj] at e
    exact h.2.place j sj e e2
  ·by_cases hj:j=id
   ·subst hj;exact hn
   ·rw [Emb.add_other _ _ hj] at e
    exact h.2.new j sj e e2
  ·by_cases hj:j=id
   ·subst hj
    rw [Emb.add_same] at e
    obtain rfl:=Option.some.inj e
    omega
   ·rw [Emb.add_other _ _ hj] at e
    exact h.2.mine j sj e e2 hl
def St.bare (m:Nat):St:={ heap:=.leaf,next:=m }
theorem bare_get (m id:Nat):(St.bare m).get id=.gone:=rfl
theorem bare_sim (B:Nat) {φ:Emb} {m:Nat} {w:World} (ht:GlobOK B φ w) (h:∀ id s,φ id=some s→id < m∧s.b < w.heap.size):Sim B φ (St.bare m) w:=
 ⟨h,fun _ _=>rfl,(fun id s c t sz m an e e2=>by rw [bare_get] at e2;cases e2),(fun id s c t sz an e e2=>by rw [bare_get] at e2;cases e2),ht,(fun id s o e e2=>by rw [bare_get] at e2;cases e2)⟩
theorem bare_more {φ':Emb} {m:Nat} {S':St} (h:Keep B φ (St.bare m) w φ' S' w'):More w w':=
 ⟨h.size,fun b hb=>h.keep b hb (fun id s _ _=>by rw [bare_get];rfl),h.os,h.tape,h.output⟩
theorem gload_any {l:List Value} {S S':St} {v:Value} (h:xextra .gload l S=some (v,S')) (R:St):S'=S∧xextra .gload l R=some (v,R):=by
 unfold xextra at h ⊢
 split at h
 all_goals first | contradiction | skip
 all_goals
  split at h
  ·rename_i hg
   obtain ⟨rfl,rfl⟩:=Prod.mk.inj (Option.some.inj h)
   exact ⟨rfl,by simp [hg]⟩
  ·cases h
theorem lookG_any {z:Value} {ok:Bool} {l:List Value} {S S':St} {v:Value} (h:xextra (.lookG z ok) l S=some (v,S')) (R:St):S'=S∧xextra (.lookG z ok) l R=some (v,R):=by
 unfold xextra at h
 split at h
 all_goals first | contradiction | skip
 all_goals
  rename_i e1
  obtain ⟨rfl,rfl⟩:=EOp.lookG.inj e1
  split at h
  ·rename_i hg
   obtain ⟨rfl,rfl⟩:=Prod.mk.inj (Option.some.inj h)
   exact ⟨rfl,by simp [xextra,hg]⟩
  ·cases h
theorem pure_any {o:XOp} (h1:anch o=false) (h2:heapy o=false) (h3:isAlloc o=false) {ρ:Operand→Value} {S S':St} {v:Value} (h:xop o ρ S=some (v,S')) (R:St):S'=S∧xop o ρ R=some (v,R):=by
 cases o
 case extra e l=>
  cases e
  case gload=>exact gload_any h R
  case lookG z ok=>exact lookG_any h R
  case nilF neg=>
   simp only [xop] at h ⊢
   obtain ⟨x,b,e1,e2,rfl,rfl⟩:=nilF_inv h
   rw [e1]
   exact ⟨rfl,by simp [xextra,e2]⟩
  all_goals first | (simp [anch] at h1;done) | (simp [isAlloc] at h3;done)
 all_goals (first | (simp [anch] at h1;done) | (simp [heapy] at h2;done) | (simp [isAlloc] at h3;done) | skip)
 all_goals simp only [xop] at h ⊢
 all_goals first
  | (simp only [Option.some.injEq,Prod.mk.injEq] at h ⊢; obtain ⟨rfl,rfl⟩:=h;simp;done)
  | (simp only [Option.map_eq_some_iff,Prod.mk.injEq] at h;obtain ⟨v0,h,rfl,rfl⟩:=h;simp [h];done)
  | (split at h<;>first
    | (cases h;done)
    | (simp only [Option.some.injEq,Prod.mk.injEq] at h ⊢; obtain ⟨rfl,rfl⟩:=h;simp;done)
    | (simp only [Option.map_eq_some_iff,Prod.mk.injEq] at h;obtain ⟨v0,h,rfl,rfl⟩:=h;simp [h];done)
    | (split at h<;>first
      | (cases h;done)
      | (simp only [Option.some.injEq,Prod.mk.injEq] at h ⊢; obtain ⟨rfl,rfl⟩:=h;simp;done)
      | (rename_i hc;simp only [Option.map_eq_some_iff,Prod.mk.injEq] at h;obtain ⟨v0,h,rfl,rfl⟩:=h;simp [h,hc];done)
      | (rename_i hc;simp only [Option.some.injEq,Prod.mk.injEq] at h ⊢; obtain ⟨rfl,rfl⟩:=h;simp [hc];done)
      | (split at h<;>first
        | (cases h;done)
        | (rename_i hc;simp only [Option.some.injEq,Prod.mk.injEq] at h ⊢; obtain ⟨rfl,rfl⟩:=h;simp [*];done))))
def NewB (b:Blk):Prop:=(∃ c t sz,b=.cells c t sz true [])∨b=.map [] 0
theorem alloc_any {o:XOp} (h3:isAlloc o=true) {ρ:Operand→Value} {S S':St} {v:Value} (h:xop o ρ S=some (v,S')):∃ b,NewB b∧S'=S.alloc b∧xop o ρ (St.bare S.next)=some (v,(St.bare S.next).alloc b)∧
  ((∃ n k,v=.slice (some ⟨S.next,0,none⟩) n k)∨v=.pointer (some ⟨S.next,0,none⟩)∨v=.map (some S.next)):=by
 cases o
 case extra e l=>
  cases e
  case mkMap=>
   simp only [xop,xextra] at h ⊢
   obtain ⟨rfl,rfl⟩:=Prod.mk.inj (Option.some.inj h)
   exact ⟨_,.inr rfl,rfl,by simp [St.bare],.inr (.inr rfl)⟩
  all_goals (simp [isAlloc] at h3;done)
 all_goals (first | (simp [isAlloc] at h3;done) | skip)
 case box t x=>
  simp only [xop] at h ⊢
  split at h
  case isFalse=>cases h
  rename_i hc
  obtain ⟨rfl,rfl⟩:=Prod.mk.inj (Option.some.inj h)
  exact ⟨_,.inl ⟨_,_,_,rfl⟩,rfl,by simp [hc,St.bare],.inr (.inl rfl)⟩
 case zero t z=>
  simp only [xop] at h ⊢
  obtain ⟨rfl,rfl⟩:=Prod.mk.inj (Option.some.inj h)
  exact ⟨_,.inl ⟨_,_,_,rfl⟩,rfl,by simp [St.bare],.inr (.inl rfl)⟩
 case mkSlice e esz bytes z l c=>
  simp only [xop] at h ⊢
  split at h
  case h_2=>cases h
  rename_i e1 e2
  split at h
  case isFalse=>cases h
  rename_i hc
  obtain ⟨rfl,rfl⟩:=Prod.mk.inj (Option.some.inj h)
  exact ⟨_,.inl ⟨_,_,_,rfl⟩,rfl,by simp [hc,St.bare],.inl ⟨_,_,rfl⟩⟩
 case buildSlice e esz n z parts=>
  simp only [xop] at h ⊢
  split at h
  case isFalse=>cases h
  rename_i hz
  simp only [Option.bind_eq_some_iff] at h
  obtain ⟨l,hl,h⟩:=h
  split at h
  case isFalse=>cases h
  rename_i hone
  obtain ⟨rfl,rfl⟩:=Prod.mk.inj (Option.some.inj h)
  exact ⟨_,.inl ⟨_,_,_,rfl⟩,rfl,by simp [hz,hl,hone,St.bare],.inl ⟨_,_,rfl⟩⟩
end
end Go.Proofs.YtiinecnjokaejaaGreatDoor

namespace Go.Proofs.YtiinecnjokaejaaGreatDoor
open Go Go.RowKit
def aft (o:Oper):List Nat:=(o.after.toList.filter fun e=>Region.binds .any e).map (·.on)
def dstF (xs:List XOper) (i:Nat):Option Tmp:=(xs[i]?).bind (·.dst)
def anF (xs:List XOper) (i:Nat):Bool:=match xs[i]? with | some o=>anch o.op | none=>false
def aftF (ops:Array Oper) (i:Nat):List Nat:=match ops[i]? with | some o=>aft o | none=>[]
def looksF (ops:Array Oper) (i:Nat):List Tmp:=match ops[i]? with | some o=>o.looksAt ops | none=>[]
def valF (R:List Rec) (i:Nat):Value:=match R[i]? with | some r=>r.v | none=>undef
structure DC (P:Program) (B:Nat) (cl:Caller) (ops:Array Oper) (d:XDraw) (R:List Rec) (env0:Env) (S0:St) (env':Env) (S':St) (pt:Nat→Nat→Prop):Prop where
 hcl:CallOK P B cl
 hxs:ops.toList.mapM (trOper P ops)=some d.ops
 hrun:xrun cl d.ops env0 S0=some (R,env',S')
 hchk:ChkP d R S'
 c1:∀ i,i < ops.size→∀ j∈aftF ops i,j < i
 c2:∀ i,i < ops.size→∀ j,pt i j→j∈aftF ops i∨∃ k∈aftF ops i,pt k j
 c3:∀ i k,i < k→k < ops.size→((∃ t,dstF d.ops i=some t∧(t∈looksF ops k∨dstF d.ops k=some t))∨(∃ t,dstF d.ops k=some t∧t∈looksF ops i))→pt k i
 c4:∀ i k,i < k→k < ops.size→anF d.ops i=true→anF d.ops k=true→pt k i
 c5:∀ i,i < ops.size→anF d.ops i=false→∀ q,(q=ops.size∨(q < ops.size∧anF d.ops q=true))→(∀ k,k < ops.size→anF d.ops k=true→k < q→¬ pt k i)→(∀ k,k < ops.size→anF d.ops k=true→q≤k→¬ pt i k)→q∈(d.stages[i]?).getD []
section
variable {P:Program} {B:Nat} {cl:Caller} {ops:Array Oper} {d:XDraw} {R:List Rec} {env0:Env} {S0:St} {env':Env} {S':St} {pt:Nat→Nat→Prop}
theorem DC.len (C:DC P B cl ops d R env0 S0 env' S' pt):d.ops.length=ops.size∧R.length=ops.size:=by
 have h1:=List.length_mapM_option C.hxs
 have h2:=(xrun_facts _ _ _ _ _ _ C.hrun).1
 simp at h1
 omega
theorem DC.mono (C:DC P B cl ops d R env0 S0 env' S' pt):∀ i,(recT R S' i).next≤(recT R S' (i+1)).next:=by
 intro i
 by_cases h:i < R.length
 ·exact C.hchk.1 i h
 ·simp [recT,List.getElem?_eq_none (show R.length≤i by omega),List.getElem?_eq_none (show R.length≤i+1 by omega)]
theorem DC.mono' (C:DC P B cl ops d R env0 S0 env' S' pt) {i j:Nat} (h:i≤j):(recT R S' i).next≤(recT R S' j).next:=by
 induction h with
 | refl=>exact Nat.le_refl _
 | step h ih=>exact Nat.le_trans ih (C.mono _)
theorem DC.T0 (C:DC P B cl ops d R env0 S0 env' S' pt):recT R S' 0=S0:=(xrun_facts _ _ _ _ _ _ C.hrun).2.2.1
theorem DC.Tn (C:DC P B cl ops d R env0 S0 env' S' pt):recT R S' ops.size=S':=by
 have:=C.len.2
 simp [recT,List.getElem?_eq_none (show R.length≤ops.size by omega)]
theorem DC.En (C:DC P B cl ops d R env0 S0 env' S' pt):recE R env' ops.size=env':=by
 have:=C.len.2
 simp [recE,List.getElem?_eq_none (show R.length≤ops.size by omega)]
theorem DC.at (C:DC P B cl ops d R env0 S0 env' S' pt) {i:Nat} (h:i < ops.size):∃ r xo o,R[i]? = some r∧d.ops[i]? = some xo∧ops[i]? = some o∧trOper P ops o=some xo∧r.env=recE R env' i∧r.S=recT R S' i∧r.w=xwanted xo (recE R env' i)∧
  (r.w=true→xstep cl xo.op (recE R env' i).ev (recT R S' i)=some (r.v,recT R S' (i+1)))∧(r.w=false→r.v=undef∧recT R S' (i+1)=recT R S' i)∧recE R env' (i+1)=(recE R env' i).put xo.dst r.v∧
  dstF d.ops i=xo.dst∧anF d.ops i=anch xo.op∧valF R i=r.v∧looksF ops i=o.looksAt ops∧xo.dst=o.dst:=by
 have hl:=C.len.1
 have hx:i < d.ops.length:=by omega
 obtain ⟨r,h1,h2,h3,h4,h5,h6,h7⟩:=(xrun_facts _ _ _ _ _ _ C.hrun).2.2.2 i hx
 have ht:=List.getElem_mapM_option C.hxs i (by simpa using h) hx
 simp only [Array.getElem_toList] at ht
 refine ⟨r,d.ops[i],ops[i],h1,List.getElem?_eq_getElem hx,Array.getElem?_eq_getElem h,ht,h2,h3,h4,h5,h6,h7,?_,?_,?_,?_,trOper_dst ht⟩
 ·simp [dstF,List.getElem?_eq_getElem hx]
 ·simp [anF,List.getElem?_eq_getElem hx]
 ·simp [valF,h1]
 ·simp [looksF,Array.getElem?_eq_getElem h]
abbrev FW (d:XDraw) (R:List Rec) (env0:Env) (S0 S':St) (dn:Nat→Bool):Nat→Tmp→Value × Nat:=
 fold (dstF d.ops) (valF R) (fun k=>(recT R S' (k+1)).next) (fun t=>env0.getD t undef) S0.next dn
theorem DC.envs (C:DC P B cl ops d R env0 S0 env' S' pt):∀ k,k≤ops.size→(recE R env' k).size=env0.size∧∀ t,t < env0.size→(recE R env' k).getD t undef=(FW d R env0 S0 S' (fun _=>true) k t).1:=by
 intro k
 induction k with
 | zero=>
  intro _
  have:=(xrun_facts _ _ _ _ _ _ C.hrun).2.1
  rw [this]
  exact ⟨rfl,fun t _=>rfl⟩
 | succ k ih=>
  intro hk
  obtain ⟨i1,i2⟩:=ih (by omega)
  obtain ⟨r,xo,o,h1,h2,h3,h4,h5,h6,h7,h8,h9,h10,h11,h12,h13,h14,h15⟩:=C.at (i:=k) (by omega)
  rw [h10]
  refine ⟨by cases xo.dst<;>simp [Env.put,i1],fun t ht=>?_⟩
  simp only [FW,fold,h11,h13,true_and]
  cases hd:xo.dst with
  | none=>simp only [Env.put];rw [if_neg (by simp)];exact i2 t ht
  | some u=>
   by_cases e:u=t
   ·subst e
    rw [if_pos rfl]
    simp only [Env.put,Array.getD_eq_getD_getElem?]
    rw [Array.getElem?_setIfInBounds_self_of_lt (by omega)]
    rfl
   ·rw [if_neg (by simpa using e)]
    simp only [Env.put]
    rw [Array.getD_eq_getD_getElem?,Array.getElem?_setIfInBounds_ne e,← Array.getD_eq_getD_getElem?]
    exact i2 t ht
theorem DC.closed (C:DC P B cl ops d R env0 S0 env' S' pt) {dn:Nat→Bool} (hcl:∀ i,i < ops.size→dn i=true→∀ j∈aftF ops i,dn j=true):∀ i,i < ops.size→(∀ j∈aftF ops i,dn j=true)→∀ j,pt i j→dn j=true:=by
 intro i
 induction i using Nat.strongRecOn with
 | _ i ih=>
  intro hi hr j hj
  rcases C.c2 i hi j hj with h | ⟨k,hk,hkj⟩
  ·exact hr j h
  ·have hki:=C.c1 i hi k hk
   exact ih k hki (by omega) (hcl k (by omega) (hr k hk)) j hkj
def Early (ops:Array Oper) (R:List Rec) (S':St) (B:Nat) (w0:World) (listed:Array Bool) (φ:Emb) (w:World) (q:Nat):Prop:=
 ∀ id s,φ id=some s→(recT R S' q).next≤id→∃ i,i < ops.size∧q≤i∧listed.getD i true=true∧∃ b,recT R S' (i+1)=(recT R S' i).alloc b∧id=(recT R S' i).next∧B≤s.b∧Born (φ.below (id+1)) w s b∧w0.heap.size≤s.b∧∀ j sj,j≠id→φ j=some sj→sj.b≠s.b
structure Inv (ops:Array Oper) (d:XDraw) (R:List Rec) (env0:Env) (S0 S':St) (B:Nat) (φ0:Emb) (w0:World) (df:List Deferred) (listed:Array Bool) (φ:Emb) (a:Act) (w:World) (q:Nat):Prop where
 size:listed.size=ops.size
 closed:∀ i,i < ops.size→listed.getD i true=true→∀ j∈aftF ops i,listed.getD j true=true
 stage:(q=ops.size∨(q < ops.size∧anF d.ops q=true))∧∀ k,k < ops.size→anF d.ops k=true→(k < q→listed.getD k true=true)∧(q≤k→listed.getD k true=false)
 esize:a.tmps.size=env0.size
 env:∀ t (h:t < a.tmps.size),Rel (φ.below (FW d R env0 S0 S' (fun j=>listed.getD j true) ops.size t).2) (FW d R env0 S0 S' (fun j=>listed.getD j true) ops.size t).1 a.tmps[t]
 mem:SK B φ0 S0 w0 (φ.below (recT R S' q).next) (recT R S' q) w
 early:Early ops R S' B w0 listed φ w q
 late:∀ i,i < ops.size→listed.getD i true=false→∀ b,recT R S' (i+1)=(recT R S' i).alloc b→anF d.ops i=false→φ (recT R S' i).next=none
 defers:a.defers=df
theorem looks_opd {o:Oper} {x:Operand} (hx:x∈o.op.operands):∀ t,x=.tmp t→t∈o.looksAt ops:=by
 intro t e
 subst e
 exact List.mem_append_left _ (List.mem_filterMap.2 ⟨.tmp t,by simpa using hx,rfl⟩)
theorem Inv.sees (C:DC P B cl ops d R env0 S0 env' S' pt) {φ0 φ:Emb} {w0 w:World} {df:List Deferred} {listed:Array Bool} {a:Act} {q:Nat} (I:Inv ops d R env0 S0 S' B φ0 w0 df listed φ a w q) {i:Nat} (hi:i < ops.size)
  (hni:listed.getD i true=false) (hpt:∀ j,pt i j→listed.getD j true=true) {t:Tmp} (ht:t∈looksF ops i) (hlt:t < a.tmps.size) :
  Rel (φ.below (recT R S' i).next) ((recE R env' i).getD t undef) a.tmps[t]:=by
 have h1:∀ j,j < i→dstF d.ops j=some t→listed.getD j true=true:=fun j hj hd=>hpt j (C.c3 j i hj hi (.inl ⟨t,hd,.inl ht⟩))
 have h2:∀ j,i≤j→dstF d.ops j=some t→listed.getD j true=false:=by
  intro j hj hd
  by_cases e:i=j
  ·subst e;exact hni
  ·by_cases hjn:j < ops.size
   ·have hp:=C.c3 i j (by omega) hjn (.inr ⟨t,hd,ht⟩)
    cases hl:listed.getD j true with
    | false=>rfl
    | true=>
     have:=C.closed I.closed j hjn (I.closed j hjn hl) i hp
     rw [hni] at this;cases this
   ·have:dstF d.ops j=none:=by simp [dstF,List.getElem?_eq_none (show d.ops.length≤j by have:=C.len.1;omega)]
    rw [this] at hd;cases hd
 have hf:=fold_read (val:=valF R) (bd:=fun k=>(recT R S' (k+1)).next) (v0:=fun t=>env0.getD t undef) (b0:=S0.next) h1 h2 ops.size (by omega)
 have he:=I.env t hlt
 have hEn:=(C.envs i (by omega)).2 t (by rw [← I.esize];exact hlt)
 rw [hEn]
 unfold FW at he ⊢
 rw [hf] at he
 exact he.mono (below_mono (Emb.le.refl _) (fold_bound (m:=fun k=>(recT R S' k).next) (by rw [C.T0];exact Nat.le_refl _) (fun k=>Nat.le_refl _) C.mono t i))
theorem Inv.opd (C:DC P B cl ops d R env0 S0 env' S' pt) {φ0 φ:Emb} {w0 w:World} {df:List Deferred} {listed:Array Bool} {a:Act} {q:Nat} (I:Inv ops d R env0 S0 S' B φ0 w0 df listed φ a w q) {i:Nat} (hi:i < ops.size)
  (hni:listed.getD i true=false) (hpt:∀ j,pt i j→listed.getD j true=true) {o:Oper} (ho:ops[i]? = some o) {x:Operand} (hx:x∈o.op.operands) (hok:okOpd x=true):Rel (φ.below (recT R S' i).next) ((recE R env' i).ev x) (a.eval x):=by
 cases x with
 | tmp t=>
  have ht:t∈looksF ops i:=by
   simp only [looksF,ho]
   exact looks_opd hx t rfl
  simp only [Env.ev,Act.eval]
  by_cases hlt:t < a.tmps.size
  ·have:=I.sees C hi hni hpt ht hlt
   rw [Array.getD_eq_getD_getElem? (xs:=a.tmps),Array.getElem?_eq_getElem hlt]
   exact this
  ·have h2:¬ t < (recE R env' i).size:=by rw [(C.envs i (by omega)).1,← I.esize];exact hlt
   rw [Array.getD_eq_getD_getElem?,Array.getD_eq_getD_getElem?,Array.getElem?_eq_none (Nat.not_lt.1 h2),Array.getElem?_eq_none (Nat.not_lt.1 hlt)]
   exact Rel.undef _
 | const v=>exact flatV_rel hok _
 | func f=>exact .func' ⟨rfl,fun i h=>by simp at h⟩ ⟨rfl,fun i h=>by simp at h⟩
 | global g=>cases hok
theorem xstep_xop {cl:Caller} {o:XOp} (h:anch o=false) (ρ:Operand→Value) (S:St):xstep cl o ρ S=xop o ρ S:=by
 cases o<;>first | rfl | (simp [anch] at h;done)
theorem heapy_same {o:XOp} (h:heapy o=true) {ρ:Operand→Value} {S S':St} {v:Value} (hx:xop o ρ S=some (v,S')):S'=S:=by
 cases o
 all_goals (first | (simp [heapy] at h;done) | skip)
 case load agg sz x=>
  simp only [xop] at hx
  split at hx
  ·simp only [Option.bind_eq_some_iff,Option.map_eq_some_iff,Prod.mk.injEq] at hx
   obtain ⟨c,_,v0,_,_,rfl⟩:=hx
   rfl
  ·cases hx
 case sl esz x lo hi=>
  simp only [xop] at hx
  split at hx
  case h_2=>cases hx
  split at hx
  case h_2=>cases hx
  split at hx
  case isFalse=>cases hx
  unfold slRes at hx
  split at hx
  ·split at hx
   ·exact (Prod.mk.inj (Option.some.inj hx)).2.symm
   ·cases hx
  ·split at hx
   ·exact (Prod.mk.inj (Option.some.inj hx)).2.symm
   ·cases hx
  ·cases hx
theorem DC.float (C:DC P B cl ops d R env0 S0 env' S' pt) {i:Nat} (hi:i < ops.size) (ha:anF d.ops i=false) :
  recT R S' (i+1)=recT R S' i∨∃ b,recT R S' (i+1)=(recT R S' i).alloc b:=by
 obtain ⟨r,xo,o,e1,e2,e3,e4,e5,e6,e7,e8,e9,e10,e11,e12,e13,e14,e15⟩:=C.at hi
 cases hw:r.w with
 | false=>exact .inl (e9 hw).2
 | true=>
  have h:=e8 hw
  rw [e12] at ha
  rw [xstep_xop ha] at h
  cases h1:heapy xo.op with
  | true=>exact .inl (heapy_same h1 h)
  | false=>
   cases h2:isAlloc xo.op with
   | false=>exact .inl (pure_any ha h1 h2 h S0).1
   | true=>
    obtain ⟨b,_,h3,_⟩:=alloc_any h2 h
    exact .inr ⟨b,h3⟩
theorem below_succ_none {φ:Emb} {m:Nat} (h:φ m=none):φ.below (m+1)=φ.below m:=by
 refine Emb.ext' (fun id=>?_) rfl
 rw [below_at,below_at]
 by_cases h1:id < m
 ·rw [if_pos h1,if_pos (by omega)]
 ·by_cases h2:id=m
  ·subst h2;rw [if_pos (by omega),if_neg (by omega)];exact h
  ·rw [if_neg h1,if_neg (by omega)]
theorem below_succ_some {φ:Emb} {m:Nat} {s:Spot} (h:φ m=some s):φ.below (m+1)=(φ.below m).add m s:=by
 refine Emb.ext' (fun id=>?_) rfl
 rw [below_at,Emb.add_at,below_at]
 by_cases h2:id=m
 ·subst h2;rw [if_pos (by omega),if_pos rfl];exact h
 ·rw [if_neg h2]
  by_cases h1:id < m
  ·rw [if_pos h1,if_pos (by omega)]
  ·rw [if_neg h1,if_neg (by omega)]
theorem advance (C:DC P B cl ops d R env0 S0 env' S' pt) {φ0 φ:Emb} {w0 w:World} {listed:Array Bool} (h0:∀ id s,φ0 id=some s→id < S0.next) :
  ∀ (m p:Nat),p+m=ops.size→SK B φ0 S0 w0 (φ.below (recT R S' p).next) (recT R S' p) w→Early ops R S' B w0 listed φ w p→
   ∃ q,p≤q∧(q=ops.size∨(q < ops.size∧anF d.ops q=true))∧(∀ k,p≤k→k < q→anF d.ops k=false)∧SK B φ0 S0 w0 (φ.below (recT R S' q).next) (recT R S' q) w∧Early ops R S' B w0 listed φ w q:=by
 intro m
 induction m with
 | zero=>
  intro p hp h1 h2
  exact ⟨p,Nat.le_refl _,.inl (by omega),fun k h3 h4=>by omega,h1,h2⟩
 | succ m ih=>
  intro p hp h1 h2
  by_cases ha:anF d.ops p=true
  ·exact ⟨p,Nat.le_refl _,.inr ⟨by omega,ha⟩,fun k h3 h4=>by omega,h1,h2⟩
  ·have ha':anF d.ops p=false:=Bool.eq_false_iff.2 ha
   have key:SK B φ0 S0 w0 (φ.below (recT R S' (p+1)).next) (recT R S' (p+1)) w∧Early ops R S' B w0 listed φ w (p+1):=by
    rcases C.float (i:=p) (by omega) ha' with hT | ⟨b0,hT⟩
    ·rw [hT]
     refine ⟨h1,fun id s e hge=>?_⟩
     rw [hT] at hge
     obtain ⟨i,i1,i2,i3,b,i4,i5⟩:=h2 id s e hge
     refine ⟨i,i1,?_,i3,b,i4,i5⟩
     by_cases ei:i=p
     ·subst ei
      rw [hT] at i4
      have:=congrArg St.next i4
      simp at this
     ·omega
    ·have hn:(recT R S' (p+1)).next=(recT R S' p).next+1:=by rw [hT];rfl
     refine ⟨?_,fun id s e hge=>?_⟩
     ·rw [hn]
      have hsk:=h1.skip b0
      rw [← hT] at hsk
      cases hm:φ (recT R S' p).next with
      | none=>rw [below_succ_none hm];exact hsk
      | some s=>
       rw [below_succ_some hm]
       obtain ⟨i,i1,i2,i3,b1,i4,i5,i8,iB,i12,i13⟩:=h2 _ s hm (Nat.le_refl _)
       have hip:i=p:=by
        rcases Nat.lt_or_ge p i with hlt | hge2
        ·have a1:=C.mono' (i:=p+1) (j:=i) (by omega)
         omega
        ·omega
       subst hip
       rw [hT] at i4
       have hb:b0=b1:=by
        have e1:((recT R S' i).alloc b0).get (recT R S' i).next=b0:=by rw [St.get_alloc,if_pos rfl]
        have e2:((recT R S' i).alloc b1).get (recT R S' i).next=b1:=by rw [St.get_alloc,if_pos rfl]
        rw [← e1,← e2,i4]
       subst hb
       refine hsk.insert (b:=b0) ?_ ?_ (by rw [hn];omega) ?_ ?_ i8 (by rw [← below_succ_some hm];exact iB) i12 ?_
       ·rw [below_at,if_neg (by omega)]
       ·cases h3:φ0 (recT R S' i).next with
        | none=>rfl
        | some s3=>
         have a1:=h0 _ s3 h3
         have a2:=C.mono' (i:=0) (j:=i) (by omega)
         rw [C.T0] at a2
         omega
       ·have a2:=C.mono' (i:=0) (j:=i) (by omega)
        rw [C.T0] at a2
        exact a2
       ·rw [hT,St.get_alloc,if_pos rfl]
       ·intro j sj hj
        have:=below_some hj
        exact i13 j sj (by omega) this.2
     ·rw [hn] at hge
      obtain ⟨i,i1,i2,i3,b',i4,i5,i6⟩:=h2 id s e (by omega)
      refine ⟨i,i1,?_,i3,b',i4,i5,i6⟩
      by_cases ei:i=p
      ·subst ei;omega
      ·omega
   obtain ⟨q,k1,k2,k3,k4,k5⟩:=ih (p+1) (by omega) key.1 key.2
   exact ⟨q,by omega,k2,fun k g1 g2=>by
    by_cases e:k=p
    ·rw [e];exact ha'
    ·exact k3 k (by omega) g2,k4,k5⟩
end
end Go.Proofs.YtiinecnjokaejaaGreatDoor

namespace Go.Proofs.YtiinecnjokaejaaGreatDoor
open Go Go.RowKit
section
variable {P:Program} {B:Nat} {cl:Caller} {ops:Array Oper} {d:XDraw} {R:List Rec} {env0:Env} {S0:St} {env':Env} {S':St} {pt:Nat→Nat→Prop}
variable {φ0 φ:Emb} {w0 w:World} {df:List Deferred} {listed:Array Bool} {a:Act} {q:Nat}
theorem listed_set {i j:Nat} (hsz:i < listed.size):(listed.setIfInBounds i true).getD j true=true↔j=i∨listed.getD j true=true:=by
 rw [Array.getD_eq_getD_getElem?,Array.getD_eq_getD_getElem?,Array.getElem?_setIfInBounds]
 by_cases e:i=j
 ·subst e;simp [hsz]
 ·simp [e,Ne.symm e]
theorem put_get_ne {a:Act} {dst:Option Tmp} (v':Value) {t:Tmp} (hd:dst≠some t) (hlt:t < a.tmps.size) (h:t < (a.put dst v').tmps.size):(a.put dst v').tmps[t]=a.tmps[t]:=by
 cases dst with
 | none=>rfl
 | some u=>simp only [Act.put];rw [Array.getElem_setIfInBounds_ne hlt (by intro x;subst x;exact hd rfl)]
theorem env_step (C:DC P B cl ops d R env0 S0 env' S' pt) (I:Inv ops d R env0 S0 S' B φ0 w0 df listed φ a w q) {i:Nat} (hi:i < ops.size) (hni:listed.getD i true=false) {φ':Emb} (hle:Emb.le φ φ') {v':Value} {o:Oper} (hdst:dstF d.ops i=o.dst)
  (hv:Rel (φ'.below (recT R S' (i+1)).next) (valF R i) v') :
  ∀ t (h:t < (a.put o.dst v').tmps.size),Rel (φ'.below (FW d R env0 S0 S' (fun j=>(listed.setIfInBounds i true).getD j true) ops.size t).2) (FW d R env0 S0 S' (fun j=>(listed.setIfInBounds i true).getD j true) ops.size t).1 (a.put o.dst v').tmps[t]:=by
 intro t h
 have hsz:(a.put o.dst v').tmps.size=a.tmps.size:=by cases o.dst<;>simp [Act.put]
 have hlt:t < a.tmps.size:=by omega
 have hw:=fold_write (dst:=dstF d.ops) (val:=valF R) (bd:=fun k=>(recT R S' (k+1)).next) (v0:=fun t=>env0.getD t undef) (b0:=S0.next) (dn:=fun j=>listed.getD j true) (dn':=fun j=>(listed.setIfInBounds i true).getD j true) (i:=i) (t:=t)
  (fun j=>listed_set (by rw [I.size];exact hi)) hni (fun j hj h1 h2=>by
   by_cases hjn:j < ops.size
   ·have hp:=C.c3 i j hj hjn (.inl ⟨t,h1,.inr h2⟩)
    cases hl:listed.getD j true with
    | false=>rfl
    | true=>
     have:=C.closed I.closed j hjn (I.closed j hjn hl) i hp
     rw [hni] at this;cases this
   ·have:dstF d.ops j=none:=by simp [dstF,List.getElem?_eq_none (show d.ops.length≤j by have:=C.len.1;omega)]
    rw [this] at h2;cases h2) ops.size hi
 unfold FW
 rw [hw]
 by_cases hd:dstF d.ops i=some t
 ·rw [if_pos hd]
  have hd':o.dst=some t:=by rw [← hdst];exact hd
  have:(a.put o.dst v').tmps[t]=v':=by simp [hd',Act.put]
  rw [this]
  exact hv
 ·rw [if_neg hd]
  have hd':o.dst≠some t:=by rw [← hdst];exact hd
  rw [put_get_ne v' hd' hlt h]
  exact (I.env t hlt).mono (below_mono hle (Nat.le_refl _))
theorem wanted_at (C:DC P B cl ops d R env0 S0 env' S' pt) (I:Inv ops d R env0 S0 S' B φ0 w0 df listed φ a w q) {i:Nat} (hi:i < ops.size) (hni:listed.getD i true=false) (hpt:∀ j,pt i j→listed.getD j true=true) {o:Oper} {xo:XOper} (ho:ops[i]? = some o) (ht:trOper P ops o=some xo) :
  Region.wanted o (yielded ops a.tmps)=xwanted xo (recE R env' i):=by
 unfold trOper at ht
 split at ht
 ·rename_i x hx hg
  obtain rfl:=Option.some.inj ht
  simp [Region.wanted,xwanted,hg]
 ·rename_i x j want hx hg
  split at ht
  case h_2=>cases ht
  rename_i t hj
  obtain rfl:=Option.some.inj ht
  simp only [Region.wanted,xwanted,hg,yielded,hj,Option.bind_some]
  have htl:t∈looksF ops i:=by
   simp only [looksF,ho,Oper.looksAt,hg,hj]
   simp
  have hsz:=(C.envs i (by omega)).1
  by_cases hlt:t < a.tmps.size
  ·have hr:=I.sees C hi hni hpt htl hlt
   have hlt':t < (recE R env' i).size:=by rw [hsz,← I.esize];exact hlt
   rw [Array.getD_eq_getD_getElem?,Array.getElem?_eq_getElem hlt'] at hr
   rw [Array.getElem?_eq_getElem hlt,Array.getElem?_eq_getElem hlt']
   simp only [Option.getD_some] at hr
   revert hr
   generalize (recE R env' i)[t]=u
   generalize a.tmps[t]=u'
   intro hr
   cases hr<;>simp
  ·have hlt':¬ t < (recE R env' i).size:=by rw [hsz,← I.esize];exact hlt
   rw [Array.getElem?_eq_none (Nat.not_lt.1 hlt),Array.getElem?_eq_none (Nat.not_lt.1 hlt')]
   simp
 ·cases ht
theorem closed_set (I:Inv ops d R env0 S0 S' B φ0 w0 df listed φ a w q) {i:Nat} (hi:i < ops.size) (hr:∀ j∈aftF ops i,listed.getD j true=true) :
  ∀ k,k < ops.size→(listed.setIfInBounds i true).getD k true=true→∀ j∈aftF ops k,(listed.setIfInBounds i true).getD j true=true:=by
 intro k hk h j hj
 have hsz:i < listed.size:=by rw [I.size];exact hi
 rw [listed_set hsz] at h ⊢
 rcases h with rfl | h
 ·exact .inr (hr j hj)
 ·exact .inr (I.closed k hk h j hj)
theorem anch_stage (C:DC P B cl ops d R env0 S0 env' S' pt) (I:Inv ops d R env0 S0 S' B φ0 w0 df listed φ a w q) {i:Nat} (hi:i < ops.size) (hni:listed.getD i true=false) (hpt:∀ j,pt i j→listed.getD j true=true) (ha:anF d.ops i=true):i=q:=by
 have h1:¬ i < q:=fun h=>by
  have:=((I.stage.2 i hi ha).1 h)
  rw [hni] at this;cases this
 rcases I.stage.1 with h | ⟨h2,h3⟩
 ·omega
 ·by_cases e:i=q
  ·exact e
  ·have hp:=hpt q (C.c4 q i (by omega) hi h3 ha)
   have:=(I.stage.2 q h2 h3).2 (Nat.le_refl _)
   rw [this] at hp;cases hp
theorem stage_set (I:Inv ops d R env0 S0 S' B φ0 w0 df listed φ a w q) {i:Nat} (hi:i < ops.size) (ha:anF d.ops i=false) :
  (q=ops.size∨(q < ops.size∧anF d.ops q=true))∧∀ k,k < ops.size→anF d.ops k=true→(k < q→(listed.setIfInBounds i true).getD k true=true)∧(q≤k→(listed.setIfInBounds i true).getD k true=false):=by
 have hsz:i < listed.size:=by rw [I.size];exact hi
 refine ⟨I.stage.1,fun k hk hka=>⟨fun h=>(listed_set hsz).2 (.inr ((I.stage.2 k hk hka).1 h)),fun h=>?_⟩⟩
 rw [Bool.eq_false_iff]
 intro h1
 rw [listed_set hsz] at h1
 rcases h1 with rfl | h1
 ·rw [ha] at hka;cases hka
 ·have:=(I.stage.2 k hk hka).2 h
  rw [this] at h1;cases h1
theorem inv_float (C:DC P B cl ops d R env0 S0 env' S' pt) (I:Inv ops d R env0 S0 S' B φ0 w0 df listed φ a w q) {i:Nat} (hi:i < ops.size) (hni:listed.getD i true=false) (hr:∀ j∈aftF ops i,listed.getD j true=true) (ha:anF d.ops i=false)
  {o:Oper} (hdst:dstF d.ops i=o.dst) {v':Value} {w':World} (hm:More w w') (hv:Rel (φ.below (recT R S' (i+1)).next) (valF R i) v') :
  Inv ops d R env0 S0 S' B φ0 w0 df (listed.setIfInBounds i true) φ (a.put o.dst v') w' q:=by
 have hsz:i < listed.size:=by rw [I.size];exact hi
 refine ⟨by simp [I.size],closed_set I hi hr,stage_set I hi ha,?_,env_step C I hi hni (Emb.le.refl _) hdst hv,I.mem.more hm,fun id s e hge=>?_,fun j hj hnj b hb haj=>?_,?_⟩
 ·rw [← I.esize];cases o.dst<;>simp [Act.put]
 ·obtain ⟨k,i1,i2,i3,b',i4,i5,i8,iB,i12,i13⟩:=I.early id s e hge
  exact ⟨k,i1,i2,(listed_set hsz).2 (.inr i3),b',i4,i5,i8,iB.same (hm.block s.b iB.lt),i12,i13⟩
 ·refine I.late j hj ?_ b hb haj
  rw [Bool.eq_false_iff] at hnj ⊢
  intro h;exact hnj ((listed_set hsz).2 (.inr h))
 ·rw [← I.defers];cases o.dst<;>rfl
theorem inv_alloc (C:DC P B cl ops d R env0 S0 env' S' pt) (h0:∀ id s,φ0 id=some s→id < S0.next) (I:Inv ops d R env0 S0 S' B φ0 w0 df listed φ a w q) {i:Nat} (hi:i < ops.size) (hni:listed.getD i true=false) (hr:∀ j∈aftF ops i,listed.getD j true=true) (ha:anF d.ops i=false)
  {b0:Blk} (hT:recT R S' (i+1)=(recT R S' i).alloc b0) (hlate:i < q→(recT R S' q).get (recT R S' i).next=b0) {o:Oper} (hdst:dstF d.ops i=o.dst)
  {v':Value} {w':World} (hm:More w w') {s:Spot} (hsb:w.heap.size≤s.b) (hBb:B≤s.b) (hborn:Born ((φ.add (recT R S' i).next s).below ((recT R S' i).next+1)) w' s b0) (hv:Rel ((φ.add (recT R S' i).next s).below (recT R S' (i+1)).next) (valF R i) v') :
  Inv ops d R env0 S0 S' B φ0 w0 df (listed.setIfInBounds i true) (φ.add (recT R S' i).next s) (a.put o.dst v') w' q:=by
 have hsz:i < listed.size:=by rw [I.size];exact hi
 have hnone:=I.late i hi hni _ hT ha
 have hle:=Emb.le_add φ (recT R S' i).next s hnone
 have hn1:(recT R S' (i+1)).next=(recT R S' i).next+1:=by rw [hT];rfl
 have hS0:S0.next≤(recT R S' i).next:=by
  have:=C.mono' (i:=0) (j:=i) (by omega)
  rwa [C.T0] at this
 have hw0:w0.heap.size≤s.b:=Nat.le_trans I.mem.2.size hsb
 have hold:∀ j sj,φ j=some sj→sj.b < w.heap.size:=by
  intro j sj hj
  by_cases h:j < (recT R S' q).next
  ·exact (I.mem.1.dom j sj (by rw [below_get h];exact hj)).2
  ·obtain ⟨k,i1,i2,i3,b',i4,i5,i8,iB,i12,i13⟩:=I.early j sj hj (by omega)
   exact iB.lt
 refine ⟨by simp [I.size],closed_set I hi hr,stage_set I hi ha,?_,env_step C I hi hni hle hdst hv,?_,fun id s2 e hge=>?_,fun j hj hnj b hb haj=>?_,?_⟩
 ·rw [← I.esize];cases o.dst<;>simp [Act.put]
 ·
  by_cases hlt:(recT R S' i).next < (recT R S' q).next
  ·have hiq:i < q:=by
    rcases Nat.lt_or_ge i q with h | h
    ·exact h
    ·have:=C.mono' (i:=q) (j:=i) h;omega
   have heq:(φ.add (recT R S' i).next s).below (recT R S' q).next=(φ.below (recT R S' q).next).add (recT R S' i).next s:=by
    refine Emb.ext' (fun id=>?_) rfl
    rw [below_at,Emb.add_at,Emb.add_at,below_at]
    by_cases e:id=(recT R S' i).next
    ·subst e;simp [hlt]
    ·simp [e]
   rw [heq]
   refine (I.mem.more hm).insert (by rw [below_get hlt];exact hnone) ?_ hlt hS0 (hlate hiq) hBb ?_ hw0 (fun j sj hj=>?_)
   ·cases h3:φ0 (recT R S' i).next with
    | none=>rfl
    | some s3=>have:=h0 _ s3 h3;omega
   ·rw [← heq]
    exact hborn.mono (below_mono (Emb.le.refl _) (by omega))
   ·have:=hold j sj (below_some hj).2
    omega
  ·have heq:(φ.add (recT R S' i).next s).below (recT R S' q).next=φ.below (recT R S' q).next:=by
    refine Emb.ext' (fun id=>?_) rfl
    rw [below_at,below_at,Emb.add_at]
    by_cases e:id < (recT R S' q).next
    ·rw [if_pos e,if_pos e,if_neg (by omega)]
    ·rw [if_neg e,if_neg e]
   rw [heq]
   exact I.mem.more hm
 ·by_cases e2:id=(recT R S' i).next
  ·subst e2
   rw [Emb.add_same] at e
   obtain rfl:=Option.some.inj e
   refine ⟨i,hi,?_,(listed_set hsz).2 (.inl rfl),b0,hT,rfl,hBb,hborn,hw0,fun j sj hj hjs=>?_⟩
   ·rcases Nat.lt_or_ge i q with h | h
    ·have:=C.mono' (i:=i+1) (j:=q) (by omega);omega
    ·exact h
   ·rw [Emb.add_other _ _ hj] at hjs
    have:=hold j sj hjs
    omega
  ·rw [Emb.add_other _ _ e2] at e
   obtain ⟨k,i1,i2,i3,b',i4,i5,i8,iB,i12,i13⟩:=I.early id s2 e hge
   refine ⟨k,i1,i2,(listed_set hsz).2 (.inr i3),b',i4,i5,i8,(iB.same (hm.block s2.b iB.lt)).mono (below_mono hle (Nat.le_refl _)),i12,fun j sj hj hjs=>?_⟩
   ·by_cases e3:j=(recT R S' i).next
    ·subst e3
     rw [Emb.add_same] at hjs
     obtain rfl:=Option.some.inj hjs
     have:=iB.lt
     omega
    ·rw [Emb.add_other _ _ e3] at hjs
     exact i13 j sj hj hjs
 ·have hnj':listed.getD j true=false:=by
   rw [Bool.eq_false_iff] at hnj ⊢
   intro h;exact hnj ((listed_set hsz).2 (.inr h))
  have hji:j≠i:=fun e=>by
   subst e
   have:=(listed_set (i:=j) (j:=j) hsz).2 (.inl rfl)
   rw [this] at hnj;cases hnj
  rw [Emb.add_other _ _ ?_]
  ·exact I.late j hj hnj' b hb haj
  ·intro e
   have hn2:(recT R S' (j+1)).next=(recT R S' j).next+1:=by rw [hb];rfl
   rcases Nat.lt_or_ge i j with h | h
   ·have:=C.mono' (i:=i+1) (j:=j) (by omega);omega
   ·have:=C.mono' (i:=j+1) (j:=i) (by omega);omega
 ·rw [← I.defers];cases o.dst<;>rfl
theorem inv_anch (C:DC P B cl ops d R env0 S0 env' S' pt) (h0:∀ id s,φ0 id=some s→id < S0.next) (I:Inv ops d R env0 S0 S' B φ0 w0 df listed φ a w q) (hi:q < ops.size) (hni:listed.getD q true=false) (hr:∀ j∈aftF ops q,listed.getD j true=true) (ha:anF d.ops q=true)
  {o:Oper} (hdst:dstF d.ops q=o.dst) {ψ:Emb} {v':Value} {w':World} (hv:Rel ψ (valF R q) v') (hs:Sim B ψ (recT R S' (q+1)) w') (hk:Keep B (φ.below (recT R S' q).next) (recT R S' q) w ψ (recT R S' (q+1)) w') :
  ∃ φ' q',Inv ops d R env0 S0 S' B φ0 w0 df (listed.setIfInBounds q true) φ' (a.put o.dst v') w' q':=by
 have hsz:q < listed.size:=by rw [I.size];exact hi
 let φ':Emb:=⟨fun id=>if id < (recT R S' (q+1)).next then ψ id else φ id,φ.tab⟩
 have htab:ψ.tab=φ.tab:=hk.le.tab
 have hmono:=C.mono q
 have hearly:∀ id s,φ id=some s→(recT R S' q).next≤id→(recT R S' (q+1)).next≤id:=by
  intro id s e hge
  obtain ⟨k,i1,i2,i3,b',i4,i5,i6⟩:=I.early id s e hge
  have hqk:q≠k:=by
   intro e2
   subst e2
   rw [i3] at hni;cases hni
  rw [i5]
  exact C.mono' (by omega)
 have hle:Emb.le φ φ':=by
  refine ⟨fun id s e=>?_,rfl⟩
  show (if id < (recT R S' (q+1)).next then ψ id else φ id)=some s
  by_cases h1:id < (recT R S' q).next
  ·rw [if_pos (by omega)]
   exact hk.le id s (by rw [below_get h1];exact e)
  ·have:=hearly id s e (by omega)
   rw [if_neg (by omega)];exact e
 have hψ:φ'.below (recT R S' (q+1)).next=ψ:=by
  refine Emb.ext' (fun id=>?_) htab.symm
  rw [below_at]
  by_cases h1:id < (recT R S' (q+1)).next
  ·rw [if_pos h1];exact if_pos h1
  ·rw [if_neg h1]
   cases e:ψ id with
   | none=>rfl
   | some s=>exact absurd (hs.dom id s e).1 h1
 have hsk:SK B φ0 S0 w0 (φ'.below (recT R S' (q+1)).next) (recT R S' (q+1)) w':=by
  rw [hψ]
  exact ⟨hs,I.mem.2.trans hk⟩
 have hE:Early ops R S' B w0 (listed.setIfInBounds q true) φ' w' (q+1):=by
  intro id s e hge
  have e':φ id=some s:=by
   have:φ' id=φ id:=if_neg (by omega)
   rw [← this];exact e
  obtain ⟨k,i1,i2,i3,b',i4,i5,i8,iB,i12,i13⟩:=I.early id s e' (by omega)
  have hqk:q≠k:=by
   intro e2
   subst e2
   rw [i3] at hni;cases hni
  have hsbl:=iB.lt
  refine ⟨k,i1,by omega,(listed_set hsz).2 (.inr i3),b',i4,i5,i8,(iB.same ?_).mono (below_mono hle (Nat.le_refl _)),i12,fun j sj hj hjs=>?_⟩
  ·rw [hk.keep s.b hsbl (fun id2 s2 h1 h2=>?_)]
   have hb:=below_some h1
   exact absurd h2 (i13 id2 s2 (by omega) hb.2)
  ·by_cases h1:j < (recT R S' (q+1)).next
   ·have hjs':ψ j=some sj:=by
     have:φ' j=ψ j:=if_pos h1
     rw [← this];exact hjs
    cases h2:(φ.below (recT R S' q).next) j with
    | some s3=>
     have:=hk.le j s3 h2
     rw [hjs'] at this
     obtain rfl:=Option.some.inj this
     exact i13 j sj hj (below_some h2).2
    | none=>
     rcases hk.place j sj hjs' h2 with h3 | ⟨id0,s0,h3,h4,h5⟩
     ·omega
     ·have hb:=below_some h3
      have:=i13 id0 s0 (by omega) hb.2
      rw [← h4];exact this
   ·have:φ' j=φ j:=if_neg h1
    rw [this] at hjs
    exact i13 j sj hj hjs
 obtain ⟨q',k1,k2,k3,k4,k5⟩:=advance C h0 (ops.size - (q+1)) (q+1) (by omega) hsk hE
 refine ⟨φ',q',by simp [I.size],closed_set I hi hr,⟨k2,fun k hk2 hka=>⟨fun h=>?_,fun h=>?_⟩⟩,?_,env_step C I hi hni hle hdst (by rw [hψ];exact hv),k4,k5,fun j hj hnj b hb haj=>?_,?_⟩
 ·rw [listed_set hsz]
  by_cases e:k=q
  ·exact .inl e
  ·right
   by_cases h2:k < q
   ·exact (I.stage.2 k hk2 hka).1 h2
   ·have:=k3 k (by omega) h
    rw [this] at hka;cases hka
 ·rw [Bool.eq_false_iff]
  intro h1
  rw [listed_set hsz] at h1
  rcases h1 with rfl | h1
  ·omega
  ·have:=(I.stage.2 k hk2 hka).2 (by omega)
   rw [this] at h1;cases h1
 ·rw [← I.esize];cases o.dst<;>simp [Act.put]
 ·have hnj':listed.getD j true=false:=by
   rw [Bool.eq_false_iff] at hnj ⊢
   intro h;exact hnj ((listed_set hsz).2 (.inr h))
  have hjq:j≠q:=fun e=>by subst e;rw [ha] at haj;cases haj
  have hold:=I.late j hj hnj' b hb haj
  have hn2:(recT R S' (j+1)).next=(recT R S' j).next+1:=by rw [hb];rfl
  show (if (recT R S' j).next < (recT R S' (q+1)).next then ψ (recT R S' j).next else φ (recT R S' j).next)=none
  split
  ·rename_i hlt
   have hjlt:j < q:=by
    rcases Nat.lt_or_ge j q with h | h
    ·exact h
    ·have:=C.mono' (i:=q+1) (j:=j) (by omega);omega
   have hlt2:(recT R S' j).next < (recT R S' q).next:=by
    have:=C.mono' (i:=j+1) (j:=q) (by omega);omega
   cases e:ψ (recT R S' j).next with
   | none=>rfl
   | some s=>
    have:=hk.new _ s e (by rw [below_get hlt2];exact hold)
    omega
  ·exact hold
 ·rw [← I.defers];cases o.dst<;>rfl
end
end Go.Proofs.YtiinecnjokaejaaGreatDoor

set_option linter.unusedVariables false
set_option linter.unnecessarySimpa false
namespace Go.Proofs.YtiinecnjokaejaaGreatDoor
open Go Go.RowKit
section
variable {P:Program} {B:Nat} {cl:Caller} {ops:Array Oper} {d:XDraw} {R:List Rec} {env0:Env} {S0:St} {env':Env} {S':St} {pt:Nat→Nat→Prop}
variable {φ0 φ:Emb} {w0 w:World} {df:List Deferred} {listed:Array Bool} {a:Act} {q:Nat}
theorem More.refl (w:World):More w w:=⟨Nat.le_refl _,fun _ _=>rfl,rfl,rfl,rfl⟩
theorem alive_lt {T:St} (h:Sim B φ T w) {id:Nat} (hg:T.get id≠.gone):id < T.next:=by
 rcases Nat.lt_or_ge id T.next with h1 | h1
 ·exact h1
 ·exact absurd (h.gone id h1) hg
theorem rd_alive {T:St} {id o n:Nat} {c:List Value} (h:T.rd id o n=some c):T.get id≠.gone:=by
 unfold St.rd at h
 split at h
 ·rename_i e;rw [e];simp
 ·cases h
theorem width_alive {T:St} {id z:Nat} (h:T.width id=some z):T.get id≠.gone:=by
 unfold St.width at h
 split at h
 ·rename_i e;rw [e];simp
 ·cases h
theorem hold_lt (C:DC P B cl ops d R env0 S0 env' S' pt) (I:Inv ops d R env0 S0 S' B φ0 w0 df listed φ a w q):∀ j sj,φ j=some sj→sj.b < w.heap.size:=by
 intro j sj hj
 by_cases h:j < (recT R S' q).next
 ·exact (I.mem.1.dom j sj (by rw [below_get h];exact hj)).2
 ·obtain ⟨k,i1,i2,i3,b',i4,i5,i8,iB,i12,i13⟩:=I.early j sj hj (by omega)
  exact iB.lt
theorem tr_nodefer {o:Oper} {xo:XOp} (h:tr P o=some xo):∀ c,o.op≠.defer c:=by
 intro c hc
 unfold tr at h
 rw [hc] at h
 simp [trExtra] at h
theorem step_inv (C:DC P B cl ops d R env0 S0 env' S' pt) (h0:∀ id s,φ0 id=some s→id < S0.next) (hBw:B≤w0.heap.size) (I:Inv ops d R env0 S0 S' B φ0 w0 df listed φ a w q) {i:Nat} (hi:i < ops.size) (hni:listed.getD i true=false) (hr:∀ j∈aftF ops i,listed.getD j true=true)
  {K:Act→World→Prop} {Q:Exit→Act→World→Prop} (hK:∀ φ' a' w' q',Inv ops d R env0 S0 S' B φ0 w0 df (listed.setIfInBounds i true) φ' a' w' q'→K a' w') (ro:Option Nat):wpOpIn (fz ro) 0 P ops Q i K a w:=by
 have hpt:∀ j,pt i j→listed.getD j true=true:=C.closed I.closed i hi hr
 obtain ⟨r,xo,o,e1,e2,e3,e4,e5,e6,e7,e8,e9,e10,e11,e12,e13,e14,e15⟩:=C.at hi
 have hdst:dstF d.ops i=o.dst:=e11.trans e15
 have hwant:=wanted_at C I hi hni hpt e3 e4
 have hBw':B≤w.heap.size:=Nat.le_trans hBw I.mem.2.size
 unfold wpOpIn
 simp only [e3]
 rw [hwant,← e7]
 cases hw:r.w with
 | false=>
  simp only [Bool.false_eq_true,if_false]
  obtain ⟨hv,hT⟩:=e9 hw
  refine ⟨fun _ _=>trivial,?_⟩
  by_cases ha:anF d.ops i=true
  ·obtain rfl:=anch_stage C I hi hni hpt ha
   obtain ⟨φ',q',h⟩:=inv_anch C h0 I hi hni hr ha hdst (ψ:=φ.below (recT R S' i).next) (v':=undef) (w':=w) (by rw [e13,hv];exact Rel.undef _) (by rw [hT];exact I.mem.1) (by rw [hT];exact Keep.refl _ _ _ _)
   exact hK _ _ _ _ h
  ·exact hK _ _ _ _ (inv_float C I hi hni hr (Bool.eq_false_iff.2 ha) hdst (More.refl w) (by rw [e13,hv];exact Rel.undef _))
 | true=>
  simp only [if_true]
  have hx:=e8 hw
  have hopd:∀ x∈o.op.operands,okOpd x=true→Rel (φ.below (recT R S' i).next) ((recE R env' i).ev x) (a.eval x):=fun x hx hok=>I.opd C hi hni hpt e3 hx hok
  by_cases ha:anF d.ops i=true
  ·obtain rfl:=anch_stage C I hi hni hpt ha
   refine step_sound' C.hcl I.mem.1 hBw' e4 hopd hx fun ψ v' w' k1 k2 k3=>?_
   obtain ⟨φ',q',h⟩:=inv_anch C h0 I hi hni hr ha hdst (by rw [e13];exact k1) k2 k3
   exact hK _ _ _ _ h
  ·have ha':anF d.ops i=false:=Bool.eq_false_iff.2 ha
   have hax:anch xo.op=false:=by rw [← e12];exact ha'
   rw [xstep_xop hax] at hx
   have hor:=trOper_inv e4
   rcases hor with ⟨hall,htr⟩ | ⟨hst,_⟩ | ⟨hgl,hst⟩
   case inr.inl=>
    rw [hst,xop_stuck] at hx
    cases hx
   case inr.inr=>
    rw [hst] at hx
    obtain ⟨hT,hb⟩:=pure_any rfl rfl rfl hx (St.bare (recT R S' i).next)
    have hbs:Sim B (φ.below (recT R S' i).next) (St.bare (recT R S' i).next) w:=bare_sim B (I.mem.1.loops.1.of (Nat.le_refl _) rfl fun _ _ _ _ e=>e) fun id s e=>⟨(below_some e).1,hold_lt C I id s (below_some e).2⟩
    obtain ⟨v',g1,g2,_⟩:=gload_sound hbs hgl hb a
    unfold Oper.wpIn
    rw [Oper.semAt_eq _ _ _ (trGl_nodefer hgl)]
    refine ⟨fun _ _=>trivial,?_⟩
    rw [g1]
    exact hK _ _ _ _ (inv_float C I hi hni hr ha' hdst (More.refl w) (v':=v') (by rw [e13,hT];exact g2))
   have hopd':∀ x∈o.op.operands,Rel (φ.below (recT R S' i).next) ((recE R env' i).ev x) (a.eval x):=fun x hx=>hopd x hx (hall x hx)
   have hq:q∈(d.stages[i]?).getD []:=C.c5 i hi ha' q I.stage.1 (fun k hk hka hlt hp=>by
    have h1:=(I.stage.2 k hk hka).1 hlt
    have:=C.closed I.closed k hk (I.closed k hk h1) i hp
    rw [hni] at this;cases this) (fun k hk hka hle hp=>by
    have h1:=(I.stage.2 k hk hka).2 hle
    have:=hpt k hp
    rw [h1] at this;cases this)
   have hchk:=C.hchk.2 i r xo e1 e2 hw hax q hq
   cases hh:heapy xo.op with
   | true=>
    have hT:=heapy_same hh hx
    obtain ⟨⟨S2,hx2⟩,hsc⟩:=hchk.1 hh
    have hS2:=heapy_same hh hx2
    subst hS2
    rw [e5] at hx2
    have main:∃ v',(execOp a.eval o).run P w=.ok (.value v') w∧Rel (φ.below (recT R S' q).next) r.v v'∧(q≤i→Rel (φ.below (recT R S' i).next) r.v v'):=by
     cases hop:xo.op with
     | load agg sz x=>
      rw [hop] at hx2 htr
      obtain ⟨t,dsc,ti,ho,hd,hti,rfl,rfl⟩:=(tr_heap_inv htr).1 _ _ _ rfl
      have hxr:=hopd' x (by simp [ho,Op.operands])
      simp only [xop] at hx2
      split at hx2
      case h_2=>cases hx2
      rename_i id off e
      rw [e] at hxr
      simp only [Option.bind_eq_some_iff,Option.map_eq_some_iff,Prod.mk.injEq] at hx2
      obtain ⟨c,hc,v0,hv,rfl,_⟩:=hx2
      obtain ⟨s,f1,f2⟩:=ptr_inv hxr
      have hlt:=alive_lt I.mem.1 (rd_alive hc)
      obtain ⟨v',g1,g2⟩:=loadVar_sound (P:=P) I.mem.1 hd hti (by rw [below_get hlt];exact (below_some f1).2) hc hv
      refine ⟨v',?_,g2,fun h=>g2.mono (below_mono (Emb.le.refl _) (C.mono' h))⟩
      simp [execOp,ho,Instr.loadAt,Instr.sureAddr,f2,g1]
     | sl esz x lo hi2=>
      rw [hop] at hx2 htr
      obtain ⟨t,e,j,ho,hu,hj,rfl⟩:=(tr_heap_inv htr).2 _ _ _ _ rfl
      have hxr:=hopd' x (by simp [ho,Op.operands])
      have hlo:∀ y,lo=some y→Rel (φ.below (recT R S' i).next) ((recE R env' i).ev y) (a.eval y):=fun y hy=>hopd' y (by simp [ho,Op.operands,hy])
      have hhi:∀ y,hi2=some y→Rel (φ.below (recT R S' i).next) ((recE R env' i).ev y) (a.eval y):=fun y hy=>hopd' y (by simp [ho,Op.operands,hy])
      simp only [xop] at hx2
      split at hx2
      case h_2=>cases hx2
      rename_i ad n c ex
      split at hx2
      case h_2=>cases hx2
      rename_i l hh2 b1 b2
      split at hx2
      case isFalse=>cases hx2
      rename_i hcnd
      have hxr2:Rel (φ.below (recT R S' q).next) ((recE R env' i).ev x) (a.eval x):=by
       rw [ex] at hxr ⊢
       revert hxr
       generalize a.eval x=u
       intro hxr
       cases hxr with
       | sliceNil=>exact .sliceNil
       | slice id o2 n2 c2 c3 s2 hs2 hn2 hc2 he2=>
        have hlt:id < (recT R S' q).next:=by
         simp only [slRes] at hx2
         split at hx2
         ·rename_i hwd;obtain ⟨z1,hwd,_⟩:=slFit_inv hwd;exact alive_lt I.mem.1 (width_alive hwd)
         ·cases hx2
        exact .slice id o2 _ _ _ s2 (by rw [below_get hlt];exact (below_some hs2).2) hn2 hc2 he2
       | sliceEnd id o2 x2 s2 hs2=>
        have hlt:id < (recT R S' q).next:=by
         simp only [slRes] at hx2
         split at hx2
         ·rename_i hwd;obtain ⟨z1,hwd,_⟩:=slFit_inv hwd;exact alive_lt I.mem.1 (width_alive hwd)
         ·cases hx2
        exact .sliceEnd id o2 x2 s2 (by rw [below_get hlt];exact (below_some hs2).2)
      obtain ⟨v',g1,g2⟩:=sl_exact (P:=P) I.mem.1 hu hj hxr2 ex (bound_opd (φ:=φ.below (recT R S' i).next) b1 hlo) (bound_opd (φ:=φ.below (recT R S' i).next) b2 hhi) hcnd.1 hcnd.2 hx2
      refine ⟨v',?_,g2,fun h=>g2.mono (below_mono (Emb.le.refl _) (C.mono' h))⟩
      simp [execOp,ho,g1]
     | _=>rw [hop] at hh;simp [heapy] at hh
    obtain ⟨v',g1,g2,g3⟩:=main
    unfold Oper.wpIn
    rw [Oper.semAt_eq _ _ _ (tr_nodefer htr)]
    refine ⟨fun _ _=>trivial,?_⟩
    rw [g1]
    refine hK _ _ _ _ (inv_float C I hi hni hr ha' hdst (More.refl w) (v':=v') ?_)
    rw [hT,e13]
    rcases Nat.lt_or_ge i q with hlt | hge
    ·have:=hsc hlt (φ.below (recT R S' q).next) v' g2
     rw [e6] at this
     have hle9:Emb.le ((φ.below (recT R S' q).next).below (recT R S' i).next) (φ.below (recT R S' i).next):=⟨fun id s e=>by
      have h1:=below_some e
      have h2:=below_some h1.2
      exact (below_get (φ:=φ) h1.1).trans h2.2,rfl⟩
     exact this.mono hle9
    ·exact g3 hge
   | false=>
    cases hl:isAlloc xo.op with
    | false=>
     obtain ⟨hT,hb⟩:=pure_any hax hh hl hx (St.bare (recT R S' i).next)
     have hbs:Sim B (φ.below (recT R S' i).next) (St.bare (recT R S' i).next) w:=bare_sim B (I.mem.1.loops.1.of (Nat.le_refl _) rfl fun _ _ _ _ e=>e) fun id s e=>⟨(below_some e).1,hold_lt C I id s (below_some e).2⟩
     obtain ⟨ψ,v',w',hrun,g1,g2,g3⟩:=tr_sound (P:=P) hbs hBw' htr hopd' hb
     have hψ:ψ=φ.below (recT R S' i).next:=by
      refine Emb.ext' (fun id=>?_) g3.le.tab
      cases e:ψ id with
      | none=>
       cases e9:φ.below (recT R S' i).next id with
       | none=>rfl
       | some s=>have:=g3.le id s e9;rw [e] at this;cases this
      | some s=>
       cases e9:φ.below (recT R S' i).next id with
       | none=>have h1:=g3.new id s e e9;have h2:=(g2.dom id s e).1;exact absurd h2 (Nat.not_lt.2 h1)
       | some s2=>have:=g3.le id s2 e9;rw [e] at this;exact this
     rw [hψ] at g1
     unfold Oper.wpIn
     rw [Oper.semAt_eq _ _ _ (tr_nodefer htr)]
     refine ⟨fun _ _=>trivial,?_⟩
     have fin:K (a.put o.dst v') w':=hK _ _ _ _ (inv_float C I hi hni hr ha' hdst (bare_more g3) (by rw [e13,hT];exact g1))
     rcases hrun with hrun | ⟨hrun,rfl⟩
     ·rw [hrun];exact fin
     ·rw [hrun];exact fin
    | true=>
     obtain ⟨b0,hnew,hT,hb,hshape⟩:=alloc_any hl hx
     have hbs:Sim B (φ.below (recT R S' i).next) (St.bare (recT R S' i).next) w:=bare_sim B (I.mem.1.loops.1.of (Nat.le_refl _) rfl fun _ _ _ _ e=>e) fun id s e=>⟨(below_some e).1,hold_lt C I id s (below_some e).2⟩
     obtain ⟨ψ,v',w',hrun,g1,g2,g3⟩:=tr_sound (P:=P) hbs hBw' htr hopd' hb
     have hid:∃ s,ψ (recT R S' i).next=some s:=by
      rcases hshape with ⟨n,k,hv⟩ | hv | hv
      ·rw [hv] at g1
       cases g1 with
       | slice _ _ _ _ c' s h hn hc he=>exact ⟨s,h⟩
       | sliceEnd _ _ x s h=>exact ⟨s,h⟩
      ·rw [hv] at g1
       cases g1 with
       | ptr _ _ s h=>exact ⟨s,h⟩
      ·rw [hv] at g1
       cases g1 with
       | map _ s h=>exact ⟨s,h⟩
     obtain ⟨s,hs⟩:=hid
     have hgetb:((St.bare (recT R S' i).next).alloc b0).get (recT R S' i).next=b0:=by
      rw [St.get_alloc]
      exact if_pos rfl
     have hbn:B≤s.b∧Born ψ w' s b0:=by
      rcases hnew with ⟨c,t,sz,rfl⟩ | rfl
      ·obtain ⟨f1,f2,f3,cs,t',f4,f5,f6⟩:=g2.blk _ s c t sz true [] hs hgetb
       subst f1
       exact ⟨f3 rfl,.row c t cs t' f2 f4.mine f5 f6⟩
      ·obtain ⟨f1,⟨r,f2,es,f3,f4,_⟩,_⟩:=g2.loops.2 _ s _ hs hgetb
       refine ⟨f1.1,.map f1.2 ?_⟩
       rw [f2,f3]
       have:es=#[]:=by
        have:es.toList=[]:=List.length_eq_zero_iff.1 f4.symm
        exact Array.toList_inj.1 (by rw [this])
       rw [this]
     have hnb:φ.below (recT R S' i).next (recT R S' i).next=none:=if_neg (Nat.lt_irrefl _)
     have hsb:w.heap.size≤s.b:=by
      rcases g3.place _ s hs hnb with h | ⟨id0,s0,h1,h2,h3⟩
      ·exact h
      ·rw [bare_get] at h3;cases h3
     have hψ:ψ=(φ.add (recT R S' i).next s).below ((recT R S' i).next+1):=by
      refine Emb.ext' (fun id=>?_) g3.le.tab
      rw [below_at,Emb.add_at]
      by_cases e:id=(recT R S' i).next
      ·subst e;simp [hs]
      ·simp only [e,if_false]
       by_cases hlt:id < (recT R S' i).next
       ·rw [if_pos (by omega)]
        cases e9:φ id with
        | some s2=>exact g3.le id s2 (by rw [below_get hlt];exact e9)
        | none=>
         cases e8:ψ id with
         | none=>rfl
         | some s3=>
          have h1:=g3.new id s3 e8 (by rw [below_get hlt];exact e9)
          exact absurd hlt (Nat.not_lt.2 h1)
       ·rw [if_neg (by omega)]
        cases e8:ψ id with
        | none=>rfl
        | some s3=>
         have h1:=(g2.dom id s3 e8).1
         simp only [St.next_alloc,St.bare] at h1
         omega
     have hn1:(recT R S' (i+1)).next=(recT R S' i).next+1:=by rw [hT];rfl
     unfold Oper.wpIn
     rw [Oper.semAt_eq _ _ _ (tr_nodefer htr)]
     refine ⟨fun _ _=>trivial,?_⟩
     have fin:K (a.put o.dst v') w':=hK _ _ _ _ (inv_alloc C h0 I hi hni hr ha' hT (fun hlt=>by
      have:=hchk.2 hl hlt
      rw [e6] at this
      rw [this,hT,St.get_alloc]
      exact if_pos rfl) hdst (bare_more g3) hsb hbn.1 (by rw [← hψ];exact hbn.2) (by rw [e13,hn1,← hψ];exact g1))
     rcases hrun with hrun | ⟨hrun,rfl⟩
     ·rw [hrun];exact fin
     ·rw [hrun];exact fin
end
end Go.Proofs.YtiinecnjokaejaaGreatDoor

namespace Go.Proofs.YtiinecnjokaejaaGreatDoor
open Go Go.RowKit
def closure (A:List (List Nat)):List (List Nat):=A.foldl (fun acc l=>acc++[(l++l.flatMap fun j=>acc.getD j []).eraseDups]) []
def conf (ops:Array Oper) (xs:List XOper) (i k:Nat):Bool:=
  (match dstF xs i with
   | some t=>(looksF ops k).contains t || dstF xs k == some t
   | none=>false) ||
  (match dstF xs k with
   | some t=>(looksF ops i).contains t
   | none=>false)
def drawStatic (ops:Array Oper) (xs:List XOper) (pt:List (List Nat)):Bool:=
  (List.range ops.size).all fun i=>(aftF ops i).all (fun j=>decide (j < i)) &&
    (pt.getD i []).all (fun j=>(aftF ops i).contains j || (aftF ops i).any fun k=>(pt.getD k []).contains j) &&
    (List.range i).all fun j=>(!conf ops xs j i || (pt.getD i []).contains j) && (!(anF xs j && anF xs i) || (pt.getD i []).contains j)
def stagesOf (xs:List XOper) (pt:List (List Nat)) (n i:Nat):List Nat:=
  ((List.range n).filter (anF xs)++[n]).filter fun q=>(List.range n).all fun k=>!anF xs k || ((!decide (k < q) || !(pt.getD k []).contains i) && (!decide (q≤k) || !(pt.getD i []).contains k))
def flagsOf (ops:List XOper) (stages:List (List Nat)):List ((Bool × Bool) × Bool):=
  (List.range ops.length).map fun k=>
    (((match ops[k]? with | some o=>anch o.op | none=>false) && (List.range ops.length).any fun i=>(match ops[i]? with | some o=>heapy o.op | none=>false) && ((stages[i]?).getD []).any fun q=>(decide (i≤k) && decide (k < q)) || (decide (q≤k) && decide (k < i)),
      (match ops[k]? with | some o=>anch o.op | none=>false) && (List.range ops.length).any fun i=>(match ops[i]? with | some o=>isAlloc o.op | none=>false) && ((stages[i]?).getD []).any fun q=>(decide (i≤k) && decide (k < q)) || (decide (q≤k) && decide (k < i))),
     (match ops[k]? with | some o=>heapy o.op | none=>false) && ((stages[k]?).getD []).any fun q=>decide (q < k))
def stuckDraw:XDraw:=⟨[⟨none,stuckOp,none⟩],[],flagsOf [⟨none,stuckOp,none⟩] []⟩
theorem xrun_stuck {cl:Caller} {env:Env} {S:St} {r:List Rec × Env × St} (h:xrun cl stuckDraw.ops env S=some r):False:=by
  have e:xstep cl stuckOp (Env.ev env) S=none:=(show xstep cl stuckOp (Env.ev env) S=xop stuckOp (Env.ev env) S from rfl).trans (xop_stuck _ _)
  simp [stuckDraw,xrun,xwanted,e] at h
def trDraw (P:Program) (ops:Array Oper):Option XDraw:=
  match ops.toList.mapM (trOper P ops) with
  | some xs=>if drawStatic ops xs (closure (ops.toList.map aft)) then some ⟨xs,(List.range ops.size).map (stagesOf xs (closure (ops.toList.map aft)) ops.size),flagsOf xs ((List.range ops.size).map (stagesOf xs (closure (ops.toList.map aft)) ops.size))⟩ else some stuckDraw
  | none=>none
section
variable {P:Program} {B:Nat} {cl:Caller} {ops:Array Oper} {d:XDraw} {R:List Rec} {env0:Env} {S0:St} {env':Env} {S':St} {pt:Nat→Nat→Prop}
variable {φ0 φ:Emb} {w0 w:World} {df:List Deferred} {listed:Array Bool} {a:Act} {q:Nat}
theorem trDraw_ctx (hcl:CallOK P B cl) (h:trDraw P ops=some d) (hrun:xrun cl d.ops env0 S0=some (R,env',S')) (hchk:ChkP d R S') :
    DC P B cl ops d R env0 S0 env' S' (fun i j=>j∈(closure (ops.toList.map aft)).getD i []):=by
  unfold trDraw at h
  split at h
  case h_2=>cases h
  rename_i xs hxs
  split at h
  case isFalse=>
    obtain rfl:=Option.some.inj h
    exact (xrun_stuck hrun).elim
  rename_i hst
  obtain rfl:=Option.some.inj h
  simp only [drawStatic,List.all_eq_true,List.mem_range,Bool.and_eq_true,decide_eq_true_eq,Bool.or_eq_true,List.contains_eq_mem,List.any_eq_true,Bool.not_eq_true'] at hst
  refine ⟨hcl,hxs,hrun,hchk,fun i hi=>(hst i hi).1.1,fun i hi j hj=>?_,fun i k hik hk hc=>?_,fun i k hik hk h1 h2=>?_,fun i hi ha q hq h1 h2=>?_⟩
  · rcases (hst i hi).1.2 j hj with h | ⟨k,h1,h2⟩
    · exact .inl h
    · exact .inr ⟨k,h1,h2⟩
  · have:=((hst k hk).2 i hik).1
    rcases this with h | h
    · exfalso
      have hcf:conf ops xs i k=true:=by
        unfold conf
        rcases hc with ⟨t,e1,e2⟩ | ⟨t,e1,e2⟩
        · simp only at e1
          rw [e1]
          rcases e2 with e2 | e2
          · simp [e2]
          · simp [e2]
        · simp only at e1
          rw [e1]
          simp [e2]
      rw [hcf] at h;cases h
    · exact h
  · have:=((hst k hk).2 i hik).2
    rcases this with h | h
    · simp only at h1 h2
      rw [h1,h2] at h;cases h
    · exact h
  · simp only [List.getElem?_map,List.getElem?_range hi,Option.map_some,Option.getD_some,stagesOf,List.mem_filter,List.mem_append,List.mem_range,List.mem_singleton,List.all_eq_true,Bool.or_eq_true,Bool.and_eq_true,Bool.not_eq_true',decide_eq_false_iff_not,List.contains_eq_mem]
    refine ⟨?_,fun k hk=>?_⟩
    · rcases hq with h | h
      · exact .inr h
      · exact .inl h
    · cases hka:anF xs k with
      | false=>exact .inl rfl
      | true=>
        right
        constructor
        · by_cases e:k < q
          · exact .inr (h1 k hk hka e)
          · exact .inl e
        · by_cases e:q≤k
          · exact .inr (h2 k hk hka e)
          · exact .inl e
def und (listed:Array Bool):Nat→Nat
  | 0=>0
  | n+1=>und listed n+if listed.getD n true then 0 else 1
theorem und_set {i:Nat} (hi:i < listed.size) (hni:listed.getD i true=false):∀ n,und (listed.setIfInBounds i true) n+(if i < n then 1 else 0)=und listed n:=by
  intro n
  induction n with
  | zero=>rfl
  | succ n ih=>
    simp only [und]
    have hs:(listed.setIfInBounds i true).getD n true=if n=i then true else listed.getD n true:=by
      have:=listed_set (listed:=listed) (i:=i) (j:=n) hi
      by_cases e:n=i
      · rw [if_pos e];exact this.2 (.inl e)
      · rw [if_neg e,Bool.eq_iff_iff,this];simp [e]
    rw [hs]
    by_cases e:n=i
    · subst e
      simp only [if_true,Nat.lt_irrefl,if_false] at ih ⊢
      rw [hni];simp;omega
    · simp only [e,if_false]
      generalize (if listed.getD n true=true then 0 else 1)=z
      by_cases h2:i < n
      · have h3:(if i < n+1 then 1 else 0)=1:=if_pos (by omega)
        rw [if_pos h2] at ih;rw [h3];omega
      · have h3:(if i < n+1 then 1 else 0)=0:=if_neg (by omega)
        rw [if_neg h2] at ih;rw [h3];omega
theorem und_zero:∀ n,und listed n=0→∀ i,i < n→listed.getD i true=true:=by
  intro n
  induction n with
  | zero=>intro _ i hi;omega
  | succ n ih=>
    intro h i hi
    simp only [und] at h
    by_cases e:i=n
    · subst e
      cases hl:listed.getD i true with
      | true=>rfl
      | false=>rw [hl] at h;simp at h
    · exact ih (by omega) i (by omega)
theorem und_le:∀ n,und listed n≤n:=by
  intro n
  induction n with
  | zero=>exact Nat.le_refl _
  | succ n ih=>simp only [und];split<;>omega
theorem ready_mem {i:Nat} (h:i∈Region.ready .any ops listed):i < ops.size∧listed.getD i true=false∧∀ j∈aftF ops i,listed.getD j true=true:=by
  unfold Region.ready at h
  simp only [List.mem_filter,List.mem_range,Bool.and_eq_true,Bool.not_eq_true'] at h
  obtain ⟨h1,h2,h3⟩:=h
  refine ⟨h1,h2,fun j hj=>?_⟩
  rw [Array.getElem?_eq_getElem h1] at h3
  simp only [Option.map_some,Option.getD_some,Array.all_eq_true'] at h3
  simp only [aftF,Array.getElem?_eq_getElem h1,aft,List.mem_map,List.mem_filter] at hj
  obtain ⟨e,⟨he,hb⟩,rfl⟩:=hj
  have:=h3 e (by simpa using he)
  rw [hb] at this
  simp only [Bool.not_true,Bool.false_or] at this
  rw [Array.getD_eq_getD_getElem?] at this ⊢
  by_cases hlt:e.on < listed.size
  · rw [Array.getElem?_eq_getElem hlt] at this ⊢; exact this
  · rw [Array.getElem?_eq_none (by omega)] at this;cases this
theorem ready_nil (C:DC P B cl ops d R env0 S0 env' S' pt) (hsz:listed.size=ops.size) (h:Region.ready .any ops listed=[]):∀ i,i < ops.size→listed.getD i true=true:=by
  intro i
  induction i using Nat.strongRecOn with
  | _ i ih=>
    intro hi
    cases hl:listed.getD i true with
    | true=>rfl
    | false=>
      exfalso
      have hm:i∈Region.ready .any ops listed:=by
        unfold Region.ready
        simp only [List.mem_filter,List.mem_range,Bool.and_eq_true,Bool.not_eq_true']
        refine ⟨hi,hl,?_⟩
        rw [Array.getElem?_eq_getElem hi]
        simp only [Option.map_some,Option.getD_some,Array.all_eq_true']
        intro e he
        cases hb:Region.binds .any e with
        | false=>rfl
        | true=>
          have hj:e.on∈aftF ops i:=by
            simp only [aftF,Array.getElem?_eq_getElem hi,aft,List.mem_map,List.mem_filter]
            exact ⟨e,⟨by simpa using he,hb⟩,rfl⟩
          have hlt:=C.c1 i hi _ hj
          have:=ih e.on hlt (by omega)
          simp only [Bool.not_true,Bool.false_or]
          rw [Array.getD_eq_getD_getElem?] at this ⊢
          rw [Array.getElem?_eq_getElem (by omega)] at this ⊢
          exact this
      rw [h] at hm;cases hm
theorem any_sound (C:DC P B cl ops d R env0 S0 env' S' pt) (h0:∀ id s,φ0 id=some s→id < S0.next) (hBw:B≤w0.heap.size) {Q:Exit→Act→World→Prop}
    (hQ:∀ φ' a' w',EnvR φ' env' a'→Sim B φ' S' w'→Keep B φ0 S0 w0 φ' S' w'→a'.defers=df→Q .normal a' w') (ro:Option Nat) :
    ∀ (fuel:Nat) (listed:Array Bool) (φ:Emb) (a:Act) (w:World) (q:Nat),Inv ops d R env0 S0 S' B φ0 w0 df listed φ a w q→und listed ops.size≤fuel→wpAnyIn (fz ro) 0 P .any ops Q fuel listed a w:=by
  have done:∀ (listed:Array Bool) (φ:Emb) (a:Act) (w:World) (q:Nat),Inv ops d R env0 S0 S' B φ0 w0 df listed φ a w q→(∀ i,i < ops.size→listed.getD i true=true)→Q .normal a w:=by
    intro listed φ a w q I hall
    have hq:q=ops.size:=by
      rcases I.stage.1 with h | ⟨h1,h2⟩
      · exact h
      · have:=(I.stage.2 q h1 h2).2 (Nat.le_refl _)
        rw [hall q h1] at this;cases this
    subst hq
    have hdom:∀ id s,φ id=some s→id < (recT R S' ops.size).next:=by
      intro id s e
      rcases Nat.lt_or_ge id (recT R S' ops.size).next with h | h
      · exact h
      · obtain ⟨k,i1,i2,_⟩:=I.early id s e h
        omega
    have hm:=I.mem
    rw [below_eq hdom,C.Tn] at hm
    refine hQ φ a w ⟨?_,fun t h1 h2=>?_⟩ hm.1 hm.2 I.defers
    · have:=(C.envs ops.size (Nat.le_refl _)).1
      rw [C.En] at this
      rw [this,I.esize]
    · have he:=I.env t h2
      have hE:=(C.envs ops.size (Nat.le_refl _)).2 t (by rw [← I.esize];exact h2)
      rw [C.En,Array.getD_eq_getD_getElem?,Array.getElem?_eq_getElem h1] at hE
      simp only [Option.getD_some] at hE
      have hf:FW d R env0 S0 S' (fun j=>listed.getD j true) ops.size t=FW d R env0 S0 S' (fun _=>true) ops.size t:=by
        unfold FW
        refine fold_read (i:=ops.size) (fun j hj _=>hall j hj) (fun j hj hd=>?_) ops.size (Nat.le_refl _)
        have:dstF d.ops j=none:=by simp [dstF,List.getElem?_eq_none (show d.ops.length≤j by have:=C.len.1;omega)]
        rw [this] at hd;cases hd
      rw [hf,← hE] at he
      exact he.mono (below_le φ _)
  intro fuel
  induction fuel with
  | zero=>
    intro listed φ a w q I hu
    have hall:=und_zero (listed:=listed) ops.size (by omega)
    refine ⟨?_,done listed φ a w q I hall⟩
    cases hr:Region.ready .any ops listed with
    | nil=>rfl
    | cons i l=>
      have:=ready_mem (ops:=ops) (listed:=listed) (i:=i) (by rw [hr];exact List.mem_cons_self)
      rw [hall i this.1] at this
      cases this.2.1
  | succ fuel ih=>
    intro listed φ a w q I hu
    refine ⟨fun hr=>done listed φ a w q I (ready_nil C I.size hr),fun i hi=>?_⟩
    obtain ⟨h1,h2,h3⟩:=ready_mem hi
    refine step_inv C h0 hBw I h1 h2 h3 (fun φ' a' w' q' I'=>ih _ φ' a' w' q' I' ?_) ro
    have:=und_set (listed:=listed) (i:=i) (by rw [I.size];exact h1) h2 ops.size
    rw [if_pos h1] at this
    omega
theorem fold_none {dst:Nat→Option Tmp} {val:Nat→Value} {bd:Nat→Nat} {v0:Tmp→Value} {b0:Nat} {dn:Nat→Bool} (t:Tmp):∀ k,(∀ j,j < k→dn j=false)→fold dst val bd v0 b0 dn k t=(v0 t,b0):=by
  intro k
  induction k with
  | zero=>intro _;rfl
  | succ k ih=>
    intro h
    simp only [fold]
    rw [h k (by omega)]
    simp only [Bool.false_eq_true,false_and,if_false]
    exact ih fun j hj=>h j (by omega)
theorem draw_ok (hm:P.follows .mixedOrders=true):DrawOK P B (trDraw P) xdraw:=by
  intro cl hcl ops d hd env S env' S' h id φ a w Q hs hB henv hQ
  unfold xdraw at h
  simp only [Option.bind_eq_some_iff] at h
  obtain ⟨⟨R,env1,S1⟩,hrun,h⟩:=h
  split at h
  case isFalse=>cases h
  rename_i hchk
  simp only [Option.some.injEq,Prod.mk.injEq] at h
  obtain ⟨rfl,rfl⟩:=h
  have C:=trDraw_ctx hcl hd hrun hchk
  have h0:∀ id s,φ id=some s→id < S.next:=fun id s e=>(hs.dom id s e).1
  intro ro
  refine wpIn_region_any hm ?_
  show wpAnyIn (fz ro) 0 P .any ops Q ops.size (Array.replicate ops.size false) a w.drew
  have hT0:=C.T0
  have hg:∀ j,j < ops.size→(Array.replicate ops.size false).getD j true=false:=fun j hj=>by
    rw [Array.getD_eq_getD_getElem?,Array.getElem?_replicate,if_pos hj];rfl
  have hsk:SK B φ S w (φ.below (recT R S1 0).next) (recT R S1 0) w.drew:=by
    rw [hT0,below_eq h0]
    exact ⟨hs.drew,Keep.drew B φ S w⟩
  obtain ⟨q,k1,k2,k3,k4,k5⟩:=advance C (listed:=Array.replicate ops.size false) h0 ops.size 0 (by omega) hsk (fun id s e hge=>by
    rw [hT0] at hge
    have:=h0 id s e
    omega)
  refine any_sound C h0 hB hQ ro ops.size _ φ a w.drew q ⟨by simp,fun i hi h=>?_,⟨k2,fun k hk hka=>⟨fun h=>?_,fun _=>hg k hk⟩⟩,henv.1.symm,fun t ht=>?_,k4,k5,fun i hi _ b hb _=>?_,rfl⟩ (und_le _)
  · rw [hg i hi] at h;cases h
  · have:=k3 k (by omega) h
    rw [this] at hka;cases hka
  · unfold FW
    rw [fold_none t ops.size hg]
    simp only
    have ht':t < env.size:=by rw [henv.1];exact ht
    rw [Array.getD_eq_getD_getElem?,Array.getElem?_eq_getElem ht',below_eq h0]
    exact henv.2 t ht' ht
  · cases e:φ (recT R S1 i).next with
    | none=>rfl
    | some s=>
      have h1:=h0 _ s e
      have h2:=C.mono' (i:=0) (j:=i) (by omega)
      rw [hT0] at h2
      omega
end
end Go.Proofs.YtiinecnjokaejaaGreatDoor

namespace Go.Proofs.YtiinecnjokaejaaGreatDoor
open Go Go.RowKit
def CallerLe (cl cl':Caller):Prop:=∀ f a S r,cl f a S=some r→cl' f a S=some r
theorem xstep_mono {cl cl':Caller} (h:CallerLe cl cl') {o:XOp} {ρ:Operand→Value} {S:St} {r:Value × St} (hx:xstep cl o ρ S=some r):xstep cl' o ρ S=some r:=by
 unfold xstep at *
 split at hx
 ·exact h _ _ _ _ hx
 ·split at hx
  ·exact h _ _ _ _ hx
  ·cases hx
 ·exact hx
theorem xops_mono {cl cl':Caller} (h:CallerLe cl cl'):∀ (l:List XOper) (env:Env) (S:St) (r:Env × St),xops cl l env S=some r→xops cl' l env S=some r:=by
 intro l
 induction l with
 | nil=>intro env S r hx;exact hx
 | cons o l ih=>
  intro env S r hx
  simp only [xops] at hx ⊢
  split at hx
  ·rename_i hw
   rw [if_pos hw]
   simp only [Option.bind_eq_some_iff] at hx ⊢
   obtain ⟨p,h1,h2⟩:=hx
   exact ⟨p,xstep_mono h h1,ih _ _ _ h2⟩
  ·rename_i hw
   rw [if_neg hw]
   exact ih _ _ _ hx
theorem xrun_mono {cl cl':Caller} (h:CallerLe cl cl'):∀ (l:List XOper) (env:Env) (S:St) (r:List Rec × Env × St),xrun cl l env S=some r→xrun cl' l env S=some r:=by
 intro l
 induction l with
 | nil=>intro env S r hx;exact hx
 | cons o l ih=>
  intro env S r hx
  simp only [xrun] at hx ⊢
  split at hx
  ·rename_i hw
   rw [if_pos hw]
   simp only [Option.bind_eq_some_iff,Option.map_eq_some_iff] at hx ⊢
   obtain ⟨p,h1,q,h2,h3⟩:=hx
   exact ⟨p,xstep_mono h h1,q,ih _ _ _ h2,h3⟩
  ·rename_i hw
   rw [if_neg hw]
   simp only [Option.map_eq_some_iff] at hx ⊢
   obtain ⟨q,h2,h3⟩:=hx
   exact ⟨q,ih _ _ _ h2,h3⟩
theorem xdraw_mono {cl cl':Caller} (h:CallerLe cl cl') {d:XDraw} {env:Env} {S:St} {r:Env × St} (hx:xdraw cl d env S=some r):xdraw cl' d env S=some r:=by
 unfold xdraw at *
 simp only [Option.bind_eq_some_iff] at hx ⊢
 obtain ⟨q,h1,h2⟩:=hx
 exact ⟨q,xrun_mono h _ _ _ _ h1,h2⟩
theorem xloop_mono {body body':Env→St→Option (Ex × Env × St)} (h:∀ env S r,body env S=some r→body' env S=some r):∀ (n n':Nat),n≤n'→∀ (env:Env) (S:St) (r:Ex × Env × St),xloop body n env S=some r→xloop body' n' env S=some r:=by
 intro n
 induction n with
 | zero=>intro n' _ env S r hx;cases hx
 | succ n ih=>
  intro n' hn env S r hx
  obtain ⟨n',rfl⟩:∃ m,n'=m+1:=⟨n' - 1,by omega⟩
  simp only [xloop,Option.bind_eq_some_iff] at hx ⊢
  obtain ⟨q,h1,h2⟩:=hx
  refine ⟨q,h _ _ _ h1,?_⟩
  obtain ⟨e,env1,S1⟩:=q
  cases e with
  | normal=>exact ih n' (by omega) _ _ _ h2
  | exit id=>exact h2
  | ret=>exact h2
theorem xcode_mono {cl cl':Caller} (h:CallerLe cl cl') {n n':Nat} (hn:n≤n'):∀ (c:XCode) (env:Env) (S:St) (r:Ex × Env × St),xcode xdraw cl n c env S=some r→xcode xdraw cl' n' c env S=some r:=by
 intro c
 induction c with
 | skip=>intro env S r hx;exact hx
 | region ops=>
  intro env S r hx
  simp only [xcode,Option.map_eq_some_iff] at hx ⊢
  obtain ⟨q,h1,h2⟩:=hx
  exact ⟨q,xops_mono h _ _ _ _ h1,h2⟩
 | draw d=>
  intro env S r hx
  simp only [xcode,Option.map_eq_some_iff] at hx ⊢
  obtain ⟨q,h1,h2⟩:=hx
  exact ⟨q,xdraw_mono h h1,h2⟩
 | seq a b iha ihb=>
  intro env S r hx
  simp only [xcode,Option.bind_eq_some_iff] at hx ⊢
  obtain ⟨q,h1,h2⟩:=hx
  refine ⟨q,iha _ _ _ h1,?_⟩
  obtain ⟨e,env1,S1⟩:=q
  cases e with
  | normal=>exact ihb _ _ _ h2
  | exit id=>exact h2
  | ret=>exact h2
 | cond c x y ihx ihy=>
  intro env S r hx
  simp only [xcode] at hx ⊢
  split at hx
  ·exact ihx _ _ _ hx
  ·exact ihy _ _ _ hx
  ·cases hx
 | block id c ih=>
  intro env S r hx
  simp only [xcode,Option.map_eq_some_iff] at hx ⊢
  obtain ⟨q,h1,h2⟩:=hx
  exact ⟨q,ih _ _ _ h1,h2⟩
 | loop c ih=>
  intro env S r hx
  simp only [xcode] at hx ⊢
  exact xloop_mono ih n n' hn _ _ _ hx
 | exit id=>intro env S r hx;exact hx
 | ret=>intro env S r hx;exact hx
 | range x L=>
  intro env S r hx
  simp only [xcode] at hx ⊢
  split at hx
  ·simp only [Option.bind_eq_some_iff] at hx ⊢
   obtain ⟨q,h1,h2⟩:=hx
   exact ⟨q,h _ _ _ _ h1,h2⟩
  ·cases hx
theorem xround_mono {cl cl':Caller} (h:CallerLe cl cl') {n n':Nat} (hn:n≤n') {LT:LoopC→Option (XCode × XCode)} {id:Nat} {args:Array Value} {S:St} {r:Value × St} (hx:xround xdraw cl n LT id args S=some r):xround xdraw cl' n' LT id args S=some r:=by
 unfold xround at *
 split at hx
 ·split at hx
  ·rename_i hc
   rw [if_pos hc]
   generalize (Array.foldl _ _ _:Env)=env0 at hx ⊢
   simp only [Option.bind_eq_some_iff] at hx ⊢
   obtain ⟨x,h1,⟨e1,env1,S1⟩,h2,h3⟩:=hx
   refine ⟨x,h1,⟨e1,env1,S1⟩,xcode_mono h hn _ _ _ _ h2,?_⟩
   cases e1 with
   | normal=>
    simp only [Option.map_eq_some_iff] at h3 ⊢
    obtain ⟨q,h4,h5⟩:=h3
    exact ⟨q,xcode_mono h hn _ _ _ _ h4,h5⟩
   | exit id=>exact h3
   | ret=>exact h3
  ·cases hx
 ·cases hx
theorem xcall_mono (F:FuncId→Option XFunc) (LT:LoopC→Option (XCode × XCode)) (base:Base):∀ (n n':Nat),n≤n'→CallerLe (xcall xdraw F LT base n) (xcall xdraw F LT base n'):=by
 intro n
 induction n with
 | zero=>
  intro n' _ f a S r hx
  cases f with
  | func f=>
   simp only [xcall] at hx
   cases e:F f with
   | none=>
    rw [e] at hx
    cases n'<;>simp only [xcall,e]<;>exact hx
   | some fn=>rw [e] at hx;cases hx
  | yield id=>simp [xcall] at hx
  | method _=>simp [xcall] at hx
  | methodOf _ _=>simp [xcall] at hx
  | via _ _ _ _=>simp [xcall] at hx
 | succ n ih=>
  intro n' hn f a S r hx
  obtain ⟨n',rfl⟩:∃ m,n'=m+1:=⟨n' - 1,by omega⟩
  cases f with
  | func f=>
   simp only [xcall] at hx ⊢
   split at hx
   ·exact hx
   ·rename_i fn hf
    simp only [Option.bind_eq_some_iff] at hx ⊢
    obtain ⟨q,h1,h2⟩:=hx
    exact ⟨q,xcode_mono (ih n' (by omega)) (by omega) _ _ _ _ h1,h2⟩
  | yield id=>
   simp only [xcall] at hx ⊢
   exact xround_mono (ih n' (by omega)) (by omega) hx
  | method _=>simp [xcall] at hx
  | methodOf _ _=>simp [xcall] at hx
  | via _ _ _ _=>simp [xcall] at hx
abbrev FEnv:=Tmp→Value
def toF (env:Env):FEnv:=fun t=>env.getD t undef
def upd (fe:FEnv) (d:Tmp) (v:Value):FEnv:=fun t=>if t=d then v else fe t
def updO (fe:FEnv):Option Tmp→Value→FEnv
 | some d,v=>upd fe d v
 | none,_=>fe
def fev (fe:FEnv):Operand→Value
 | .tmp t=>fe t
 | .const v=>v
 | .global g=>.pointer (some ⟨g,0,none⟩)
 | .func f=>.func (.func f) #[] #[]
def fwant (fe:FEnv):Option (Tmp × Bool)→Bool
 | none=>true
 | some (t,want)=>match fe t with
  | .bool b=>b == want
  | _=>false
theorem toF_put (env:Env) (d:Option Tmp) (v:Value) (h:∀ t,d=some t→t < env.size):toF (env.put d v)=updO (toF env) d v:=by
 cases d with
 | none=>rfl
 | some d=>
  funext t
  have hd:=h d rfl
  simp only [toF,Env.put,updO,upd]
  rw [Array.getD_eq_getD_getElem?]
  by_cases e:t=d
  ·subst e
   rw [Array.getElem?_setIfInBounds_self_of_lt hd,if_pos rfl];rfl
  ·rw [Array.getElem?_setIfInBounds_ne (Ne.symm e),if_neg e,Array.getD_eq_getD_getElem?]
theorem toF_ev (env:Env):env.ev=fev (toF env):=by
 funext x
 cases x<;>rfl
theorem toF_want (o:XOper) (env:Env):xwanted o env=fwant (toF env) o.guard:=by
 unfold xwanted fwant toF
 cases o.guard with
 | none=>rfl
 | some p=>
  obtain ⟨t,want⟩:=p
  simp only
  rw [Array.getD_eq_getD_getElem?]
  cases h:env[t]? with
  | none=>simp [undef]
  | some v=>cases v<;>rfl
inductive Sc (m:Nat):Value→Prop where
 | bool (b:Bool):Sc m (.bool b)
 | int (k:IntKind) (n:Int):Sc m (.int k n)
 | string (s:ByteArray):Sc m (.string s)
 | ptrNil:Sc m (.pointer none)
 | ptr (id o:Nat) (h:id < m):Sc m (.pointer (some ⟨id,o,none⟩))
 | sliceNil (n c:Nat):Sc m (.slice none n c)
 | slice (id o n c:Nat) (h:id < m):Sc m (.slice (some ⟨id,o,none⟩) n c)
 | nilFunc:Sc m .nilFunc
 | nilIface:Sc m .nilIface
 | func (f:FuncId) (a b:Array Value) (h1:∀ i (h:i < a.size),Sc m a[i]) (h2:∀ i (h:i < b.size),Sc m b[i]):Sc m (.func (.func f) a b)
 | yield (id:Nat) (h:id < m):Sc m (.func (.yield id) #[] #[])
 | mapNil:Sc m (.map none)
 | map (id:Nat) (h:id < m):Sc m (.map (some id))
 | tab:Sc m (.chan (some 0))
 | iface (t:TypeId) (v:Value) (h:Sc m v):Sc m (.iface t v)
 | agg (a:Array Value) (h1:∀ i (h:i < a.size),Sc m a[i]):Sc m (.agg a)
 | tuple (a:Array Value) (h1:∀ i (h:i < a.size),Sc m a[i]):Sc m (.tuple a)
theorem Sc.mono {m m':Nat} (hm:m≤m') {v:Value} (h:Sc m v):Sc m' v:=by
 induction h with
 | bool b=>exact .bool b
 | int k n=>exact .int k n
 | string s=>exact .string s
 | ptrNil=>exact .ptrNil
 | ptr id o h=>exact .ptr id o (by omega)
 | sliceNil n c=>exact .sliceNil n c
 | slice id o n c h=>exact .slice id o n c (by omega)
 | nilFunc=>exact .nilFunc
 | nilIface=>exact .nilIface
 | func f a b h1 h2 i1 i2=>exact .func f a b i1 i2
 | yield id h=>exact .yield id (by omega)
 | mapNil=>exact .mapNil
 | map id h=>exact .map id (by omega)
 | tab=>exact .tab
 | iface t v h ih=>exact .iface t v ih
 | agg a h1 i1=>exact .agg a i1
 | tuple a h1 i1=>exact .tuple a i1
theorem Sc.toScoped {m:Nat} {v:Value} (h:Sc m v):Scoped m v:=by
 intro φ v' hr
 induction hr with
 | bool b=>exact .bool b
 | int k n=>exact .int k n
 | string s=>exact .string s
 | ptrNil=>exact .ptrNil
 | ptr id o s hs=>
  cases h with
  | ptr _ _ h=>exact .ptr id o s (by rw [below_get h];exact hs)
 | sliceNil=>exact .sliceNil
 | slice id o n c c' s hs hn hc he=>
  cases h with
  | slice _ _ _ _ h=>exact .slice id o n c c' s (by rw [below_get h];exact hs) hn hc he
 | sliceEnd id o x s hs=>
  cases h with
  | slice _ _ _ _ h=>exact .sliceEnd id o x s (by rw [below_get h];exact hs)
 | nilFunc=>exact .nilFunc
 | nilIface=>exact .nilIface
 | func f a b a' b' ha hb h1 h2 i1 i2=>
  cases h with
  | func _ _ _ k1 k2=>exact .func f a b a' b' ha hb (fun i h h'=>i1 i h h' (k1 i h)) (fun i h h'=>i2 i h h' (k2 i h))
 | yield id s hs=>
  cases h with
  | yield _ h=>exact .yield id s (by rw [below_get h];exact hs)
 | mapNil=>exact .mapNil
 | map id s hs=>
  cases h with
  | map _ h=>exact .map id s (by rw [below_get h];exact hs)
 | tab b hb=>exact .tab b hb
 | iface t v v' hr ih=>
  cases h with
  | iface _ _ h=>exact .iface t v v' (ih h)
 | agg a a' ha h1 i1=>
  cases h with
  | agg _ k1=>exact .agg a a' ha (fun i h h'=>i1 i h h' (k1 i h))
 | tuple a a' ha h1 i1=>
  cases h with
  | tuple _ k1=>exact .tuple a a' ha (fun i h h'=>i1 i h h' (k1 i h))
theorem Sc.flat1 {m:Nat} {v:Value} (h:flat1 v=true):Sc m v:=by
 unfold YtiinecnjokaejaaGreatDoor.flat1 at h
 split at h<;>first | constructor | cases h
def ScL (m:Nat) (l:List Value):Prop:=∀ v∈l,Sc m v
theorem ScL.flat {m:Nat} {l:List Value} (h:flatL l=true):ScL m l:=fun v hv=>Sc.flat1 (by simp [flatL] at h;exact h v hv)
theorem Sc.flatV {m:Nat} {v:Value} (h:flatV v=true):Sc m v:=by
 unfold YtiinecnjokaejaaGreatDoor.flatV at h
 split at h
 ·exact .agg _ fun i hi=>ScL.flat h _ (by simp)
 ·exact .tuple _ fun i hi=>ScL.flat h _ (by simp)
 ·exact Sc.flat1 h
theorem Sc.undef (m:Nat):Sc m undef:=.tuple _ fun i h=>by simp at h
theorem ScL.agg {m:Nat} {l:List Value} (h:ScL m l):Sc m (.agg l.toArray):=.agg _ fun i hi=>h _ (by simp)
theorem ScL.take {m:Nat} {l:List Value} (h:ScL m l) (n:Nat):ScL m (l.take n):=fun v hv=>h v (List.mem_of_mem_take hv)
theorem ScL.drop {m:Nat} {l:List Value} (h:ScL m l) (n:Nat):ScL m (l.drop n):=fun v hv=>h v (List.mem_of_mem_drop hv)
theorem ScL.append {m:Nat} {l r:List Value} (h:ScL m l) (k:ScL m r):ScL m (l++r):=fun v hv=>(List.mem_append.1 hv).elim (h v) (k v)
theorem ScL.splice {m:Nat} {l r:List Value} (h:ScL m l) (k:ScL m r) (o:Nat):ScL m (splice l o r):=fun v hv=>(splice_mem l o r hv).elim (h v) (k v)
theorem ScL.mono {m m':Nat} (hm:m≤m') {l:List Value} (h:ScL m l):ScL m' l:=fun v hv=>(h v hv).mono hm
theorem Sc.cells {m:Nat} {v:Value} (h:Sc m v):ScL m v.cells.toList:=by
 have h0:=h
 cases h with
 | agg a h1=>
  intro v hv
  obtain ⟨i,hi,rfl⟩:=List.getElem_of_mem hv
  have hi':i < a.size:=hi
  exact h1 i hi'
 | _=>intro v hv;simp [Value.cells] at hv;subst hv;exact h0
theorem Sc.aggL {m:Nat} {a:Array Value} (h:Sc m (.agg a)):ScL m a.toList:=h.cells
def ScO (m0:Nat):AObj→Prop
 | .loop env _ _=>ScL m0 env.toList
 | .map es _=>∀ e∈es,Sc m0 e.1∧Sc m0 e.2.1
 | .iter _ _=>True
 | .mapIter m _ _ _=>Sc m0 (.map m)
theorem ScO.mono {m m':Nat} (hm:m≤m') {o:AObj} (h:ScO m o):ScO m' o:=by
 cases o with
 | loop env L pe=>exact fun v hv=>(h v hv).mono hm
 | map es c=>exact fun e he=>⟨(h e he).1.mono hm,(h e he).2.mono hm⟩
 | iter s p=>trivial
 | mapIter m s l c=>exact Sc.mono hm h
structure WS (S:St):Prop where
 gone:∀ id,S.next≤id→S.get id=.gone
 cell:∀ id c t z mi an,S.get id=.cells c t z mi an→ScL S.next c
 obj:∀ id o,S.get id=.obj o→ScO S.next o
theorem WS.loop {S:St} (h:WS S) (id:Nat) (env:Array Value) (L:LoopC) (pe:Option Ex) (e:S.get id=.loop env L pe):ScL S.next env.toList:=h.obj id _ e
theorem WS.alive {S:St} (h:WS S) {id:Nat} (hg:S.get id≠.gone):id < S.next:=by
 rcases Nat.lt_or_ge id S.next with h1 | h1
 ·exact h1
 ·exact absurd (h.gone id h1) hg
def ScB (m:Nat):Blk→Prop
 | .gone=>True
 | .cells c _ _ _ _=>ScL m c
 | .obj o=>ScO m o
theorem ScB.mono {m m':Nat} (hm:m≤m') {b:Blk} (h:ScB m b):ScB m' b:=by
 cases b with
 | gone=>trivial
 | cells c t z mi an=>exact fun v hv=>(h v hv).mono hm
 | obj o=>exact ScO.mono hm h
theorem WS.blk {S:St} (h:WS S) (id:Nat):ScB S.next (S.get id):=by
 cases e:S.get id with
 | gone=>trivial
 | cells c t z mi an=>exact h.cell id c t z mi an e
 | obj o=>exact h.obj id o e
theorem WS.mk' {S:St} (h:∀ id,S.next≤id→S.get id=.gone) (k:∀ id,ScB S.next (S.get id)):WS S:=
 ⟨h,fun id c t z mi an e=>by have:=k id;rw [e] at this;exact this,fun id o e=>by have:=k id;rw [e] at this;exact this⟩
theorem WS.allocB {S:St} (h:WS S) {b:Blk} (hb:ScB S.next b):WS (S.alloc b):=by
 refine WS.mk' (fun id hi=>?_) fun id=>?_
 ·simp only [St.next_alloc] at hi
  rw [St.get_alloc,if_neg (by omega)];exact h.gone id (by omega)
 ·rw [St.get_alloc]
  split
  ·exact hb.mono (by simp)
  ·exact (h.blk id).mono (by simp)
theorem WS.putB {S:St} (h:WS S) {id:Nat} (hid:id < S.next) {b:Blk} (hb:ScB S.next b):WS (S.put id b):=by
 refine WS.mk' (fun j hi=>?_) fun j=>?_
 ·simp only [St.next_put] at hi
  rw [St.get_put,if_neg (by omega)];exact h.gone j hi
 ·rw [St.get_put]
  split
  ·exact hb
  ·exact h.blk j
theorem WS.alloc {S:St} (h:WS S) {c:List Value} (hc:ScL S.next c) (t:TypeId) (z:Nat) (m:Bool) (an:List Nat):WS (S.alloc (.cells c t z m an)):=h.allocB hc
theorem WS.put {S:St} (h:WS S) {id:Nat} (hid:id < S.next) {c:List Value} (hc:ScL S.next c) (t:TypeId) (z:Nat) (m:Bool) (an:List Nat):WS (S.put id (.cells c t z m an)):=h.putB hid hc
theorem WS.write {S:St} (h:WS S) {id:Nat} (hid:id < S.next) {c:List Value} (hc:ScL S.next c) (t:TypeId) (z:Nat) (an:List Nat):WS (S.write id c t z an):=by
 refine WS.mk' (fun j hi=>?_) fun j=>?_
 ·simp only [St.next_write] at hi
  rw [St.get_write,if_neg (by omega)]
  split
  ·rfl
  ·exact h.gone j hi
 ·rw [St.get_write]
  split
  ·simpa [ScB] using hc
  ·split
   ·trivial
   ·simpa using h.blk j
theorem WS.rd {S:St} (h:WS S) {id o n:Nat} {c:List Value} (e:S.rd id o n=some c):ScL S.next c:=by
 unfold St.rd at e
 split at e
 ·rename_i cc t z m an hg
  split at e
  ·obtain rfl:=Option.some.inj e
   exact ((h.cell id cc t z m an hg).drop o).take n
  ·cases e
 ·cases e
theorem WS.elems {S:St} (h:WS S) {esz:Nat} {v:Value} {c:List Value} (e:S.elems esz v=some c):ScL S.next c:=by
 unfold St.elems at e
 split at e
 ·obtain rfl:=Option.some.inj e;intro v hv;cases hv
 ·exact h.rd e
 ·cases e
theorem ScL.rep {m:Nat} {l:List Value} (h:ScL m l) (n:Nat):ScL m (rep n l):=by
 intro v hv
 simp only [YtiinecnjokaejaaGreatDoor.rep,List.mem_flatten,List.mem_replicate] at hv
 obtain ⟨l',⟨_,rfl⟩,hv⟩:=hv
 exact h v hv
theorem ScL.fill {m:Nat}:∀ (ps:List (Nat × Nat × Value)) (z l:List Value),ScL m z→(∀ p∈ps,Sc m p.2.2)→fillL z ps=some l→ScL m l:=by
 intro ps
 induction ps with
 | nil=>intro z l hz _ h;simp only [fillL,Option.some.injEq] at h;subst h;exact hz
 | cons p ps ih=>
  intro z l hz hp h
  obtain ⟨off,sz,v⟩:=p
  simp only [fillL] at h
  split at h
  ·exact ih _ _ (hz.splice (hp _ List.mem_cons_self).cells off) (fun q hq=>hp q (List.mem_cons_of_mem _ hq)) h
  ·cases h
theorem part1_sc {m:Nat} {agg:Bool} {l:List Value} {v:Value} (h:part1 agg l=some v) (hl:ScL m l):Sc m v:=by
 unfold part1 at h
 split at h
 ·obtain rfl:=Option.some.inj h;exact hl.agg
 ·obtain rfl:=one_inv h;exact hl v (by simp)
end Go.Proofs.YtiinecnjokaejaaGreatDoor

namespace Go.Proofs.YtiinecnjokaejaaGreatDoor
open Go Go.RowKit
def optOk:Option Operand→Bool
 | none=>true
 | some x=>okOpd x
def partsOk (l:List (Nat × Nat × Operand)):Bool:=l.all fun p=>okOpd p.2.2
def eOk:EOp→Bool
 | .lookup _ _ z _=>flatV z
 | .lookG z _=>flatV z
 | .mapEnt _ _ z=>flatV z
 | _=>true
def opdsOk:XOp→Bool
 | .mv x | .box _ x | .load _ _ x | .nilck x | .un _ x | .cvi _ x | .cvs x | .mkIface _ x | .fa _ x | .fld _ _ _ x | .ext x _ | .len x | .lenStr x=>okOpd x
 | .clr _ z x=>okOpd x && flatL z
 | .zero _ z=>flatL z.cells.toList
 | .pick c a b=>okOpd c && okOpd a && okOpd b
 | .store _ x y | .bin _ x y | .eqb _ x y | .eqf _ _ x y | .eqp _ x y | .eqs _ x y | .ia _ x y | .iaArr _ _ x y | .idx _ _ _ x y | .idxStr x y | .append _ _ _ x y | .copy _ x y=>okOpd x && okOpd y
 | .mkSlice _ _ _ z x y=>okOpd x && okOpd y && flatL z
 | .mkFunc _ a b=>a.all okOpd && b.all okOpd
 | .sl _ x l h | .slStr x l h=>okOpd x && optOk l && optOk h
 | .build z ps=>flatL z && partsOk ps
 | .buildSlice _ _ _ z ps=>flatL z && partsOk ps
 | .minmax _ x l=>okOpd x && l.all okOpd
 | .call _ args=>args.all okOpd
 | .callv x args=>okOpd x && args.all okOpd
 | .extra e l=>eOk e && l.all okOpd
theorem xbin_sc {m:Nat} {op:BinOp} {x y v:Value} (h:xbin op x y=some v):Sc m v:=by
 rcases xbin_inv h with ⟨k,yk,a,b,e1,e2,e3⟩ | ⟨a,b,e1,e2,e3⟩
 ·unfold xbinI at e3
  cases op<;>simp only at e3<;>(split at e3<;>first | (cases e3;done) | (obtain rfl:=Option.some.inj e3;constructor))
 ·unfold xbinS at e3
  cases op<;>simp only at e3<;>first
   | (cases e3;done)
   | (obtain rfl:=Option.some.inj e3;constructor)
   | (split at e3<;>first | (cases e3;done) | (obtain rfl:=Option.some.inj e3;constructor))
theorem xminmax_sc {m:Nat} (mx:Bool):∀ (l:List Value) (a:Int) (k:IntKind) (v:Value),xminmax mx a k l=some v→Sc m v:=by
 intro l
 induction l with
 | nil=>intro a k v h;obtain rfl:=Option.some.inj h;exact .int _ _
 | cons x l ih=>
  intro a k v h
  cases x with
  | int j b=>
   simp only [xminmax] at h
   split at h
   ·exact ih _ _ _ h
   ·cases h
  | _=>simp [xminmax] at h
theorem xappend_ws {S S':St} (hw:WS S) {e:TypeId} {esz bytes:Nat} {s x v:Value} (hs:Sc S.next s) (h:xappend e esz bytes s x S=some (v,S')):WS S'∧S.next≤S'.next∧Sc S'.next v:=by
 unfold xappend at h
 split at h
 case h_2=>cases h
 rename_i news m hel hvl
 have hn:=hw.elems hel
 split at h
 ·split at h
  ·obtain ⟨rfl,rfl⟩:=Prod.mk.inj (Option.some.inj h)
   exact ⟨hw,Nat.le_refl _,hs⟩
  ·cases h
 split at h
 case isFalse=>cases h
 split at h
 case h_3=>cases h
 case h_1=>
  split at h
  case isFalse=>cases h
  obtain ⟨rfl,rfl⟩:=Prod.mk.inj (Option.some.inj h)
  exact ⟨hw.alloc hn _ _ _ _,by simp,.slice _ _ _ _ (by simp)⟩
 case h_2=>
  rename_i id o n c
  split at h
  case h_2=>cases h
  rename_i cc t z an hget
  have hid:id < S.next:=hw.alive (by rw [hget];simp)
  have hcc:=hw.cell id cc t z true an hget
  split at h
  ·split at h
   case isFalse=>cases h
   obtain ⟨rfl,rfl⟩:=Prod.mk.inj (Option.some.inj h)
   refine ⟨?_,by simp [St.grow],.slice _ _ _ _ (by simp [St.grow])⟩
   exact (hw.put hid hcc t z false an).alloc (by simpa using (hcc.drop o).append hn) _ _ _ _
  ·split at h
   case isFalse=>cases h
   obtain ⟨rfl,rfl⟩:=Prod.mk.inj (Option.some.inj h)
   exact ⟨hw.write hid (hcc.splice hn _) _ _ _,by simp,.slice _ _ _ _ (by simpa using hid)⟩
theorem xcopy_ws {S S':St} (hw:WS S) {esz:Nat} {d x v:Value} (h:xcopy esz d x S=some (v,S')):WS S'∧S.next≤S'.next∧Sc S'.next v:=by
 unfold xcopy at h
 split at h
 case h_2=>cases h
 rename_i hel
 have hn:=hw.elems hel
 split at h
 ·obtain ⟨rfl,rfl⟩:=Prod.mk.inj (Option.some.inj h)
  exact ⟨hw,Nat.le_refl _,.int _ _⟩
 split at h
 case h_2=>cases h
 split at h
 case h_2=>cases h
 rename_i cc t z an hget
 have hid:=hw.alive (by rw [hget];simp)
 have hcc:=hw.cell _ cc t z true an hget
 split at h
 case isFalse=>cases h
 obtain ⟨rfl,rfl⟩:=Prod.mk.inj (Option.some.inj h)
 exact ⟨hw.write hid (hcc.splice (hn.take _) _) _ _ _,by simp,.int _ _⟩
theorem xclr_ws {S S':St} (hw:WS S) {esz:Nat} {z:List Value} (hzf:ScL S.next z) {x v:Value} (h:xclr esz z x S=some (v,S')):WS S'∧S.next≤S'.next∧Sc S'.next v:=by
 unfold xclr at h
 split at h
 ·obtain ⟨rfl,rfl⟩:=Prod.mk.inj (Option.some.inj h)
  exact ⟨hw,Nat.le_refl _,Sc.undef _⟩
 ·split at h
  ·obtain ⟨rfl,rfl⟩:=Prod.mk.inj (Option.some.inj h)
   exact ⟨hw,Nat.le_refl _,Sc.undef _⟩
  split at h
  case h_2=>cases h
  rename_i cc t zz an hget
  have hid:=hw.alive (by rw [hget];simp)
  have hcc:=hw.cell _ cc t zz true an hget
  split at h
  case isFalse=>cases h
  obtain ⟨rfl,rfl⟩:=Prod.mk.inj (Option.some.inj h)
  exact ⟨hw.write hid (hcc.splice (hzf.rep _) _) _ _ _,by simp,Sc.undef _⟩
 ·cases h
theorem parts_sc {m:Nat} {ps:List (Nat × Nat × Operand)} {ρ:Operand→Value} (h:partsOk ps=true) (hρ:∀ x,okOpd x=true→Sc m (ρ x)):∀ p∈ps.map (fun p=>(p.1,p.2.1,ρ p.2.2)),Sc m p.2.2:=by
 intro p hp
 simp only [List.mem_map] at hp
 obtain ⟨q,hq,rfl⟩:=hp
 simp only [partsOk,List.all_eq_true] at h
 exact hρ _ (h q hq)
theorem WS.map {S:St} (h:WS S) {id:Nat} {es:List (Value × Value × Nat)} {cl:Nat} (e:S.get id=.obj (.map es cl)):id < S.next∧∀ x∈es,Sc S.next x.1∧Sc S.next x.2.1:=⟨h.alive (by rw [e];simp),h.obj id _ e⟩
theorem Sc.pair {m:Nat} {a b:Value} (ha:Sc m a) (hb:Sc m b):Sc m (.tuple #[a,b]):=.tuple _ fun i hi=>by
 rcases i with _ | _ | i
 ·exact ha
 ·exact hb
 ·simp at hi;omega
theorem xfind_sc {m:Nat} {ks:List Nat} {agg:Bool} {c:List Value} {es:List (Value × Value × Nat)} (he:∀ x∈es,Sc m x.1∧Sc m x.2.1) {i:Nat} {v:Value} (h:xfind ks agg c es 0=some (some (i,v))):Sc m v:=by
 obtain ⟨_,h2,_,_,_,rfl⟩:=xfind_at h
 exact (he _ (List.getElem_mem _)).2
theorem lookRes_sc {m:Nat} {z:Value} (hz:flatV z=true) (ok:Bool) {r:Option (Nat × Value)} (hr:∀ i v,r=some (i,v)→Sc m v):Sc m (lookRes z ok r):=by
 have h0:Sc m ((r.map (·.2)).getD z):=by
  cases r with
  | none=>exact Sc.flatV hz
  | some p=>exact hr p.1 p.2 rfl
 unfold lookRes
 split
 ·exact .pair h0 (.bool _)
 ·exact h0
theorem modify_all {α:Type} {p:α→Prop} {l:List α} (h:∀ x∈l,p x) (i:Nat) {f:α→α} (hf:∀ x∈l,p (f x)):∀ x∈l.modify i f,p x:=by
 intro x hx
 obtain ⟨j,hj,rfl⟩:=List.getElem_of_mem hx
 rw [List.getElem_modify]
 split
 ·exact hf _ (List.getElem_mem _)
 ·exact h _ (List.getElem_mem _)
theorem xextra_ws {S S':St} (hw:WS S) {e:EOp} {l:List Value} (he:eOk e=true) (hl:ScL S.next l) {v:Value} (h:xextra e l S=some (v,S')):WS S'∧S.next≤S'.next∧Sc S'.next v:=by
 unfold xextra at h
 split at h
 ·
  obtain ⟨rfl,rfl⟩:=Prod.mk.inj (Option.some.inj h)
  exact ⟨hw.allocB (b:=.map [] 0) (fun e he=>by cases he),by simp,.map _ (by simp)⟩
 ·
  rename_i ks agg z ok x k
  have hz:flatV z=true:=he
  simp only [Option.bind_eq_some_iff] at h
  obtain ⟨c,hc,h⟩:=h
  split at h
  ·obtain ⟨rfl,rfl⟩:=Prod.mk.inj (Option.some.inj h)
   exact ⟨hw,Nat.le_refl _,lookRes_sc hz ok (fun i v e=>by cases e)⟩
  ·split at h
   case h_2=>cases h
   rename_i es cl hg
   simp only [Option.map_eq_some_iff,Prod.mk.injEq] at h
   obtain ⟨r,hr,rfl,rfl⟩:=h
   exact ⟨hw,Nat.le_refl _,lookRes_sc hz ok (fun i v e=>by subst e;exact xfind_sc (hw.map hg).2 hr)⟩
  ·cases h
 ·
  rename_i ks agg x k u
  have hk:Sc S.next k:=hl k (by simp)
  have hu:Sc S.next u:=hl u (by simp)
  simp only [Option.bind_eq_some_iff] at h
  obtain ⟨c,hc,h⟩:=h
  split at h
  case h_2=>cases h
  split at h
  case h_2=>cases h
  rename_i id es cl hg
  obtain ⟨h1,h2⟩:=hw.map hg
  simp only [Option.map_eq_some_iff] at h
  obtain ⟨r,hr,h⟩:=h
  split at h
  ·obtain ⟨rfl,rfl⟩:=Prod.mk.inj h
   refine ⟨hw.putB h1 (b:=.map _ cl) (modify_all h2 _ fun x hx=>⟨hk,hu⟩),by simp,Sc.undef _⟩
  ·obtain ⟨rfl,rfl⟩:=Prod.mk.inj h
   refine ⟨hw.putB h1 (b:=.map _ (cl+1)) (fun x hx=>?_),by simp,Sc.undef _⟩
   rcases List.mem_append.1 hx with hx | hx
   ·exact h2 x hx
   ·rw [List.mem_singleton.1 hx];exact ⟨hk,hu⟩
 ·
  rename_i ks agg z x k
  have hz:flatV z=true:=he
  have hk:Sc S.next k:=hl k (by simp)
  simp only [Option.bind_eq_some_iff] at h
  obtain ⟨c,hc,h⟩:=h
  split at h
  case h_2=>cases h
  split at h
  case h_2=>cases h
  rename_i id es cl hg
  obtain ⟨h1,h2⟩:=hw.map hg
  simp only [Option.map_eq_some_iff] at h
  obtain ⟨r,hr,h⟩:=h
  split at h
  ·obtain ⟨rfl,rfl⟩:=Prod.mk.inj h
   exact ⟨hw.putB h1 (b:=.map _ cl) (modify_all h2 _ fun x hx=>⟨hk,(h2 x hx).2⟩),by simp,.pair (by simpa using xfind_sc h2 hr) (.int _ _)⟩
  ·obtain ⟨rfl,rfl⟩:=Prod.mk.inj h
   refine ⟨hw.putB h1 (b:=.map _ (cl+1)) (fun x hx=>?_),by simp,.pair (Sc.flatV hz) (.int _ _)⟩
   rcases List.mem_append.1 hx with hx | hx
   ·exact h2 x hx
   ·rw [List.mem_singleton.1 hx];exact ⟨hk,Sc.flatV hz⟩
 ·
  rename_i id b u
  have hu:Sc S.next u:=hl u (by simp)
  split at h
  case h_2=>cases h
  rename_i es cl hg
  obtain ⟨h1,h2⟩:=hw.map hg
  split at h
  case h_2=>cases h
  obtain ⟨rfl,rfl⟩:=Prod.mk.inj (Option.some.inj h)
  exact ⟨hw.putB h1 (b:=.map _ cl) (modify_all h2 _ fun x hx=>⟨(h2 x hx).1,hu⟩),by simp,Sc.undef _⟩
 ·
  rename_i ks agg x k
  simp only [Option.bind_eq_some_iff] at h
  obtain ⟨c,hc,h⟩:=h
  split at h
  ·obtain ⟨rfl,rfl⟩:=Prod.mk.inj (Option.some.inj h)
   exact ⟨hw,Nat.le_refl _,Sc.undef _⟩
  ·split at h
   case h_2=>cases h
   rename_i id es cl hg
   obtain ⟨h1,h2⟩:=hw.map hg
   simp only [Option.map_eq_some_iff] at h
   obtain ⟨r,hr,h⟩:=h
   split at h
   ·obtain ⟨rfl,rfl⟩:=Prod.mk.inj h
    exact ⟨hw.putB h1 (b:=.map _ cl) (fun x hx=>h2 x (List.mem_of_mem_eraseIdx hx)),by simp,Sc.undef _⟩
   ·obtain ⟨rfl,rfl⟩:=Prod.mk.inj h
    exact ⟨hw.putB h1 (b:=.map es cl) h2,by simp,Sc.undef _⟩
  ·cases h
 ·obtain ⟨rfl,rfl⟩:=Prod.mk.inj (Option.some.inj h)
  exact ⟨hw,Nat.le_refl _,.int _ _⟩
 ·split at h
  case h_2=>cases h
  obtain ⟨rfl,rfl⟩:=Prod.mk.inj (Option.some.inj h)
  exact ⟨hw,Nat.le_refl _,.int _ _⟩
 ·obtain ⟨rfl,rfl⟩:=Prod.mk.inj (Option.some.inj h)
  exact ⟨hw.allocB (b:=.iter _ 0) trivial,by simp,.ptr _ _ (by simp)⟩
 ·split at h
  case h_2=>cases h
  rename_i s p hg
  have h1:=hw.alive (show S.get _≠.gone by rw [hg];simp)
  split at h
  ·obtain ⟨rfl,rfl⟩:=Prod.mk.inj (Option.some.inj h)
   refine ⟨hw.putB h1 (b:=.iter _ _) trivial,by simp,.tuple _ fun i hi=>?_⟩
   rcases i with _ | _ | _ | i
   ·exact .bool _
   ·exact .int _ _
   ·exact .int _ _
   ·simp at hi;omega
  ·obtain ⟨rfl,rfl⟩:=Prod.mk.inj (Option.some.inj h)
   refine ⟨hw,Nat.le_refl _,.tuple _ fun i hi=>?_⟩
   rcases i with _ | i
   ·exact .bool _
   ·simp at hi
 ·obtain ⟨rfl,rfl⟩:=Prod.mk.inj (Option.some.inj h)
  exact ⟨hw.allocB (b:=.mapIter none 0 [] 0) (Sc.mapNil),by simp,.ptr _ _ (by simp)⟩
 ·split at h
  case h_2=>cases h
  rename_i hg
  obtain ⟨rfl,rfl⟩:=Prod.mk.inj (Option.some.inj h)
  exact ⟨hw.allocB (b:=.mapIter _ _ [] _) (Sc.map _ (hw.map hg).1),by simp,.ptr _ _ (by simp)⟩
 ·split at h
  case h_2=>cases h
  rename_i m since seen last hg
  split at h
  case h_2=>cases h
  rename_i es cl hg2
  split at h
  case isFalse=>cases h
  simp only [Option.bind_eq_some_iff,Option.map_eq_some_iff] at h
  obtain ⟨s,hs,e,he,h⟩:=h
  obtain ⟨rfl,rfl⟩:=Prod.mk.inj h
  have h2:=(hw.map hg2).2 e (List.mem_of_find?_eq_some he)
  exact ⟨hw,Nat.le_refl _,.pair h2.1 h2.2⟩
 ·obtain ⟨rfl,rfl⟩:=Prod.mk.inj (Option.some.inj h)
  exact ⟨hw,Nat.le_refl _,.int _ _⟩
 ·simp only [Option.map_eq_some_iff,Prod.mk.injEq] at h
  obtain ⟨b,_,rfl,rfl⟩:=h
  exact ⟨hw,Nat.le_refl _,.bool _⟩
 ·split at h
  ·obtain ⟨rfl,rfl⟩:=Prod.mk.inj (Option.some.inj h)
   exact ⟨hw,Nat.le_refl _,.tab⟩
  ·cases h
 ·have hz:flatV _=true:=he
  split at h
  ·obtain ⟨rfl,rfl⟩:=Prod.mk.inj (Option.some.inj h)
   refine ⟨hw,Nat.le_refl _,lookRes_sc hz _ (fun i v e=>?_)⟩
   simp only [Option.map_eq_some_iff,Prod.mk.injEq] at e
   obtain ⟨f,_,_,rfl⟩:=e
   exact .func _ _ _ (fun i h=>by simp at h) (fun i h=>by simp at h)
  ·cases h
 ·have no:WS S∧S.next≤S.next∧Sc S.next (.tuple #[.bool false]):=⟨hw,Nat.le_refl _,.tuple _ fun i hi=>by
   rcases i with _ | i
   ·exact .bool _
   ·simp at hi⟩
  split at h
  ·obtain ⟨rfl,rfl⟩:=Prod.mk.inj (Option.some.inj h)
   exact no
  ·split at h
   case h_2=>cases h
   split at h
   case isFalse=>cases h
   obtain ⟨rfl,rfl⟩:=Prod.mk.inj (Option.some.inj h)
   exact no
  ·cases h
 ·cases h
theorem xop_ws {S S':St} (hw:WS S) {o:XOp} {ρ:Operand→Value} (hok:opdsOk o=true) (hρ:∀ x,okOpd x=true→Sc S.next (ρ x)) {v:Value} (h:xop o ρ S=some (v,S')):WS S'∧S.next≤S'.next∧Sc S'.next v:=by
 have same:∀ {u:Value},Sc S.next u→(u,S)=(v,S')→WS S'∧S.next≤S'.next∧Sc S'.next v:=fun hu e=>by
  obtain ⟨rfl,rfl⟩:=Prod.mk.inj e
  exact ⟨hw,Nat.le_refl _,hu⟩
 cases o<;>simp only [opdsOk,Bool.and_eq_true] at hok<;>simp only [xop] at h
 case extra e l=>
  refine xextra_ws hw hok.1 (fun u hu=>?_) h
  obtain ⟨x,hx,rfl⟩:=List.mem_map.1 hu
  exact hρ x (List.all_eq_true.1 hok.2 x hx)
 case mv x=>exact same (hρ x hok) (Option.some.inj h)
 case pick c a b=>
  split at h
  ·rename_i q _
   exact same (by cases q<;>simp [hρ _ hok.2,hρ _ hok.1.2]) (Option.some.inj h)
  ·cases h
 case box t x=>
  split at h
  ·obtain ⟨rfl,rfl⟩:=Prod.mk.inj (Option.some.inj h)
   exact ⟨hw.alloc (hρ x hok).cells _ _ _ _,by simp,.ptr _ _ (by simp)⟩
  ·cases h
 case zero t z=>
  obtain ⟨rfl,rfl⟩:=Prod.mk.inj (Option.some.inj h)
  exact ⟨hw.alloc (ScL.flat hok) _ _ _ _,by simp,.ptr _ _ (by simp)⟩
 case load agg sz x=>
  split at h
  ·simp only [Option.bind_eq_some_iff,Option.map_eq_some_iff] at h
   obtain ⟨c,hc,v0,hv,e⟩:=h
   exact same (part1_sc hv (hw.rd hc)) e
  ·cases h
 case store sz a x=>
  split at h
  ·split at h
   ·rename_i c t z an hget
    split at h
    ·obtain ⟨rfl,rfl⟩:=Prod.mk.inj (Option.some.inj h)
     exact ⟨hw.write (hw.alive (by rw [hget];simp)) ((hw.cell _ c t z true an hget).splice (hρ x hok.2).cells _) _ _ _,by simp,Sc.undef _⟩
    ·cases h
   ·cases h
  ·cases h
 case nilck x=>
  have hx:=hρ x hok
  split at h
  ·rename_i e;rw [e] at hx;exact same hx (Option.some.inj h)
  ·rename_i e;rw [e] at hx;exact same hx (Option.some.inj h)
  ·rename_i e;rw [e] at hx;exact same hx (Option.some.inj h)
  ·cases h
 case bin op x y=>
  simp only [Option.map_eq_some_iff] at h
  obtain ⟨v0,h,e⟩:=h
  exact same (xbin_sc h) e
 case eqb neg x y=>
  split at h
  ·exact same (.bool _) (Option.some.inj h)
  ·cases h
 case eqf ks neg x y=>
  split at h
  ·simp only [Option.map_eq_some_iff] at h
   obtain ⟨v0,h,e⟩:=h
   exact same (.bool _) e
  ·cases h
 case eqp neg x y=>
  split at h
  ·exact same (.bool _) (Option.some.inj h)
  ·cases h
 case eqs neg x y=>
  split at h
  ·exact same (.bool _) (Option.some.inj h)
  ·cases h
 case un op x=>
  split at h
  ·exact same (.int _ _) (Option.some.inj h)
  ·exact same (.bool _) (Option.some.inj h)
  ·cases h
 case cvi k x=>
  split at h
  ·exact same (.int _ _) (Option.some.inj h)
  ·cases h
 case cvs x=>
  split at h
  ·exact same (.string _) (Option.some.inj h)
  ·cases h
 case mkIface t x=>exact same (.iface t _ (hρ x hok)) (Option.some.inj h)
 case mkFunc f a b=>
  refine same (.func f _ _ (fun i hi=>?_) (fun i hi=>?_)) (Option.some.inj h)
  ·have h1:=Array.all_eq_true.1 hok.1 i (by simpa using hi)
   simpa using hρ _ h1
  ·have h1:=Array.all_eq_true.1 hok.2 i (by simpa using hi)
   simpa using hρ _ h1
 case mkSlice e esz bytes z l c=>
  split at h
  ·split at h
   ·obtain ⟨rfl,rfl⟩:=Prod.mk.inj (Option.some.inj h)
    exact ⟨hw.alloc ((ScL.flat hok.2).rep _) _ _ _ _,by simp,.slice _ _ _ _ (by simp)⟩
   ·cases h
  ·cases h
 case sl esz x lo hi=>
  have hx:=hρ x hok.1.1
  split at h
  ·rename_i a n c e
   rw [e] at hx
   split at h
   ·split at h
    ·unfold slRes at h
     split at h
     ·split at h
      ·exact same (.sliceNil _ _) (Option.some.inj h)
      ·cases h
     ·split at h
      ·cases hx with
       | slice _ _ _ _ hid=>exact same (.slice _ _ _ _ hid) (Option.some.inj h)
      ·cases h
     ·cases h
    ·cases h
   ·cases h
  ·cases h
 case slStr x lo hi=>
  split at h
  ·split at h
   ·split at h
    ·exact same (.string _) (Option.some.inj h)
    ·cases h
   ·cases h
  ·cases h
 case fa off x=>
  have hx:=hρ x hok
  split at h
  ·rename_i e
   rw [e] at hx
   cases hx with
   | ptr _ _ hid=>exact same (.ptr _ _ hid) (Option.some.inj h)
  ·cases h
 case fld agg sz off x=>
  have hx:=hρ x hok
  split at h
  ·rename_i e
   rw [e] at hx
   split at h
   ·simp only [Option.map_eq_some_iff] at h
    obtain ⟨v0,hv,e2⟩:=h
    exact same (part1_sc hv ((hx.aggL.drop _).take _)) e2
   ·cases h
  ·cases h
 case ia esz x i=>
  have hx:=hρ x hok.1
  split at h
  ·rename_i e _
   rw [e] at hx
   split at h
   ·cases hx with
    | slice _ _ _ _ hid=>exact same (.ptr _ _ hid) (Option.some.inj h)
   ·cases h
  ·cases h
 case iaArr n esz x i=>
  have hx:=hρ x hok.1
  split at h
  ·rename_i e _
   rw [e] at hx
   split at h
   ·cases hx with
    | ptr _ _ hid=>exact same (.ptr _ _ hid) (Option.some.inj h)
   ·cases h
  ·cases h
 case idx n agg esz x i=>
  have hx:=hρ x hok.1
  split at h
  ·rename_i e _
   rw [e] at hx
   split at h
   ·simp only [Option.map_eq_some_iff] at h
    obtain ⟨v0,hv,e2⟩:=h
    exact same (part1_sc hv ((hx.aggL.drop _).take _)) e2
   ·cases h
  ·cases h
 case idxStr x i=>
  split at h
  ·split at h
   ·simp only [Option.map_eq_some_iff] at h
    obtain ⟨v0,hv,e2⟩:=h
    exact same (.int _ _) e2
   ·cases h
  ·cases h
 case ext x i=>
  have hx:=hρ x hok
  split at h
  ·rename_i a e
   rw [e] at hx
   simp only [Option.map_eq_some_iff] at h
   obtain ⟨v0,hv,e2⟩:=h
   cases hx with
   | tuple _ k=>
    obtain ⟨hi,rfl⟩:=Array.getElem?_eq_some_iff.1 hv
    exact same (k i hi) e2
  ·cases h
 case build z ps=>
  simp only [Option.map_eq_some_iff] at h
  obtain ⟨l,hl,e⟩:=h
  exact same (ScL.fill _ _ _ (ScL.flat hok.1) (parts_sc hok.2 hρ) hl).agg e
 case buildSlice e esz n z ps=>
  split at h
  ·simp only [Option.bind_eq_some_iff] at h
   obtain ⟨l,hl,h⟩:=h
   split at h
   ·obtain ⟨rfl,rfl⟩:=Prod.mk.inj (Option.some.inj h)
    exact ⟨hw.alloc (ScL.fill _ _ _ ((ScL.flat hok.1).rep n) (parts_sc hok.2 hρ) hl) _ _ _ _,by simp,.slice _ _ _ _ (by simp)⟩
   ·cases h
  ·cases h
 case len x=>
  split at h
  ·exact same (.int _ _) (Option.some.inj h)
  ·cases h
 case lenStr x=>
  split at h
  ·exact same (.int _ _) (Option.some.inj h)
  ·cases h
 case append e esz bytes s x=>exact xappend_ws hw (hρ s hok.1) h
 case copy esz d s=>exact xcopy_ws hw h
 case clr esz z x=>exact xclr_ws hw (ScL.flat hok.2) h
 case minmax mx x l=>
  split at h
  ·simp only [Option.map_eq_some_iff] at h
   obtain ⟨v0,hv,e⟩:=h
   exact same (xminmax_sc mx _ _ _ _ hv) e
  ·cases h
 case call f args=>cases h
 case callv x args=>cases h
end Go.Proofs.YtiinecnjokaejaaGreatDoor

namespace Go.Proofs.YtiinecnjokaejaaGreatDoor
open Go Go.RowKit
def wfO (n:Nat) (l:List XOper):Bool:=l.all fun o=>opdsOk o.op && match o.dst with | some t=>decide (t < n) | none=>true
def wfC (n:Nat):XCode→Bool
 | .region ops=>wfO n ops
 | .draw d=>wfO n d.ops && d.flags == flagsOf d.ops d.stages
 | .seq a b=>wfC n a && wfC n b
 | .cond _ a b=>wfC n a && wfC n b
 | .block _ c=>wfC n c
 | .loop c=>wfC n c
 | .range x L=>okOpd x && L.n == n
 | _=>true
def XF0 (P:Program) (f:FuncId):Option XFunc:=(P.funcs[f]?).bind fun fn=>(trFunc P (trDraw P) fn).bind fun xf=>if wfC xf.ntmps xf.body then some xf else none
def skipNames:List String:=seatSkips++["simproof/simproofref08.Build", "slices.SortedFunc[simproof/api.Question]", "slices.Sorted[int]", "maps.Equal[map[simproof/api.Question]int,map[simproof/api.Question]int,simproof/api.Question,int]"]
def XF (P:Program) (f:FuncId):Option XFunc:=(P.funcs[f]?).bind fun fn=>if skipNames.contains fn.name then none else XF0 P f
@[noinline] def findLoop (id N:Nat):Code→Option LoopC
 | .seq a b=>match findLoop id N a with
  | some L=>some L
  | none=>findLoop id N b
 | .cond _ a b=>match findLoop id N a with
  | some L=>some L
  | none=>findLoop id N b
 | .block _ c=>findLoop id N c
 | .loop c=>findLoop id N c
 | .scope c=>findLoop id N c
 | .rangeFunc _ ps as b=>match b with
  | .block i c=>if i == id then some ⟨ps,as,.block i c,N⟩ else findLoop id N c
  | _=>none
 | _=>none
@[noinline] def loopIn (P:Program) (f id:Nat):LoopC:=((P.funcs[f]?).bind fun fn=>fn.body.bind (findLoop id fn.ntmps)).getD ⟨#[],.skip,.skip,0⟩
def XL (P:Program) (L:LoopC):Option (XCode × XCode):=(trLoop P (trDraw P) L).bind fun x=>if wfC L.n x.1 && wfC L.n x.2 && L.ps.toList.all (fun t=>decide (t < L.n)) then some x else none
theorem XL_wf {P:Program} {L:LoopC} {x:XCode × XCode} (h:XL P L=some x):trLoop P (trDraw P) L=some x∧wfC L.n x.1=true∧wfC L.n x.2=true∧∀ t∈L.ps.toList,t < L.n:=by
 unfold XL at h
 simp only [Option.bind_eq_some_iff] at h
 obtain ⟨y,h1,h2⟩:=h
 split at h2
 ·rename_i hc
  obtain rfl:=Option.some.inj h2
  simp only [Bool.and_eq_true,List.all_eq_true,decide_eq_true_eq] at hc
  exact ⟨h1,hc.1.1,hc.1.2,hc.2⟩
 ·cases h2
def SE (m:Nat) (env:Env):Prop:=∀ t,Sc m (toF env t)
theorem SE.ev {m:Nat} {env:Env} (h:SE m env):∀ x,okOpd x=true→Sc m (env.ev x):=by
 intro x hx
 cases x with
 | tmp t=>exact h t
 | const v=>exact Sc.flatV hx
 | func f=>exact .func f _ _ (fun i h=>by simp at h) (fun i h=>by simp at h)
 | global g=>cases hx
theorem SE.mono {m m':Nat} (hm:m≤m') {env:Env} (h:SE m env):SE m' env:=fun t=>(h t).mono hm
theorem SE.put {m:Nat} {env:Env} (h:SE m env) (d:Option Tmp) {v:Value} (hv:Sc m v):SE m (env.put d v):=by
 cases d with
 | none=>exact h
 | some d=>
  intro t
  simp only [toF,Env.put]
  rw [Array.getD_eq_getD_getElem?,Array.getElem?_setIfInBounds]
  split
  ·split
   ·exact hv
   ·exact Sc.undef m
  ·have:=h t
   simpa [toF,Array.getD_eq_getD_getElem?] using this
theorem put_size (env:Env) (d:Option Tmp) (v:Value):(env.put d v).size=env.size:=by cases d<;>simp [Env.put]
def CallerWS (cl:Caller):Prop:=∀ f args S v S',cl f args S=some (v,S')→WS S→ScL S.next args.toList→WS S'∧S.next≤S'.next∧Sc S'.next v
theorem args_sc {m:Nat} {ρ:Operand→Value} (hρ:∀ x,okOpd x=true→Sc m (ρ x)) {args:Array Operand} (h:args.all okOpd=true):ScL m (args.map ρ).toList:=by
 intro v hv
 simp only [Array.toList_map,List.mem_map,Array.mem_toList_iff] at hv
 obtain ⟨x,hx,rfl⟩:=hv
 obtain ⟨i,hi,rfl⟩:=Array.getElem_of_mem hx
 exact hρ _ (Array.all_eq_true.1 h i hi)
theorem func_sc {m:Nat} {f:Go.Fn} {a b:Array Value} (h:Sc m (.func f a b)):ScL m a.toList∧ScL m b.toList:=by
 cases h with
 | yield _ _=>exact ⟨fun v hv=>by simp at hv,fun v hv=>by simp at hv⟩
 | func _ _ _ h1 h2=>
  constructor
  ·intro v hv;obtain ⟨i,hi,rfl⟩:=List.getElem_of_mem hv;exact h1 i hi
  ·intro v hv;obtain ⟨i,hi,rfl⟩:=List.getElem_of_mem hv;exact h2 i hi
theorem xstep_ws {cl:Caller} (hcl:CallerWS cl) {S S':St} (hw:WS S) {o:XOp} {ρ:Operand→Value} (hok:opdsOk o=true) (hρ:∀ x,okOpd x=true→Sc S.next (ρ x)) {v:Value} (h:xstep cl o ρ S=some (v,S')):WS S'∧S.next≤S'.next∧Sc S'.next v:=by
 unfold xstep at h
 split at h
 ·exact hcl _ _ _ _ _ h hw (args_sc hρ hok)
 ·rename_i x args
  simp only [opdsOk,Bool.and_eq_true] at hok
  split at h
  ·rename_i f a b e
   have hx:=hρ x hok.1
   rw [e] at hx
   obtain ⟨h1,h2⟩:=func_sc hx
   refine hcl _ _ _ _ _ h hw ?_
   rw [Array.toList_append,Array.toList_append]
   exact (h1.append (args_sc hρ hok.2)).append h2
  ·cases h
 ·exact xop_ws hw hok hρ h
theorem wfO_cons {n:Nat} {o:XOper} {l:List XOper} (h:wfO n (o::l)=true):opdsOk o.op=true∧(∀ t,o.dst=some t→t < n)∧wfO n l=true:=by
 simp only [wfO,List.all_cons,Bool.and_eq_true] at h
 refine ⟨h.1.1,fun t e=>?_,h.2⟩
 have:=h.1.2
 rw [e] at this
 simpa using this
theorem xops_ws {cl:Caller} (hcl:CallerWS cl) {n:Nat}:∀ (l:List XOper),wfO n l=true→∀ (env:Env) (S:St) (env':Env) (S':St),WS S→SE S.next env→xops cl l env S=some (env',S')→WS S'∧S.next≤S'.next∧SE S'.next env'∧env'.size=env.size:=by
 intro l
 induction l with
 | nil=>
  intro _ env S env' S' hw hs h
  obtain ⟨rfl,rfl⟩:=Prod.mk.inj (Option.some.inj h)
  exact ⟨hw,Nat.le_refl _,hs,rfl⟩
 | cons o l ih=>
  intro hwf env S env' S' hw hs h
  obtain ⟨h1,h2,h3⟩:=wfO_cons hwf
  simp only [xops] at h
  split at h
  ·simp only [Option.bind_eq_some_iff] at h
   obtain ⟨⟨v,S1⟩,h4,h5⟩:=h
   obtain ⟨k1,k2,k3⟩:=xstep_ws hcl hw h1 hs.ev h4
   obtain ⟨q1,q2,q3,q4⟩:=ih h3 _ _ _ _ k1 ((hs.mono k2).put _ k3) h5
   exact ⟨q1,Nat.le_trans k2 q2,q3,q4.trans (put_size _ _ _)⟩
  ·obtain ⟨q1,q2,q3,q4⟩:=ih h3 _ _ _ _ hw (hs.put _ (Sc.undef _)) h
   exact ⟨q1,q2,q3,q4.trans (put_size _ _ _)⟩
theorem xrun_ws {cl:Caller} (hcl:CallerWS cl) {n:Nat}:∀ (l:List XOper),wfO n l=true→∀ (env:Env) (S:St) (R:List Rec) (env':Env) (S':St),WS S→SE S.next env→xrun cl l env S=some (R,env',S')→
  WS S'∧S.next≤S'.next∧SE S'.next env'∧env'.size=env.size∧(∀ (i:Nat) (r:Rec),R[i]? = some r→WS r.S∧SE r.S.next r.env):=by
 intro l
 induction l with
 | nil=>
  intro _ env S R env' S' hw hs h
  simp only [xrun,Option.some.injEq,Prod.mk.injEq] at h
  obtain ⟨rfl,rfl,rfl⟩:=h
  exact ⟨hw,Nat.le_refl _,hs,rfl,fun i r e=>by simp at e⟩
 | cons o l ih=>
  intro hwf env S R env' S' hw hs h
  obtain ⟨h1,h2,h3⟩:=wfO_cons hwf
  simp only [xrun] at h
  split at h
  ·simp only [Option.bind_eq_some_iff,Option.map_eq_some_iff] at h
   obtain ⟨⟨v,S1⟩,h4,⟨R1,e1,s1⟩,h5,h6⟩:=h
   simp only [Prod.mk.injEq] at h6
   obtain ⟨rfl,rfl,rfl⟩:=h6
   obtain ⟨k1,k2,k3⟩:=xstep_ws hcl hw h1 hs.ev h4
   obtain ⟨q1,q2,q3,q4,q5⟩:=ih h3 _ _ _ _ _ k1 ((hs.mono k2).put _ k3) h5
   refine ⟨q1,Nat.le_trans k2 q2,q3,q4.trans (put_size _ _ _),fun i r e=>?_⟩
   cases i with
   | zero=>simp at e;subst e;exact ⟨hw,hs⟩
   | succ i=>exact q5 i r (by simpa using e)
  ·simp only [Option.map_eq_some_iff] at h
   obtain ⟨⟨R1,e1,s1⟩,h5,h6⟩:=h
   simp only [Prod.mk.injEq] at h6
   obtain ⟨rfl,rfl,rfl⟩:=h6
   obtain ⟨q1,q2,q3,q4,q5⟩:=ih h3 _ _ _ _ _ hw (hs.put _ (Sc.undef _)) h5
   refine ⟨q1,q2,q3,q4.trans (put_size _ _ _),fun i r e=>?_⟩
   cases i with
   | zero=>simp at e;subst e;exact ⟨hw,hs⟩
   | succ i=>exact q5 i r (by simpa using e)
theorem xcode_range {cl:Caller} {n:Nat} {x:Operand} {L:LoopC} {env:Env} {S:St} {r:Ex × Env × St} (h:xcode xdraw cl n (.range x L) env S=some r) :
  ∃ g a b v S2 env2 L2 pe,env.ev x=.func (.func g) a b∧cl (.func g) (a++#[.func (.yield S.next) #[] #[]]++b) (S.alloc (.loop env L none))=some (v,S2)∧S2.get S.next=.loop env2 L2 pe∧r=(pe.getD .normal,env,S2.put S.next .gone):=by
 simp only [xcode] at h
 split at h
 case h_2=>cases h
 rename_i g a b e
 simp only [Option.bind_eq_some_iff] at h
 obtain ⟨⟨v,S2⟩,h1,h2⟩:=h
 simp only at h2
 split at h2
 ·rename_i e3
  exact ⟨g,a,b,v,S2,_,_,_,e,h1,e3,(Option.some.inj h2).symm⟩
 ·rename_i e3
  exact ⟨g,a,b,v,S2,_,_,_,e,h1,e3,(Option.some.inj h2).symm⟩
 ·cases h2
theorem SE.toL {m:Nat} {env:Env} (h:SE m env):ScL m env.toList:=by
 intro v hv
 obtain ⟨i,hi,rfl⟩:=List.getElem_of_mem hv
 have hi':i < env.size:=by simpa using hi
 have:=h i
 simpa [toF,Array.getD_eq_getD_getElem?,hi'] using this
theorem SE.of {m:Nat} {env:Env} (h:ScL m env.toList):SE m env:=by
 intro t
 simp only [toF]
 rw [Array.getD_eq_getD_getElem?]
 cases e:env[t]? with
 | none=>exact Sc.undef m
 | some v=>exact h v (by simpa using Array.mem_of_getElem? e)
theorem xcode_ws {cl:Caller} (hcl:CallerWS cl) {m n:Nat}:∀ (c:XCode),wfC m c=true→∀ (env:Env) (S:St) (r:Ex × Env × St),WS S→SE S.next env→xcode xdraw cl n c env S=some r→WS r.2.2∧S.next≤r.2.2.next∧SE r.2.2.next r.2.1∧r.2.1.size=env.size:=by
 intro c
 induction c with
 | skip=>intro _ env S r hw hs h;obtain rfl:=Option.some.inj h;exact ⟨hw,Nat.le_refl _,hs,rfl⟩
 | exit id=>intro _ env S r hw hs h;obtain rfl:=Option.some.inj h;exact ⟨hw,Nat.le_refl _,hs,rfl⟩
 | ret=>intro _ env S r hw hs h;obtain rfl:=Option.some.inj h;exact ⟨hw,Nat.le_refl _,hs,rfl⟩
 | region ops=>
  intro hwf env S r hw hs h
  simp only [xcode,Option.map_eq_some_iff] at h
  obtain ⟨⟨env',S'⟩,h1,rfl⟩:=h
  exact xops_ws hcl ops hwf env S env' S' hw hs h1
 | draw d=>
  intro hwf env S r hw hs h
  simp only [xcode,Option.map_eq_some_iff] at h
  obtain ⟨⟨env',S'⟩,h1,rfl⟩:=h
  unfold xdraw at h1
  simp only [Option.bind_eq_some_iff] at h1
  obtain ⟨⟨R,e1,s1⟩,h2,h3⟩:=h1
  simp only [wfC,Bool.and_eq_true] at hwf
  split at h3
  ·obtain ⟨rfl,rfl⟩:=Prod.mk.inj (Option.some.inj h3)
   obtain ⟨q1,q2,q3,q4,_⟩:=xrun_ws hcl d.ops hwf.1 env S R _ _ hw hs h2
   exact ⟨q1,q2,q3,q4⟩
  ·cases h3
 | seq a b iha ihb=>
  intro hwf env S r hw hs h
  simp only [wfC,Bool.and_eq_true] at hwf
  simp only [xcode,Option.bind_eq_some_iff] at h
  obtain ⟨⟨e,env1,S1⟩,h1,h2⟩:=h
  obtain ⟨q1,q2,q3,q4⟩:=iha hwf.1 env S _ hw hs h1
  cases e with
  | normal=>
   obtain ⟨p1,p2,p3,p4⟩:=ihb hwf.2 env1 S1 r q1 q3 h2
   exact ⟨p1,Nat.le_trans q2 p2,p3,p4.trans q4⟩
  | exit id=>obtain rfl:=Option.some.inj h2;exact ⟨q1,q2,q3,q4⟩
  | ret=>obtain rfl:=Option.some.inj h2;exact ⟨q1,q2,q3,q4⟩
 | cond c x y ihx ihy=>
  intro hwf env S r hw hs h
  simp only [wfC,Bool.and_eq_true] at hwf
  simp only [xcode] at h
  split at h
  ·exact ihx hwf.1 env S r hw hs h
  ·exact ihy hwf.2 env S r hw hs h
  ·cases h
 | block id c ih=>
  intro hwf env S r hw hs h
  simp only [xcode,Option.map_eq_some_iff] at h
  obtain ⟨⟨e,env1,S1⟩,h1,rfl⟩:=h
  have:=ih hwf env S _ hw hs h1
  cases e with
  | exit id'=>simp only;split<;>exact this
  | normal=>exact this
  | ret=>exact this
 | loop c ih=>
  intro hwf env S r hw hs h
  simp only [xcode] at h
  have key:∀ (k:Nat) (env:Env) (S:St) (r:Ex × Env × St),WS S→SE S.next env→xloop (xcode xdraw cl n c) k env S=some r→WS r.2.2∧S.next≤r.2.2.next∧SE r.2.2.next r.2.1∧r.2.1.size=env.size:=by
   intro k
   induction k with
   | zero=>intro env S r _ _ h;cases h
   | succ k ihk=>
    intro env S r hw hs h
    simp only [xloop,Option.bind_eq_some_iff] at h
    obtain ⟨⟨e,env1,S1⟩,h1,h2⟩:=h
    obtain ⟨q1,q2,q3,q4⟩:=ih hwf env S _ hw hs h1
    cases e with
    | normal=>
     obtain ⟨p1,p2,p3,p4⟩:=ihk env1 S1 r q1 q3 h2
     exact ⟨p1,Nat.le_trans q2 p2,p3,p4.trans q4⟩
    | exit id=>obtain rfl:=Option.some.inj h2;exact ⟨q1,q2,q3,q4⟩
    | ret=>obtain rfl:=Option.some.inj h2;exact ⟨q1,q2,q3,q4⟩
  exact key n env S r hw hs h
 | range x L=>
  intro hwf env S r hw hs h
  simp only [wfC,Bool.and_eq_true] at hwf
  obtain ⟨g,a,b,v,S2,env2,L2,pe,e,h1,h2,rfl⟩:=xcode_range h
  have hx:=hs.ev x hwf.1
  rw [e] at hx
  obtain ⟨k1,k2⟩:=func_sc hx
  have hm:ScL (S.alloc (.loop env L none)).next (a++#[Value.func (.yield S.next) #[] #[]]++b).toList:=by
   rw [Array.toList_append,Array.toList_append]
   refine ((k1.mono (by simp)).append ?_).append (k2.mono (by simp))
   intro u hu
   simp only [List.mem_singleton] at hu
   subst hu
   exact .yield _ (by simp)
  obtain ⟨q1,q2,q3⟩:=hcl _ _ _ _ _ h1 (hw.allocB (b:=.loop env L none) hs.toL) hm
  simp only [St.next_alloc] at q2
  refine ⟨q1.putB (by omega) (b:=.gone) trivial,by simp;omega,hs.mono (by simp;omega),rfl⟩
theorem XF0_wf {P:Program} {f:FuncId} {xf:XFunc} (h:XF0 P f=some xf):wfC xf.ntmps xf.body=true∧∃ fn,P.funcs[f]? = some fn∧trFunc P (trDraw P) fn=some xf:=by
 unfold XF0 at h
 simp only [Option.bind_eq_some_iff] at h
 obtain ⟨fn,h1,xf',h2,h3⟩:=h
 split at h3
 ·rename_i hw
  obtain rfl:=Option.some.inj h3
  exact ⟨hw,fn,h1,h2⟩
 ·cases h3
theorem XF_XF0 {P:Program} {f:FuncId} {xf:XFunc} (h:XF P f=some xf):XF0 P f=some xf:=by
 unfold XF at h
 simp only [Option.bind_eq_some_iff] at h
 obtain ⟨fn,_,h⟩:=h
 split at h
 ·cases h
 ·exact h
theorem XF_wf {P:Program} {f:FuncId} {xf:XFunc} (h:XF P f=some xf):wfC xf.ntmps xf.body=true∧∃ fn,P.funcs[f]? = some fn∧trFunc P (trDraw P) fn=some xf:=XF0_wf (XF_XF0 h)
theorem args_SE {m:Nat} {args:Array Value} (h:ScL m args.toList) (k:Nat):SE m (args++Array.replicate k undef):=by
 intro t
 simp only [toF]
 rw [Array.getD_eq_getD_getElem?]
 cases e:(args++Array.replicate k undef)[t]? with
 | none=>exact Sc.undef m
 | some v=>
  have hm:=Array.mem_of_getElem? e
  simp only [Array.mem_append,Array.mem_replicate] at hm
  rcases hm with hm | ⟨_,rfl⟩
  ·exact h v (by simpa using hm)
  ·exact Sc.undef m
theorem xres1_sc {S:St} {env:Env} (hw:WS S) (hs:SE S.next env) {x:XRes} {v:Value} (h:xres1 env S x=some v):Sc S.next v:=by
 cases x with
 | tmp t=>obtain rfl:=Option.some.inj h;exact hs t
 | cell a agg sz=>
  simp only [xres1] at h
  split at h
  ·simp only [Option.bind_eq_some_iff] at h
   obtain ⟨c,hc,hv⟩:=h
   exact part1_sc hv (hw.rd hc)
  ·cases h
def baseC (b:Base):Caller:=fun g args S=>match g with
 | .func f=>b f args S
 | _=>none
class Prim (P:Program) where
 run:Base
 ws:∀ f args S v S',run f args S=some (v,S')→WS S→ScL S.next args.toList→WS S'∧S.next≤S'.next∧Sc S'.next v
 ok:∀ B,CallOK P B (baseC run)
theorem SE_fold {m:Nat}:∀ (ps:List Tmp) (xs:List Value) (env:Env),SE m env→ScL m xs→SE m ((ps.zip xs).foldl (fun t (p,v)=>t.setIfInBounds p v) env)∧((ps.zip xs).foldl (fun t (p,v)=>t.setIfInBounds p v) env).size=env.size:=by
 intro ps
 induction ps with
 | nil=>intro xs env h _;exact ⟨by simpa using h,by simp⟩
 | cons p ps ih=>
  intro xs env h hx
  cases xs with
  | nil=>exact ⟨by simpa using h,by simp⟩
  | cons x xs=>
   simp only [List.zip_cons_cons,List.foldl_cons]
   have:=ih xs (env.put (some p) x) (h.put (some p) (hx x (by simp))) (fun v hv=>hx v (by simp [hv]))
   exact ⟨this.1,this.2.trans (put_size _ _ _)⟩
theorem xround_inv {cl:Caller} {n:Nat} {LT:LoopC→Option (XCode × XCode)} {id:Nat} {args:Array Value} {S S':St} {v:Value} (h:xround xdraw cl n LT id args S=some (v,S')) :
  ∃ env L xa xb env0 env1 S1 ex env2 S2,S.get id=.loop env L none∧args.size=L.ps.size∧LT L=some (xa,xb)∧env0=(L.ps.toList.zip args.toList).foldl (fun t (p,v)=>t.setIfInBounds p v) env∧
   xcode xdraw cl n xa env0 (S.put id .gone)=some (.normal,env1,S1)∧xcode xdraw cl n xb env1 S1=some (ex,env2,S2)∧
   ((ex=.normal∧v=.bool true∧S'=S2.put id (.loop env L none))∨(ex≠.normal∧v=.bool false∧S'=S2.put id (.loop env L (some ex)))):=by
 unfold xround at h
 split at h
 case h_2=>cases h
 rename_i env L hget
 split at h
 case isFalse=>cases h
 rename_i hsz
 generalize hE:(L.ps.zip args).foldl (fun t (p,v)=>t.setIfInBounds p v) env=env0 at h
 rw [zip_foldl] at hE
 simp only [Option.bind_eq_some_iff] at h
 obtain ⟨⟨xa,xb⟩,hL,⟨e1,env1,S1⟩,h1,h2⟩:=h
 cases e1 with
 | exit _=>simp at h2
 | ret=>simp at h2
 | normal=>
 simp only [Option.map_eq_some_iff] at h2
 obtain ⟨⟨ex,env2,S2⟩,h2,h3⟩:=h2
 refine ⟨env,L,xa,xb,env0,env1,S1,ex,env2,S2,hget,hsz,hL,hE.symm,h1,h2,?_⟩
 cases ex with
 | normal=>
  simp only [Prod.mk.injEq] at h3
  exact .inl ⟨rfl,h3.1.symm,h3.2.symm⟩
 | exit j=>
  simp only [Prod.mk.injEq] at h3
  exact .inr ⟨by simp,h3.1.symm,h3.2.symm⟩
 | ret=>
  simp only [Prod.mk.injEq] at h3
  exact .inr ⟨by simp,h3.1.symm,h3.2.symm⟩
theorem xround_ws {P:Program} {cl:Caller} (hcl:CallerWS cl) {n:Nat} {id:Nat} {args:Array Value} {S S':St} {v:Value} (h:xround xdraw cl n (XL P) id args S=some (v,S')) (hw:WS S) (hargs:ScL S.next args.toList):WS S'∧S.next≤S'.next∧Sc S'.next v:=by
 obtain ⟨env,L,xa,xb,env0,env1,S1,ex,env2,S2,h1,h2,h3,h4,h5,h6,h7⟩:=xround_inv h
 obtain ⟨_,w1,w2,_⟩:=XL_wf h3
 have hid:=hw.alive (id:=id) (by rw [h1];simp)
 have henv:=hw.loop id env L none h1
 have h0:SE S.next env0:=by rw [h4];exact (SE_fold _ _ _ (SE.of henv) hargs).1
 obtain ⟨q1,q2,q3,q4⟩:=xcode_ws hcl xa w1 env0 _ _ (hw.putB hid (b:=.gone) trivial) (by simpa using h0) h5
 obtain ⟨p1,p2,p3,p4⟩:=xcode_ws hcl xb w2 env1 S1 _ q1 q3 h6
 simp only [St.next_put] at q2
 have hle:S.next≤S2.next:=Nat.le_trans q2 p2
 rcases h7 with ⟨_,rfl,rfl⟩ | ⟨_,rfl,rfl⟩
 ·exact ⟨p1.putB (by omega) (henv.mono hle),by simpa using hle,.bool _⟩
 ·exact ⟨p1.putB (by omega) (henv.mono hle),by simpa using hle,.bool _⟩
theorem xcall_ws (P:Program) [Prim P]:∀ n,CallerWS (xcall xdraw (XF P) (XL P) (Prim.run P) n):=by
 intro n
 induction n with
 | zero=>
  intro f args S v S' h
  cases f with
  | func f=>
   simp only [xcall] at h
   split at h
   ·exact Prim.ws (P:=P) _ _ _ _ _ h
   ·cases h
  | yield id=>simp [xcall] at h
  | method _=>simp [xcall] at h
  | methodOf _ _=>simp [xcall] at h
  | via _ _ _ _=>simp [xcall] at h
 | succ n ih=>
  intro f args S v S' h hw hargs
  cases f with
  | yield id=>exact xround_ws ih h hw hargs
  | method _=>simp [xcall] at h
  | methodOf _ _=>simp [xcall] at h
  | via _ _ _ _=>simp [xcall] at h
  | func f=>
  simp only [xcall] at h
  split at h
  ·exact Prim.ws (P:=P) _ _ _ _ _ h hw hargs
  rename_i fn hf
  simp only [Option.bind_eq_some_iff] at h
  obtain ⟨⟨e,env1,S1⟩,h1,h2⟩:=h
  obtain ⟨q1,q2,q3,q4⟩:=xcode_ws ih fn.body (XF_wf hf).1 _ S _ hw (args_SE hargs _) h1
  have fin:(xres fn.results env1 S1).map (fun v=>(v,S1))=some (v,S')→WS S'∧S.next≤S'.next∧Sc S'.next v:=by
   intro h
   simp only [xres,Option.map_eq_some_iff,Prod.mk.injEq] at h
   obtain ⟨v0,⟨vs,hvs,rfl⟩,rfl,rfl⟩:=h
   refine ⟨q1,q2,?_⟩
   have hall:ScL S1.next vs:=by
    intro u hu
    obtain ⟨i,hi,rfl⟩:=List.getElem_of_mem hu
    have hl:=List.length_mapM_option hvs
    exact xres1_sc q1 q3 (List.getElem_mapM_option hvs i (by omega) hi)
   unfold pack
   split
   ·exact hall _ (by simp)
   ·exact .tuple _ fun i hi=>hall _ (by simp)
  cases e with
  | normal=>exact fin h2
  | ret=>exact fin h2
  | exit id=>cases h2
end Go.Proofs.YtiinecnjokaejaaGreatDoor

namespace Go.Proofs.YtiinecnjokaejaaGreatDoor
open Go Go.RowKit
def XG (P:Program) [Prim P] (g:Go.Fn) (args:Array Value) (S:St) (Q:Value→St→Prop):Prop:=
 WS S→ScL S.next args.toList→∃ n v S',xcall xdraw (XF P) (XL P) (Prim.run P) n g args S=some (v,S')∧Q v S'
def XC (P:Program) [Prim P] (f:FuncId) (args:Array Value) (S:St) (Q:Value→St→Prop):Prop:=XG P (.func f) args S Q
theorem XG.mono {P:Program} [Prim P] {g:Go.Fn} {args:Array Value} {S:St} {Q Q':Value→St→Prop} (h:XG P g args S Q) (hq:∀ v S',Q v S'→Q' v S'):XG P g args S Q':=fun h1 h2=>by
 obtain ⟨n,v,S',h3,h4⟩:=h h1 h2
 exact ⟨n,v,S',h3,hq _ _ h4⟩
theorem XC.mono {P:Program} [Prim P] {f:FuncId} {args:Array Value} {S:St} {Q Q':Value→St→Prop} (h:XC P f args S Q) (hq:∀ v S',Q v S'→Q' v S'):XC P f args S Q':=XG.mono h hq
theorem XC_prim {P:Program} [Prim P] {f:FuncId} (hf:XF P f=none) {args:Array Value} {S:St} {Q:Value→St→Prop} (h:∃ v S',Prim.run P f args S=some (v,S')∧Q v S'):XC P f args S Q:=fun _ _=>by
 obtain ⟨v,S',h1,h2⟩:=h
 exact ⟨0,v,S',by simp only [xcall,hf];exact h1,h2⟩
def XS (P:Program) [Prim P] (o:XOp) (ρ:Operand→Value) (S:St) (K:Value→St→Prop):Prop:=
 match o with
 | .call f args=>XC P f (args.map ρ) S K
 | .callv x args=>∃ g a b,ρ x=.func g a b∧XG P g (a++args.map ρ++b) S K
 | o=>∃ v S',xop o ρ S=some (v,S')∧K v S'
def XO (P:Program) [Prim P]:List XOper→FEnv→St→(FEnv→St→Prop)→Prop
 | [],fe,S,Q=>Q fe S
 | o::r,fe,S,Q=>if fwant fe o.guard=true then XS P o.op (fev fe) S (fun v S'=>XO P r (updO fe o.dst v) S' Q) else XO P r (updO fe o.dst undef) S Q
structure Ext (S S':St):Prop where
 next:S.next≤S'.next
 get:∀ id,id < S.next→S'.get id=S.get id
theorem Ext.refl (S:St):Ext S S:=⟨Nat.le_refl _,fun _ _=>rfl⟩
theorem Ext.trans {S S' S'':St} (h:Ext S S') (k:Ext S' S''):Ext S S'':=⟨Nat.le_trans h.next k.next,fun id hid=>(k.get id (Nat.lt_of_lt_of_le hid h.next)).trans (h.get id hid)⟩
theorem Ext.alloc (S:St) (b:Blk):Ext S (S.alloc b):=⟨by simp,fun id hid=>by rw [St.get_alloc,if_neg (by omega)]⟩
def Blk.look:Blk→Option (List Value × TypeId × Nat)
 | .cells c t z _ _=>some (c,t,z)
 | _=>none
structure ExtL (S S':St):Prop where
 next:S.next≤S'.next
 look:∀ id,id < S.next→(S'.get id).look=(S.get id).look
theorem ExtL.refl (S:St):ExtL S S:=⟨Nat.le_refl _,fun _ _=>rfl⟩
theorem ExtL.trans {S S' S'':St} (h:ExtL S S') (k:ExtL S' S''):ExtL S S'':=⟨Nat.le_trans h.next k.next,fun id hid=>(k.look id (Nat.lt_of_lt_of_le hid h.next)).trans (h.look id hid)⟩
theorem Ext.toL {S S':St} (h:Ext S S'):ExtL S S':=⟨h.next,fun id hid=>by rw [h.get id hid]⟩
theorem look_rd {S S':St} {id:Nat} (h:(S'.get id).look=(S.get id).look) (o n:Nat):S'.rd id o n=S.rd id o n:=by
 unfold St.rd
 cases e:S.get id<;>cases e':S'.get id<;>rw [e,e'] at h<;>simp [Blk.look] at h ⊢
 rw [h.1]
theorem look_width {S S':St} {id:Nat} (h:(S'.get id).look=(S.get id).look):S'.width id=S.width id:=by
 unfold St.width
 cases e:S.get id<;>cases e':S'.get id<;>rw [e,e'] at h<;>simp [Blk.look] at h ⊢
 exact h.2.2
def readsAt (o:XOp) (ρ:Operand→Value):Option Nat:=
 match o with
 | .load _ _ x=>match ρ x with
  | .pointer (some a)=>some a.block
  | _=>none
 | .sl _ x _ _=>match ρ x with
  | .slice (some a) _ _=>some a.block
  | _=>none
 | _=>none
def XM (P:Program) [Prim P] (S0:St):List (XOper × (Bool × Bool) × Bool)→FEnv→St→(FEnv→St→Prop)→Prop
 | [],fe,S,Q=>Q fe S
 | (o,keep,early)::r,fe,S,Q=>if fwant fe o.guard=true then
   (early=true→∀ id,readsAt o.op (fev fe)=some id→id < S0.next)∧XS P o.op (fev fe) S (fun v S'=>((keep.1=true→ExtL S S')∧(keep.2=true→Ext S S'))∧XM P S0 r (updO fe o.dst v) S' Q)
  else XM P S0 r (updO fe o.dst undef) S Q
def XW (P:Program) [Prim P]:XCode→FEnv→St→(Ex→FEnv→St→Prop)→Prop
 | .skip,fe,S,Q=>Q .normal fe S
 | .region ops,fe,S,Q=>XO P ops fe S (Q .normal)
 | .draw d,fe,S,Q=>XM P S (d.ops.zip d.flags) fe S (Q .normal)
 | .seq a b,fe,S,Q=>XW P a fe S (fun e fe' S'=>match e with
  | .normal=>XW P b fe' S' Q
  | e=>Q e fe' S')
 | .cond c x y,fe,S,Q=>∃ b,fev fe c=.bool b∧(b=true→XW P x fe S Q)∧(b=false→XW P y fe S Q)
 | .block id c,fe,S,Q=>XW P c fe S (fun e fe' S'=>match e with
  | .exit id'=>if id'=id then Q .normal fe' S' else Q (.exit id') fe' S'
  | e=>Q e fe' S')
 | .loop c,fe,S,Q=>∃ (I:FEnv→St→Prop) (μ:FEnv→St→Nat),I fe S∧∀ fe S,I fe S→XW P c fe S (fun e fe' S'=>match e with
  | .normal=>I fe' S'∧μ fe' S' < μ fe S
  | e=>Q e fe' S')
 | .exit id,fe,S,Q=>Q (.exit id) fe S
 | .ret,fe,S,Q=>Q .ret fe S
 | .range x L,fe,S,Q=>∃ g a b,fev fe x=.func (.func g) a b∧∀ env:Array Value,toF env=fe→L.n≤env.size→XC P g (a++#[Value.func (.yield S.next) #[] #[]]++b) (S.alloc (.loop env L none)) (fun _ S2=>∃ env2 L2 pe,S2.get S.next=.loop env2 L2 pe∧Q (pe.getD .normal) fe (S2.put S.next .gone))
section
variable {P:Program} [Prim P]
theorem XS_run {o:XOp} {ρ:Operand→Value} {S:St} {K:Value→St→Prop} (hw:WS S) (hok:opdsOk o=true) (hρ:∀ x,okOpd x=true→Sc S.next (ρ x)) (h:XS P o ρ S K):∃ n v S',xstep (xcall xdraw (XF P) (XL P) (Prim.run P) n) o ρ S=some (v,S')∧K v S':=by
 unfold XS at h
 split at h
 ·obtain ⟨n,v,S',h1,h2⟩:=h hw (args_sc hρ hok)
  exact ⟨n,v,S',h1,h2⟩
 ·rename_i x args
  obtain ⟨f,a,b,e,h⟩:=h
  simp only [opdsOk,Bool.and_eq_true] at hok
  have hx:=hρ x hok.1
  rw [e] at hx
  obtain ⟨k1,k2⟩:=func_sc hx
  obtain ⟨n,v,S',h1,h2⟩:=h hw (by
   rw [Array.toList_append,Array.toList_append]
   exact (k1.append (args_sc hρ hok.2)).append k2)
  refine ⟨n,v,S',?_,h2⟩
  simp only [xstep,e]
  exact h1
 ·rename_i n1 n2
  obtain ⟨v,S',h1,h2⟩:=h
  refine ⟨0,v,S',?_,h2⟩
  rw [← h1]
  unfold xstep
  split
  ·exact (n1 _ _ rfl).elim
  ·exact (n2 _ _ rfl).elim
  ·rfl
theorem XO_run {m:Nat}:∀ (l:List XOper),wfO m l=true→∀ (env:Env) (S:St) (Q:FEnv→St→Prop),WS S→SE S.next env→m≤env.size→XO P l (toF env) S Q→∃ n env' S',xops (xcall xdraw (XF P) (XL P) (Prim.run P) n) l env S=some (env',S')∧Q (toF env') S':=by
 intro l
 induction l with
 | nil=>intro _ env S Q hw hs hm h;exact ⟨0,env,S,rfl,h⟩
 | cons o l ih=>
  intro hwf env S Q hw hs hm h
  obtain ⟨h1,h2,h3⟩:=wfO_cons hwf
  simp only [XO] at h
  rw [← toF_want] at h
  simp only [xops]
  split at h
  ·rename_i hwn
   rw [← toF_ev] at h
   obtain ⟨n,v,S1,k1,k2⟩:=XS_run hw h1 hs.ev h
   obtain ⟨q1,q2,q3⟩:=xstep_ws (xcall_ws P n) hw h1 hs.ev k1
   rw [← toF_put env o.dst v (fun t e=>Nat.lt_of_lt_of_le (h2 t e) hm)] at k2
   obtain ⟨n2,env',S',k3,k4⟩:=ih h3 (env.put o.dst v) S1 Q q1 ((hs.mono q2).put _ q3) (by rw [put_size];exact hm) k2
   refine ⟨max n n2,env',S',?_,k4⟩
   rw [if_pos hwn,xstep_mono (xcall_mono (XF P) (XL P) (Prim.run P) n (max n n2) (Nat.le_max_left _ _)) k1]
   exact xops_mono (xcall_mono (XF P) (XL P) (Prim.run P) n2 (max n n2) (Nat.le_max_right _ _)) _ _ _ _ k3
  ·rename_i hwn
   rw [← toF_put env o.dst undef (fun t e=>Nat.lt_of_lt_of_le (h2 t e) hm)] at h
   obtain ⟨n2,env',S',k3,k4⟩:=ih h3 _ S Q hw (hs.put _ (Sc.undef _)) (by rw [put_size];exact hm) h
   exact ⟨n2,env',S',by rw [if_neg hwn];exact k3,k4⟩
theorem XM_run {m:Nat} (S0:St):∀ (l:List (XOper × (Bool × Bool) × Bool)),wfO m (l.map (·.1))=true→∀ (env:Env) (S:St) (Q:FEnv→St→Prop),WS S→SE S.next env→m≤env.size→XM P S0 l (toF env) S Q→
  ∃ n R env' S',xrun (xcall xdraw (XF P) (XL P) (Prim.run P) n) (l.map (·.1)) env S=some (R,env',S')∧Q (toF env') S'∧
   ∀ i (hi:i < l.length),∃ r,R[i]? = some r∧(r.w=true→((l[i].2.1.1=true→ExtL (recT R S' i) (recT R S' (i+1)))∧(l[i].2.1.2=true→Ext (recT R S' i) (recT R S' (i+1))))∧(l[i].2.2=true→∀ id,readsAt l[i].1.op r.env.ev=some id→id < S0.next)):=by
 intro l
 induction l with
 | nil=>intro _ env S Q hw hs hm h;exact ⟨0,[],env,S,rfl,h,fun i hi=>by simp at hi⟩
 | cons o l ih=>
  obtain ⟨o,keep,early⟩:=o
  intro hwf env S Q hw hs hm h
  obtain ⟨h1,h2,h3⟩:=wfO_cons hwf
  simp only [XM] at h
  rw [← toF_want] at h
  simp only [List.map_cons,xrun]
  have sT:∀ (wn:Bool) (v:Value) (R1:List Rec) (S':St) (j:Nat),recT (⟨env,S,wn,v⟩::R1) S' (j+1)=recT R1 S' j:=fun wn v R1 S' j=>by simp [recT]
  split at h
  ·rename_i hwn
   rw [← toF_ev] at h
   obtain ⟨he,h⟩:=h
   obtain ⟨n,v,S1,k1,kk,k2⟩:=XS_run hw h1 hs.ev h
   obtain ⟨q1,q2,q3⟩:=xstep_ws (xcall_ws P n) hw h1 hs.ev k1
   rw [← toF_put env o.dst v (fun t e=>Nat.lt_of_lt_of_le (h2 t e) hm)] at k2
   obtain ⟨n2,R1,env',S',k3,k4,k5⟩:=ih h3 (env.put o.dst v) S1 Q q1 ((hs.mono q2).put _ q3) (by rw [put_size];exact hm) k2
   refine ⟨max n n2,⟨env,S,true,v⟩::R1,env',S',?_,k4,fun i hi=>?_⟩
   ·rw [if_pos hwn,xstep_mono (xcall_mono (XF P) (XL P) (Prim.run P) n (max n n2) (Nat.le_max_left _ _)) k1]
    simp only [Option.bind_some]
    rw [xrun_mono (xcall_mono (XF P) (XL P) (Prim.run P) n2 (max n n2) (Nat.le_max_right _ _)) _ _ _ _ k3]
    rfl
   ·cases i with
    | zero=>
     refine ⟨⟨env,S,true,v⟩,rfl,fun _=>⟨?_,fun hk=>he hk⟩⟩
     rw [sT]
     have e0:recT R1 S' 0=S1:=(xrun_facts _ _ _ _ _ _ k3).2.2.1
     rw [e0]
     exact kk
    | succ i=>
     obtain ⟨r,p1,p2⟩:=k5 i (by simpa using hi)
     refine ⟨r,by simpa using p1,fun hw=>?_⟩
     rw [sT,sT]
     exact p2 hw
  ·rename_i hwn
   rw [← toF_put env o.dst undef (fun t e=>Nat.lt_of_lt_of_le (h2 t e) hm)] at h
   obtain ⟨n2,R1,env',S',k3,k4,k5⟩:=ih h3 _ S Q hw (hs.put _ (Sc.undef _)) (by rw [put_size];exact hm) h
   refine ⟨n2,⟨env,S,false,undef⟩::R1,env',S',?_,k4,fun i hi=>?_⟩
   ·rw [if_neg hwn,k3];rfl
   ·cases i with
    | zero=>exact ⟨⟨env,S,false,undef⟩,rfl,fun x=>by cases x⟩
    | succ i=>
     obtain ⟨r,p1,p2⟩:=k5 i (by simpa using hi)
     refine ⟨r,by simpa using p1,fun hw=>?_⟩
     rw [sT,sT]
     exact p2 hw
theorem heapy_at {o:XOp} (h:heapy o=true) {ρ:Operand→Value} {S S1 S2:St} {v:Value} (hx:xop o ρ S=some (v,S1)) (hg:∀ id,readsAt o ρ=some id→(S2.get id).look=(S.get id).look):∃ S'',xop o ρ S2=some (v,S''):=by
 cases o
 all_goals (first | (simp [heapy] at h;done) | skip)
 case load agg sz x=>
  simp only [xop,readsAt] at hx hg ⊢
  split at hx
  ·rename_i id o e
   rw [e] at hg
   have:=hg id rfl
   simp only [Option.bind_eq_some_iff,Option.map_eq_some_iff,Prod.mk.injEq] at hx ⊢
   obtain ⟨c,hc,v0,hv,rfl,_⟩:=hx
   refine ⟨S2,c,?_,v0,hv,rfl,rfl⟩
   rw [look_rd this];exact hc
  ·cases hx
 case sl esz x lo hi=>
  simp only [xop,readsAt] at hx hg ⊢
  split at hx
  case h_2=>cases hx
  rename_i a n c e
  rw [e] at hg
  split at hx
  case h_2=>cases hx
  rename_i l hh b1 b2
  split at hx
  case isFalse=>cases hx
  rename_i hc
  rw [if_pos hc]
  cases a with
  | none=>
   simp only [slRes] at hx ⊢
   split at hx
   ·rename_i h0
    rw [if_pos h0]
    exact ⟨S2,by rw [(Prod.mk.inj (Option.some.inj hx)).1]⟩
   ·cases hx
  | some ad=>
   obtain ⟨id,o,sp⟩:=ad
   cases sp with
   | some _=>simp [slRes] at hx
   | none=>
    have:=hg id rfl
    simp only [slRes] at hx ⊢
    split at hx
    ·rename_i h0
     have h0':slFit (S2.width id) esz l=true:=by
      rw [look_width this];exact h0
     rw [if_pos h0']
     exact ⟨S2,by rw [(Prod.mk.inj (Option.some.inj hx)).1]⟩
    ·cases hx
theorem readsAt_sc {o:XOp} (hok:opdsOk o=true) {ρ:Operand→Value} {m:Nat} (hρ:∀ x,okOpd x=true→Sc m (ρ x)) {id:Nat} (h:readsAt o ρ=some id):id < m:=by
 cases o<;>simp only [readsAt] at h
 all_goals (first | (cases h;done) | skip)
 case load agg sz x=>
  have hx:=hρ x hok
  split at h
  ·rename_i a e
   rw [e] at hx
   obtain rfl:=Option.some.inj h
   cases hx with
   | ptr _ _ hid=>exact hid
  ·cases h
 case sl esz x lo hi=>
  simp only [opdsOk,Bool.and_eq_true] at hok
  have hx:=hρ x hok.1.1
  split at h
  ·rename_i a n c e
   rw [e] at hx
   obtain rfl:=Option.some.inj h
   cases hx with
   | slice _ _ _ _ hid=>exact hid
  ·cases h
end
end Go.Proofs.YtiinecnjokaejaaGreatDoor

namespace Go.Proofs.YtiinecnjokaejaaGreatDoor
open Go Go.RowKit
section
variable {P:Program} [Prim P]
theorem float_ext {cl:Caller} {o:XOp} (ha:anch o=false) {ρ:Operand→Value} {S S':St} {v:Value} (h:xstep cl o ρ S=some (v,S')):Ext S S':=by
 rw [xstep_xop ha] at h
 cases h1:heapy o with
 | true=>rw [heapy_same h1 h];exact Ext.refl S
 | false=>
  cases h2:isAlloc o with
  | false=>rw [(pure_any ha h1 h2 h S).1];exact Ext.refl S
  | true=>
   obtain ⟨b,_,rfl,_⟩:=alloc_any h2 h
   exact Ext.alloc S _
theorem ext_chain {T:Nat→St} {lo hi:Nat} (h:∀ k,lo≤k→k < hi→Ext (T k) (T (k+1))) (hle:lo≤hi):Ext (T lo) (T hi):=by
 induction hi with
 | zero=>
      obtain rfl:lo=0:=by omega
      exact Ext.refl _
 | succ hi ih=>
  by_cases e:lo=hi+1
  ·subst e;exact Ext.refl _
  ·exact (ih (fun k h1 h2=>h k h1 (by omega)) (by omega)).trans (h hi (by omega) (by omega))
theorem ext_chainL {T:Nat→St} {lo hi:Nat} (h:∀ k,lo≤k→k < hi→ExtL (T k) (T (k+1))) (hle:lo≤hi):ExtL (T lo) (T hi):=by
 induction hi with
 | zero=>
      obtain rfl:lo=0:=by omega
      exact ExtL.refl _
 | succ hi ih=>
  by_cases e:lo=hi+1
  ·subst e;exact ExtL.refl _
  ·exact (ih (fun k h1 h2=>h k h1 (by omega)) (by omega)).trans (h hi (by omega) (by omega))
theorem XW_run {m:Nat}:∀ (c:XCode),wfC m c=true→∀ (env:Env) (S:St) (Q:Ex→FEnv→St→Prop),WS S→SE S.next env→m≤env.size→XW P c (toF env) S Q→∃ n e env' S',xcode xdraw (xcall xdraw (XF P) (XL P) (Prim.run P) n) n c env S=some (e,env',S')∧Q e (toF env') S':=by
 intro c
 induction c with
 | skip=>intro _ env S Q hw hs hm h;exact ⟨0,_,_,_,rfl,h⟩
 | exit id=>intro _ env S Q hw hs hm h;exact ⟨0,_,_,_,rfl,h⟩
 | ret=>intro _ env S Q hw hs hm h;exact ⟨0,_,_,_,rfl,h⟩
 | region ops=>
  intro hwf env S Q hw hs hm h
  obtain ⟨n,env',S',h1,h2⟩:=XO_run ops hwf env S _ hw hs hm h
  exact ⟨n,.normal,env',S',by simp [xcode,h1],h2⟩
 | draw d=>
  intro hwf env S Q hw hs hm h
  simp only [wfC,Bool.and_eq_true,beq_iff_eq] at hwf
  obtain ⟨hwf,hfl⟩:=hwf
  have h:XM P S (d.ops.zip (flagsOf d.ops d.stages)) (toF env) S (Q .normal):=by rw [← hfl];exact h
  have hlen:(flagsOf d.ops d.stages).length=d.ops.length:=by simp [flagsOf]
  have hmap:(d.ops.zip (flagsOf d.ops d.stages)).map (·.1)=d.ops:=by rw [List.map_fst_zip (by omega)]
  obtain ⟨n,R,env',S',h1,h2,h3⟩:=XM_run S (d.ops.zip (flagsOf d.ops d.stages)) (by rw [hmap];exact hwf) env S _ hw hs hm h
  rw [hmap] at h1
  refine ⟨n,.normal,env',S',?_,h2⟩
  have hfacts:=xrun_facts _ _ _ _ _ _ h1
  have hws:=xrun_ws (xcall_ws P n) d.ops hwf env S R env' S' hw hs h1
  have hop:∀ i (hi:i < d.ops.length),opdsOk d.ops[i].op=true:=by
   intro i hi
   have hwf':wfO m d.ops=true:=hwf
   simp only [wfO,List.all_eq_true,Bool.and_eq_true] at hwf'
   exact (hwf' _ (List.getElem_mem hi)).1
  have hstep:∀ i (hi:i < d.ops.length),∃ r,R[i]? = some r∧r.S=recT R S' i∧(anch d.ops[i].op=false→Ext (recT R S' i) (recT R S' (i+1)))∧(r.w=true→xstep (xcall xdraw (XF P) (XL P) (Prim.run P) n) d.ops[i].op r.env.ev (recT R S' i)=some (r.v,recT R S' (i+1)))∧(r.w=false→recT R S' (i+1)=recT R S' i):=by
   intro i hi
   obtain ⟨r,a1,a2,a3,a4,a5,a6,a7⟩:=hfacts.2.2.2 i hi
   refine ⟨r,a1,a3,fun ha=>?_,fun hw=>by rw [a2];exact a5 hw,fun hw=>(a6 hw).2⟩
   cases hw:r.w with
   | false=>rw [(a6 hw).2];exact Ext.refl _
   | true=>exact float_ext ha (a5 hw)
  have hkeepL:∀ i k (hi:i < d.ops.length) (hk:k < d.ops.length),heapy d.ops[i].op=true→∀ q,q∈(d.stages[i]?).getD []→(i≤k∧k < q)∨(q≤k∧k < i)→ExtL (recT R S' k) (recT R S' (k+1)):=by
   intro i k hi hk hio q hq hbt
   by_cases ha:anch d.ops[k].op=false
   ·obtain ⟨r,_,_,h4,_⟩:=hstep k hk
    exact (h4 ha).toL
   ·have ha':anch d.ops[k].op=true:=by simpa using ha
    obtain ⟨r,b1,b2⟩:=h3 k (by simp [flagsOf];exact hk)
    obtain ⟨r',c1,c2,_,_,c5⟩:=hstep k hk
    rw [b1] at c1
    obtain rfl:=Option.some.inj c1
    cases hw:r.w with
    | false=>rw [c5 hw];exact ExtL.refl _
    | true=>
     refine (b2 hw).1.1 ?_
     simp only [List.getElem_zip,flagsOf,List.getElem_map,List.getElem_range]
     rw [List.getElem?_eq_getElem hk]
     simp only [ha',Bool.true_and,List.any_eq_true,List.mem_range]
     refine ⟨i,hi,?_⟩
     rw [List.getElem?_eq_getElem hi]
     simp only [Bool.and_eq_true,Bool.or_eq_true,List.any_eq_true,decide_eq_true_eq]
     exact ⟨hio,q,hq,hbt⟩
  have hkeepA:∀ i k (hi:i < d.ops.length) (hk:k < d.ops.length),isAlloc d.ops[i].op=true→∀ q,q∈(d.stages[i]?).getD []→(i≤k∧k < q)∨(q≤k∧k < i)→Ext (recT R S' k) (recT R S' (k+1)):=by
   intro i k hi hk hio q hq hbt
   by_cases ha:anch d.ops[k].op=false
   ·obtain ⟨r,_,_,h4,_⟩:=hstep k hk
    exact h4 ha
   ·have ha':anch d.ops[k].op=true:=by simpa using ha
    obtain ⟨r,b1,b2⟩:=h3 k (by simp [flagsOf];exact hk)
    obtain ⟨r',c1,c2,_,_,c5⟩:=hstep k hk
    rw [b1] at c1
    obtain rfl:=Option.some.inj c1
    cases hw:r.w with
    | false=>rw [c5 hw];exact Ext.refl _
    | true=>
     refine (b2 hw).1.2 ?_
     simp only [List.getElem_zip,flagsOf,List.getElem_map,List.getElem_range]
     rw [List.getElem?_eq_getElem hk]
     simp only [ha',Bool.true_and,List.any_eq_true,List.mem_range]
     refine ⟨i,hi,?_⟩
     rw [List.getElem?_eq_getElem hi]
     simp only [Bool.and_eq_true,Bool.or_eq_true,List.any_eq_true,decide_eq_true_eq]
     exact ⟨hio,q,hq,hbt⟩
  have hchk:ChkP d R S':=by
   refine ⟨fun i hi=>?_,fun i r o e1 e2 hw ha q hq=>?_⟩
   ·have hi':i < d.ops.length:=by rw [← hfacts.1];exact hi
    obtain ⟨r,a1,a2,a3,a4,a5⟩:=hstep i hi'
    cases hw:r.w with
    | false=>rw [a5 hw];exact Nat.le_refl _
    | true=>
     have hws':=hws.2.2.2.2 i r a1
     rw [a2] at hws'
     exact (xstep_ws (xcall_ws P n) hws'.1 (hop i hi') hws'.2.ev (a4 hw)).2.1
   ·have hi:i < d.ops.length:=(List.getElem?_eq_some_iff.1 e2).1
    have hoi:d.ops[i]=o:=(List.getElem?_eq_some_iff.1 e2).2
    obtain ⟨r',a1,a2,a3,a4,a5⟩:=hstep i hi
    rw [e1] at a1
    obtain rfl:=Option.some.inj a1
    have hx:=a4 hw
    rw [hoi] at hx
    have hx':=hx
    rw [xstep_xop ha] at hx'
    have hws':=hws.2.2.2.2 i r e1
    rw [a2] at hws'
    have hwx:=xop_ws hws'.1 (by rw [← hoi];exact hop i hi) hws'.2.ev hx'
    have hcap:∀ q,d.ops.length≤q→recT R S' q=recT R S' d.ops.length:=fun q hq=>by
     simp [recT,List.getElem?_eq_none (show R.length≤q by rw [hfacts.1];exact hq),List.getElem?_eq_none (show R.length≤d.ops.length by rw [hfacts.1];exact Nat.le_refl _)]
    have hextL:heapy d.ops[i].op=true→(i≤q→ExtL (recT R S' i) (recT R S' q))∧(q≤i→ExtL (recT R S' q) (recT R S' i)):=fun hio=>by
     have hk:∀ k,(i≤k∧k < q)∨(q≤k∧k < i)→ExtL (recT R S' k) (recT R S' (k+1)):=fun k hbt=>by
      by_cases hkl:k < d.ops.length
      ·exact hkeepL i k hi hkl hio q hq hbt
      ·rw [hcap k (by omega),hcap (k+1) (by omega)];exact ExtL.refl _
     exact ⟨fun hle=>ext_chainL (T:=recT R S') (fun k h1 h2=>hk k (.inl ⟨h1,h2⟩)) hle,fun hle=>ext_chainL (T:=recT R S') (fun k h1 h2=>hk k (.inr ⟨h1,h2⟩)) hle⟩
    refine ⟨fun hh=>?_,fun hal hlt=>?_⟩
    ·have hT:=heapy_same hh hx'
     obtain ⟨k1,k2⟩:=hextL (by rw [hoi];exact hh)
     refine ⟨heapy_at hh hx' fun id hid=>?_,fun _=>?_⟩
     ·have hidlt:=readsAt_sc (by rw [← hoi];exact hop i hi) hws'.2.ev hid
      rcases Nat.le_total i q with h | h
      ·exact (k1 h).look id hidlt
      ·by_cases e:q=i
       ·rw [e]
       ·obtain ⟨r2,b1,b2⟩:=h3 i (by simp [flagsOf];exact hi)
        rw [e1] at b1
        obtain rfl:=Option.some.inj b1
        have hq0:id < S.next:=by
         refine (b2 hw).2 ?_ id ?_
         ·simp only [List.getElem_zip,flagsOf,List.getElem_map,List.getElem_range]
          rw [e2]
          simp only [hh,Bool.true_and,List.any_eq_true,decide_eq_true_eq]
          exact ⟨q,hq,by omega⟩
         ·simp only [List.getElem_zip,hoi];exact hid
        have hmono:S.next≤(recT R S' q).next:=by
         have:∀ j,j≤d.ops.length→S.next≤(recT R S' j).next:=by
          intro j
          induction j with
          | zero=>intro _;rw [hfacts.2.2.1];exact Nat.le_refl _
          | succ j ihj=>
           intro hj
           refine Nat.le_trans (ihj (by omega)) ?_
           obtain ⟨r3,p1,p2,p3,p4,p5⟩:=hstep j (by omega)
           cases hw3:r3.w with
           | false=>rw [p5 hw3];exact Nat.le_refl _
           | true=>
            have hws3:=hws.2.2.2.2 j r3 p1
            rw [p2] at hws3
            exact (xstep_ws (xcall_ws P n) hws3.1 (hop j (by omega)) hws3.2.ev (p4 hw3)).2.1
         exact this q (by omega)
        exact ((k2 h).look id (Nat.lt_of_lt_of_le hq0 hmono)).symm
     ·rw [a2]
      have:=hwx.2.2
      rw [hT] at this
      exact this.toScoped
    ·obtain ⟨b,_,hT,_,_⟩:=alloc_any hal hx'
     have hlate:Ext (recT R S' (i+1)) (recT R S' q):=ext_chain (T:=recT R S') (fun k h1 h2=>by
      by_cases hkl:k < d.ops.length
      ·exact hkeepA i k hi hkl (by rw [hoi];exact hal) q hq (.inl ⟨by omega,h2⟩)
      ·rw [hcap k (by omega),hcap (k+1) (by omega)];exact Ext.refl _) (by omega)
     refine hlate.get _ ?_
     rw [hT,a2]
     simp
  simp only [xcode,xdraw,h1,Option.bind_some,if_pos hchk,Option.map_some]
 | seq a b iha ihb=>
  intro hwf env S Q hw hs hm h
  simp only [wfC,Bool.and_eq_true] at hwf
  obtain ⟨n,e,env1,S1,h1,h2⟩:=iha hwf.1 env S _ hw hs hm h
  obtain ⟨q1,q2,q3,q4⟩:=xcode_ws (xcall_ws P n) a hwf.1 env S _ hw hs h1
  cases e with
  | normal=>
   obtain ⟨n2,e2,env2,S2,h3,h4⟩:=ihb hwf.2 env1 S1 Q q1 q3 (by rw [q4];exact hm) h2
   refine ⟨max n n2,e2,env2,S2,?_,h4⟩
   simp only [xcode]
   rw [xcode_mono (xcall_mono (XF P) (XL P) (Prim.run P) n (max n n2) (Nat.le_max_left _ _)) (Nat.le_max_left _ _) _ _ _ _ h1]
   exact xcode_mono (xcall_mono (XF P) (XL P) (Prim.run P) n2 (max n n2) (Nat.le_max_right _ _)) (Nat.le_max_right _ _) _ _ _ _ h3
  | exit id=>exact ⟨n,.exit id,env1,S1,by simp [xcode,h1],h2⟩
  | ret=>exact ⟨n,.ret,env1,S1,by simp [xcode,h1],h2⟩
 | cond c x y ihx ihy=>
  intro hwf env S Q hw hs hm h
  simp only [wfC,Bool.and_eq_true] at hwf
  obtain ⟨b,e,hx,hy⟩:=h
  rw [← toF_ev] at e
  cases b with
  | true=>
   obtain ⟨n,e2,env2,S2,h3,h4⟩:=ihx hwf.1 env S Q hw hs hm (hx rfl)
   exact ⟨n,e2,env2,S2,by simp [xcode,e,h3],h4⟩
  | false=>
   obtain ⟨n,e2,env2,S2,h3,h4⟩:=ihy hwf.2 env S Q hw hs hm (hy rfl)
   exact ⟨n,e2,env2,S2,by simp [xcode,e,h3],h4⟩
 | block id c ih=>
  intro hwf env S Q hw hs hm h
  obtain ⟨n,e,env1,S1,h1,h2⟩:=ih hwf env S _ hw hs hm h
  cases e with
  | normal=>exact ⟨n,.normal,env1,S1,by simp [xcode,h1],h2⟩
  | ret=>exact ⟨n,.ret,env1,S1,by simp [xcode,h1],h2⟩
  | exit id'=>
   simp only at h2
   by_cases e:id'=id
   ·rw [if_pos e] at h2
    exact ⟨n,.normal,env1,S1,by simp [xcode,h1,e],h2⟩
   ·rw [if_neg e] at h2
    exact ⟨n,.exit id',env1,S1,by simp [xcode,h1,e],h2⟩
 | loop c ih=>
  intro hwf env S Q hw hs hm h
  obtain ⟨I,μ,hI,hround⟩:=h
  have key:∀ (k:Nat) (env:Env) (S:St),μ (toF env) S=k→WS S→SE S.next env→m≤env.size→I (toF env) S→∃ n j e env' S',xloop (xcode xdraw (xcall xdraw (XF P) (XL P) (Prim.run P) n) n c) j env S=some (e,env',S')∧Q e (toF env') S':=by
   intro k
   induction k using Nat.strongRecOn with
   | _ k ihk=>
    intro env S hk hw hs hm hI
    obtain ⟨n,e,env1,S1,h1,h2⟩:=ih hwf env S _ hw hs hm (hround _ _ hI)
    obtain ⟨q1,q2,q3,q4⟩:=xcode_ws (xcall_ws P n) c hwf env S _ hw hs h1
    cases e with
    | normal=>
     obtain ⟨hI1,hlt⟩:=h2
     obtain ⟨n2,j,e2,env2,S2,h3,h4⟩:=ihk _ (by rw [← hk];exact hlt) env1 S1 rfl q1 q3 (by rw [q4];exact hm) hI1
     refine ⟨max n n2,j+1,e2,env2,S2,?_,h4⟩
     simp only [xloop]
     rw [xcode_mono (xcall_mono (XF P) (XL P) (Prim.run P) n (max n n2) (Nat.le_max_left _ _)) (Nat.le_max_left _ _) _ _ _ _ h1]
     exact xloop_mono (fun env S r h=>xcode_mono (xcall_mono (XF P) (XL P) (Prim.run P) n2 (max n n2) (Nat.le_max_right _ _)) (Nat.le_max_right _ _) _ _ _ _ h) j j (Nat.le_refl _) _ _ _ h3
    | exit id=>exact ⟨n,1,.exit id,env1,S1,by simp [xloop,h1],h2⟩
    | ret=>exact ⟨n,1,.ret,env1,S1,by simp [xloop,h1],h2⟩
  obtain ⟨n,j,e,env',S',h1,h2⟩:=key _ env S rfl hw hs hm hI
  refine ⟨max n j,e,env',S',?_,h2⟩
  simp only [xcode]
  exact xloop_mono (fun env S r h=>xcode_mono (xcall_mono (XF P) (XL P) (Prim.run P) n (max n j) (Nat.le_max_left _ _)) (Nat.le_max_left _ _) _ _ _ _ h) j (max n j) (Nat.le_max_right _ _) _ _ _ h1
 | range x L=>
  intro hwf env S Q hw hs hm h
  simp only [wfC,Bool.and_eq_true,beq_iff_eq] at hwf
  obtain ⟨g,a,b,e,h⟩:=h
  rw [← toF_ev] at e
  have hx:=hs.ev x hwf.1
  rw [e] at hx
  obtain ⟨k1,k2⟩:=func_sc hx
  have hsc:ScL (S.alloc (.loop env L none)).next (a++#[Value.func (.yield S.next) #[] #[]]++b).toList:=by
   rw [Array.toList_append,Array.toList_append]
   refine ((k1.mono (by simp)).append ?_).append (k2.mono (by simp))
   intro u hu
   simp only [List.mem_singleton] at hu
   subst hu
   exact .yield _ (by simp)
  obtain ⟨n,v,S2,h1,env2,L2,pe,h2,h3⟩:=h env rfl (by omega) (hw.allocB (b:=.loop env L none) hs.toL) hsc
  refine ⟨n,pe.getD .normal,env,S2.put S.next .gone,?_,h3⟩
  simp only [xcode,e,h1,Option.bind_some,h2]
  cases pe<;>rfl
def xr1 (fe:FEnv) (S:St):XRes→Option Value
 | .tmp t=>some (fe t)
 | .cell a agg sz=>match fe a with
  | .pointer (some ⟨id,o,none⟩)=>(S.rd id o sz).bind fun c=>part1 agg c
  | _=>none
def xrs (l:List XRes) (fe:FEnv) (S:St):Option Value:=
 (l.mapM (xr1 fe S)).map pack
theorem xres_eq (l:List XRes) (env:Env) (S:St):xres l env S=xrs l (toF env) S:=by
 unfold xres xrs
 have:xres1 env S=xr1 (toF env) S:=by
  funext x
  cases x<;>rfl
 rw [this]
def fe0 (args:List Value):FEnv:=fun t=>args.getD t undef
theorem toF_args (args:Array Value) (k:Nat):toF (args++Array.replicate k undef)=fe0 args.toList:=by
 funext t
 simp only [toF,fe0]
 rw [Array.getD_eq_getD_getElem?,List.getD_eq_getElem?_getD,Array.getElem?_append]
 split
 ·simp
 ·rename_i h
  rw [Array.getElem?_replicate,List.getElem?_eq_none (by simpa using h)]
  split<;>rfl
theorem XC_intro {f:FuncId} {xf:XFunc} (hf:XF P f=some xf) {args:Array Value} {S:St} {Q:Value→St→Prop}
  (h:XW P xf.body (fe0 args.toList) S (fun e fe S'=>(∀ id,e≠.exit id)∧∃ v,xrs xf.results fe S'=some v∧Q v S')):XC P f args S Q:=by
 intro hw hargs
 have hwf:=(XF_wf hf).1
 rw [← toF_args args (xf.ntmps - args.size)] at h
 obtain ⟨n,e,env',S',h1,h2,v,h3,h4⟩:=XW_run xf.body hwf _ S _ hw (args_SE hargs _) (by simp;omega) h
 refine ⟨n+1,v,S',?_,h4⟩
 simp only [xcall,hf,h1,Option.bind_some]
 rw [← xres_eq] at h3
 cases e with
 | normal=>simp [h3]
 | ret=>simp [h3]
 | exit id=>exact absurd rfl (h2 id)
theorem XC.calls (hm:P.follows .mixedOrders=true) {f:FuncId} {args:Array Value} {S:St} {Q:Value→St→Prop} (h:XC P f args S Q) {B:Nat} {φ:Emb} {w:World} {args':Array Value} (hS:WS S) (ha:ScL S.next args.toList) (hargs:RelA φ args args') (hs:Sim B φ S w) (hB:B≤w.heap.size) :
  Calls P f args' w fun e w'=>∃ φ' v v' S',e=.returned v'∧Rel φ' v v'∧Sim B φ' S' w'∧Keep B φ S w φ' S' w'∧Q v S':=by
 obtain ⟨n,v,S',h1,h2⟩:=h hS ha
 have:=call_sound (P:=P) (B:=B) (draw_ok hm) (F:=XF P) (fun f xf hf=>(XF_wf hf).2) (LT:=XL P) (fun L x h=>(XL_wf h).1) (base:=Prim.run P) (Prim.ok B) n (.func f) args S v S' h1
 refine (this.2 φ w args' hargs hs hB).mono ?_
 rintro e w' ⟨φ',v',k1,k2,k3,k4⟩
 exact ⟨φ',v,v',S',k1,k2,k3,k4,h2⟩
end
end Go.Proofs.YtiinecnjokaejaaGreatDoor

namespace Go.Proofs.YtiinecnjokaejaaGreatDoor
open Go Go.RowKit
class Hold (α:Type) where
 it:α
def Now {α:Type} (v:α) [K:Hold (α→Prop)]:Prop:=K.it v
theorem Now_any {α:Type} (v:α) (K:α→Prop):@Now α v ⟨K⟩=K v:=Eq.trans rfl rfl
def Got {α:Type} (r:Option α) [K:Hold (α→Prop)]:Prop:=∃ v,r=some v∧K.it v
theorem Got_some {α:Type} (v:α) (K:α→Prop):@Got α (some v) ⟨K⟩=K v:=by simp [Got]
theorem Got.intro {α:Type} {r:Option α} {K:α→Prop} (v:α) (h:r=some v) (k:K v):@Got α r ⟨K⟩:=⟨v,h,k⟩
def XCall (P:Program) [Prim P] (f:FuncId) (args:Array Value) [H:Hold (St × (Value→St→Prop))]:Prop:=XC P f args H.it.1 H.it.2
def XLoop (P:Program) [Prim P] [H:Hold (XCode × FEnv × St × (Ex→FEnv→St→Prop))]:Prop:=XW P (.loop H.it.1) H.it.2.1 H.it.2.2.1 H.it.2.2.2
def XYield (P:Program) [Prim P] (id:Nat) (args:Array Value) [H:Hold (St × (Value→St→Prop))]:Prop:=XG P (.yield id) args H.it.1 H.it.2
theorem XYield.of {P:Program} [Prim P] {id:Nat} {args:Array Value} {S:St} {Q Q':Value→St→Prop} (h:XG P (.yield id) args S Q) (hq:∀ v S',Q v S'→Q' v S'):@XYield P _ id args ⟨(S,Q')⟩:=XG.mono h hq
def XRange (P:Program) [Prim P] (x:Value) (L:LoopC) [H:Hold (FEnv × St × (Ex→FEnv→St→Prop))]:Prop:=
 ∃ g a b,x=.func (.func g) a b∧∀ env:Array Value,toF env=H.it.1→L.n≤env.size→XC P g (a++#[Value.func (.yield H.it.2.1.next) #[] #[]]++b) (H.it.2.1.alloc (.loop env L none)) (fun _ S2=>∃ env2 L2 pe,S2.get H.it.2.1.next=.loop env2 L2 pe∧H.it.2.2 (pe.getD .normal) H.it.1 (S2.put H.it.2.1.next .gone))
theorem XRange.intro {P:Program} [Prim P] {g:FuncId} {a b:Array Value} {L:LoopC} {fe:FEnv} {S:St} {Q:Ex→FEnv→St→Prop} (h:∀ env:Array Value,toF env=fe→L.n≤env.size→XC P g (a++#[Value.func (.yield S.next) #[] #[]]++b) (S.alloc (.loop env L none)) (fun _ S2=>∃ env2 L2 pe,S2.get S.next=.loop env2 L2 pe∧Q (pe.getD .normal) fe (S2.put S.next .gone))):@XRange P _ (.func (.func g) a b) L ⟨(fe,S,Q)⟩:=⟨g,a,b,rfl,h⟩
theorem XCall.of {P:Program} [Prim P] {f:FuncId} {args:Array Value} {S:St} {Q Q':Value→St→Prop} (h:XC P f args S Q) (hq:∀ v S',Q v S'→Q' v S'):@XCall P _ f args ⟨(S,Q')⟩:=XC.mono h hq
def bindN (K:FEnv→St→Prop) (Q:Ex→FEnv→St→Prop):Ex→FEnv→St→Prop:=fun e fe S=>match e with
 | .normal=>K fe S
 | e=>Q e fe S
def bindB (id:Nat) (Q:Ex→FEnv→St→Prop):Ex→FEnv→St→Prop:=fun e fe S=>match e with
 | .exit id'=>if id'=id then Q .normal fe S else Q (.exit id') fe S
 | e=>Q e fe S
def bindL (I:Nat→FEnv→St→Prop) (k:Nat) (Q:Ex→FEnv→St→Prop):Ex→FEnv→St→Prop:=fun e fe S=>match e with
 | .normal=>∃ k',k' < k∧I k' fe S
 | e=>Q e fe S
section
variable {P:Program} [Prim P] {fe:FEnv} {S S0:St}
theorem XC.given {f:FuncId} {args:Array Value} {S:St} {Q:Value→St→Prop} (h:WS S→ScL S.next args.toList→XC P f args S Q):XC P f args S Q:=fun h1 h2=>h h1 h2 h1 h2
section
variable {Q:Ex→FEnv→St→Prop}
theorem XW_seq (a b:XCode):XW P (.seq a b) fe S Q=XW P a fe S (bindN (fun fe S=>XW P b fe S Q) Q):=by
 show XW P a fe S (fun e fe' S'=>match e with
  | .normal=>XW P b fe' S' Q
  | e=>Q e fe' S')=_
 congr 1
theorem XW_block (id:Nat) (c:XCode):XW P (.block id c) fe S Q=XW P c fe S (bindB id Q):=by
 show XW P c fe S (fun e fe' S'=>match e with
  | .exit id'=>if id'=id then Q .normal fe' S' else Q (.exit id') fe' S'
  | e=>Q e fe' S')=_
 congr 1
theorem XS_mono {o:XOp} {ρ:Operand→Value} {S:St} {K K':Value→St→Prop} (h:∀ v S,K v S→K' v S) (hx:XS P o ρ S K):XS P o ρ S K':=by
 cases o
 case call f args=>exact XC.mono hx h
 case callv x args=>
  obtain ⟨f,a,b,e,hx⟩:=hx
  exact ⟨f,a,b,e,XG.mono hx h⟩
 all_goals
  obtain ⟨v,S',e,hx⟩:=hx
  exact ⟨v,S',e,h _ _ hx⟩
theorem XW.mono {c:XCode}:∀ {fe:FEnv} {S:St} {Q Q':Ex→FEnv→St→Prop},(∀ e fe S,Q e fe S→Q' e fe S)→XW P c fe S Q→XW P c fe S Q':=by
 have hO:∀ (l:List XOper) {fe:FEnv} {S:St} {Q Q':FEnv→St→Prop},(∀ fe S,Q fe S→Q' fe S)→XO P l fe S Q→XO P l fe S Q':=by
  intro l
  induction l with
  | nil=>intro fe S Q Q' h hx;exact h _ _ hx
  | cons o l ih=>
   intro fe S Q Q' h hx
   simp only [XO] at hx ⊢
   split at hx
   ·rename_i hw
    rw [if_pos hw]
    exact XS_mono (fun v S'=>ih h) hx
   ·rename_i hw
    rw [if_neg hw]
    exact ih h hx
 have hM:∀ (S0:St) (l:List (XOper × (Bool × Bool) × Bool)) {fe:FEnv} {S:St} {Q Q':FEnv→St→Prop},(∀ fe S,Q fe S→Q' fe S)→XM P S0 l fe S Q→XM P S0 l fe S Q':=by
  intro S0 l
  induction l with
  | nil=>intro fe S Q Q' h hx;exact h _ _ hx
  | cons o l ih=>
   obtain ⟨o,k,e⟩:=o
   intro fe S Q Q' h hx
   simp only [XM] at hx ⊢
   split at hx
   ·rename_i hw
    rw [if_pos hw]
    exact ⟨hx.1,XS_mono (fun v S' hh=>⟨hh.1,ih h hh.2⟩) hx.2⟩
   ·rename_i hw
    rw [if_neg hw]
    exact ih h hx
 induction c with
 | skip=>intro fe S Q Q' h hx;exact h _ _ _ hx
 | exit id=>intro fe S Q Q' h hx;exact h _ _ _ hx
 | ret=>intro fe S Q Q' h hx;exact h _ _ _ hx
 | region ops=>intro fe S Q Q' h hx;exact hO ops (h .normal) hx
 | draw d=>intro fe S Q Q' h hx;exact hM S _ (h .normal) hx
 | seq a b iha ihb=>
  intro fe S Q Q' h hx
  rw [XW_seq] at hx ⊢
  refine iha (fun e fe S hh=>?_) hx
  cases e with
  | normal=>exact ihb h hh
  | exit id=>exact h _ _ _ hh
  | ret=>exact h _ _ _ hh
 | cond c a b iha ihb=>
  intro fe S Q Q' h hx
  obtain ⟨b,e,h1,h2⟩:=hx
  exact ⟨b,e,fun hb=>iha h (h1 hb),fun hb=>ihb h (h2 hb)⟩
 | block id c ih=>
  intro fe S Q Q' h hx
  rw [XW_block] at hx ⊢
  refine ih (fun e fe S hh=>?_) hx
  cases e with
  | normal=>exact h _ _ _ hh
  | ret=>exact h _ _ _ hh
  | exit i=>
   simp only [bindB] at hh ⊢
   split at hh
   ·rename_i hi;rw [if_pos hi];exact h _ _ _ hh
   ·rename_i hi;rw [if_neg hi];exact h _ _ _ hh
 | loop c ih=>
  intro fe S Q Q' h hx
  obtain ⟨I,μ,h1,h2⟩:=hx
  refine ⟨I,μ,h1,fun fe S hI=>ih (fun e fe' S' hh=>?_) (h2 fe S hI)⟩
  cases e with
  | normal=>exact hh
  | exit id=>exact h _ _ _ hh
  | ret=>exact h _ _ _ hh
 | range x L=>
  intro fe S Q Q' h hx
  obtain ⟨g,a,b,e,hx⟩:=hx
  exact ⟨g,a,b,e,fun env h1 h2=>XC.mono (hx env h1 h2) fun _ S2 ⟨env2,L2,pe,k1,k2⟩=>⟨env2,L2,pe,k1,h _ _ _ k2⟩⟩
theorem least {p:Nat→Prop}:∀ n,p n→∃ k,p k∧∀ j,p j→k≤j:=by
 intro n
 induction n using Nat.strongRecOn with
 | _ n ih=>
  intro h
  by_cases hh:∃ m,m < n∧p m
  ·obtain ⟨m,h1,h2⟩:=hh
   exact ih m h1 h2
  ·exact ⟨n,h,fun j hj=>Nat.le_of_not_lt fun hlt=>hh ⟨j,hlt,hj⟩⟩
theorem XW_loop {c:XCode} {fe:FEnv} {S:St} {Q:Ex→FEnv→St→Prop} (I:Nat→FEnv→St→Prop) (n:Nat) (h0:I n fe S) (h:∀ k fe S,I k fe S→XW P c fe S (bindL I k Q)):@XLoop P _ ⟨(c,fe,S,Q)⟩:=by
 show XW P (.loop c) fe S Q
 classical
 let μ:FEnv→St→Nat:=fun fe S=>if h:∃ k,I k fe S∧∀ j,I j fe S→k≤j then h.choose else 0
 have hμ:∀ fe S k,I k fe S→I (μ fe S) fe S∧μ fe S≤k:=fun fe S k hk=>by
  have hex:=least (p:=fun k=>I k fe S) k hk
  simp only [μ]
  rw [dif_pos hex]
  exact ⟨hex.choose_spec.1,hex.choose_spec.2 k hk⟩
 refine ⟨fun fe S=>∃ k,I k fe S,μ,⟨n,h0⟩,fun fe S hI=>?_⟩
 obtain ⟨k0,hk0⟩:=hI
 refine XW.mono (fun e fe' S' hh=>?_) (h _ _ _ (hμ fe S k0 hk0).1)
 cases e with
 | normal=>
  obtain ⟨k',hk,hI'⟩:=hh
  exact ⟨⟨k',hI'⟩,Nat.lt_of_le_of_lt (hμ _ _ _ hI').2 hk⟩
 | exit id=>exact hh
 | ret=>exact hh
end
section
variable {Q:FEnv→St→Prop}
def keepP (keep:Bool × Bool) [H:Hold (St × St × Prop)]:Prop:=((keep.1=true→ExtL H.it.1 H.it.2.1)∧(keep.2=true→Ext H.it.1 H.it.2.1))∧H.it.2.2
theorem keepP.intro {k:Bool × Bool} {S S':St} {K:Prop} (h:Ext S S') (hk:K):@keepP k ⟨(S,S',K)⟩:=⟨⟨fun _=>h.toL,fun _=>h⟩,hk⟩
def earlyP (early:Bool) [H:Hold (XOp × (Operand→Value) × St × Prop)]:Prop:=(early=true→∀ id,readsAt H.it.1 H.it.2.1=some id→id < H.it.2.2.1.next)∧H.it.2.2.2
theorem earlyP.intro {e:Bool} {o:XOp} {ρ:Operand→Value} {S0:St} {K:Prop} (h:∀ id,readsAt o ρ=some id→id < S0.next) (hk:K):@earlyP e ⟨(o,ρ,S0,K)⟩:=⟨fun _=>h,hk⟩
def Need (p:Prop) [K:Hold Prop]:Prop:=p∧K.it
theorem Need_true (K:Prop):@Need True ⟨K⟩=K:=by simp [Need]
theorem Need.intro {p K:Prop} (h:p) (k:K):@Need p ⟨K⟩:=⟨h,k⟩
def ptrBlk (v:Value):Option Nat:=match v with
 | .pointer (some a)=>some a.block
 | _=>none
end
def Blk.rd (b:Blk) (o n:Nat):Option (List Value):=
 match b with
 | .cells c _ _ _ _=>if o+n≤c.length then some ((c.drop o).take n) else none
 | _=>none
def Blk.width (b:Blk):Option Nat:=
 match b with
 | .cells _ _ z _ _=>some z
 | _=>none
theorem rd_eq (S:St) (id o n:Nat):S.rd id o n=(S.get id).rd o n:=by unfold St.rd Blk.rd;rfl
theorem Blk.rd_cells (c:List Value) (t:TypeId) (z:Nat) (m:Bool) (an:List Nat) (o n:Nat):(Blk.cells c t z m an).rd o n=if o+n≤c.length then some ((c.drop o).take n) else none:=Eq.trans rfl rfl
theorem Blk.width_cells (c:List Value) (t:TypeId) (z:Nat) (m:Bool) (an:List Nat):(Blk.cells c t z m an).width=some z:=Eq.trans rfl rfl
theorem get_alloc_self (S:St) (b:Blk):(S.alloc b).get S.next=b:=by rw [St.get_alloc,if_pos rfl]
theorem get_write_self (S:St) (id:Nat) (c:List Value) (t:TypeId) (sz:Nat) (an:List Nat):(S.write id c t sz an).get id=.cells c t sz true []:=by rw [St.get_write,if_pos rfl]
theorem get_write_ne (S:St) (id:Nat) (c:List Value) (t:TypeId) (sz:Nat) (j:Nat) (h:j≠id):(S.write id c t sz []).get j=S.get j:=by rw [St.get_write,if_neg h];simp
def ldv (S:St) (agg:Bool) (sz:Nat) (v:Value):Option Value:=match v with
 | .pointer (some ⟨id,o,none⟩)=>((S.get id).rd o sz).bind (part1 agg)
 | _=>none
theorem ldv_ptr (S:St) (agg:Bool) (sz id o:Nat):ldv S agg sz (.pointer (some ⟨id,o,none⟩))=((S.get id).rd o sz).bind (part1 agg):=Eq.trans rfl rfl
def iav (esz:Nat) (x i:Value):Option Value:=match x,i with
 | .slice (some ⟨id,o,none⟩) n _,.int _ i=>if 0≤i∧i < n then some (.pointer (some ⟨id,o+i.toNat * esz,none⟩)) else none
 | _,_=>none
def lenv (x:Value):Option Value:=match x with
 | .slice _ n _=>some (.int .i64 n)
 | _=>none
section
variable {ρ:Operand→Value} {K:Value→St→Prop}
theorem XS_gen {o:XOp} (hn:∀ f a,o≠.call f a) (hn2:∀ x a,o≠.callv x a):XS P o ρ S K = @Got _ (xop o ρ S) ⟨fun r=>K r.1 r.2⟩:=by
 have e:XS P o ρ S K = ∃ v S',xop o ρ S=some (v,S')∧K v S':=by
  unfold XS
  split
  ·exact absurd rfl (hn _ _)
  ·exact absurd rfl (hn2 _ _)
  ·rfl
 rw [e]
 apply propext
 constructor
 ·rintro ⟨v,S',h1,h2⟩;exact ⟨(v,S'),h1,h2⟩
 ·rintro ⟨⟨v,S'⟩,h1,h2⟩;exact ⟨v,S',h1,h2⟩
def slv (S:St) (esz:Nat) (x:Value) (lo hi:Option Value):Option Value:=match x with
 | .slice a n c=>match bound lo 0,bound hi n with
  | some l,some h=>if l≤h∧h≤c then (match a with
   | none=>if c=0 then some (.slice none 0 0) else none
   | some ⟨id,o,none⟩=>if slFit (S.get id).width esz l=true then some (.slice (some ⟨id,o+l * esz,none⟩) (h - l) (c - l)) else none
   | _=>none) else none
  | _,_=>none
 | _=>none
end
theorem xr1_cell (a:Tmp) (agg:Bool) (sz:Nat) (fe:FEnv) (S:St):xr1 fe S (.cell a agg sz)=ldv S agg sz (fe a):=by
 simp only [xr1,ldv,rd_eq]
 first | done | ((repeat' split)<;>first | rfl | (simp_all;done) | grind)
end
end Go.Proofs.YtiinecnjokaejaaGreatDoor

set_option linter.unusedVariables false
namespace Go.Proofs.YtiinecnjokaejaaGreatDoor
open Go Go.RowKit
def NOut (B:Nat) (φ:Emb) (S:St) (w:World) (K:Value→St→Prop):Ending→World→Prop:=fun e w'=>∃ v S',OutC B φ S w v S' e w'∧WS S'∧S.next≤S'.next∧Sc S'.next v∧K v S'
def NG (P:Program) (B:Nat) (g:Go.Fn) (args:Array Value) (S:St) (K:Value→St→Prop):Prop:=
 WS S→ScL S.next args.toList→match g with
 | .func f=>(∃ fn,P.funcs[f]? = some fn∧fn.body.isSome=true∧(fn.name == "runtime.NumGoroutine")=false)∧∀ φ w args',RelA φ args args'→Sim B φ S w→B≤w.heap.size→Calls P f args' w (NOut B φ S w K)
 | .yield id=>∀ φ w args',RelA φ args args'→Sim B φ S w→B≤w.heap.size→∀ s,φ id=some s→Yields P s.b args' w (NOut B φ S w K)
 | _=>False
theorem NOut.mono {B:Nat} {φ:Emb} {S:St} {w:World} {K K':Value→St→Prop} (h:∀ v S',K v S'→K' v S') {e:Ending} {w':World} (k:NOut B φ S w K e w'):NOut B φ S w K' e w':=by
 obtain ⟨v,S',h1,h2,h3,h4,h5⟩:=k
 exact ⟨v,S',h1,h2,h3,h4,h _ _ h5⟩
theorem Yields.mono {P:Program} {l:Nat} {args:Array Value} {w:World} {R R':Ending→World→Prop} (h:Yields P l args w R) (hr:∀ e w',R e w'→R' e w'):Yields P l args w R':=by
 obtain ⟨f,tmps,a,b,h1,h2⟩:=h
 exact ⟨f,tmps,a,b,h1,RoundIn.mono (F:=Fence.wide) h2 hr⟩
theorem NG.mono {P:Program} {B:Nat} {g:Go.Fn} {args:Array Value} {S:St} {K K':Value→St→Prop} (h:NG P B g args S K) (hk:∀ v S',K v S'→K' v S'):NG P B g args S K':=fun h1 h2=>by
 have:=h h1 h2
 cases g with
 | func f=>exact ⟨this.1,fun φ w args' a b c=>(this.2 φ w args' a b c).mono fun e w'=>NOut.mono hk⟩
 | yield id=>exact fun φ w args' a b c s d=>(this φ w args' a b c s d).mono fun e w'=>NOut.mono hk
 | _=>exact this
theorem NG.of {P:Program} [Prim P] (hm:P.follows .mixedOrders=true) {B:Nat} {g:Go.Fn} {args:Array Value} {S:St} {K:Value→St→Prop} (h:XG P g args S K):NG P B g args S K:=fun h1 h2=>by
 obtain ⟨n,v,S',h3,h4⟩:=h h1 h2
 have hws:=xcall_ws P n g args S v S' h3 h1 h2
 have:=call_sound (P:=P) (B:=B) (draw_ok hm) (F:=XF P) (fun f xf hf=>(XF_wf hf).2) (LT:=XL P) (fun L x h=>(XL_wf h).1) (base:=Prim.run P) (Prim.ok B) n g args S v S' h3
 cases g with
 | func f=>exact ⟨this.1,fun φ w args' a b c=>(this.2 φ w args' a b c).mono fun e w' hh=>⟨v,S',hh,hws.1,hws.2.1,hws.2.2,h4⟩⟩
 | yield id=>exact fun φ w args' a b c s d=>(this φ w args' a b c s d).mono fun e w' hh=>⟨v,S',hh,hws.1,hws.2.1,hws.2.2,h4⟩
 | _=>exact this
def NNext (v:Value) (S:St) (K:Value→St→Prop):Prop:=∃ id,v=.pointer (some ⟨id,0,none⟩)∧
 ((∃ s l c,S.get id=.obj (.mapIter none s l c)∧K (.tuple #[.bool false]) S)∨
 ∃ m cl seen es,S.get id=.obj (.mapIter (some m) cl seen cl)∧S.get m=.obj (.map es cl)∧(∀ e∈es,e.2.2 < cl)∧
  ((∀ e∈es,e.2.2∈seen)→K (.tuple #[.bool false]) S)∧∀ e∈es,e.2.2 ∉ seen→K (.tuple #[.bool true,e.1,e.2.1]) (S.put id (.mapIter (some m) cl (seen++[e.2.2]) cl)))
def NS (P:Program) (B:Nat) (o:XOp) (ρ:Operand→Value) (S:St) (K:Value→St→Prop):Prop:=
 match o with
 | .call f args=>NG P B (.func f) (args.map ρ) S K
 | .callv x args=>∃ g a b,ρ x=.func g a b∧NG P B g (a++args.map ρ++b) S K
 | .extra .nextMap [x]=>NNext (ρ x) S K
 | o=>∃ v S',xop o ρ S=some (v,S')∧K v S'
def NO (P:Program) (B:Nat):List XOper→FEnv→St→(FEnv→St→Prop)→Prop
 | [],fe,S,Q=>Q fe S
 | o::r,fe,S,Q=>if fwant fe o.guard=true then NS P B o.op (fev fe) S (fun v S'=>NO P B r (updO fe o.dst v) S' Q) else NO P B r (updO fe o.dst undef) S Q
def NW (P:Program) [Prim P] (B:Nat):XCode→FEnv→St→(Ex→FEnv→St→Prop)→Prop
 | .skip,fe,S,Q=>Q .normal fe S
 | .region ops,fe,S,Q=>NO P B ops fe S (Q .normal)
 | .draw d,fe,S,Q=>XW P (.draw d) fe S Q
 | .seq a b,fe,S,Q=>NW P B a fe S (fun e fe' S'=>match e with
  | .normal=>NW P B b fe' S' Q
  | e=>Q e fe' S')
 | .cond c x y,fe,S,Q=>∃ b,fev fe c=.bool b∧(b=true→NW P B x fe S Q)∧(b=false→NW P B y fe S Q)
 | .block id c,fe,S,Q=>NW P B c fe S (fun e fe' S'=>match e with
  | .exit id'=>if id'=id then Q .normal fe' S' else Q (.exit id') fe' S'
  | e=>Q e fe' S')
 | .loop c,fe,S,Q=>∃ (I:FEnv→St→Prop) (μ:FEnv→St→Nat),I fe S∧∀ fe S,I fe S→NW P B c fe S (fun e fe' S'=>match e with
  | .normal=>I fe' S'∧μ fe' S' < μ fe S
  | e=>Q e fe' S')
 | .exit id,fe,S,Q=>Q (.exit id) fe S
 | .ret,fe,S,Q=>Q .ret fe S
 | .range x L,fe,S,Q=>∃ g a b,fev fe x=.func (.func g) a b∧∀ env:Array Value,toF env=fe→L.n≤env.size→NG P B (.func g) (a++#[Value.func (.yield S.next) #[] #[]]++b) (S.alloc (.loop env L none)) (fun _ S2=>∃ env2 L2 pe,S2.get S.next=.loop env2 L2 pe∧Q (pe.getD .normal) fe (S2.put S.next .gone))
section
variable {P:Program} {B:Nat}
theorem EntsR.mem {φ:Emb} {es:List (Value × Value × Nat)} {l:List MapEntry} (h:EntsR φ es l) {x:Value × Value × Nat} (he:x∈es):∃ e∈l,EntR φ x e:=by
 obtain ⟨i,hi,rfl⟩:=List.getElem_of_mem he
 exact ⟨l[i]'(by rw [← h.1];exact hi),List.getElem_mem _,h.2 i hi (by rw [← h.1];exact hi)⟩
def PostN (B:Nat) (φ:Emb) (S:St) (w:World) (a:Act) (env:Env) (Q:Ex→FEnv→St→Prop):Exit→Act→World→Prop:=fun e a' w'=>
 ∃ ex env' S',PostX B φ S w a (ex,env',S') e a' w'∧WS S'∧S.next≤S'.next∧SE S'.next env'∧env'.size=env.size∧Q ex (toF env') S'
theorem PostN.trans {φ φ1:Emb} {S S1:St} {w w1:World} {a a1:Act} {env env1:Env} {Q:Ex→FEnv→St→Prop} (hk:Keep B φ S w φ1 S1 w1) (hs1:Sim B φ1 S1 w1) (hd:∃ ex,a1.defers=ex++a.defers∧Marks w.heap.size w1 ex) (hn:S.next≤S1.next) (hz:env1.size=env.size) {e:Exit} {a':Act} {w':World} (h:PostN B φ1 S1 w1 a1 env1 Q e a' w'):PostN B φ S w a env Q e a' w':=by
 obtain ⟨ex,env',S',h1,h2,h3,h4,h5,h6⟩:=h
 exact ⟨ex,env',S',PostX.trans hk hs1 hd h1,h2,Nat.le_trans hn h3,h4,h5.trans hz,h6⟩
end
end Go.Proofs.YtiinecnjokaejaaGreatDoor

set_option linter.unusedVariables false
set_option linter.unusedSectionVars false
namespace Go.Proofs.YtiinecnjokaejaaGreatDoor
open Go Go.RowKit
section
variable {P:Program} [Prim P] {B:Nat}
theorem NS.mono {o:XOp} {ρ:Operand→Value} {S:St} {K K':Value→St→Prop} (h:NS P B o ρ S K) (hk:∀ v S',K v S'→K' v S'):NS P B o ρ S K':=by
 unfold NS at *
 split at h
 ·exact NG.mono h hk
 ·obtain ⟨g,a,b,e,h⟩:=h
  exact ⟨g,a,b,e,NG.mono h hk⟩
 ·obtain ⟨id,e,h⟩:=h
  refine ⟨id,e,?_⟩
  rcases h with ⟨s,l,c,h1,h2⟩ | ⟨m,cl,seen,es,h1,h2,h3,h4,h5⟩
  ·exact .inl ⟨s,l,c,h1,hk _ _ h2⟩
  ·exact .inr ⟨m,cl,seen,es,h1,h2,h3,fun a=>hk _ _ (h4 a),fun e he hn=>hk _ _ (h5 e he hn)⟩
 ·obtain ⟨v,S',h1,h2⟩:=h
  exact ⟨v,S',h1,hk _ _ h2⟩
theorem XS.mono' {o:XOp} {ρ:Operand→Value} {S:St} {K K':Value→St→Prop} (h:XS P o ρ S K) (hk:∀ v S',K v S'→K' v S'):XS P o ρ S K':=by
 unfold XS at *
 split at h
 ·exact XC.mono h hk
 ·obtain ⟨g,a,b,e,h⟩:=h
  exact ⟨g,a,b,e,XG.mono h hk⟩
 ·obtain ⟨v,S',h1,h2⟩:=h
  exact ⟨v,S',h1,hk _ _ h2⟩
theorem NW.mono:∀ (c:XCode) (fe:FEnv) (S:St) {Q Q':Ex→FEnv→St→Prop},NW P B c fe S Q→(∀ e fe S,Q e fe S→Q' e fe S)→NW P B c fe S Q':=by
 have hNO:∀ (l:List XOper) (fe:FEnv) (S:St) {Q Q':FEnv→St→Prop},NO P B l fe S Q→(∀ fe S,Q fe S→Q' fe S)→NO P B l fe S Q':=by
  intro l
  induction l with
  | nil=>intro fe S Q Q' h hq;exact hq _ _ h
  | cons o l ih=>
   intro fe S Q Q' h hq
   simp only [NO] at *
   split at h
   ·rename_i hw
    rw [if_pos hw]
    exact NS.mono h fun v S' hh=>ih _ _ hh hq
   ·rename_i hw
    rw [if_neg hw]
    exact ih _ _ h hq
 intro c
 induction c with
 | skip=>intro fe S Q Q' h hq;exact hq _ _ _ h
 | exit id=>intro fe S Q Q' h hq;exact hq _ _ _ h
 | ret=>intro fe S Q Q' h hq;exact hq _ _ _ h
 | region ops=>intro fe S Q Q' h hq;exact hNO _ _ _ h fun fe S=>hq _ _ _
 | draw d=>intro fe S Q Q' h hq;exact XW.mono hq (c:=.draw d) h
 | seq a b iha ihb=>
  intro fe S Q Q' h hq
  refine iha _ _ h fun e fe' S' hh=>?_
  cases e with
  | normal=>exact ihb _ _ hh hq
  | exit id=>exact hq _ _ _ hh
  | ret=>exact hq _ _ _ hh
 | cond c x y ihx ihy=>
  intro fe S Q Q' h hq
  obtain ⟨b,e,h1,h2⟩:=h
  exact ⟨b,e,fun hb=>ihx _ _ (h1 hb) hq,fun hb=>ihy _ _ (h2 hb) hq⟩
 | block id c ih=>
  intro fe S Q Q' h hq
  refine ih _ _ h fun e fe' S' hh=>?_
  cases e with
  | normal=>exact hq _ _ _ hh
  | ret=>exact hq _ _ _ hh
  | exit id'=>
   simp only at hh ⊢
   split at hh
   ·rename_i e;rw [if_pos e];exact hq _ _ _ hh
   ·rename_i e;rw [if_neg e];exact hq _ _ _ hh
 | loop c ih=>
  intro fe S Q Q' h hq
  obtain ⟨I,μ,hI,hr⟩:=h
  refine ⟨I,μ,hI,fun fe S hh=>ih _ _ (hr fe S hh) fun e fe' S' hk=>?_⟩
  cases e with
  | normal=>exact hk
  | exit id=>exact hq _ _ _ hk
  | ret=>exact hq _ _ _ hk
 | range x L=>
  intro fe S Q Q' h hq
  obtain ⟨g,a,b,e,h⟩:=h
  refine ⟨g,a,b,e,fun env h1 h2=>NG.mono (h env h1 h2) ?_⟩
  rintro _ S2 ⟨env2,L2,pe,q1,q2⟩
  exact ⟨env2,L2,pe,q1,hq _ _ _ q2⟩
end
section
variable {B:Nat} {φ φ2:Emb} {S S2:St} {w w2:World}
end
end Go.Proofs.YtiinecnjokaejaaGreatDoor

namespace Go.Proofs.YtiinecnjokaejaaGreatDoor
open Go Go.RowKit
class Enc (α:Type) where
 w:Nat
 e:α→List Value
 len:∀ a,(e a).length=w
 flat:∀ a,allOne (e a)=true
 pos:0 < w
structure Fr (b:Nat) (S S':St):Prop where
 next:S.next≤S'.next
 get:∀ id,id < b→S'.get id=S.get id
theorem Fr.refl (b:Nat) (S:St):Fr b S S:=⟨Nat.le_refl _,fun _ _=>rfl⟩
theorem Fr.trans {b:Nat} {S S' S'':St} (h:Fr b S S') (k:Fr b S' S''):Fr b S S'':=⟨Nat.le_trans h.next k.next,fun id hid=>(k.get id hid).trans (h.get id hid)⟩
theorem Ext.fr {S S':St} (h:Ext S S') {b:Nat} (hb:b≤S.next):Fr b S S':=⟨h.next,fun id hid=>h.get id (Nat.lt_of_lt_of_le hid hb)⟩
theorem Fr.ext {S S':St} (h:Fr S.next S S'):Ext S S':=⟨h.next,h.get⟩
theorem Fr.alloc {b:Nat} (S:St) (k:Blk) (hb:b≤S.next):Fr b S (S.alloc k):=(Ext.alloc S k).fr hb
theorem Fr.write {b:Nat} (S:St) {id:Nat} (c:List Value) (t:TypeId) (z:Nat) {an:List Nat} (hb:b≤id) (ha:∀ j∈an,b≤j):Fr b S (S.write id c t z an):=⟨by simp,fun j hj=>by
 rw [St.get_write,if_neg (by omega),if_neg]
 intro hm
 have:=ha j hm
 omega⟩
theorem Fr.grow {b:Nat} (S:St) {id:Nat} (c:List Value) (t:TypeId) (z:Nat) {an:List Nat} (c2:List Value) (t2:TypeId) (hb:b≤id) (hS:b≤S.next):Fr b S (S.grow id c t z an c2 t2):=⟨by simp [St.grow],fun j hj=>by
 unfold St.grow
 rw [St.get_alloc,if_neg (by simp;omega),St.get_put,if_neg (by omega)]⟩
def w64 (n:Int):Int:=IntKind.i64.wrap n
theorem w64_ok {n:Int} (h : -9223372036854775808≤n) (h':n≤9223372036854775807):w64 n=n:=by
 unfold w64
 rw [IntKind.wrap_i64]
 omega
theorem xbin_quo (a b:Int) (h:b≠0):xbin .quo (.int .i64 a) (.int .i64 b)=some (.int .i64 (w64 (a.tdiv b))):=by simp [xbin,xbinI,w64,h]
theorem xbin_rem (a b:Int) (h:b≠0):xbin .rem (.int .i64 a) (.int .i64 b)=some (.int .i64 (a.tmod b)):=by simp [xbin,xbinI,h]
theorem xbin_eql (a b:Int):xbin .eql (.int .i64 a) (.int .i64 b)=some (.bool (decide (a=b))):=by
 simp only [xbin,xbinI,if_pos];congr 2
theorem xbin_neq (a b:Int):xbin .neq (.int .i64 a) (.int .i64 b)=some (.bool (decide (a≠b))):=by
 simp only [xbin,xbinI,if_pos];congr 2;simp [bne,← Bool.beq_eq_decide_eq]
section
variable {α:Type} [Enc α]
def encs (l:List α):List Value:=l.flatMap Enc.e
@[simp] theorem encs_nil:encs ([]:List α)=[]:=rfl
@[simp] theorem encs_cons (a:α) (l:List α):encs (a::l)=Enc.e a++encs l:=rfl
@[simp] theorem encs_append (l m:List α):encs (l++m)=encs l++encs m:=by simp [encs]
theorem encs_length (l:List α):(encs l).length=l.length * Enc.w α:=by
 induction l with
 | nil=>simp
 | cons a l ih=>simp [ih,Enc.len,Nat.add_mul,Nat.add_comm]
theorem encs_drop (l:List α) (i:Nat):(encs l).drop (i * Enc.w α)=encs (l.drop i):=by
 induction i generalizing l with
 | zero=>simp
 | succ i ih=>
  cases l with
  | nil=>simp
  | cons a l=>
   simp only [encs_cons,List.drop_succ_cons]
   rw [show (i+1) * Enc.w α=(Enc.e a).length+i * Enc.w α by rw [Enc.len,Nat.add_mul];omega,List.drop_append,List.drop_eq_nil_of_le (by omega)]
   simp [ih]
theorem encs_take (l:List α) (i:Nat):(encs l).take (i * Enc.w α)=encs (l.take i):=by
 induction i generalizing l with
 | zero=>simp
 | succ i ih=>
  cases l with
  | nil=>simp
  | cons a l=>
   simp only [encs_cons,List.take_succ_cons]
   rw [show (i+1) * Enc.w α=(Enc.e a).length+i * Enc.w α by rw [Enc.len,Nat.add_mul];omega,List.take_append,List.take_of_length_le (by omega)]
   simp [ih]
theorem encs_flat (l:List α):allOne (encs l)=true:=by
 induction l with
 | nil=>rfl
 | cons a l ih=>
  have h1:=Enc.flat a
  unfold allOne at *
  rw [encs_cons,List.all_append,h1,ih]
  rfl
theorem encs_part (l:List α) (i:Nat) (hi:i < l.length) (off sz:Nat) (h:off+sz≤Enc.w α):((encs l).drop (i * Enc.w α+off)).take sz=((Enc.e l[i]).drop off).take sz:=by
 rw [← List.drop_drop,encs_drop,List.drop_eq_getElem_cons hi,encs_cons,List.drop_append,List.take_append,Enc.len]
 have h0:((Enc.e l[i]).drop off).length=Enc.w α - off:=by simp [Enc.len]
 rw [h0,show sz - (Enc.w α - off)=0 by omega]
 simp
def RdS (S:St) (v:Value) (l:List α):Prop:=
 (v=.slice none 0 0∧l=[])∨∃ id o c cc t mi an,v=.slice (some ⟨id,o,none⟩) l.length c∧l.length≤c∧id < S.next∧S.get id=.cells cc t (Enc.w α) mi an∧o+l.length * Enc.w α≤cc.length∧(cc.drop o).take (l.length * Enc.w α)=encs l
def Own (S:St) (b:Nat) (v:Value) (l:List α):Prop:=
 (v=.slice none 0 0∧l=[])∨∃ id t an,v=.slice (some ⟨id,0,none⟩) l.length l.length∧S.get id=.cells (encs l) t (Enc.w α) true an∧b≤id∧id < S.next∧∀ j∈an,b≤j
theorem RdS.nil (S:St):RdS S (.slice none 0 0) ([]:List α):=.inl ⟨rfl,rfl⟩
theorem Own.nil (S:St) (b:Nat):Own S b (.slice none 0 0) ([]:List α):=.inl ⟨rfl,rfl⟩
theorem Own.rd {S:St} {b:Nat} {v:Value} {l:List α} (h:Own S b v l):RdS S v l:=by
 rcases h with h | ⟨id,t,an,rfl,h1,_,h2,_⟩
 ·exact .inl h
 ·exact .inr ⟨id,0,_,_,t,_,_,rfl,Nat.le_refl _,h2,h1,by rw [encs_length];omega,by simp [← encs_length]⟩
theorem RdS.fr {S S':St} {b:Nat} {v:Value} {l:List α} (h:RdS S v l) (hf:Fr b S S') (hb:S.next≤b):RdS S' v l:=by
 rcases h with h | ⟨id,o,c,cc,t,mi,an,rfl,h1,h2,h3,h4⟩
 ·exact .inl h
 ·exact .inr ⟨id,o,c,cc,t,mi,an,rfl,h1,Nat.lt_of_lt_of_le h2 hf.next,by rw [hf.get id (by omega)];exact h3,h4⟩
theorem RdS.mono {S S':St} {v:Value} {l:List α} (h:RdS S v l) (hf:Ext S S'):RdS S' v l:=h.fr (hf.fr (Nat.le_refl _)) (Nat.le_refl _)
theorem Own.mono {S S':St} {b:Nat} {v:Value} {l:List α} (h:Own S b v l) (hf:Ext S S'):Own S' b v l:=by
 rcases h with h | ⟨id,t,an,rfl,h1,h2,h3,h4⟩
 ·exact .inl h
 ·exact .inr ⟨id,t,an,rfl,by rw [hf.get id h3];exact h1,h2,Nat.lt_of_lt_of_le h3 hf.next,h4⟩
theorem Own.weak {S:St} {b b':Nat} {v:Value} {l:List α} (h:Own S b v l) (hb:b'≤b):Own S b' v l:=by
 rcases h with h | ⟨id,t,an,rfl,h1,h2,h3,h4⟩
 ·exact .inl h
 ·exact .inr ⟨id,t,an,rfl,h1,by omega,h3,fun j hj=>Nat.le_trans hb (h4 j hj)⟩
theorem RdS.len {S:St} {v:Value} {l:List α} (h:RdS S v l):lenv v=some (.int .i64 l.length):=by
 rcases h with ⟨rfl,rfl⟩ | ⟨id,o,c,cc,t,mi,an,rfl,_⟩<;>rfl
theorem RdS.vlen {S:St} {v:Value} {l:List α} (h:RdS S v l):vlen v=some l.length:=by
 rcases h with ⟨rfl,rfl⟩ | ⟨id,o,c,cc,t,mi,an,rfl,_⟩<;>rfl
theorem RdS.elems {S:St} {v:Value} {l:List α} (h:RdS S v l):S.elems (Enc.w α) v=some (encs l):=by
 rcases h with ⟨rfl,rfl⟩ | ⟨id,o,c,cc,t,mi,an,rfl,_,_,h1,h2,h3⟩
 ·rfl
 ·simp only [St.elems,rd_eq,h1,Blk.rd_cells]
  rw [if_pos h2,h3]
theorem RdS.at {S:St} {v:Value} {l:List α} (h:RdS S v l) (k:IntKind) (i:Nat) (hi:i < l.length):∃ id o,iav (Enc.w α) v (.int k i)=some (.pointer (some ⟨id,o,none⟩))∧id < S.next∧∀ S':St,S'.get id=S.get id→∀ off sz,off+sz≤Enc.w α→(S'.get id).rd (o+off) sz=some (((Enc.e l[i]).drop off).take sz):=by
 rcases h with ⟨rfl,rfl⟩ | ⟨id,o,c,cc,t,mi,an,rfl,h0,h00,h1,h2,h3⟩
 ·exact absurd hi (by simp)
 ·have hm:i * Enc.w α+Enc.w α≤l.length * Enc.w α:=by
   have:=Nat.mul_le_mul_right (Enc.w α) (show i+1≤l.length by omega)
   rw [Nat.add_mul] at this;omega
  refine ⟨id,o+i * Enc.w α,?_,h00,fun S' hS off sz hsz=>?_⟩
  ·simp only [iav]
   rw [if_pos ⟨by omega,by omega⟩]
   simp
  ·rw [hS,h1,Blk.rd_cells,if_pos (by omega),← encs_part l i hi off sz hsz,← h3,List.drop_take,List.take_take,Nat.min_eq_left (by omega),List.drop_drop,Nat.add_assoc]
theorem RdS.get {S:St} {v:Value} {l:List α} (h:RdS S v l) (k:IntKind) (i:Nat) (hi:i < l.length):∃ id o,iav (Enc.w α) v (.int k i)=some (.pointer (some ⟨id,o,none⟩))∧id < S.next∧(S.get id).rd o (Enc.w α)=some (Enc.e l[i]):=by
 obtain ⟨id,o,h1,h2,h3⟩:=h.at k i hi
 refine ⟨id,o,h1,h2,?_⟩
 have:=h3 S rfl 0 (Enc.w α) (by omega)
 rw [Nat.add_zero,List.drop_zero,List.take_of_length_le (by rw [Enc.len];exact Nat.le_refl _)] at this
 exact this
theorem Own.append {S:St} {b:Nat} {v x:Value} {l m:List α} (h:Own S b v l) (hx:RdS S x m) (hb:b≤S.next) (e:TypeId) (bytes:Nat) (hr:(l.length+m.length) * bytes≤reach) (hbytes:0 < bytes) :
  ∃ r S',xappend e (Enc.w α) bytes v x S=some (r,S')∧Own S' b r (l++m)∧Fr b S S':=by
 have hn:=hx.elems
 have hl:=hx.vlen
 unfold xappend
 rw [hn,hl]
 simp only
 by_cases hm:m.length=0
 ·rw [if_pos hm]
  obtain rfl:m=[]:=List.eq_nil_of_length_eq_zero hm
  rcases h with ⟨rfl,rfl⟩ | ⟨id,t,an,rfl,h1,h2⟩
  ·exact ⟨_,_,rfl,.inl ⟨rfl,rfl⟩,Fr.refl _ _⟩
  ·exact ⟨_,_,rfl,.inr ⟨id,t,an,by simp,by simpa using h1,h2⟩,Fr.refl _ _⟩
 ·rw [if_neg hm]
  have hc:(allOne (encs m) && decide (0 < Enc.w α) && decide (0 < bytes))=true:=by
   simp [encs_flat,Enc.pos,hbytes]
  rw [if_pos hc]
  rcases h with ⟨rfl,rfl⟩ | ⟨id,t,an,rfl,h1,h2,h3,h4⟩
  ·simp only
   rw [if_pos (by simpa using hr)]
   exact ⟨_,_,rfl,.inr ⟨S.next,e,[],by simp,by rw [get_alloc_self];simp,hb,by simp,by simp⟩,Fr.alloc S _ hb⟩
  ·simp only [h1]
   rw [if_pos ⟨trivial,trivial,by rw [encs_length];omega⟩,if_pos hr]
   refine ⟨_,_,rfl,.inr ⟨S.next,e,id::an,by simp,?_,hb,by simp [St.grow],?_⟩,Fr.grow S _ _ _ _ _ h2 hb⟩
   ·unfold St.grow
    rw [St.get_alloc,if_pos (by simp)]
    simp
   ·intro j hj
    rcases List.mem_cons.1 hj with rfl | hj
    ·exact h2
    ·exact h4 j hj
theorem ExtL.grow {S:St} {id:Nat} {c:List Value} {t:TypeId} {z:Nat} {an:List Nat} (hg:S.get id=.cells c t z true an) (c2:List Value) (t2:TypeId):ExtL S (S.grow id c t z an c2 t2):=⟨by simp [St.grow],fun j hj=>by
 unfold St.grow
 rw [St.get_alloc,if_neg (by simp;omega),St.get_put]
 split
 ·rename_i e;subst e;rw [hg];rfl
 ·rfl⟩
theorem RdS.part {S:St} {v:Value} {l:List α} (h:RdS S v l) (lo hi:Nat) (h1:lo≤hi) (h2:hi≤l.length) {vl vh:Option Value} (hl:bound vl 0=some lo) (hh:bound vh l.length=some hi) :
  ∃ r,slv S (Enc.w α) v vl vh=some r∧RdS S r ((l.take hi).drop lo):=by
 rcases h with ⟨rfl,rfl⟩ | ⟨id,o,c,cc,t,mi,an,rfl,h0,h00,h3,h4,h5⟩
 ·obtain rfl:hi=0:=by simpa using h2
  obtain rfl:lo=0:=by omega
  have hh':bound vh 0=some 0:=hh
  exact ⟨_,by simp only [slv,hl,hh'];rfl,.inl ⟨rfl,by simp⟩⟩
 ·refine ⟨_,by simp only [slv,hl,hh];rw [if_pos ⟨h1,by omega⟩,h3,Blk.width_cells,if_pos (slFit_self _ _)],.inr ⟨id,o+lo * Enc.w α,c - lo,cc,t,mi,an,?_,?_,h00,h3,?_,?_⟩⟩
  ·simp only [List.length_drop,List.length_take,Nat.min_eq_left h2]
  ·simp only [List.length_drop,List.length_take];omega
  ·have hm:hi * Enc.w α≤l.length * Enc.w α:=Nat.mul_le_mul_right _ h2
   have hm2:lo * Enc.w α≤hi * Enc.w α:=Nat.mul_le_mul_right _ h1
   simp only [List.length_drop,List.length_take,Nat.min_eq_left h2,Nat.sub_mul]
   omega
  ·have hm:hi * Enc.w α≤l.length * Enc.w α:=Nat.mul_le_mul_right _ h2
   have hm2:lo * Enc.w α≤hi * Enc.w α:=Nat.mul_le_mul_right _ h1
   simp only [List.length_drop,List.length_take,Nat.min_eq_left h2,Nat.sub_mul]
   rw [← encs_drop,← encs_take,← h5,List.take_take,List.drop_take,List.drop_drop,Nat.min_eq_left hm]
end
end Go.Proofs.YtiinecnjokaejaaGreatDoor

set_option linter.unusedVariables false
set_option linter.unnecessarySimpa false
namespace Go.Proofs.YtiinecnjokaejaaGreatDoor
open Go Go.RowKit
instance:Enc Int:=⟨1,fun n=>[.int .i64 n],fun _=>rfl,fun _=>rfl,by decide⟩
section
variable {α:Type} [Enc α]
theorem RdS.one (S:St) (a:α) (t:TypeId):RdS (S.alloc (.cells (Enc.e a) t (Enc.w α) true [])) (.slice (some ⟨S.next,0,none⟩) 1 1) [a]:=
 .inr ⟨S.next,0,1,_,t,true,[],rfl,Nat.le_refl _,by simp,by rw [get_alloc_self],by simp [Enc.len],by simp [← Enc.len a]⟩
end
end Go.Proofs.YtiinecnjokaejaaGreatDoor

namespace Go.Proofs.YtiinecnjokaejaaGreatDoor
open Go Go.RowKit Go.WideShapes
structure Begin (w:World) (φ:Emb) (S:St):Prop where
 sim:Sim w.heap.size φ S w
 ws:WS S
 still:∀ id,(S.get id).wr=false
def St.zero:St:=⟨.leaf,0⟩
theorem get_zero (id:Nat):St.zero.get id=.gone:=rfl
def Emb.zero (t:Option Nat):Emb:=⟨fun _=>none,t⟩
theorem Emb.zero_at {t:Option Nat} {id:Nat} {s:Spot} (h:(Emb.zero t) id=some s):False:=Option.some_ne_none s h.symm
theorem Begin.tab {w:World} {t:Option Nat} (ht:GlobOK w.heap.size (Emb.zero t) w):Begin w (Emb.zero t) St.zero:=
 ⟨⟨(fun _ _ h=>(Emb.zero_at h).elim),(fun _ _=>rfl),(fun _ _ _ _ _ _ _ h=>(Emb.zero_at h).elim),(fun _ _ _ _ _ _ h=>(Emb.zero_at h).elim),ht,(fun _ _ _ h=>(Emb.zero_at h).elim)⟩,⟨(fun _ _=>rfl),(fun _ _ _ _ _ _ h=>nomatch h),(fun _ _ h=>nomatch h)⟩,fun _=>rfl⟩
theorem Begin.zero (w:World) (hg:gOn=false:=by rfl):Begin w (Emb.zero none) St.zero:=Begin.tab fun h=>by rw [hg] at h;cases h
def HasRow (w:World) (a:Option Addr):Prop:=∀ x,a=some x→x.spot=none∧∃ cs t fz,w.heap[x.block]? = some (.cells cs t fz)
theorem okWide_has {P:Program} {w:World} {r:Go.Reach} {base:Nat} {t e:TypeId} {a:Option Addr} {n c:Nat} (hu:P.underlying t=some (.slice e)) (h:Value.okWide P w r base t (.slice a n c)):HasRow w a:=by
 intro x hx
 subst hx
 simp only [Value.okWide,hu,Cell.okWide,Cell.ok,World.has] at h
 obtain ⟨_,_,_,hsp,row,cells,hsh,_⟩:=h
 refine ⟨hsp,?_⟩
 unfold World.shape? at hsh
 split at hsh
 ·rename_i cs t fz e
  exact ⟨cs,t,fz,e⟩
 ·cases hsh
section
variable {α:Type} [Enc α]
theorem Begin.row {w:World} {φ:Emb} {S:St} (h:Begin w φ S) {a:Option Addr} {len cap:Nat} (zs:List α) (hflat:∀ z∈zs,flatL (Enc.e z)=true)
  (hrow:(a=none∧len=0∧cap=0∧zs=[])∨∃ x,a=some x∧len≤cap∧zs.length=cap∧∀ (i:Nat) v,(encs zs)[i]? = some v→w.cell? (x.add i)=some v)
  (hy:HasRow w a) (t:TypeId) :
  ∃ φ' S' v,Begin w φ' S'∧Emb.le φ φ'∧Ext S S'∧Rel φ' v (.slice a len cap)∧RdS S' v (zs.take len)∧Sc S'.next v:=by
 rcases hrow with ⟨rfl,rfl,rfl,rfl⟩ | ⟨x,rfl,hlc,hzl,hcell⟩
 ·exact ⟨φ,S,.slice none 0 0,h,Emb.le.refl _,Ext.refl _,.sliceNil,.inl ⟨rfl,rfl⟩,.sliceNil 0 0⟩
 ·obtain ⟨hsp,cs,t',fz,hheap⟩:=hy x rfl
  obtain ⟨b,o,sp⟩:=x
  simp only at hsp hheap
  subst hsp
  have hbsz:b < w.heap.size:=(Array.getElem?_eq_some_iff.1 hheap).1
  have hlen:(encs zs).length=cap * Enc.w α:=by rw [encs_length,hzl]
  have hcell':∀ (i:Nat) v,(encs zs)[i]? = some v→cs[o+i]? = some v:=fun i v hv=>by
   have:=hcell i v hv
   rw [Addr.add_lit] at this
   unfold World.cell? at this
   simpa [hheap] using this
  obtain ⟨s,hsb,hs1,hs2,hs3⟩:∃ s:Spot,s.b=b∧s.sz=Enc.w α∧s.base+s.ext≤cs.size∧((s.base=o∧s.ext=cap * Enc.w α)∨(cap=0∧s.ext=0)):=by
   by_cases hc:cap=0
   ·exact ⟨⟨b,0,0,Enc.w α⟩,rfl,rfl,by simp,.inr ⟨hc,rfl⟩⟩
   ·refine ⟨⟨b,o,cap * Enc.w α,Enc.w α⟩,rfl,rfl,?_,.inl ⟨rfl,rfl⟩⟩
    have hpos:0 < cap * Enc.w α:=Nat.mul_pos (by omega) Enc.pos
    have hlt:cap * Enc.w α - 1 < (encs zs).length:=by omega
    have:=hcell' _ _ (List.getElem?_eq_getElem hlt)
    have:=(Array.getElem?_eq_some_iff.1 this).1
    show o+cap * Enc.w α≤cs.size
    omega
  have hf:=h.sim.fresh
  have hle:=Emb.le_add φ S.next s hf
  have hcl:((encs zs).take (len * Enc.w α)).length=len * Enc.w α:=by
   have:len * Enc.w α≤cap * Enc.w α:=Nat.mul_le_mul_right _ hlc
   simp;omega
  have hle2:len * Enc.w α≤cap * Enc.w α:=Nat.mul_le_mul_right _ hlc
  have hfl:flatL ((encs zs).take (len * Enc.w α))=true:=by
   rw [encs_take]
   simp only [flatL,List.all_eq_true]
   intro v hv
   simp only [encs,List.mem_flatMap] at hv
   obtain ⟨z,hz,hv⟩:=hv
   have:=hflat z (List.mem_of_mem_take hz)
   simp only [flatL,List.all_eq_true] at this
   exact this v hv
  have hget:∀ j,(S.alloc (.cells ((encs zs).take (len * Enc.w α)) t (Enc.w α) false [])).get j=if j=S.next then .cells ((encs zs).take (len * Enc.w α)) t (Enc.w α) false [] else S.get j:=St.get_alloc S _
  have hstill:∀ id,((S.alloc (.cells ((encs zs).take (len * Enc.w α)) t (Enc.w α) false [])).get id).wr=false:=by
   intro id
   rw [hget]
   split
   ·rfl
   ·exact h.still id
  refine ⟨φ.add S.next s,S.alloc (.cells ((encs zs).take (len * Enc.w α)) t (Enc.w α) false []),.slice (some ⟨S.next,0,none⟩) len len,⟨⟨fun id s' e=>?_,fun id hi=>?_,fun id s' c t1 sz m an e e2=>?_,(fun id s' c t1 sz an e e2=>absurd (wr_cells e2) (by rw [hstill];simp)),h.sim.loops.1.of (Nat.le_refl _) hle.tab (fun _ _ _ _ e=>e),fun id s' o e e2=>absurd (wr_obj e2) (by rw [hstill];simp)⟩,h.ws.alloc (ScL.flat hfl) _ _ _ _,hstill⟩,hle,Ext.alloc _ _,?_,?_,.slice _ _ _ _ (by simp)⟩
  ·by_cases hi:id=S.next
   ·subst hi
    rw [Emb.add_same] at e
    obtain rfl:=Option.some.inj e
    exact ⟨by simp,by omega⟩
   ·rw [Emb.add_other _ _ hi] at e
    have:=h.sim.dom id s' e
    exact ⟨by simp;omega,this.2⟩
  ·rw [hget,if_neg (by simp at hi;omega)]
   exact h.sim.gone id (by simp at hi;omega)
  ·rw [hget] at e2
   by_cases hi:id=S.next
   ·subst hi
    rw [if_pos rfl] at e2
    rw [Emb.add_same] at e
    obtain rfl:=Option.some.inj e
    obtain ⟨rfl,rfl,rfl,rfl,rfl⟩:=Blk.cells.inj e2
    have hext:len * Enc.w α≤s.ext:=by
     rcases hs3 with h | h
     ·omega
     ·rw [h.1] at hle2;omega
    refine ⟨hs1,by rw [hcl];exact hext,(fun x=>nomatch x),cs,t',⟨fz,by rw [hsb];exact hheap,fun x=>nomatch x⟩,hs2,fun i v hv=>?_⟩
    have hi:i < len * Enc.w α:=by have:=(List.getElem?_eq_some_iff.1 hv).1;omega
    have hv2:(encs zs)[i]? = some v:=by rw [List.getElem?_take] at hv;rwa [if_pos hi] at hv
    have hfv:flat1 v=true:=by simp only [flatL,List.all_eq_true] at hfl;exact hfl v (List.mem_of_getElem? hv)
    refine ⟨flat1_one hfv,v,?_,flat1_rel hfv _⟩
    rcases hs3 with h | h
    ·rw [h.1];exact hcell' i v hv2
    ·rw [h.1] at hle2;omega
   ·rw [if_neg hi] at e2
    rw [Emb.add_other _ _ hi] at e
    obtain ⟨a1,a2,a3,cs',t2,a4,a5,a6⟩:=h.sim.blk id s' c t1 sz m an e e2
    refine ⟨a1,a2,a3,cs',t2,a4,a5,fun i v hv=>?_⟩
    obtain ⟨b1,v',b2,b3⟩:=a6 i v hv
    exact ⟨b1,v',b2,b3.mono hle⟩
  ·rcases hs3 with h3 | h3
   ·have:=Rel.slice (φ:=φ.add S.next s) S.next 0 len len cap s (Emb.add_same _ _ _) (Nat.le_refl _) hlc (by rw [hs1,h3.2];omega)
    simpa [hsb,h3.1] using this
   ·obtain rfl:cap=0:=h3.1
    obtain rfl:len=0:=by omega
    have:=Rel.sliceEnd (φ:=φ.add S.next s) S.next 0 o s (Emb.add_same _ _ _)
    simpa [hsb] using this
  ·have htl:(zs.take len).length=len:=by simp;omega
   refine .inr ⟨S.next,0,len,_,t,false,[],by rw [htl],by omega,by simp,by rw [get_alloc_self],by rw [htl,hcl];omega,?_⟩
   rw [htl,List.drop_zero,List.take_of_length_le (by omega),encs_take]
end
theorem encs_ints (zs:List Int):encs zs=zs.map fun n=>Value.int .i64 n:=by
 induction zs with
 | nil=>rfl
 | cons z zs ih=>rw [encs_cons,ih];rfl
theorem Begin.ints {w:World} {φ:Emb} {S:St} (h:Begin w φ S) {a:Option Addr} {len cap:Nat} {zs:List Int}
  (hrow:(a=none∧len=0∧cap=0∧zs=[])∨∃ x,a=some x∧len≤cap∧cap≤maxLen∧zs.length=cap∧(∀ i,i < zs.length→w.cell? (x.add i)=some (.int .i64 (zs.getD i 0)))∧∀ n∈zs,(Lit.int .i64 n).wf=true)
  (hy:HasRow w a) (t:TypeId) :
  ∃ φ' S' v,Begin w φ' S'∧Emb.le φ φ'∧Ext S S'∧Rel φ' v (.slice a len cap)∧RdS S' v (zs.take len)∧Sc S'.next v:=
 h.row zs (fun _ _=>rfl) (by
  rcases hrow with h | ⟨x,h1,h2,h3,h4,h5,h6⟩
  ·exact .inl h
  ·refine .inr ⟨x,h1,h2,h4,fun i v hv=>?_⟩
   rw [encs_ints,List.getElem?_map,Option.map_eq_some_iff] at hv
   obtain ⟨n,hn,rfl⟩:=hv
   obtain ⟨hi,rfl⟩:=List.getElem?_eq_some_iff.1 hn
   rw [h5 i hi]
   simp [List.getD_eq_getElem?_getD,hi]) hy t
theorem wf_i64 {n:Int} (h:(Lit.int .i64 n).wf=true) : -9223372036854775808≤n∧n≤9223372036854775807:=by
 simp [Lit.wf,IntKind.min,IntKind.max,IntKind.bits,IntKind.signed] at h
 omega
theorem wf_ints {k:Nat} {w:World} {a:Option Addr} {len cap:Nat} {zs:List Int}
  (hrow:(a=none∧len=0∧cap=0∧zs=[])∨∃ x,a=some x∧len≤cap∧cap≤maxLen∧zs.length=cap∧(∀ i,i < zs.length→w.cell? (x.add i)=some (.int .i64 (zs.getD i 0)))∧∀ n∈zs,(Lit.int .i64 n).wf=true) :
  ∀ n∈zs.take k,-9223372036854775808≤n∧n≤9223372036854775807:=by
 intro n hn
 have hn:=List.mem_of_mem_take hn
 rcases hrow with ⟨_,_,_,rfl⟩ | ⟨x,h1,h2,h3,h4,h5,h6⟩
 ·cases hn
 ·exact wf_i64 (h6 n hn)
theorem XC.law {P:Program} [Prim P] (hm:P.follows .mixedOrders=true) {f:FuncId} {args args':Array Value} {S:St} {φ:Emb} {w:World} (h:XC P f args S fun r S'=>Ext S S'∧r=.bool true) (hb:Begin w φ S)
  (ha:ScL S.next args.toList) (hargs:RelL φ args.toList args'.toList):Calls P f args' w fun e w'=>e=.returned (.bool true)∧Below w.heap.size w w':=by
 have hA:RelA φ args args':=by
  have:=hargs.toA
  simpa using this
 refine (h.calls hm hb.ws ha hA hb.sim (Nat.le_refl _)).mono ?_
 rintro e w' ⟨φ',v,v',S',rfl,hr,hs,hk,_,rfl⟩
 exact ⟨by rw [bool_inv hr],hk.below hb.sim (Nat.le_refl _)⟩
end Go.Proofs.YtiinecnjokaejaaGreatDoor

set_option linter.unusedVariables false
set_option linter.unnecessarySimpa false
namespace Go.Proofs.YtiinecnjokaejaaGreatDoor
open Go Go.RowKit
abbrev Col:=Nat→Nat
structure Chg (col:Col) (c:Nat) (S:St) (col':Col) (S':St):Prop where
 next:S.next≤S'.next
 hcol:∀ id,id < S.next→col' id=col id
 get:∀ id,id < S.next→col id≠c→S'.get id=S.get id
theorem Chg.refl (col:Col) (c:Nat) (S:St):Chg col c S col S:=⟨Nat.le_refl _,fun _ _=>rfl,fun _ _ _=>rfl⟩
theorem Chg.of_ext {col:Col} {c:Nat} {S S':St} (h:Ext S S'):Chg col c S col S':=⟨h.next,fun _ _=>rfl,fun id hid _=>h.get id hid⟩
theorem Chg.trans {col col' col'':Col} {c:Nat} {S S' S'':St} (h:Chg col c S col' S') (k:Chg col' c S' col'' S''):Chg col c S col'' S'':=
 ⟨Nat.le_trans h.next k.next,fun id hid=>(k.hcol id (Nat.lt_of_lt_of_le hid h.next)).trans (h.hcol id hid),fun id hid hc=>(k.get id (Nat.lt_of_lt_of_le hid h.next) (by rw [h.hcol id hid];exact hc)).trans (h.get id hid hc)⟩
def paint (col:Col) (S:St) (c:Nat):Col:=fun id=>if id < S.next then col id else c
theorem paint_new (col:Col) (S:St) (c:Nat) {id:Nat} (h:S.next≤id):paint col S c id=c:=by unfold paint;rw [if_neg (by omega)]
theorem paint_old (col:Col) (S:St) (c:Nat) {id:Nat} (h:id < S.next):paint col S c id=col id:=by unfold paint;rw [if_pos h]
theorem Chg.paint {col:Col} {c d:Nat} {S S':St} (h:Chg col c S col S'):Chg col c S (Go.Proofs.YtiinecnjokaejaaGreatDoor.paint col S d) S':=
 ⟨h.next,fun id hid=>paint_old _ _ _ hid,h.get⟩
structure Floor (col:Col) (S0 S:St):Prop where
 hcol:∀ id,id < S0.next→col id=0
 ext:Ext S0 S
def BoxK (S:St) (col:Col) (c:Nat) (id:Nat) (cs:List Value) (t:TypeId) (z:Nat):Prop:=S.get id=.cells cs t z true []∧col id=c∧id < S.next
theorem BoxK.keep {S S':St} {col col':Col} {c c' id:Nat} {cs:List Value} {t:TypeId} {z:Nat} (h:BoxK S col c id cs t z) (k:Chg col c' S col' S') (hc:c≠c'):BoxK S' col' c id cs t z:=
 ⟨by rw [k.get id h.2.2 (by rw [h.2.1];exact hc)];exact h.1,(k.hcol id h.2.2).trans h.2.1,Nat.lt_of_lt_of_le h.2.2 k.next⟩
theorem BoxK.mono {S S':St} {col:Col} {c id:Nat} {cs:List Value} {t:TypeId} {z:Nat} (h:BoxK S col c id cs t z) (k:Ext S S'):BoxK S' col c id cs t z:=
 ⟨by rw [k.get id h.2.2];exact h.1,h.2.1,Nat.lt_of_lt_of_le h.2.2 k.next⟩
theorem BoxK.alloc (S:St) (col:Col) (c c':Nat) (cs:List Value) (t:TypeId) (z:Nat):BoxK (S.alloc (.cells cs t z true [])) (paint col S c) c S.next cs t z∧Chg col c' S (paint col S c) (S.alloc (.cells cs t z true [])):=
 ⟨⟨get_alloc_self _ _,paint_new _ _ _ (Nat.le_refl _),by simp⟩,(Chg.of_ext (Ext.alloc _ _)).paint⟩
theorem BoxK.write {S:St} {col:Col} {c id:Nat} {cs:List Value} {t:TypeId} {z:Nat} (h:BoxK S col c id cs t z) (cs':List Value):BoxK (S.write id cs' t z []) col c id cs' t z∧Chg col c S col (S.write id cs' t z []):=by
 refine ⟨⟨get_write_self _ _ _ _ _ _,h.2.1,by simpa using h.2.2⟩,⟨by simp,fun _ _=>rfl,fun j _ hc=>?_⟩⟩
 rw [get_write_ne _ _ _ _ _ _ (fun e=>hc (by rw [e];exact h.2.1))]
section
variable {α:Type} [Enc α]
def OwnK (S:St) (col:Col) (c:Nat) (v:Value) (l:List α):Prop:=
 (v=.slice none 0 0∧l=[])∨∃ id t an,v=.slice (some ⟨id,0,none⟩) l.length l.length∧S.get id=.cells (encs l) t (Enc.w α) true an∧col id=c∧id < S.next∧∀ j∈an,col j=c∧j < S.next
theorem OwnK.nil (S:St) (col:Col) (c:Nat):OwnK S col c (.slice none 0 0) ([]:List α):=.inl ⟨rfl,rfl⟩
theorem OwnK.rd {S:St} {col:Col} {c:Nat} {v:Value} {l:List α} (h:OwnK S col c v l):RdS S v l:=by
 rcases h with h | ⟨id,t,an,rfl,h1,_,h2,_⟩
 ·exact .inl h
 ·exact .inr ⟨id,0,_,_,t,_,_,rfl,Nat.le_refl _,h2,h1,by rw [encs_length];omega,by simp [← encs_length]⟩
theorem OwnK.keep {S S':St} {col col':Col} {c c':Nat} {v:Value} {l:List α} (h:OwnK S col c v l) (k:Chg col c' S col' S') (hc:c≠c'):OwnK S' col' c v l:=by
 rcases h with h | ⟨id,t,an,rfl,h1,h2,h3,h4⟩
 ·exact .inl h
 ·exact .inr ⟨id,t,an,rfl,by rw [k.get id h3 (by rw [h2];exact hc)];exact h1,(k.hcol id h3).trans h2,Nat.lt_of_lt_of_le h3 k.next,fun j hj=>⟨(k.hcol j (h4 j hj).2).trans (h4 j hj).1,Nat.lt_of_lt_of_le (h4 j hj).2 k.next⟩⟩
theorem OwnK.mono {S S':St} {col:Col} {c:Nat} {v:Value} {l:List α} (h:OwnK S col c v l) (k:Ext S S'):OwnK S' col c v l:=by
 rcases h with h | ⟨id,t,an,rfl,h1,h2,h3,h4⟩
 ·exact .inl h
 ·exact .inr ⟨id,t,an,rfl,by rw [k.get id h3];exact h1,h2,Nat.lt_of_lt_of_le h3 k.next,fun j hj=>⟨(h4 j hj).1,Nat.lt_of_lt_of_le (h4 j hj).2 k.next⟩⟩
theorem OwnK.own {S:St} {col:Col} {c:Nat} {v:Value} {l:List α} {b:Nat} (h:OwnK S col c v l) (hb:∀ id,id < b→col id≠c):Own S b v l:=by
 rcases h with h | ⟨id,t,an,rfl,h1,h2,h3,h4⟩
 ·exact .inl h
 ·exact .inr ⟨id,t,an,rfl,h1,Nat.le_of_not_lt fun hlt=>hb id hlt h2,h3,fun j hj=>Nat.le_of_not_lt fun hlt=>hb j hlt (h4 j hj).1⟩
theorem OwnK.append {S:St} {col:Col} {c:Nat} {v x:Value} {l m:List α} (h:OwnK S col c v l) (hx:RdS S x m) (e:TypeId) (bytes:Nat) (hr:(l.length+m.length) * bytes≤reach) (hbytes:0 < bytes) :
  ∃ r S' col',xappend e (Enc.w α) bytes v x S=some (r,S')∧OwnK S' col' c r (l++m)∧Chg col c S col' S'∧ExtL S S':=by
 have hn:=hx.elems
 have hl:=hx.vlen
 unfold xappend
 rw [hn,hl]
 simp only
 by_cases hm:m.length=0
 ·rw [if_pos hm]
  obtain rfl:m=[]:=List.eq_nil_of_length_eq_zero hm
  rcases h with ⟨rfl,rfl⟩ | ⟨id,t,an,rfl,h1,h2⟩
  ·exact ⟨_,_,col,rfl,.inl ⟨rfl,rfl⟩,Chg.refl _ _ _,ExtL.refl _⟩
  ·exact ⟨_,_,col,rfl,.inr ⟨id,t,an,by simp,by simpa using h1,h2⟩,Chg.refl _ _ _,ExtL.refl _⟩
 ·rw [if_neg hm]
  have hc:(allOne (encs m) && decide (0 < Enc.w α) && decide (0 < bytes))=true:=by
   simp [encs_flat,Enc.pos,hbytes]
  rw [if_pos hc]
  rcases h with ⟨rfl,rfl⟩ | ⟨id,t,an,rfl,h1,h2,h3,h4⟩
  ·simp only
   rw [if_pos (by simpa using hr)]
   exact ⟨_,_,paint col S c,rfl,.inr ⟨S.next,e,[],by simp,by rw [get_alloc_self];simp,paint_new _ _ _ (Nat.le_refl _),by simp,by simp⟩,(Chg.of_ext (Ext.alloc S _)).paint,(Ext.alloc _ _).toL⟩
  ·simp only [h1]
   rw [if_pos ⟨trivial,trivial,by rw [encs_length];omega⟩,if_pos hr]
   refine ⟨_,_,paint col S c,rfl,.inr ⟨S.next,e,id::an,by simp,?_,paint_new _ _ _ (Nat.le_refl _),by simp [St.grow],?_⟩,⟨by simp [St.grow],fun j hj=>paint_old _ _ _ hj,fun j hj hc=>?_⟩,ExtL.grow h1 _ _⟩
   ·unfold St.grow
    rw [St.get_alloc,if_pos (by simp)]
    simp
   ·intro j hj
    have hj':col j=c∧j < S.next:=by
     rcases List.mem_cons.1 hj with rfl | hj
     ·exact ⟨h2,h3⟩
     ·exact h4 j hj
    exact ⟨by rw [paint_old _ _ _ hj'.2];exact hj'.1,by have:=hj'.2;simp [St.grow];omega⟩
   ·unfold St.grow
    rw [St.get_alloc,if_neg (by simp;omega),St.get_put,if_neg (fun e=>hc (by rw [e];exact h2))]
end
structure ChgP (col:Col) (C:Nat→Prop) (S:St) (col':Col) (S':St):Prop where
 next:S.next≤S'.next
 hcol:∀ id,id < S.next→col' id=col id
 get:∀ id,id < S.next→¬ C (col id)→S'.get id=S.get id
theorem ChgP.of_ext {col:Col} {C:Nat→Prop} {S S':St} (h:Ext S S'):ChgP col C S col S':=⟨h.next,fun _ _=>rfl,fun id hid _=>h.get id hid⟩
theorem ChgP.trans {col col' col'':Col} {C:Nat→Prop} {S S' S'':St} (h:ChgP col C S col' S') (k:ChgP col' C S' col'' S''):ChgP col C S col'' S'':=
 ⟨Nat.le_trans h.next k.next,fun id hid=>(k.hcol id (Nat.lt_of_lt_of_le hid h.next)).trans (h.hcol id hid),fun id hid hc=>(k.get id (Nat.lt_of_lt_of_le hid h.next) (by rw [h.hcol id hid];exact hc)).trans (h.get id hid hc)⟩
theorem Floor.mono {col:Col} {S0 S S':St} (h:Floor col S0 S) (k:Ext S S'):Floor col S0 S':=⟨h.hcol,h.ext.trans k⟩
end Go.Proofs.YtiinecnjokaejaaGreatDoor

set_option linter.unusedVariables false
set_option linter.unnecessarySimpa false
namespace Go.Proofs.YtiinecnjokaejaaGreatDoor
open Go Go.RowKit
section
variable {P:Program} [Prim P] {ρ:Operand→Value} {S:St} {K:Value→St→Prop}
end
end Go.Proofs.YtiinecnjokaejaaGreatDoor

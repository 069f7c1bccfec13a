/- The laid variable: the constant table lies in the memory that the call finds. -/
import Derived.Test.YtghcggoodgfaoaaGreatDoorEq
import Derived.Test.YtghcggoodgfaoaaGreatDoorRows
import Derived.LaidMore
import Derived.LaidHandle
import Derived.WideKeyElems2
import Derived.RowKitVeiled
set_option linter.unusedVariables false
namespace Go.Proofs.YtghcggoodgfaoaaGreatDoor
open Go Go.RowKit Go.WideShapes
theorem gCheck:Tryz.prog.globalNamed "simproof/verdict.checkers" = some gVar:=by kernel_rfl
theorem tCheck:(Tryz.prog.globals[gVar]?).map (·.type)=some gTyp:=by kernel_rfl
theorem mem_foldr {H:Type} {y:Lit × DataW H}:∀ {l:List (Lit × DataW H)},y∈l.foldr DataW.insert []↔y∈l:=by
 intro l
 induction l with
 | nil=>simp
 | cons a l ih=>rw [List.foldr_cons,Go.ChangeMaps.mem_insert_iff,ih,List.mem_cons]
theorem entry_val {W:World} {n:Nat} {y:MapEntry} {m:Int} {b:UInt8} {r:List UInt8} {f0:FuncId} (hy:Go.WideElems.rd Tryz.prog 3 (Go.WideElems.elemAt (funcToken Tryz.prog) Tryz.prog W 0 (fun _=>true) true n 207) y=some (.int .i64 m,.held (b::r)))
  (hone:((List.range Tryz.prog.funcs.size).filter fun f=>(Tryz.prog.funcs[f]?).any (·.name.toUTF8.data.toList==b::r))=[f0]):y.key=.int .i64 m∧y.val=.func (.func f0) #[] #[]:=by
 have hk:=Go.WideElems.rd_key hy
 unfold Go.WideElems.rd at hy
 simp only [Option.bind_eq_some_iff,Option.map_eq_some_iff,Prod.mk.injEq]at hy
 obtain ⟨key,_,⟨d,q⟩,h2,rfl,h4⟩:=hy
 simp only at h4
 subst h4
 constructor
 ·simp only [Go.keyOf,Go.mapKey,Tryz.underlying3]at hk
  cases hkey:y.key<;>rw [hkey]at hk<;>simp at hk
  obtain ⟨⟨rfl,_⟩,rfl⟩:=hk
  rfl
 ·unfold Go.WideElems.elemAt at h2
  split at h2
  case isFalse=>cases h2
  rename_i hf
  have hc:y.val.cells.toList=[y.val]:=by
   unfold Value.formed at hf
   simp only [Tryz.underlying207]at hf
   cases hv:y.val<;>rw [hv]at hf<;>first | rfl | (cases hf;done)
  rw [hc]at h2
  exact func_of_trod Tryz.underlying207 hone h2
theorem tab_rows {b:Int × Nat}:gTab.lookup b.1=some b.2→b∈gTab:=by
 intro h
 have:∀ l:List (Int × Nat),l.lookup b.1=some b.2→b∈l:=by
  intro l
  induction l with
  | nil=>intro h;cases h
  | cons a l ih=>
   intro h
   obtain ⟨x,y⟩:=a
   rw [List.lookup_cons]at h
   split at h
   ·rename_i e
    have e:b.1=x:=by simpa using e
    obtain rfl:=Option.some.inj h
    rw [← e];simp
   ·exact List.mem_cons_of_mem _ (ih h)
 exact this gTab h
theorem of_laid {W:World} (h:laidMetH Tryz.prog Rows.shrinkErrorsRow.laid W):∃ t,GlobOK W.heap.size (Emb.zero t) W:=by
 obtain ⟨g,t,cs,fuel,p,hg,ht,hv,hd⟩:=h.funcs (List.mem_singleton.2 rfl)
 obtain rfl:=Option.some.inj (gCheck.symm.trans hg)
 obtain rfl:=Option.some.inj (tCheck.symm.trans ht)
 rcases Go.WideElems.open_map Tryz.underlying208 hd with ⟨_,hx⟩|⟨b,es,ck,n,rfl,hcs,hb,_,F,hx⟩
 ·cases hx
 ·have hL:([(.int .i64 2,.held [115,105,109,112,114,111,111,102,47,108,105,110,101,97,114,46,67,104,101,99,107]),(.int .i64 3,.held [115,105,109,112,114,111,111,102,47,118,101,114,100,105,99,116,46,99,104,101,99,107,101,114,115,36,49]),(.int .i64 4,.held [115,105,109,112,114,111,111,102,47,118,101,114,100,105,99,116,46,99,104,101,99,107,101,114,115,36,50]),(.int .i64 5,.held [115,105,109,112,114,111,111,102,47,99,97,117,115,97,108,46,67,104,101,99,107]),(.int .i64 6,.held [115,105,109,112,114,111,111,102,47,99,97,117,115,97,108,46,83,101,115,115,105,111,110]),(.int .i64 7,.held [115,105,109,112,114,111,111,102,47,111,110,99,101,46,67,104,101,99,107])]:List (Lit × DataW (List UInt8)))=(es.toList.map (Go.WideElems.rg Tryz.prog 3 (Go.WideElems.elemAt (funcToken Tryz.prog) Tryz.prog W 0 (fun _=>true) true n 207))).foldr DataW.insert []:=by
   have:=congrArg Prod.fst hx
   exact DataW.map.inj this
  have hrow:∃ t fz,W.heap[gVar]? = some (.cells #[.map (some b)] t fz):=by
   unfold World.var? at hv
   rw [gCheck]at hv
   simp only [Option.bind_some]at hv
   split at hv
   ·rename_i c t fz e
    obtain rfl:=Option.some.inj hv
    exact ⟨t,fz,by rw [e,show c=#[.map (some b)] from Array.toList_inj.1 hcs]⟩
   ·cases hv
  obtain ⟨t0,fz0,hr⟩:=hrow
  refine ⟨some b,fun _=>⟨b,rfl,(Array.getElem?_eq_some_iff.1 hr).1,(Array.getElem?_eq_some_iff.1 hb).1,⟨t0,fz0,hr⟩,es,ck,hb,fun x hx=>?_,fun m f hm=>?_⟩⟩
  ·obtain ⟨z,hz⟩:=F.reads x hx
   have hmem:z∈([(.int .i64 2,.held [115,105,109,112,114,111,111,102,47,108,105,110,101,97,114,46,67,104,101,99,107]),(.int .i64 3,.held [115,105,109,112,114,111,111,102,47,118,101,114,100,105,99,116,46,99,104,101,99,107,101,114,115,36,49]),(.int .i64 4,.held [115,105,109,112,114,111,111,102,47,118,101,114,100,105,99,116,46,99,104,101,99,107,101,114,115,36,50]),(.int .i64 5,.held [115,105,109,112,114,111,111,102,47,99,97,117,115,97,108,46,67,104,101,99,107]),(.int .i64 6,.held [115,105,109,112,114,111,111,102,47,99,97,117,115,97,108,46,83,101,115,115,105,111,110]),(.int .i64 7,.held [115,105,109,112,114,111,111,102,47,111,110,99,101,46,67,104,101,99,107])]:List (Lit × DataW (List UInt8))):=by
    rw [hL,mem_foldr]
    exact List.mem_map.2 ⟨x,hx,Go.WideElems.rg_of hz⟩
   simp only [List.mem_cons,List.not_mem_nil,or_false]at hmem
   rcases hmem with rfl | rfl | rfl | rfl | rfl | rfl
   ·obtain ⟨k1,k2⟩:=entry_val (f0:=315) hz (by kernel_rfl)
    exact ⟨2,315,k1,k2,rfl⟩
   ·obtain ⟨k1,k2⟩:=entry_val (f0:=316) hz (by kernel_rfl)
    exact ⟨3,316,k1,k2,rfl⟩
   ·obtain ⟨k1,k2⟩:=entry_val (f0:=318) hz (by kernel_rfl)
    exact ⟨4,318,k1,k2,rfl⟩
   ·obtain ⟨k1,k2⟩:=entry_val (f0:=319) hz (by kernel_rfl)
    exact ⟨5,319,k1,k2,rfl⟩
   ·obtain ⟨k1,k2⟩:=entry_val (f0:=320) hz (by kernel_rfl)
    exact ⟨6,320,k1,k2,rfl⟩
   ·obtain ⟨k1,k2⟩:=entry_val (f0:=321) hz (by kernel_rfl)
    exact ⟨7,321,k1,k2,rfl⟩
  ·have hm:=tab_rows (b:=(m,f)) hm
   have key:∀ (i:Int) (r:List UInt8),(Lit.int .i64 i,(DataW.held r:DataW (List UInt8)))∈([(.int .i64 2,.held [115,105,109,112,114,111,111,102,47,108,105,110,101,97,114,46,67,104,101,99,107]),(.int .i64 3,.held [115,105,109,112,114,111,111,102,47,118,101,114,100,105,99,116,46,99,104,101,99,107,101,114,115,36,49]),(.int .i64 4,.held [115,105,109,112,114,111,111,102,47,118,101,114,100,105,99,116,46,99,104,101,99,107,101,114,115,36,50]),(.int .i64 5,.held [115,105,109,112,114,111,111,102,47,99,97,117,115,97,108,46,67,104,101,99,107]),(.int .i64 6,.held [115,105,109,112,114,111,111,102,47,99,97,117,115,97,108,46,83,101,115,115,105,111,110]),(.int .i64 7,.held [115,105,109,112,114,111,111,102,47,111,110,99,101,46,67,104,101,99,107])]:List (Lit × DataW (List UInt8)))→∃ x∈es.toList,x.key=.int .i64 i:=by
    intro i r hi
    rw [hL,mem_foldr]at hi
    obtain ⟨x,hx,hxr⟩:=List.mem_map.1 hi
    obtain ⟨z,hz⟩:=F.reads x hx
    rw [Go.WideElems.rg_of hz]at hxr
    subst hxr
    have hk:=Go.WideElems.rd_key hz
    refine ⟨x,hx,?_⟩
    simp only [Go.keyOf,Go.mapKey,Tryz.underlying3]at hk
    cases hkey:x.key<;>rw [hkey]at hk<;>simp at hk
    obtain ⟨⟨rfl,_⟩,rfl⟩:=hk
    rfl
   simp only [gTab,List.mem_cons,List.not_mem_nil,or_false,Prod.mk.injEq]at hm
   rcases hm with ⟨rfl,rfl⟩|⟨rfl,rfl⟩|⟨rfl,rfl⟩|⟨rfl,rfl⟩|⟨rfl,rfl⟩|⟨rfl,rfl⟩
   all_goals exact key _ _ (by simp;try rfl)
end Go.Proofs.YtghcggoodgfaoaaGreatDoor

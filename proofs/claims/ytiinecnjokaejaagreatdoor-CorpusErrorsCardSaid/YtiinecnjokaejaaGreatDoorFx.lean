/- The closed facts of the row CorpusErrors, each apart: one alone fits into the memory. -/
import Derived.Test.YtiinecnjokaejaaGreatDoorRows
import Derived.Test.YtiinecnjokaejaaGreatDoorCards
import Derived.JoinedOf
import Derived.SevenTiedAt
import Derived.Below
namespace Go.Proofs.YtiinecnjokaejaaGreatDoor.corpusErrors
open Go Go.ChangeShapes Go.WideShapes Go.RowKit
theorem andT {a b:Bool} (x:a=true) (y:b=true):(a && b)=true:=by rw [x,y];rfl
theorem fact0:(Rows.corpusErrorsRow.wf (OpenSpec.ofChange Rows.corpusErrorsSpec))=true:=by kernel_rfl
theorem fact1:(laidOutB Tryz.prog)=true:=by kernel_rfl
theorem fact2:(mapsRowed Tryz.prog)=true:=by kernel_rfl
theorem fact3:(Tryz.f3.params.all (Tryz.prog.readableRec ·))=true:=by kernel_rfl
theorem fact4:(namedTie Tryz.prog Rows.corpusErrorsRow.named Rows.corpusErrorsSpec.vars)=true:=by kernel_rfl
theorem fact5:(Rows.corpusErrorsRow.stops == [])=true:=by kernel_rfl
theorem fact6:(Tryz.prog.stops == [])=true:=by kernel_rfl
theorem fact7:(Rows.corpusErrorsRow.knobs == [])=true:=by kernel_rfl
theorem fact8:(Tryz.prog.stopKnobs == [])=true:=by kernel_rfl
theorem fact9:(Rows.corpusErrorsRow.inPlace == Tryz.prog.inPlace 3)=true:=by kernel_rfl
theorem fact10:(Rows.corpusErrorsRow.unfollowed == Tryz.prog.unfollowed 3)=true:=by kernel_rfl
theorem fact11:(Rows.corpusErrorsRow.recurses == Tryz.prog.recurses 3)=true:=by kernel_rfl
theorem fact12:(Rows.corpusErrorsRow.named == Tryz.prog.varsNamed 3)=true:=by kernel_rfl
theorem fact13:(Rows.corpusErrorsRow.maps == (Tryz.f3.params.toList++Rows.corpusErrorsSpec.plain.varTypes Tryz.prog).any (Tryz.prog.mapsRec ·))=true:=by kernel_rfl
theorem fact14:(Rows.corpusErrorsRow.ifaces == (Tryz.f3.params.toList++Rows.corpusErrorsSpec.plain.varTypes Tryz.prog).any (Tryz.prog.ifacesRec ·))=true:=by kernel_rfl
theorem fact15:(Rows.corpusErrorsRow.mapsOut == Tryz.prog.mapsAmong Tryz.f3.resultTypes.toList)=true:=by kernel_rfl
theorem fact16:(Rows.corpusErrorsRow.loops == (Tryz.f3.params.toList++Rows.corpusErrorsSpec.plain.varTypes Tryz.prog).any (Tryz.prog.loopsFrom ·))=true:=by kernel_rfl
theorem fact17:(Rows.corpusErrorsRow.wideKeys == (Tryz.f3.params.toList++Rows.corpusErrorsSpec.plain.varTypes Tryz.prog++Tryz.f3.resultTypes.toList).any (Tryz.prog.wideKeysFrom ·))=true:=by kernel_rfl
theorem fact18:(Rows.corpusErrorsSpec.vars.all (Tryz.prog.varReadable ·))=true:=by kernel_rfl
theorem fact19:(Tryz.f3.resultTypes.all (fun t=>Tryz.prog.readableRec t && decide (t < Tryz.prog.types.size)))=true:=by kernel_rfl
theorem fact20:(Rows.corpusErrorsRow.ifacesOut == Tryz.f3.resultTypes.toList.any (Tryz.prog.ifacesRec ·))=true:=by kernel_rfl
theorem fact21:(Rows.corpusErrorsRow.loopsOut == Tryz.f3.resultTypes.toList.any (Tryz.prog.loopsFrom ·))=true:=by kernel_rfl
theorem fact22:(Rows.corpusErrorsRow.plainKeys == Tryz.prog.plainKeys)=true:=by kernel_rfl
theorem fact23:(Rows.corpusErrorsRow.shortTexts.isNone)=true:=by kernel_rfl
theorem fact24:(Tryz.prog.stopsHeard)=true:=by kernel_rfl
theorem fact25:(Tryz.prog.mayEnter)=true:=by kernel_rfl
theorem fact26:(Rows.corpusErrorsRow.lifted == Tryz.prog.liftsFinal)=true:=by kernel_rfl
theorem fact27:(Tryz.prog.make == some Rows.corpusErrorsRow.make)=true:=by kernel_rfl
theorem fact28:(Rows.corpusErrorsRow.kinds == (if Rows.corpusErrorsRow.domain.isEmpty then [] else Tryz.f3.params.toList.map fun t=>match Tryz.prog.underlying t with | some (.int k)=>some k | _=>none))=true:=by kernel_rfl
theorem fact29:(Rows.corpusErrorsRow.pinned == Rows.corpusErrorsRow.pinnedBy)=true:=by kernel_rfl
theorem fact30:(Rows.corpusErrorsRow.veiled == (Tryz.f3.params.toList++Rows.corpusErrorsSpec.plain.varTypes Tryz.prog++Tryz.f3.resultTypes.toList).any (Tryz.prog.veiledRec ·))=true:=by kernel_rfl
theorem fact31:(Rows.corpusErrorsRow.veiledFits Tryz.prog Tryz.f3.params.toList (Tryz.f3.params.toList++Rows.corpusErrorsSpec.plain.varTypes Tryz.prog++Tryz.f3.resultTypes.toList))=true:=by kernel_rfl
set_option maxRecDepth 20000 in
theorem joined:joinedFacts Tryz.prog 3 Tryz.f3 Rows.corpusErrorsSpec Rows.corpusErrorsRow=true:=by
 unfold joinedFacts
 refine andT ?_ fact31
 refine andT ?_ fact30
 refine andT ?_ fact29
 refine andT ?_ fact28
 refine andT ?_ fact27
 refine andT ?_ fact26
 refine andT ?_ fact25
 refine andT ?_ fact24
 refine andT ?_ fact23
 refine andT ?_ fact22
 refine andT ?_ fact21
 refine andT ?_ fact20
 refine andT ?_ fact19
 refine andT ?_ fact18
 refine andT ?_ fact17
 refine andT ?_ fact16
 refine andT ?_ fact15
 refine andT ?_ fact14
 refine andT ?_ fact13
 refine andT ?_ fact12
 refine andT ?_ fact11
 refine andT ?_ fact10
 refine andT ?_ fact9
 refine andT ?_ fact8
 refine andT ?_ fact7
 refine andT ?_ fact6
 refine andT ?_ fact5
 refine andT ?_ fact4
 refine andT ?_ fact3
 refine andT ?_ fact2
 refine andT ?_ fact1
 exact fact0
theorem named3:Tryz.prog.funcNamed "simproof/simprooflaw31.CorpusErrors" = some 3:=by kernel_rfl
theorem byText:Rows.corpusErrorsRow.wfByText (OpenSpec.ofChange Rows.corpusErrorsSpec)=true:=by kernel_rfl
theorem main3:Tryz.prog.mainIs=some (true, "1866c148559bd7a486d939dff6154c3f5a77b947024b3418541318bd8e73355d".toList):=by kernel_rfl
theorem looks3:(true == Tryz.prog.looks [])=true:=by kernel_rfl
theorem goes3:(false == Rows.corpusErrorsRow.goesBy Tryz.prog)=true:=by kernel_rfl
theorem stands3:([22,3,4].all fun u=>!Tryz.prog.wantsStandIn u)=true:=by kernel_rfl
end Go.Proofs.YtiinecnjokaejaaGreatDoor.corpusErrors

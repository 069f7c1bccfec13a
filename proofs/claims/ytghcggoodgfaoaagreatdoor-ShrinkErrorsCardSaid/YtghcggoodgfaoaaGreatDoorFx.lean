/- The closed facts of the row ShrinkErrors, each apart: one alone fits into the memory. -/
import Derived.Test.YtghcggoodgfaoaaGreatDoorRows
import Derived.Test.YtghcggoodgfaoaaGreatDoorCards
import Derived.JoinedOf
import Derived.SevenTiedAt
import Derived.Below
namespace Go.Proofs.YtghcggoodgfaoaaGreatDoor.shrinkErrors
open Go Go.ChangeShapes Go.WideShapes Go.RowKit
theorem andT {a b:Bool} (x:a=true) (y:b=true):(a&&b)=true:=by rw [x,y];rfl
theorem fact0:(Rows.shrinkErrorsRow.wf (OpenSpec.ofChange Rows.shrinkErrorsSpec))=true:=by kernel_rfl
theorem fact1:(laidOutB Tryz.prog)=true:=by kernel_rfl
theorem fact2:(mapsRowed Tryz.prog)=true:=by kernel_rfl
theorem fact3:(Tryz.f3.params.all (Tryz.prog.readableRec ·))=true:=by kernel_rfl
theorem fact4:(namedTie Tryz.prog Rows.shrinkErrorsRow.named Rows.shrinkErrorsSpec.vars)=true:=by kernel_rfl
theorem fact5:(Rows.shrinkErrorsRow.stops==[])=true:=by kernel_rfl
theorem fact6:(Tryz.prog.stops==[])=true:=by kernel_rfl
theorem fact7:(Rows.shrinkErrorsRow.knobs==[])=true:=by kernel_rfl
theorem fact8:(Tryz.prog.stopKnobs==[])=true:=by kernel_rfl
theorem fact9:(Rows.shrinkErrorsRow.inPlace==Tryz.prog.inPlace 3)=true:=by kernel_rfl
theorem fact10:(Rows.shrinkErrorsRow.unfollowed==Tryz.prog.unfollowed 3)=true:=by kernel_rfl
theorem fact11:(Rows.shrinkErrorsRow.recurses==Tryz.prog.recurses 3)=true:=by kernel_rfl
theorem fact12:(Rows.shrinkErrorsRow.named==Tryz.prog.varsNamed 3)=true:=by kernel_rfl
theorem fact13:(Rows.shrinkErrorsRow.maps==(Tryz.f3.params.toList++Rows.shrinkErrorsSpec.plain.varTypes Tryz.prog).any (Tryz.prog.mapsRec ·))=true:=by kernel_rfl
theorem fact14:(Rows.shrinkErrorsRow.ifaces==(Tryz.f3.params.toList++Rows.shrinkErrorsSpec.plain.varTypes Tryz.prog).any (Tryz.prog.ifacesRec ·))=true:=by kernel_rfl
theorem fact15:(Rows.shrinkErrorsRow.mapsOut==Tryz.prog.mapsAmong Tryz.f3.resultTypes.toList)=true:=by kernel_rfl
theorem fact16:(Rows.shrinkErrorsRow.loops==(Tryz.f3.params.toList++Rows.shrinkErrorsSpec.plain.varTypes Tryz.prog).any (Tryz.prog.loopsFrom ·))=true:=by kernel_rfl
theorem fact17:(Rows.shrinkErrorsRow.wideKeys==(Tryz.f3.params.toList++Rows.shrinkErrorsSpec.plain.varTypes Tryz.prog++Tryz.f3.resultTypes.toList).any (Tryz.prog.wideKeysFrom ·))=true:=by kernel_rfl
theorem fact18:(Rows.shrinkErrorsSpec.vars.all (Tryz.prog.varReadable ·))=true:=by kernel_rfl
theorem fact19:(Tryz.f3.resultTypes.all (fun t=>Tryz.prog.readableRec t&&decide (t<Tryz.prog.types.size)))=true:=by kernel_rfl
theorem fact20:(Rows.shrinkErrorsRow.ifacesOut==Tryz.f3.resultTypes.toList.any (Tryz.prog.ifacesRec ·))=true:=by kernel_rfl
theorem fact21:(Rows.shrinkErrorsRow.loopsOut==Tryz.f3.resultTypes.toList.any (Tryz.prog.loopsFrom ·))=true:=by kernel_rfl
theorem fact22:(Rows.shrinkErrorsRow.plainKeys==Tryz.prog.plainKeys)=true:=by kernel_rfl
theorem fact23:(Rows.shrinkErrorsRow.shortTexts.isNone)=true:=by kernel_rfl
theorem fact24:(Tryz.prog.stopsHeard)=true:=by kernel_rfl
theorem fact25:(Tryz.prog.mayEnter)=true:=by kernel_rfl
theorem fact26:(Rows.shrinkErrorsRow.lifted==Tryz.prog.liftsFinal)=true:=by kernel_rfl
theorem fact27:(Tryz.prog.make==some Rows.shrinkErrorsRow.make)=true:=by kernel_rfl
theorem fact28:(Rows.shrinkErrorsRow.kinds==(if Rows.shrinkErrorsRow.domain.isEmpty then [] else Tryz.f3.params.toList.map fun t=>match Tryz.prog.underlying t with | some (.int k)=>some k | _=>none))=true:=by kernel_rfl
theorem fact29:(Rows.shrinkErrorsRow.pinned==Rows.shrinkErrorsRow.pinnedBy)=true:=by kernel_rfl
theorem fact30:(Rows.shrinkErrorsRow.veiled==(Tryz.f3.params.toList++Rows.shrinkErrorsSpec.plain.varTypes Tryz.prog++Tryz.f3.resultTypes.toList).any (Tryz.prog.veiledRec ·))=true:=by kernel_rfl
theorem fact31:(Rows.shrinkErrorsRow.veiledFits Tryz.prog Tryz.f3.params.toList (Tryz.f3.params.toList++Rows.shrinkErrorsSpec.plain.varTypes Tryz.prog++Tryz.f3.resultTypes.toList))=true:=by kernel_rfl
set_option maxRecDepth 20000 in
theorem joined:joinedFacts Tryz.prog 3 Tryz.f3 Rows.shrinkErrorsSpec Rows.shrinkErrorsRow=true:=by
 unfold joinedFacts
 refine andT ?_ fact31
 refine andT ?_ fact30
 refine andT ?_ fact29
 refine andT ?_ fact28
 refine andT ?_ fact27
 refine andT ?_ fact26
 refine andT ?_ fact25
 refine andT ?_ fact24
 refine andT ?_ fact23
 refine andT ?_ fact22
 refine andT ?_ fact21
 refine andT ?_ fact20
 refine andT ?_ fact19
 refine andT ?_ fact18
 refine andT ?_ fact17
 refine andT ?_ fact16
 refine andT ?_ fact15
 refine andT ?_ fact14
 refine andT ?_ fact13
 refine andT ?_ fact12
 refine andT ?_ fact11
 refine andT ?_ fact10
 refine andT ?_ fact9
 refine andT ?_ fact8
 refine andT ?_ fact7
 refine andT ?_ fact6
 refine andT ?_ fact5
 refine andT ?_ fact4
 refine andT ?_ fact3
 refine andT ?_ fact2
 refine andT ?_ fact1
 exact fact0
theorem named3:Tryz.prog.funcNamed "simproof/simprooflaw28.ShrinkErrors" = some 3:=by kernel_rfl
theorem byText:Rows.shrinkErrorsRow.wfByText (OpenSpec.ofChange Rows.shrinkErrorsSpec)=true:=by kernel_rfl
theorem main3:Tryz.prog.mainIs=some (true, "2887db15459ca89ff30e0c9cccefc96955ae335cfbc54f6dc22c94568f637abb".toList):=by kernel_rfl
theorem looks3:(true==Tryz.prog.looks [])=true:=by kernel_rfl
theorem goes3:(false==Rows.shrinkErrorsRow.goesBy Tryz.prog)=true:=by kernel_rfl
theorem stands3:([22,3,3,3].all fun u=>!Tryz.prog.wantsStandIn u)=true:=by kernel_rfl
end Go.Proofs.YtghcggoodgfaoaaGreatDoor.shrinkErrors

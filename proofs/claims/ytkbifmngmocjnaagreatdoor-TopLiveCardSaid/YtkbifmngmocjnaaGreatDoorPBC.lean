/- Proved here, packed: what the parts Fliv prove (rules of the walk, contracts of functions, plain laws). Conditions: in each statement. -/
import Derived.Test.YtkbifmngmocjnaaGreatDoorPPre
import Derived.Test.YtkbifmngmocjnaaGreatDoorRows
namespace Go.Proofs.YtkbifmngmocjnaaGreatDoor
set_option maxRecDepth 100000
set_option maxHeartbeats 8000000
set_option linter.all false
section
open Proofs.Tryz
theorem abw:(Rows.topLiveRow.wf (OpenSpec.ofChange Rows.topLiveSpec))=true:=by kernel_rfl
theorem abx:(laidOutB Tryz.pinned.checked.prog)=true:=by kernel_rfl
theorem aby:(mapsRowed Tryz.pinned.checked.prog)=true:=by kernel_rfl
theorem abz:(f4.params.all (Tryz.pinned.checked.prog.readableRec ·))=true:=by kernel_rfl
theorem abA:(namedTie Tryz.pinned.checked.prog Rows.topLiveRow.named Rows.topLiveSpec.vars)=true:=by kernel_rfl
theorem abB:((Rows.topLiveRow.stops==[]))=true:=by kernel_rfl
theorem abC:((Tryz.pinned.checked.prog.stops==[]))=true:=by kernel_rfl
theorem abD:((Rows.topLiveRow.knobs==[]))=true:=by kernel_rfl
theorem abE:((Tryz.pinned.checked.prog.stopKnobs==[]))=true:=by kernel_rfl
theorem abF:((Rows.topLiveRow.inPlace==Tryz.pinned.checked.prog.inPlace 4))=true:=by kernel_rfl
theorem abG:((Rows.topLiveRow.unfollowed==Tryz.pinned.checked.prog.unfollowed 4))=true:=by kernel_rfl
theorem abH:((Rows.topLiveRow.recurses==Tryz.pinned.checked.prog.recurses 4))=true:=by kernel_rfl
theorem abI:((Rows.topLiveRow.named==Tryz.pinned.checked.prog.varsNamed 4))=true:=by kernel_rfl
theorem abJ:((Rows.topLiveRow.maps==(f4.params.toList++Rows.topLiveSpec.plain.varTypes Tryz.pinned.checked.prog).any (Tryz.pinned.checked.prog.mapsRec ·)))=true:=by kernel_rfl
theorem abK:((Rows.topLiveRow.ifaces==(f4.params.toList++Rows.topLiveSpec.plain.varTypes Tryz.pinned.checked.prog).any (Tryz.pinned.checked.prog.ifacesRec ·)))=true:=by kernel_rfl
theorem abL:((Rows.topLiveRow.mapsOut==Tryz.pinned.checked.prog.mapsAmong f4.resultTypes.toList))=true:=by kernel_rfl
theorem abM:((Rows.topLiveRow.loops==(f4.params.toList++Rows.topLiveSpec.plain.varTypes Tryz.pinned.checked.prog).any (Tryz.pinned.checked.prog.loopsFrom ·)))=true:=by kernel_rfl
theorem abN:((Rows.topLiveRow.wideKeys==(f4.params.toList++Rows.topLiveSpec.plain.varTypes Tryz.pinned.checked.prog++f4.resultTypes.toList).any (Tryz.pinned.checked.prog.wideKeysFrom ·)))=true:=by kernel_rfl
theorem abO:(Rows.topLiveSpec.vars.all (Tryz.pinned.checked.prog.varReadable ·))=true:=by kernel_rfl
theorem abP:(f4.resultTypes.all (λt=>Tryz.pinned.checked.prog.readableRec t&&decide (t<Tryz.pinned.checked.prog.types.size)))=true:=by kernel_rfl
theorem abQ:((Rows.topLiveRow.ifacesOut==f4.resultTypes.toList.any (Tryz.pinned.checked.prog.ifacesRec ·)))=true:=by kernel_rfl
theorem abR:((Rows.topLiveRow.loopsOut==f4.resultTypes.toList.any (Tryz.pinned.checked.prog.loopsFrom ·)))=true:=by kernel_rfl
theorem abS:((Rows.topLiveRow.plainKeys==Tryz.pinned.checked.prog.plainKeys))=true:=by kernel_rfl
theorem abT:(Rows.topLiveRow.shortTexts.isNone)=true:=by kernel_rfl
theorem abU:(Tryz.pinned.checked.prog.stopsHeard)=true:=by kernel_rfl
theorem abV:(Tryz.pinned.checked.prog.mayEnter)=true:=by kernel_rfl
theorem abW:((Rows.topLiveRow.lifted==Tryz.pinned.checked.prog.liftsFinal))=true:=by kernel_rfl
theorem abX:((Tryz.pinned.checked.prog.make==some Rows.topLiveRow.make))=true:=by kernel_rfl
theorem abY:((Rows.topLiveRow.kinds==(if Rows.topLiveRow.domain.isEmpty then[] else f4.params.toList.map λt=>match Tryz.pinned.checked.prog.underlying t with|some (.int k)=>some k|_=>none)))=true:=by kernel_rfl
theorem abZ:((Rows.topLiveRow.pinned==Rows.topLiveRow.pinnedBy))=true:=by kernel_rfl
theorem ab0:((Rows.topLiveRow.veiled==(f4.params.toList++Rows.topLiveSpec.plain.varTypes Tryz.pinned.checked.prog++f4.resultTypes.toList).any (Tryz.pinned.checked.prog.veiledRec ·)))=true:=by kernel_rfl
theorem ab1:(Rows.topLiveRow.veiledFits Tryz.pinned.checked.prog f4.params.toList (f4.params.toList++Rows.topLiveSpec.plain.varTypes Tryz.pinned.checked.prog++f4.resultTypes.toList))=true:=by kernel_rfl
theorem ab2:joinedFacts Tryz.pinned.checked.prog 4 f4 Rows.topLiveSpec Rows.topLiveRow=true:=(mX (mX (mX (mX (mX (mX (mX (mX (mX (mX (mX (mX (mX (mX (mX (mX (mX (mX (mX (mX (mX (mX (mX (mX (mX (mX (mX (mX (mX (mX (mX abw abx) aby) abz) abA) abB) abC) abD) abE) abF) abG) abH) abI) abJ) abK) abL) abM) abN) abO) abP) abQ) abR) abS) abT) abU) abV) abW) abX) abY) abZ) ab0) ab1)
end
end Go.Proofs.YtkbifmngmocjnaaGreatDoor

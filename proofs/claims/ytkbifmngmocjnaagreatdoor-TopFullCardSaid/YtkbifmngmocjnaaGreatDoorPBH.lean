/- Proved here, packed: what the parts Fful prove (rules of the walk, contracts of functions, plain laws). Conditions: in each statement. -/
import Derived.Test.YtkbifmngmocjnaaGreatDoorPPre
import Derived.Test.YtkbifmngmocjnaaGreatDoorRows
namespace Go.Proofs.YtkbifmngmocjnaaGreatDoor
set_option maxRecDepth 100000
set_option maxHeartbeats 8000000
set_option linter.all false
section
open Proofs.Tryz
theorem acf:(Rows.topFullRow.wf (OpenSpec.ofChange Rows.topFullSpec))=true:=by kernel_rfl
theorem acg:(laidOutB Tryz.pinned.checked.prog)=true:=by kernel_rfl
theorem ach:(mapsRowed Tryz.pinned.checked.prog)=true:=by kernel_rfl
theorem aci:(f5.params.all (Tryz.pinned.checked.prog.readableRec ·))=true:=by kernel_rfl
theorem acj:(namedTie Tryz.pinned.checked.prog Rows.topFullRow.named Rows.topFullSpec.vars)=true:=by kernel_rfl
theorem ack:((Rows.topFullRow.stops==[]))=true:=by kernel_rfl
theorem acl:((Tryz.pinned.checked.prog.stops==[]))=true:=by kernel_rfl
theorem acm:((Rows.topFullRow.knobs==[]))=true:=by kernel_rfl
theorem acn:((Tryz.pinned.checked.prog.stopKnobs==[]))=true:=by kernel_rfl
theorem aco:((Rows.topFullRow.inPlace==Tryz.pinned.checked.prog.inPlace 5))=true:=by kernel_rfl
theorem acp:((Rows.topFullRow.unfollowed==Tryz.pinned.checked.prog.unfollowed 5))=true:=by kernel_rfl
theorem acq:((Rows.topFullRow.recurses==Tryz.pinned.checked.prog.recurses 5))=true:=by kernel_rfl
theorem acr:((Rows.topFullRow.named==Tryz.pinned.checked.prog.varsNamed 5))=true:=by kernel_rfl
theorem acs:((Rows.topFullRow.maps==(f5.params.toList++Rows.topFullSpec.plain.varTypes Tryz.pinned.checked.prog).any (Tryz.pinned.checked.prog.mapsRec ·)))=true:=by kernel_rfl
theorem acu:((Rows.topFullRow.ifaces==(f5.params.toList++Rows.topFullSpec.plain.varTypes Tryz.pinned.checked.prog).any (Tryz.pinned.checked.prog.ifacesRec ·)))=true:=by kernel_rfl
theorem acv:((Rows.topFullRow.mapsOut==Tryz.pinned.checked.prog.mapsAmong f5.resultTypes.toList))=true:=by kernel_rfl
theorem acw:((Rows.topFullRow.loops==(f5.params.toList++Rows.topFullSpec.plain.varTypes Tryz.pinned.checked.prog).any (Tryz.pinned.checked.prog.loopsFrom ·)))=true:=by kernel_rfl
theorem acx:((Rows.topFullRow.wideKeys==(f5.params.toList++Rows.topFullSpec.plain.varTypes Tryz.pinned.checked.prog++f5.resultTypes.toList).any (Tryz.pinned.checked.prog.wideKeysFrom ·)))=true:=by kernel_rfl
theorem acy:(Rows.topFullSpec.vars.all (Tryz.pinned.checked.prog.varReadable ·))=true:=by kernel_rfl
theorem acz:(f5.resultTypes.all (λt=>Tryz.pinned.checked.prog.readableRec t&&decide (t<Tryz.pinned.checked.prog.types.size)))=true:=by kernel_rfl
theorem acA:((Rows.topFullRow.ifacesOut==f5.resultTypes.toList.any (Tryz.pinned.checked.prog.ifacesRec ·)))=true:=by kernel_rfl
theorem acB:((Rows.topFullRow.loopsOut==f5.resultTypes.toList.any (Tryz.pinned.checked.prog.loopsFrom ·)))=true:=by kernel_rfl
theorem acC:((Rows.topFullRow.plainKeys==Tryz.pinned.checked.prog.plainKeys))=true:=by kernel_rfl
theorem acD:(Rows.topFullRow.shortTexts.isNone)=true:=by kernel_rfl
theorem acE:(Tryz.pinned.checked.prog.stopsHeard)=true:=by kernel_rfl
theorem acF:(Tryz.pinned.checked.prog.mayEnter)=true:=by kernel_rfl
theorem acG:((Rows.topFullRow.lifted==Tryz.pinned.checked.prog.liftsFinal))=true:=by kernel_rfl
theorem acH:((Tryz.pinned.checked.prog.make==some Rows.topFullRow.make))=true:=by kernel_rfl
theorem acI:((Rows.topFullRow.kinds==(if Rows.topFullRow.domain.isEmpty then[] else f5.params.toList.map λt=>match Tryz.pinned.checked.prog.underlying t with|some (.int k)=>some k|_=>none)))=true:=by kernel_rfl
theorem acJ:((Rows.topFullRow.pinned==Rows.topFullRow.pinnedBy))=true:=by kernel_rfl
theorem acK:((Rows.topFullRow.veiled==(f5.params.toList++Rows.topFullSpec.plain.varTypes Tryz.pinned.checked.prog++f5.resultTypes.toList).any (Tryz.pinned.checked.prog.veiledRec ·)))=true:=by kernel_rfl
theorem acL:(Rows.topFullRow.veiledFits Tryz.pinned.checked.prog f5.params.toList (f5.params.toList++Rows.topFullSpec.plain.varTypes Tryz.pinned.checked.prog++f5.resultTypes.toList))=true:=by kernel_rfl
theorem acM:joinedFacts Tryz.pinned.checked.prog 5 f5 Rows.topFullSpec Rows.topFullRow=true:=(mX (mX (mX (mX (mX (mX (mX (mX (mX (mX (mX (mX (mX (mX (mX (mX (mX (mX (mX (mX (mX (mX (mX (mX (mX (mX (mX (mX (mX (mX (mX acf acg) ach) aci) acj) ack) acl) acm) acn) aco) acp) acq) acr) acs) acu) acv) acw) acx) acy) acz) acA) acB) acC) acD) acE) acF) acG) acH) acI) acJ) acK) acL)
end
end Go.Proofs.YtkbifmngmocjnaaGreatDoor

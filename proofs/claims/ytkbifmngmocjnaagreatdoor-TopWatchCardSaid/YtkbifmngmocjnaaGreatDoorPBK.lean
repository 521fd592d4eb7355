/- Proved here, packed: what the parts Fwat prove (rules of the walk, contracts of functions, plain laws). Conditions: in each statement. -/
import Derived.Test.YtkbifmngmocjnaaGreatDoorPPre
import Derived.Test.YtkbifmngmocjnaaGreatDoorRows
namespace Go.Proofs.YtkbifmngmocjnaaGreatDoor
set_option maxRecDepth 100000
set_option maxHeartbeats 8000000
set_option linter.all false
section
open Proofs.Tryz
theorem acQ:(Rows.topWatchRow.wf (OpenSpec.ofChange Rows.topWatchSpec))=true:=by kernel_rfl
theorem acR:(laidOutB Tryz.pinned.checked.prog)=true:=by kernel_rfl
theorem acS:(mapsRowed Tryz.pinned.checked.prog)=true:=by kernel_rfl
theorem acT:(f3.params.all (Tryz.pinned.checked.prog.readableRec ·))=true:=by kernel_rfl
theorem acU:(namedTie Tryz.pinned.checked.prog Rows.topWatchRow.named Rows.topWatchSpec.vars)=true:=by kernel_rfl
theorem acV:((Rows.topWatchRow.stops==[]))=true:=by kernel_rfl
theorem acW:((Tryz.pinned.checked.prog.stops==[]))=true:=by kernel_rfl
theorem acX:((Rows.topWatchRow.knobs==[]))=true:=by kernel_rfl
theorem acY:((Tryz.pinned.checked.prog.stopKnobs==[]))=true:=by kernel_rfl
theorem acZ:((Rows.topWatchRow.inPlace==Tryz.pinned.checked.prog.inPlace 3))=true:=by kernel_rfl
theorem ada:((Rows.topWatchRow.unfollowed==Tryz.pinned.checked.prog.unfollowed 3))=true:=by kernel_rfl
theorem adb:((Rows.topWatchRow.recurses==Tryz.pinned.checked.prog.recurses 3))=true:=by kernel_rfl
theorem adc:((Rows.topWatchRow.named==Tryz.pinned.checked.prog.varsNamed 3))=true:=by kernel_rfl
theorem ade:((Rows.topWatchRow.maps==(f3.params.toList++Rows.topWatchSpec.plain.varTypes Tryz.pinned.checked.prog).any (Tryz.pinned.checked.prog.mapsRec ·)))=true:=by kernel_rfl
theorem adf:((Rows.topWatchRow.ifaces==(f3.params.toList++Rows.topWatchSpec.plain.varTypes Tryz.pinned.checked.prog).any (Tryz.pinned.checked.prog.ifacesRec ·)))=true:=by kernel_rfl
theorem adg:((Rows.topWatchRow.mapsOut==Tryz.pinned.checked.prog.mapsAmong f3.resultTypes.toList))=true:=by kernel_rfl
theorem adh:((Rows.topWatchRow.loops==(f3.params.toList++Rows.topWatchSpec.plain.varTypes Tryz.pinned.checked.prog).any (Tryz.pinned.checked.prog.loopsFrom ·)))=true:=by kernel_rfl
theorem adi:((Rows.topWatchRow.wideKeys==(f3.params.toList++Rows.topWatchSpec.plain.varTypes Tryz.pinned.checked.prog++f3.resultTypes.toList).any (Tryz.pinned.checked.prog.wideKeysFrom ·)))=true:=by kernel_rfl
theorem adj:(Rows.topWatchSpec.vars.all (Tryz.pinned.checked.prog.varReadable ·))=true:=by kernel_rfl
theorem adk:(f3.resultTypes.all (λt=>Tryz.pinned.checked.prog.readableRec t&&decide (t<Tryz.pinned.checked.prog.types.size)))=true:=by kernel_rfl
theorem adl:((Rows.topWatchRow.ifacesOut==f3.resultTypes.toList.any (Tryz.pinned.checked.prog.ifacesRec ·)))=true:=by kernel_rfl
theorem adm:((Rows.topWatchRow.loopsOut==f3.resultTypes.toList.any (Tryz.pinned.checked.prog.loopsFrom ·)))=true:=by kernel_rfl
theorem adn:((Rows.topWatchRow.plainKeys==Tryz.pinned.checked.prog.plainKeys))=true:=by kernel_rfl
theorem ado:(Rows.topWatchRow.shortTexts.isNone)=true:=by kernel_rfl
theorem adp:(Tryz.pinned.checked.prog.stopsHeard)=true:=by kernel_rfl
theorem adq:(Tryz.pinned.checked.prog.mayEnter)=true:=by kernel_rfl
theorem adr:((Rows.topWatchRow.lifted==Tryz.pinned.checked.prog.liftsFinal))=true:=by kernel_rfl
theorem ads:((Tryz.pinned.checked.prog.make==some Rows.topWatchRow.make))=true:=by kernel_rfl
theorem adt:((Rows.topWatchRow.kinds==(if Rows.topWatchRow.domain.isEmpty then[] else f3.params.toList.map λt=>match Tryz.pinned.checked.prog.underlying t with|some (.int k)=>some k|_=>none)))=true:=by kernel_rfl
theorem adu:((Rows.topWatchRow.pinned==Rows.topWatchRow.pinnedBy))=true:=by kernel_rfl
theorem adv:((Rows.topWatchRow.veiled==(f3.params.toList++Rows.topWatchSpec.plain.varTypes Tryz.pinned.checked.prog++f3.resultTypes.toList).any (Tryz.pinned.checked.prog.veiledRec ·)))=true:=by kernel_rfl
theorem adw:(Rows.topWatchRow.veiledFits Tryz.pinned.checked.prog f3.params.toList (f3.params.toList++Rows.topWatchSpec.plain.varTypes Tryz.pinned.checked.prog++f3.resultTypes.toList))=true:=by kernel_rfl
theorem adx:joinedFacts Tryz.pinned.checked.prog 3 f3 Rows.topWatchSpec Rows.topWatchRow=true:=(mX (mX (mX (mX (mX (mX (mX (mX (mX (mX (mX (mX (mX (mX (mX (mX (mX (mX (mX (mX (mX (mX (mX (mX (mX (mX (mX (mX (mX (mX (mX acQ acR) acS) acT) acU) acV) acW) acX) acY) acZ) ada) adb) adc) ade) adf) adg) adh) adi) adj) adk) adl) adm) adn) ado) adp) adq) adr) ads) adt) adu) adv) adw)
end
end Go.Proofs.YtkbifmngmocjnaaGreatDoor

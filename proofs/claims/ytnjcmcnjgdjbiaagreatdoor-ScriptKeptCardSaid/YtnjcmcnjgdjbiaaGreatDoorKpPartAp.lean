/- Conditions: as each theorem states. -/
import Derived.Test.YtnjcmcnjgdjbiaaGreatDoorRows
import Derived.Test.YtnjcmcnjgdjbiaaGreatDoorChecked
import Derived.JoinedOf
import Derived.KernelRfl
set_option maxRecDepth 100000
set_option maxHeartbeats 1000000
namespace Go.Proofs.YtnjcmcnjgdjbiaaGreatDoor
open Go
theorem UE:(Rows.scriptKeptRow.wf (OpenSpec.ofChange (OpenSpec.ofChange Rows.scriptKeptSpec).bare))=true:=by kernel_rfl
theorem I8:(laidOutB Tryz.prog)=true:=by kernel_rfl
theorem UF:(mapsRowed Tryz.prog)=true:=by kernel_rfl
theorem UG:(Tryz.f8.params.all (Tryz.prog.readableRec ·))=true:=by kernel_rfl
theorem UH:(namedTie Tryz.prog Rows.scriptKeptRow.named (OpenSpec.ofChange Rows.scriptKeptSpec).bare.vars)=true:=by kernel_rfl
theorem UJ:((Rows.scriptKeptRow.stops == []))=true:=by kernel_rfl
theorem UK:((Tryz.prog.stops == []))=true:=by kernel_rfl
theorem UL:((Rows.scriptKeptRow.knobs == []))=true:=by kernel_rfl
theorem UM:((Tryz.prog.stopKnobs == []))=true:=by kernel_rfl
theorem UN:((Rows.scriptKeptRow.inPlace == Tryz.prog.inPlace 8))=true:=by kernel_rfl
theorem QT:((Rows.scriptKeptRow.unfollowed == Tryz.prog.unfollowed 8))=true:=by kernel_rfl
theorem QU:((Rows.scriptKeptRow.recurses == Tryz.prog.recurses 8))=true:=by kernel_rfl
theorem QV:((Rows.scriptKeptRow.named == Tryz.prog.varsNamed 8))=true:=by kernel_rfl
theorem QW:((Rows.scriptKeptRow.maps == (Tryz.f8.params.toList++(OpenSpec.ofChange Rows.scriptKeptSpec).bare.plain.varTypes Tryz.prog).any (Tryz.prog.mapsRec ·)))=true:=by kernel_rfl
theorem QX:((Rows.scriptKeptRow.ifaces == (Tryz.f8.params.toList++(OpenSpec.ofChange Rows.scriptKeptSpec).bare.plain.varTypes Tryz.prog).any (Tryz.prog.ifacesRec ·)))=true:=by kernel_rfl
theorem QY:((Rows.scriptKeptRow.mapsOut == Tryz.prog.mapsAmong Tryz.f8.resultTypes.toList))=true:=by kernel_rfl
theorem QZ:((Rows.scriptKeptRow.loops == (Tryz.f8.params.toList++(OpenSpec.ofChange Rows.scriptKeptSpec).bare.plain.varTypes Tryz.prog).any (Tryz.prog.loopsFrom ·)))=true:=by kernel_rfl
theorem Q0:((Rows.scriptKeptRow.wideKeys == (Tryz.f8.params.toList++(OpenSpec.ofChange Rows.scriptKeptSpec).bare.plain.varTypes Tryz.prog++Tryz.f8.resultTypes.toList).any (Tryz.prog.wideKeysFrom ·)))=true:=by kernel_rfl
theorem Q5:((OpenSpec.ofChange Rows.scriptKeptSpec).bare.vars.all (Tryz.prog.varReadable ·))=true:=by kernel_rfl
theorem Q6:(Tryz.f8.resultTypes.all (fun t=>Tryz.prog.readableRec t && decide (t<Tryz.prog.types.size)))=true:=by kernel_rfl
theorem Q7:((Rows.scriptKeptRow.ifacesOut == Tryz.f8.resultTypes.toList.any (Tryz.prog.ifacesRec ·)))=true:=by kernel_rfl
theorem Q8:((Rows.scriptKeptRow.loopsOut == Tryz.f8.resultTypes.toList.any (Tryz.prog.loopsFrom ·)))=true:=by kernel_rfl
theorem Q9:((Rows.scriptKeptRow.plainKeys == Tryz.prog.plainKeys))=true:=by kernel_rfl
theorem Ra:(Rows.scriptKeptRow.shortTexts.isNone)=true:=by kernel_rfl
theorem Rb:(Tryz.prog.stopsHeard)=true:=by kernel_rfl
theorem Rc:(Tryz.prog.mayEnter)=true:=by kernel_rfl
theorem Rf:((Rows.scriptKeptRow.lifted == Tryz.prog.liftsFinal))=true:=by kernel_rfl
theorem Rh:((Tryz.prog.make == some Rows.scriptKeptRow.make))=true:=by kernel_rfl
theorem Ri:((Rows.scriptKeptRow.pinned == Rows.scriptKeptRow.pinnedBy))=true:=by kernel_rfl
theorem Rj:((Rows.scriptKeptRow.veiled == (Tryz.f8.params.toList++(OpenSpec.ofChange Rows.scriptKeptSpec).bare.plain.varTypes Tryz.prog++Tryz.f8.resultTypes.toList).any (Tryz.prog.veiledRec ·)))=true:=by kernel_rfl
theorem Rk:(Rows.scriptKeptRow.veiledFits Tryz.prog Tryz.f8.params.toList (Tryz.f8.params.toList++(OpenSpec.ofChange Rows.scriptKeptSpec).bare.plain.varTypes Tryz.prog++Tryz.f8.resultTypes.toList))=true:=by kernel_rfl
end Go.Proofs.YtnjcmcnjgdjbiaaGreatDoor

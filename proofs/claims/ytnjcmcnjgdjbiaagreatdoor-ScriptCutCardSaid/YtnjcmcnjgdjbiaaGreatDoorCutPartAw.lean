/- The closed facts that ScriptCut's row asks of the program, one by one. Conditions: as each theorem states. -/
import Derived.Test.YtnjcmcnjgdjbiaaGreatDoorRows
import Derived.Test.YtnjcmcnjgdjbiaaGreatDoorChecked
import Derived.JoinedOf
import Derived.KernelRfl
set_option maxRecDepth 100000
set_option maxHeartbeats 1000000
namespace Go.Proofs.YtnjcmcnjgdjbiaaGreatDoor
open Go
theorem jfCut0 : (Rows.scriptCutRow.wf (OpenSpec.ofChange (OpenSpec.ofChange Rows.scriptCutSpec).bare)) = true := by kernel_rfl
theorem jfCut1 : (laidOutB Tryz.prog) = true := by kernel_rfl
theorem jfCut2 : (mapsRowed Tryz.prog) = true := by kernel_rfl
theorem jfCut3 : (Tryz.f7.params.all (Tryz.prog.readableRec ·)) = true := by kernel_rfl
theorem jfCut4 : (namedTie Tryz.prog Rows.scriptCutRow.named (OpenSpec.ofChange Rows.scriptCutSpec).bare.vars) = true := by kernel_rfl
theorem jfCut5 : ((Rows.scriptCutRow.stops == [])) = true := by kernel_rfl
theorem jfCut6 : ((Tryz.prog.stops == [])) = true := by kernel_rfl
theorem jfCut7 : ((Rows.scriptCutRow.knobs == [])) = true := by kernel_rfl
theorem jfCut8 : ((Tryz.prog.stopKnobs == [])) = true := by kernel_rfl
theorem jfCut9 : ((Rows.scriptCutRow.inPlace == Tryz.prog.inPlace 7)) = true := by kernel_rfl
theorem jfCut10 : ((Rows.scriptCutRow.unfollowed == Tryz.prog.unfollowed 7)) = true := by kernel_rfl
theorem jfCut11 : ((Rows.scriptCutRow.recurses == Tryz.prog.recurses 7)) = true := by kernel_rfl
theorem jfCut12 : ((Rows.scriptCutRow.named == Tryz.prog.varsNamed 7)) = true := by kernel_rfl
theorem jfCut13 : ((Rows.scriptCutRow.maps == (Tryz.f7.params.toList ++ (OpenSpec.ofChange Rows.scriptCutSpec).bare.plain.varTypes Tryz.prog).any (Tryz.prog.mapsRec ·))) = true := by kernel_rfl
theorem jfCut14 : ((Rows.scriptCutRow.ifaces == (Tryz.f7.params.toList ++ (OpenSpec.ofChange Rows.scriptCutSpec).bare.plain.varTypes Tryz.prog).any (Tryz.prog.ifacesRec ·))) = true := by kernel_rfl
theorem jfCut15 : ((Rows.scriptCutRow.mapsOut == Tryz.prog.mapsAmong Tryz.f7.resultTypes.toList)) = true := by kernel_rfl
theorem jfCut16 : ((Rows.scriptCutRow.loops == (Tryz.f7.params.toList ++ (OpenSpec.ofChange Rows.scriptCutSpec).bare.plain.varTypes Tryz.prog).any (Tryz.prog.loopsFrom ·))) = true := by kernel_rfl
theorem jfCut17 : ((Rows.scriptCutRow.wideKeys == (Tryz.f7.params.toList ++ (OpenSpec.ofChange Rows.scriptCutSpec).bare.plain.varTypes Tryz.prog ++ Tryz.f7.resultTypes.toList).any (Tryz.prog.wideKeysFrom ·))) = true := by kernel_rfl
theorem jfCut18 : ((OpenSpec.ofChange Rows.scriptCutSpec).bare.vars.all (Tryz.prog.varReadable ·)) = true := by kernel_rfl
theorem jfCut19 : (Tryz.f7.resultTypes.all (fun t => Tryz.prog.readableRec t && decide (t < Tryz.prog.types.size))) = true := by kernel_rfl
theorem jfCut20 : ((Rows.scriptCutRow.ifacesOut == Tryz.f7.resultTypes.toList.any (Tryz.prog.ifacesRec ·))) = true := by kernel_rfl
theorem jfCut21 : ((Rows.scriptCutRow.loopsOut == Tryz.f7.resultTypes.toList.any (Tryz.prog.loopsFrom ·))) = true := by kernel_rfl
theorem jfCut22 : ((Rows.scriptCutRow.plainKeys == Tryz.prog.plainKeys)) = true := by kernel_rfl
theorem jfCut23 : (Rows.scriptCutRow.shortTexts.isNone) = true := by kernel_rfl
theorem jfCut24 : (Tryz.prog.stopsHeard) = true := by kernel_rfl
theorem jfCut25 : (Tryz.prog.mayEnter) = true := by kernel_rfl
theorem jfCut26 : ((Rows.scriptCutRow.lifted == Tryz.prog.liftsFinal)) = true := by kernel_rfl
theorem jfCut27 : ((Tryz.prog.make == some Rows.scriptCutRow.make)) = true := by kernel_rfl
theorem jfCut29 : ((Rows.scriptCutRow.pinned == Rows.scriptCutRow.pinnedBy)) = true := by kernel_rfl
theorem jfCut30 : ((Rows.scriptCutRow.veiled == (Tryz.f7.params.toList ++ (OpenSpec.ofChange Rows.scriptCutSpec).bare.plain.varTypes Tryz.prog ++ Tryz.f7.resultTypes.toList).any (Tryz.prog.veiledRec ·))) = true := by kernel_rfl
theorem jfCut31 : (Rows.scriptCutRow.veiledFits Tryz.prog Tryz.f7.params.toList (Tryz.f7.params.toList ++ (OpenSpec.ofChange Rows.scriptCutSpec).bare.plain.varTypes Tryz.prog ++ Tryz.f7.resultTypes.toList)) = true := by kernel_rfl
end Go.Proofs.YtnjcmcnjgdjbiaaGreatDoor

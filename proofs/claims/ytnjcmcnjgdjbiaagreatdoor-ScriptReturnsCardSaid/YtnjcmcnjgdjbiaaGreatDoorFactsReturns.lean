/- The closed facts that ScriptReturns's row asks of the program, one by one. Conditions: none. -/
import Derived.Test.YtnjcmcnjgdjbiaaGreatDoorRows
import Derived.Test.YtnjcmcnjgdjbiaaGreatDoorChecked
import Derived.JoinedOf
import Derived.KernelRfl
namespace Go.Proofs.YtnjcmcnjgdjbiaaGreatDoor
open Go
theorem jfReturns0 : (Rows.scriptReturnsRow.wf (OpenSpec.ofChange (OpenSpec.ofChange Rows.scriptReturnsSpec).bare)) = true := by kernel_rfl
theorem jfReturns1 : (laidOutB Tryz.prog) = true := by kernel_rfl
theorem jfReturns2 : (mapsRowed Tryz.prog) = true := by kernel_rfl
theorem jfReturns3 : (Tryz.f10.params.all (Tryz.prog.readableRec ·)) = true := by kernel_rfl
theorem jfReturns4 : (namedTie Tryz.prog Rows.scriptReturnsRow.named (OpenSpec.ofChange Rows.scriptReturnsSpec).bare.vars) = true := by kernel_rfl
theorem jfReturns5 : ((Rows.scriptReturnsRow.stops == [])) = true := by kernel_rfl
theorem jfReturns6 : ((Tryz.prog.stops == [])) = true := by kernel_rfl
theorem jfReturns7 : ((Rows.scriptReturnsRow.knobs == [])) = true := by kernel_rfl
theorem jfReturns8 : ((Tryz.prog.stopKnobs == [])) = true := by kernel_rfl
theorem jfReturns9 : ((Rows.scriptReturnsRow.inPlace == Tryz.prog.inPlace 10)) = true := by kernel_rfl
theorem jfReturns10 : ((Rows.scriptReturnsRow.unfollowed == Tryz.prog.unfollowed 10)) = true := by kernel_rfl
theorem jfReturns11 : ((Rows.scriptReturnsRow.recurses == Tryz.prog.recurses 10)) = true := by kernel_rfl
theorem jfReturns12 : ((Rows.scriptReturnsRow.named == Tryz.prog.varsNamed 10)) = true := by kernel_rfl
theorem jfReturns13 : ((Rows.scriptReturnsRow.maps == (Tryz.f10.params.toList ++ (OpenSpec.ofChange Rows.scriptReturnsSpec).bare.plain.varTypes Tryz.prog).any (Tryz.prog.mapsRec ·))) = true := by kernel_rfl
theorem jfReturns14 : ((Rows.scriptReturnsRow.ifaces == (Tryz.f10.params.toList ++ (OpenSpec.ofChange Rows.scriptReturnsSpec).bare.plain.varTypes Tryz.prog).any (Tryz.prog.ifacesRec ·))) = true := by kernel_rfl
theorem jfReturns15 : ((Rows.scriptReturnsRow.mapsOut == Tryz.prog.mapsAmong Tryz.f10.resultTypes.toList)) = true := by kernel_rfl
theorem jfReturns16 : ((Rows.scriptReturnsRow.loops == (Tryz.f10.params.toList ++ (OpenSpec.ofChange Rows.scriptReturnsSpec).bare.plain.varTypes Tryz.prog).any (Tryz.prog.loopsFrom ·))) = true := by kernel_rfl
theorem jfReturns17 : ((Rows.scriptReturnsRow.wideKeys == (Tryz.f10.params.toList ++ (OpenSpec.ofChange Rows.scriptReturnsSpec).bare.plain.varTypes Tryz.prog ++ Tryz.f10.resultTypes.toList).any (Tryz.prog.wideKeysFrom ·))) = true := by kernel_rfl
theorem jfReturns18 : ((OpenSpec.ofChange Rows.scriptReturnsSpec).bare.vars.all (Tryz.prog.varReadable ·)) = true := by kernel_rfl
theorem jfReturns19 : (Tryz.f10.resultTypes.all (fun t => Tryz.prog.readableRec t && decide (t < Tryz.prog.types.size))) = true := by kernel_rfl
theorem jfReturns20 : ((Rows.scriptReturnsRow.ifacesOut == Tryz.f10.resultTypes.toList.any (Tryz.prog.ifacesRec ·))) = true := by kernel_rfl
theorem jfReturns21 : ((Rows.scriptReturnsRow.loopsOut == Tryz.f10.resultTypes.toList.any (Tryz.prog.loopsFrom ·))) = true := by kernel_rfl
theorem jfReturns22 : ((Rows.scriptReturnsRow.plainKeys == Tryz.prog.plainKeys)) = true := by kernel_rfl
theorem jfReturns23 : (Rows.scriptReturnsRow.shortTexts.isNone) = true := by kernel_rfl
theorem jfReturns24 : (Tryz.prog.stopsHeard) = true := by kernel_rfl
theorem jfReturns25 : (Tryz.prog.mayEnter) = true := by kernel_rfl
theorem jfReturns26 : ((Rows.scriptReturnsRow.lifted == Tryz.prog.liftsFinal)) = true := by kernel_rfl
theorem jfReturns27 : ((Tryz.prog.make == some Rows.scriptReturnsRow.make)) = true := by kernel_rfl
theorem jfReturns28 : ((Rows.scriptReturnsRow.kinds == (if Rows.scriptReturnsRow.domain.isEmpty then [] else Tryz.f10.params.toList.map fun t => match Tryz.prog.underlying t with | some (.int k) => some k | _ => none))) = true := by kernel_rfl
theorem jfReturns29 : ((Rows.scriptReturnsRow.pinned == Rows.scriptReturnsRow.pinnedBy)) = true := by kernel_rfl
theorem jfReturns30 : ((Rows.scriptReturnsRow.veiled == (Tryz.f10.params.toList ++ (OpenSpec.ofChange Rows.scriptReturnsSpec).bare.plain.varTypes Tryz.prog ++ Tryz.f10.resultTypes.toList).any (Tryz.prog.veiledRec ·))) = true := by kernel_rfl
theorem jfReturns31 : (Rows.scriptReturnsRow.veiledFits Tryz.prog Tryz.f10.params.toList (Tryz.f10.params.toList ++ (OpenSpec.ofChange Rows.scriptReturnsSpec).bare.plain.varTypes Tryz.prog ++ Tryz.f10.resultTypes.toList)) = true := by kernel_rfl
end Go.Proofs.YtnjcmcnjgdjbiaaGreatDoor


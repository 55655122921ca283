/- The closed facts that ScriptPrints's row asks of the program, one by one. Conditions: none. -/
import Derived.Test.YtnjcmcnjgdjbiaaGreatDoorRows
import Derived.Test.YtnjcmcnjgdjbiaaGreatDoorChecked
import Derived.JoinedOf
import Derived.KernelRfl
namespace Go.Proofs.YtnjcmcnjgdjbiaaGreatDoor
open Go
theorem jfPrints0 : (Rows.scriptPrintsRow.wf (OpenSpec.ofChange (OpenSpec.ofChange Rows.scriptPrintsSpec).bare)) = true := by kernel_rfl
theorem jfPrints1 : (laidOutB Tryz.prog) = true := by kernel_rfl
theorem jfPrints2 : (mapsRowed Tryz.prog) = true := by kernel_rfl
theorem jfPrints3 : (Tryz.f9.params.all (Tryz.prog.readableRec ·)) = true := by kernel_rfl
theorem jfPrints4 : (namedTie Tryz.prog Rows.scriptPrintsRow.named (OpenSpec.ofChange Rows.scriptPrintsSpec).bare.vars) = true := by kernel_rfl
theorem jfPrints5 : ((Rows.scriptPrintsRow.stops == [])) = true := by kernel_rfl
theorem jfPrints6 : ((Tryz.prog.stops == [])) = true := by kernel_rfl
theorem jfPrints7 : ((Rows.scriptPrintsRow.knobs == [])) = true := by kernel_rfl
theorem jfPrints8 : ((Tryz.prog.stopKnobs == [])) = true := by kernel_rfl
theorem jfPrints9 : ((Rows.scriptPrintsRow.inPlace == Tryz.prog.inPlace 9)) = true := by kernel_rfl
theorem jfPrints10 : ((Rows.scriptPrintsRow.unfollowed == Tryz.prog.unfollowed 9)) = true := by kernel_rfl
theorem jfPrints11 : ((Rows.scriptPrintsRow.recurses == Tryz.prog.recurses 9)) = true := by kernel_rfl
theorem jfPrints12 : ((Rows.scriptPrintsRow.named == Tryz.prog.varsNamed 9)) = true := by kernel_rfl
theorem jfPrints13 : ((Rows.scriptPrintsRow.maps == (Tryz.f9.params.toList ++ (OpenSpec.ofChange Rows.scriptPrintsSpec).bare.plain.varTypes Tryz.prog).any (Tryz.prog.mapsRec ·))) = true := by kernel_rfl
theorem jfPrints14 : ((Rows.scriptPrintsRow.ifaces == (Tryz.f9.params.toList ++ (OpenSpec.ofChange Rows.scriptPrintsSpec).bare.plain.varTypes Tryz.prog).any (Tryz.prog.ifacesRec ·))) = true := by kernel_rfl
theorem jfPrints15 : ((Rows.scriptPrintsRow.mapsOut == Tryz.prog.mapsAmong Tryz.f9.resultTypes.toList)) = true := by kernel_rfl
theorem jfPrints16 : ((Rows.scriptPrintsRow.loops == (Tryz.f9.params.toList ++ (OpenSpec.ofChange Rows.scriptPrintsSpec).bare.plain.varTypes Tryz.prog).any (Tryz.prog.loopsFrom ·))) = true := by kernel_rfl
theorem jfPrints17 : ((Rows.scriptPrintsRow.wideKeys == (Tryz.f9.params.toList ++ (OpenSpec.ofChange Rows.scriptPrintsSpec).bare.plain.varTypes Tryz.prog ++ Tryz.f9.resultTypes.toList).any (Tryz.prog.wideKeysFrom ·))) = true := by kernel_rfl
theorem jfPrints18 : ((OpenSpec.ofChange Rows.scriptPrintsSpec).bare.vars.all (Tryz.prog.varReadable ·)) = true := by kernel_rfl
theorem jfPrints19 : (Tryz.f9.resultTypes.all (fun t => Tryz.prog.readableRec t && decide (t < Tryz.prog.types.size))) = true := by kernel_rfl
theorem jfPrints20 : ((Rows.scriptPrintsRow.ifacesOut == Tryz.f9.resultTypes.toList.any (Tryz.prog.ifacesRec ·))) = true := by kernel_rfl
theorem jfPrints21 : ((Rows.scriptPrintsRow.loopsOut == Tryz.f9.resultTypes.toList.any (Tryz.prog.loopsFrom ·))) = true := by kernel_rfl
theorem jfPrints22 : ((Rows.scriptPrintsRow.plainKeys == Tryz.prog.plainKeys)) = true := by kernel_rfl
theorem jfPrints23 : (Rows.scriptPrintsRow.shortTexts.isNone) = true := by kernel_rfl
theorem jfPrints24 : (Tryz.prog.stopsHeard) = true := by kernel_rfl
theorem jfPrints25 : (Tryz.prog.mayEnter) = true := by kernel_rfl
theorem jfPrints26 : ((Rows.scriptPrintsRow.lifted == Tryz.prog.liftsFinal)) = true := by kernel_rfl
theorem jfPrints27 : ((Tryz.prog.make == some Rows.scriptPrintsRow.make)) = true := by kernel_rfl
theorem jfPrints28 : ((Rows.scriptPrintsRow.kinds == (if Rows.scriptPrintsRow.domain.isEmpty then [] else Tryz.f9.params.toList.map fun t => match Tryz.prog.underlying t with | some (.int k) => some k | _ => none))) = true := by kernel_rfl
theorem jfPrints29 : ((Rows.scriptPrintsRow.pinned == Rows.scriptPrintsRow.pinnedBy)) = true := by kernel_rfl
theorem jfPrints30 : ((Rows.scriptPrintsRow.veiled == (Tryz.f9.params.toList ++ (OpenSpec.ofChange Rows.scriptPrintsSpec).bare.plain.varTypes Tryz.prog ++ Tryz.f9.resultTypes.toList).any (Tryz.prog.veiledRec ·))) = true := by kernel_rfl
theorem jfPrints31 : (Rows.scriptPrintsRow.veiledFits Tryz.prog Tryz.f9.params.toList (Tryz.f9.params.toList ++ (OpenSpec.ofChange Rows.scriptPrintsSpec).bare.plain.varTypes Tryz.prog ++ Tryz.f9.resultTypes.toList)) = true := by kernel_rfl
end Go.Proofs.YtnjcmcnjgdjbiaaGreatDoor


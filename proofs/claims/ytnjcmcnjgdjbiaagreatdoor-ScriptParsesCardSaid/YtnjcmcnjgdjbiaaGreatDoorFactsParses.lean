/- The closed facts that ScriptParses's row asks of the program, one by one. Conditions: none. -/
import Derived.Test.YtnjcmcnjgdjbiaaGreatDoorRows
import Derived.Test.YtnjcmcnjgdjbiaaGreatDoorChecked
import Derived.JoinedOf
import Derived.KernelRfl
namespace Go.Proofs.YtnjcmcnjgdjbiaaGreatDoor
open Go
theorem jfParses0 : (Rows.scriptParsesRow.wf (OpenSpec.ofChange (OpenSpec.ofChange Rows.scriptParsesSpec).bare)) = true := by kernel_rfl
theorem jfParses1 : (laidOutB Tryz.prog) = true := by kernel_rfl
theorem jfParses2 : (mapsRowed Tryz.prog) = true := by kernel_rfl
theorem jfParses3 : (Tryz.f4.params.all (Tryz.prog.readableRec ·)) = true := by kernel_rfl
theorem jfParses4 : (namedTie Tryz.prog Rows.scriptParsesRow.named (OpenSpec.ofChange Rows.scriptParsesSpec).bare.vars) = true := by kernel_rfl
theorem jfParses5 : ((Rows.scriptParsesRow.stops == [])) = true := by kernel_rfl
theorem jfParses6 : ((Tryz.prog.stops == [])) = true := by kernel_rfl
theorem jfParses7 : ((Rows.scriptParsesRow.knobs == [])) = true := by kernel_rfl
theorem jfParses8 : ((Tryz.prog.stopKnobs == [])) = true := by kernel_rfl
theorem jfParses9 : ((Rows.scriptParsesRow.inPlace == Tryz.prog.inPlace 4)) = true := by kernel_rfl
theorem jfParses10 : ((Rows.scriptParsesRow.unfollowed == Tryz.prog.unfollowed 4)) = true := by kernel_rfl
theorem jfParses11 : ((Rows.scriptParsesRow.recurses == Tryz.prog.recurses 4)) = true := by kernel_rfl
theorem jfParses12 : ((Rows.scriptParsesRow.named == Tryz.prog.varsNamed 4)) = true := by kernel_rfl
theorem jfParses13 : ((Rows.scriptParsesRow.maps == (Tryz.f4.params.toList ++ (OpenSpec.ofChange Rows.scriptParsesSpec).bare.plain.varTypes Tryz.prog).any (Tryz.prog.mapsRec ·))) = true := by kernel_rfl
theorem jfParses14 : ((Rows.scriptParsesRow.ifaces == (Tryz.f4.params.toList ++ (OpenSpec.ofChange Rows.scriptParsesSpec).bare.plain.varTypes Tryz.prog).any (Tryz.prog.ifacesRec ·))) = true := by kernel_rfl
theorem jfParses15 : ((Rows.scriptParsesRow.mapsOut == Tryz.prog.mapsAmong Tryz.f4.resultTypes.toList)) = true := by kernel_rfl
theorem jfParses16 : ((Rows.scriptParsesRow.loops == (Tryz.f4.params.toList ++ (OpenSpec.ofChange Rows.scriptParsesSpec).bare.plain.varTypes Tryz.prog).any (Tryz.prog.loopsFrom ·))) = true := by kernel_rfl
theorem jfParses17 : ((Rows.scriptParsesRow.wideKeys == (Tryz.f4.params.toList ++ (OpenSpec.ofChange Rows.scriptParsesSpec).bare.plain.varTypes Tryz.prog ++ Tryz.f4.resultTypes.toList).any (Tryz.prog.wideKeysFrom ·))) = true := by kernel_rfl
theorem jfParses18 : ((OpenSpec.ofChange Rows.scriptParsesSpec).bare.vars.all (Tryz.prog.varReadable ·)) = true := by kernel_rfl
theorem jfParses19 : (Tryz.f4.resultTypes.all (fun t => Tryz.prog.readableRec t && decide (t < Tryz.prog.types.size))) = true := by kernel_rfl
theorem jfParses20 : ((Rows.scriptParsesRow.ifacesOut == Tryz.f4.resultTypes.toList.any (Tryz.prog.ifacesRec ·))) = true := by kernel_rfl
theorem jfParses21 : ((Rows.scriptParsesRow.loopsOut == Tryz.f4.resultTypes.toList.any (Tryz.prog.loopsFrom ·))) = true := by kernel_rfl
theorem jfParses22 : ((Rows.scriptParsesRow.plainKeys == Tryz.prog.plainKeys)) = true := by kernel_rfl
theorem jfParses23 : (Rows.scriptParsesRow.shortTexts.isNone) = true := by kernel_rfl
theorem jfParses24 : (Tryz.prog.stopsHeard) = true := by kernel_rfl
theorem jfParses25 : (Tryz.prog.mayEnter) = true := by kernel_rfl
theorem jfParses26 : ((Rows.scriptParsesRow.lifted == Tryz.prog.liftsFinal)) = true := by kernel_rfl
theorem jfParses27 : ((Tryz.prog.make == some Rows.scriptParsesRow.make)) = true := by kernel_rfl
theorem jfParses28 : ((Rows.scriptParsesRow.kinds == (if Rows.scriptParsesRow.domain.isEmpty then [] else Tryz.f4.params.toList.map fun t => match Tryz.prog.underlying t with | some (.int k) => some k | _ => none))) = true := by kernel_rfl
theorem jfParses29 : ((Rows.scriptParsesRow.pinned == Rows.scriptParsesRow.pinnedBy)) = true := by kernel_rfl
theorem jfParses30 : ((Rows.scriptParsesRow.veiled == (Tryz.f4.params.toList ++ (OpenSpec.ofChange Rows.scriptParsesSpec).bare.plain.varTypes Tryz.prog ++ Tryz.f4.resultTypes.toList).any (Tryz.prog.veiledRec ·))) = true := by kernel_rfl
theorem jfParses31 : (Rows.scriptParsesRow.veiledFits Tryz.prog Tryz.f4.params.toList (Tryz.f4.params.toList ++ (OpenSpec.ofChange Rows.scriptParsesSpec).bare.plain.varTypes Tryz.prog ++ Tryz.f4.resultTypes.toList)) = true := by kernel_rfl
end Go.Proofs.YtnjcmcnjgdjbiaaGreatDoor


/- The closed facts that ScriptLong's row asks of the program, one by one. Conditions: none. -/
import Derived.Test.YtnjcmcnjgdjbiaaGreatDoorRows
import Derived.Test.YtnjcmcnjgdjbiaaGreatDoorChecked
import Derived.JoinedOf
import Derived.KernelRfl
namespace Go.Proofs.YtnjcmcnjgdjbiaaGreatDoor
open Go
theorem jfLong0 : (Rows.scriptLongRow.wf (OpenSpec.ofChange (OpenSpec.ofChange Rows.scriptLongSpec).bare)) = true := by kernel_rfl
theorem jfLong1 : (laidOutB Tryz.prog) = true := by kernel_rfl
theorem jfLong2 : (mapsRowed Tryz.prog) = true := by kernel_rfl
theorem jfLong3 : (Tryz.f6.params.all (Tryz.prog.readableRec ·)) = true := by kernel_rfl
theorem jfLong4 : (namedTie Tryz.prog Rows.scriptLongRow.named (OpenSpec.ofChange Rows.scriptLongSpec).bare.vars) = true := by kernel_rfl
theorem jfLong5 : ((Rows.scriptLongRow.stops == [])) = true := by kernel_rfl
theorem jfLong6 : ((Tryz.prog.stops == [])) = true := by kernel_rfl
theorem jfLong7 : ((Rows.scriptLongRow.knobs == [])) = true := by kernel_rfl
theorem jfLong8 : ((Tryz.prog.stopKnobs == [])) = true := by kernel_rfl
theorem jfLong9 : ((Rows.scriptLongRow.inPlace == Tryz.prog.inPlace 6)) = true := by kernel_rfl
theorem jfLong10 : ((Rows.scriptLongRow.unfollowed == Tryz.prog.unfollowed 6)) = true := by kernel_rfl
theorem jfLong11 : ((Rows.scriptLongRow.recurses == Tryz.prog.recurses 6)) = true := by kernel_rfl
theorem jfLong12 : ((Rows.scriptLongRow.named == Tryz.prog.varsNamed 6)) = true := by kernel_rfl
theorem jfLong13 : ((Rows.scriptLongRow.maps == (Tryz.f6.params.toList ++ (OpenSpec.ofChange Rows.scriptLongSpec).bare.plain.varTypes Tryz.prog).any (Tryz.prog.mapsRec ·))) = true := by kernel_rfl
theorem jfLong14 : ((Rows.scriptLongRow.ifaces == (Tryz.f6.params.toList ++ (OpenSpec.ofChange Rows.scriptLongSpec).bare.plain.varTypes Tryz.prog).any (Tryz.prog.ifacesRec ·))) = true := by kernel_rfl
theorem jfLong15 : ((Rows.scriptLongRow.mapsOut == Tryz.prog.mapsAmong Tryz.f6.resultTypes.toList)) = true := by kernel_rfl
theorem jfLong16 : ((Rows.scriptLongRow.loops == (Tryz.f6.params.toList ++ (OpenSpec.ofChange Rows.scriptLongSpec).bare.plain.varTypes Tryz.prog).any (Tryz.prog.loopsFrom ·))) = true := by kernel_rfl
theorem jfLong17 : ((Rows.scriptLongRow.wideKeys == (Tryz.f6.params.toList ++ (OpenSpec.ofChange Rows.scriptLongSpec).bare.plain.varTypes Tryz.prog ++ Tryz.f6.resultTypes.toList).any (Tryz.prog.wideKeysFrom ·))) = true := by kernel_rfl
theorem jfLong18 : ((OpenSpec.ofChange Rows.scriptLongSpec).bare.vars.all (Tryz.prog.varReadable ·)) = true := by kernel_rfl
theorem jfLong19 : (Tryz.f6.resultTypes.all (fun t => Tryz.prog.readableRec t && decide (t < Tryz.prog.types.size))) = true := by kernel_rfl
theorem jfLong20 : ((Rows.scriptLongRow.ifacesOut == Tryz.f6.resultTypes.toList.any (Tryz.prog.ifacesRec ·))) = true := by kernel_rfl
theorem jfLong21 : ((Rows.scriptLongRow.loopsOut == Tryz.f6.resultTypes.toList.any (Tryz.prog.loopsFrom ·))) = true := by kernel_rfl
theorem jfLong22 : ((Rows.scriptLongRow.plainKeys == Tryz.prog.plainKeys)) = true := by kernel_rfl
theorem jfLong23 : (Rows.scriptLongRow.shortTexts.isNone) = true := by kernel_rfl
theorem jfLong24 : (Tryz.prog.stopsHeard) = true := by kernel_rfl
theorem jfLong25 : (Tryz.prog.mayEnter) = true := by kernel_rfl
theorem jfLong26 : ((Rows.scriptLongRow.lifted == Tryz.prog.liftsFinal)) = true := by kernel_rfl
theorem jfLong27 : ((Tryz.prog.make == some Rows.scriptLongRow.make)) = true := by kernel_rfl
theorem jfLong28 : ((Rows.scriptLongRow.kinds == (if Rows.scriptLongRow.domain.isEmpty then [] else Tryz.f6.params.toList.map fun t => match Tryz.prog.underlying t with | some (.int k) => some k | _ => none))) = true := by kernel_rfl
theorem jfLong29 : ((Rows.scriptLongRow.pinned == Rows.scriptLongRow.pinnedBy)) = true := by kernel_rfl
theorem jfLong30 : ((Rows.scriptLongRow.veiled == (Tryz.f6.params.toList ++ (OpenSpec.ofChange Rows.scriptLongSpec).bare.plain.varTypes Tryz.prog ++ Tryz.f6.resultTypes.toList).any (Tryz.prog.veiledRec ·))) = true := by kernel_rfl
theorem jfLong31 : (Rows.scriptLongRow.veiledFits Tryz.prog Tryz.f6.params.toList (Tryz.f6.params.toList ++ (OpenSpec.ofChange Rows.scriptLongSpec).bare.plain.varTypes Tryz.prog ++ Tryz.f6.resultTypes.toList)) = true := by kernel_rfl
end Go.Proofs.YtnjcmcnjgdjbiaaGreatDoor


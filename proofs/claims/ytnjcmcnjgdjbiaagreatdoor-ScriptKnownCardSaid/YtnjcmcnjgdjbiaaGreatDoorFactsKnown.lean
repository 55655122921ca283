/- The closed facts that ScriptKnown's row asks of the program, one by one. Conditions: none. -/
import Derived.Test.YtnjcmcnjgdjbiaaGreatDoorRows
import Derived.Test.YtnjcmcnjgdjbiaaGreatDoorChecked
import Derived.JoinedOf
import Derived.KernelRfl
namespace Go.Proofs.YtnjcmcnjgdjbiaaGreatDoor
open Go
theorem jfKnown0 : (Rows.scriptKnownRow.wf (OpenSpec.ofChange (OpenSpec.ofChange Rows.scriptKnownSpec).bare)) = true := by kernel_rfl
theorem jfKnown1 : (laidOutB Tryz.prog) = true := by kernel_rfl
theorem jfKnown2 : (mapsRowed Tryz.prog) = true := by kernel_rfl
theorem jfKnown3 : (Tryz.f3.params.all (Tryz.prog.readableRec ·)) = true := by kernel_rfl
theorem jfKnown4 : (namedTie Tryz.prog Rows.scriptKnownRow.named (OpenSpec.ofChange Rows.scriptKnownSpec).bare.vars) = true := by kernel_rfl
theorem jfKnown5 : ((Rows.scriptKnownRow.stops == [])) = true := by kernel_rfl
theorem jfKnown6 : ((Tryz.prog.stops == [])) = true := by kernel_rfl
theorem jfKnown7 : ((Rows.scriptKnownRow.knobs == [])) = true := by kernel_rfl
theorem jfKnown8 : ((Tryz.prog.stopKnobs == [])) = true := by kernel_rfl
theorem jfKnown9 : ((Rows.scriptKnownRow.inPlace == Tryz.prog.inPlace 3)) = true := by kernel_rfl
theorem jfKnown10 : ((Rows.scriptKnownRow.unfollowed == Tryz.prog.unfollowed 3)) = true := by kernel_rfl
theorem jfKnown11 : ((Rows.scriptKnownRow.recurses == Tryz.prog.recurses 3)) = true := by kernel_rfl
theorem jfKnown12 : ((Rows.scriptKnownRow.named == Tryz.prog.varsNamed 3)) = true := by kernel_rfl
theorem jfKnown13 : ((Rows.scriptKnownRow.maps == (Tryz.f3.params.toList ++ (OpenSpec.ofChange Rows.scriptKnownSpec).bare.plain.varTypes Tryz.prog).any (Tryz.prog.mapsRec ·))) = true := by kernel_rfl
theorem jfKnown14 : ((Rows.scriptKnownRow.ifaces == (Tryz.f3.params.toList ++ (OpenSpec.ofChange Rows.scriptKnownSpec).bare.plain.varTypes Tryz.prog).any (Tryz.prog.ifacesRec ·))) = true := by kernel_rfl
theorem jfKnown15 : ((Rows.scriptKnownRow.mapsOut == Tryz.prog.mapsAmong Tryz.f3.resultTypes.toList)) = true := by kernel_rfl
theorem jfKnown16 : ((Rows.scriptKnownRow.loops == (Tryz.f3.params.toList ++ (OpenSpec.ofChange Rows.scriptKnownSpec).bare.plain.varTypes Tryz.prog).any (Tryz.prog.loopsFrom ·))) = true := by kernel_rfl
theorem jfKnown17 : ((Rows.scriptKnownRow.wideKeys == (Tryz.f3.params.toList ++ (OpenSpec.ofChange Rows.scriptKnownSpec).bare.plain.varTypes Tryz.prog ++ Tryz.f3.resultTypes.toList).any (Tryz.prog.wideKeysFrom ·))) = true := by kernel_rfl
theorem jfKnown18 : ((OpenSpec.ofChange Rows.scriptKnownSpec).bare.vars.all (Tryz.prog.varReadable ·)) = true := by kernel_rfl
theorem jfKnown19 : (Tryz.f3.resultTypes.all (fun t => Tryz.prog.readableRec t && decide (t < Tryz.prog.types.size))) = true := by kernel_rfl
theorem jfKnown20 : ((Rows.scriptKnownRow.ifacesOut == Tryz.f3.resultTypes.toList.any (Tryz.prog.ifacesRec ·))) = true := by kernel_rfl
theorem jfKnown21 : ((Rows.scriptKnownRow.loopsOut == Tryz.f3.resultTypes.toList.any (Tryz.prog.loopsFrom ·))) = true := by kernel_rfl
theorem jfKnown22 : ((Rows.scriptKnownRow.plainKeys == Tryz.prog.plainKeys)) = true := by kernel_rfl
theorem jfKnown23 : (Rows.scriptKnownRow.shortTexts.isNone) = true := by kernel_rfl
theorem jfKnown24 : (Tryz.prog.stopsHeard) = true := by kernel_rfl
theorem jfKnown25 : (Tryz.prog.mayEnter) = true := by kernel_rfl
theorem jfKnown26 : ((Rows.scriptKnownRow.lifted == Tryz.prog.liftsFinal)) = true := by kernel_rfl
theorem jfKnown27 : ((Tryz.prog.make == some Rows.scriptKnownRow.make)) = true := by kernel_rfl
theorem jfKnown28 : ((Rows.scriptKnownRow.kinds == (if Rows.scriptKnownRow.domain.isEmpty then [] else Tryz.f3.params.toList.map fun t => match Tryz.prog.underlying t with | some (.int k) => some k | _ => none))) = true := by kernel_rfl
theorem jfKnown29 : ((Rows.scriptKnownRow.pinned == Rows.scriptKnownRow.pinnedBy)) = true := by kernel_rfl
theorem jfKnown30 : ((Rows.scriptKnownRow.veiled == (Tryz.f3.params.toList ++ (OpenSpec.ofChange Rows.scriptKnownSpec).bare.plain.varTypes Tryz.prog ++ Tryz.f3.resultTypes.toList).any (Tryz.prog.veiledRec ·))) = true := by kernel_rfl
theorem jfKnown31 : (Rows.scriptKnownRow.veiledFits Tryz.prog Tryz.f3.params.toList (Tryz.f3.params.toList ++ (OpenSpec.ofChange Rows.scriptKnownSpec).bare.plain.varTypes Tryz.prog ++ Tryz.f3.resultTypes.toList)) = true := by kernel_rfl
end Go.Proofs.YtnjcmcnjgdjbiaaGreatDoor


/-
  DERIVED. GIVEN WITH THE SEED: THE CARDS: each row of YtnjcmcnjgdjbiaaGreatDoorRows.lean that lists a variable, with what it lists TIED to the program's text (the seventh form; the later family's looks); each row that meets fmt, with fmt's text TOLD by the authors' own Lean function (tested against real Go, not proved from fmt's source: count such statements apart). THE CARD IS WHAT COUNTS. Prove the row's statement (the work); the ties are given (YtnjcmcnjgdjbiaaGreatDoorTie.lean); close each card by the builder's one call (the guide's Derived/Test/ToyasCard.lean, 'card_holds'). Laid BY PROGRAM, IN A SANDBOX (cutbox-door.mjs). By AI agents, Wed Nov 11 2026. No macro, syntax, notation, axiom, sorry.
-/
import Derived.Test.YtnjcmcnjgdjbiaaGreatDoorRows
import GoSem.ClaimSeven
namespace Go.Proofs.YtnjcmcnjgdjbiaaGreatDoor
namespace Rows

/-- THE TIED CARD OF 'croftlaw12.ScriptKnown'. -/
def scriptKnownCard : Claim7 := { stood := { row := scriptKnownRow, standIns := [], harness := (true, "613af6ec38f2ec010ca66cbb1de5226db3ab6b63b7d5f83dcd736e2a1592a31c"), looks := true }, kinds := [], alts := [], laidByText := true, laidKinds := [.data, .data, .data, .data, .sentinel, .sentinel, .data, .pinned], laidTests := true, laidLooks := .later }
def ScriptKnownCardSaid : Prop := Claim7.holds Tryz.pinned (.plain (OpenSpec.ofChange scriptKnownSpec)) scriptKnownCard

/-- THE TIED CARD OF 'croftlaw12.ScriptParses'. -/
def scriptParsesCard : Claim7 := { stood := { row := scriptParsesRow, standIns := [], harness := (true, "613af6ec38f2ec010ca66cbb1de5226db3ab6b63b7d5f83dcd736e2a1592a31c"), looks := true }, kinds := [], alts := [], laidByText := true, laidKinds := [.data, .data, .data, .data, .sentinel, .sentinel, .data, .pinned], laidTests := true, laidLooks := .later }
def ScriptParsesCardSaid : Prop := Claim7.holds Tryz.pinned (.plain (OpenSpec.ofChange scriptParsesSpec)) scriptParsesCard

/-- THE TIED CARD OF 'croftlaw12.ScriptPlays'. -/
def scriptPlaysCard : Claim7 := { stood := { row := scriptPlaysRow, standIns := [], harness := (true, "613af6ec38f2ec010ca66cbb1de5226db3ab6b63b7d5f83dcd736e2a1592a31c"), looks := true }, kinds := [], alts := [], laidByText := true, laidKinds := [.data, .data, .data, .data, .sentinel, .sentinel, .data, .pinned], laidTests := true, laidLooks := .later }
def ScriptPlaysCardSaid : Prop := Claim7.holds Tryz.pinned (.plain (OpenSpec.ofChange scriptPlaysSpec)) scriptPlaysCard

/-- THE TIED CARD OF 'croftlaw12.ScriptLong'. -/
def scriptLongCard : Claim7 := { stood := { row := scriptLongRow, standIns := [], harness := (true, "613af6ec38f2ec010ca66cbb1de5226db3ab6b63b7d5f83dcd736e2a1592a31c"), looks := true }, kinds := [], alts := [], laidByText := true, laidKinds := [.data, .data, .data, .data, .sentinel, .sentinel, .data, .pinned], laidTests := true, laidLooks := .later }
def ScriptLongCardSaid : Prop := Claim7.holds Tryz.pinned (.plain (OpenSpec.ofChange scriptLongSpec)) scriptLongCard

/-- THE TIED CARD OF 'croftlaw12.ScriptCut'. -/
def scriptCutCard : Claim7 := { stood := { row := scriptCutRow, standIns := [], harness := (true, "613af6ec38f2ec010ca66cbb1de5226db3ab6b63b7d5f83dcd736e2a1592a31c"), looks := true }, kinds := [], alts := [], laidByText := true, laidKinds := [.data, .data, .data, .data, .sentinel, .sentinel, .data, .pinned], laidTests := true, laidLooks := .later }
def ScriptCutCardSaid : Prop := Claim7.holds Tryz.pinned (.plain (OpenSpec.ofChange scriptCutSpec)) scriptCutCard

/-- THE TIED CARD OF 'croftlaw12.ScriptKept'. -/
def scriptKeptCard : Claim7 := { stood := { row := scriptKeptRow, standIns := [], harness := (true, "613af6ec38f2ec010ca66cbb1de5226db3ab6b63b7d5f83dcd736e2a1592a31c"), looks := true }, kinds := [], alts := [], laidByText := true, laidKinds := [.data, .data, .data, .data, .sentinel, .sentinel, .data, .pinned], laidTests := true, laidLooks := .later }
def ScriptKeptCardSaid : Prop := Claim7.holds Tryz.pinned (.plain (OpenSpec.ofChange scriptKeptSpec)) scriptKeptCard

/-- THE TIED CARD OF 'croftlaw12.ScriptPrints'. -/
def scriptPrintsCard : Claim7 := { stood := { row := scriptPrintsRow, standIns := [], harness := (true, "613af6ec38f2ec010ca66cbb1de5226db3ab6b63b7d5f83dcd736e2a1592a31c"), looks := true }, kinds := [], alts := [], laidByText := true, laidKinds := [.data, .data, .data, .data, .sentinel, .sentinel, .data, .pinned], laidTests := true, laidLooks := .later }
def ScriptPrintsCardSaid : Prop := Claim7.holds Tryz.pinned (.plain (OpenSpec.ofChange scriptPrintsSpec)) scriptPrintsCard

/-- THE TIED CARD OF 'croftlaw12.ScriptReturns'. -/
def scriptReturnsCard : Claim7 := { stood := { row := scriptReturnsRow, standIns := [], harness := (true, "613af6ec38f2ec010ca66cbb1de5226db3ab6b63b7d5f83dcd736e2a1592a31c"), looks := true }, kinds := [], alts := [], laidByText := true, laidKinds := [.data, .data, .data, .data, .sentinel, .sentinel, .data, .pinned], laidTests := true, laidLooks := .later }
def ScriptReturnsCardSaid : Prop := Claim7.holds Tryz.pinned (.plain (OpenSpec.ofChange scriptReturnsSpec)) scriptReturnsCard

/-- THE SECOND FORM's CARD OF 'croftlaw12.ScriptKnown'. -/
def scriptKnownUptoCard : Claim7 := { stood := { row := scriptKnownUptoRow, standIns := [], harness := (true, "613af6ec38f2ec010ca66cbb1de5226db3ab6b63b7d5f83dcd736e2a1592a31c"), looks := true }, kinds := [], alts := [], laidByText := true, laidKinds := [.data, .data, .data, .data, .sentinel, .sentinel, .data, .pinned], laidTests := true, laidLooks := .later }
def ScriptKnownUptoCardSaid : Prop := Claim7.holds Tryz.pinned (.plain (OpenSpec.upto scriptKnownSpec)) scriptKnownUptoCard

/-- THE SECOND FORM's CARD OF 'croftlaw12.ScriptParses'. -/
def scriptParsesUptoCard : Claim7 := { stood := { row := scriptParsesUptoRow, standIns := [], harness := (true, "613af6ec38f2ec010ca66cbb1de5226db3ab6b63b7d5f83dcd736e2a1592a31c"), looks := true }, kinds := [], alts := [], laidByText := true, laidKinds := [.data, .data, .data, .data, .sentinel, .sentinel, .data, .pinned], laidTests := true, laidLooks := .later }
def ScriptParsesUptoCardSaid : Prop := Claim7.holds Tryz.pinned (.plain (OpenSpec.upto scriptParsesSpec)) scriptParsesUptoCard

/-- THE SECOND FORM's CARD OF 'croftlaw12.ScriptPlays'. -/
def scriptPlaysUptoCard : Claim7 := { stood := { row := scriptPlaysUptoRow, standIns := [], harness := (true, "613af6ec38f2ec010ca66cbb1de5226db3ab6b63b7d5f83dcd736e2a1592a31c"), looks := true }, kinds := [], alts := [], laidByText := true, laidKinds := [.data, .data, .data, .data, .sentinel, .sentinel, .data, .pinned], laidTests := true, laidLooks := .later }
def ScriptPlaysUptoCardSaid : Prop := Claim7.holds Tryz.pinned (.plain (OpenSpec.upto scriptPlaysSpec)) scriptPlaysUptoCard

/-- THE SECOND FORM's CARD OF 'croftlaw12.ScriptLong'. -/
def scriptLongUptoCard : Claim7 := { stood := { row := scriptLongUptoRow, standIns := [], harness := (true, "613af6ec38f2ec010ca66cbb1de5226db3ab6b63b7d5f83dcd736e2a1592a31c"), looks := true }, kinds := [], alts := [], laidByText := true, laidKinds := [.data, .data, .data, .data, .sentinel, .sentinel, .data, .pinned], laidTests := true, laidLooks := .later }
def ScriptLongUptoCardSaid : Prop := Claim7.holds Tryz.pinned (.plain (OpenSpec.upto scriptLongSpec)) scriptLongUptoCard

/-- THE SECOND FORM's CARD OF 'croftlaw12.ScriptCut'. -/
def scriptCutUptoCard : Claim7 := { stood := { row := scriptCutUptoRow, standIns := [], harness := (true, "613af6ec38f2ec010ca66cbb1de5226db3ab6b63b7d5f83dcd736e2a1592a31c"), looks := true }, kinds := [], alts := [], laidByText := true, laidKinds := [.data, .data, .data, .data, .sentinel, .sentinel, .data, .pinned], laidTests := true, laidLooks := .later }
def ScriptCutUptoCardSaid : Prop := Claim7.holds Tryz.pinned (.plain (OpenSpec.upto scriptCutSpec)) scriptCutUptoCard

/-- THE SECOND FORM's CARD OF 'croftlaw12.ScriptKept'. -/
def scriptKeptUptoCard : Claim7 := { stood := { row := scriptKeptUptoRow, standIns := [], harness := (true, "613af6ec38f2ec010ca66cbb1de5226db3ab6b63b7d5f83dcd736e2a1592a31c"), looks := true }, kinds := [], alts := [], laidByText := true, laidKinds := [.data, .data, .data, .data, .sentinel, .sentinel, .data, .pinned], laidTests := true, laidLooks := .later }
def ScriptKeptUptoCardSaid : Prop := Claim7.holds Tryz.pinned (.plain (OpenSpec.upto scriptKeptSpec)) scriptKeptUptoCard

/-- THE SECOND FORM's CARD OF 'croftlaw12.ScriptPrints'. -/
def scriptPrintsUptoCard : Claim7 := { stood := { row := scriptPrintsUptoRow, standIns := [], harness := (true, "613af6ec38f2ec010ca66cbb1de5226db3ab6b63b7d5f83dcd736e2a1592a31c"), looks := true }, kinds := [], alts := [], laidByText := true, laidKinds := [.data, .data, .data, .data, .sentinel, .sentinel, .data, .pinned], laidTests := true, laidLooks := .later }
def ScriptPrintsUptoCardSaid : Prop := Claim7.holds Tryz.pinned (.plain (OpenSpec.upto scriptPrintsSpec)) scriptPrintsUptoCard

/-- THE SECOND FORM's CARD OF 'croftlaw12.ScriptReturns'. -/
def scriptReturnsUptoCard : Claim7 := { stood := { row := scriptReturnsUptoRow, standIns := [], harness := (true, "613af6ec38f2ec010ca66cbb1de5226db3ab6b63b7d5f83dcd736e2a1592a31c"), looks := true }, kinds := [], alts := [], laidByText := true, laidKinds := [.data, .data, .data, .data, .sentinel, .sentinel, .data, .pinned], laidTests := true, laidLooks := .later }
def ScriptReturnsUptoCardSaid : Prop := Claim7.holds Tryz.pinned (.plain (OpenSpec.upto scriptReturnsSpec)) scriptReturnsUptoCard
end Rows
end Go.Proofs.YtnjcmcnjgdjbiaaGreatDoor

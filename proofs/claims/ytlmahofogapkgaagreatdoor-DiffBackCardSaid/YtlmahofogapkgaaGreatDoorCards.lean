/-
  DERIVED. GIVEN WITH THE SEED: THE CARDS: each row of YtlmahofogapkgaaGreatDoorRows.lean that lists a variable, with what it lists TIED to the program's text (the seventh form; the later family's looks); each row that meets fmt, with fmt's text TOLD by the authors' own Lean function (tested against real Go, not proved from fmt's source: count such statements apart). THE CARD IS WHAT COUNTS. Prove the row's statement (the work); the ties are given (YtlmahofogapkgaaGreatDoorTie.lean); close each card by the builder's one call (the guide's Derived/Test/ToyasCard.lean, 'card_holds'). Laid BY PROGRAM, IN A SANDBOX (cutbox-door.mjs). By AI agents, Wed Nov 11 2026. No macro, syntax, notation, axiom, sorry.
-/
import Derived.Test.YtlmahofogapkgaaGreatDoorRows
import GoSem.ClaimSeven
namespace Go.Proofs.YtlmahofogapkgaaGreatDoor
namespace Rows

/-- THE TIED CARD OF 'vellumlaw22.DiffPrograms'. -/
def diffProgramsCard : Claim7 := { stood := { row := diffProgramsRow, standIns := [], harness := (true, "425d4d93d6f6ba2554feac068bfcbb84dd0da43f1293f155f5ec7a392b3866b3"), looks := true }, kinds := [], alts := [], laidByText := true, laidKinds := [.data, .data, .data, .sentinel, .sentinel], laidTests := true, laidLooks := .later }
def DiffProgramsCardSaid : Prop := Claim7.holds Tryz.pinned (.plain (OpenSpec.ofChange diffProgramsSpec)) diffProgramsCard

/-- THE TIED CARD OF 'vellumlaw22.DiffTrees'. -/
def diffTreesCard : Claim7 := { stood := { row := diffTreesRow, standIns := [], harness := (true, "425d4d93d6f6ba2554feac068bfcbb84dd0da43f1293f155f5ec7a392b3866b3"), looks := true }, kinds := [], alts := [], laidByText := true, laidKinds := [.data, .data, .data], laidTests := true, laidLooks := .later }
def DiffTreesCardSaid : Prop := Claim7.holds Tryz.pinned (.plain (OpenSpec.ofChange diffTreesSpec)) diffTreesCard

/-- THE TIED CARD OF 'vellumlaw22.DiffBack'. -/
def diffBackCard : Claim7 := { stood := { row := diffBackRow, standIns := [], harness := (true, "425d4d93d6f6ba2554feac068bfcbb84dd0da43f1293f155f5ec7a392b3866b3"), looks := true }, kinds := [], alts := [], laidByText := true, laidKinds := [.data, .data, .data, .sentinel, .sentinel], laidTests := true, laidLooks := .later }
def DiffBackCardSaid : Prop := Claim7.holds Tryz.pinned (.plain (OpenSpec.ofChange diffBackSpec)) diffBackCard

/-- THE TIED CARD OF 'vellumlaw22.DiffForms'. -/
def diffFormsCard : Claim7 := { stood := { row := diffFormsRow, standIns := [], harness := (true, "425d4d93d6f6ba2554feac068bfcbb84dd0da43f1293f155f5ec7a392b3866b3"), looks := true }, kinds := [], alts := [], laidByText := true, laidKinds := [.data, .data, .data, .sentinel, .sentinel], laidTests := true, laidLooks := .later }
def DiffFormsCardSaid : Prop := Claim7.holds Tryz.pinned (.plain (OpenSpec.ofChange diffFormsSpec)) diffFormsCard

/-- THE TIED CARD OF 'vellumlaw22.DiffBad'. -/
def diffBadCard : Claim7 := { stood := { row := diffBadRow, standIns := [], harness := (true, "425d4d93d6f6ba2554feac068bfcbb84dd0da43f1293f155f5ec7a392b3866b3"), looks := true }, kinds := [], alts := [], laidByText := true, laidKinds := [.data, .data, .data, .sentinel, .sentinel], laidTests := true, laidLooks := .later }
def DiffBadCardSaid : Prop := Claim7.holds Tryz.pinned (.plain (OpenSpec.ofChange diffBadSpec)) diffBadCard

/-- THE SECOND FORM's CARD OF 'vellumlaw22.DiffPrograms'. -/
def diffProgramsUptoCard : Claim7 := { stood := { row := diffProgramsUptoRow, standIns := [], harness := (true, "425d4d93d6f6ba2554feac068bfcbb84dd0da43f1293f155f5ec7a392b3866b3"), looks := true }, kinds := [], alts := [], laidByText := true, laidKinds := [.data, .data, .data, .sentinel, .sentinel], laidTests := true, laidLooks := .later }
def DiffProgramsUptoCardSaid : Prop := Claim7.holds Tryz.pinned (.plain (OpenSpec.upto diffProgramsSpec)) diffProgramsUptoCard

/-- THE SECOND FORM's CARD OF 'vellumlaw22.DiffTrees'. -/
def diffTreesUptoCard : Claim7 := { stood := { row := diffTreesUptoRow, standIns := [], harness := (true, "425d4d93d6f6ba2554feac068bfcbb84dd0da43f1293f155f5ec7a392b3866b3"), looks := true }, kinds := [], alts := [], laidByText := true, laidKinds := [.data, .data, .data], laidTests := true, laidLooks := .later }
def DiffTreesUptoCardSaid : Prop := Claim7.holds Tryz.pinned (.plain (OpenSpec.upto diffTreesSpec)) diffTreesUptoCard

/-- THE SECOND FORM's CARD OF 'vellumlaw22.DiffBack'. -/
def diffBackUptoCard : Claim7 := { stood := { row := diffBackUptoRow, standIns := [], harness := (true, "425d4d93d6f6ba2554feac068bfcbb84dd0da43f1293f155f5ec7a392b3866b3"), looks := true }, kinds := [], alts := [], laidByText := true, laidKinds := [.data, .data, .data, .sentinel, .sentinel], laidTests := true, laidLooks := .later }
def DiffBackUptoCardSaid : Prop := Claim7.holds Tryz.pinned (.plain (OpenSpec.upto diffBackSpec)) diffBackUptoCard

/-- THE SECOND FORM's CARD OF 'vellumlaw22.DiffForms'. -/
def diffFormsUptoCard : Claim7 := { stood := { row := diffFormsUptoRow, standIns := [], harness := (true, "425d4d93d6f6ba2554feac068bfcbb84dd0da43f1293f155f5ec7a392b3866b3"), looks := true }, kinds := [], alts := [], laidByText := true, laidKinds := [.data, .data, .data, .sentinel, .sentinel], laidTests := true, laidLooks := .later }
def DiffFormsUptoCardSaid : Prop := Claim7.holds Tryz.pinned (.plain (OpenSpec.upto diffFormsSpec)) diffFormsUptoCard

/-- THE SECOND FORM's CARD OF 'vellumlaw22.DiffBad'. -/
def diffBadUptoCard : Claim7 := { stood := { row := diffBadUptoRow, standIns := [], harness := (true, "425d4d93d6f6ba2554feac068bfcbb84dd0da43f1293f155f5ec7a392b3866b3"), looks := true }, kinds := [], alts := [], laidByText := true, laidKinds := [.data, .data, .data, .sentinel, .sentinel], laidTests := true, laidLooks := .later }
def DiffBadUptoCardSaid : Prop := Claim7.holds Tryz.pinned (.plain (OpenSpec.upto diffBadSpec)) diffBadUptoCard
end Rows
end Go.Proofs.YtlmahofogapkgaaGreatDoor

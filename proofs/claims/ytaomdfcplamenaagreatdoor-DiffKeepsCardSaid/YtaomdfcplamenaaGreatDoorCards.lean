/-
  DERIVED. GIVEN WITH THE SEED: THE CARDS: each row of YtaomdfcplamenaaGreatDoorRows.lean that lists a variable, with what it lists TIED to the program's text (the seventh form; the later family's looks); each row that meets fmt, with fmt's text TOLD by the authors' own Lean function (tested against real Go, not proved from fmt's source: count such statements apart). THE CARD IS WHAT COUNTS. Prove the row's statement (the work); the ties are given (YtaomdfcplamenaaGreatDoorTie.lean); close each card by the builder's one call (the guide's Derived/Test/ToyasCard.lean, 'card_holds'). Laid BY PROGRAM, IN A SANDBOX (cutbox-door.mjs). By AI agents, Wed Nov 11 2026. No macro, syntax, notation, axiom, sorry.
-/
import Derived.Test.YtaomdfcplamenaaGreatDoorRows
import GoSem.ClaimSeven
namespace Go.Proofs.YtaomdfcplamenaaGreatDoor
namespace Rows

/-- THE TIED CARD OF 'vellumlaw22.DiffApplies'. -/
def diffAppliesCard : Claim7 := { stood := { row := diffAppliesRow, standIns := [], harness := (true, "c3a3d83251cddf20a06a1c1d7fbab972c92b014fa72253d1f7004ef94f10e88e"), looks := false }, kinds := [], alts := [], laidByText := true, laidKinds := [.data, .data, .data], laidTests := true, laidLooks := .later }
def DiffAppliesCardSaid : Prop := Claim7.holds Tryz.pinned (.plain (OpenSpec.ofChange diffAppliesSpec)) diffAppliesCard

/-- THE TIED CARD OF 'vellumlaw22.DiffChanged'. -/
def diffChangedCard : Claim7 := { stood := { row := diffChangedRow, standIns := [], harness := (true, "c3a3d83251cddf20a06a1c1d7fbab972c92b014fa72253d1f7004ef94f10e88e"), looks := false }, kinds := [], alts := [], laidByText := true, laidKinds := [.data, .data, .data], laidTests := true, laidLooks := .later }
def DiffChangedCardSaid : Prop := Claim7.holds Tryz.pinned (.plain (OpenSpec.ofChange diffChangedSpec)) diffChangedCard

/-- THE TIED CARD OF 'vellumlaw22.DiffEdits'. -/
def diffEditsCard : Claim7 := { stood := { row := diffEditsRow, standIns := [], harness := (true, "c3a3d83251cddf20a06a1c1d7fbab972c92b014fa72253d1f7004ef94f10e88e"), looks := false }, kinds := [], alts := [], laidByText := true, laidKinds := [.data, .data, .data], laidTests := true, laidLooks := .later }
def DiffEditsCardSaid : Prop := Claim7.holds Tryz.pinned (.plain (OpenSpec.ofChange diffEditsSpec)) diffEditsCard

/-- THE TIED CARD OF 'vellumlaw22.DiffInverts'. -/
def diffInvertsCard : Claim7 := { stood := { row := diffInvertsRow, standIns := [], harness := (true, "c3a3d83251cddf20a06a1c1d7fbab972c92b014fa72253d1f7004ef94f10e88e"), looks := false }, kinds := [], alts := [], laidByText := true, laidKinds := [.data, .data, .data], laidTests := true, laidLooks := .later }
def DiffInvertsCardSaid : Prop := Claim7.holds Tryz.pinned (.plain (OpenSpec.ofChange diffInvertsSpec)) diffInvertsCard

/-- THE TIED CARD OF 'vellumlaw22.DiffMetric'. -/
def diffMetricCard : Claim7 := { stood := { row := diffMetricRow, standIns := [], harness := (true, "c3a3d83251cddf20a06a1c1d7fbab972c92b014fa72253d1f7004ef94f10e88e"), looks := false }, kinds := [], alts := [], laidByText := true, laidKinds := [.data, .data, .data], laidTests := true, laidLooks := .later }
def DiffMetricCardSaid : Prop := Claim7.holds Tryz.pinned (.plain (OpenSpec.ofChange diffMetricSpec)) diffMetricCard

/-- THE TIED CARD OF 'vellumlaw22.DiffKeeps'. -/
def diffKeepsCard : Claim7 := { stood := { row := diffKeepsRow, standIns := [], harness := (true, "c3a3d83251cddf20a06a1c1d7fbab972c92b014fa72253d1f7004ef94f10e88e"), looks := false }, kinds := [], alts := [], laidByText := true, laidKinds := [.data, .data, .data], laidTests := true, laidLooks := .later }
def DiffKeepsCardSaid : Prop := Claim7.holds Tryz.pinned (.plain (OpenSpec.ofChange diffKeepsSpec)) diffKeepsCard

/-- THE TIED CARD OF 'vellumlaw22.DiffSame'. -/
def diffSameCard : Claim7 := { stood := { row := diffSameRow, standIns := [], harness := (true, "c3a3d83251cddf20a06a1c1d7fbab972c92b014fa72253d1f7004ef94f10e88e"), looks := false }, kinds := [], alts := [], laidByText := true, laidKinds := [.data, .data, .data], laidTests := true, laidLooks := .later }
def DiffSameCardSaid : Prop := Claim7.holds Tryz.pinned (.plain (OpenSpec.ofChange diffSameSpec)) diffSameCard

/-- THE SECOND FORM's CARD OF 'vellumlaw22.DiffApplies'. -/
def diffAppliesUptoCard : Claim7 := { stood := { row := diffAppliesUptoRow, standIns := [], harness := (true, "c3a3d83251cddf20a06a1c1d7fbab972c92b014fa72253d1f7004ef94f10e88e"), looks := false }, kinds := [], alts := [], laidByText := true, laidKinds := [.data, .data, .data], laidTests := true, laidLooks := .later }
def DiffAppliesUptoCardSaid : Prop := Claim7.holds Tryz.pinned (.plain (OpenSpec.upto diffAppliesSpec)) diffAppliesUptoCard

/-- THE SECOND FORM's CARD OF 'vellumlaw22.DiffChanged'. -/
def diffChangedUptoCard : Claim7 := { stood := { row := diffChangedUptoRow, standIns := [], harness := (true, "c3a3d83251cddf20a06a1c1d7fbab972c92b014fa72253d1f7004ef94f10e88e"), looks := false }, kinds := [], alts := [], laidByText := true, laidKinds := [.data, .data, .data], laidTests := true, laidLooks := .later }
def DiffChangedUptoCardSaid : Prop := Claim7.holds Tryz.pinned (.plain (OpenSpec.upto diffChangedSpec)) diffChangedUptoCard

/-- THE SECOND FORM's CARD OF 'vellumlaw22.DiffEdits'. -/
def diffEditsUptoCard : Claim7 := { stood := { row := diffEditsUptoRow, standIns := [], harness := (true, "c3a3d83251cddf20a06a1c1d7fbab972c92b014fa72253d1f7004ef94f10e88e"), looks := false }, kinds := [], alts := [], laidByText := true, laidKinds := [.data, .data, .data], laidTests := true, laidLooks := .later }
def DiffEditsUptoCardSaid : Prop := Claim7.holds Tryz.pinned (.plain (OpenSpec.upto diffEditsSpec)) diffEditsUptoCard

/-- THE SECOND FORM's CARD OF 'vellumlaw22.DiffInverts'. -/
def diffInvertsUptoCard : Claim7 := { stood := { row := diffInvertsUptoRow, standIns := [], harness := (true, "c3a3d83251cddf20a06a1c1d7fbab972c92b014fa72253d1f7004ef94f10e88e"), looks := false }, kinds := [], alts := [], laidByText := true, laidKinds := [.data, .data, .data], laidTests := true, laidLooks := .later }
def DiffInvertsUptoCardSaid : Prop := Claim7.holds Tryz.pinned (.plain (OpenSpec.upto diffInvertsSpec)) diffInvertsUptoCard

/-- THE SECOND FORM's CARD OF 'vellumlaw22.DiffMetric'. -/
def diffMetricUptoCard : Claim7 := { stood := { row := diffMetricUptoRow, standIns := [], harness := (true, "c3a3d83251cddf20a06a1c1d7fbab972c92b014fa72253d1f7004ef94f10e88e"), looks := false }, kinds := [], alts := [], laidByText := true, laidKinds := [.data, .data, .data], laidTests := true, laidLooks := .later }
def DiffMetricUptoCardSaid : Prop := Claim7.holds Tryz.pinned (.plain (OpenSpec.upto diffMetricSpec)) diffMetricUptoCard

/-- THE SECOND FORM's CARD OF 'vellumlaw22.DiffKeeps'. -/
def diffKeepsUptoCard : Claim7 := { stood := { row := diffKeepsUptoRow, standIns := [], harness := (true, "c3a3d83251cddf20a06a1c1d7fbab972c92b014fa72253d1f7004ef94f10e88e"), looks := false }, kinds := [], alts := [], laidByText := true, laidKinds := [.data, .data, .data], laidTests := true, laidLooks := .later }
def DiffKeepsUptoCardSaid : Prop := Claim7.holds Tryz.pinned (.plain (OpenSpec.upto diffKeepsSpec)) diffKeepsUptoCard

/-- THE SECOND FORM's CARD OF 'vellumlaw22.DiffSame'. -/
def diffSameUptoCard : Claim7 := { stood := { row := diffSameUptoRow, standIns := [], harness := (true, "c3a3d83251cddf20a06a1c1d7fbab972c92b014fa72253d1f7004ef94f10e88e"), looks := false }, kinds := [], alts := [], laidByText := true, laidKinds := [.data, .data, .data], laidTests := true, laidLooks := .later }
def DiffSameUptoCardSaid : Prop := Claim7.holds Tryz.pinned (.plain (OpenSpec.upto diffSameSpec)) diffSameUptoCard
end Rows
end Go.Proofs.YtaomdfcplamenaaGreatDoor

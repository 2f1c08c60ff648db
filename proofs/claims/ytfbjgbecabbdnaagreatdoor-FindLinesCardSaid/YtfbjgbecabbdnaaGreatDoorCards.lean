/-
  DERIVED. GIVEN WITH THE SEED: THE CARDS: each row of YtfbjgbecabbdnaaGreatDoorRows.lean that lists a variable, with what it lists TIED to the program's text (the seventh form; the later family's looks); each row that meets fmt, with fmt's text TOLD by the authors' own Lean function (tested against real Go, not proved from fmt's source: count such statements apart). THE CARD IS WHAT COUNTS. Prove the row's statement (the work); the ties are given (YtfbjgbecabbdnaaGreatDoorTie.lean); close each card by the builder's one call (the guide's Derived/Test/ToyasCard.lean, 'card_holds'). Laid BY PROGRAM, IN A SANDBOX (cutbox-door.mjs). By AI agents, Wed Nov 11 2026. No macro, syntax, notation, axiom, sorry.
-/
import Derived.Test.YtfbjgbecabbdnaaGreatDoorRows
import GoSem.ClaimSeven
namespace Go.Proofs.YtfbjgbecabbdnaaGreatDoor
namespace Rows

/-- THE TIED CARD OF 'rivuletlaw20.SolveLines'. -/
def solveLinesCard : Claim7 := { stood := { row := solveLinesRow, standIns := [], harness := (true, "f8d78788305c5c8f690c9e860e15954ce21537aa59804ac80ddb3c3aec555448"), looks := false }, kinds := [], alts := [], laidByText := true, laidKinds := [.sentinel, .sentinel, .sentinel, .sentinel, .sentinel, .sentinel, .sentinel], laidTests := true, laidLooks := .later }
def SolveLinesCardSaid : Prop := Claim7.holds Tryz.pinned (.plain (OpenSpec.ofChange solveLinesSpec)) solveLinesCard

/-- THE TIED CARD OF 'rivuletlaw20.SolveStars'. -/
def solveStarsCard : Claim7 := { stood := { row := solveStarsRow, standIns := [], harness := (true, "f8d78788305c5c8f690c9e860e15954ce21537aa59804ac80ddb3c3aec555448"), looks := false }, kinds := [], alts := [], laidByText := true, laidKinds := [.sentinel, .sentinel, .sentinel, .sentinel, .sentinel, .sentinel, .sentinel], laidTests := true, laidLooks := .later }
def SolveStarsCardSaid : Prop := Claim7.holds Tryz.pinned (.plain (OpenSpec.ofChange solveStarsSpec)) solveStarsCard

/-- THE TIED CARD OF 'rivuletlaw23.RtrSeats'. -/
def rtrSeatsCard : Claim7 := { stood := { row := rtrSeatsRow, standIns := [], harness := (true, "f8d78788305c5c8f690c9e860e15954ce21537aa59804ac80ddb3c3aec555448"), looks := false }, kinds := [], alts := [], laidByText := true, laidKinds := [.sentinel, .sentinel, .sentinel, .sentinel, .sentinel, .sentinel, .sentinel], laidTests := true, laidLooks := .later }
def RtrSeatsCardSaid : Prop := Claim7.holds Tryz.pinned (.plain (OpenSpec.ofChange rtrSeatsSpec)) rtrSeatsCard

/-- THE TIED CARD OF 'rivuletlaw23.RtrHosts'. -/
def rtrHostsCard : Claim7 := { stood := { row := rtrHostsRow, standIns := [], harness := (true, "f8d78788305c5c8f690c9e860e15954ce21537aa59804ac80ddb3c3aec555448"), looks := false }, kinds := [], alts := [], laidByText := true, laidKinds := [.sentinel, .sentinel, .sentinel, .sentinel, .sentinel, .sentinel, .sentinel], laidTests := true, laidLooks := .later }
def RtrHostsCardSaid : Prop := Claim7.holds Tryz.pinned (.plain (OpenSpec.ofChange rtrHostsSpec)) rtrHostsCard

/-- THE TIED CARD OF 'rivuletlaw23.RtrJoins'. -/
def rtrJoinsCard : Claim7 := { stood := { row := rtrJoinsRow, standIns := [], harness := (true, "f8d78788305c5c8f690c9e860e15954ce21537aa59804ac80ddb3c3aec555448"), looks := false }, kinds := [], alts := [], laidByText := true, laidKinds := [.sentinel, .sentinel, .sentinel, .sentinel, .sentinel, .sentinel, .sentinel], laidTests := true, laidLooks := .later }
def RtrJoinsCardSaid : Prop := Claim7.holds Tryz.pinned (.plain (OpenSpec.ofChange rtrJoinsSpec)) rtrJoinsCard

/-- THE TIED CARD OF 'rivuletlaw21.TraceLines'. -/
def traceLinesCard : Claim7 := { stood := { row := traceLinesRow, standIns := [], harness := (true, "f8d78788305c5c8f690c9e860e15954ce21537aa59804ac80ddb3c3aec555448"), looks := false }, kinds := [], alts := [], laidByText := true, laidKinds := [.sentinel, .sentinel, .sentinel, .sentinel, .sentinel, .sentinel, .sentinel], laidTests := true, laidLooks := .later }
def TraceLinesCardSaid : Prop := Claim7.holds Tryz.pinned (.plain (OpenSpec.ofChange traceLinesSpec)) traceLinesCard

/-- THE TIED CARD OF 'rivuletlaw21.TraceStars'. -/
def traceStarsCard : Claim7 := { stood := { row := traceStarsRow, standIns := [], harness := (true, "f8d78788305c5c8f690c9e860e15954ce21537aa59804ac80ddb3c3aec555448"), looks := false }, kinds := [], alts := [], laidByText := true, laidKinds := [.sentinel, .sentinel, .sentinel, .sentinel, .sentinel, .sentinel, .sentinel], laidTests := true, laidLooks := .later }
def TraceStarsCardSaid : Prop := Claim7.holds Tryz.pinned (.plain (OpenSpec.ofChange traceStarsSpec)) traceStarsCard

/-- THE TIED CARD OF 'rivuletlaw22.FindLines'. -/
def findLinesCard : Claim7 := { stood := { row := findLinesRow, standIns := [], harness := (true, "f8d78788305c5c8f690c9e860e15954ce21537aa59804ac80ddb3c3aec555448"), looks := false }, kinds := [], alts := [], laidByText := true, laidKinds := [.sentinel, .sentinel, .sentinel, .sentinel, .sentinel, .sentinel, .sentinel], laidTests := true, laidLooks := .later }
def FindLinesCardSaid : Prop := Claim7.holds Tryz.pinned (.plain (OpenSpec.ofChange findLinesSpec)) findLinesCard

/-- THE TIED CARD OF 'rivuletlaw22.FindRings'. -/
def findRingsCard : Claim7 := { stood := { row := findRingsRow, standIns := [], harness := (true, "f8d78788305c5c8f690c9e860e15954ce21537aa59804ac80ddb3c3aec555448"), looks := false }, kinds := [], alts := [], laidByText := true, laidKinds := [.sentinel, .sentinel, .sentinel, .sentinel, .sentinel, .sentinel, .sentinel], laidTests := true, laidLooks := .later }
def FindRingsCardSaid : Prop := Claim7.holds Tryz.pinned (.plain (OpenSpec.ofChange findRingsSpec)) findRingsCard

/-- THE TIED CARD OF 'rivuletlaw22.FindRoots'. -/
def findRootsCard : Claim7 := { stood := { row := findRootsRow, standIns := [], harness := (true, "f8d78788305c5c8f690c9e860e15954ce21537aa59804ac80ddb3c3aec555448"), looks := false }, kinds := [], alts := [], laidByText := true, laidKinds := [.data, .data, .data, .sentinel, .sentinel, .sentinel, .sentinel, .sentinel, .sentinel, .sentinel], laidTests := true, laidLooks := .later }
def FindRootsCardSaid : Prop := Claim7.holds Tryz.pinned (.plain (OpenSpec.ofChange findRootsSpec)) findRootsCard

/-- THE SECOND FORM's CARD OF 'rivuletlaw20.SolveLines'. -/
def solveLinesUptoCard : Claim7 := { stood := { row := solveLinesUptoRow, standIns := [], harness := (true, "f8d78788305c5c8f690c9e860e15954ce21537aa59804ac80ddb3c3aec555448"), looks := false }, kinds := [], alts := [], laidByText := true, laidKinds := [.sentinel, .sentinel, .sentinel, .sentinel, .sentinel, .sentinel, .sentinel], laidTests := true, laidLooks := .later }
def SolveLinesUptoCardSaid : Prop := Claim7.holds Tryz.pinned (.plain (OpenSpec.upto solveLinesSpec)) solveLinesUptoCard

/-- THE SECOND FORM's CARD OF 'rivuletlaw20.SolveStars'. -/
def solveStarsUptoCard : Claim7 := { stood := { row := solveStarsUptoRow, standIns := [], harness := (true, "f8d78788305c5c8f690c9e860e15954ce21537aa59804ac80ddb3c3aec555448"), looks := false }, kinds := [], alts := [], laidByText := true, laidKinds := [.sentinel, .sentinel, .sentinel, .sentinel, .sentinel, .sentinel, .sentinel], laidTests := true, laidLooks := .later }
def SolveStarsUptoCardSaid : Prop := Claim7.holds Tryz.pinned (.plain (OpenSpec.upto solveStarsSpec)) solveStarsUptoCard

/-- THE SECOND FORM's CARD OF 'rivuletlaw23.RtrSeats'. -/
def rtrSeatsUptoCard : Claim7 := { stood := { row := rtrSeatsUptoRow, standIns := [], harness := (true, "f8d78788305c5c8f690c9e860e15954ce21537aa59804ac80ddb3c3aec555448"), looks := false }, kinds := [], alts := [], laidByText := true, laidKinds := [.sentinel, .sentinel, .sentinel, .sentinel, .sentinel, .sentinel, .sentinel], laidTests := true, laidLooks := .later }
def RtrSeatsUptoCardSaid : Prop := Claim7.holds Tryz.pinned (.plain (OpenSpec.upto rtrSeatsSpec)) rtrSeatsUptoCard

/-- THE SECOND FORM's CARD OF 'rivuletlaw23.RtrHosts'. -/
def rtrHostsUptoCard : Claim7 := { stood := { row := rtrHostsUptoRow, standIns := [], harness := (true, "f8d78788305c5c8f690c9e860e15954ce21537aa59804ac80ddb3c3aec555448"), looks := false }, kinds := [], alts := [], laidByText := true, laidKinds := [.sentinel, .sentinel, .sentinel, .sentinel, .sentinel, .sentinel, .sentinel], laidTests := true, laidLooks := .later }
def RtrHostsUptoCardSaid : Prop := Claim7.holds Tryz.pinned (.plain (OpenSpec.upto rtrHostsSpec)) rtrHostsUptoCard

/-- THE SECOND FORM's CARD OF 'rivuletlaw23.RtrJoins'. -/
def rtrJoinsUptoCard : Claim7 := { stood := { row := rtrJoinsUptoRow, standIns := [], harness := (true, "f8d78788305c5c8f690c9e860e15954ce21537aa59804ac80ddb3c3aec555448"), looks := false }, kinds := [], alts := [], laidByText := true, laidKinds := [.sentinel, .sentinel, .sentinel, .sentinel, .sentinel, .sentinel, .sentinel], laidTests := true, laidLooks := .later }
def RtrJoinsUptoCardSaid : Prop := Claim7.holds Tryz.pinned (.plain (OpenSpec.upto rtrJoinsSpec)) rtrJoinsUptoCard

/-- THE SECOND FORM's CARD OF 'rivuletlaw21.TraceLines'. -/
def traceLinesUptoCard : Claim7 := { stood := { row := traceLinesUptoRow, standIns := [], harness := (true, "f8d78788305c5c8f690c9e860e15954ce21537aa59804ac80ddb3c3aec555448"), looks := false }, kinds := [], alts := [], laidByText := true, laidKinds := [.sentinel, .sentinel, .sentinel, .sentinel, .sentinel, .sentinel, .sentinel], laidTests := true, laidLooks := .later }
def TraceLinesUptoCardSaid : Prop := Claim7.holds Tryz.pinned (.plain (OpenSpec.upto traceLinesSpec)) traceLinesUptoCard

/-- THE SECOND FORM's CARD OF 'rivuletlaw21.TraceStars'. -/
def traceStarsUptoCard : Claim7 := { stood := { row := traceStarsUptoRow, standIns := [], harness := (true, "f8d78788305c5c8f690c9e860e15954ce21537aa59804ac80ddb3c3aec555448"), looks := false }, kinds := [], alts := [], laidByText := true, laidKinds := [.sentinel, .sentinel, .sentinel, .sentinel, .sentinel, .sentinel, .sentinel], laidTests := true, laidLooks := .later }
def TraceStarsUptoCardSaid : Prop := Claim7.holds Tryz.pinned (.plain (OpenSpec.upto traceStarsSpec)) traceStarsUptoCard

/-- THE SECOND FORM's CARD OF 'rivuletlaw22.FindLines'. -/
def findLinesUptoCard : Claim7 := { stood := { row := findLinesUptoRow, standIns := [], harness := (true, "f8d78788305c5c8f690c9e860e15954ce21537aa59804ac80ddb3c3aec555448"), looks := false }, kinds := [], alts := [], laidByText := true, laidKinds := [.sentinel, .sentinel, .sentinel, .sentinel, .sentinel, .sentinel, .sentinel], laidTests := true, laidLooks := .later }
def FindLinesUptoCardSaid : Prop := Claim7.holds Tryz.pinned (.plain (OpenSpec.upto findLinesSpec)) findLinesUptoCard

/-- THE SECOND FORM's CARD OF 'rivuletlaw22.FindRings'. -/
def findRingsUptoCard : Claim7 := { stood := { row := findRingsUptoRow, standIns := [], harness := (true, "f8d78788305c5c8f690c9e860e15954ce21537aa59804ac80ddb3c3aec555448"), looks := false }, kinds := [], alts := [], laidByText := true, laidKinds := [.sentinel, .sentinel, .sentinel, .sentinel, .sentinel, .sentinel, .sentinel], laidTests := true, laidLooks := .later }
def FindRingsUptoCardSaid : Prop := Claim7.holds Tryz.pinned (.plain (OpenSpec.upto findRingsSpec)) findRingsUptoCard

/-- THE SECOND FORM's CARD OF 'rivuletlaw22.FindRoots'. -/
def findRootsUptoCard : Claim7 := { stood := { row := findRootsUptoRow, standIns := [], harness := (true, "f8d78788305c5c8f690c9e860e15954ce21537aa59804ac80ddb3c3aec555448"), looks := false }, kinds := [], alts := [], laidByText := true, laidKinds := [.data, .data, .data, .sentinel, .sentinel, .sentinel, .sentinel, .sentinel, .sentinel, .sentinel], laidTests := true, laidLooks := .later }
def FindRootsUptoCardSaid : Prop := Claim7.holds Tryz.pinned (.plain (OpenSpec.upto findRootsSpec)) findRootsUptoCard
end Rows
end Go.Proofs.YtfbjgbecabbdnaaGreatDoor

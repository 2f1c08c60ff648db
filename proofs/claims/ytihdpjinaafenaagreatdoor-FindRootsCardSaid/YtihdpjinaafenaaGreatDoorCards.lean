/-
  DERIVED. GIVEN WITH THE SEED: THE CARDS: each row of YtihdpjinaafenaaGreatDoorRows.lean that lists a variable, with what it lists TIED to the program's text (the seventh form; the later family's looks); each row that meets fmt, with fmt's text TOLD by the authors' own Lean function (tested against real Go, not proved from fmt's source: count such statements apart). THE CARD IS WHAT COUNTS. Prove the row's statement (the work); the ties are given (YtihdpjinaafenaaGreatDoorTie.lean); close each card by the builder's one call (the guide's Derived/Test/ToyasCard.lean, 'card_holds'). Laid BY PROGRAM, IN A SANDBOX (cutbox-door.mjs). By AI agents, Wed Nov 11 2026. No macro, syntax, notation, axiom, sorry.
-/
import Derived.Test.YtihdpjinaafenaaGreatDoorRows
import GoSem.ClaimSeven
namespace Go.Proofs.YtihdpjinaafenaaGreatDoor
namespace Rows

/-- THE TIED CARD OF 'rivuletlaw23.RtrSeats'. -/
def rtrSeatsCard : Claim7 := { stood := { row := rtrSeatsRow, standIns := [], harness := (true, "558bcec340677f50624c4881d2ec384e8bb01838802b48d6fc841c42c2945dff"), looks := false }, kinds := [], alts := [], laidByText := true, laidKinds := [.sentinel, .sentinel, .sentinel, .sentinel, .sentinel, .sentinel, .sentinel], laidTests := true, laidLooks := .later }
def RtrSeatsCardSaid : Prop := Claim7.holds Tryz.pinned (.plain (OpenSpec.ofChange rtrSeatsSpec)) rtrSeatsCard

/-- THE TIED CARD OF 'rivuletlaw23.RtrHosts'. -/
def rtrHostsCard : Claim7 := { stood := { row := rtrHostsRow, standIns := [], harness := (true, "558bcec340677f50624c4881d2ec384e8bb01838802b48d6fc841c42c2945dff"), looks := false }, kinds := [], alts := [], laidByText := true, laidKinds := [.sentinel, .sentinel, .sentinel, .sentinel, .sentinel, .sentinel, .sentinel], laidTests := true, laidLooks := .later }
def RtrHostsCardSaid : Prop := Claim7.holds Tryz.pinned (.plain (OpenSpec.ofChange rtrHostsSpec)) rtrHostsCard

/-- THE TIED CARD OF 'rivuletlaw23.RtrJoins'. -/
def rtrJoinsCard : Claim7 := { stood := { row := rtrJoinsRow, standIns := [], harness := (true, "558bcec340677f50624c4881d2ec384e8bb01838802b48d6fc841c42c2945dff"), looks := false }, kinds := [], alts := [], laidByText := true, laidKinds := [.sentinel, .sentinel, .sentinel, .sentinel, .sentinel, .sentinel, .sentinel], laidTests := true, laidLooks := .later }
def RtrJoinsCardSaid : Prop := Claim7.holds Tryz.pinned (.plain (OpenSpec.ofChange rtrJoinsSpec)) rtrJoinsCard

/-- THE TIED CARD OF 'rivuletlaw22.FindRoots'. -/
def findRootsCard : Claim7 := { stood := { row := findRootsRow, standIns := [], harness := (true, "558bcec340677f50624c4881d2ec384e8bb01838802b48d6fc841c42c2945dff"), looks := false }, kinds := [], alts := [], laidByText := true, laidKinds := [.data, .data, .data, .sentinel, .sentinel, .sentinel, .sentinel, .sentinel, .sentinel, .sentinel], laidTests := true, laidLooks := .later }
def FindRootsCardSaid : Prop := Claim7.holds Tryz.pinned (.plain (OpenSpec.ofChange findRootsSpec)) findRootsCard

/-- THE TIED CARD OF 'rivuletlaw20.SolveLines'. -/
def solveLinesCard : Claim7 := { stood := { row := solveLinesRow, standIns := [], harness := (true, "558bcec340677f50624c4881d2ec384e8bb01838802b48d6fc841c42c2945dff"), looks := false }, kinds := [], alts := [], laidByText := true, laidKinds := [.sentinel, .sentinel, .sentinel, .sentinel, .sentinel, .sentinel, .sentinel], laidTests := true, laidLooks := .later }
def SolveLinesCardSaid : Prop := Claim7.holds Tryz.pinned (.plain (OpenSpec.ofChange solveLinesSpec)) solveLinesCard

/-- THE TIED CARD OF 'rivuletlaw21.TraceLines'. -/
def traceLinesCard : Claim7 := { stood := { row := traceLinesRow, standIns := [], harness := (true, "558bcec340677f50624c4881d2ec384e8bb01838802b48d6fc841c42c2945dff"), looks := false }, kinds := [], alts := [], laidByText := true, laidKinds := [.sentinel, .sentinel, .sentinel, .sentinel, .sentinel, .sentinel, .sentinel], laidTests := true, laidLooks := .later }
def TraceLinesCardSaid : Prop := Claim7.holds Tryz.pinned (.plain (OpenSpec.ofChange traceLinesSpec)) traceLinesCard

/-- THE TIED CARD OF 'rivuletlaw25.NetCopies'. -/
def netCopiesCard : Claim7 := { stood := { row := netCopiesRow, standIns := [], harness := (true, "558bcec340677f50624c4881d2ec384e8bb01838802b48d6fc841c42c2945dff"), looks := false }, kinds := [], alts := [], laidByText := true, laidKinds := [.sentinel, .sentinel, .sentinel, .sentinel, .sentinel, .sentinel, .sentinel, .sentinel, .sentinel, .sentinel], laidTests := true, laidLooks := .later }
def NetCopiesCardSaid : Prop := Claim7.holds Tryz.pinned (.plain (OpenSpec.ofChange netCopiesSpec)) netCopiesCard

/-- THE TIED CARD OF 'rivuletlaw25.NetFast'. -/
def netFastCard : Claim7 := { stood := { row := netFastRow, standIns := [], harness := (true, "558bcec340677f50624c4881d2ec384e8bb01838802b48d6fc841c42c2945dff"), looks := false }, kinds := [], alts := [], laidByText := true, laidKinds := [.sentinel, .sentinel, .sentinel, .sentinel, .sentinel, .sentinel, .sentinel, .sentinel, .sentinel, .sentinel], laidTests := true, laidLooks := .later }
def NetFastCardSaid : Prop := Claim7.holds Tryz.pinned (.plain (OpenSpec.ofChange netFastSpec)) netFastCard

/-- THE TIED CARD OF 'rivuletlaw25.NetBad'. -/
def netBadCard : Claim7 := { stood := { row := netBadRow, standIns := [], harness := (true, "558bcec340677f50624c4881d2ec384e8bb01838802b48d6fc841c42c2945dff"), looks := false }, kinds := [], alts := [], laidByText := true, laidKinds := [.sentinel, .sentinel, .sentinel, .sentinel, .sentinel, .sentinel, .sentinel, .sentinel, .sentinel, .sentinel], laidTests := true, laidLooks := .later }
def NetBadCardSaid : Prop := Claim7.holds Tryz.pinned (.plain (OpenSpec.ofChange netBadSpec)) netBadCard

/-- THE SECOND FORM's CARD OF 'rivuletlaw23.RtrSeats'. -/
def rtrSeatsUptoCard : Claim7 := { stood := { row := rtrSeatsUptoRow, standIns := [], harness := (true, "558bcec340677f50624c4881d2ec384e8bb01838802b48d6fc841c42c2945dff"), looks := false }, kinds := [], alts := [], laidByText := true, laidKinds := [.sentinel, .sentinel, .sentinel, .sentinel, .sentinel, .sentinel, .sentinel], laidTests := true, laidLooks := .later }
def RtrSeatsUptoCardSaid : Prop := Claim7.holds Tryz.pinned (.plain (OpenSpec.upto rtrSeatsSpec)) rtrSeatsUptoCard

/-- THE SECOND FORM's CARD OF 'rivuletlaw23.RtrHosts'. -/
def rtrHostsUptoCard : Claim7 := { stood := { row := rtrHostsUptoRow, standIns := [], harness := (true, "558bcec340677f50624c4881d2ec384e8bb01838802b48d6fc841c42c2945dff"), looks := false }, kinds := [], alts := [], laidByText := true, laidKinds := [.sentinel, .sentinel, .sentinel, .sentinel, .sentinel, .sentinel, .sentinel], laidTests := true, laidLooks := .later }
def RtrHostsUptoCardSaid : Prop := Claim7.holds Tryz.pinned (.plain (OpenSpec.upto rtrHostsSpec)) rtrHostsUptoCard

/-- THE SECOND FORM's CARD OF 'rivuletlaw23.RtrJoins'. -/
def rtrJoinsUptoCard : Claim7 := { stood := { row := rtrJoinsUptoRow, standIns := [], harness := (true, "558bcec340677f50624c4881d2ec384e8bb01838802b48d6fc841c42c2945dff"), looks := false }, kinds := [], alts := [], laidByText := true, laidKinds := [.sentinel, .sentinel, .sentinel, .sentinel, .sentinel, .sentinel, .sentinel], laidTests := true, laidLooks := .later }
def RtrJoinsUptoCardSaid : Prop := Claim7.holds Tryz.pinned (.plain (OpenSpec.upto rtrJoinsSpec)) rtrJoinsUptoCard

/-- THE SECOND FORM's CARD OF 'rivuletlaw22.FindRoots'. -/
def findRootsUptoCard : Claim7 := { stood := { row := findRootsUptoRow, standIns := [], harness := (true, "558bcec340677f50624c4881d2ec384e8bb01838802b48d6fc841c42c2945dff"), looks := false }, kinds := [], alts := [], laidByText := true, laidKinds := [.data, .data, .data, .sentinel, .sentinel, .sentinel, .sentinel, .sentinel, .sentinel, .sentinel], laidTests := true, laidLooks := .later }
def FindRootsUptoCardSaid : Prop := Claim7.holds Tryz.pinned (.plain (OpenSpec.upto findRootsSpec)) findRootsUptoCard

/-- THE SECOND FORM's CARD OF 'rivuletlaw20.SolveLines'. -/
def solveLinesUptoCard : Claim7 := { stood := { row := solveLinesUptoRow, standIns := [], harness := (true, "558bcec340677f50624c4881d2ec384e8bb01838802b48d6fc841c42c2945dff"), looks := false }, kinds := [], alts := [], laidByText := true, laidKinds := [.sentinel, .sentinel, .sentinel, .sentinel, .sentinel, .sentinel, .sentinel], laidTests := true, laidLooks := .later }
def SolveLinesUptoCardSaid : Prop := Claim7.holds Tryz.pinned (.plain (OpenSpec.upto solveLinesSpec)) solveLinesUptoCard

/-- THE SECOND FORM's CARD OF 'rivuletlaw21.TraceLines'. -/
def traceLinesUptoCard : Claim7 := { stood := { row := traceLinesUptoRow, standIns := [], harness := (true, "558bcec340677f50624c4881d2ec384e8bb01838802b48d6fc841c42c2945dff"), looks := false }, kinds := [], alts := [], laidByText := true, laidKinds := [.sentinel, .sentinel, .sentinel, .sentinel, .sentinel, .sentinel, .sentinel], laidTests := true, laidLooks := .later }
def TraceLinesUptoCardSaid : Prop := Claim7.holds Tryz.pinned (.plain (OpenSpec.upto traceLinesSpec)) traceLinesUptoCard

/-- THE SECOND FORM's CARD OF 'rivuletlaw25.NetCopies'. -/
def netCopiesUptoCard : Claim7 := { stood := { row := netCopiesUptoRow, standIns := [], harness := (true, "558bcec340677f50624c4881d2ec384e8bb01838802b48d6fc841c42c2945dff"), looks := false }, kinds := [], alts := [], laidByText := true, laidKinds := [.sentinel, .sentinel, .sentinel, .sentinel, .sentinel, .sentinel, .sentinel, .sentinel, .sentinel, .sentinel], laidTests := true, laidLooks := .later }
def NetCopiesUptoCardSaid : Prop := Claim7.holds Tryz.pinned (.plain (OpenSpec.upto netCopiesSpec)) netCopiesUptoCard

/-- THE SECOND FORM's CARD OF 'rivuletlaw25.NetFast'. -/
def netFastUptoCard : Claim7 := { stood := { row := netFastUptoRow, standIns := [], harness := (true, "558bcec340677f50624c4881d2ec384e8bb01838802b48d6fc841c42c2945dff"), looks := false }, kinds := [], alts := [], laidByText := true, laidKinds := [.sentinel, .sentinel, .sentinel, .sentinel, .sentinel, .sentinel, .sentinel, .sentinel, .sentinel, .sentinel], laidTests := true, laidLooks := .later }
def NetFastUptoCardSaid : Prop := Claim7.holds Tryz.pinned (.plain (OpenSpec.upto netFastSpec)) netFastUptoCard

/-- THE SECOND FORM's CARD OF 'rivuletlaw25.NetBad'. -/
def netBadUptoCard : Claim7 := { stood := { row := netBadUptoRow, standIns := [], harness := (true, "558bcec340677f50624c4881d2ec384e8bb01838802b48d6fc841c42c2945dff"), looks := false }, kinds := [], alts := [], laidByText := true, laidKinds := [.sentinel, .sentinel, .sentinel, .sentinel, .sentinel, .sentinel, .sentinel, .sentinel, .sentinel, .sentinel], laidTests := true, laidLooks := .later }
def NetBadUptoCardSaid : Prop := Claim7.holds Tryz.pinned (.plain (OpenSpec.upto netBadSpec)) netBadUptoCard
end Rows
end Go.Proofs.YtihdpjinaafenaaGreatDoor

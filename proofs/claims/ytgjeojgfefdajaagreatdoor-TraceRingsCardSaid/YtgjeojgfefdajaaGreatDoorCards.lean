/-
  DERIVED. GIVEN WITH THE SEED: THE CARDS: each row of YtgjeojgfefdajaaGreatDoorRows.lean that lists a variable, with what it lists TIED to the program's text (the seventh form; the later family's looks); each row that meets fmt, with fmt's text TOLD by the authors' own Lean function (tested against real Go, not proved from fmt's source: count such statements apart). THE CARD IS WHAT COUNTS. Prove the row's statement (the work); the ties are given (YtgjeojgfefdajaaGreatDoorTie.lean); close each card by the builder's one call (the guide's Derived/Test/ToyasCard.lean, 'card_holds'). Laid BY PROGRAM, IN A SANDBOX (cutbox-door.mjs). By AI agents, Wed Nov 11 2026. No macro, syntax, notation, axiom, sorry.
-/
import Derived.Test.YtgjeojgfefdajaaGreatDoorRows
import GoSem.ClaimSeven
namespace Go.Proofs.YtgjeojgfefdajaaGreatDoor
namespace Rows

/-- THE TIED CARD OF 'rivuletlaw21.TraceRings'. -/
def traceRingsCard : Claim7 := { stood := { row := traceRingsRow, standIns := [], harness := (true, "50021998853f36a618014e8457bb6fe342eb5f5956c232daf9dd40ced96d9b3f"), looks := false }, kinds := [], alts := [], laidByText := true, laidKinds := [.sentinel, .sentinel, .sentinel, .sentinel, .sentinel, .sentinel, .sentinel], laidTests := true, laidLooks := .later }
def TraceRingsCardSaid : Prop := Claim7.holds Tryz.pinned (.plain (OpenSpec.ofChange traceRingsSpec)) traceRingsCard

/-- THE TIED CARD OF 'rivuletlaw16.KeysOrder'. -/
def keysOrderCard : Claim7 := { stood := { row := keysOrderRow, standIns := [], harness := (true, "50021998853f36a618014e8457bb6fe342eb5f5956c232daf9dd40ced96d9b3f"), looks := false }, kinds := [], alts := [], laidByText := true, laidKinds := [.sentinel, .sentinel, .sentinel, .sentinel, .sentinel, .sentinel, .sentinel], laidTests := true, laidLooks := .later }
def KeysOrderCardSaid : Prop := Claim7.holds Tryz.pinned (.plain (OpenSpec.ofChange keysOrderSpec)) keysOrderCard

/-- THE TIED CARD OF 'rivuletlaw16.KeysSent'. -/
def keysSentCard : Claim7 := { stood := { row := keysSentRow, standIns := [], harness := (true, "50021998853f36a618014e8457bb6fe342eb5f5956c232daf9dd40ced96d9b3f"), looks := false }, kinds := [], alts := [], laidByText := true, laidKinds := [.sentinel, .sentinel, .sentinel, .sentinel, .sentinel, .sentinel, .sentinel], laidTests := true, laidLooks := .later }
def KeysSentCardSaid : Prop := Claim7.holds Tryz.pinned (.plain (OpenSpec.ofChange keysSentSpec)) keysSentCard

/-- THE TIED CARD OF 'rivuletlaw16.KeysSay'. -/
def keysSayCard : Claim7 := { stood := { row := keysSayRow, standIns := [], harness := (true, "50021998853f36a618014e8457bb6fe342eb5f5956c232daf9dd40ced96d9b3f"), looks := false }, kinds := [], alts := [], laidByText := true, laidKinds := [.sentinel, .sentinel, .sentinel, .sentinel, .sentinel, .sentinel, .sentinel], laidTests := true, laidLooks := .later }
def KeysSayCardSaid : Prop := Claim7.holds Tryz.pinned (.plain (OpenSpec.ofChange keysSaySpec)) keysSayCard

/-- THE TIED CARD OF 'rivuletlaw16.KeysAll'. -/
def keysAllCard : Claim7 := { stood := { row := keysAllRow, standIns := [], harness := (true, "50021998853f36a618014e8457bb6fe342eb5f5956c232daf9dd40ced96d9b3f"), looks := false }, kinds := [], alts := [], laidByText := true, laidKinds := [.sentinel, .sentinel, .sentinel, .sentinel, .sentinel, .sentinel, .sentinel], laidTests := true, laidLooks := .later }
def KeysAllCardSaid : Prop := Claim7.holds Tryz.pinned (.plain (OpenSpec.ofChange keysAllSpec)) keysAllCard

/-- THE TIED CARD OF 'rivuletlaw17.WantRoots'. -/
def wantRootsCard : Claim7 := { stood := { row := wantRootsRow, standIns := [], harness := (true, "50021998853f36a618014e8457bb6fe342eb5f5956c232daf9dd40ced96d9b3f"), looks := false }, kinds := [], alts := [], laidByText := true, laidKinds := [.sentinel, .sentinel, .sentinel, .sentinel, .sentinel, .sentinel, .sentinel], laidTests := true, laidLooks := .later }
def WantRootsCardSaid : Prop := Claim7.holds Tryz.pinned (.plain (OpenSpec.ofChange wantRootsSpec)) wantRootsCard

/-- THE TIED CARD OF 'rivuletlaw17.WantOut'. -/
def wantOutCard : Claim7 := { stood := { row := wantOutRow, standIns := [], harness := (true, "50021998853f36a618014e8457bb6fe342eb5f5956c232daf9dd40ced96d9b3f"), looks := false }, kinds := [], alts := [], laidByText := true, laidKinds := [.sentinel, .sentinel, .sentinel, .sentinel, .sentinel, .sentinel, .sentinel], laidTests := true, laidLooks := .later }
def WantOutCardSaid : Prop := Claim7.holds Tryz.pinned (.plain (OpenSpec.ofChange wantOutSpec)) wantOutCard

/-- THE TIED CARD OF 'rivuletlaw17.WantSends'. -/
def wantSendsCard : Claim7 := { stood := { row := wantSendsRow, standIns := [], harness := (true, "50021998853f36a618014e8457bb6fe342eb5f5956c232daf9dd40ced96d9b3f"), looks := false }, kinds := [], alts := [], laidByText := true, laidKinds := [.sentinel, .sentinel, .sentinel, .sentinel, .sentinel, .sentinel, .sentinel], laidTests := true, laidLooks := .later }
def WantSendsCardSaid : Prop := Claim7.holds Tryz.pinned (.plain (OpenSpec.ofChange wantSendsSpec)) wantSendsCard

/-- THE TIED CARD OF 'rivuletlaw17.WantGrows'. -/
def wantGrowsCard : Claim7 := { stood := { row := wantGrowsRow, standIns := [], harness := (true, "50021998853f36a618014e8457bb6fe342eb5f5956c232daf9dd40ced96d9b3f"), looks := false }, kinds := [], alts := [], laidByText := true, laidKinds := [.sentinel, .sentinel, .sentinel, .sentinel, .sentinel, .sentinel, .sentinel], laidTests := true, laidLooks := .later }
def WantGrowsCardSaid : Prop := Claim7.holds Tryz.pinned (.plain (OpenSpec.ofChange wantGrowsSpec)) wantGrowsCard

/-- THE TIED CARD OF 'rivuletlaw17.WantSays'. -/
def wantSaysCard : Claim7 := { stood := { row := wantSaysRow, standIns := [], harness := (true, "50021998853f36a618014e8457bb6fe342eb5f5956c232daf9dd40ced96d9b3f"), looks := false }, kinds := [], alts := [], laidByText := true, laidKinds := [.sentinel, .sentinel, .sentinel, .sentinel, .sentinel, .sentinel, .sentinel], laidTests := true, laidLooks := .later }
def WantSaysCardSaid : Prop := Claim7.holds Tryz.pinned (.plain (OpenSpec.ofChange wantSaysSpec)) wantSaysCard

/-- THE SECOND FORM's CARD OF 'rivuletlaw21.TraceRings'. -/
def traceRingsUptoCard : Claim7 := { stood := { row := traceRingsUptoRow, standIns := [], harness := (true, "50021998853f36a618014e8457bb6fe342eb5f5956c232daf9dd40ced96d9b3f"), looks := false }, kinds := [], alts := [], laidByText := true, laidKinds := [.sentinel, .sentinel, .sentinel, .sentinel, .sentinel, .sentinel, .sentinel], laidTests := true, laidLooks := .later }
def TraceRingsUptoCardSaid : Prop := Claim7.holds Tryz.pinned (.plain (OpenSpec.upto traceRingsSpec)) traceRingsUptoCard

/-- THE SECOND FORM's CARD OF 'rivuletlaw16.KeysOrder'. -/
def keysOrderUptoCard : Claim7 := { stood := { row := keysOrderUptoRow, standIns := [], harness := (true, "50021998853f36a618014e8457bb6fe342eb5f5956c232daf9dd40ced96d9b3f"), looks := false }, kinds := [], alts := [], laidByText := true, laidKinds := [.sentinel, .sentinel, .sentinel, .sentinel, .sentinel, .sentinel, .sentinel], laidTests := true, laidLooks := .later }
def KeysOrderUptoCardSaid : Prop := Claim7.holds Tryz.pinned (.plain (OpenSpec.upto keysOrderSpec)) keysOrderUptoCard

/-- THE SECOND FORM's CARD OF 'rivuletlaw16.KeysSent'. -/
def keysSentUptoCard : Claim7 := { stood := { row := keysSentUptoRow, standIns := [], harness := (true, "50021998853f36a618014e8457bb6fe342eb5f5956c232daf9dd40ced96d9b3f"), looks := false }, kinds := [], alts := [], laidByText := true, laidKinds := [.sentinel, .sentinel, .sentinel, .sentinel, .sentinel, .sentinel, .sentinel], laidTests := true, laidLooks := .later }
def KeysSentUptoCardSaid : Prop := Claim7.holds Tryz.pinned (.plain (OpenSpec.upto keysSentSpec)) keysSentUptoCard

/-- THE SECOND FORM's CARD OF 'rivuletlaw16.KeysSay'. -/
def keysSayUptoCard : Claim7 := { stood := { row := keysSayUptoRow, standIns := [], harness := (true, "50021998853f36a618014e8457bb6fe342eb5f5956c232daf9dd40ced96d9b3f"), looks := false }, kinds := [], alts := [], laidByText := true, laidKinds := [.sentinel, .sentinel, .sentinel, .sentinel, .sentinel, .sentinel, .sentinel], laidTests := true, laidLooks := .later }
def KeysSayUptoCardSaid : Prop := Claim7.holds Tryz.pinned (.plain (OpenSpec.upto keysSaySpec)) keysSayUptoCard

/-- THE SECOND FORM's CARD OF 'rivuletlaw16.KeysAll'. -/
def keysAllUptoCard : Claim7 := { stood := { row := keysAllUptoRow, standIns := [], harness := (true, "50021998853f36a618014e8457bb6fe342eb5f5956c232daf9dd40ced96d9b3f"), looks := false }, kinds := [], alts := [], laidByText := true, laidKinds := [.sentinel, .sentinel, .sentinel, .sentinel, .sentinel, .sentinel, .sentinel], laidTests := true, laidLooks := .later }
def KeysAllUptoCardSaid : Prop := Claim7.holds Tryz.pinned (.plain (OpenSpec.upto keysAllSpec)) keysAllUptoCard

/-- THE SECOND FORM's CARD OF 'rivuletlaw17.WantRoots'. -/
def wantRootsUptoCard : Claim7 := { stood := { row := wantRootsUptoRow, standIns := [], harness := (true, "50021998853f36a618014e8457bb6fe342eb5f5956c232daf9dd40ced96d9b3f"), looks := false }, kinds := [], alts := [], laidByText := true, laidKinds := [.sentinel, .sentinel, .sentinel, .sentinel, .sentinel, .sentinel, .sentinel], laidTests := true, laidLooks := .later }
def WantRootsUptoCardSaid : Prop := Claim7.holds Tryz.pinned (.plain (OpenSpec.upto wantRootsSpec)) wantRootsUptoCard

/-- THE SECOND FORM's CARD OF 'rivuletlaw17.WantOut'. -/
def wantOutUptoCard : Claim7 := { stood := { row := wantOutUptoRow, standIns := [], harness := (true, "50021998853f36a618014e8457bb6fe342eb5f5956c232daf9dd40ced96d9b3f"), looks := false }, kinds := [], alts := [], laidByText := true, laidKinds := [.sentinel, .sentinel, .sentinel, .sentinel, .sentinel, .sentinel, .sentinel], laidTests := true, laidLooks := .later }
def WantOutUptoCardSaid : Prop := Claim7.holds Tryz.pinned (.plain (OpenSpec.upto wantOutSpec)) wantOutUptoCard

/-- THE SECOND FORM's CARD OF 'rivuletlaw17.WantSends'. -/
def wantSendsUptoCard : Claim7 := { stood := { row := wantSendsUptoRow, standIns := [], harness := (true, "50021998853f36a618014e8457bb6fe342eb5f5956c232daf9dd40ced96d9b3f"), looks := false }, kinds := [], alts := [], laidByText := true, laidKinds := [.sentinel, .sentinel, .sentinel, .sentinel, .sentinel, .sentinel, .sentinel], laidTests := true, laidLooks := .later }
def WantSendsUptoCardSaid : Prop := Claim7.holds Tryz.pinned (.plain (OpenSpec.upto wantSendsSpec)) wantSendsUptoCard

/-- THE SECOND FORM's CARD OF 'rivuletlaw17.WantGrows'. -/
def wantGrowsUptoCard : Claim7 := { stood := { row := wantGrowsUptoRow, standIns := [], harness := (true, "50021998853f36a618014e8457bb6fe342eb5f5956c232daf9dd40ced96d9b3f"), looks := false }, kinds := [], alts := [], laidByText := true, laidKinds := [.sentinel, .sentinel, .sentinel, .sentinel, .sentinel, .sentinel, .sentinel], laidTests := true, laidLooks := .later }
def WantGrowsUptoCardSaid : Prop := Claim7.holds Tryz.pinned (.plain (OpenSpec.upto wantGrowsSpec)) wantGrowsUptoCard

/-- THE SECOND FORM's CARD OF 'rivuletlaw17.WantSays'. -/
def wantSaysUptoCard : Claim7 := { stood := { row := wantSaysUptoRow, standIns := [], harness := (true, "50021998853f36a618014e8457bb6fe342eb5f5956c232daf9dd40ced96d9b3f"), looks := false }, kinds := [], alts := [], laidByText := true, laidKinds := [.sentinel, .sentinel, .sentinel, .sentinel, .sentinel, .sentinel, .sentinel], laidTests := true, laidLooks := .later }
def WantSaysUptoCardSaid : Prop := Claim7.holds Tryz.pinned (.plain (OpenSpec.upto wantSaysSpec)) wantSaysUptoCard
end Rows
end Go.Proofs.YtgjeojgfefdajaaGreatDoor

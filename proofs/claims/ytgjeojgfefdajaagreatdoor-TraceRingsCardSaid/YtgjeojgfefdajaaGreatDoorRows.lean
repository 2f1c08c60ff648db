/-
  NARROWER THAN 'FOR EVERY INPUT', by the rows' own cells (each row's printed sentence says how): TraceRings: laid · KeysOrder: laid · KeysSent: laid · KeysSay: laid · KeysAll: laid · WantRoots: laid · WantOut: laid · WantSends: laid · WantGrows: laid · WantSays: laid.
  DERIVED. THE GIVEN ROWS OF THIS SEAT. 10 by the template 'for every input the law returns true; each argument reads behind the call as it read before'; 0 by the template 'total and deterministic' (their statements: YtgjeojgfefdajaaGreatDoorTotals.lean).
  GIVEN WITH THE SEED: the statements are not yours to turn. If you find one false, say at which input.
  Laid BY PROGRAM, IN A SANDBOX (cutbox-rows.mjs): the forced cells as the released guide's own fill.sh prints them over the translation da2224ece8c1b4f8… (all of the seat's roots in one cut). By AI agents, Wed Nov 11 2026. No macro, syntax, notation, axiom, sorry.
-/
import Derived.Test.YtgjeojgfefdajaaGreatDoorChecked
import GoSem.Claim
import GoSem.ClaimJoined
import GoSem.ClaimMapViews
import Derived.JoinedTies
import Derived.KernelRfl
namespace Go.Proofs.YtgjeojgfefdajaaGreatDoor
/- THE CELL 'sum', in the pinned program and in every row, IS THE sha256 OF THE DUMP (.gsa) THAT YtgjeojgfefdajaaGreatDoorProg.lean LOADS. Nothing in Lean hashes anything: it is a label: what it is worth is what the hold of that sum in a sandbox is worth. -/
noncomputable def Tryz.pinned : Pinned := { name := "ytgjeojgfefdajaagreatdoor", sum := "da2224ece8c1b4f825621cbeb12d5fbe9959f9dee53a7ef44f3abad17d99f82b", checked := Tryz.checked }
namespace Rows
def none {H : Type} : Left H := { results := [], args := [] }

/- WHAT THE LISTED PACKAGE-LEVEL VARIABLES READ AS WHEN THE CALL BEGINS. Each datum BY PROGRAM (the guide's laid-datum.mjs) off the statement by which the dump's own 'gosem.cut.vars' lays the variable. In a bare row this is a premise. The card (YtgjeojgfefdajaaGreatDoorCards.lean) ties it to the program's text. -/
def laid_rivulet_api_ErrRange {H : Type} : DataW H := .iface "*errors.errorString" (.ptr (.agg [.lit (.string [97, 32, 110, 117, 109, 98, 101, 114, 32, 111, 117, 116, 32, 111, 102, 32, 105, 116, 115, 32, 114, 97, 110, 103, 101])]))
def laid_rivulet_api_ErrMany {H : Type} : DataW H := .iface "*errors.errorString" (.ptr (.agg [.lit (.string [116, 111, 111, 32, 109, 97, 110, 121])]))
def laid_rivulet_api_ErrName {H : Type} : DataW H := .iface "*errors.errorString" (.ptr (.agg [.lit (.string [110, 111, 116, 32, 97, 32, 110, 97, 109, 101])]))
def laid_rivulet_api_ErrTwice {H : Type} : DataW H := .iface "*errors.errorString" (.ptr (.agg [.lit (.string [116, 104, 101, 114, 101, 32, 105, 115, 32, 111, 110, 101])]))
def laid_rivulet_api_ErrNone {H : Type} : DataW H := .iface "*errors.errorString" (.ptr (.agg [.lit (.string [116, 104, 101, 114, 101, 32, 105, 115, 32, 110, 111, 110, 101])]))
def laid_rivulet_api_ErrAway {H : Type} : DataW H := .iface "*errors.errorString" (.ptr (.agg [.lit (.string [110, 111, 116, 32, 111, 110, 32, 116, 104, 97, 116, 32, 108, 105, 110, 107])]))
def laid_rivulet_api_ErrKind {H : Type} : DataW H := .iface "*errors.errorString" (.ptr (.agg [.lit (.string [110, 111, 116, 32, 111, 102, 32, 116, 104, 97, 116, 32, 107, 105, 110, 100])]))

/-- 'rivuletlaw21.TraceRings': WHATEVER THE INPUT: true; the input reads as it did. -/
def traceRingsSpec : ChangeSpec := { name := "traceRings", fn := fun _ => fun
  | [d1, d2] => { results := [.lit (.bool true)], args := [d1, d2] }
  | _ => none }
def traceRingsRow : OpenClaim := { program := "ytgjeojgfefdajaagreatdoor", sum := "da2224ece8c1b4f825621cbeb12d5fbe9959f9dee53a7ef44f3abad17d99f82b", func := "rivulet/rivuletlaw21.TraceRings", spec := "traceRings", unfollowed := true, recurses := true, named := ["rivulet/api.ErrMany", "rivulet/api.ErrTwice", "rivulet/api.ErrRange", "rivulet/api.ErrName", "rivulet/api.ErrKind", "rivulet/api.ErrNone", "rivulet/api.ErrAway"], plainKeys := false, apart := false, laid := [("rivulet/api.ErrRange", laid_rivulet_api_ErrRange), ("rivulet/api.ErrMany", laid_rivulet_api_ErrMany), ("rivulet/api.ErrName", laid_rivulet_api_ErrName), ("rivulet/api.ErrTwice", laid_rivulet_api_ErrTwice), ("rivulet/api.ErrNone", laid_rivulet_api_ErrNone), ("rivulet/api.ErrAway", laid_rivulet_api_ErrAway), ("rivulet/api.ErrKind", laid_rivulet_api_ErrKind)] }
def TraceRingsSaid : Prop := traceRingsRow.holds Tryz.pinned (OpenSpec.ofChange traceRingsSpec)

/-- ITS FALSE NEIGHBOUR: 'it returns false'. Refute it at one input. -/
def traceRingsWrong : ChangeSpec := { name := "traceRings", fn := fun _ => fun
  | [d1, d2] => { results := [.lit (.bool false)], args := [d1, d2] }
  | _ => none }
def TraceRingsWrongFalsely : Prop := traceRingsRow.holds Tryz.pinned (OpenSpec.ofChange traceRingsWrong)

/-- 'rivuletlaw16.KeysOrder': WHATEVER THE INPUT: true; the input reads as it did. -/
def keysOrderSpec : ChangeSpec := { name := "keysOrder", fn := fun _ => fun
  | [d1, d2, d3] => { results := [.lit (.bool true)], args := [d1, d2, d3] }
  | _ => none }
def keysOrderRow : OpenClaim := { program := "ytgjeojgfefdajaagreatdoor", sum := "da2224ece8c1b4f825621cbeb12d5fbe9959f9dee53a7ef44f3abad17d99f82b", func := "rivulet/rivuletlaw16.KeysOrder", spec := "keysOrder", unfollowed := true, recurses := true, named := ["rivulet/api.ErrMany", "rivulet/api.ErrTwice", "rivulet/api.ErrRange", "rivulet/api.ErrName", "rivulet/api.ErrKind", "rivulet/api.ErrNone", "rivulet/api.ErrAway"], plainKeys := false, apart := false, laid := [("rivulet/api.ErrRange", laid_rivulet_api_ErrRange), ("rivulet/api.ErrMany", laid_rivulet_api_ErrMany), ("rivulet/api.ErrName", laid_rivulet_api_ErrName), ("rivulet/api.ErrTwice", laid_rivulet_api_ErrTwice), ("rivulet/api.ErrNone", laid_rivulet_api_ErrNone), ("rivulet/api.ErrAway", laid_rivulet_api_ErrAway), ("rivulet/api.ErrKind", laid_rivulet_api_ErrKind)] }
def KeysOrderSaid : Prop := keysOrderRow.holds Tryz.pinned (OpenSpec.ofChange keysOrderSpec)

/-- ITS FALSE NEIGHBOUR: 'it returns false'. Refute it at one input. -/
def keysOrderWrong : ChangeSpec := { name := "keysOrder", fn := fun _ => fun
  | [d1, d2, d3] => { results := [.lit (.bool false)], args := [d1, d2, d3] }
  | _ => none }
def KeysOrderWrongFalsely : Prop := keysOrderRow.holds Tryz.pinned (OpenSpec.ofChange keysOrderWrong)

/-- 'rivuletlaw16.KeysSent': WHATEVER THE INPUT: true; the input reads as it did. -/
def keysSentSpec : ChangeSpec := { name := "keysSent", fn := fun _ => fun
  | [d] => { results := [.lit (.bool true)], args := [d] }
  | _ => none }
def keysSentRow : OpenClaim := { program := "ytgjeojgfefdajaagreatdoor", sum := "da2224ece8c1b4f825621cbeb12d5fbe9959f9dee53a7ef44f3abad17d99f82b", func := "rivulet/rivuletlaw16.KeysSent", spec := "keysSent", unfollowed := true, recurses := true, named := ["rivulet/api.ErrMany", "rivulet/api.ErrTwice", "rivulet/api.ErrRange", "rivulet/api.ErrName", "rivulet/api.ErrKind", "rivulet/api.ErrNone", "rivulet/api.ErrAway"], plainKeys := false, apart := false, laid := [("rivulet/api.ErrRange", laid_rivulet_api_ErrRange), ("rivulet/api.ErrMany", laid_rivulet_api_ErrMany), ("rivulet/api.ErrName", laid_rivulet_api_ErrName), ("rivulet/api.ErrTwice", laid_rivulet_api_ErrTwice), ("rivulet/api.ErrNone", laid_rivulet_api_ErrNone), ("rivulet/api.ErrAway", laid_rivulet_api_ErrAway), ("rivulet/api.ErrKind", laid_rivulet_api_ErrKind)] }
def KeysSentSaid : Prop := keysSentRow.holds Tryz.pinned (OpenSpec.ofChange keysSentSpec)

/-- ITS FALSE NEIGHBOUR: 'it returns false'. Refute it at one input. -/
def keysSentWrong : ChangeSpec := { name := "keysSent", fn := fun _ => fun
  | [d] => { results := [.lit (.bool false)], args := [d] }
  | _ => none }
def KeysSentWrongFalsely : Prop := keysSentRow.holds Tryz.pinned (OpenSpec.ofChange keysSentWrong)

/-- 'rivuletlaw16.KeysSay': WHATEVER THE INPUT: true; the input reads as it did. -/
def keysSaySpec : ChangeSpec := { name := "keysSay", fn := fun _ => fun
  | [d1, d2, d3, d4] => { results := [.lit (.bool true)], args := [d1, d2, d3, d4] }
  | _ => none }
def keysSayRow : OpenClaim := { program := "ytgjeojgfefdajaagreatdoor", sum := "da2224ece8c1b4f825621cbeb12d5fbe9959f9dee53a7ef44f3abad17d99f82b", func := "rivulet/rivuletlaw16.KeysSay", spec := "keysSay", unfollowed := true, recurses := true, named := ["rivulet/api.ErrMany", "rivulet/api.ErrTwice", "rivulet/api.ErrRange", "rivulet/api.ErrName", "rivulet/api.ErrKind", "rivulet/api.ErrNone", "rivulet/api.ErrAway"], plainKeys := false, apart := false, laid := [("rivulet/api.ErrRange", laid_rivulet_api_ErrRange), ("rivulet/api.ErrMany", laid_rivulet_api_ErrMany), ("rivulet/api.ErrName", laid_rivulet_api_ErrName), ("rivulet/api.ErrTwice", laid_rivulet_api_ErrTwice), ("rivulet/api.ErrNone", laid_rivulet_api_ErrNone), ("rivulet/api.ErrAway", laid_rivulet_api_ErrAway), ("rivulet/api.ErrKind", laid_rivulet_api_ErrKind)] }
def KeysSaySaid : Prop := keysSayRow.holds Tryz.pinned (OpenSpec.ofChange keysSaySpec)

/-- ITS FALSE NEIGHBOUR: 'it returns false'. Refute it at one input. -/
def keysSayWrong : ChangeSpec := { name := "keysSay", fn := fun _ => fun
  | [d1, d2, d3, d4] => { results := [.lit (.bool false)], args := [d1, d2, d3, d4] }
  | _ => none }
def KeysSayWrongFalsely : Prop := keysSayRow.holds Tryz.pinned (OpenSpec.ofChange keysSayWrong)

/-- 'rivuletlaw16.KeysAll': WHATEVER THE INPUT: true; the input reads as it did. -/
def keysAllSpec : ChangeSpec := { name := "keysAll", fn := fun _ => fun
  | [d1, d2] => { results := [.lit (.bool true)], args := [d1, d2] }
  | _ => none }
def keysAllRow : OpenClaim := { program := "ytgjeojgfefdajaagreatdoor", sum := "da2224ece8c1b4f825621cbeb12d5fbe9959f9dee53a7ef44f3abad17d99f82b", func := "rivulet/rivuletlaw16.KeysAll", spec := "keysAll", unfollowed := true, recurses := true, named := ["rivulet/api.ErrMany", "rivulet/api.ErrTwice", "rivulet/api.ErrRange", "rivulet/api.ErrName", "rivulet/api.ErrKind", "rivulet/api.ErrNone", "rivulet/api.ErrAway"], plainKeys := false, apart := false, laid := [("rivulet/api.ErrRange", laid_rivulet_api_ErrRange), ("rivulet/api.ErrMany", laid_rivulet_api_ErrMany), ("rivulet/api.ErrName", laid_rivulet_api_ErrName), ("rivulet/api.ErrTwice", laid_rivulet_api_ErrTwice), ("rivulet/api.ErrNone", laid_rivulet_api_ErrNone), ("rivulet/api.ErrAway", laid_rivulet_api_ErrAway), ("rivulet/api.ErrKind", laid_rivulet_api_ErrKind)] }
def KeysAllSaid : Prop := keysAllRow.holds Tryz.pinned (OpenSpec.ofChange keysAllSpec)

/-- ITS FALSE NEIGHBOUR: 'it returns false'. Refute it at one input. -/
def keysAllWrong : ChangeSpec := { name := "keysAll", fn := fun _ => fun
  | [d1, d2] => { results := [.lit (.bool false)], args := [d1, d2] }
  | _ => none }
def KeysAllWrongFalsely : Prop := keysAllRow.holds Tryz.pinned (OpenSpec.ofChange keysAllWrong)

/-- 'rivuletlaw17.WantRoots': WHATEVER THE INPUT: true; the input reads as it did. -/
def wantRootsSpec : ChangeSpec := { name := "wantRoots", fn := fun _ => fun
  | [d1, d2, d3] => { results := [.lit (.bool true)], args := [d1, d2, d3] }
  | _ => none }
def wantRootsRow : OpenClaim := { program := "ytgjeojgfefdajaagreatdoor", sum := "da2224ece8c1b4f825621cbeb12d5fbe9959f9dee53a7ef44f3abad17d99f82b", func := "rivulet/rivuletlaw17.WantRoots", spec := "wantRoots", unfollowed := true, recurses := true, named := ["rivulet/api.ErrMany", "rivulet/api.ErrTwice", "rivulet/api.ErrRange", "rivulet/api.ErrName", "rivulet/api.ErrKind", "rivulet/api.ErrNone", "rivulet/api.ErrAway"], plainKeys := false, apart := false, laid := [("rivulet/api.ErrRange", laid_rivulet_api_ErrRange), ("rivulet/api.ErrMany", laid_rivulet_api_ErrMany), ("rivulet/api.ErrName", laid_rivulet_api_ErrName), ("rivulet/api.ErrTwice", laid_rivulet_api_ErrTwice), ("rivulet/api.ErrNone", laid_rivulet_api_ErrNone), ("rivulet/api.ErrAway", laid_rivulet_api_ErrAway), ("rivulet/api.ErrKind", laid_rivulet_api_ErrKind)] }
def WantRootsSaid : Prop := wantRootsRow.holds Tryz.pinned (OpenSpec.ofChange wantRootsSpec)

/-- ITS FALSE NEIGHBOUR: 'it returns false'. Refute it at one input. -/
def wantRootsWrong : ChangeSpec := { name := "wantRoots", fn := fun _ => fun
  | [d1, d2, d3] => { results := [.lit (.bool false)], args := [d1, d2, d3] }
  | _ => none }
def WantRootsWrongFalsely : Prop := wantRootsRow.holds Tryz.pinned (OpenSpec.ofChange wantRootsWrong)

/-- 'rivuletlaw17.WantOut': WHATEVER THE INPUT: true; the input reads as it did. -/
def wantOutSpec : ChangeSpec := { name := "wantOut", fn := fun _ => fun
  | [d1, d2, d3] => { results := [.lit (.bool true)], args := [d1, d2, d3] }
  | _ => none }
def wantOutRow : OpenClaim := { program := "ytgjeojgfefdajaagreatdoor", sum := "da2224ece8c1b4f825621cbeb12d5fbe9959f9dee53a7ef44f3abad17d99f82b", func := "rivulet/rivuletlaw17.WantOut", spec := "wantOut", unfollowed := true, recurses := true, named := ["rivulet/api.ErrMany", "rivulet/api.ErrTwice", "rivulet/api.ErrRange", "rivulet/api.ErrName", "rivulet/api.ErrKind", "rivulet/api.ErrNone", "rivulet/api.ErrAway"], plainKeys := false, apart := false, laid := [("rivulet/api.ErrRange", laid_rivulet_api_ErrRange), ("rivulet/api.ErrMany", laid_rivulet_api_ErrMany), ("rivulet/api.ErrName", laid_rivulet_api_ErrName), ("rivulet/api.ErrTwice", laid_rivulet_api_ErrTwice), ("rivulet/api.ErrNone", laid_rivulet_api_ErrNone), ("rivulet/api.ErrAway", laid_rivulet_api_ErrAway), ("rivulet/api.ErrKind", laid_rivulet_api_ErrKind)] }
def WantOutSaid : Prop := wantOutRow.holds Tryz.pinned (OpenSpec.ofChange wantOutSpec)

/-- ITS FALSE NEIGHBOUR: 'it returns false'. Refute it at one input. -/
def wantOutWrong : ChangeSpec := { name := "wantOut", fn := fun _ => fun
  | [d1, d2, d3] => { results := [.lit (.bool false)], args := [d1, d2, d3] }
  | _ => none }
def WantOutWrongFalsely : Prop := wantOutRow.holds Tryz.pinned (OpenSpec.ofChange wantOutWrong)

/-- 'rivuletlaw17.WantSends': WHATEVER THE INPUT: true; the input reads as it did. -/
def wantSendsSpec : ChangeSpec := { name := "wantSends", fn := fun _ => fun
  | [d1, d2, d3] => { results := [.lit (.bool true)], args := [d1, d2, d3] }
  | _ => none }
def wantSendsRow : OpenClaim := { program := "ytgjeojgfefdajaagreatdoor", sum := "da2224ece8c1b4f825621cbeb12d5fbe9959f9dee53a7ef44f3abad17d99f82b", func := "rivulet/rivuletlaw17.WantSends", spec := "wantSends", unfollowed := true, recurses := true, named := ["rivulet/api.ErrMany", "rivulet/api.ErrTwice", "rivulet/api.ErrRange", "rivulet/api.ErrName", "rivulet/api.ErrKind", "rivulet/api.ErrNone", "rivulet/api.ErrAway"], plainKeys := false, apart := false, laid := [("rivulet/api.ErrRange", laid_rivulet_api_ErrRange), ("rivulet/api.ErrMany", laid_rivulet_api_ErrMany), ("rivulet/api.ErrName", laid_rivulet_api_ErrName), ("rivulet/api.ErrTwice", laid_rivulet_api_ErrTwice), ("rivulet/api.ErrNone", laid_rivulet_api_ErrNone), ("rivulet/api.ErrAway", laid_rivulet_api_ErrAway), ("rivulet/api.ErrKind", laid_rivulet_api_ErrKind)] }
def WantSendsSaid : Prop := wantSendsRow.holds Tryz.pinned (OpenSpec.ofChange wantSendsSpec)

/-- ITS FALSE NEIGHBOUR: 'it returns false'. Refute it at one input. -/
def wantSendsWrong : ChangeSpec := { name := "wantSends", fn := fun _ => fun
  | [d1, d2, d3] => { results := [.lit (.bool false)], args := [d1, d2, d3] }
  | _ => none }
def WantSendsWrongFalsely : Prop := wantSendsRow.holds Tryz.pinned (OpenSpec.ofChange wantSendsWrong)

/-- 'rivuletlaw17.WantGrows': WHATEVER THE INPUT: true; the input reads as it did. -/
def wantGrowsSpec : ChangeSpec := { name := "wantGrows", fn := fun _ => fun
  | [d1, d2, d3, d4, d5] => { results := [.lit (.bool true)], args := [d1, d2, d3, d4, d5] }
  | _ => none }
def wantGrowsRow : OpenClaim := { program := "ytgjeojgfefdajaagreatdoor", sum := "da2224ece8c1b4f825621cbeb12d5fbe9959f9dee53a7ef44f3abad17d99f82b", func := "rivulet/rivuletlaw17.WantGrows", spec := "wantGrows", unfollowed := true, recurses := true, named := ["rivulet/api.ErrMany", "rivulet/api.ErrTwice", "rivulet/api.ErrRange", "rivulet/api.ErrName", "rivulet/api.ErrKind", "rivulet/api.ErrNone", "rivulet/api.ErrAway"], plainKeys := false, apart := false, laid := [("rivulet/api.ErrRange", laid_rivulet_api_ErrRange), ("rivulet/api.ErrMany", laid_rivulet_api_ErrMany), ("rivulet/api.ErrName", laid_rivulet_api_ErrName), ("rivulet/api.ErrTwice", laid_rivulet_api_ErrTwice), ("rivulet/api.ErrNone", laid_rivulet_api_ErrNone), ("rivulet/api.ErrAway", laid_rivulet_api_ErrAway), ("rivulet/api.ErrKind", laid_rivulet_api_ErrKind)] }
def WantGrowsSaid : Prop := wantGrowsRow.holds Tryz.pinned (OpenSpec.ofChange wantGrowsSpec)

/-- ITS FALSE NEIGHBOUR: 'it returns false'. Refute it at one input. -/
def wantGrowsWrong : ChangeSpec := { name := "wantGrows", fn := fun _ => fun
  | [d1, d2, d3, d4, d5] => { results := [.lit (.bool false)], args := [d1, d2, d3, d4, d5] }
  | _ => none }
def WantGrowsWrongFalsely : Prop := wantGrowsRow.holds Tryz.pinned (OpenSpec.ofChange wantGrowsWrong)

/-- 'rivuletlaw17.WantSays': WHATEVER THE INPUT: true; the input reads as it did. -/
def wantSaysSpec : ChangeSpec := { name := "wantSays", fn := fun _ => fun
  | [d1, d2, d3, d4, d5] => { results := [.lit (.bool true)], args := [d1, d2, d3, d4, d5] }
  | _ => none }
def wantSaysRow : OpenClaim := { program := "ytgjeojgfefdajaagreatdoor", sum := "da2224ece8c1b4f825621cbeb12d5fbe9959f9dee53a7ef44f3abad17d99f82b", func := "rivulet/rivuletlaw17.WantSays", spec := "wantSays", unfollowed := true, recurses := true, named := ["rivulet/api.ErrMany", "rivulet/api.ErrTwice", "rivulet/api.ErrRange", "rivulet/api.ErrName", "rivulet/api.ErrKind", "rivulet/api.ErrNone", "rivulet/api.ErrAway"], plainKeys := false, apart := false, laid := [("rivulet/api.ErrRange", laid_rivulet_api_ErrRange), ("rivulet/api.ErrMany", laid_rivulet_api_ErrMany), ("rivulet/api.ErrName", laid_rivulet_api_ErrName), ("rivulet/api.ErrTwice", laid_rivulet_api_ErrTwice), ("rivulet/api.ErrNone", laid_rivulet_api_ErrNone), ("rivulet/api.ErrAway", laid_rivulet_api_ErrAway), ("rivulet/api.ErrKind", laid_rivulet_api_ErrKind)] }
def WantSaysSaid : Prop := wantSaysRow.holds Tryz.pinned (OpenSpec.ofChange wantSaysSpec)

/-- ITS FALSE NEIGHBOUR: 'it returns false'. Refute it at one input. -/
def wantSaysWrong : ChangeSpec := { name := "wantSays", fn := fun _ => fun
  | [d1, d2, d3, d4, d5] => { results := [.lit (.bool false)], args := [d1, d2, d3, d4, d5] }
  | _ => none }
def WantSaysWrongFalsely : Prop := wantSaysRow.holds Tryz.pinned (OpenSpec.ofChange wantSaysWrong)

/- THE SECOND FORM. 'bulk': how many values and letters a reading holds, each counted each time it is reached (what is shared counts as often as it is met; a slice's spare places count too). A statement '..UptoSaid' is the law's where the arguments, and the package variables that the reading takes, are together of bulk at most 1048576: NARROWER than '..Said'. Prove '..Said' where nothing that the law and all that it calls make is longer than what came in: it says more and counts as full. Else prove '..UptoSaid'. A law counts once. -/
mutual
def uptoBulk {H : Type} : DataW H → Nat
  | .lit (.string bytes) => bytes.length + 1
  | .lit _ => 1
  | .nil => 1
  | .ptr d => uptoBulk d + 1
  | .slice elems spare => uptoBulkAll elems + uptoBulkAll spare + 1
  | .agg parts => uptoBulkAll parts + 1
  | .iface _ d => uptoBulk d + 1
  | .map entries => uptoBulkEntries entries + 1
  | .held _ => 1
def uptoBulkAll {H : Type} : List (DataW H) → Nat
  | [] => 0
  | d :: r => uptoBulk d + uptoBulkAll r
def uptoBulkEntries {H : Type} : List (Lit × DataW H) → Nat
  | [] => 0
  | x :: r => uptoBulkEntry x + uptoBulkEntries r
def uptoBulkEntry {H : Type} : Lit × DataW H → Nat
  | (.string bytes, d) => bytes.length + uptoBulk d + 1
  | (_, d) => uptoBulk d + 1
 end
def uptoSmall : (H : Type) → List (DataW H) → Bool := fun _ ds => decide (uptoBulkAll ds ≤ 1048576)
def OpenSpec.upto (s : _root_.Go.ChangeSpec) : _root_.Go.OpenSpec := { _root_.Go.OpenSpec.ofChange s with cond := some uptoSmall }

/-- 'rivuletlaw21.TraceRings', WHERE WHAT IT READS IS OF BULK AT MOST 1048576: true; the input reads as it did. -/
def traceRingsUptoRow : OpenClaim := { program := "ytgjeojgfefdajaagreatdoor", sum := "da2224ece8c1b4f825621cbeb12d5fbe9959f9dee53a7ef44f3abad17d99f82b", func := "rivulet/rivuletlaw21.TraceRings", spec := "traceRings", unfollowed := true, recurses := true, named := ["rivulet/api.ErrMany", "rivulet/api.ErrTwice", "rivulet/api.ErrRange", "rivulet/api.ErrName", "rivulet/api.ErrKind", "rivulet/api.ErrNone", "rivulet/api.ErrAway"], plainKeys := false, apart := false, laid := [("rivulet/api.ErrRange", laid_rivulet_api_ErrRange), ("rivulet/api.ErrMany", laid_rivulet_api_ErrMany), ("rivulet/api.ErrName", laid_rivulet_api_ErrName), ("rivulet/api.ErrTwice", laid_rivulet_api_ErrTwice), ("rivulet/api.ErrNone", laid_rivulet_api_ErrNone), ("rivulet/api.ErrAway", laid_rivulet_api_ErrAway), ("rivulet/api.ErrKind", laid_rivulet_api_ErrKind)], narrowed := true }
def TraceRingsUptoSaid : Prop := traceRingsUptoRow.holds Tryz.pinned (OpenSpec.upto traceRingsSpec)

/-- 'rivuletlaw16.KeysOrder', WHERE WHAT IT READS IS OF BULK AT MOST 1048576: true; the input reads as it did. -/
def keysOrderUptoRow : OpenClaim := { program := "ytgjeojgfefdajaagreatdoor", sum := "da2224ece8c1b4f825621cbeb12d5fbe9959f9dee53a7ef44f3abad17d99f82b", func := "rivulet/rivuletlaw16.KeysOrder", spec := "keysOrder", unfollowed := true, recurses := true, named := ["rivulet/api.ErrMany", "rivulet/api.ErrTwice", "rivulet/api.ErrRange", "rivulet/api.ErrName", "rivulet/api.ErrKind", "rivulet/api.ErrNone", "rivulet/api.ErrAway"], plainKeys := false, apart := false, laid := [("rivulet/api.ErrRange", laid_rivulet_api_ErrRange), ("rivulet/api.ErrMany", laid_rivulet_api_ErrMany), ("rivulet/api.ErrName", laid_rivulet_api_ErrName), ("rivulet/api.ErrTwice", laid_rivulet_api_ErrTwice), ("rivulet/api.ErrNone", laid_rivulet_api_ErrNone), ("rivulet/api.ErrAway", laid_rivulet_api_ErrAway), ("rivulet/api.ErrKind", laid_rivulet_api_ErrKind)], narrowed := true }
def KeysOrderUptoSaid : Prop := keysOrderUptoRow.holds Tryz.pinned (OpenSpec.upto keysOrderSpec)

/-- 'rivuletlaw16.KeysSent', WHERE WHAT IT READS IS OF BULK AT MOST 1048576: true; the input reads as it did. -/
def keysSentUptoRow : OpenClaim := { program := "ytgjeojgfefdajaagreatdoor", sum := "da2224ece8c1b4f825621cbeb12d5fbe9959f9dee53a7ef44f3abad17d99f82b", func := "rivulet/rivuletlaw16.KeysSent", spec := "keysSent", unfollowed := true, recurses := true, named := ["rivulet/api.ErrMany", "rivulet/api.ErrTwice", "rivulet/api.ErrRange", "rivulet/api.ErrName", "rivulet/api.ErrKind", "rivulet/api.ErrNone", "rivulet/api.ErrAway"], plainKeys := false, apart := false, laid := [("rivulet/api.ErrRange", laid_rivulet_api_ErrRange), ("rivulet/api.ErrMany", laid_rivulet_api_ErrMany), ("rivulet/api.ErrName", laid_rivulet_api_ErrName), ("rivulet/api.ErrTwice", laid_rivulet_api_ErrTwice), ("rivulet/api.ErrNone", laid_rivulet_api_ErrNone), ("rivulet/api.ErrAway", laid_rivulet_api_ErrAway), ("rivulet/api.ErrKind", laid_rivulet_api_ErrKind)], narrowed := true }
def KeysSentUptoSaid : Prop := keysSentUptoRow.holds Tryz.pinned (OpenSpec.upto keysSentSpec)

/-- 'rivuletlaw16.KeysSay', WHERE WHAT IT READS IS OF BULK AT MOST 1048576: true; the input reads as it did. -/
def keysSayUptoRow : OpenClaim := { program := "ytgjeojgfefdajaagreatdoor", sum := "da2224ece8c1b4f825621cbeb12d5fbe9959f9dee53a7ef44f3abad17d99f82b", func := "rivulet/rivuletlaw16.KeysSay", spec := "keysSay", unfollowed := true, recurses := true, named := ["rivulet/api.ErrMany", "rivulet/api.ErrTwice", "rivulet/api.ErrRange", "rivulet/api.ErrName", "rivulet/api.ErrKind", "rivulet/api.ErrNone", "rivulet/api.ErrAway"], plainKeys := false, apart := false, laid := [("rivulet/api.ErrRange", laid_rivulet_api_ErrRange), ("rivulet/api.ErrMany", laid_rivulet_api_ErrMany), ("rivulet/api.ErrName", laid_rivulet_api_ErrName), ("rivulet/api.ErrTwice", laid_rivulet_api_ErrTwice), ("rivulet/api.ErrNone", laid_rivulet_api_ErrNone), ("rivulet/api.ErrAway", laid_rivulet_api_ErrAway), ("rivulet/api.ErrKind", laid_rivulet_api_ErrKind)], narrowed := true }
def KeysSayUptoSaid : Prop := keysSayUptoRow.holds Tryz.pinned (OpenSpec.upto keysSaySpec)

/-- 'rivuletlaw16.KeysAll', WHERE WHAT IT READS IS OF BULK AT MOST 1048576: true; the input reads as it did. -/
def keysAllUptoRow : OpenClaim := { program := "ytgjeojgfefdajaagreatdoor", sum := "da2224ece8c1b4f825621cbeb12d5fbe9959f9dee53a7ef44f3abad17d99f82b", func := "rivulet/rivuletlaw16.KeysAll", spec := "keysAll", unfollowed := true, recurses := true, named := ["rivulet/api.ErrMany", "rivulet/api.ErrTwice", "rivulet/api.ErrRange", "rivulet/api.ErrName", "rivulet/api.ErrKind", "rivulet/api.ErrNone", "rivulet/api.ErrAway"], plainKeys := false, apart := false, laid := [("rivulet/api.ErrRange", laid_rivulet_api_ErrRange), ("rivulet/api.ErrMany", laid_rivulet_api_ErrMany), ("rivulet/api.ErrName", laid_rivulet_api_ErrName), ("rivulet/api.ErrTwice", laid_rivulet_api_ErrTwice), ("rivulet/api.ErrNone", laid_rivulet_api_ErrNone), ("rivulet/api.ErrAway", laid_rivulet_api_ErrAway), ("rivulet/api.ErrKind", laid_rivulet_api_ErrKind)], narrowed := true }
def KeysAllUptoSaid : Prop := keysAllUptoRow.holds Tryz.pinned (OpenSpec.upto keysAllSpec)

/-- 'rivuletlaw17.WantRoots', WHERE WHAT IT READS IS OF BULK AT MOST 1048576: true; the input reads as it did. -/
def wantRootsUptoRow : OpenClaim := { program := "ytgjeojgfefdajaagreatdoor", sum := "da2224ece8c1b4f825621cbeb12d5fbe9959f9dee53a7ef44f3abad17d99f82b", func := "rivulet/rivuletlaw17.WantRoots", spec := "wantRoots", unfollowed := true, recurses := true, named := ["rivulet/api.ErrMany", "rivulet/api.ErrTwice", "rivulet/api.ErrRange", "rivulet/api.ErrName", "rivulet/api.ErrKind", "rivulet/api.ErrNone", "rivulet/api.ErrAway"], plainKeys := false, apart := false, laid := [("rivulet/api.ErrRange", laid_rivulet_api_ErrRange), ("rivulet/api.ErrMany", laid_rivulet_api_ErrMany), ("rivulet/api.ErrName", laid_rivulet_api_ErrName), ("rivulet/api.ErrTwice", laid_rivulet_api_ErrTwice), ("rivulet/api.ErrNone", laid_rivulet_api_ErrNone), ("rivulet/api.ErrAway", laid_rivulet_api_ErrAway), ("rivulet/api.ErrKind", laid_rivulet_api_ErrKind)], narrowed := true }
def WantRootsUptoSaid : Prop := wantRootsUptoRow.holds Tryz.pinned (OpenSpec.upto wantRootsSpec)

/-- 'rivuletlaw17.WantOut', WHERE WHAT IT READS IS OF BULK AT MOST 1048576: true; the input reads as it did. -/
def wantOutUptoRow : OpenClaim := { program := "ytgjeojgfefdajaagreatdoor", sum := "da2224ece8c1b4f825621cbeb12d5fbe9959f9dee53a7ef44f3abad17d99f82b", func := "rivulet/rivuletlaw17.WantOut", spec := "wantOut", unfollowed := true, recurses := true, named := ["rivulet/api.ErrMany", "rivulet/api.ErrTwice", "rivulet/api.ErrRange", "rivulet/api.ErrName", "rivulet/api.ErrKind", "rivulet/api.ErrNone", "rivulet/api.ErrAway"], plainKeys := false, apart := false, laid := [("rivulet/api.ErrRange", laid_rivulet_api_ErrRange), ("rivulet/api.ErrMany", laid_rivulet_api_ErrMany), ("rivulet/api.ErrName", laid_rivulet_api_ErrName), ("rivulet/api.ErrTwice", laid_rivulet_api_ErrTwice), ("rivulet/api.ErrNone", laid_rivulet_api_ErrNone), ("rivulet/api.ErrAway", laid_rivulet_api_ErrAway), ("rivulet/api.ErrKind", laid_rivulet_api_ErrKind)], narrowed := true }
def WantOutUptoSaid : Prop := wantOutUptoRow.holds Tryz.pinned (OpenSpec.upto wantOutSpec)

/-- 'rivuletlaw17.WantSends', WHERE WHAT IT READS IS OF BULK AT MOST 1048576: true; the input reads as it did. -/
def wantSendsUptoRow : OpenClaim := { program := "ytgjeojgfefdajaagreatdoor", sum := "da2224ece8c1b4f825621cbeb12d5fbe9959f9dee53a7ef44f3abad17d99f82b", func := "rivulet/rivuletlaw17.WantSends", spec := "wantSends", unfollowed := true, recurses := true, named := ["rivulet/api.ErrMany", "rivulet/api.ErrTwice", "rivulet/api.ErrRange", "rivulet/api.ErrName", "rivulet/api.ErrKind", "rivulet/api.ErrNone", "rivulet/api.ErrAway"], plainKeys := false, apart := false, laid := [("rivulet/api.ErrRange", laid_rivulet_api_ErrRange), ("rivulet/api.ErrMany", laid_rivulet_api_ErrMany), ("rivulet/api.ErrName", laid_rivulet_api_ErrName), ("rivulet/api.ErrTwice", laid_rivulet_api_ErrTwice), ("rivulet/api.ErrNone", laid_rivulet_api_ErrNone), ("rivulet/api.ErrAway", laid_rivulet_api_ErrAway), ("rivulet/api.ErrKind", laid_rivulet_api_ErrKind)], narrowed := true }
def WantSendsUptoSaid : Prop := wantSendsUptoRow.holds Tryz.pinned (OpenSpec.upto wantSendsSpec)

/-- 'rivuletlaw17.WantGrows', WHERE WHAT IT READS IS OF BULK AT MOST 1048576: true; the input reads as it did. -/
def wantGrowsUptoRow : OpenClaim := { program := "ytgjeojgfefdajaagreatdoor", sum := "da2224ece8c1b4f825621cbeb12d5fbe9959f9dee53a7ef44f3abad17d99f82b", func := "rivulet/rivuletlaw17.WantGrows", spec := "wantGrows", unfollowed := true, recurses := true, named := ["rivulet/api.ErrMany", "rivulet/api.ErrTwice", "rivulet/api.ErrRange", "rivulet/api.ErrName", "rivulet/api.ErrKind", "rivulet/api.ErrNone", "rivulet/api.ErrAway"], plainKeys := false, apart := false, laid := [("rivulet/api.ErrRange", laid_rivulet_api_ErrRange), ("rivulet/api.ErrMany", laid_rivulet_api_ErrMany), ("rivulet/api.ErrName", laid_rivulet_api_ErrName), ("rivulet/api.ErrTwice", laid_rivulet_api_ErrTwice), ("rivulet/api.ErrNone", laid_rivulet_api_ErrNone), ("rivulet/api.ErrAway", laid_rivulet_api_ErrAway), ("rivulet/api.ErrKind", laid_rivulet_api_ErrKind)], narrowed := true }
def WantGrowsUptoSaid : Prop := wantGrowsUptoRow.holds Tryz.pinned (OpenSpec.upto wantGrowsSpec)

/-- 'rivuletlaw17.WantSays', WHERE WHAT IT READS IS OF BULK AT MOST 1048576: true; the input reads as it did. -/
def wantSaysUptoRow : OpenClaim := { program := "ytgjeojgfefdajaagreatdoor", sum := "da2224ece8c1b4f825621cbeb12d5fbe9959f9dee53a7ef44f3abad17d99f82b", func := "rivulet/rivuletlaw17.WantSays", spec := "wantSays", unfollowed := true, recurses := true, named := ["rivulet/api.ErrMany", "rivulet/api.ErrTwice", "rivulet/api.ErrRange", "rivulet/api.ErrName", "rivulet/api.ErrKind", "rivulet/api.ErrNone", "rivulet/api.ErrAway"], plainKeys := false, apart := false, laid := [("rivulet/api.ErrRange", laid_rivulet_api_ErrRange), ("rivulet/api.ErrMany", laid_rivulet_api_ErrMany), ("rivulet/api.ErrName", laid_rivulet_api_ErrName), ("rivulet/api.ErrTwice", laid_rivulet_api_ErrTwice), ("rivulet/api.ErrNone", laid_rivulet_api_ErrNone), ("rivulet/api.ErrAway", laid_rivulet_api_ErrAway), ("rivulet/api.ErrKind", laid_rivulet_api_ErrKind)], narrowed := true }
def WantSaysUptoSaid : Prop := wantSaysUptoRow.holds Tryz.pinned (OpenSpec.upto wantSaysSpec)

end Rows
end Go.Proofs.YtgjeojgfefdajaaGreatDoor

/-
  NARROWER THAN 'FOR EVERY INPUT', by the rows' own cells (each row's printed sentence says how): RtrSeats: laid · RtrHosts: laid · RtrJoins: laid · FindRoots: laid · SolveLines: laid · TraceLines: laid · NetCopies: laid · NetFast: laid · NetBad: laid.
  DERIVED. THE GIVEN ROWS OF THIS SEAT. 9 by the template 'for every input the law returns true; each argument reads behind the call as it read before'; 0 by the template 'total and deterministic' (their statements: YtihdpjinaafenaaGreatDoorTotals.lean).
  GIVEN WITH THE SEED: the statements are not yours to turn. If you find one false, say at which input.
  Laid BY PROGRAM, IN A SANDBOX (cutbox-rows.mjs): the forced cells as the released guide's own fill.sh prints them over the translation 7d1bac58c7e44de2… (all of the seat's roots in one cut). By AI agents, Wed Nov 11 2026. No macro, syntax, notation, axiom, sorry.
-/
import Derived.Test.YtihdpjinaafenaaGreatDoorChecked
import GoSem.Claim
import GoSem.ClaimJoined
import GoSem.ClaimMapViews
import Derived.JoinedTies
import Derived.KernelRfl
namespace Go.Proofs.YtihdpjinaafenaaGreatDoor
/- THE CELL 'sum', in the pinned program and in every row, IS THE sha256 OF THE DUMP (.gsa) THAT YtihdpjinaafenaaGreatDoorProg.lean LOADS. Nothing in Lean hashes anything: it is a label: what it is worth is what the hold of that sum in a sandbox is worth. -/
noncomputable def Tryz.pinned : Pinned := { name := "ytihdpjinaafenaagreatdoor", sum := "7d1bac58c7e44de2f3acb6f0f6a2b051b85c6ef7eb8ca69b8b055c638d471912", checked := Tryz.checked }
namespace Rows
def none {H : Type} : Left H := { results := [], args := [] }

/- WHAT THE LISTED PACKAGE-LEVEL VARIABLES READ AS WHEN THE CALL BEGINS. Each datum BY PROGRAM (the guide's laid-datum.mjs) off the statement by which the dump's own 'gosem.cut.vars' lays the variable. In a bare row this is a premise. The card (YtihdpjinaafenaaGreatDoorCards.lean) ties it to the program's text. -/
def laid_rivulet_api_ErrRange {H : Type} : DataW H := .iface "*errors.errorString" (.ptr (.agg [.lit (.string [97, 32, 110, 117, 109, 98, 101, 114, 32, 111, 117, 116, 32, 111, 102, 32, 105, 116, 115, 32, 114, 97, 110, 103, 101])]))
def laid_rivulet_api_ErrMany {H : Type} : DataW H := .iface "*errors.errorString" (.ptr (.agg [.lit (.string [116, 111, 111, 32, 109, 97, 110, 121])]))
def laid_rivulet_api_ErrName {H : Type} : DataW H := .iface "*errors.errorString" (.ptr (.agg [.lit (.string [110, 111, 116, 32, 97, 32, 110, 97, 109, 101])]))
def laid_rivulet_api_ErrTwice {H : Type} : DataW H := .iface "*errors.errorString" (.ptr (.agg [.lit (.string [116, 104, 101, 114, 101, 32, 105, 115, 32, 111, 110, 101])]))
def laid_rivulet_api_ErrNone {H : Type} : DataW H := .iface "*errors.errorString" (.ptr (.agg [.lit (.string [116, 104, 101, 114, 101, 32, 105, 115, 32, 110, 111, 110, 101])]))
def laid_rivulet_api_ErrAway {H : Type} : DataW H := .iface "*errors.errorString" (.ptr (.agg [.lit (.string [110, 111, 116, 32, 111, 110, 32, 116, 104, 97, 116, 32, 108, 105, 110, 107])]))
def laid_rivulet_api_ErrKind {H : Type} : DataW H := .iface "*errors.errorString" (.ptr (.agg [.lit (.string [110, 111, 116, 32, 111, 102, 32, 116, 104, 97, 116, 32, 107, 105, 110, 100])]))
def laid_math_bits_deBruijn32tab {H : Type} : DataW H := .agg [.lit (.int .u8 0), .lit (.int .u8 1), .lit (.int .u8 28), .lit (.int .u8 2), .lit (.int .u8 29), .lit (.int .u8 14), .lit (.int .u8 24), .lit (.int .u8 3), .lit (.int .u8 30), .lit (.int .u8 22), .lit (.int .u8 20), .lit (.int .u8 15), .lit (.int .u8 25), .lit (.int .u8 17), .lit (.int .u8 4), .lit (.int .u8 8), .lit (.int .u8 31), .lit (.int .u8 27), .lit (.int .u8 13), .lit (.int .u8 23), .lit (.int .u8 21), .lit (.int .u8 19), .lit (.int .u8 16), .lit (.int .u8 7), .lit (.int .u8 26), .lit (.int .u8 12), .lit (.int .u8 18), .lit (.int .u8 6), .lit (.int .u8 11), .lit (.int .u8 5), .lit (.int .u8 10), .lit (.int .u8 9)]
def laid_math_bits_deBruijn64tab {H : Type} : DataW H := .agg [.lit (.int .u8 0), .lit (.int .u8 1), .lit (.int .u8 56), .lit (.int .u8 2), .lit (.int .u8 57), .lit (.int .u8 49), .lit (.int .u8 28), .lit (.int .u8 3), .lit (.int .u8 61), .lit (.int .u8 58), .lit (.int .u8 42), .lit (.int .u8 50), .lit (.int .u8 38), .lit (.int .u8 29), .lit (.int .u8 17), .lit (.int .u8 4), .lit (.int .u8 62), .lit (.int .u8 47), .lit (.int .u8 59), .lit (.int .u8 36), .lit (.int .u8 45), .lit (.int .u8 43), .lit (.int .u8 51), .lit (.int .u8 22), .lit (.int .u8 53), .lit (.int .u8 39), .lit (.int .u8 33), .lit (.int .u8 30), .lit (.int .u8 24), .lit (.int .u8 18), .lit (.int .u8 12), .lit (.int .u8 5), .lit (.int .u8 63), .lit (.int .u8 55), .lit (.int .u8 48), .lit (.int .u8 27), .lit (.int .u8 60), .lit (.int .u8 41), .lit (.int .u8 37), .lit (.int .u8 16), .lit (.int .u8 46), .lit (.int .u8 35), .lit (.int .u8 44), .lit (.int .u8 21), .lit (.int .u8 52), .lit (.int .u8 32), .lit (.int .u8 23), .lit (.int .u8 11), .lit (.int .u8 54), .lit (.int .u8 26), .lit (.int .u8 40), .lit (.int .u8 15), .lit (.int .u8 34), .lit (.int .u8 20), .lit (.int .u8 31), .lit (.int .u8 10), .lit (.int .u8 25), .lit (.int .u8 14), .lit (.int .u8 19), .lit (.int .u8 9), .lit (.int .u8 13), .lit (.int .u8 8), .lit (.int .u8 7), .lit (.int .u8 6)]
def laid_internal_strconv_uint64pow10 {H : Type} : DataW H := .agg [.lit (.int .u64 1), .lit (.int .u64 10), .lit (.int .u64 100), .lit (.int .u64 1000), .lit (.int .u64 10000), .lit (.int .u64 100000), .lit (.int .u64 1000000), .lit (.int .u64 10000000), .lit (.int .u64 100000000), .lit (.int .u64 1000000000), .lit (.int .u64 10000000000), .lit (.int .u64 100000000000), .lit (.int .u64 1000000000000), .lit (.int .u64 10000000000000), .lit (.int .u64 100000000000000), .lit (.int .u64 1000000000000000), .lit (.int .u64 10000000000000000), .lit (.int .u64 100000000000000000), .lit (.int .u64 1000000000000000000), .lit (.int .u64 10000000000000000000)]
def laid_rivulet_api_ErrEnd {H : Type} : DataW H := .iface "*errors.errorString" (.ptr (.agg [.lit (.string [105, 116, 32, 101, 110, 100, 115, 32, 116, 111, 111, 32, 101, 97, 114, 108, 121])]))
def laid_rivulet_api_ErrShape {H : Type} : DataW H := .iface "*errors.errorString" (.ptr (.agg [.lit (.string [110, 111, 116, 32, 97, 115, 32, 105, 116, 32, 104, 97, 115, 32, 116, 111, 32, 98, 101])]))
def laid_rivulet_api_ErrSum {H : Type} : DataW H := .iface "*errors.errorString" (.ptr (.agg [.lit (.string [116, 104, 101, 32, 115, 117, 109, 32, 105, 115, 32, 97, 110, 111, 116, 104, 101, 114, 32, 111, 110, 101])]))

/-- 'rivuletlaw23.RtrSeats': WHATEVER THE INPUT: true; the input reads as it did. -/
def rtrSeatsSpec : ChangeSpec := { name := "rtrSeats", fn := fun _ => fun
  | [d1, d2, d3] => { results := [.lit (.bool true)], args := [d1, d2, d3] }
  | _ => none }
def rtrSeatsRow : OpenClaim := { program := "ytihdpjinaafenaagreatdoor", sum := "7d1bac58c7e44de2f3acb6f0f6a2b051b85c6ef7eb8ca69b8b055c638d471912", func := "rivulet/rivuletlaw23.RtrSeats", spec := "rtrSeats", unfollowed := true, recurses := true, named := ["rivulet/api.ErrMany", "rivulet/api.ErrTwice", "rivulet/api.ErrRange", "rivulet/api.ErrName", "rivulet/api.ErrKind", "rivulet/api.ErrNone", "rivulet/api.ErrAway"], plainKeys := false, apart := false, laid := [("rivulet/api.ErrRange", laid_rivulet_api_ErrRange), ("rivulet/api.ErrMany", laid_rivulet_api_ErrMany), ("rivulet/api.ErrName", laid_rivulet_api_ErrName), ("rivulet/api.ErrTwice", laid_rivulet_api_ErrTwice), ("rivulet/api.ErrNone", laid_rivulet_api_ErrNone), ("rivulet/api.ErrAway", laid_rivulet_api_ErrAway), ("rivulet/api.ErrKind", laid_rivulet_api_ErrKind)] }
def RtrSeatsSaid : Prop := rtrSeatsRow.holds Tryz.pinned (OpenSpec.ofChange rtrSeatsSpec)

/-- ITS FALSE NEIGHBOUR: 'it returns false'. Refute it at one input. -/
def rtrSeatsWrong : ChangeSpec := { name := "rtrSeats", fn := fun _ => fun
  | [d1, d2, d3] => { results := [.lit (.bool false)], args := [d1, d2, d3] }
  | _ => none }
def RtrSeatsWrongFalsely : Prop := rtrSeatsRow.holds Tryz.pinned (OpenSpec.ofChange rtrSeatsWrong)

/-- 'rivuletlaw23.RtrHosts': WHATEVER THE INPUT: true; the input reads as it did. -/
def rtrHostsSpec : ChangeSpec := { name := "rtrHosts", fn := fun _ => fun
  | [d1, d2, d3] => { results := [.lit (.bool true)], args := [d1, d2, d3] }
  | _ => none }
def rtrHostsRow : OpenClaim := { program := "ytihdpjinaafenaagreatdoor", sum := "7d1bac58c7e44de2f3acb6f0f6a2b051b85c6ef7eb8ca69b8b055c638d471912", func := "rivulet/rivuletlaw23.RtrHosts", spec := "rtrHosts", unfollowed := true, recurses := true, named := ["rivulet/api.ErrMany", "rivulet/api.ErrTwice", "rivulet/api.ErrRange", "rivulet/api.ErrName", "rivulet/api.ErrKind", "rivulet/api.ErrNone", "rivulet/api.ErrAway"], plainKeys := false, apart := false, laid := [("rivulet/api.ErrRange", laid_rivulet_api_ErrRange), ("rivulet/api.ErrMany", laid_rivulet_api_ErrMany), ("rivulet/api.ErrName", laid_rivulet_api_ErrName), ("rivulet/api.ErrTwice", laid_rivulet_api_ErrTwice), ("rivulet/api.ErrNone", laid_rivulet_api_ErrNone), ("rivulet/api.ErrAway", laid_rivulet_api_ErrAway), ("rivulet/api.ErrKind", laid_rivulet_api_ErrKind)] }
def RtrHostsSaid : Prop := rtrHostsRow.holds Tryz.pinned (OpenSpec.ofChange rtrHostsSpec)

/-- ITS FALSE NEIGHBOUR: 'it returns false'. Refute it at one input. -/
def rtrHostsWrong : ChangeSpec := { name := "rtrHosts", fn := fun _ => fun
  | [d1, d2, d3] => { results := [.lit (.bool false)], args := [d1, d2, d3] }
  | _ => none }
def RtrHostsWrongFalsely : Prop := rtrHostsRow.holds Tryz.pinned (OpenSpec.ofChange rtrHostsWrong)

/-- 'rivuletlaw23.RtrJoins': WHATEVER THE INPUT: true; the input reads as it did. -/
def rtrJoinsSpec : ChangeSpec := { name := "rtrJoins", fn := fun _ => fun
  | [d1, d2, d3] => { results := [.lit (.bool true)], args := [d1, d2, d3] }
  | _ => none }
def rtrJoinsRow : OpenClaim := { program := "ytihdpjinaafenaagreatdoor", sum := "7d1bac58c7e44de2f3acb6f0f6a2b051b85c6ef7eb8ca69b8b055c638d471912", func := "rivulet/rivuletlaw23.RtrJoins", spec := "rtrJoins", unfollowed := true, recurses := true, named := ["rivulet/api.ErrMany", "rivulet/api.ErrTwice", "rivulet/api.ErrRange", "rivulet/api.ErrName", "rivulet/api.ErrKind", "rivulet/api.ErrNone", "rivulet/api.ErrAway"], plainKeys := false, apart := false, laid := [("rivulet/api.ErrRange", laid_rivulet_api_ErrRange), ("rivulet/api.ErrMany", laid_rivulet_api_ErrMany), ("rivulet/api.ErrName", laid_rivulet_api_ErrName), ("rivulet/api.ErrTwice", laid_rivulet_api_ErrTwice), ("rivulet/api.ErrNone", laid_rivulet_api_ErrNone), ("rivulet/api.ErrAway", laid_rivulet_api_ErrAway), ("rivulet/api.ErrKind", laid_rivulet_api_ErrKind)] }
def RtrJoinsSaid : Prop := rtrJoinsRow.holds Tryz.pinned (OpenSpec.ofChange rtrJoinsSpec)

/-- ITS FALSE NEIGHBOUR: 'it returns false'. Refute it at one input. -/
def rtrJoinsWrong : ChangeSpec := { name := "rtrJoins", fn := fun _ => fun
  | [d1, d2, d3] => { results := [.lit (.bool false)], args := [d1, d2, d3] }
  | _ => none }
def RtrJoinsWrongFalsely : Prop := rtrJoinsRow.holds Tryz.pinned (OpenSpec.ofChange rtrJoinsWrong)

/-- 'rivuletlaw22.FindRoots': WHATEVER THE INPUT: true; the input reads as it did. -/
def findRootsSpec : ChangeSpec := { name := "findRoots", fn := fun _ => fun
  | [d1, d2, d3] => { results := [.lit (.bool true)], args := [d1, d2, d3] }
  | _ => none }
def findRootsRow : OpenClaim := { program := "ytihdpjinaafenaagreatdoor", sum := "7d1bac58c7e44de2f3acb6f0f6a2b051b85c6ef7eb8ca69b8b055c638d471912", func := "rivulet/rivuletlaw22.FindRoots", spec := "findRoots", inPlace := ["internal/abi.NoEscape", "internal/bytealg.MakeNoZero"], unfollowed := true, recurses := true, named := ["rivulet/api.ErrMany", "rivulet/api.ErrTwice", "rivulet/api.ErrRange", "rivulet/api.ErrName", "rivulet/api.ErrKind", "rivulet/api.ErrNone", "rivulet/api.ErrAway", "internal/strconv.uint64pow10", "math/bits.deBruijn32tab", "math/bits.deBruijn64tab"], plainKeys := false, apart := false, laid := [("math/bits.deBruijn32tab", laid_math_bits_deBruijn32tab), ("math/bits.deBruijn64tab", laid_math_bits_deBruijn64tab), ("internal/strconv.uint64pow10", laid_internal_strconv_uint64pow10), ("rivulet/api.ErrRange", laid_rivulet_api_ErrRange), ("rivulet/api.ErrMany", laid_rivulet_api_ErrMany), ("rivulet/api.ErrName", laid_rivulet_api_ErrName), ("rivulet/api.ErrTwice", laid_rivulet_api_ErrTwice), ("rivulet/api.ErrNone", laid_rivulet_api_ErrNone), ("rivulet/api.ErrAway", laid_rivulet_api_ErrAway), ("rivulet/api.ErrKind", laid_rivulet_api_ErrKind)] }
def FindRootsSaid : Prop := findRootsRow.holds Tryz.pinned (OpenSpec.ofChange findRootsSpec)

/-- ITS FALSE NEIGHBOUR: 'it returns false'. Refute it at one input. -/
def findRootsWrong : ChangeSpec := { name := "findRoots", fn := fun _ => fun
  | [d1, d2, d3] => { results := [.lit (.bool false)], args := [d1, d2, d3] }
  | _ => none }
def FindRootsWrongFalsely : Prop := findRootsRow.holds Tryz.pinned (OpenSpec.ofChange findRootsWrong)

/-- 'rivuletlaw20.SolveLines': WHATEVER THE INPUT: true; the input reads as it did. -/
def solveLinesSpec : ChangeSpec := { name := "solveLines", fn := fun _ => fun
  | [d1, d2, d3, d4] => { results := [.lit (.bool true)], args := [d1, d2, d3, d4] }
  | _ => none }
def solveLinesRow : OpenClaim := { program := "ytihdpjinaafenaagreatdoor", sum := "7d1bac58c7e44de2f3acb6f0f6a2b051b85c6ef7eb8ca69b8b055c638d471912", func := "rivulet/rivuletlaw20.SolveLines", spec := "solveLines", unfollowed := true, recurses := true, named := ["rivulet/api.ErrMany", "rivulet/api.ErrTwice", "rivulet/api.ErrRange", "rivulet/api.ErrName", "rivulet/api.ErrKind", "rivulet/api.ErrNone", "rivulet/api.ErrAway"], plainKeys := false, apart := false, laid := [("rivulet/api.ErrRange", laid_rivulet_api_ErrRange), ("rivulet/api.ErrMany", laid_rivulet_api_ErrMany), ("rivulet/api.ErrName", laid_rivulet_api_ErrName), ("rivulet/api.ErrTwice", laid_rivulet_api_ErrTwice), ("rivulet/api.ErrNone", laid_rivulet_api_ErrNone), ("rivulet/api.ErrAway", laid_rivulet_api_ErrAway), ("rivulet/api.ErrKind", laid_rivulet_api_ErrKind)] }
def SolveLinesSaid : Prop := solveLinesRow.holds Tryz.pinned (OpenSpec.ofChange solveLinesSpec)

/-- ITS FALSE NEIGHBOUR: 'it returns false'. Refute it at one input. -/
def solveLinesWrong : ChangeSpec := { name := "solveLines", fn := fun _ => fun
  | [d1, d2, d3, d4] => { results := [.lit (.bool false)], args := [d1, d2, d3, d4] }
  | _ => none }
def SolveLinesWrongFalsely : Prop := solveLinesRow.holds Tryz.pinned (OpenSpec.ofChange solveLinesWrong)

/-- 'rivuletlaw21.TraceLines': WHATEVER THE INPUT: true; the input reads as it did. -/
def traceLinesSpec : ChangeSpec := { name := "traceLines", fn := fun _ => fun
  | [d1, d2, d3, d4, d5] => { results := [.lit (.bool true)], args := [d1, d2, d3, d4, d5] }
  | _ => none }
def traceLinesRow : OpenClaim := { program := "ytihdpjinaafenaagreatdoor", sum := "7d1bac58c7e44de2f3acb6f0f6a2b051b85c6ef7eb8ca69b8b055c638d471912", func := "rivulet/rivuletlaw21.TraceLines", spec := "traceLines", unfollowed := true, recurses := true, named := ["rivulet/api.ErrMany", "rivulet/api.ErrTwice", "rivulet/api.ErrRange", "rivulet/api.ErrName", "rivulet/api.ErrKind", "rivulet/api.ErrNone", "rivulet/api.ErrAway"], plainKeys := false, apart := false, laid := [("rivulet/api.ErrRange", laid_rivulet_api_ErrRange), ("rivulet/api.ErrMany", laid_rivulet_api_ErrMany), ("rivulet/api.ErrName", laid_rivulet_api_ErrName), ("rivulet/api.ErrTwice", laid_rivulet_api_ErrTwice), ("rivulet/api.ErrNone", laid_rivulet_api_ErrNone), ("rivulet/api.ErrAway", laid_rivulet_api_ErrAway), ("rivulet/api.ErrKind", laid_rivulet_api_ErrKind)] }
def TraceLinesSaid : Prop := traceLinesRow.holds Tryz.pinned (OpenSpec.ofChange traceLinesSpec)

/-- ITS FALSE NEIGHBOUR: 'it returns false'. Refute it at one input. -/
def traceLinesWrong : ChangeSpec := { name := "traceLines", fn := fun _ => fun
  | [d1, d2, d3, d4, d5] => { results := [.lit (.bool false)], args := [d1, d2, d3, d4, d5] }
  | _ => none }
def TraceLinesWrongFalsely : Prop := traceLinesRow.holds Tryz.pinned (OpenSpec.ofChange traceLinesWrong)

/-- 'rivuletlaw25.NetCopies': WHATEVER THE INPUT: true; the input reads as it did. -/
def netCopiesSpec : ChangeSpec := { name := "netCopies", fn := fun _ => fun
  | [d1, d2, d3] => { results := [.lit (.bool true)], args := [d1, d2, d3] }
  | _ => none }
def netCopiesRow : OpenClaim := { program := "ytihdpjinaafenaagreatdoor", sum := "7d1bac58c7e44de2f3acb6f0f6a2b051b85c6ef7eb8ca69b8b055c638d471912", func := "rivulet/rivuletlaw25.NetCopies", spec := "netCopies", unfollowed := true, recurses := true, named := ["rivulet/api.ErrMany", "rivulet/api.ErrTwice", "rivulet/api.ErrRange", "rivulet/api.ErrName", "rivulet/api.ErrKind", "rivulet/api.ErrNone", "rivulet/api.ErrAway", "rivulet/api.ErrEnd", "rivulet/api.ErrSum", "rivulet/api.ErrShape"], plainKeys := false, apart := false, laid := [("rivulet/api.ErrEnd", laid_rivulet_api_ErrEnd), ("rivulet/api.ErrShape", laid_rivulet_api_ErrShape), ("rivulet/api.ErrRange", laid_rivulet_api_ErrRange), ("rivulet/api.ErrMany", laid_rivulet_api_ErrMany), ("rivulet/api.ErrSum", laid_rivulet_api_ErrSum), ("rivulet/api.ErrName", laid_rivulet_api_ErrName), ("rivulet/api.ErrTwice", laid_rivulet_api_ErrTwice), ("rivulet/api.ErrNone", laid_rivulet_api_ErrNone), ("rivulet/api.ErrAway", laid_rivulet_api_ErrAway), ("rivulet/api.ErrKind", laid_rivulet_api_ErrKind)] }
def NetCopiesSaid : Prop := netCopiesRow.holds Tryz.pinned (OpenSpec.ofChange netCopiesSpec)

/-- ITS FALSE NEIGHBOUR: 'it returns false'. Refute it at one input. -/
def netCopiesWrong : ChangeSpec := { name := "netCopies", fn := fun _ => fun
  | [d1, d2, d3] => { results := [.lit (.bool false)], args := [d1, d2, d3] }
  | _ => none }
def NetCopiesWrongFalsely : Prop := netCopiesRow.holds Tryz.pinned (OpenSpec.ofChange netCopiesWrong)

/-- 'rivuletlaw25.NetFast': WHATEVER THE INPUT: true; the input reads as it did. -/
def netFastSpec : ChangeSpec := { name := "netFast", fn := fun _ => fun
  | [d1, d2, d3, d4] => { results := [.lit (.bool true)], args := [d1, d2, d3, d4] }
  | _ => none }
def netFastRow : OpenClaim := { program := "ytihdpjinaafenaagreatdoor", sum := "7d1bac58c7e44de2f3acb6f0f6a2b051b85c6ef7eb8ca69b8b055c638d471912", func := "rivulet/rivuletlaw25.NetFast", spec := "netFast", unfollowed := true, recurses := true, named := ["rivulet/api.ErrMany", "rivulet/api.ErrTwice", "rivulet/api.ErrRange", "rivulet/api.ErrName", "rivulet/api.ErrKind", "rivulet/api.ErrNone", "rivulet/api.ErrAway", "rivulet/api.ErrEnd", "rivulet/api.ErrSum", "rivulet/api.ErrShape"], plainKeys := false, apart := false, laid := [("rivulet/api.ErrEnd", laid_rivulet_api_ErrEnd), ("rivulet/api.ErrShape", laid_rivulet_api_ErrShape), ("rivulet/api.ErrRange", laid_rivulet_api_ErrRange), ("rivulet/api.ErrMany", laid_rivulet_api_ErrMany), ("rivulet/api.ErrSum", laid_rivulet_api_ErrSum), ("rivulet/api.ErrName", laid_rivulet_api_ErrName), ("rivulet/api.ErrTwice", laid_rivulet_api_ErrTwice), ("rivulet/api.ErrNone", laid_rivulet_api_ErrNone), ("rivulet/api.ErrAway", laid_rivulet_api_ErrAway), ("rivulet/api.ErrKind", laid_rivulet_api_ErrKind)] }
def NetFastSaid : Prop := netFastRow.holds Tryz.pinned (OpenSpec.ofChange netFastSpec)

/-- ITS FALSE NEIGHBOUR: 'it returns false'. Refute it at one input. -/
def netFastWrong : ChangeSpec := { name := "netFast", fn := fun _ => fun
  | [d1, d2, d3, d4] => { results := [.lit (.bool false)], args := [d1, d2, d3, d4] }
  | _ => none }
def NetFastWrongFalsely : Prop := netFastRow.holds Tryz.pinned (OpenSpec.ofChange netFastWrong)

/-- 'rivuletlaw25.NetBad': WHATEVER THE INPUT: true; the input reads as it did. -/
def netBadSpec : ChangeSpec := { name := "netBad", fn := fun _ => fun
  | [d1, d2, d3] => { results := [.lit (.bool true)], args := [d1, d2, d3] }
  | _ => none }
def netBadRow : OpenClaim := { program := "ytihdpjinaafenaagreatdoor", sum := "7d1bac58c7e44de2f3acb6f0f6a2b051b85c6ef7eb8ca69b8b055c638d471912", func := "rivulet/rivuletlaw25.NetBad", spec := "netBad", unfollowed := true, recurses := true, named := ["rivulet/api.ErrMany", "rivulet/api.ErrTwice", "rivulet/api.ErrRange", "rivulet/api.ErrName", "rivulet/api.ErrKind", "rivulet/api.ErrNone", "rivulet/api.ErrAway", "rivulet/api.ErrEnd", "rivulet/api.ErrSum", "rivulet/api.ErrShape"], plainKeys := false, apart := false, laid := [("rivulet/api.ErrEnd", laid_rivulet_api_ErrEnd), ("rivulet/api.ErrShape", laid_rivulet_api_ErrShape), ("rivulet/api.ErrRange", laid_rivulet_api_ErrRange), ("rivulet/api.ErrMany", laid_rivulet_api_ErrMany), ("rivulet/api.ErrSum", laid_rivulet_api_ErrSum), ("rivulet/api.ErrName", laid_rivulet_api_ErrName), ("rivulet/api.ErrTwice", laid_rivulet_api_ErrTwice), ("rivulet/api.ErrNone", laid_rivulet_api_ErrNone), ("rivulet/api.ErrAway", laid_rivulet_api_ErrAway), ("rivulet/api.ErrKind", laid_rivulet_api_ErrKind)] }
def NetBadSaid : Prop := netBadRow.holds Tryz.pinned (OpenSpec.ofChange netBadSpec)

/-- ITS FALSE NEIGHBOUR: 'it returns false'. Refute it at one input. -/
def netBadWrong : ChangeSpec := { name := "netBad", fn := fun _ => fun
  | [d1, d2, d3] => { results := [.lit (.bool false)], args := [d1, d2, d3] }
  | _ => none }
def NetBadWrongFalsely : Prop := netBadRow.holds Tryz.pinned (OpenSpec.ofChange netBadWrong)

/- THE SECOND FORM. 'bulk': how many values and letters a reading holds, each counted each time it is reached (what is shared counts as often as it is met; a slice's spare places count too). A statement '..UptoSaid' is the law's where the arguments, and the package variables that the reading takes, are together of bulk at most 1048576: NARROWER than '..Said'. Prove '..Said' where nothing that the law and all that it calls make is longer than what came in: it says more and counts as full. Else prove '..UptoSaid'. A law counts once. -/
mutual
def uptoBulk {H : Type} : DataW H → Nat
  | .lit (.string bytes) => bytes.length + 1
  | .lit _ => 1
  | .nil => 1
  | .ptr d => uptoBulk d + 1
  | .slice elems spare => uptoBulkAll elems + uptoBulkAll spare + 1
  | .agg parts => uptoBulkAll parts + 1
  | .iface _ d => uptoBulk d + 1
  | .map entries => uptoBulkEntries entries + 1
  | .held _ => 1
def uptoBulkAll {H : Type} : List (DataW H) → Nat
  | [] => 0
  | d :: r => uptoBulk d + uptoBulkAll r
def uptoBulkEntries {H : Type} : List (Lit × DataW H) → Nat
  | [] => 0
  | x :: r => uptoBulkEntry x + uptoBulkEntries r
def uptoBulkEntry {H : Type} : Lit × DataW H → Nat
  | (.string bytes, d) => bytes.length + uptoBulk d + 1
  | (_, d) => uptoBulk d + 1
 end
def uptoSmall : (H : Type) → List (DataW H) → Bool := fun _ ds => decide (uptoBulkAll ds ≤ 1048576)
def OpenSpec.upto (s : _root_.Go.ChangeSpec) : _root_.Go.OpenSpec := { _root_.Go.OpenSpec.ofChange s with cond := some uptoSmall }

/-- 'rivuletlaw23.RtrSeats', WHERE WHAT IT READS IS OF BULK AT MOST 1048576: true; the input reads as it did. -/
def rtrSeatsUptoRow : OpenClaim := { program := "ytihdpjinaafenaagreatdoor", sum := "7d1bac58c7e44de2f3acb6f0f6a2b051b85c6ef7eb8ca69b8b055c638d471912", func := "rivulet/rivuletlaw23.RtrSeats", spec := "rtrSeats", unfollowed := true, recurses := true, named := ["rivulet/api.ErrMany", "rivulet/api.ErrTwice", "rivulet/api.ErrRange", "rivulet/api.ErrName", "rivulet/api.ErrKind", "rivulet/api.ErrNone", "rivulet/api.ErrAway"], plainKeys := false, apart := false, laid := [("rivulet/api.ErrRange", laid_rivulet_api_ErrRange), ("rivulet/api.ErrMany", laid_rivulet_api_ErrMany), ("rivulet/api.ErrName", laid_rivulet_api_ErrName), ("rivulet/api.ErrTwice", laid_rivulet_api_ErrTwice), ("rivulet/api.ErrNone", laid_rivulet_api_ErrNone), ("rivulet/api.ErrAway", laid_rivulet_api_ErrAway), ("rivulet/api.ErrKind", laid_rivulet_api_ErrKind)], narrowed := true }
def RtrSeatsUptoSaid : Prop := rtrSeatsUptoRow.holds Tryz.pinned (OpenSpec.upto rtrSeatsSpec)

/-- 'rivuletlaw23.RtrHosts', WHERE WHAT IT READS IS OF BULK AT MOST 1048576: true; the input reads as it did. -/
def rtrHostsUptoRow : OpenClaim := { program := "ytihdpjinaafenaagreatdoor", sum := "7d1bac58c7e44de2f3acb6f0f6a2b051b85c6ef7eb8ca69b8b055c638d471912", func := "rivulet/rivuletlaw23.RtrHosts", spec := "rtrHosts", unfollowed := true, recurses := true, named := ["rivulet/api.ErrMany", "rivulet/api.ErrTwice", "rivulet/api.ErrRange", "rivulet/api.ErrName", "rivulet/api.ErrKind", "rivulet/api.ErrNone", "rivulet/api.ErrAway"], plainKeys := false, apart := false, laid := [("rivulet/api.ErrRange", laid_rivulet_api_ErrRange), ("rivulet/api.ErrMany", laid_rivulet_api_ErrMany), ("rivulet/api.ErrName", laid_rivulet_api_ErrName), ("rivulet/api.ErrTwice", laid_rivulet_api_ErrTwice), ("rivulet/api.ErrNone", laid_rivulet_api_ErrNone), ("rivulet/api.ErrAway", laid_rivulet_api_ErrAway), ("rivulet/api.ErrKind", laid_rivulet_api_ErrKind)], narrowed := true }
def RtrHostsUptoSaid : Prop := rtrHostsUptoRow.holds Tryz.pinned (OpenSpec.upto rtrHostsSpec)

/-- 'rivuletlaw23.RtrJoins', WHERE WHAT IT READS IS OF BULK AT MOST 1048576: true; the input reads as it did. -/
def rtrJoinsUptoRow : OpenClaim := { program := "ytihdpjinaafenaagreatdoor", sum := "7d1bac58c7e44de2f3acb6f0f6a2b051b85c6ef7eb8ca69b8b055c638d471912", func := "rivulet/rivuletlaw23.RtrJoins", spec := "rtrJoins", unfollowed := true, recurses := true, named := ["rivulet/api.ErrMany", "rivulet/api.ErrTwice", "rivulet/api.ErrRange", "rivulet/api.ErrName", "rivulet/api.ErrKind", "rivulet/api.ErrNone", "rivulet/api.ErrAway"], plainKeys := false, apart := false, laid := [("rivulet/api.ErrRange", laid_rivulet_api_ErrRange), ("rivulet/api.ErrMany", laid_rivulet_api_ErrMany), ("rivulet/api.ErrName", laid_rivulet_api_ErrName), ("rivulet/api.ErrTwice", laid_rivulet_api_ErrTwice), ("rivulet/api.ErrNone", laid_rivulet_api_ErrNone), ("rivulet/api.ErrAway", laid_rivulet_api_ErrAway), ("rivulet/api.ErrKind", laid_rivulet_api_ErrKind)], narrowed := true }
def RtrJoinsUptoSaid : Prop := rtrJoinsUptoRow.holds Tryz.pinned (OpenSpec.upto rtrJoinsSpec)

/-- 'rivuletlaw22.FindRoots', WHERE WHAT IT READS IS OF BULK AT MOST 1048576: true; the input reads as it did. -/
def findRootsUptoRow : OpenClaim := { program := "ytihdpjinaafenaagreatdoor", sum := "7d1bac58c7e44de2f3acb6f0f6a2b051b85c6ef7eb8ca69b8b055c638d471912", func := "rivulet/rivuletlaw22.FindRoots", spec := "findRoots", inPlace := ["internal/abi.NoEscape", "internal/bytealg.MakeNoZero"], unfollowed := true, recurses := true, named := ["rivulet/api.ErrMany", "rivulet/api.ErrTwice", "rivulet/api.ErrRange", "rivulet/api.ErrName", "rivulet/api.ErrKind", "rivulet/api.ErrNone", "rivulet/api.ErrAway", "internal/strconv.uint64pow10", "math/bits.deBruijn32tab", "math/bits.deBruijn64tab"], plainKeys := false, apart := false, laid := [("math/bits.deBruijn32tab", laid_math_bits_deBruijn32tab), ("math/bits.deBruijn64tab", laid_math_bits_deBruijn64tab), ("internal/strconv.uint64pow10", laid_internal_strconv_uint64pow10), ("rivulet/api.ErrRange", laid_rivulet_api_ErrRange), ("rivulet/api.ErrMany", laid_rivulet_api_ErrMany), ("rivulet/api.ErrName", laid_rivulet_api_ErrName), ("rivulet/api.ErrTwice", laid_rivulet_api_ErrTwice), ("rivulet/api.ErrNone", laid_rivulet_api_ErrNone), ("rivulet/api.ErrAway", laid_rivulet_api_ErrAway), ("rivulet/api.ErrKind", laid_rivulet_api_ErrKind)], narrowed := true }
def FindRootsUptoSaid : Prop := findRootsUptoRow.holds Tryz.pinned (OpenSpec.upto findRootsSpec)

/-- 'rivuletlaw20.SolveLines', WHERE WHAT IT READS IS OF BULK AT MOST 1048576: true; the input reads as it did. -/
def solveLinesUptoRow : OpenClaim := { program := "ytihdpjinaafenaagreatdoor", sum := "7d1bac58c7e44de2f3acb6f0f6a2b051b85c6ef7eb8ca69b8b055c638d471912", func := "rivulet/rivuletlaw20.SolveLines", spec := "solveLines", unfollowed := true, recurses := true, named := ["rivulet/api.ErrMany", "rivulet/api.ErrTwice", "rivulet/api.ErrRange", "rivulet/api.ErrName", "rivulet/api.ErrKind", "rivulet/api.ErrNone", "rivulet/api.ErrAway"], plainKeys := false, apart := false, laid := [("rivulet/api.ErrRange", laid_rivulet_api_ErrRange), ("rivulet/api.ErrMany", laid_rivulet_api_ErrMany), ("rivulet/api.ErrName", laid_rivulet_api_ErrName), ("rivulet/api.ErrTwice", laid_rivulet_api_ErrTwice), ("rivulet/api.ErrNone", laid_rivulet_api_ErrNone), ("rivulet/api.ErrAway", laid_rivulet_api_ErrAway), ("rivulet/api.ErrKind", laid_rivulet_api_ErrKind)], narrowed := true }
def SolveLinesUptoSaid : Prop := solveLinesUptoRow.holds Tryz.pinned (OpenSpec.upto solveLinesSpec)

/-- 'rivuletlaw21.TraceLines', WHERE WHAT IT READS IS OF BULK AT MOST 1048576: true; the input reads as it did. -/
def traceLinesUptoRow : OpenClaim := { program := "ytihdpjinaafenaagreatdoor", sum := "7d1bac58c7e44de2f3acb6f0f6a2b051b85c6ef7eb8ca69b8b055c638d471912", func := "rivulet/rivuletlaw21.TraceLines", spec := "traceLines", unfollowed := true, recurses := true, named := ["rivulet/api.ErrMany", "rivulet/api.ErrTwice", "rivulet/api.ErrRange", "rivulet/api.ErrName", "rivulet/api.ErrKind", "rivulet/api.ErrNone", "rivulet/api.ErrAway"], plainKeys := false, apart := false, laid := [("rivulet/api.ErrRange", laid_rivulet_api_ErrRange), ("rivulet/api.ErrMany", laid_rivulet_api_ErrMany), ("rivulet/api.ErrName", laid_rivulet_api_ErrName), ("rivulet/api.ErrTwice", laid_rivulet_api_ErrTwice), ("rivulet/api.ErrNone", laid_rivulet_api_ErrNone), ("rivulet/api.ErrAway", laid_rivulet_api_ErrAway), ("rivulet/api.ErrKind", laid_rivulet_api_ErrKind)], narrowed := true }
def TraceLinesUptoSaid : Prop := traceLinesUptoRow.holds Tryz.pinned (OpenSpec.upto traceLinesSpec)

/-- 'rivuletlaw25.NetCopies', WHERE WHAT IT READS IS OF BULK AT MOST 1048576: true; the input reads as it did. -/
def netCopiesUptoRow : OpenClaim := { program := "ytihdpjinaafenaagreatdoor", sum := "7d1bac58c7e44de2f3acb6f0f6a2b051b85c6ef7eb8ca69b8b055c638d471912", func := "rivulet/rivuletlaw25.NetCopies", spec := "netCopies", unfollowed := true, recurses := true, named := ["rivulet/api.ErrMany", "rivulet/api.ErrTwice", "rivulet/api.ErrRange", "rivulet/api.ErrName", "rivulet/api.ErrKind", "rivulet/api.ErrNone", "rivulet/api.ErrAway", "rivulet/api.ErrEnd", "rivulet/api.ErrSum", "rivulet/api.ErrShape"], plainKeys := false, apart := false, laid := [("rivulet/api.ErrEnd", laid_rivulet_api_ErrEnd), ("rivulet/api.ErrShape", laid_rivulet_api_ErrShape), ("rivulet/api.ErrRange", laid_rivulet_api_ErrRange), ("rivulet/api.ErrMany", laid_rivulet_api_ErrMany), ("rivulet/api.ErrSum", laid_rivulet_api_ErrSum), ("rivulet/api.ErrName", laid_rivulet_api_ErrName), ("rivulet/api.ErrTwice", laid_rivulet_api_ErrTwice), ("rivulet/api.ErrNone", laid_rivulet_api_ErrNone), ("rivulet/api.ErrAway", laid_rivulet_api_ErrAway), ("rivulet/api.ErrKind", laid_rivulet_api_ErrKind)], narrowed := true }
def NetCopiesUptoSaid : Prop := netCopiesUptoRow.holds Tryz.pinned (OpenSpec.upto netCopiesSpec)

/-- 'rivuletlaw25.NetFast', WHERE WHAT IT READS IS OF BULK AT MOST 1048576: true; the input reads as it did. -/
def netFastUptoRow : OpenClaim := { program := "ytihdpjinaafenaagreatdoor", sum := "7d1bac58c7e44de2f3acb6f0f6a2b051b85c6ef7eb8ca69b8b055c638d471912", func := "rivulet/rivuletlaw25.NetFast", spec := "netFast", unfollowed := true, recurses := true, named := ["rivulet/api.ErrMany", "rivulet/api.ErrTwice", "rivulet/api.ErrRange", "rivulet/api.ErrName", "rivulet/api.ErrKind", "rivulet/api.ErrNone", "rivulet/api.ErrAway", "rivulet/api.ErrEnd", "rivulet/api.ErrSum", "rivulet/api.ErrShape"], plainKeys := false, apart := false, laid := [("rivulet/api.ErrEnd", laid_rivulet_api_ErrEnd), ("rivulet/api.ErrShape", laid_rivulet_api_ErrShape), ("rivulet/api.ErrRange", laid_rivulet_api_ErrRange), ("rivulet/api.ErrMany", laid_rivulet_api_ErrMany), ("rivulet/api.ErrSum", laid_rivulet_api_ErrSum), ("rivulet/api.ErrName", laid_rivulet_api_ErrName), ("rivulet/api.ErrTwice", laid_rivulet_api_ErrTwice), ("rivulet/api.ErrNone", laid_rivulet_api_ErrNone), ("rivulet/api.ErrAway", laid_rivulet_api_ErrAway), ("rivulet/api.ErrKind", laid_rivulet_api_ErrKind)], narrowed := true }
def NetFastUptoSaid : Prop := netFastUptoRow.holds Tryz.pinned (OpenSpec.upto netFastSpec)

/-- 'rivuletlaw25.NetBad', WHERE WHAT IT READS IS OF BULK AT MOST 1048576: true; the input reads as it did. -/
def netBadUptoRow : OpenClaim := { program := "ytihdpjinaafenaagreatdoor", sum := "7d1bac58c7e44de2f3acb6f0f6a2b051b85c6ef7eb8ca69b8b055c638d471912", func := "rivulet/rivuletlaw25.NetBad", spec := "netBad", unfollowed := true, recurses := true, named := ["rivulet/api.ErrMany", "rivulet/api.ErrTwice", "rivulet/api.ErrRange", "rivulet/api.ErrName", "rivulet/api.ErrKind", "rivulet/api.ErrNone", "rivulet/api.ErrAway", "rivulet/api.ErrEnd", "rivulet/api.ErrSum", "rivulet/api.ErrShape"], plainKeys := false, apart := false, laid := [("rivulet/api.ErrEnd", laid_rivulet_api_ErrEnd), ("rivulet/api.ErrShape", laid_rivulet_api_ErrShape), ("rivulet/api.ErrRange", laid_rivulet_api_ErrRange), ("rivulet/api.ErrMany", laid_rivulet_api_ErrMany), ("rivulet/api.ErrSum", laid_rivulet_api_ErrSum), ("rivulet/api.ErrName", laid_rivulet_api_ErrName), ("rivulet/api.ErrTwice", laid_rivulet_api_ErrTwice), ("rivulet/api.ErrNone", laid_rivulet_api_ErrNone), ("rivulet/api.ErrAway", laid_rivulet_api_ErrAway), ("rivulet/api.ErrKind", laid_rivulet_api_ErrKind)], narrowed := true }
def NetBadUptoSaid : Prop := netBadUptoRow.holds Tryz.pinned (OpenSpec.upto netBadSpec)

end Rows
end Go.Proofs.YtihdpjinaafenaaGreatDoor

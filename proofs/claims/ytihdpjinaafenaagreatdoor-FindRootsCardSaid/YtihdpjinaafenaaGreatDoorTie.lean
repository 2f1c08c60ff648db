/-
  DERIVED. GIVEN WITH THE SEED: THE PROGRAM's TIES (one call each: nine closed facts by the kernel) AND EACH ROW's TIE, after the 31st guide's Derived/Test/Toyas{Tie, Card}.lean. No idea stands in it: it is a product of the set-up. Laid BY PROGRAM, IN A SANDBOX (cutbox-door.mjs). By AI agents, Wed Nov 11 2026. No macro, syntax, notation, axiom, sorry.
-/
import Derived.Test.YtihdpjinaafenaaGreatDoorRows
import Derived.LaidByTextLater
import Derived.SevenTiedAt
import Derived.LaidSub
import Derived.LaidOnce
namespace Go.Proofs.YtihdpjinaafenaaGreatDoor
open Go
set_option maxRecDepth 100000
theorem seatTie1 : Tryz.prog.laidByTextLater [("math/bits.deBruijn32tab", Rows.laid_math_bits_deBruijn32tab), ("math/bits.deBruijn64tab", Rows.laid_math_bits_deBruijn64tab), ("internal/strconv.uint64pow10", Rows.laid_internal_strconv_uint64pow10), ("rivulet/api.ErrEnd", Rows.laid_rivulet_api_ErrEnd), ("rivulet/api.ErrShape", Rows.laid_rivulet_api_ErrShape), ("rivulet/api.ErrRange", Rows.laid_rivulet_api_ErrRange), ("rivulet/api.ErrMany", Rows.laid_rivulet_api_ErrMany), ("rivulet/api.ErrSum", Rows.laid_rivulet_api_ErrSum), ("rivulet/api.ErrName", Rows.laid_rivulet_api_ErrName), ("rivulet/api.ErrTwice", Rows.laid_rivulet_api_ErrTwice), ("rivulet/api.ErrNone", Rows.laid_rivulet_api_ErrNone), ("rivulet/api.ErrAway", Rows.laid_rivulet_api_ErrAway), ("rivulet/api.ErrKind", Rows.laid_rivulet_api_ErrKind)] [.data, .data, .data, .sentinel, .sentinel, .sentinel, .sentinel, .sentinel, .sentinel, .sentinel, .sentinel, .sentinel, .sentinel] true :=
  Program.laidByTextLater_by_one 214 8 65 (by kernel_rfl) (by kernel_rfl) (by kernel_rfl) (by kernel_rfl) (by kernel_rfl) (by kernel_rfl) (fun _ _ => by kernel_rfl)
theorem noOwnUnsafe : Tryz.pinned.checked.prog.headLifts.contains "ownunsafe" = false := by kernel_rfl
theorem tie : Tryz.prog.laidByTextLater [("rivulet/api.ErrRange", Rows.laid_rivulet_api_ErrRange), ("rivulet/api.ErrMany", Rows.laid_rivulet_api_ErrMany), ("rivulet/api.ErrName", Rows.laid_rivulet_api_ErrName), ("rivulet/api.ErrTwice", Rows.laid_rivulet_api_ErrTwice), ("rivulet/api.ErrNone", Rows.laid_rivulet_api_ErrNone), ("rivulet/api.ErrAway", Rows.laid_rivulet_api_ErrAway), ("rivulet/api.ErrKind", Rows.laid_rivulet_api_ErrKind)] [.sentinel, .sentinel, .sentinel, .sentinel, .sentinel, .sentinel, .sentinel] true :=
  Program.laidByTextLater.sub seatTie1 ["rivulet/api.ErrRange", "rivulet/api.ErrMany", "rivulet/api.ErrName", "rivulet/api.ErrTwice", "rivulet/api.ErrNone", "rivulet/api.ErrAway", "rivulet/api.ErrKind"] (by kernel_rfl) (by kernel_rfl)
theorem rtrSeats_row_tie : Rows.rtrSeatsRow.laidByTextAt .later Tryz.pinned [.sentinel, .sentinel, .sentinel, .sentinel, .sentinel, .sentinel, .sentinel] true :=
  OpenClaim.laidByTextAt_later rfl rfl tie noOwnUnsafe
theorem rtrHosts_row_tie : Rows.rtrHostsRow.laidByTextAt .later Tryz.pinned [.sentinel, .sentinel, .sentinel, .sentinel, .sentinel, .sentinel, .sentinel] true :=
  OpenClaim.laidByTextAt_later rfl rfl tie noOwnUnsafe
theorem rtrJoins_row_tie : Rows.rtrJoinsRow.laidByTextAt .later Tryz.pinned [.sentinel, .sentinel, .sentinel, .sentinel, .sentinel, .sentinel, .sentinel] true :=
  OpenClaim.laidByTextAt_later rfl rfl tie noOwnUnsafe
theorem solveLines_row_tie : Rows.solveLinesRow.laidByTextAt .later Tryz.pinned [.sentinel, .sentinel, .sentinel, .sentinel, .sentinel, .sentinel, .sentinel] true :=
  OpenClaim.laidByTextAt_later rfl rfl tie noOwnUnsafe
theorem traceLines_row_tie : Rows.traceLinesRow.laidByTextAt .later Tryz.pinned [.sentinel, .sentinel, .sentinel, .sentinel, .sentinel, .sentinel, .sentinel] true :=
  OpenClaim.laidByTextAt_later rfl rfl tie noOwnUnsafe
theorem tie2 : Tryz.prog.laidByTextLater [("math/bits.deBruijn32tab", Rows.laid_math_bits_deBruijn32tab), ("math/bits.deBruijn64tab", Rows.laid_math_bits_deBruijn64tab), ("internal/strconv.uint64pow10", Rows.laid_internal_strconv_uint64pow10), ("rivulet/api.ErrRange", Rows.laid_rivulet_api_ErrRange), ("rivulet/api.ErrMany", Rows.laid_rivulet_api_ErrMany), ("rivulet/api.ErrName", Rows.laid_rivulet_api_ErrName), ("rivulet/api.ErrTwice", Rows.laid_rivulet_api_ErrTwice), ("rivulet/api.ErrNone", Rows.laid_rivulet_api_ErrNone), ("rivulet/api.ErrAway", Rows.laid_rivulet_api_ErrAway), ("rivulet/api.ErrKind", Rows.laid_rivulet_api_ErrKind)] [.data, .data, .data, .sentinel, .sentinel, .sentinel, .sentinel, .sentinel, .sentinel, .sentinel] true :=
  Program.laidByTextLater.sub seatTie1 ["math/bits.deBruijn32tab", "math/bits.deBruijn64tab", "internal/strconv.uint64pow10", "rivulet/api.ErrRange", "rivulet/api.ErrMany", "rivulet/api.ErrName", "rivulet/api.ErrTwice", "rivulet/api.ErrNone", "rivulet/api.ErrAway", "rivulet/api.ErrKind"] (by kernel_rfl) (by kernel_rfl)
theorem findRoots_row_tie : Rows.findRootsRow.laidByTextAt .later Tryz.pinned [.data, .data, .data, .sentinel, .sentinel, .sentinel, .sentinel, .sentinel, .sentinel, .sentinel] true :=
  OpenClaim.laidByTextAt_later rfl rfl tie2 noOwnUnsafe
theorem tie3 : Tryz.prog.laidByTextLater [("rivulet/api.ErrEnd", Rows.laid_rivulet_api_ErrEnd), ("rivulet/api.ErrShape", Rows.laid_rivulet_api_ErrShape), ("rivulet/api.ErrRange", Rows.laid_rivulet_api_ErrRange), ("rivulet/api.ErrMany", Rows.laid_rivulet_api_ErrMany), ("rivulet/api.ErrSum", Rows.laid_rivulet_api_ErrSum), ("rivulet/api.ErrName", Rows.laid_rivulet_api_ErrName), ("rivulet/api.ErrTwice", Rows.laid_rivulet_api_ErrTwice), ("rivulet/api.ErrNone", Rows.laid_rivulet_api_ErrNone), ("rivulet/api.ErrAway", Rows.laid_rivulet_api_ErrAway), ("rivulet/api.ErrKind", Rows.laid_rivulet_api_ErrKind)] [.sentinel, .sentinel, .sentinel, .sentinel, .sentinel, .sentinel, .sentinel, .sentinel, .sentinel, .sentinel] true :=
  Program.laidByTextLater.sub seatTie1 ["rivulet/api.ErrEnd", "rivulet/api.ErrShape", "rivulet/api.ErrRange", "rivulet/api.ErrMany", "rivulet/api.ErrSum", "rivulet/api.ErrName", "rivulet/api.ErrTwice", "rivulet/api.ErrNone", "rivulet/api.ErrAway", "rivulet/api.ErrKind"] (by kernel_rfl) (by kernel_rfl)
theorem netCopies_row_tie : Rows.netCopiesRow.laidByTextAt .later Tryz.pinned [.sentinel, .sentinel, .sentinel, .sentinel, .sentinel, .sentinel, .sentinel, .sentinel, .sentinel, .sentinel] true :=
  OpenClaim.laidByTextAt_later rfl rfl tie3 noOwnUnsafe
theorem netFast_row_tie : Rows.netFastRow.laidByTextAt .later Tryz.pinned [.sentinel, .sentinel, .sentinel, .sentinel, .sentinel, .sentinel, .sentinel, .sentinel, .sentinel, .sentinel] true :=
  OpenClaim.laidByTextAt_later rfl rfl tie3 noOwnUnsafe
theorem netBad_row_tie : Rows.netBadRow.laidByTextAt .later Tryz.pinned [.sentinel, .sentinel, .sentinel, .sentinel, .sentinel, .sentinel, .sentinel, .sentinel, .sentinel, .sentinel] true :=
  OpenClaim.laidByTextAt_later rfl rfl tie3 noOwnUnsafe
theorem rtrSeatsUpto_row_tie : Rows.rtrSeatsUptoRow.laidByTextAt .later Tryz.pinned [.sentinel, .sentinel, .sentinel, .sentinel, .sentinel, .sentinel, .sentinel] true :=
  OpenClaim.laidByTextAt_later rfl rfl tie noOwnUnsafe
theorem rtrHostsUpto_row_tie : Rows.rtrHostsUptoRow.laidByTextAt .later Tryz.pinned [.sentinel, .sentinel, .sentinel, .sentinel, .sentinel, .sentinel, .sentinel] true :=
  OpenClaim.laidByTextAt_later rfl rfl tie noOwnUnsafe
theorem rtrJoinsUpto_row_tie : Rows.rtrJoinsUptoRow.laidByTextAt .later Tryz.pinned [.sentinel, .sentinel, .sentinel, .sentinel, .sentinel, .sentinel, .sentinel] true :=
  OpenClaim.laidByTextAt_later rfl rfl tie noOwnUnsafe
theorem findRootsUpto_row_tie : Rows.findRootsUptoRow.laidByTextAt .later Tryz.pinned [.data, .data, .data, .sentinel, .sentinel, .sentinel, .sentinel, .sentinel, .sentinel, .sentinel] true :=
  OpenClaim.laidByTextAt_later rfl rfl tie2 noOwnUnsafe
theorem solveLinesUpto_row_tie : Rows.solveLinesUptoRow.laidByTextAt .later Tryz.pinned [.sentinel, .sentinel, .sentinel, .sentinel, .sentinel, .sentinel, .sentinel] true :=
  OpenClaim.laidByTextAt_later rfl rfl tie noOwnUnsafe
theorem traceLinesUpto_row_tie : Rows.traceLinesUptoRow.laidByTextAt .later Tryz.pinned [.sentinel, .sentinel, .sentinel, .sentinel, .sentinel, .sentinel, .sentinel] true :=
  OpenClaim.laidByTextAt_later rfl rfl tie noOwnUnsafe
theorem netCopiesUpto_row_tie : Rows.netCopiesUptoRow.laidByTextAt .later Tryz.pinned [.sentinel, .sentinel, .sentinel, .sentinel, .sentinel, .sentinel, .sentinel, .sentinel, .sentinel, .sentinel] true :=
  OpenClaim.laidByTextAt_later rfl rfl tie3 noOwnUnsafe
theorem netFastUpto_row_tie : Rows.netFastUptoRow.laidByTextAt .later Tryz.pinned [.sentinel, .sentinel, .sentinel, .sentinel, .sentinel, .sentinel, .sentinel, .sentinel, .sentinel, .sentinel] true :=
  OpenClaim.laidByTextAt_later rfl rfl tie3 noOwnUnsafe
theorem netBadUpto_row_tie : Rows.netBadUptoRow.laidByTextAt .later Tryz.pinned [.sentinel, .sentinel, .sentinel, .sentinel, .sentinel, .sentinel, .sentinel, .sentinel, .sentinel, .sentinel] true :=
  OpenClaim.laidByTextAt_later rfl rfl tie3 noOwnUnsafe
end Go.Proofs.YtihdpjinaafenaaGreatDoor

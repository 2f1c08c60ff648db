import Derived.Test.YtihdpjinaafenaaGreatDoorNc25
noncomputable section
/- The natives of networks: Tick, All, Delete of a queue. -/
set_option linter.unusedVariables false
set_option linter.unusedSimpArgs false
set_option maxRecDepth 100000
namespace Go.Proofs.YtihdpjinaafenaaGreatDoor
open Sl Ce
def netN : List (Pos × NF) := (pos 238, delF 278) :: ageN
theorem netN_ok (ξ : Nat → Value) : ∀ e ∈ netN, NFOk (kn ξ) e.1 e.2 := by
 intro e he
 rcases List.mem_cons.1 he with rfl | he
 ·exact delF_ok (by simp [pos_nat]) kR
 ·exact ageN_ok ξ e he
end Go.Proofs.YtihdpjinaafenaaGreatDoor

/- NetCopies: the evaluation of one case. -/
set_option linter.unusedVariables false
set_option maxRecDepth 1000000
namespace Go.Proofs.YtihdpjinaafenaaGreatDoor
open Sl Ce
def netCopiesNum : Pos := pos 13
def netCopiesFir : Pos := pos 38

def netCopiesAt (r0 : Nat) (r1 : Nat) (r2 : Bool) : Bool := isTrue ((evF 1000000 (omX netCopiesNum [netCopiesFir] [(0, 3, r0), (1, 5, r1)] netN) tab 1000).c (pos 9) [.xi 0, .xi 1, .b r2] ch0 i0 0)
end Go.Proofs.YtihdpjinaafenaaGreatDoor

import Derived.Test.YtihdpjinaafenaaGreatDoorFr20
noncomputable section
/- FindRoots: some cases. -/
set_option maxRecDepth 1000000
namespace Go.Proofs.YtihdpjinaafenaaGreatDoor
theorem cbFindRoots_1 (τ:Nat → Nat):(findRootsAt τ 0 2 true && (findRootsAt τ 0 3 false && (findRootsAt τ 0 3 true && (findRootsAt τ 0 4 false && (findRootsAt τ 0 4 true))))) = true:=by kernel_rfl
theorem cbFindRoots_5 (τ:Nat → Nat):(findRootsAt τ 2 2 true && (findRootsAt τ 2 3 false && (findRootsAt τ 2 3 true && (findRootsAt τ 2 4 false && (findRootsAt τ 2 4 true))))) = true:=by kernel_rfl
end Go.Proofs.YtihdpjinaafenaaGreatDoor

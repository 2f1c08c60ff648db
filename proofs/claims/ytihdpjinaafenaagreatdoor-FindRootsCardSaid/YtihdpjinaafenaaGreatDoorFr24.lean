import Derived.Test.YtihdpjinaafenaaGreatDoorFr20
noncomputable section
/- FindRoots: some cases. -/
set_option maxRecDepth 1000000
namespace Go.Proofs.YtihdpjinaafenaaGreatDoor
theorem cbFindRoots_3 (τ:Nat → Nat):(findRootsAt τ 1 2 true && (findRootsAt τ 1 3 false && (findRootsAt τ 1 3 true && (findRootsAt τ 1 4 false && (findRootsAt τ 1 4 true))))) = true:=by kernel_rfl
theorem cbFindRoots_7 (τ:Nat → Nat):(findRootsAt τ 3 2 true && (findRootsAt τ 3 3 false && (findRootsAt τ 3 3 true && (findRootsAt τ 3 4 false && (findRootsAt τ 3 4 true))))) = true:=by kernel_rfl
end Go.Proofs.YtihdpjinaafenaaGreatDoor

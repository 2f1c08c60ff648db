import Derived.Test.YtihdpjinaafenaaGreatDoorFr20
noncomputable section
/- FindRoots: some cases. -/
set_option maxRecDepth 1000000
namespace Go.Proofs.YtihdpjinaafenaaGreatDoor
theorem cbFindRoots_2 (τ:Nat → Nat):(findRootsAt τ 1 0 false && (findRootsAt τ 1 0 true && (findRootsAt τ 1 1 false && (findRootsAt τ 1 1 true && (findRootsAt τ 1 2 false))))) = true:=by kernel_rfl
theorem cbFindRoots_6 (τ:Nat → Nat):(findRootsAt τ 3 0 false && (findRootsAt τ 3 0 true && (findRootsAt τ 3 1 false && (findRootsAt τ 3 1 true && (findRootsAt τ 3 2 false))))) = true:=by kernel_rfl
end Go.Proofs.YtihdpjinaafenaaGreatDoor

import Derived.Test.YtihdpjinaafenaaGreatDoorFr20
noncomputable section
/- FindRoots: some cases. -/
set_option maxRecDepth 1000000
namespace Go.Proofs.YtihdpjinaafenaaGreatDoor
theorem cbFindRoots_0 (τ:Nat → Nat):(findRootsAt τ 0 0 false && (findRootsAt τ 0 0 true && (findRootsAt τ 0 1 false && (findRootsAt τ 0 1 true && (findRootsAt τ 0 2 false))))) = true:=by kernel_rfl
theorem cbFindRoots_4 (τ:Nat → Nat):(findRootsAt τ 2 0 false && (findRootsAt τ 2 0 true && (findRootsAt τ 2 1 false && (findRootsAt τ 2 1 true && (findRootsAt τ 2 2 false))))) = true:=by kernel_rfl
end Go.Proofs.YtihdpjinaafenaaGreatDoor

import Derived.Test.YtihdpjinaafenaaGreatDoorNb24
noncomputable section
/- NetBad: some cases. -/
set_option maxRecDepth 1000000
namespace Go.Proofs.YtihdpjinaafenaaGreatDoor
theorem atNetBad_0_5 (τ:Nat → Nat):netBadAll τ 0 (List.range' 50 10) = true:=by kernel_rfl
theorem atNetBad_1_5 (τ:Nat → Nat):netBadAll τ 1 (List.range' 50 10) = true:=by kernel_rfl
theorem atNetBad_2_5 (τ:Nat → Nat):netBadAll τ 2 (List.range' 50 10) = true:=by kernel_rfl
theorem atNetBad_3_5 (τ:Nat → Nat):netBadAll τ 3 (List.range' 50 10) = true:=by kernel_rfl
end Go.Proofs.YtihdpjinaafenaaGreatDoor

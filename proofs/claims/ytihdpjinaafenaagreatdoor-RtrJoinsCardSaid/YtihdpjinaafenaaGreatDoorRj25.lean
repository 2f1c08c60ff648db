import Derived.Test.YtihdpjinaafenaaGreatDoorRj24
/- RtrJoins: some cases. -/
set_option maxRecDepth 1000000
namespace Go.Proofs.YtihdpjinaafenaaGreatDoor
theorem atRtrJoins_0_0_0 : rtrJoinsAt 0 0 0 = true := by kernel_rfl
theorem atRtrJoins_1_0_2 : rtrJoinsAt 1 0 2 = true := by kernel_rfl
theorem atRtrJoins_2_0_0 : rtrJoinsAt 2 0 0 = true := by kernel_rfl
theorem atRtrJoins_2_1_2 : rtrJoinsAt 2 1 2 = true := by kernel_rfl
theorem atRtrJoins_3_0_0 : rtrJoinsAt 3 0 0 = true := by kernel_rfl
theorem atRtrJoins_3_1_2 : rtrJoinsAt 3 1 2 = true := by kernel_rfl
theorem atRtrJoins_3_3_0 : rtrJoinsAt 3 3 0 = true := by kernel_rfl
theorem atRtrJoins_4_0_2 : rtrJoinsAt 4 0 2 = true := by kernel_rfl
theorem atRtrJoins_4_2_0 : rtrJoinsAt 4 2 0 = true := by kernel_rfl
theorem atRtrJoins_4_3_2 : rtrJoinsAt 4 3 2 = true := by kernel_rfl
end Go.Proofs.YtihdpjinaafenaaGreatDoor

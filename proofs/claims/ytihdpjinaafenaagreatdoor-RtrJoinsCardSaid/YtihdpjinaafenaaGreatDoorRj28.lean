import Derived.Test.YtihdpjinaafenaaGreatDoorRj24
/- RtrJoins: some cases. -/
set_option maxRecDepth 1000000
namespace Go.Proofs.YtihdpjinaafenaaGreatDoor
theorem atRtrJoins_0_0_3 : rtrJoinsAt 0 0 3 = true := by kernel_rfl
theorem atRtrJoins_1_1_1 : rtrJoinsAt 1 1 1 = true := by kernel_rfl
theorem atRtrJoins_2_0_3 : rtrJoinsAt 2 0 3 = true := by kernel_rfl
theorem atRtrJoins_2_2_1 : rtrJoinsAt 2 2 1 = true := by kernel_rfl
theorem atRtrJoins_3_0_3 : rtrJoinsAt 3 0 3 = true := by kernel_rfl
theorem atRtrJoins_3_2_1 : rtrJoinsAt 3 2 1 = true := by kernel_rfl
theorem atRtrJoins_3_3_3 : rtrJoinsAt 3 3 3 = true := by kernel_rfl
theorem atRtrJoins_4_1_1 : rtrJoinsAt 4 1 1 = true := by kernel_rfl
theorem atRtrJoins_4_2_3 : rtrJoinsAt 4 2 3 = true := by kernel_rfl
theorem atRtrJoins_4_4_1 : rtrJoinsAt 4 4 1 = true := by kernel_rfl
end Go.Proofs.YtihdpjinaafenaaGreatDoor

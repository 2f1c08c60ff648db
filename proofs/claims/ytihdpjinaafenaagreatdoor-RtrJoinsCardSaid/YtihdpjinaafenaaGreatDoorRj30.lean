import Derived.Test.YtihdpjinaafenaaGreatDoorRj24
/- RtrJoins: some cases. -/
set_option maxRecDepth 1000000
namespace Go.Proofs.YtihdpjinaafenaaGreatDoor
theorem atRtrJoins_1_0_1 : rtrJoinsAt 1 0 1 = true := by kernel_rfl
theorem atRtrJoins_1_1_3 : rtrJoinsAt 1 1 3 = true := by kernel_rfl
theorem atRtrJoins_2_1_1 : rtrJoinsAt 2 1 1 = true := by kernel_rfl
theorem atRtrJoins_2_2_3 : rtrJoinsAt 2 2 3 = true := by kernel_rfl
theorem atRtrJoins_3_1_1 : rtrJoinsAt 3 1 1 = true := by kernel_rfl
theorem atRtrJoins_3_2_3 : rtrJoinsAt 3 2 3 = true := by kernel_rfl
theorem atRtrJoins_4_0_1 : rtrJoinsAt 4 0 1 = true := by kernel_rfl
theorem atRtrJoins_4_1_3 : rtrJoinsAt 4 1 3 = true := by kernel_rfl
theorem atRtrJoins_4_3_1 : rtrJoinsAt 4 3 1 = true := by kernel_rfl
theorem atRtrJoins_4_4_3 : rtrJoinsAt 4 4 3 = true := by kernel_rfl
end Go.Proofs.YtihdpjinaafenaaGreatDoor

import Derived.Test.YtihdpjinaafenaaGreatDoorRj24
/- RtrJoins: some cases. -/
set_option maxRecDepth 1000000
namespace Go.Proofs.YtihdpjinaafenaaGreatDoor
theorem atRtrJoins_0_0_1 : rtrJoinsAt 0 0 1 = true := by kernel_rfl
theorem atRtrJoins_1_0_3 : rtrJoinsAt 1 0 3 = true := by kernel_rfl
theorem atRtrJoins_2_0_1 : rtrJoinsAt 2 0 1 = true := by kernel_rfl
theorem atRtrJoins_2_1_3 : rtrJoinsAt 2 1 3 = true := by kernel_rfl
theorem atRtrJoins_3_0_1 : rtrJoinsAt 3 0 1 = true := by kernel_rfl
theorem atRtrJoins_3_1_3 : rtrJoinsAt 3 1 3 = true := by kernel_rfl
theorem atRtrJoins_3_3_1 : rtrJoinsAt 3 3 1 = true := by kernel_rfl
theorem atRtrJoins_4_0_3 : rtrJoinsAt 4 0 3 = true := by kernel_rfl
theorem atRtrJoins_4_2_1 : rtrJoinsAt 4 2 1 = true := by kernel_rfl
theorem atRtrJoins_4_3_3 : rtrJoinsAt 4 3 3 = true := by kernel_rfl
end Go.Proofs.YtihdpjinaafenaaGreatDoor

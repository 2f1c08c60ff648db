import Derived.Test.YtihdpjinaafenaaGreatDoorRj24
/- RtrJoins: some cases. -/
set_option maxRecDepth 1000000
namespace Go.Proofs.YtihdpjinaafenaaGreatDoor
theorem atRtrJoins_1_0_0 : rtrJoinsAt 1 0 0 = true := by kernel_rfl
theorem atRtrJoins_1_1_2 : rtrJoinsAt 1 1 2 = true := by kernel_rfl
theorem atRtrJoins_2_1_0 : rtrJoinsAt 2 1 0 = true := by kernel_rfl
theorem atRtrJoins_2_2_2 : rtrJoinsAt 2 2 2 = true := by kernel_rfl
theorem atRtrJoins_3_1_0 : rtrJoinsAt 3 1 0 = true := by kernel_rfl
theorem atRtrJoins_3_2_2 : rtrJoinsAt 3 2 2 = true := by kernel_rfl
theorem atRtrJoins_4_0_0 : rtrJoinsAt 4 0 0 = true := by kernel_rfl
theorem atRtrJoins_4_1_2 : rtrJoinsAt 4 1 2 = true := by kernel_rfl
theorem atRtrJoins_4_3_0 : rtrJoinsAt 4 3 0 = true := by kernel_rfl
theorem atRtrJoins_4_4_2 : rtrJoinsAt 4 4 2 = true := by kernel_rfl
end Go.Proofs.YtihdpjinaafenaaGreatDoor

import Derived.Test.YtihdpjinaafenaaGreatDoorRj24
/- RtrJoins: some cases. -/
set_option maxRecDepth 1000000
namespace Go.Proofs.YtihdpjinaafenaaGreatDoor
theorem atRtrJoins_0_0_2 : rtrJoinsAt 0 0 2 = true := by kernel_rfl
theorem atRtrJoins_1_1_0 : rtrJoinsAt 1 1 0 = true := by kernel_rfl
theorem atRtrJoins_2_0_2 : rtrJoinsAt 2 0 2 = true := by kernel_rfl
theorem atRtrJoins_2_2_0 : rtrJoinsAt 2 2 0 = true := by kernel_rfl
theorem atRtrJoins_3_0_2 : rtrJoinsAt 3 0 2 = true := by kernel_rfl
theorem atRtrJoins_3_2_0 : rtrJoinsAt 3 2 0 = true := by kernel_rfl
theorem atRtrJoins_3_3_2 : rtrJoinsAt 3 3 2 = true := by kernel_rfl
theorem atRtrJoins_4_1_0 : rtrJoinsAt 4 1 0 = true := by kernel_rfl
theorem atRtrJoins_4_2_2 : rtrJoinsAt 4 2 2 = true := by kernel_rfl
theorem atRtrJoins_4_4_0 : rtrJoinsAt 4 4 0 = true := by kernel_rfl
end Go.Proofs.YtihdpjinaafenaaGreatDoor

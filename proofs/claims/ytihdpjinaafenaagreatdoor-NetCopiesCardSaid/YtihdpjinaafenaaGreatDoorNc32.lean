import Derived.Test.YtihdpjinaafenaaGreatDoorNc26
noncomputable section
/- NetCopies: some cases. -/
set_option maxRecDepth 1000000
namespace Go.Proofs.YtihdpjinaafenaaGreatDoor
theorem atNetCopies_0_2_1 : netCopiesAt 0 2 true = true := by kernel_rfl
theorem atNetCopies_1_0_1 : netCopiesAt 1 0 true = true := by kernel_rfl
theorem atNetCopies_1_3_1 : netCopiesAt 1 3 true = true := by kernel_rfl
theorem atNetCopies_2_1_1 : netCopiesAt 2 1 true = true := by kernel_rfl
theorem atNetCopies_2_4_1 : netCopiesAt 2 4 true = true := by kernel_rfl
end Go.Proofs.YtihdpjinaafenaaGreatDoor

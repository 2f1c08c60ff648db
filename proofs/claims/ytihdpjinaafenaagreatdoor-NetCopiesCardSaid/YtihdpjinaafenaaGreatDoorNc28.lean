import Derived.Test.YtihdpjinaafenaaGreatDoorNc26
noncomputable section
/- NetCopies: some cases. -/
set_option maxRecDepth 1000000
namespace Go.Proofs.YtihdpjinaafenaaGreatDoor
theorem atNetCopies_0_0_1 : netCopiesAt 0 0 true = true := by kernel_rfl
theorem atNetCopies_0_3_1 : netCopiesAt 0 3 true = true := by kernel_rfl
theorem atNetCopies_1_1_1 : netCopiesAt 1 1 true = true := by kernel_rfl
theorem atNetCopies_1_4_1 : netCopiesAt 1 4 true = true := by kernel_rfl
theorem atNetCopies_2_2_1 : netCopiesAt 2 2 true = true := by kernel_rfl
end Go.Proofs.YtihdpjinaafenaaGreatDoor

import Derived.Test.YtihdpjinaafenaaGreatDoorNc26
noncomputable section
/- NetCopies: some cases. -/
set_option maxRecDepth 1000000
namespace Go.Proofs.YtihdpjinaafenaaGreatDoor
theorem atNetCopies_0_2_0 : netCopiesAt 0 2 false = true := by kernel_rfl
theorem atNetCopies_1_0_0 : netCopiesAt 1 0 false = true := by kernel_rfl
theorem atNetCopies_1_3_0 : netCopiesAt 1 3 false = true := by kernel_rfl
theorem atNetCopies_2_1_0 : netCopiesAt 2 1 false = true := by kernel_rfl
theorem atNetCopies_2_4_0 : netCopiesAt 2 4 false = true := by kernel_rfl
end Go.Proofs.YtihdpjinaafenaaGreatDoor

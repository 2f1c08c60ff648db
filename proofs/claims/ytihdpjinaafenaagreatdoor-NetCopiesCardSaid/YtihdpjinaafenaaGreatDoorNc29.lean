import Derived.Test.YtihdpjinaafenaaGreatDoorNc26
noncomputable section
/- NetCopies: some cases. -/
set_option maxRecDepth 1000000
namespace Go.Proofs.YtihdpjinaafenaaGreatDoor
theorem atNetCopies_0_1_0 : netCopiesAt 0 1 false = true := by kernel_rfl
theorem atNetCopies_0_4_0 : netCopiesAt 0 4 false = true := by kernel_rfl
theorem atNetCopies_1_2_0 : netCopiesAt 1 2 false = true := by kernel_rfl
theorem atNetCopies_2_0_0 : netCopiesAt 2 0 false = true := by kernel_rfl
theorem atNetCopies_2_3_0 : netCopiesAt 2 3 false = true := by kernel_rfl
end Go.Proofs.YtihdpjinaafenaaGreatDoor

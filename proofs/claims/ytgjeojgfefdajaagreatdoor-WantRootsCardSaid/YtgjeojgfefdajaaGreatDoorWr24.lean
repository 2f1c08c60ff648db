import Derived.Test.YtgjeojgfefdajaaGreatDoorWr22
/- WantRoots: some cases. -/
set_option maxRecDepth 1000000
namespace Go.Proofs.YtgjeojgfefdajaaGreatDoor
theorem wr_0_0_1 : wrAt 0 0 1 = true := by kernel_rfl
theorem wr_1_0_1 : wrAt 1 0 1 = true := by kernel_rfl
theorem wr_1_1_1 : wrAt 1 1 1 = true := by kernel_rfl
theorem wr_2_2_1 : wrAt 2 2 1 = true := by kernel_rfl
theorem wr_3_0_1 : wrAt 3 0 1 = true := by kernel_rfl
theorem wr_3_2_1 : wrAt 3 2 1 = true := by kernel_rfl
theorem wr_3_4_1 : wrAt 3 4 1 = true := by kernel_rfl
theorem wr_4_0_1 : wrAt 4 0 1 = true := by kernel_rfl
theorem wr_4_2_1 : wrAt 4 2 1 = true := by kernel_rfl
theorem wr_4_4_1 : wrAt 4 4 1 = true := by kernel_rfl
end Go.Proofs.YtgjeojgfefdajaaGreatDoor

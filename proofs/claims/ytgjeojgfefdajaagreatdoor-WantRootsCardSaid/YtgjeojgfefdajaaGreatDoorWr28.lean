import Derived.Test.YtgjeojgfefdajaaGreatDoorWr22
/- WantRoots: some cases. -/
set_option maxRecDepth 1000000
namespace Go.Proofs.YtgjeojgfefdajaaGreatDoor
theorem wr_0_1_1 : wrAt 0 1 1 = true := by kernel_rfl
theorem wr_1_2_1 : wrAt 1 2 1 = true := by kernel_rfl
theorem wr_2_0_1 : wrAt 2 0 1 = true := by kernel_rfl
theorem wr_2_1_1 : wrAt 2 1 1 = true := by kernel_rfl
theorem wr_2_3_1 : wrAt 2 3 1 = true := by kernel_rfl
theorem wr_3_1_1 : wrAt 3 1 1 = true := by kernel_rfl
theorem wr_3_3_1 : wrAt 3 3 1 = true := by kernel_rfl
theorem wr_4_1_1 : wrAt 4 1 1 = true := by kernel_rfl
theorem wr_4_3_1 : wrAt 4 3 1 = true := by kernel_rfl
theorem wr_4_5_1 : wrAt 4 5 1 = true := by kernel_rfl
end Go.Proofs.YtgjeojgfefdajaaGreatDoor

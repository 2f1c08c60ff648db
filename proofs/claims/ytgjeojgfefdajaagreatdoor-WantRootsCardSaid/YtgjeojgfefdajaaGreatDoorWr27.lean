import Derived.Test.YtgjeojgfefdajaaGreatDoorWr22
/- WantRoots: some cases. -/
set_option maxRecDepth 1000000
namespace Go.Proofs.YtgjeojgfefdajaaGreatDoor
theorem wr_0_1_0 : wrAt 0 1 0 = true := by kernel_rfl
theorem wr_1_2_0 : wrAt 1 2 0 = true := by kernel_rfl
theorem wr_2_0_0 : wrAt 2 0 0 = true := by kernel_rfl
theorem wr_2_1_0 : wrAt 2 1 0 = true := by kernel_rfl
theorem wr_2_3_0 : wrAt 2 3 0 = true := by kernel_rfl
theorem wr_3_1_0 : wrAt 3 1 0 = true := by kernel_rfl
theorem wr_3_3_0 : wrAt 3 3 0 = true := by kernel_rfl
theorem wr_4_1_0 : wrAt 4 1 0 = true := by kernel_rfl
theorem wr_4_3_0 : wrAt 4 3 0 = true := by kernel_rfl
theorem wr_4_5_0 : wrAt 4 5 0 = true := by kernel_rfl
end Go.Proofs.YtgjeojgfefdajaaGreatDoor

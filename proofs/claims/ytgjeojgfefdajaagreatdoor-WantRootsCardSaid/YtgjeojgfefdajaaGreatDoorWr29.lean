import Derived.Test.YtgjeojgfefdajaaGreatDoorWr22
/- WantRoots: some cases. -/
set_option maxRecDepth 1000000
namespace Go.Proofs.YtgjeojgfefdajaaGreatDoor
theorem wr_0_1_2 : wrAt 0 1 2 = true := by kernel_rfl
theorem wr_1_2_2 : wrAt 1 2 2 = true := by kernel_rfl
theorem wr_2_0_2 : wrAt 2 0 2 = true := by kernel_rfl
theorem wr_2_1_2 : wrAt 2 1 2 = true := by kernel_rfl
theorem wr_2_3_2 : wrAt 2 3 2 = true := by kernel_rfl
theorem wr_3_1_2 : wrAt 3 1 2 = true := by kernel_rfl
theorem wr_3_3_2 : wrAt 3 3 2 = true := by kernel_rfl
theorem wr_4_1_2 : wrAt 4 1 2 = true := by kernel_rfl
theorem wr_4_3_2 : wrAt 4 3 2 = true := by kernel_rfl
theorem wr_4_5_2 : wrAt 4 5 2 = true := by kernel_rfl
end Go.Proofs.YtgjeojgfefdajaaGreatDoor

import Derived.Test.YtgjeojgfefdajaaGreatDoorWr22
/- WantRoots: some cases. -/
set_option maxRecDepth 1000000
namespace Go.Proofs.YtgjeojgfefdajaaGreatDoor
theorem wr_0_1_3 : wrAt 0 1 3 = true := by kernel_rfl
theorem wr_1_2_3 : wrAt 1 2 3 = true := by kernel_rfl
theorem wr_2_0_3 : wrAt 2 0 3 = true := by kernel_rfl
theorem wr_2_1_3 : wrAt 2 1 3 = true := by kernel_rfl
theorem wr_2_3_3 : wrAt 2 3 3 = true := by kernel_rfl
theorem wr_3_1_3 : wrAt 3 1 3 = true := by kernel_rfl
theorem wr_3_3_3 : wrAt 3 3 3 = true := by kernel_rfl
theorem wr_4_1_3 : wrAt 4 1 3 = true := by kernel_rfl
theorem wr_4_3_3 : wrAt 4 3 3 = true := by kernel_rfl
theorem wr_4_5_3 : wrAt 4 5 3 = true := by kernel_rfl
end Go.Proofs.YtgjeojgfefdajaaGreatDoor

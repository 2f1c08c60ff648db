import Derived.Test.YtgjeojgfefdajaaGreatDoorWr22
/- WantRoots: some cases. -/
set_option maxRecDepth 1000000
namespace Go.Proofs.YtgjeojgfefdajaaGreatDoor
theorem wr_0_0_2 : wrAt 0 0 2 = true := by kernel_rfl
theorem wr_1_0_2 : wrAt 1 0 2 = true := by kernel_rfl
theorem wr_1_1_2 : wrAt 1 1 2 = true := by kernel_rfl
theorem wr_2_2_2 : wrAt 2 2 2 = true := by kernel_rfl
theorem wr_3_0_2 : wrAt 3 0 2 = true := by kernel_rfl
theorem wr_3_2_2 : wrAt 3 2 2 = true := by kernel_rfl
theorem wr_3_4_2 : wrAt 3 4 2 = true := by kernel_rfl
theorem wr_4_0_2 : wrAt 4 0 2 = true := by kernel_rfl
theorem wr_4_2_2 : wrAt 4 2 2 = true := by kernel_rfl
theorem wr_4_4_2 : wrAt 4 4 2 = true := by kernel_rfl
end Go.Proofs.YtgjeojgfefdajaaGreatDoor

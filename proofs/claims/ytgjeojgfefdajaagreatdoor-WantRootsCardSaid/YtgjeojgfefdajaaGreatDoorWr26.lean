import Derived.Test.YtgjeojgfefdajaaGreatDoorWr22
/- WantRoots: some cases. -/
set_option maxRecDepth 1000000
namespace Go.Proofs.YtgjeojgfefdajaaGreatDoor
theorem wr_0_0_3 : wrAt 0 0 3 = true := by kernel_rfl
theorem wr_1_0_3 : wrAt 1 0 3 = true := by kernel_rfl
theorem wr_1_1_3 : wrAt 1 1 3 = true := by kernel_rfl
theorem wr_2_2_3 : wrAt 2 2 3 = true := by kernel_rfl
theorem wr_3_0_3 : wrAt 3 0 3 = true := by kernel_rfl
theorem wr_3_2_3 : wrAt 3 2 3 = true := by kernel_rfl
theorem wr_3_4_3 : wrAt 3 4 3 = true := by kernel_rfl
theorem wr_4_0_3 : wrAt 4 0 3 = true := by kernel_rfl
theorem wr_4_2_3 : wrAt 4 2 3 = true := by kernel_rfl
theorem wr_4_4_3 : wrAt 4 4 3 = true := by kernel_rfl
end Go.Proofs.YtgjeojgfefdajaaGreatDoor

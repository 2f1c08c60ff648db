import Derived.Test.YtgjeojgfefdajaaGreatDoorWr22
/- WantRoots: some cases. -/
set_option maxRecDepth 1000000
namespace Go.Proofs.YtgjeojgfefdajaaGreatDoor
theorem wr_0_0_0 : wrAt 0 0 0 = true := by kernel_rfl
theorem wr_1_0_0 : wrAt 1 0 0 = true := by kernel_rfl
theorem wr_1_1_0 : wrAt 1 1 0 = true := by kernel_rfl
theorem wr_2_2_0 : wrAt 2 2 0 = true := by kernel_rfl
theorem wr_3_0_0 : wrAt 3 0 0 = true := by kernel_rfl
theorem wr_3_2_0 : wrAt 3 2 0 = true := by kernel_rfl
theorem wr_3_4_0 : wrAt 3 4 0 = true := by kernel_rfl
theorem wr_4_0_0 : wrAt 4 0 0 = true := by kernel_rfl
theorem wr_4_2_0 : wrAt 4 2 0 = true := by kernel_rfl
theorem wr_4_4_0 : wrAt 4 4 0 = true := by kernel_rfl
end Go.Proofs.YtgjeojgfefdajaaGreatDoor

import Derived.Test.YtfbjgbecabbdnaaGreatDoorFl19
/- FindLines: some cases. -/
set_option maxRecDepth 1000000
namespace Go.Proofs.YtfbjgbecabbdnaaGreatDoor
theorem atFindLines_0_1_0_1 : findLinesAt 0 1 0 true = true := by kernel_rfl
theorem atFindLines_2_1_0_1 : findLinesAt 2 1 0 true = true := by kernel_rfl
theorem atFindLines_3_0_3_1 : findLinesAt 3 0 3 true = true := by kernel_rfl
theorem atFindLines_3_3_3_1 : findLinesAt 3 3 3 true = true := by kernel_rfl
theorem atFindLines_4_1_2_1 : findLinesAt 4 1 2 true = true := by kernel_rfl
theorem atFindLines_4_3_5_1 : findLinesAt 4 3 5 true = true := by kernel_rfl
theorem atFindLines_5_0_2_1 : findLinesAt 5 0 2 true = true := by kernel_rfl
theorem atFindLines_5_2_3_1 : findLinesAt 5 2 3 true = true := by kernel_rfl
theorem atFindLines_5_4_4_1 : findLinesAt 5 4 4 true = true := by kernel_rfl
theorem atFindLines_5_6_5_1 : findLinesAt 5 6 5 true = true := by kernel_rfl
end Go.Proofs.YtfbjgbecabbdnaaGreatDoor

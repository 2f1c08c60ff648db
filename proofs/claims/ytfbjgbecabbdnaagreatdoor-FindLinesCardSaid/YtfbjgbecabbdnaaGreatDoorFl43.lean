import Derived.Test.YtfbjgbecabbdnaaGreatDoorFl19
/- FindLines: some cases. -/
set_option maxRecDepth 1000000
namespace Go.Proofs.YtfbjgbecabbdnaaGreatDoor
theorem atFindLines_1_2_1_1 : findLinesAt 1 2 1 true = true := by kernel_rfl
theorem atFindLines_2_3_1_1 : findLinesAt 2 3 1 true = true := by kernel_rfl
theorem atFindLines_3_2_2_1 : findLinesAt 3 2 2 true = true := by kernel_rfl
theorem atFindLines_4_0_2_1 : findLinesAt 4 0 2 true = true := by kernel_rfl
theorem atFindLines_4_2_5_1 : findLinesAt 4 2 5 true = true := by kernel_rfl
theorem atFindLines_4_5_2_1 : findLinesAt 4 5 2 true = true := by kernel_rfl
theorem atFindLines_5_1_4_1 : findLinesAt 5 1 4 true = true := by kernel_rfl
theorem atFindLines_5_3_5_1 : findLinesAt 5 3 5 true = true := by kernel_rfl
theorem atFindLines_5_5_6_1 : findLinesAt 5 5 6 true = true := by kernel_rfl
end Go.Proofs.YtfbjgbecabbdnaaGreatDoor

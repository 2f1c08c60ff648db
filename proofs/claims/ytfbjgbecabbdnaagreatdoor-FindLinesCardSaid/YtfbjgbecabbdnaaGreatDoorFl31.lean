import Derived.Test.YtfbjgbecabbdnaaGreatDoorFl19
/- FindLines: some cases. -/
set_option maxRecDepth 1000000
namespace Go.Proofs.YtfbjgbecabbdnaaGreatDoor
theorem atFindLines_1_0_1_1 : findLinesAt 1 0 1 true = true := by kernel_rfl
theorem atFindLines_2_1_3_1 : findLinesAt 2 1 3 true = true := by kernel_rfl
theorem atFindLines_3_1_1_1 : findLinesAt 3 1 1 true = true := by kernel_rfl
theorem atFindLines_3_4_1_1 : findLinesAt 3 4 1 true = true := by kernel_rfl
theorem atFindLines_4_1_5_1 : findLinesAt 4 1 5 true = true := by kernel_rfl
theorem atFindLines_4_4_2_1 : findLinesAt 4 4 2 true = true := by kernel_rfl
theorem atFindLines_5_0_5_1 : findLinesAt 5 0 5 true = true := by kernel_rfl
theorem atFindLines_5_2_6_1 : findLinesAt 5 2 6 true = true := by kernel_rfl
theorem atFindLines_5_5_0_1 : findLinesAt 5 5 0 true = true := by kernel_rfl
end Go.Proofs.YtfbjgbecabbdnaaGreatDoor

import Derived.Test.YtfbjgbecabbdnaaGreatDoorFl19
/- FindLines: some cases. -/
set_option maxRecDepth 1000000
namespace Go.Proofs.YtfbjgbecabbdnaaGreatDoor
theorem atFindLines_1_1_2_1 : findLinesAt 1 1 2 true = true := by kernel_rfl
theorem atFindLines_2_2_3_1 : findLinesAt 2 2 3 true = true := by kernel_rfl
theorem atFindLines_3_2_0_1 : findLinesAt 3 2 0 true = true := by kernel_rfl
theorem atFindLines_4_0_0_1 : findLinesAt 4 0 0 true = true := by kernel_rfl
theorem atFindLines_4_2_3_1 : findLinesAt 4 2 3 true = true := by kernel_rfl
theorem atFindLines_4_5_0_1 : findLinesAt 4 5 0 true = true := by kernel_rfl
theorem atFindLines_5_1_2_1 : findLinesAt 5 1 2 true = true := by kernel_rfl
theorem atFindLines_5_3_3_1 : findLinesAt 5 3 3 true = true := by kernel_rfl
theorem atFindLines_5_5_4_1 : findLinesAt 5 5 4 true = true := by kernel_rfl
end Go.Proofs.YtfbjgbecabbdnaaGreatDoor

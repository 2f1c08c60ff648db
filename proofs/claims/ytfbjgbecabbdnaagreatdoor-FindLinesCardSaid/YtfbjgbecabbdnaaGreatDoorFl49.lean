import Derived.Test.YtfbjgbecabbdnaaGreatDoorFl19
/- FindLines: some cases. -/
set_option maxRecDepth 1000000
namespace Go.Proofs.YtfbjgbecabbdnaaGreatDoor
theorem atFindLines_2_0_1_1 : findLinesAt 2 0 1 true = true := by kernel_rfl
theorem atFindLines_3_0_0_1 : findLinesAt 3 0 0 true = true := by kernel_rfl
theorem atFindLines_3_3_0_1 : findLinesAt 3 3 0 true = true := by kernel_rfl
theorem atFindLines_4_0_5_1 : findLinesAt 4 0 5 true = true := by kernel_rfl
theorem atFindLines_4_3_2_1 : findLinesAt 4 3 2 true = true := by kernel_rfl
theorem atFindLines_4_5_5_1 : findLinesAt 4 5 5 true = true := by kernel_rfl
theorem atFindLines_5_2_0_1 : findLinesAt 5 2 0 true = true := by kernel_rfl
theorem atFindLines_5_4_1_1 : findLinesAt 5 4 1 true = true := by kernel_rfl
theorem atFindLines_5_6_2_1 : findLinesAt 5 6 2 true = true := by kernel_rfl
end Go.Proofs.YtfbjgbecabbdnaaGreatDoor

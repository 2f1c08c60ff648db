import Derived.Test.YtfbjgbecabbdnaaGreatDoorFl19
/- FindLines: some cases. -/
set_option maxRecDepth 1000000
namespace Go.Proofs.YtfbjgbecabbdnaaGreatDoor
theorem atFindLines_0_1_1_0 : findLinesAt 0 1 1 false = true := by kernel_rfl
theorem atFindLines_2_1_1_0 : findLinesAt 2 1 1 false = true := by kernel_rfl
theorem atFindLines_3_0_4_0 : findLinesAt 3 0 4 false = true := by kernel_rfl
theorem atFindLines_3_3_4_0 : findLinesAt 3 3 4 false = true := by kernel_rfl
theorem atFindLines_4_1_3_0 : findLinesAt 4 1 3 false = true := by kernel_rfl
theorem atFindLines_4_4_0_0 : findLinesAt 4 4 0 false = true := by kernel_rfl
theorem atFindLines_5_0_3_0 : findLinesAt 5 0 3 false = true := by kernel_rfl
theorem atFindLines_5_2_4_0 : findLinesAt 5 2 4 false = true := by kernel_rfl
theorem atFindLines_5_4_5_0 : findLinesAt 5 4 5 false = true := by kernel_rfl
theorem atFindLines_5_6_6_0 : findLinesAt 5 6 6 false = true := by kernel_rfl
end Go.Proofs.YtfbjgbecabbdnaaGreatDoor

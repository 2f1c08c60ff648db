import Derived.Test.YtfbjgbecabbdnaaGreatDoorFl19
/- FindLines: some cases. -/
set_option maxRecDepth 1000000
namespace Go.Proofs.YtfbjgbecabbdnaaGreatDoor
theorem atFindLines_0_0_0_0 : findLinesAt 0 0 0 false = true := by kernel_rfl
theorem atFindLines_2_0_2_0 : findLinesAt 2 0 2 false = true := by kernel_rfl
theorem atFindLines_3_0_1_0 : findLinesAt 3 0 1 false = true := by kernel_rfl
theorem atFindLines_3_3_1_0 : findLinesAt 3 3 1 false = true := by kernel_rfl
theorem atFindLines_4_1_0_0 : findLinesAt 4 1 0 false = true := by kernel_rfl
theorem atFindLines_4_3_3_0 : findLinesAt 4 3 3 false = true := by kernel_rfl
theorem atFindLines_5_0_0_0 : findLinesAt 5 0 0 false = true := by kernel_rfl
theorem atFindLines_5_2_1_0 : findLinesAt 5 2 1 false = true := by kernel_rfl
theorem atFindLines_5_4_2_0 : findLinesAt 5 4 2 false = true := by kernel_rfl
theorem atFindLines_5_6_3_0 : findLinesAt 5 6 3 false = true := by kernel_rfl
end Go.Proofs.YtfbjgbecabbdnaaGreatDoor

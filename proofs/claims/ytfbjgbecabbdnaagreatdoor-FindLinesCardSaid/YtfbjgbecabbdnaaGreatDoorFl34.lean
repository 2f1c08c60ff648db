import Derived.Test.YtfbjgbecabbdnaaGreatDoorFl19
/- FindLines: some cases. -/
set_option maxRecDepth 1000000
namespace Go.Proofs.YtfbjgbecabbdnaaGreatDoor
theorem atFindLines_1_1_0_0 : findLinesAt 1 1 0 false = true := by kernel_rfl
theorem atFindLines_2_2_1_0 : findLinesAt 2 2 1 false = true := by kernel_rfl
theorem atFindLines_3_1_3_0 : findLinesAt 3 1 3 false = true := by kernel_rfl
theorem atFindLines_3_4_3_0 : findLinesAt 3 4 3 false = true := by kernel_rfl
theorem atFindLines_4_2_1_0 : findLinesAt 4 2 1 false = true := by kernel_rfl
theorem atFindLines_4_4_4_0 : findLinesAt 4 4 4 false = true := by kernel_rfl
theorem atFindLines_5_1_0_0 : findLinesAt 5 1 0 false = true := by kernel_rfl
theorem atFindLines_5_3_1_0 : findLinesAt 5 3 1 false = true := by kernel_rfl
theorem atFindLines_5_5_2_0 : findLinesAt 5 5 2 false = true := by kernel_rfl
end Go.Proofs.YtfbjgbecabbdnaaGreatDoor

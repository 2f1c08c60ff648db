import Derived.Test.YtfbjgbecabbdnaaGreatDoorFl19
/- FindLines: some cases. -/
set_option maxRecDepth 1000000
namespace Go.Proofs.YtfbjgbecabbdnaaGreatDoor
theorem atFindLines_1_0_1_0 : findLinesAt 1 0 1 false = true := by kernel_rfl
theorem atFindLines_2_1_3_0 : findLinesAt 2 1 3 false = true := by kernel_rfl
theorem atFindLines_3_1_1_0 : findLinesAt 3 1 1 false = true := by kernel_rfl
theorem atFindLines_3_4_1_0 : findLinesAt 3 4 1 false = true := by kernel_rfl
theorem atFindLines_4_1_5_0 : findLinesAt 4 1 5 false = true := by kernel_rfl
theorem atFindLines_4_4_2_0 : findLinesAt 4 4 2 false = true := by kernel_rfl
theorem atFindLines_5_0_5_0 : findLinesAt 5 0 5 false = true := by kernel_rfl
theorem atFindLines_5_2_6_0 : findLinesAt 5 2 6 false = true := by kernel_rfl
theorem atFindLines_5_5_0_0 : findLinesAt 5 5 0 false = true := by kernel_rfl
end Go.Proofs.YtfbjgbecabbdnaaGreatDoor

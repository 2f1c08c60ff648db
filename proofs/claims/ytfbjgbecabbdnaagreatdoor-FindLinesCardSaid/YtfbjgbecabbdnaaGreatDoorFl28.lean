import Derived.Test.YtfbjgbecabbdnaaGreatDoorFl19
/- FindLines: some cases. -/
set_option maxRecDepth 1000000
namespace Go.Proofs.YtfbjgbecabbdnaaGreatDoor
theorem atFindLines_1_0_0_0 : findLinesAt 1 0 0 false = true := by kernel_rfl
theorem atFindLines_2_1_2_0 : findLinesAt 2 1 2 false = true := by kernel_rfl
theorem atFindLines_3_1_0_0 : findLinesAt 3 1 0 false = true := by kernel_rfl
theorem atFindLines_3_4_0_0 : findLinesAt 3 4 0 false = true := by kernel_rfl
theorem atFindLines_4_1_4_0 : findLinesAt 4 1 4 false = true := by kernel_rfl
theorem atFindLines_4_4_1_0 : findLinesAt 4 4 1 false = true := by kernel_rfl
theorem atFindLines_5_0_4_0 : findLinesAt 5 0 4 false = true := by kernel_rfl
theorem atFindLines_5_2_5_0 : findLinesAt 5 2 5 false = true := by kernel_rfl
theorem atFindLines_5_4_6_0 : findLinesAt 5 4 6 false = true := by kernel_rfl
end Go.Proofs.YtfbjgbecabbdnaaGreatDoor

import Derived.Test.YtfbjgbecabbdnaaGreatDoorFl19
/- FindLines: some cases. -/
set_option maxRecDepth 1000000
namespace Go.Proofs.YtfbjgbecabbdnaaGreatDoor
theorem atFindLines_1_2_0_0 : findLinesAt 1 2 0 false = true := by kernel_rfl
theorem atFindLines_2_3_0_0 : findLinesAt 2 3 0 false = true := by kernel_rfl
theorem atFindLines_3_2_1_0 : findLinesAt 3 2 1 false = true := by kernel_rfl
theorem atFindLines_4_0_1_0 : findLinesAt 4 0 1 false = true := by kernel_rfl
theorem atFindLines_4_2_4_0 : findLinesAt 4 2 4 false = true := by kernel_rfl
theorem atFindLines_4_5_1_0 : findLinesAt 4 5 1 false = true := by kernel_rfl
theorem atFindLines_5_1_3_0 : findLinesAt 5 1 3 false = true := by kernel_rfl
theorem atFindLines_5_3_4_0 : findLinesAt 5 3 4 false = true := by kernel_rfl
theorem atFindLines_5_5_5_0 : findLinesAt 5 5 5 false = true := by kernel_rfl
end Go.Proofs.YtfbjgbecabbdnaaGreatDoor

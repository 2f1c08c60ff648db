import Derived.Test.YtfbjgbecabbdnaaGreatDoorFl19
/- FindLines: some cases. -/
set_option maxRecDepth 1000000
namespace Go.Proofs.YtfbjgbecabbdnaaGreatDoor
theorem atFindLines_1_0_2_0 : findLinesAt 1 0 2 false = true := by kernel_rfl
theorem atFindLines_2_2_0_0 : findLinesAt 2 2 0 false = true := by kernel_rfl
theorem atFindLines_3_1_2_0 : findLinesAt 3 1 2 false = true := by kernel_rfl
theorem atFindLines_3_4_2_0 : findLinesAt 3 4 2 false = true := by kernel_rfl
theorem atFindLines_4_2_0_0 : findLinesAt 4 2 0 false = true := by kernel_rfl
theorem atFindLines_4_4_3_0 : findLinesAt 4 4 3 false = true := by kernel_rfl
theorem atFindLines_5_0_6_0 : findLinesAt 5 0 6 false = true := by kernel_rfl
theorem atFindLines_5_3_0_0 : findLinesAt 5 3 0 false = true := by kernel_rfl
theorem atFindLines_5_5_1_0 : findLinesAt 5 5 1 false = true := by kernel_rfl
end Go.Proofs.YtfbjgbecabbdnaaGreatDoor

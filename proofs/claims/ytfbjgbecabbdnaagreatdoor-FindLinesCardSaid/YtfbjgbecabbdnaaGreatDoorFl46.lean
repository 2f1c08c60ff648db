import Derived.Test.YtfbjgbecabbdnaaGreatDoorFl19
/- FindLines: some cases. -/
set_option maxRecDepth 1000000
namespace Go.Proofs.YtfbjgbecabbdnaaGreatDoor
theorem atFindLines_2_0_0_0 : findLinesAt 2 0 0 false = true := by kernel_rfl
theorem atFindLines_2_3_3_0 : findLinesAt 2 3 3 false = true := by kernel_rfl
theorem atFindLines_3_2_4_0 : findLinesAt 3 2 4 false = true := by kernel_rfl
theorem atFindLines_4_0_4_0 : findLinesAt 4 0 4 false = true := by kernel_rfl
theorem atFindLines_4_3_1_0 : findLinesAt 4 3 1 false = true := by kernel_rfl
theorem atFindLines_4_5_4_0 : findLinesAt 4 5 4 false = true := by kernel_rfl
theorem atFindLines_5_1_6_0 : findLinesAt 5 1 6 false = true := by kernel_rfl
theorem atFindLines_5_4_0_0 : findLinesAt 5 4 0 false = true := by kernel_rfl
theorem atFindLines_5_6_1_0 : findLinesAt 5 6 1 false = true := by kernel_rfl
end Go.Proofs.YtfbjgbecabbdnaaGreatDoor

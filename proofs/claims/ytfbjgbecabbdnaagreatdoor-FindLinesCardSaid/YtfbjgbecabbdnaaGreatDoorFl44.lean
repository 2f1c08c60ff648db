import Derived.Test.YtfbjgbecabbdnaaGreatDoorFl19
/- FindLines: some cases. -/
set_option maxRecDepth 1000000
namespace Go.Proofs.YtfbjgbecabbdnaaGreatDoor
theorem atFindLines_1_2_2_0 : findLinesAt 1 2 2 false = true := by kernel_rfl
theorem atFindLines_2_3_2_0 : findLinesAt 2 3 2 false = true := by kernel_rfl
theorem atFindLines_3_2_3_0 : findLinesAt 3 2 3 false = true := by kernel_rfl
theorem atFindLines_4_0_3_0 : findLinesAt 4 0 3 false = true := by kernel_rfl
theorem atFindLines_4_3_0_0 : findLinesAt 4 3 0 false = true := by kernel_rfl
theorem atFindLines_4_5_3_0 : findLinesAt 4 5 3 false = true := by kernel_rfl
theorem atFindLines_5_1_5_0 : findLinesAt 5 1 5 false = true := by kernel_rfl
theorem atFindLines_5_3_6_0 : findLinesAt 5 3 6 false = true := by kernel_rfl
theorem atFindLines_5_6_0_0 : findLinesAt 5 6 0 false = true := by kernel_rfl
end Go.Proofs.YtfbjgbecabbdnaaGreatDoor

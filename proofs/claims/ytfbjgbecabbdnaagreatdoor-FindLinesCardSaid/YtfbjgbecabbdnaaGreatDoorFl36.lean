import Derived.Test.YtfbjgbecabbdnaaGreatDoorFl19
/- FindLines: some cases. -/
set_option maxRecDepth 1000000
namespace Go.Proofs.YtfbjgbecabbdnaaGreatDoor
theorem atFindLines_1_1_1_0 : findLinesAt 1 1 1 false = true := by kernel_rfl
theorem atFindLines_2_2_2_0 : findLinesAt 2 2 2 false = true := by kernel_rfl
theorem atFindLines_3_1_4_0 : findLinesAt 3 1 4 false = true := by kernel_rfl
theorem atFindLines_3_4_4_0 : findLinesAt 3 4 4 false = true := by kernel_rfl
theorem atFindLines_4_2_2_0 : findLinesAt 4 2 2 false = true := by kernel_rfl
theorem atFindLines_4_4_5_0 : findLinesAt 4 4 5 false = true := by kernel_rfl
theorem atFindLines_5_1_1_0 : findLinesAt 5 1 1 false = true := by kernel_rfl
theorem atFindLines_5_3_2_0 : findLinesAt 5 3 2 false = true := by kernel_rfl
theorem atFindLines_5_5_3_0 : findLinesAt 5 5 3 false = true := by kernel_rfl
end Go.Proofs.YtfbjgbecabbdnaaGreatDoor

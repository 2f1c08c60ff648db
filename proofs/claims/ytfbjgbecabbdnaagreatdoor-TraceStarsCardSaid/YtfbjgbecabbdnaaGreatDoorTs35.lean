import Derived.Test.YtfbjgbecabbdnaaGreatDoorTs27
/- TraceStars: some cases. -/
set_option maxRecDepth 1000000
namespace Go.Proofs.YtfbjgbecabbdnaaGreatDoor
theorem atTraceStars_1_1_1 : traceStarsAt 1 1 true = true := by kernel_rfl
theorem atTraceStars_3_2_1 : traceStarsAt 3 2 true = true := by kernel_rfl
theorem atTraceStars_4_5_1 : traceStarsAt 4 5 true = true := by kernel_rfl
end Go.Proofs.YtfbjgbecabbdnaaGreatDoor

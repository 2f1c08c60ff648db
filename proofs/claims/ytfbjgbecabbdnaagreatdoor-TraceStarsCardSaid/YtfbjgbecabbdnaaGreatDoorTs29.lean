import Derived.Test.YtfbjgbecabbdnaaGreatDoorTs27
/- TraceStars: some cases. -/
set_option maxRecDepth 1000000
namespace Go.Proofs.YtfbjgbecabbdnaaGreatDoor
theorem atTraceStars_0_0_1 : traceStarsAt 0 0 true = true := by kernel_rfl
theorem atTraceStars_2_3_1 : traceStarsAt 2 3 true = true := by kernel_rfl
theorem atTraceStars_4_2_1 : traceStarsAt 4 2 true = true := by kernel_rfl
end Go.Proofs.YtfbjgbecabbdnaaGreatDoor

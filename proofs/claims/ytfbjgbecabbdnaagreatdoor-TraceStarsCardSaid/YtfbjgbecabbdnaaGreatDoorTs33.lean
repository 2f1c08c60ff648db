import Derived.Test.YtfbjgbecabbdnaaGreatDoorTs27
/- TraceStars: some cases. -/
set_option maxRecDepth 1000000
namespace Go.Proofs.YtfbjgbecabbdnaaGreatDoor
theorem atTraceStars_1_0_1 : traceStarsAt 1 0 true = true := by kernel_rfl
theorem atTraceStars_3_1_1 : traceStarsAt 3 1 true = true := by kernel_rfl
theorem atTraceStars_4_4_1 : traceStarsAt 4 4 true = true := by kernel_rfl
end Go.Proofs.YtfbjgbecabbdnaaGreatDoor

import Derived.Test.YtfbjgbecabbdnaaGreatDoorTs27
/- TraceStars: some cases. -/
set_option maxRecDepth 1000000
namespace Go.Proofs.YtfbjgbecabbdnaaGreatDoor
theorem atTraceStars_1_0_0 : traceStarsAt 1 0 false = true := by kernel_rfl
theorem atTraceStars_3_1_0 : traceStarsAt 3 1 false = true := by kernel_rfl
theorem atTraceStars_4_4_0 : traceStarsAt 4 4 false = true := by kernel_rfl
end Go.Proofs.YtfbjgbecabbdnaaGreatDoor

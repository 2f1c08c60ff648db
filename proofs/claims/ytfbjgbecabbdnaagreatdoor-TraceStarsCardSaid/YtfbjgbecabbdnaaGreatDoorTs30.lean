import Derived.Test.YtfbjgbecabbdnaaGreatDoorTs27
/- TraceStars: some cases. -/
set_option maxRecDepth 1000000
namespace Go.Proofs.YtfbjgbecabbdnaaGreatDoor
theorem atTraceStars_0_1_0 : traceStarsAt 0 1 false = true := by kernel_rfl
theorem atTraceStars_3_0_0 : traceStarsAt 3 0 false = true := by kernel_rfl
theorem atTraceStars_4_3_0 : traceStarsAt 4 3 false = true := by kernel_rfl
end Go.Proofs.YtfbjgbecabbdnaaGreatDoor

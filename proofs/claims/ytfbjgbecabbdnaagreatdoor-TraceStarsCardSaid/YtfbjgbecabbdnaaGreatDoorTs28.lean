import Derived.Test.YtfbjgbecabbdnaaGreatDoorTs27
/- TraceStars: some cases. -/
set_option maxRecDepth 1000000
namespace Go.Proofs.YtfbjgbecabbdnaaGreatDoor
theorem atTraceStars_0_0_0 : traceStarsAt 0 0 false = true := by kernel_rfl
theorem atTraceStars_2_3_0 : traceStarsAt 2 3 false = true := by kernel_rfl
theorem atTraceStars_4_2_0 : traceStarsAt 4 2 false = true := by kernel_rfl
end Go.Proofs.YtfbjgbecabbdnaaGreatDoor

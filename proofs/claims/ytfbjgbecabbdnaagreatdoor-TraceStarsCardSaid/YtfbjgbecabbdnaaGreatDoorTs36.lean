import Derived.Test.YtfbjgbecabbdnaaGreatDoorTs27
/- TraceStars: some cases. -/
set_option maxRecDepth 1000000
namespace Go.Proofs.YtfbjgbecabbdnaaGreatDoor
theorem atTraceStars_1_2_0 : traceStarsAt 1 2 false = true := by kernel_rfl
theorem atTraceStars_3_3_0 : traceStarsAt 3 3 false = true := by kernel_rfl
end Go.Proofs.YtfbjgbecabbdnaaGreatDoor

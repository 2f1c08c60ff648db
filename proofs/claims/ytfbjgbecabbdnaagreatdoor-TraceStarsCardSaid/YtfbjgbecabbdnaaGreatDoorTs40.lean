import Derived.Test.YtfbjgbecabbdnaaGreatDoorTs27
/- TraceStars: some cases. -/
set_option maxRecDepth 1000000
namespace Go.Proofs.YtfbjgbecabbdnaaGreatDoor
theorem atTraceStars_2_1_0 : traceStarsAt 2 1 false = true := by kernel_rfl
theorem atTraceStars_4_0_0 : traceStarsAt 4 0 false = true := by kernel_rfl
end Go.Proofs.YtfbjgbecabbdnaaGreatDoor

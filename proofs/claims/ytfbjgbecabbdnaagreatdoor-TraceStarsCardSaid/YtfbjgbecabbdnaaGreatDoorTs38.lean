import Derived.Test.YtfbjgbecabbdnaaGreatDoorTs27
/- TraceStars: some cases. -/
set_option maxRecDepth 1000000
namespace Go.Proofs.YtfbjgbecabbdnaaGreatDoor
theorem atTraceStars_2_0_0 : traceStarsAt 2 0 false = true := by kernel_rfl
theorem atTraceStars_3_4_0 : traceStarsAt 3 4 false = true := by kernel_rfl
end Go.Proofs.YtfbjgbecabbdnaaGreatDoor

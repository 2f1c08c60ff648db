import Derived.Test.YtfbjgbecabbdnaaGreatDoorTs27
/- TraceStars: some cases. -/
set_option maxRecDepth 1000000
namespace Go.Proofs.YtfbjgbecabbdnaaGreatDoor
theorem atTraceStars_2_2_0 : traceStarsAt 2 2 false = true := by kernel_rfl
theorem atTraceStars_4_1_0 : traceStarsAt 4 1 false = true := by kernel_rfl
end Go.Proofs.YtfbjgbecabbdnaaGreatDoor

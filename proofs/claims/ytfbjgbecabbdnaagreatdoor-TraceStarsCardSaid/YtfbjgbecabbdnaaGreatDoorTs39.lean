import Derived.Test.YtfbjgbecabbdnaaGreatDoorTs27
/- TraceStars: some cases. -/
set_option maxRecDepth 1000000
namespace Go.Proofs.YtfbjgbecabbdnaaGreatDoor
theorem atTraceStars_2_0_1 : traceStarsAt 2 0 true = true := by kernel_rfl
theorem atTraceStars_3_4_1 : traceStarsAt 3 4 true = true := by kernel_rfl
end Go.Proofs.YtfbjgbecabbdnaaGreatDoor

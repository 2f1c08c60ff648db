import Derived.Test.YtfbjgbecabbdnaaGreatDoorTs27
/- TraceStars: some cases. -/
set_option maxRecDepth 1000000
namespace Go.Proofs.YtfbjgbecabbdnaaGreatDoor
theorem atTraceStars_1_2_1 : traceStarsAt 1 2 true = true := by kernel_rfl
theorem atTraceStars_3_3_1 : traceStarsAt 3 3 true = true := by kernel_rfl
end Go.Proofs.YtfbjgbecabbdnaaGreatDoor

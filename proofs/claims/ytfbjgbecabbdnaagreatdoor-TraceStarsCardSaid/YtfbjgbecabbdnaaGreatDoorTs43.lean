import Derived.Test.YtfbjgbecabbdnaaGreatDoorTs27
/- TraceStars: some cases. -/
set_option maxRecDepth 1000000
namespace Go.Proofs.YtfbjgbecabbdnaaGreatDoor
theorem atTraceStars_2_2_1 : traceStarsAt 2 2 true = true := by kernel_rfl
theorem atTraceStars_4_1_1 : traceStarsAt 4 1 true = true := by kernel_rfl
end Go.Proofs.YtfbjgbecabbdnaaGreatDoor

import Derived.Test.YtfbjgbecabbdnaaGreatDoorTs27
/- TraceStars: some cases. -/
set_option maxRecDepth 1000000
namespace Go.Proofs.YtfbjgbecabbdnaaGreatDoor
theorem atTraceStars_1_1_0 : traceStarsAt 1 1 false = true := by kernel_rfl
theorem atTraceStars_3_2_0 : traceStarsAt 3 2 false = true := by kernel_rfl
theorem atTraceStars_4_5_0 : traceStarsAt 4 5 false = true := by kernel_rfl
end Go.Proofs.YtfbjgbecabbdnaaGreatDoor

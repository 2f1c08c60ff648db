import Derived.Test.YtfbjgbecabbdnaaGreatDoorSs25
/- SolveStars: some cases. -/
set_option maxRecDepth 1000000
namespace Go.Proofs.YtfbjgbecabbdnaaGreatDoor
theorem atSolveStars_3_4 : solveStarsAt 3 4 = true := by kernel_rfl
theorem atSolveStars_4_0 : solveStarsAt 4 0 = true := by kernel_rfl
end Go.Proofs.YtfbjgbecabbdnaaGreatDoor

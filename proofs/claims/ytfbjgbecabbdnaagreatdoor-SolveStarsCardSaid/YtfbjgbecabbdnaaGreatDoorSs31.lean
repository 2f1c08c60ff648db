import Derived.Test.YtfbjgbecabbdnaaGreatDoorSs25
/- SolveStars: some cases. -/
set_option maxRecDepth 1000000
namespace Go.Proofs.YtfbjgbecabbdnaaGreatDoor
theorem atSolveStars_0_0 : solveStarsAt 0 0 = true := by kernel_rfl
theorem atSolveStars_1_0 : solveStarsAt 1 0 = true := by kernel_rfl
theorem atSolveStars_4_5 : solveStarsAt 4 5 = true := by kernel_rfl
end Go.Proofs.YtfbjgbecabbdnaaGreatDoor

import Derived.Test.YtfbjgbecabbdnaaGreatDoorSs25
/- SolveStars: some cases. -/
set_option maxRecDepth 1000000
namespace Go.Proofs.YtfbjgbecabbdnaaGreatDoor
theorem atSolveStars_0_1 : solveStarsAt 0 1 = true := by kernel_rfl
theorem atSolveStars_1_1 : solveStarsAt 1 1 = true := by kernel_rfl
theorem atSolveStars_3_0 : solveStarsAt 3 0 = true := by kernel_rfl
theorem atSolveStars_3_2 : solveStarsAt 3 2 = true := by kernel_rfl
end Go.Proofs.YtfbjgbecabbdnaaGreatDoor

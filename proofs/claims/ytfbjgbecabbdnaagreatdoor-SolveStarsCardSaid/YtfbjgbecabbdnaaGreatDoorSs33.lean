import Derived.Test.YtfbjgbecabbdnaaGreatDoorSs25
/- SolveStars: some cases. -/
set_option maxRecDepth 1000000
namespace Go.Proofs.YtfbjgbecabbdnaaGreatDoor
theorem atSolveStars_1_2 : solveStarsAt 1 2 = true := by kernel_rfl
theorem atSolveStars_3_1 : solveStarsAt 3 1 = true := by kernel_rfl
theorem atSolveStars_3_3 : solveStarsAt 3 3 = true := by kernel_rfl
end Go.Proofs.YtfbjgbecabbdnaaGreatDoor

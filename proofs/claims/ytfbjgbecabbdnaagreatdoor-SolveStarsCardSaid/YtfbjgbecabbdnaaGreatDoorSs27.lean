import Derived.Test.YtfbjgbecabbdnaaGreatDoorSs25
/- SolveStars: some cases. -/
set_option maxRecDepth 1000000
namespace Go.Proofs.YtfbjgbecabbdnaaGreatDoor
theorem atSolveStars_2_0 : solveStarsAt 2 0 = true := by kernel_rfl
theorem atSolveStars_4_1 : solveStarsAt 4 1 = true := by kernel_rfl
end Go.Proofs.YtfbjgbecabbdnaaGreatDoor

import Derived.Test.YtfbjgbecabbdnaaGreatDoorSs25
/- SolveStars: some cases. -/
set_option maxRecDepth 1000000
namespace Go.Proofs.YtfbjgbecabbdnaaGreatDoor
theorem atSolveStars_2_1 : solveStarsAt 2 1 = true := by kernel_rfl
theorem atSolveStars_4_2 : solveStarsAt 4 2 = true := by kernel_rfl
end Go.Proofs.YtfbjgbecabbdnaaGreatDoor

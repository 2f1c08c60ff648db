import Derived.Test.YtfbjgbecabbdnaaGreatDoorSs25
/- SolveStars: some cases. -/
set_option maxRecDepth 1000000
namespace Go.Proofs.YtfbjgbecabbdnaaGreatDoor
theorem atSolveStars_2_2 : solveStarsAt 2 2 = true := by kernel_rfl
theorem atSolveStars_4_3 : solveStarsAt 4 3 = true := by kernel_rfl
end Go.Proofs.YtfbjgbecabbdnaaGreatDoor

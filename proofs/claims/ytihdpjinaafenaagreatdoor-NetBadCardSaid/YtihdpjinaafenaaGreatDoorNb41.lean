import Derived.Test.YtihdpjinaafenaaGreatDoorNb33
noncomputable section
/- A part of a call. -/
set_option linter.unusedVariables false
set_option maxRecDepth 1000000
namespace Go.Proofs.YtihdpjinaafenaaGreatDoor
open Sl Ce
theorem nf_e7:isTrue (at_ nflit6.st (denI 1000000 nf_cf nf_body (κc nflit7 nfold7) noη 4)) = true:=by kernel_rfl
end Go.Proofs.YtihdpjinaafenaaGreatDoor

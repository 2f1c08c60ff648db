import Derived.Test.YtihdpjinaafenaaGreatDoorNb33
noncomputable section
/- A part of a call. -/
set_option linter.unusedVariables false
set_option maxRecDepth 1000000
namespace Go.Proofs.YtihdpjinaafenaaGreatDoor
open Sl Ce
theorem nf_e10:isTrue (at_ nflit9.st (denI 1000000 nf_cf nf_body no4 (fun i=>Bool.rec no4 (κc nflit10 nfold10) (Nat.beq i 0)) 5)) = true:=by kernel_rfl
end Go.Proofs.YtihdpjinaafenaaGreatDoor

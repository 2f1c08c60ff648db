import Derived.Test.YtihdpjinaafenaaGreatDoorNb33
noncomputable section
/- A part of a call. -/
set_option linter.unusedVariables false
set_option maxRecDepth 1000000
namespace Go.Proofs.YtihdpjinaafenaaGreatDoor
open Sl Ce
theorem nf_e0:isTrue (at_ s00 (denL 1000000 nf_cf no4 nf_pre (κc nflit0 nfold0))) = true:=by kernel_rfl
end Go.Proofs.YtihdpjinaafenaaGreatDoor

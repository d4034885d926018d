import Derived.Test.YtgoalfkgbiblgaaGreatDoorRows
import Derived.Test.YtgoalfkgbiblgaaGreatDoorChecked
import Derived.SevenTiedAt
import Derived.ProofKit
/- DiffZones: the closed facts of its card. -/
set_option linter.unusedVariables false
set_option linter.unusedSimpArgs false
namespace Go.Proofs.YtgoalfkgbiblgaaGreatDoor
open Go.ChangeShapes
namespace fnExactDiffZones
theorem cg0:Rows.fnExactDiffZonesRow.wfByText (OpenSpec.ofChange Rows.fnExactDiffZonesSpec)=true:=by kernel_rfl
theorem cg1:Tryz.prog.mainIs=some (true,"911277b934ae2d7977b85624798bab25d6d051184fabbbc0f19c5dd959c453f6".toList):=by kernel_rfl
theorem cg2:false=Tryz.prog.looks []:=by kernel_rfl
theorem cg3:false=Rows.fnExactDiffZonesRow.goesBy Tryz.prog:=by kernel_rfl
end fnExactDiffZones
end Go.Proofs.YtgoalfkgbiblgaaGreatDoor

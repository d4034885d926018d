import Derived.Test.YtgoalfkgbiblgaaGreatDoorKb17
import Derived.Test.YtgoalfkgbiblgaaGreatDoorKb18
import Derived.Test.YtgoalfkgbiblgaaGreatDoorCards
import Derived.Test.YtgoalfkgbiblgaaGreatDoorTie
/- The law of DiffZones returns true whatever its arguments, two zones, and leaves them and the table of forms as they were. No condition beyond the given statement. -/
set_option linter.unusedVariables false
set_option linter.unusedSimpArgs false
namespace Go.Proofs.YtgoalfkgbiblgaaGreatDoor
open Go.ChangeShapes Go.WideShapes Go.ChangeAt Go.RowKit
namespace fnExactDiffZones
theorem fnm:Tryz.prog.funcNamed "loop.example/s01858/laws.FnExactDiffZones" =some 4:=by kernel_rfl
theorem hall:([24,24].all fun u=> !Tryz.prog.wantsStandIn u)=true:=by kernel_rfl
theorem proved:Rows.FnExactDiffZonesCardSaid:=
 Claim7.holds_tied_plain_at .later [] [.mapped] true (true,"911277b934ae2d7977b85624798bab25d6d051184fabbbc0f19c5dd959c453f6") false
  said (fun _ h=>by cases h) cg0 (fun _ h=>by cases h) fnExactDiffZones_row_tie rfl ⟨rfl,rfl⟩ cg1 rfl
  (fun f fn hf hfn=>by
   obtain rfl:f=4:=Option.some.inj (fnm.symm.trans hf) |>.symm
   obtain rfl:fn=Tryz.f4:=(Option.some.inj (Tryz.func4.symm.trans hfn)).symm
   exact ⟨cg2,fun j t ht=>by
    rw [Tryz.params4] at ht;have hm:t∈[24,24]:=by simpa using Array.mem_of_getElem? ht
    exact (show Tryz.prog.wantsStandIn t=false by simpa using List.all_eq_true.1 hall t hm)⟩)
  cg3
end fnExactDiffZones
end Go.Proofs.YtgoalfkgbiblgaaGreatDoor

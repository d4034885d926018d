import Derived.Test.YtgoalfkgbiblgaaGreatDoorKa17
import Derived.Test.YtgoalfkgbiblgaaGreatDoorKa18
import Derived.Test.YtgoalfkgbiblgaaGreatDoorCards
import Derived.Test.YtgoalfkgbiblgaaGreatDoorTie
/- The law of StartSecondary returns true whatever its arguments, a zone and a time, and leaves them and the table of forms as they were. No condition beyond the given statement. -/
set_option linter.unusedVariables false
set_option linter.unusedSimpArgs false
namespace Go.Proofs.YtgoalfkgbiblgaaGreatDoor
open Go.ChangeShapes Go.WideShapes Go.ChangeAt Go.RowKit
namespace fnExactStartSecondary
theorem fnm:Tryz.prog.funcNamed "loop.example/s01858/laws.FnExactStartSecondary" =some 3:=by kernel_rfl
theorem hall:([24,2].all fun u=> !Tryz.prog.wantsStandIn u)=true:=by kernel_rfl
theorem proved:Rows.FnExactStartSecondaryCardSaid:=
 Claim7.holds_tied_plain_at .later [] [.mapped] true (true,"911277b934ae2d7977b85624798bab25d6d051184fabbbc0f19c5dd959c453f6") false
  said (fun _ h=>by cases h) cg0 (fun _ h=>by cases h) fnExactStartSecondary_row_tie rfl ⟨rfl,rfl⟩ cg1 rfl
  (fun f fn hf hfn=>by
   obtain rfl:f=3:=Option.some.inj (fnm.symm.trans hf) |>.symm
   obtain rfl:fn=Tryz.f3:=(Option.some.inj (Tryz.func3.symm.trans hfn)).symm
   exact ⟨cg2,fun j t ht=>by
    rw [Tryz.params3] at ht
    have hm:t∈[24,2]:=by simpa using Array.mem_of_getElem? ht
    exact (show Tryz.prog.wantsStandIn t=false by simpa using List.all_eq_true.1 hall t hm)⟩)
  cg3
end fnExactStartSecondary
end Go.Proofs.YtgoalfkgbiblgaaGreatDoor

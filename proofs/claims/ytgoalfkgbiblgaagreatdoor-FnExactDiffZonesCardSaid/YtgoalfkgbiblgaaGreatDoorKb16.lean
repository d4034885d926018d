import Derived.Test.YtgoalfkgbiblgaaGreatDoorRows
import Derived.Test.YtgoalfkgbiblgaaGreatDoorChecked
import Derived.JoinedOf
import Derived.ProofKit
/- FnExactDiffZones: the closed facts of its row. -/
set_option linter.unusedVariables false
set_option linter.unusedSimpArgs false
namespace Go.Proofs.YtgoalfkgbiblgaaGreatDoor
open Go.ChangeShapes
namespace fnExactDiffZones
theorem cf0:(Rows.fnExactDiffZonesRow.wf (OpenSpec.ofChange Rows.fnExactDiffZonesSpec))=true:=by kernel_rfl
theorem cf1:(laidOutB Tryz.prog)=true:=by kernel_rfl
theorem cf2:(mapsRowed Tryz.prog)=true:=by kernel_rfl
theorem cf3:(Tryz.f4.params.all (Tryz.prog.readableRec ·))=true:=by kernel_rfl
theorem cf4:(namedTie Tryz.prog Rows.fnExactDiffZonesRow.named Rows.fnExactDiffZonesSpec.vars)=true:=by kernel_rfl
theorem cf5:((Rows.fnExactDiffZonesRow.stops== []))=true:=by kernel_rfl
theorem cf6:((Tryz.prog.stops== []))=true:=by kernel_rfl
theorem cf7:((Rows.fnExactDiffZonesRow.knobs== []))=true:=by kernel_rfl
theorem cf8:((Tryz.prog.stopKnobs== []))=true:=by kernel_rfl
theorem cf9:((Rows.fnExactDiffZonesRow.inPlace==Tryz.prog.inPlace 4))=true:=by kernel_rfl
theorem Jxe:((Rows.fnExactDiffZonesRow.unfollowed==Tryz.prog.unfollowed 4))=true:=by kernel_rfl
theorem Jxb:((Rows.fnExactDiffZonesRow.recurses==Tryz.prog.recurses 4))=true:=by kernel_rfl
theorem Jxc:((Rows.fnExactDiffZonesRow.named==Tryz.prog.varsNamed 4))=true:=by kernel_rfl
theorem Jw3:((Rows.fnExactDiffZonesRow.maps== (Tryz.f4.params.toList++Rows.fnExactDiffZonesSpec.plain.varTypes Tryz.prog).any (Tryz.prog.mapsRec ·)))=true:=by kernel_rfl
theorem JwN:((Rows.fnExactDiffZonesRow.ifaces== (Tryz.f4.params.toList++Rows.fnExactDiffZonesSpec.plain.varTypes Tryz.prog).any (Tryz.prog.ifacesRec ·)))=true:=by kernel_rfl
theorem JwO:((Rows.fnExactDiffZonesRow.mapsOut==Tryz.prog.mapsAmong Tryz.f4.resultTypes.toList))=true:=by kernel_rfl
theorem Jxa:((Rows.fnExactDiffZonesRow.loops== (Tryz.f4.params.toList++Rows.fnExactDiffZonesSpec.plain.varTypes Tryz.prog).any (Tryz.prog.loopsFrom ·)))=true:=by kernel_rfl
theorem JwR:((Rows.fnExactDiffZonesRow.wideKeys== (Tryz.f4.params.toList++Rows.fnExactDiffZonesSpec.plain.varTypes Tryz.prog++Tryz.f4.resultTypes.toList).any (Tryz.prog.wideKeysFrom ·)))=true:=by kernel_rfl
theorem JwV:(Rows.fnExactDiffZonesSpec.vars.all (Tryz.prog.varReadable ·))=true:=by kernel_rfl
theorem JwK:(Tryz.f4.resultTypes.all (fun t=>Tryz.prog.readableRec t&&decide (t < Tryz.prog.types.size)))=true:=by kernel_rfl
theorem Jw6:((Rows.fnExactDiffZonesRow.ifacesOut==Tryz.f4.resultTypes.toList.any (Tryz.prog.ifacesRec ·)))=true:=by kernel_rfl
theorem JwT:((Rows.fnExactDiffZonesRow.loopsOut==Tryz.f4.resultTypes.toList.any (Tryz.prog.loopsFrom ·)))=true:=by kernel_rfl
theorem Jw7:((Rows.fnExactDiffZonesRow.plainKeys==Tryz.prog.plainKeys))=true:=by kernel_rfl
theorem JwW:(Rows.fnExactDiffZonesRow.shortTexts.isNone)=true:=by kernel_rfl
theorem Jw0:(Tryz.prog.stopsHeard)=true:=by kernel_rfl
theorem JwL:(Tryz.prog.mayEnter)=true:=by kernel_rfl
theorem JwY:((Rows.fnExactDiffZonesRow.lifted==Tryz.prog.liftsFinal))=true:=by kernel_rfl
theorem Jw8:((Tryz.prog.make==some Rows.fnExactDiffZonesRow.make))=true:=by kernel_rfl
theorem JwG:((Rows.fnExactDiffZonesRow.pinned==Rows.fnExactDiffZonesRow.pinnedBy))=true:=by kernel_rfl
theorem Jw2:((Rows.fnExactDiffZonesRow.veiled== (Tryz.f4.params.toList++Rows.fnExactDiffZonesSpec.plain.varTypes Tryz.prog++Tryz.f4.resultTypes.toList).any (Tryz.prog.veiledRec ·)))=true:=by kernel_rfl
theorem JwJ:(Rows.fnExactDiffZonesRow.veiledFits Tryz.prog Tryz.f4.params.toList (Tryz.f4.params.toList++Rows.fnExactDiffZonesSpec.plain.varTypes Tryz.prog++Tryz.f4.resultTypes.toList))=true:=by kernel_rfl
theorem closed:joinedFacts Tryz.pinned.checked.prog 4 Tryz.f4 Rows.fnExactDiffZonesSpec Rows.fnExactDiffZonesRow=true:=by
 show joinedFacts Tryz.prog 4 Tryz.f4 Rows.fnExactDiffZonesSpec Rows.fnExactDiffZonesRow=true
 unfold joinedFacts;simp only [Bool.and_eq_true];exact ⟨⟨⟨⟨⟨⟨⟨⟨⟨⟨⟨⟨⟨⟨⟨⟨⟨⟨⟨⟨⟨⟨⟨⟨⟨⟨⟨⟨⟨⟨⟨cf0,cf1⟩,cf2⟩,cf3⟩,cf4⟩,cf5⟩,cf6⟩,cf7⟩,cf8⟩,cf9⟩,Jxe⟩,Jxb⟩,Jxc⟩,Jw3⟩,JwN⟩,JwO⟩,Jxa⟩,JwR⟩,JwV⟩,JwK⟩,Jw6⟩,JwT⟩,Jw7⟩,JwW⟩,Jw0⟩,JwL⟩,JwY⟩,Jw8⟩,(by as_aux_lemma=>kernel_rfl)⟩,JwG⟩,Jw2⟩,JwJ⟩
end fnExactDiffZones
end Go.Proofs.YtgoalfkgbiblgaaGreatDoor

import Derived.Test.YtgoalfkgbiblgaaGreatDoorRows
import Derived.Test.YtgoalfkgbiblgaaGreatDoorChecked
import Derived.JoinedOf
import Derived.ProofKit
/- FnExactStartSecondary: the closed facts of its row. -/
set_option linter.unusedVariables false
set_option linter.unusedSimpArgs false
namespace Go.Proofs.YtgoalfkgbiblgaaGreatDoor
open Go.ChangeShapes
namespace fnExactStartSecondary
theorem cf0:(Rows.fnExactStartSecondaryRow.wf (OpenSpec.ofChange Rows.fnExactStartSecondarySpec))=true:=by kernel_rfl
theorem cf1:(laidOutB Tryz.prog)=true:=by kernel_rfl
theorem cf2:(mapsRowed Tryz.prog)=true:=by kernel_rfl
theorem cf3:(Tryz.f3.params.all (Tryz.prog.readableRec ·))=true:=by kernel_rfl
theorem cf4:(namedTie Tryz.prog Rows.fnExactStartSecondaryRow.named Rows.fnExactStartSecondarySpec.vars)=true:=by kernel_rfl
theorem cf5:((Rows.fnExactStartSecondaryRow.stops== []))=true:=by kernel_rfl
theorem cf6:((Tryz.prog.stops== []))=true:=by kernel_rfl
theorem cf7:((Rows.fnExactStartSecondaryRow.knobs== []))=true:=by kernel_rfl
theorem cf8:((Tryz.prog.stopKnobs== []))=true:=by kernel_rfl
theorem cf9:((Rows.fnExactStartSecondaryRow.inPlace==Tryz.prog.inPlace 3))=true:=by kernel_rfl
theorem Jxe:((Rows.fnExactStartSecondaryRow.unfollowed==Tryz.prog.unfollowed 3))=true:=by kernel_rfl
theorem Jxb:((Rows.fnExactStartSecondaryRow.recurses==Tryz.prog.recurses 3))=true:=by kernel_rfl
theorem Jxc:((Rows.fnExactStartSecondaryRow.named==Tryz.prog.varsNamed 3))=true:=by kernel_rfl
theorem Jw3:((Rows.fnExactStartSecondaryRow.maps== (Tryz.f3.params.toList++Rows.fnExactStartSecondarySpec.plain.varTypes Tryz.prog).any (Tryz.prog.mapsRec ·)))=true:=by kernel_rfl
theorem JwN:((Rows.fnExactStartSecondaryRow.ifaces== (Tryz.f3.params.toList++Rows.fnExactStartSecondarySpec.plain.varTypes Tryz.prog).any (Tryz.prog.ifacesRec ·)))=true:=by kernel_rfl
theorem JwO:((Rows.fnExactStartSecondaryRow.mapsOut==Tryz.prog.mapsAmong Tryz.f3.resultTypes.toList))=true:=by kernel_rfl
theorem Jxa:((Rows.fnExactStartSecondaryRow.loops== (Tryz.f3.params.toList++Rows.fnExactStartSecondarySpec.plain.varTypes Tryz.prog).any (Tryz.prog.loopsFrom ·)))=true:=by kernel_rfl
theorem JwR:((Rows.fnExactStartSecondaryRow.wideKeys== (Tryz.f3.params.toList++Rows.fnExactStartSecondarySpec.plain.varTypes Tryz.prog++Tryz.f3.resultTypes.toList).any (Tryz.prog.wideKeysFrom ·)))=true:=by kernel_rfl
theorem JwV:(Rows.fnExactStartSecondarySpec.vars.all (Tryz.prog.varReadable ·))=true:=by kernel_rfl
theorem JwK:(Tryz.f3.resultTypes.all (fun t=>Tryz.prog.readableRec t&&decide (t < Tryz.prog.types.size)))=true:=by kernel_rfl
theorem Jw6:((Rows.fnExactStartSecondaryRow.ifacesOut==Tryz.f3.resultTypes.toList.any (Tryz.prog.ifacesRec ·)))=true:=by kernel_rfl
theorem JwT:((Rows.fnExactStartSecondaryRow.loopsOut==Tryz.f3.resultTypes.toList.any (Tryz.prog.loopsFrom ·)))=true:=by kernel_rfl
theorem Jw7:((Rows.fnExactStartSecondaryRow.plainKeys==Tryz.prog.plainKeys))=true:=by kernel_rfl
theorem JwW:(Rows.fnExactStartSecondaryRow.shortTexts.isNone)=true:=by kernel_rfl
theorem Jw0:(Tryz.prog.stopsHeard)=true:=by kernel_rfl
theorem JwL:(Tryz.prog.mayEnter)=true:=by kernel_rfl
theorem JwY:((Rows.fnExactStartSecondaryRow.lifted==Tryz.prog.liftsFinal))=true:=by kernel_rfl
theorem Jw8:((Tryz.prog.make==some Rows.fnExactStartSecondaryRow.make))=true:=by kernel_rfl
theorem JwG:((Rows.fnExactStartSecondaryRow.pinned==Rows.fnExactStartSecondaryRow.pinnedBy))=true:=by kernel_rfl
theorem Jw2:((Rows.fnExactStartSecondaryRow.veiled== (Tryz.f3.params.toList++Rows.fnExactStartSecondarySpec.plain.varTypes Tryz.prog++Tryz.f3.resultTypes.toList).any (Tryz.prog.veiledRec ·)))=true:=by kernel_rfl
theorem JwJ:(Rows.fnExactStartSecondaryRow.veiledFits Tryz.prog Tryz.f3.params.toList (Tryz.f3.params.toList++Rows.fnExactStartSecondarySpec.plain.varTypes Tryz.prog++Tryz.f3.resultTypes.toList))=true:=by kernel_rfl
theorem closed:joinedFacts Tryz.pinned.checked.prog 3 Tryz.f3 Rows.fnExactStartSecondarySpec Rows.fnExactStartSecondaryRow=true:=by
 show joinedFacts Tryz.prog 3 Tryz.f3 Rows.fnExactStartSecondarySpec Rows.fnExactStartSecondaryRow=true
 unfold joinedFacts
 simp only [Bool.and_eq_true]
 exact ⟨⟨⟨⟨⟨⟨⟨⟨⟨⟨⟨⟨⟨⟨⟨⟨⟨⟨⟨⟨⟨⟨⟨⟨⟨⟨⟨⟨⟨⟨⟨cf0,cf1⟩,cf2⟩,cf3⟩,cf4⟩,cf5⟩,cf6⟩,cf7⟩,cf8⟩,cf9⟩,Jxe⟩,Jxb⟩,Jxc⟩,Jw3⟩,JwN⟩,JwO⟩,Jxa⟩,JwR⟩,JwV⟩,JwK⟩,Jw6⟩,JwT⟩,Jw7⟩,JwW⟩,Jw0⟩,JwL⟩,JwY⟩,Jw8⟩,(by as_aux_lemma=>kernel_rfl)⟩,JwG⟩,Jw2⟩,JwJ⟩
end fnExactStartSecondary
end Go.Proofs.YtgoalfkgbiblgaaGreatDoor

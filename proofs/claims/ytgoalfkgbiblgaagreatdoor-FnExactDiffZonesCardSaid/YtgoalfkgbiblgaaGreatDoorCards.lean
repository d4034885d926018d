/-
  DERIVED. GIVEN WITH THE SEED: THE CARDS: each row of YtgoalfkgbiblgaaGreatDoorRows.lean that lists a variable, with what it lists TIED to the program's text (the seventh form; the later family's looks); each row that meets fmt, with fmt's text TOLD by the authors' own Lean function (tested against real Go, not proved from fmt's source: count such statements apart). THE CARD IS WHAT COUNTS. Prove the row's statement (the work); the ties are given (YtgoalfkgbiblgaaGreatDoorTie.lean); close each card by the builder's one call (the guide's Derived/Test/ToyasCard.lean, 'card_holds'). Laid BY PROGRAM, IN A SANDBOX (cutbox-door.mjs). By AI agents, Wed Nov 11 2026. No macro, syntax, notation, axiom, sorry.
-/
import Derived.Test.YtgoalfkgbiblgaaGreatDoorRows
import GoSem.ClaimSeven
namespace Go.Proofs.YtgoalfkgbiblgaaGreatDoor
namespace Rows

/-- THE TIED CARD OF 'laws.FnExactStartSecondary'. -/
def fnExactStartSecondaryCard : Claim7 := { stood := { row := fnExactStartSecondaryRow, standIns := [], harness := (true, "911277b934ae2d7977b85624798bab25d6d051184fabbbc0f19c5dd959c453f6"), looks := false }, kinds := [], alts := [], laidByText := true, laidKinds := [.mapped], laidTests := true, laidLooks := .later }
def FnExactStartSecondaryCardSaid : Prop := Claim7.holds Tryz.pinned (.plain (OpenSpec.ofChange fnExactStartSecondarySpec)) fnExactStartSecondaryCard

/-- THE TIED CARD OF 'laws.FnExactDiffZones'. -/
def fnExactDiffZonesCard : Claim7 := { stood := { row := fnExactDiffZonesRow, standIns := [], harness := (true, "911277b934ae2d7977b85624798bab25d6d051184fabbbc0f19c5dd959c453f6"), looks := false }, kinds := [], alts := [], laidByText := true, laidKinds := [.mapped], laidTests := true, laidLooks := .later }
def FnExactDiffZonesCardSaid : Prop := Claim7.holds Tryz.pinned (.plain (OpenSpec.ofChange fnExactDiffZonesSpec)) fnExactDiffZonesCard

/-- THE TIED CARD OF 'laws.FnExactCheckConditions'. -/
def fnExactCheckConditionsCard : Claim7 := { stood := { row := fnExactCheckConditionsRow, standIns := [], harness := (true, "911277b934ae2d7977b85624798bab25d6d051184fabbbc0f19c5dd959c453f6"), looks := false }, kinds := [], alts := [], laidByText := true, laidKinds := [.mapped], laidTests := true, laidLooks := .later }
def FnExactCheckConditionsCardSaid : Prop := Claim7.holds Tryz.pinned (.plain (OpenSpec.ofChange fnExactCheckConditionsSpec)) fnExactCheckConditionsCard

/-- THE TIED CARD OF 'laws.FnExactPatchZone'. -/
def fnExactPatchZoneCard : Claim7 := { stood := { row := fnExactPatchZoneRow, standIns := [], harness := (true, "911277b934ae2d7977b85624798bab25d6d051184fabbbc0f19c5dd959c453f6"), looks := false }, kinds := [], alts := [], laidByText := true, laidKinds := [.mapped], laidTests := true, laidLooks := .later }
def FnExactPatchZoneCardSaid : Prop := Claim7.holds Tryz.pinned (.plain (OpenSpec.ofChange fnExactPatchZoneSpec)) fnExactPatchZoneCard

/-- THE TIED CARD OF 'laws.FnExactLookStep'. -/
def fnExactLookStepCard : Claim7 := { stood := { row := fnExactLookStepRow, standIns := [], harness := (true, "911277b934ae2d7977b85624798bab25d6d051184fabbbc0f19c5dd959c453f6"), looks := false }, kinds := [], alts := [], laidByText := true, laidKinds := [.mapped], laidTests := true, laidLooks := .later }
def FnExactLookStepCardSaid : Prop := Claim7.holds Tryz.pinned (.plain (OpenSpec.ofChange fnExactLookStepSpec)) fnExactLookStepCard

/-- THE TIED CARD OF 'laws.FnExactTransferOut'. -/
def fnExactTransferOutCard : Claim7 := { stood := { row := fnExactTransferOutRow, standIns := [], harness := (true, "911277b934ae2d7977b85624798bab25d6d051184fabbbc0f19c5dd959c453f6"), looks := false }, kinds := [], alts := [], laidByText := true, laidKinds := [.mapped], laidTests := true, laidLooks := .later }
def FnExactTransferOutCardSaid : Prop := Claim7.holds Tryz.pinned (.plain (OpenSpec.ofChange fnExactTransferOutSpec)) fnExactTransferOutCard

/-- THE TIED CARD OF 'laws.FnExactZoneNames'. -/
def fnExactZoneNamesCard : Claim7 := { stood := { row := fnExactZoneNamesRow, standIns := [], harness := (true, "911277b934ae2d7977b85624798bab25d6d051184fabbbc0f19c5dd959c453f6"), looks := false }, kinds := [], alts := [], laidByText := true, laidKinds := [.mapped], laidTests := true, laidLooks := .later }
def FnExactZoneNamesCardSaid : Prop := Claim7.holds Tryz.pinned (.plain (OpenSpec.ofChange fnExactZoneNamesSpec)) fnExactZoneNamesCard

/-- THE TIED CARD OF 'laws.FnExactTickSecondary'. -/
def fnExactTickSecondaryCard : Claim7 := { stood := { row := fnExactTickSecondaryRow, standIns := [], harness := (true, "911277b934ae2d7977b85624798bab25d6d051184fabbbc0f19c5dd959c453f6"), looks := false }, kinds := [], alts := [], laidByText := true, laidKinds := [.mapped], laidTests := true, laidLooks := .later }
def FnExactTickSecondaryCardSaid : Prop := Claim7.holds Tryz.pinned (.plain (OpenSpec.ofChange fnExactTickSecondarySpec)) fnExactTickSecondaryCard

/-- THE TIED CARD OF 'laws.FnExactDenyProof'. -/
def fnExactDenyProofCard : Claim7 := { stood := { row := fnExactDenyProofRow, standIns := [], harness := (true, "911277b934ae2d7977b85624798bab25d6d051184fabbbc0f19c5dd959c453f6"), looks := false }, kinds := [], alts := [], laidByText := true, laidKinds := [.mapped], laidTests := true, laidLooks := .later }
def FnExactDenyProofCardSaid : Prop := Claim7.holds Tryz.pinned (.plain (OpenSpec.ofChange fnExactDenyProofSpec)) fnExactDenyProofCard

/-- THE TIED CARD OF 'laws.FnExactChainZone'. -/
def fnExactChainZoneCard : Claim7 := { stood := { row := fnExactChainZoneRow, standIns := [], harness := (true, "911277b934ae2d7977b85624798bab25d6d051184fabbbc0f19c5dd959c453f6"), looks := false }, kinds := [], alts := [], laidByText := true, laidKinds := [.mapped], laidTests := true, laidLooks := .later }
def FnExactChainZoneCardSaid : Prop := Claim7.holds Tryz.pinned (.plain (OpenSpec.ofChange fnExactChainZoneSpec)) fnExactChainZoneCard

/-- THE TIED CARD OF 'laws.FnExactResolve'. -/
def fnExactResolveCard : Claim7 := { stood := { row := fnExactResolveRow, standIns := [], harness := (true, "911277b934ae2d7977b85624798bab25d6d051184fabbbc0f19c5dd959c453f6"), looks := false }, kinds := [], alts := [], laidByText := true, laidKinds := [.mapped], laidTests := true, laidLooks := .later }
def FnExactResolveCardSaid : Prop := Claim7.holds Tryz.pinned (.plain (OpenSpec.ofChange fnExactResolveSpec)) fnExactResolveCard

/-- THE TIED CARD OF 'laws.FnExactApplyChanges'. -/
def fnExactApplyChangesCard : Claim7 := { stood := { row := fnExactApplyChangesRow, standIns := [], harness := (true, "911277b934ae2d7977b85624798bab25d6d051184fabbbc0f19c5dd959c453f6"), looks := false }, kinds := [], alts := [], laidByText := true, laidKinds := [.mapped], laidTests := true, laidLooks := .later }
def FnExactApplyChangesCardSaid : Prop := Claim7.holds Tryz.pinned (.plain (OpenSpec.ofChange fnExactApplyChangesSpec)) fnExactApplyChangesCard

/-- THE SECOND FORM's CARD OF 'laws.FnExactStartSecondary'. -/
def fnExactStartSecondaryUptoCard : Claim7 := { stood := { row := fnExactStartSecondaryUptoRow, standIns := [], harness := (true, "911277b934ae2d7977b85624798bab25d6d051184fabbbc0f19c5dd959c453f6"), looks := false }, kinds := [], alts := [], laidByText := true, laidKinds := [.mapped], laidTests := true, laidLooks := .later }
def FnExactStartSecondaryUptoCardSaid : Prop := Claim7.holds Tryz.pinned (.plain (OpenSpec.upto fnExactStartSecondarySpec)) fnExactStartSecondaryUptoCard

/-- THE SECOND FORM's CARD OF 'laws.FnExactDiffZones'. -/
def fnExactDiffZonesUptoCard : Claim7 := { stood := { row := fnExactDiffZonesUptoRow, standIns := [], harness := (true, "911277b934ae2d7977b85624798bab25d6d051184fabbbc0f19c5dd959c453f6"), looks := false }, kinds := [], alts := [], laidByText := true, laidKinds := [.mapped], laidTests := true, laidLooks := .later }
def FnExactDiffZonesUptoCardSaid : Prop := Claim7.holds Tryz.pinned (.plain (OpenSpec.upto fnExactDiffZonesSpec)) fnExactDiffZonesUptoCard

/-- THE SECOND FORM's CARD OF 'laws.FnExactCheckConditions'. -/
def fnExactCheckConditionsUptoCard : Claim7 := { stood := { row := fnExactCheckConditionsUptoRow, standIns := [], harness := (true, "911277b934ae2d7977b85624798bab25d6d051184fabbbc0f19c5dd959c453f6"), looks := false }, kinds := [], alts := [], laidByText := true, laidKinds := [.mapped], laidTests := true, laidLooks := .later }
def FnExactCheckConditionsUptoCardSaid : Prop := Claim7.holds Tryz.pinned (.plain (OpenSpec.upto fnExactCheckConditionsSpec)) fnExactCheckConditionsUptoCard

/-- THE SECOND FORM's CARD OF 'laws.FnExactPatchZone'. -/
def fnExactPatchZoneUptoCard : Claim7 := { stood := { row := fnExactPatchZoneUptoRow, standIns := [], harness := (true, "911277b934ae2d7977b85624798bab25d6d051184fabbbc0f19c5dd959c453f6"), looks := false }, kinds := [], alts := [], laidByText := true, laidKinds := [.mapped], laidTests := true, laidLooks := .later }
def FnExactPatchZoneUptoCardSaid : Prop := Claim7.holds Tryz.pinned (.plain (OpenSpec.upto fnExactPatchZoneSpec)) fnExactPatchZoneUptoCard

/-- THE SECOND FORM's CARD OF 'laws.FnExactLookStep'. -/
def fnExactLookStepUptoCard : Claim7 := { stood := { row := fnExactLookStepUptoRow, standIns := [], harness := (true, "911277b934ae2d7977b85624798bab25d6d051184fabbbc0f19c5dd959c453f6"), looks := false }, kinds := [], alts := [], laidByText := true, laidKinds := [.mapped], laidTests := true, laidLooks := .later }
def FnExactLookStepUptoCardSaid : Prop := Claim7.holds Tryz.pinned (.plain (OpenSpec.upto fnExactLookStepSpec)) fnExactLookStepUptoCard

/-- THE SECOND FORM's CARD OF 'laws.FnExactTransferOut'. -/
def fnExactTransferOutUptoCard : Claim7 := { stood := { row := fnExactTransferOutUptoRow, standIns := [], harness := (true, "911277b934ae2d7977b85624798bab25d6d051184fabbbc0f19c5dd959c453f6"), looks := false }, kinds := [], alts := [], laidByText := true, laidKinds := [.mapped], laidTests := true, laidLooks := .later }
def FnExactTransferOutUptoCardSaid : Prop := Claim7.holds Tryz.pinned (.plain (OpenSpec.upto fnExactTransferOutSpec)) fnExactTransferOutUptoCard

/-- THE SECOND FORM's CARD OF 'laws.FnExactZoneNames'. -/
def fnExactZoneNamesUptoCard : Claim7 := { stood := { row := fnExactZoneNamesUptoRow, standIns := [], harness := (true, "911277b934ae2d7977b85624798bab25d6d051184fabbbc0f19c5dd959c453f6"), looks := false }, kinds := [], alts := [], laidByText := true, laidKinds := [.mapped], laidTests := true, laidLooks := .later }
def FnExactZoneNamesUptoCardSaid : Prop := Claim7.holds Tryz.pinned (.plain (OpenSpec.upto fnExactZoneNamesSpec)) fnExactZoneNamesUptoCard

/-- THE SECOND FORM's CARD OF 'laws.FnExactTickSecondary'. -/
def fnExactTickSecondaryUptoCard : Claim7 := { stood := { row := fnExactTickSecondaryUptoRow, standIns := [], harness := (true, "911277b934ae2d7977b85624798bab25d6d051184fabbbc0f19c5dd959c453f6"), looks := false }, kinds := [], alts := [], laidByText := true, laidKinds := [.mapped], laidTests := true, laidLooks := .later }
def FnExactTickSecondaryUptoCardSaid : Prop := Claim7.holds Tryz.pinned (.plain (OpenSpec.upto fnExactTickSecondarySpec)) fnExactTickSecondaryUptoCard

/-- THE SECOND FORM's CARD OF 'laws.FnExactDenyProof'. -/
def fnExactDenyProofUptoCard : Claim7 := { stood := { row := fnExactDenyProofUptoRow, standIns := [], harness := (true, "911277b934ae2d7977b85624798bab25d6d051184fabbbc0f19c5dd959c453f6"), looks := false }, kinds := [], alts := [], laidByText := true, laidKinds := [.mapped], laidTests := true, laidLooks := .later }
def FnExactDenyProofUptoCardSaid : Prop := Claim7.holds Tryz.pinned (.plain (OpenSpec.upto fnExactDenyProofSpec)) fnExactDenyProofUptoCard

/-- THE SECOND FORM's CARD OF 'laws.FnExactChainZone'. -/
def fnExactChainZoneUptoCard : Claim7 := { stood := { row := fnExactChainZoneUptoRow, standIns := [], harness := (true, "911277b934ae2d7977b85624798bab25d6d051184fabbbc0f19c5dd959c453f6"), looks := false }, kinds := [], alts := [], laidByText := true, laidKinds := [.mapped], laidTests := true, laidLooks := .later }
def FnExactChainZoneUptoCardSaid : Prop := Claim7.holds Tryz.pinned (.plain (OpenSpec.upto fnExactChainZoneSpec)) fnExactChainZoneUptoCard

/-- THE SECOND FORM's CARD OF 'laws.FnExactResolve'. -/
def fnExactResolveUptoCard : Claim7 := { stood := { row := fnExactResolveUptoRow, standIns := [], harness := (true, "911277b934ae2d7977b85624798bab25d6d051184fabbbc0f19c5dd959c453f6"), looks := false }, kinds := [], alts := [], laidByText := true, laidKinds := [.mapped], laidTests := true, laidLooks := .later }
def FnExactResolveUptoCardSaid : Prop := Claim7.holds Tryz.pinned (.plain (OpenSpec.upto fnExactResolveSpec)) fnExactResolveUptoCard

/-- THE SECOND FORM's CARD OF 'laws.FnExactApplyChanges'. -/
def fnExactApplyChangesUptoCard : Claim7 := { stood := { row := fnExactApplyChangesUptoRow, standIns := [], harness := (true, "911277b934ae2d7977b85624798bab25d6d051184fabbbc0f19c5dd959c453f6"), looks := false }, kinds := [], alts := [], laidByText := true, laidKinds := [.mapped], laidTests := true, laidLooks := .later }
def FnExactApplyChangesUptoCardSaid : Prop := Claim7.holds Tryz.pinned (.plain (OpenSpec.upto fnExactApplyChangesSpec)) fnExactApplyChangesUptoCard
end Rows
end Go.Proofs.YtgoalfkgbiblgaaGreatDoor

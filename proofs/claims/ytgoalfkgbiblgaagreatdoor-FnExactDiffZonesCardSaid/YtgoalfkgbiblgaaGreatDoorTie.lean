/-
  DERIVED. GIVEN WITH THE SEED: THE PROGRAM's TIES (one call each: nine closed facts by the kernel) AND EACH ROW's TIE, after the 31st guide's Derived/Test/Toyas{Tie, Card}.lean. No idea stands in it: it is a product of the set-up. Laid BY PROGRAM, IN A SANDBOX (cutbox-door.mjs). By AI agents, Wed Nov 11 2026. No macro, syntax, notation, axiom, sorry.
-/
import Derived.Test.YtgoalfkgbiblgaaGreatDoorRows
import Derived.LaidByTextLater
import Derived.SevenTiedAt
import Derived.LaidSub
import Derived.LaidOnce
namespace Go.Proofs.YtgoalfkgbiblgaaGreatDoor
open Go
set_option maxRecDepth 100000
theorem seatTie1 : Tryz.prog.laidByTextLater [("loop.example/s01858/impl.forms", Rows.laid_loop_example_s01858_impl_forms)] [.mapped] true :=
  Program.laidByTextLater_by_one 84 8 2 (by kernel_rfl) (by kernel_rfl) (by kernel_rfl) (by kernel_rfl) (by kernel_rfl) (by kernel_rfl) (fun _ _ => by kernel_rfl)
theorem noOwnUnsafe : Tryz.pinned.checked.prog.headLifts.contains "ownunsafe" = false := by kernel_rfl
theorem tie : Tryz.prog.laidByTextLater [("loop.example/s01858/impl.forms", Rows.laid_loop_example_s01858_impl_forms)] [.mapped] true :=
  Program.laidByTextLater.sub seatTie1 ["loop.example/s01858/impl.forms"] (by kernel_rfl) (by kernel_rfl)
theorem fnExactStartSecondary_row_tie : Rows.fnExactStartSecondaryRow.laidByTextAt .later Tryz.pinned [.mapped] true :=
  OpenClaim.laidByTextAt_later rfl rfl tie noOwnUnsafe
theorem fnExactDiffZones_row_tie : Rows.fnExactDiffZonesRow.laidByTextAt .later Tryz.pinned [.mapped] true :=
  OpenClaim.laidByTextAt_later rfl rfl tie noOwnUnsafe
theorem fnExactCheckConditions_row_tie : Rows.fnExactCheckConditionsRow.laidByTextAt .later Tryz.pinned [.mapped] true :=
  OpenClaim.laidByTextAt_later rfl rfl tie noOwnUnsafe
theorem fnExactPatchZone_row_tie : Rows.fnExactPatchZoneRow.laidByTextAt .later Tryz.pinned [.mapped] true :=
  OpenClaim.laidByTextAt_later rfl rfl tie noOwnUnsafe
theorem fnExactLookStep_row_tie : Rows.fnExactLookStepRow.laidByTextAt .later Tryz.pinned [.mapped] true :=
  OpenClaim.laidByTextAt_later rfl rfl tie noOwnUnsafe
theorem fnExactTransferOut_row_tie : Rows.fnExactTransferOutRow.laidByTextAt .later Tryz.pinned [.mapped] true :=
  OpenClaim.laidByTextAt_later rfl rfl tie noOwnUnsafe
theorem fnExactZoneNames_row_tie : Rows.fnExactZoneNamesRow.laidByTextAt .later Tryz.pinned [.mapped] true :=
  OpenClaim.laidByTextAt_later rfl rfl tie noOwnUnsafe
theorem fnExactTickSecondary_row_tie : Rows.fnExactTickSecondaryRow.laidByTextAt .later Tryz.pinned [.mapped] true :=
  OpenClaim.laidByTextAt_later rfl rfl tie noOwnUnsafe
theorem fnExactDenyProof_row_tie : Rows.fnExactDenyProofRow.laidByTextAt .later Tryz.pinned [.mapped] true :=
  OpenClaim.laidByTextAt_later rfl rfl tie noOwnUnsafe
theorem fnExactChainZone_row_tie : Rows.fnExactChainZoneRow.laidByTextAt .later Tryz.pinned [.mapped] true :=
  OpenClaim.laidByTextAt_later rfl rfl tie noOwnUnsafe
theorem fnExactResolve_row_tie : Rows.fnExactResolveRow.laidByTextAt .later Tryz.pinned [.mapped] true :=
  OpenClaim.laidByTextAt_later rfl rfl tie noOwnUnsafe
theorem fnExactApplyChanges_row_tie : Rows.fnExactApplyChangesRow.laidByTextAt .later Tryz.pinned [.mapped] true :=
  OpenClaim.laidByTextAt_later rfl rfl tie noOwnUnsafe
theorem fnExactStartSecondaryUpto_row_tie : Rows.fnExactStartSecondaryUptoRow.laidByTextAt .later Tryz.pinned [.mapped] true :=
  OpenClaim.laidByTextAt_later rfl rfl tie noOwnUnsafe
theorem fnExactDiffZonesUpto_row_tie : Rows.fnExactDiffZonesUptoRow.laidByTextAt .later Tryz.pinned [.mapped] true :=
  OpenClaim.laidByTextAt_later rfl rfl tie noOwnUnsafe
theorem fnExactCheckConditionsUpto_row_tie : Rows.fnExactCheckConditionsUptoRow.laidByTextAt .later Tryz.pinned [.mapped] true :=
  OpenClaim.laidByTextAt_later rfl rfl tie noOwnUnsafe
theorem fnExactPatchZoneUpto_row_tie : Rows.fnExactPatchZoneUptoRow.laidByTextAt .later Tryz.pinned [.mapped] true :=
  OpenClaim.laidByTextAt_later rfl rfl tie noOwnUnsafe
theorem fnExactLookStepUpto_row_tie : Rows.fnExactLookStepUptoRow.laidByTextAt .later Tryz.pinned [.mapped] true :=
  OpenClaim.laidByTextAt_later rfl rfl tie noOwnUnsafe
theorem fnExactTransferOutUpto_row_tie : Rows.fnExactTransferOutUptoRow.laidByTextAt .later Tryz.pinned [.mapped] true :=
  OpenClaim.laidByTextAt_later rfl rfl tie noOwnUnsafe
theorem fnExactZoneNamesUpto_row_tie : Rows.fnExactZoneNamesUptoRow.laidByTextAt .later Tryz.pinned [.mapped] true :=
  OpenClaim.laidByTextAt_later rfl rfl tie noOwnUnsafe
theorem fnExactTickSecondaryUpto_row_tie : Rows.fnExactTickSecondaryUptoRow.laidByTextAt .later Tryz.pinned [.mapped] true :=
  OpenClaim.laidByTextAt_later rfl rfl tie noOwnUnsafe
theorem fnExactDenyProofUpto_row_tie : Rows.fnExactDenyProofUptoRow.laidByTextAt .later Tryz.pinned [.mapped] true :=
  OpenClaim.laidByTextAt_later rfl rfl tie noOwnUnsafe
theorem fnExactChainZoneUpto_row_tie : Rows.fnExactChainZoneUptoRow.laidByTextAt .later Tryz.pinned [.mapped] true :=
  OpenClaim.laidByTextAt_later rfl rfl tie noOwnUnsafe
theorem fnExactResolveUpto_row_tie : Rows.fnExactResolveUptoRow.laidByTextAt .later Tryz.pinned [.mapped] true :=
  OpenClaim.laidByTextAt_later rfl rfl tie noOwnUnsafe
theorem fnExactApplyChangesUpto_row_tie : Rows.fnExactApplyChangesUptoRow.laidByTextAt .later Tryz.pinned [.mapped] true :=
  OpenClaim.laidByTextAt_later rfl rfl tie noOwnUnsafe
end Go.Proofs.YtgoalfkgbiblgaaGreatDoor

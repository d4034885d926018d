/-
  NARROWER THAN 'FOR EVERY INPUT', by the rows' own cells (each row's printed sentence says how): FnExactStartSecondary: maps, laid · FnExactDiffZones: maps, laid · FnExactCheckConditions: maps, laid · FnExactPatchZone: maps, laid · FnExactLookStep: maps, laid · FnExactTransferOut: maps, laid · FnExactZoneNames: maps, laid · FnExactTickSecondary: maps, laid · FnExactDenyProof: maps, laid · FnExactChainZone: maps, laid · FnExactResolve: maps, laid · FnExactApplyChanges: maps, laid.
  DERIVED. THE GIVEN ROWS OF THIS SEAT. 12 by the template 'for every input the law returns true; each argument reads behind the call as it read before'; 0 by the template 'total and deterministic' (their statements: YtgoalfkgbiblgaaGreatDoorTotals.lean).
  GIVEN WITH THE SEED: the statements are not yours to turn. If you find one false, say at which input.
  Laid BY PROGRAM, IN A SANDBOX (cutbox-rows.mjs): the forced cells as the released guide's own fill.sh prints them over the translation 15e94fd37f3a759b… (all of the seat's roots in one cut). By AI agents, Wed Nov 11 2026. No macro, syntax, notation, axiom, sorry.
-/
import Derived.Test.YtgoalfkgbiblgaaGreatDoorChecked
import GoSem.Claim
import GoSem.ClaimJoined
import GoSem.ClaimMapViews
import Derived.JoinedTies
import Derived.KernelRfl
namespace Go.Proofs.YtgoalfkgbiblgaaGreatDoor
/- THE CELL 'sum', in the pinned program and in every row, IS THE sha256 OF THE DUMP (.gsa) THAT YtgoalfkgbiblgaaGreatDoorProg.lean LOADS. Nothing in Lean hashes anything: it is a label: what it is worth is what the hold of that sum in a sandbox is worth. -/
noncomputable def Tryz.pinned : Pinned := { name := "ytgoalfkgbiblgaagreatdoor", sum := "15e94fd37f3a759be7fb4c3ada62be007d9de537e87f2e10b853b44cf68a8b81", checked := Tryz.checked }
namespace Rows
def none {H : Type} : Left H := { results := [], args := [] }

/- WHAT THE LISTED PACKAGE-LEVEL VARIABLES READ AS WHEN THE CALL BEGINS. Each datum BY PROGRAM (the guide's laid-datum.mjs) off the statement by which the dump's own 'gosem.cut.vars' lays the variable. In a bare row this is a premise. The card (YtgoalfkgbiblgaaGreatDoorCards.lean) ties it to the program's text. -/
def laid_loop_example_s01858_impl_forms {H : Type} : DataW H := .map [(.int .i64 1, .lit (.string [52])), (.int .i64 2, .lit (.string [110])), (.int .i64 5, .lit (.string [110])), (.int .i64 6, .lit (.string [110, 110, 103, 103, 103, 103, 113])), (.int .i64 12, .lit (.string [110])), (.int .i64 13, .lit (.string [116, 116])), (.int .i64 15, .lit (.string [50, 110])), (.int .i64 16, .lit (.string [84])), (.int .i64 28, .lit (.string [103, 103, 103, 103])), (.int .i64 33, .lit (.string [50, 50, 50, 110])), (.int .i64 35, .lit (.string [50, 50, 116, 116, 116, 110])), (.int .i64 39, .lit (.string [110])), (.int .i64 47, .lit (.string [110, 109])), (.int .i64 257, .lit (.string [49, 99, 42]))]

/-- 'laws.FnExactStartSecondary': WHATEVER THE INPUT: true; the input reads as it did. -/
def fnExactStartSecondarySpec : ChangeSpec := { name := "fnExactStartSecondary", vars := ["loop.example/s01858/impl.forms"], fn := fun _ => fun
  | [d1, d2, g1] => { results := [.lit (.bool true)], args := [d1, d2], vars := [g1] }
  | _ => none }
def fnExactStartSecondaryRow : OpenClaim := { program := "ytgoalfkgbiblgaagreatdoor", sum := "15e94fd37f3a759be7fb4c3ada62be007d9de537e87f2e10b853b44cf68a8b81", func := "loop.example/s01858/laws.FnExactStartSecondary", spec := "fnExactStartSecondary", inPlace := ["internal/abi.NoEscape", "internal/bytealg.abigen_runtime_cmpstring", "internal/reflectlite.ValueOf", "internal/reflectlite.Swapper", "(internal/reflectlite.Value).Len"], unfollowed := true, recurses := true, named := ["loop.example/s01858/impl.forms", "encoding/binary.BigEndian"], maps := true, plainKeys := false, apart := false, laid := [("loop.example/s01858/impl.forms", laid_loop_example_s01858_impl_forms)] }
def FnExactStartSecondarySaid : Prop := fnExactStartSecondaryRow.holds Tryz.pinned (OpenSpec.ofChange fnExactStartSecondarySpec)

/-- ITS FALSE NEIGHBOUR: 'it returns false'. Refute it at one input. -/
def fnExactStartSecondaryWrong : ChangeSpec := { name := "fnExactStartSecondary", vars := ["loop.example/s01858/impl.forms"], fn := fun _ => fun
  | [d1, d2, g1] => { results := [.lit (.bool false)], args := [d1, d2], vars := [g1] }
  | _ => none }
def FnExactStartSecondaryWrongFalsely : Prop := fnExactStartSecondaryRow.holds Tryz.pinned (OpenSpec.ofChange fnExactStartSecondaryWrong)

/-- 'laws.FnExactDiffZones': WHATEVER THE INPUT: true; the input reads as it did. -/
def fnExactDiffZonesSpec : ChangeSpec := { name := "fnExactDiffZones", vars := ["loop.example/s01858/impl.forms"], fn := fun _ => fun
  | [d1, d2, g1] => { results := [.lit (.bool true)], args := [d1, d2], vars := [g1] }
  | _ => none }
def fnExactDiffZonesRow : OpenClaim := { program := "ytgoalfkgbiblgaagreatdoor", sum := "15e94fd37f3a759be7fb4c3ada62be007d9de537e87f2e10b853b44cf68a8b81", func := "loop.example/s01858/laws.FnExactDiffZones", spec := "fnExactDiffZones", inPlace := ["internal/abi.NoEscape", "internal/bytealg.abigen_runtime_cmpstring", "internal/reflectlite.ValueOf", "internal/reflectlite.Swapper", "(internal/reflectlite.Value).Len"], unfollowed := true, recurses := true, named := ["loop.example/s01858/impl.forms", "encoding/binary.BigEndian"], maps := true, plainKeys := false, apart := false, laid := [("loop.example/s01858/impl.forms", laid_loop_example_s01858_impl_forms)] }
def FnExactDiffZonesSaid : Prop := fnExactDiffZonesRow.holds Tryz.pinned (OpenSpec.ofChange fnExactDiffZonesSpec)

/-- ITS FALSE NEIGHBOUR: 'it returns false'. Refute it at one input. -/
def fnExactDiffZonesWrong : ChangeSpec := { name := "fnExactDiffZones", vars := ["loop.example/s01858/impl.forms"], fn := fun _ => fun
  | [d1, d2, g1] => { results := [.lit (.bool false)], args := [d1, d2], vars := [g1] }
  | _ => none }
def FnExactDiffZonesWrongFalsely : Prop := fnExactDiffZonesRow.holds Tryz.pinned (OpenSpec.ofChange fnExactDiffZonesWrong)

/-- 'laws.FnExactCheckConditions': WHATEVER THE INPUT: true; the input reads as it did. -/
def fnExactCheckConditionsSpec : ChangeSpec := { name := "fnExactCheckConditions", vars := ["loop.example/s01858/impl.forms"], fn := fun _ => fun
  | [d1, d2, g1] => { results := [.lit (.bool true)], args := [d1, d2], vars := [g1] }
  | _ => none }
def fnExactCheckConditionsRow : OpenClaim := { program := "ytgoalfkgbiblgaagreatdoor", sum := "15e94fd37f3a759be7fb4c3ada62be007d9de537e87f2e10b853b44cf68a8b81", func := "loop.example/s01858/laws.FnExactCheckConditions", spec := "fnExactCheckConditions", inPlace := ["internal/abi.NoEscape", "internal/bytealg.abigen_runtime_cmpstring", "internal/reflectlite.ValueOf", "internal/reflectlite.Swapper", "(internal/reflectlite.Value).Len"], unfollowed := true, recurses := true, named := ["loop.example/s01858/impl.forms"], maps := true, plainKeys := false, apart := false, laid := [("loop.example/s01858/impl.forms", laid_loop_example_s01858_impl_forms)] }
def FnExactCheckConditionsSaid : Prop := fnExactCheckConditionsRow.holds Tryz.pinned (OpenSpec.ofChange fnExactCheckConditionsSpec)

/-- ITS FALSE NEIGHBOUR: 'it returns false'. Refute it at one input. -/
def fnExactCheckConditionsWrong : ChangeSpec := { name := "fnExactCheckConditions", vars := ["loop.example/s01858/impl.forms"], fn := fun _ => fun
  | [d1, d2, g1] => { results := [.lit (.bool false)], args := [d1, d2], vars := [g1] }
  | _ => none }
def FnExactCheckConditionsWrongFalsely : Prop := fnExactCheckConditionsRow.holds Tryz.pinned (OpenSpec.ofChange fnExactCheckConditionsWrong)

/-- 'laws.FnExactPatchZone': WHATEVER THE INPUT: true; the input reads as it did. -/
def fnExactPatchZoneSpec : ChangeSpec := { name := "fnExactPatchZone", vars := ["loop.example/s01858/impl.forms"], fn := fun _ => fun
  | [d1, d2, g1] => { results := [.lit (.bool true)], args := [d1, d2], vars := [g1] }
  | _ => none }
def fnExactPatchZoneRow : OpenClaim := { program := "ytgoalfkgbiblgaagreatdoor", sum := "15e94fd37f3a759be7fb4c3ada62be007d9de537e87f2e10b853b44cf68a8b81", func := "loop.example/s01858/laws.FnExactPatchZone", spec := "fnExactPatchZone", inPlace := ["internal/abi.NoEscape", "internal/bytealg.abigen_runtime_cmpstring", "internal/reflectlite.ValueOf", "internal/reflectlite.Swapper", "(internal/reflectlite.Value).Len"], unfollowed := true, recurses := true, named := ["loop.example/s01858/impl.forms", "encoding/binary.BigEndian"], maps := true, plainKeys := false, apart := false, laid := [("loop.example/s01858/impl.forms", laid_loop_example_s01858_impl_forms)] }
def FnExactPatchZoneSaid : Prop := fnExactPatchZoneRow.holds Tryz.pinned (OpenSpec.ofChange fnExactPatchZoneSpec)

/-- ITS FALSE NEIGHBOUR: 'it returns false'. Refute it at one input. -/
def fnExactPatchZoneWrong : ChangeSpec := { name := "fnExactPatchZone", vars := ["loop.example/s01858/impl.forms"], fn := fun _ => fun
  | [d1, d2, g1] => { results := [.lit (.bool false)], args := [d1, d2], vars := [g1] }
  | _ => none }
def FnExactPatchZoneWrongFalsely : Prop := fnExactPatchZoneRow.holds Tryz.pinned (OpenSpec.ofChange fnExactPatchZoneWrong)

/-- 'laws.FnExactLookStep': WHATEVER THE INPUT: true; the input reads as it did. -/
def fnExactLookStepSpec : ChangeSpec := { name := "fnExactLookStep", vars := ["loop.example/s01858/impl.forms"], fn := fun _ => fun
  | [d1, d2, d3, g1] => { results := [.lit (.bool true)], args := [d1, d2, d3], vars := [g1] }
  | _ => none }
def fnExactLookStepRow : OpenClaim := { program := "ytgoalfkgbiblgaagreatdoor", sum := "15e94fd37f3a759be7fb4c3ada62be007d9de537e87f2e10b853b44cf68a8b81", func := "loop.example/s01858/laws.FnExactLookStep", spec := "fnExactLookStep", inPlace := ["internal/abi.NoEscape", "internal/bytealg.abigen_runtime_cmpstring", "internal/reflectlite.ValueOf", "internal/reflectlite.Swapper", "(internal/reflectlite.Value).Len"], unfollowed := true, recurses := true, named := ["loop.example/s01858/impl.forms"], maps := true, plainKeys := false, apart := false, laid := [("loop.example/s01858/impl.forms", laid_loop_example_s01858_impl_forms)] }
def FnExactLookStepSaid : Prop := fnExactLookStepRow.holds Tryz.pinned (OpenSpec.ofChange fnExactLookStepSpec)

/-- ITS FALSE NEIGHBOUR: 'it returns false'. Refute it at one input. -/
def fnExactLookStepWrong : ChangeSpec := { name := "fnExactLookStep", vars := ["loop.example/s01858/impl.forms"], fn := fun _ => fun
  | [d1, d2, d3, g1] => { results := [.lit (.bool false)], args := [d1, d2, d3], vars := [g1] }
  | _ => none }
def FnExactLookStepWrongFalsely : Prop := fnExactLookStepRow.holds Tryz.pinned (OpenSpec.ofChange fnExactLookStepWrong)

/-- 'laws.FnExactTransferOut': WHATEVER THE INPUT: true; the input reads as it did. -/
def fnExactTransferOutSpec : ChangeSpec := { name := "fnExactTransferOut", vars := ["loop.example/s01858/impl.forms"], fn := fun _ => fun
  | [d1, d2, d3, d4, g1] => { results := [.lit (.bool true)], args := [d1, d2, d3, d4], vars := [g1] }
  | _ => none }
def fnExactTransferOutRow : OpenClaim := { program := "ytgoalfkgbiblgaagreatdoor", sum := "15e94fd37f3a759be7fb4c3ada62be007d9de537e87f2e10b853b44cf68a8b81", func := "loop.example/s01858/laws.FnExactTransferOut", spec := "fnExactTransferOut", inPlace := ["internal/abi.NoEscape", "internal/bytealg.abigen_runtime_cmpstring", "internal/reflectlite.ValueOf", "internal/reflectlite.Swapper", "(internal/reflectlite.Value).Len"], unfollowed := true, recurses := true, named := ["loop.example/s01858/impl.forms", "encoding/binary.BigEndian"], maps := true, plainKeys := false, apart := false, laid := [("loop.example/s01858/impl.forms", laid_loop_example_s01858_impl_forms)] }
def FnExactTransferOutSaid : Prop := fnExactTransferOutRow.holds Tryz.pinned (OpenSpec.ofChange fnExactTransferOutSpec)

/-- ITS FALSE NEIGHBOUR: 'it returns false'. Refute it at one input. -/
def fnExactTransferOutWrong : ChangeSpec := { name := "fnExactTransferOut", vars := ["loop.example/s01858/impl.forms"], fn := fun _ => fun
  | [d1, d2, d3, d4, g1] => { results := [.lit (.bool false)], args := [d1, d2, d3, d4], vars := [g1] }
  | _ => none }
def FnExactTransferOutWrongFalsely : Prop := fnExactTransferOutRow.holds Tryz.pinned (OpenSpec.ofChange fnExactTransferOutWrong)

/-- 'laws.FnExactZoneNames': WHATEVER THE INPUT: true; the input reads as it did. -/
def fnExactZoneNamesSpec : ChangeSpec := { name := "fnExactZoneNames", vars := ["loop.example/s01858/impl.forms"], fn := fun _ => fun
  | [d, g1] => { results := [.lit (.bool true)], args := [d], vars := [g1] }
  | _ => none }
def fnExactZoneNamesRow : OpenClaim := { program := "ytgoalfkgbiblgaagreatdoor", sum := "15e94fd37f3a759be7fb4c3ada62be007d9de537e87f2e10b853b44cf68a8b81", func := "loop.example/s01858/laws.FnExactZoneNames", spec := "fnExactZoneNames", inPlace := ["internal/abi.NoEscape", "internal/bytealg.abigen_runtime_cmpstring", "internal/reflectlite.ValueOf", "internal/reflectlite.Swapper", "(internal/reflectlite.Value).Len"], unfollowed := true, recurses := true, named := ["loop.example/s01858/impl.forms"], maps := true, plainKeys := false, apart := false, laid := [("loop.example/s01858/impl.forms", laid_loop_example_s01858_impl_forms)] }
def FnExactZoneNamesSaid : Prop := fnExactZoneNamesRow.holds Tryz.pinned (OpenSpec.ofChange fnExactZoneNamesSpec)

/-- ITS FALSE NEIGHBOUR: 'it returns false'. Refute it at one input. -/
def fnExactZoneNamesWrong : ChangeSpec := { name := "fnExactZoneNames", vars := ["loop.example/s01858/impl.forms"], fn := fun _ => fun
  | [d, g1] => { results := [.lit (.bool false)], args := [d], vars := [g1] }
  | _ => none }
def FnExactZoneNamesWrongFalsely : Prop := fnExactZoneNamesRow.holds Tryz.pinned (OpenSpec.ofChange fnExactZoneNamesWrong)

/-- 'laws.FnExactTickSecondary': WHATEVER THE INPUT: true; the input reads as it did. -/
def fnExactTickSecondarySpec : ChangeSpec := { name := "fnExactTickSecondary", vars := ["loop.example/s01858/impl.forms"], fn := fun _ => fun
  | [d1, d2, g1] => { results := [.lit (.bool true)], args := [d1, d2], vars := [g1] }
  | _ => none }
def fnExactTickSecondaryRow : OpenClaim := { program := "ytgoalfkgbiblgaagreatdoor", sum := "15e94fd37f3a759be7fb4c3ada62be007d9de537e87f2e10b853b44cf68a8b81", func := "loop.example/s01858/laws.FnExactTickSecondary", spec := "fnExactTickSecondary", inPlace := ["internal/abi.NoEscape", "internal/bytealg.abigen_runtime_cmpstring", "internal/reflectlite.ValueOf", "internal/reflectlite.Swapper", "(internal/reflectlite.Value).Len"], unfollowed := true, recurses := true, named := ["loop.example/s01858/impl.forms", "encoding/binary.BigEndian"], maps := true, plainKeys := false, apart := false, laid := [("loop.example/s01858/impl.forms", laid_loop_example_s01858_impl_forms)] }
def FnExactTickSecondarySaid : Prop := fnExactTickSecondaryRow.holds Tryz.pinned (OpenSpec.ofChange fnExactTickSecondarySpec)

/-- ITS FALSE NEIGHBOUR: 'it returns false'. Refute it at one input. -/
def fnExactTickSecondaryWrong : ChangeSpec := { name := "fnExactTickSecondary", vars := ["loop.example/s01858/impl.forms"], fn := fun _ => fun
  | [d1, d2, g1] => { results := [.lit (.bool false)], args := [d1, d2], vars := [g1] }
  | _ => none }
def FnExactTickSecondaryWrongFalsely : Prop := fnExactTickSecondaryRow.holds Tryz.pinned (OpenSpec.ofChange fnExactTickSecondaryWrong)

/-- 'laws.FnExactDenyProof': WHATEVER THE INPUT: true; the input reads as it did. -/
def fnExactDenyProofSpec : ChangeSpec := { name := "fnExactDenyProof", vars := ["loop.example/s01858/impl.forms"], fn := fun _ => fun
  | [d1, d2, d3, g1] => { results := [.lit (.bool true)], args := [d1, d2, d3], vars := [g1] }
  | _ => none }
def fnExactDenyProofRow : OpenClaim := { program := "ytgoalfkgbiblgaagreatdoor", sum := "15e94fd37f3a759be7fb4c3ada62be007d9de537e87f2e10b853b44cf68a8b81", func := "loop.example/s01858/laws.FnExactDenyProof", spec := "fnExactDenyProof", inPlace := ["internal/abi.NoEscape", "internal/bytealg.abigen_runtime_cmpstring", "internal/reflectlite.ValueOf", "internal/reflectlite.Swapper", "(internal/reflectlite.Value).Len"], unfollowed := true, recurses := true, named := ["loop.example/s01858/impl.forms"], maps := true, plainKeys := false, apart := false, laid := [("loop.example/s01858/impl.forms", laid_loop_example_s01858_impl_forms)] }
def FnExactDenyProofSaid : Prop := fnExactDenyProofRow.holds Tryz.pinned (OpenSpec.ofChange fnExactDenyProofSpec)

/-- ITS FALSE NEIGHBOUR: 'it returns false'. Refute it at one input. -/
def fnExactDenyProofWrong : ChangeSpec := { name := "fnExactDenyProof", vars := ["loop.example/s01858/impl.forms"], fn := fun _ => fun
  | [d1, d2, d3, g1] => { results := [.lit (.bool false)], args := [d1, d2, d3], vars := [g1] }
  | _ => none }
def FnExactDenyProofWrongFalsely : Prop := fnExactDenyProofRow.holds Tryz.pinned (OpenSpec.ofChange fnExactDenyProofWrong)

/-- 'laws.FnExactChainZone': WHATEVER THE INPUT: true; the input reads as it did. -/
def fnExactChainZoneSpec : ChangeSpec := { name := "fnExactChainZone", vars := ["loop.example/s01858/impl.forms"], fn := fun _ => fun
  | [d, g1] => { results := [.lit (.bool true)], args := [d], vars := [g1] }
  | _ => none }
def fnExactChainZoneRow : OpenClaim := { program := "ytgoalfkgbiblgaagreatdoor", sum := "15e94fd37f3a759be7fb4c3ada62be007d9de537e87f2e10b853b44cf68a8b81", func := "loop.example/s01858/laws.FnExactChainZone", spec := "fnExactChainZone", inPlace := ["internal/abi.NoEscape", "internal/bytealg.abigen_runtime_cmpstring", "internal/reflectlite.ValueOf", "internal/reflectlite.Swapper", "(internal/reflectlite.Value).Len"], unfollowed := true, recurses := true, named := ["loop.example/s01858/impl.forms", "encoding/binary.BigEndian"], maps := true, plainKeys := false, apart := false, laid := [("loop.example/s01858/impl.forms", laid_loop_example_s01858_impl_forms)] }
def FnExactChainZoneSaid : Prop := fnExactChainZoneRow.holds Tryz.pinned (OpenSpec.ofChange fnExactChainZoneSpec)

/-- ITS FALSE NEIGHBOUR: 'it returns false'. Refute it at one input. -/
def fnExactChainZoneWrong : ChangeSpec := { name := "fnExactChainZone", vars := ["loop.example/s01858/impl.forms"], fn := fun _ => fun
  | [d, g1] => { results := [.lit (.bool false)], args := [d], vars := [g1] }
  | _ => none }
def FnExactChainZoneWrongFalsely : Prop := fnExactChainZoneRow.holds Tryz.pinned (OpenSpec.ofChange fnExactChainZoneWrong)

/-- 'laws.FnExactResolve': WHATEVER THE INPUT: true; the input reads as it did. -/
def fnExactResolveSpec : ChangeSpec := { name := "fnExactResolve", vars := ["loop.example/s01858/impl.forms"], fn := fun _ => fun
  | [d1, d2, d3, g1] => { results := [.lit (.bool true)], args := [d1, d2, d3], vars := [g1] }
  | _ => none }
def fnExactResolveRow : OpenClaim := { program := "ytgoalfkgbiblgaagreatdoor", sum := "15e94fd37f3a759be7fb4c3ada62be007d9de537e87f2e10b853b44cf68a8b81", func := "loop.example/s01858/laws.FnExactResolve", spec := "fnExactResolve", inPlace := ["internal/abi.NoEscape", "internal/bytealg.abigen_runtime_cmpstring", "internal/reflectlite.ValueOf", "internal/reflectlite.Swapper", "(internal/reflectlite.Value).Len"], unfollowed := true, recurses := true, named := ["loop.example/s01858/impl.forms", "encoding/binary.BigEndian"], maps := true, plainKeys := false, apart := false, laid := [("loop.example/s01858/impl.forms", laid_loop_example_s01858_impl_forms)] }
def FnExactResolveSaid : Prop := fnExactResolveRow.holds Tryz.pinned (OpenSpec.ofChange fnExactResolveSpec)

/-- ITS FALSE NEIGHBOUR: 'it returns false'. Refute it at one input. -/
def fnExactResolveWrong : ChangeSpec := { name := "fnExactResolve", vars := ["loop.example/s01858/impl.forms"], fn := fun _ => fun
  | [d1, d2, d3, g1] => { results := [.lit (.bool false)], args := [d1, d2, d3], vars := [g1] }
  | _ => none }
def FnExactResolveWrongFalsely : Prop := fnExactResolveRow.holds Tryz.pinned (OpenSpec.ofChange fnExactResolveWrong)

/-- 'laws.FnExactApplyChanges': WHATEVER THE INPUT: true; the input reads as it did. -/
def fnExactApplyChangesSpec : ChangeSpec := { name := "fnExactApplyChanges", vars := ["loop.example/s01858/impl.forms"], fn := fun _ => fun
  | [d1, d2, g1] => { results := [.lit (.bool true)], args := [d1, d2], vars := [g1] }
  | _ => none }
def fnExactApplyChangesRow : OpenClaim := { program := "ytgoalfkgbiblgaagreatdoor", sum := "15e94fd37f3a759be7fb4c3ada62be007d9de537e87f2e10b853b44cf68a8b81", func := "loop.example/s01858/laws.FnExactApplyChanges", spec := "fnExactApplyChanges", inPlace := ["internal/abi.NoEscape", "internal/bytealg.abigen_runtime_cmpstring", "internal/reflectlite.ValueOf", "internal/reflectlite.Swapper", "(internal/reflectlite.Value).Len"], unfollowed := true, recurses := true, named := ["loop.example/s01858/impl.forms", "encoding/binary.BigEndian"], maps := true, plainKeys := false, apart := false, laid := [("loop.example/s01858/impl.forms", laid_loop_example_s01858_impl_forms)] }
def FnExactApplyChangesSaid : Prop := fnExactApplyChangesRow.holds Tryz.pinned (OpenSpec.ofChange fnExactApplyChangesSpec)

/-- ITS FALSE NEIGHBOUR: 'it returns false'. Refute it at one input. -/
def fnExactApplyChangesWrong : ChangeSpec := { name := "fnExactApplyChanges", vars := ["loop.example/s01858/impl.forms"], fn := fun _ => fun
  | [d1, d2, g1] => { results := [.lit (.bool false)], args := [d1, d2], vars := [g1] }
  | _ => none }
def FnExactApplyChangesWrongFalsely : Prop := fnExactApplyChangesRow.holds Tryz.pinned (OpenSpec.ofChange fnExactApplyChangesWrong)

/- THE SECOND FORM. 'bulk': how many values and letters a reading holds, each counted each time it is reached (what is shared counts as often as it is met; a slice's spare places count too). A statement '..UptoSaid' is the law's where the arguments, and the package variables that the reading takes, are together of bulk at most 1048576: NARROWER than '..Said'. Prove '..Said' where nothing that the law and all that it calls make is longer than what came in: it says more and counts as full. Else prove '..UptoSaid'. A law counts once. -/
mutual
def uptoBulk {H : Type} : DataW H → Nat
  | .lit (.string bytes) => bytes.length + 1
  | .lit _ => 1
  | .nil => 1
  | .ptr d => uptoBulk d + 1
  | .slice elems spare => uptoBulkAll elems + uptoBulkAll spare + 1
  | .agg parts => uptoBulkAll parts + 1
  | .iface _ d => uptoBulk d + 1
  | .map entries => uptoBulkEntries entries + 1
  | .held _ => 1
def uptoBulkAll {H : Type} : List (DataW H) → Nat
  | [] => 0
  | d :: r => uptoBulk d + uptoBulkAll r
def uptoBulkEntries {H : Type} : List (Lit × DataW H) → Nat
  | [] => 0
  | x :: r => uptoBulkEntry x + uptoBulkEntries r
def uptoBulkEntry {H : Type} : Lit × DataW H → Nat
  | (.string bytes, d) => bytes.length + uptoBulk d + 1
  | (_, d) => uptoBulk d + 1
 end
def uptoSmall : (H : Type) → List (DataW H) → Bool := fun _ ds => decide (uptoBulkAll ds ≤ 1048576)
def OpenSpec.upto (s : _root_.Go.ChangeSpec) : _root_.Go.OpenSpec := { _root_.Go.OpenSpec.ofChange s with cond := some uptoSmall }

/-- 'laws.FnExactStartSecondary', WHERE WHAT IT READS IS OF BULK AT MOST 1048576: true; the input reads as it did. -/
def fnExactStartSecondaryUptoRow : OpenClaim := { program := "ytgoalfkgbiblgaagreatdoor", sum := "15e94fd37f3a759be7fb4c3ada62be007d9de537e87f2e10b853b44cf68a8b81", func := "loop.example/s01858/laws.FnExactStartSecondary", spec := "fnExactStartSecondary", inPlace := ["internal/abi.NoEscape", "internal/bytealg.abigen_runtime_cmpstring", "internal/reflectlite.ValueOf", "internal/reflectlite.Swapper", "(internal/reflectlite.Value).Len"], unfollowed := true, recurses := true, named := ["loop.example/s01858/impl.forms", "encoding/binary.BigEndian"], maps := true, plainKeys := false, apart := false, laid := [("loop.example/s01858/impl.forms", laid_loop_example_s01858_impl_forms)], narrowed := true }
def FnExactStartSecondaryUptoSaid : Prop := fnExactStartSecondaryUptoRow.holds Tryz.pinned (OpenSpec.upto fnExactStartSecondarySpec)

/-- 'laws.FnExactDiffZones', WHERE WHAT IT READS IS OF BULK AT MOST 1048576: true; the input reads as it did. -/
def fnExactDiffZonesUptoRow : OpenClaim := { program := "ytgoalfkgbiblgaagreatdoor", sum := "15e94fd37f3a759be7fb4c3ada62be007d9de537e87f2e10b853b44cf68a8b81", func := "loop.example/s01858/laws.FnExactDiffZones", spec := "fnExactDiffZones", inPlace := ["internal/abi.NoEscape", "internal/bytealg.abigen_runtime_cmpstring", "internal/reflectlite.ValueOf", "internal/reflectlite.Swapper", "(internal/reflectlite.Value).Len"], unfollowed := true, recurses := true, named := ["loop.example/s01858/impl.forms", "encoding/binary.BigEndian"], maps := true, plainKeys := false, apart := false, laid := [("loop.example/s01858/impl.forms", laid_loop_example_s01858_impl_forms)], narrowed := true }
def FnExactDiffZonesUptoSaid : Prop := fnExactDiffZonesUptoRow.holds Tryz.pinned (OpenSpec.upto fnExactDiffZonesSpec)

/-- 'laws.FnExactCheckConditions', WHERE WHAT IT READS IS OF BULK AT MOST 1048576: true; the input reads as it did. -/
def fnExactCheckConditionsUptoRow : OpenClaim := { program := "ytgoalfkgbiblgaagreatdoor", sum := "15e94fd37f3a759be7fb4c3ada62be007d9de537e87f2e10b853b44cf68a8b81", func := "loop.example/s01858/laws.FnExactCheckConditions", spec := "fnExactCheckConditions", inPlace := ["internal/abi.NoEscape", "internal/bytealg.abigen_runtime_cmpstring", "internal/reflectlite.ValueOf", "internal/reflectlite.Swapper", "(internal/reflectlite.Value).Len"], unfollowed := true, recurses := true, named := ["loop.example/s01858/impl.forms"], maps := true, plainKeys := false, apart := false, laid := [("loop.example/s01858/impl.forms", laid_loop_example_s01858_impl_forms)], narrowed := true }
def FnExactCheckConditionsUptoSaid : Prop := fnExactCheckConditionsUptoRow.holds Tryz.pinned (OpenSpec.upto fnExactCheckConditionsSpec)

/-- 'laws.FnExactPatchZone', WHERE WHAT IT READS IS OF BULK AT MOST 1048576: true; the input reads as it did. -/
def fnExactPatchZoneUptoRow : OpenClaim := { program := "ytgoalfkgbiblgaagreatdoor", sum := "15e94fd37f3a759be7fb4c3ada62be007d9de537e87f2e10b853b44cf68a8b81", func := "loop.example/s01858/laws.FnExactPatchZone", spec := "fnExactPatchZone", inPlace := ["internal/abi.NoEscape", "internal/bytealg.abigen_runtime_cmpstring", "internal/reflectlite.ValueOf", "internal/reflectlite.Swapper", "(internal/reflectlite.Value).Len"], unfollowed := true, recurses := true, named := ["loop.example/s01858/impl.forms", "encoding/binary.BigEndian"], maps := true, plainKeys := false, apart := false, laid := [("loop.example/s01858/impl.forms", laid_loop_example_s01858_impl_forms)], narrowed := true }
def FnExactPatchZoneUptoSaid : Prop := fnExactPatchZoneUptoRow.holds Tryz.pinned (OpenSpec.upto fnExactPatchZoneSpec)

/-- 'laws.FnExactLookStep', WHERE WHAT IT READS IS OF BULK AT MOST 1048576: true; the input reads as it did. -/
def fnExactLookStepUptoRow : OpenClaim := { program := "ytgoalfkgbiblgaagreatdoor", sum := "15e94fd37f3a759be7fb4c3ada62be007d9de537e87f2e10b853b44cf68a8b81", func := "loop.example/s01858/laws.FnExactLookStep", spec := "fnExactLookStep", inPlace := ["internal/abi.NoEscape", "internal/bytealg.abigen_runtime_cmpstring", "internal/reflectlite.ValueOf", "internal/reflectlite.Swapper", "(internal/reflectlite.Value).Len"], unfollowed := true, recurses := true, named := ["loop.example/s01858/impl.forms"], maps := true, plainKeys := false, apart := false, laid := [("loop.example/s01858/impl.forms", laid_loop_example_s01858_impl_forms)], narrowed := true }
def FnExactLookStepUptoSaid : Prop := fnExactLookStepUptoRow.holds Tryz.pinned (OpenSpec.upto fnExactLookStepSpec)

/-- 'laws.FnExactTransferOut', WHERE WHAT IT READS IS OF BULK AT MOST 1048576: true; the input reads as it did. -/
def fnExactTransferOutUptoRow : OpenClaim := { program := "ytgoalfkgbiblgaagreatdoor", sum := "15e94fd37f3a759be7fb4c3ada62be007d9de537e87f2e10b853b44cf68a8b81", func := "loop.example/s01858/laws.FnExactTransferOut", spec := "fnExactTransferOut", inPlace := ["internal/abi.NoEscape", "internal/bytealg.abigen_runtime_cmpstring", "internal/reflectlite.ValueOf", "internal/reflectlite.Swapper", "(internal/reflectlite.Value).Len"], unfollowed := true, recurses := true, named := ["loop.example/s01858/impl.forms", "encoding/binary.BigEndian"], maps := true, plainKeys := false, apart := false, laid := [("loop.example/s01858/impl.forms", laid_loop_example_s01858_impl_forms)], narrowed := true }
def FnExactTransferOutUptoSaid : Prop := fnExactTransferOutUptoRow.holds Tryz.pinned (OpenSpec.upto fnExactTransferOutSpec)

/-- 'laws.FnExactZoneNames', WHERE WHAT IT READS IS OF BULK AT MOST 1048576: true; the input reads as it did. -/
def fnExactZoneNamesUptoRow : OpenClaim := { program := "ytgoalfkgbiblgaagreatdoor", sum := "15e94fd37f3a759be7fb4c3ada62be007d9de537e87f2e10b853b44cf68a8b81", func := "loop.example/s01858/laws.FnExactZoneNames", spec := "fnExactZoneNames", inPlace := ["internal/abi.NoEscape", "internal/bytealg.abigen_runtime_cmpstring", "internal/reflectlite.ValueOf", "internal/reflectlite.Swapper", "(internal/reflectlite.Value).Len"], unfollowed := true, recurses := true, named := ["loop.example/s01858/impl.forms"], maps := true, plainKeys := false, apart := false, laid := [("loop.example/s01858/impl.forms", laid_loop_example_s01858_impl_forms)], narrowed := true }
def FnExactZoneNamesUptoSaid : Prop := fnExactZoneNamesUptoRow.holds Tryz.pinned (OpenSpec.upto fnExactZoneNamesSpec)

/-- 'laws.FnExactTickSecondary', WHERE WHAT IT READS IS OF BULK AT MOST 1048576: true; the input reads as it did. -/
def fnExactTickSecondaryUptoRow : OpenClaim := { program := "ytgoalfkgbiblgaagreatdoor", sum := "15e94fd37f3a759be7fb4c3ada62be007d9de537e87f2e10b853b44cf68a8b81", func := "loop.example/s01858/laws.FnExactTickSecondary", spec := "fnExactTickSecondary", inPlace := ["internal/abi.NoEscape", "internal/bytealg.abigen_runtime_cmpstring", "internal/reflectlite.ValueOf", "internal/reflectlite.Swapper", "(internal/reflectlite.Value).Len"], unfollowed := true, recurses := true, named := ["loop.example/s01858/impl.forms", "encoding/binary.BigEndian"], maps := true, plainKeys := false, apart := false, laid := [("loop.example/s01858/impl.forms", laid_loop_example_s01858_impl_forms)], narrowed := true }
def FnExactTickSecondaryUptoSaid : Prop := fnExactTickSecondaryUptoRow.holds Tryz.pinned (OpenSpec.upto fnExactTickSecondarySpec)

/-- 'laws.FnExactDenyProof', WHERE WHAT IT READS IS OF BULK AT MOST 1048576: true; the input reads as it did. -/
def fnExactDenyProofUptoRow : OpenClaim := { program := "ytgoalfkgbiblgaagreatdoor", sum := "15e94fd37f3a759be7fb4c3ada62be007d9de537e87f2e10b853b44cf68a8b81", func := "loop.example/s01858/laws.FnExactDenyProof", spec := "fnExactDenyProof", inPlace := ["internal/abi.NoEscape", "internal/bytealg.abigen_runtime_cmpstring", "internal/reflectlite.ValueOf", "internal/reflectlite.Swapper", "(internal/reflectlite.Value).Len"], unfollowed := true, recurses := true, named := ["loop.example/s01858/impl.forms"], maps := true, plainKeys := false, apart := false, laid := [("loop.example/s01858/impl.forms", laid_loop_example_s01858_impl_forms)], narrowed := true }
def FnExactDenyProofUptoSaid : Prop := fnExactDenyProofUptoRow.holds Tryz.pinned (OpenSpec.upto fnExactDenyProofSpec)

/-- 'laws.FnExactChainZone', WHERE WHAT IT READS IS OF BULK AT MOST 1048576: true; the input reads as it did. -/
def fnExactChainZoneUptoRow : OpenClaim := { program := "ytgoalfkgbiblgaagreatdoor", sum := "15e94fd37f3a759be7fb4c3ada62be007d9de537e87f2e10b853b44cf68a8b81", func := "loop.example/s01858/laws.FnExactChainZone", spec := "fnExactChainZone", inPlace := ["internal/abi.NoEscape", "internal/bytealg.abigen_runtime_cmpstring", "internal/reflectlite.ValueOf", "internal/reflectlite.Swapper", "(internal/reflectlite.Value).Len"], unfollowed := true, recurses := true, named := ["loop.example/s01858/impl.forms", "encoding/binary.BigEndian"], maps := true, plainKeys := false, apart := false, laid := [("loop.example/s01858/impl.forms", laid_loop_example_s01858_impl_forms)], narrowed := true }
def FnExactChainZoneUptoSaid : Prop := fnExactChainZoneUptoRow.holds Tryz.pinned (OpenSpec.upto fnExactChainZoneSpec)

/-- 'laws.FnExactResolve', WHERE WHAT IT READS IS OF BULK AT MOST 1048576: true; the input reads as it did. -/
def fnExactResolveUptoRow : OpenClaim := { program := "ytgoalfkgbiblgaagreatdoor", sum := "15e94fd37f3a759be7fb4c3ada62be007d9de537e87f2e10b853b44cf68a8b81", func := "loop.example/s01858/laws.FnExactResolve", spec := "fnExactResolve", inPlace := ["internal/abi.NoEscape", "internal/bytealg.abigen_runtime_cmpstring", "internal/reflectlite.ValueOf", "internal/reflectlite.Swapper", "(internal/reflectlite.Value).Len"], unfollowed := true, recurses := true, named := ["loop.example/s01858/impl.forms", "encoding/binary.BigEndian"], maps := true, plainKeys := false, apart := false, laid := [("loop.example/s01858/impl.forms", laid_loop_example_s01858_impl_forms)], narrowed := true }
def FnExactResolveUptoSaid : Prop := fnExactResolveUptoRow.holds Tryz.pinned (OpenSpec.upto fnExactResolveSpec)

/-- 'laws.FnExactApplyChanges', WHERE WHAT IT READS IS OF BULK AT MOST 1048576: true; the input reads as it did. -/
def fnExactApplyChangesUptoRow : OpenClaim := { program := "ytgoalfkgbiblgaagreatdoor", sum := "15e94fd37f3a759be7fb4c3ada62be007d9de537e87f2e10b853b44cf68a8b81", func := "loop.example/s01858/laws.FnExactApplyChanges", spec := "fnExactApplyChanges", inPlace := ["internal/abi.NoEscape", "internal/bytealg.abigen_runtime_cmpstring", "internal/reflectlite.ValueOf", "internal/reflectlite.Swapper", "(internal/reflectlite.Value).Len"], unfollowed := true, recurses := true, named := ["loop.example/s01858/impl.forms", "encoding/binary.BigEndian"], maps := true, plainKeys := false, apart := false, laid := [("loop.example/s01858/impl.forms", laid_loop_example_s01858_impl_forms)], narrowed := true }
def FnExactApplyChangesUptoSaid : Prop := fnExactApplyChangesUptoRow.holds Tryz.pinned (OpenSpec.upto fnExactApplyChangesSpec)

end Rows
end Go.Proofs.YtgoalfkgbiblgaaGreatDoor

/-
  No cell of these rows narrows 'for every input' (looked for: loops, veiled, ifaces, maps, wideKeys, modest, calm, conditions, laid).
  DERIVED. THE GIVEN ROWS OF THIS SEAT. 3 by the template 'for every input the law returns true; each argument reads behind the call as it read before'; 0 by the template 'total and deterministic' (their statements: YtfamnghjibckbaaTotals.lean).
  GIVEN WITH THE SEED: the statements are not yours to turn. If you find one false, say at which input.
  Laid BY PROGRAM, IN A SANDBOX (cutbox-rows.mjs): the forced cells as the released guide's own fill.sh prints them over the translation 36ffcc54063eada9… (all of the seat's roots in one cut). By AI agents, Wed Nov 11 2026. No macro, syntax, notation, axiom, sorry.
-/
import Derived.Test.YtfamnghjibckbaaChecked
import GoSem.Claim
import GoSem.ClaimJoined
import GoSem.ClaimMapViews
import Derived.JoinedTies
import Derived.KernelRfl
namespace Go.Proofs.Ytfamnghjibckbaa
/- THE CELL 'sum', in the pinned program and in every row, IS THE sha256 OF THE DUMP (.gsa) THAT YtfamnghjibckbaaProg.lean LOADS. Nothing in Lean hashes anything: it is a label: what it is worth is what the hold of that sum in a sandbox is worth. -/
noncomputable def Try.pinned : Pinned := { name := "ytfamnghjibckbaa", sum := "36ffcc54063eada9449cc0e4704200c72787d572c6e046017eed7e88dbb01436", checked := Try.checked }
namespace Rows
def none {H : Type} : Left H := { results := [], args := [] }

/-- 'laws.FnExactCutFrames': WHATEVER THE INPUT: true; the input reads as it did. -/
def fnExactCutFramesSpec : ChangeSpec := { name := "fnExactCutFrames", fn := fun _ => fun
  | [d1, d2] => { results := [.lit (.bool true)], args := [d1, d2] }
  | _ => none }
def fnExactCutFramesRow : OpenClaim := { program := "ytfamnghjibckbaa", sum := "36ffcc54063eada9449cc0e4704200c72787d572c6e046017eed7e88dbb01436", func := "loop.example/s01858/laws.FnExactCutFrames", spec := "fnExactCutFrames", apart := false }
def FnExactCutFramesSaid : Prop := fnExactCutFramesRow.holds Try.pinned (OpenSpec.ofChange fnExactCutFramesSpec)

/-- ITS FALSE NEIGHBOUR: 'it returns false'. Refute it at one input. -/
def fnExactCutFramesWrong : ChangeSpec := { name := "fnExactCutFrames", fn := fun _ => fun
  | [d1, d2] => { results := [.lit (.bool false)], args := [d1, d2] }
  | _ => none }
def FnExactCutFramesWrongFalsely : Prop := fnExactCutFramesRow.holds Try.pinned (OpenSpec.ofChange fnExactCutFramesWrong)

/-- 'laws.FnExactEdnsRecord': WHATEVER THE INPUT: true; the input reads as it did. -/
def fnExactEdnsRecordSpec : ChangeSpec := { name := "fnExactEdnsRecord", fn := fun _ => fun
  | [d1, d2, d3, d4] => { results := [.lit (.bool true)], args := [d1, d2, d3, d4] }
  | _ => none }
def fnExactEdnsRecordRow : OpenClaim := { program := "ytfamnghjibckbaa", sum := "36ffcc54063eada9449cc0e4704200c72787d572c6e046017eed7e88dbb01436", func := "loop.example/s01858/laws.FnExactEdnsRecord", spec := "fnExactEdnsRecord", apart := false }
def FnExactEdnsRecordSaid : Prop := fnExactEdnsRecordRow.holds Try.pinned (OpenSpec.ofChange fnExactEdnsRecordSpec)

/-- ITS FALSE NEIGHBOUR: 'it returns false'. Refute it at one input. -/
def fnExactEdnsRecordWrong : ChangeSpec := { name := "fnExactEdnsRecord", fn := fun _ => fun
  | [d1, d2, d3, d4] => { results := [.lit (.bool false)], args := [d1, d2, d3, d4] }
  | _ => none }
def FnExactEdnsRecordWrongFalsely : Prop := fnExactEdnsRecordRow.holds Try.pinned (OpenSpec.ofChange fnExactEdnsRecordWrong)

/-- 'laws.FnExactReadEdns': WHATEVER THE INPUT: true; the input reads as it did. -/
def fnExactReadEdnsSpec : ChangeSpec := { name := "fnExactReadEdns", fn := fun _ => fun
  | [d] => { results := [.lit (.bool true)], args := [d] }
  | _ => none }
def fnExactReadEdnsRow : OpenClaim := { program := "ytfamnghjibckbaa", sum := "36ffcc54063eada9449cc0e4704200c72787d572c6e046017eed7e88dbb01436", func := "loop.example/s01858/laws.FnExactReadEdns", spec := "fnExactReadEdns", apart := false }
def FnExactReadEdnsSaid : Prop := fnExactReadEdnsRow.holds Try.pinned (OpenSpec.ofChange fnExactReadEdnsSpec)

/-- ITS FALSE NEIGHBOUR: 'it returns false'. Refute it at one input. -/
def fnExactReadEdnsWrong : ChangeSpec := { name := "fnExactReadEdns", fn := fun _ => fun
  | [d] => { results := [.lit (.bool false)], args := [d] }
  | _ => none }
def FnExactReadEdnsWrongFalsely : Prop := fnExactReadEdnsRow.holds Try.pinned (OpenSpec.ofChange fnExactReadEdnsWrong)

/- THE SECOND FORM. 'bulk': how many values and letters a reading holds, each counted each time it is reached (what is shared counts as often as it is met; a slice's spare places count too). A statement '..UptoSaid' is the law's where the arguments, and the package variables that the reading takes, are together of bulk at most 1048576: NARROWER than '..Said'. Prove '..Said' where nothing that the law and all that it calls make is longer than what came in: it says more and counts as full. Else prove '..UptoSaid'. A law counts once. -/
mutual
def uptoBulk {H : Type} : DataW H → Nat
  | .lit (.string bytes) => bytes.length + 1
  | .lit _ => 1
  | .nil => 1
  | .ptr d => uptoBulk d + 1
  | .slice elems spare => uptoBulkAll elems + uptoBulkAll spare + 1
  | .agg parts => uptoBulkAll parts + 1
  | .iface _ d => uptoBulk d + 1
  | .map entries => uptoBulkEntries entries + 1
  | .held _ => 1
def uptoBulkAll {H : Type} : List (DataW H) → Nat
  | [] => 0
  | d :: r => uptoBulk d + uptoBulkAll r
def uptoBulkEntries {H : Type} : List (Lit × DataW H) → Nat
  | [] => 0
  | x :: r => uptoBulkEntry x + uptoBulkEntries r
def uptoBulkEntry {H : Type} : Lit × DataW H → Nat
  | (.string bytes, d) => bytes.length + uptoBulk d + 1
  | (_, d) => uptoBulk d + 1
 end
def uptoSmall : (H : Type) → List (DataW H) → Bool := fun _ ds => decide (uptoBulkAll ds ≤ 1048576)
def OpenSpec.upto (s : _root_.Go.ChangeSpec) : _root_.Go.OpenSpec := { _root_.Go.OpenSpec.ofChange s with cond := some uptoSmall }

/-- 'laws.FnExactCutFrames', WHERE WHAT IT READS IS OF BULK AT MOST 1048576: true; the input reads as it did. -/
def fnExactCutFramesUptoRow : OpenClaim := { program := "ytfamnghjibckbaa", sum := "36ffcc54063eada9449cc0e4704200c72787d572c6e046017eed7e88dbb01436", func := "loop.example/s01858/laws.FnExactCutFrames", spec := "fnExactCutFrames", apart := false, narrowed := true }
def FnExactCutFramesUptoSaid : Prop := fnExactCutFramesUptoRow.holds Try.pinned (OpenSpec.upto fnExactCutFramesSpec)

/-- 'laws.FnExactEdnsRecord', WHERE WHAT IT READS IS OF BULK AT MOST 1048576: true; the input reads as it did. -/
def fnExactEdnsRecordUptoRow : OpenClaim := { program := "ytfamnghjibckbaa", sum := "36ffcc54063eada9449cc0e4704200c72787d572c6e046017eed7e88dbb01436", func := "loop.example/s01858/laws.FnExactEdnsRecord", spec := "fnExactEdnsRecord", apart := false, narrowed := true }
def FnExactEdnsRecordUptoSaid : Prop := fnExactEdnsRecordUptoRow.holds Try.pinned (OpenSpec.upto fnExactEdnsRecordSpec)

/-- 'laws.FnExactReadEdns', WHERE WHAT IT READS IS OF BULK AT MOST 1048576: true; the input reads as it did. -/
def fnExactReadEdnsUptoRow : OpenClaim := { program := "ytfamnghjibckbaa", sum := "36ffcc54063eada9449cc0e4704200c72787d572c6e046017eed7e88dbb01436", func := "loop.example/s01858/laws.FnExactReadEdns", spec := "fnExactReadEdns", apart := false, narrowed := true }
def FnExactReadEdnsUptoSaid : Prop := fnExactReadEdnsUptoRow.holds Try.pinned (OpenSpec.upto fnExactReadEdnsSpec)

end Rows
end Go.Proofs.Ytfamnghjibckbaa

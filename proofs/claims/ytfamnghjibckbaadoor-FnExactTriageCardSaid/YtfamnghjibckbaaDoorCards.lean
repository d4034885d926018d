/-
  DERIVED. GIVEN WITH THE SEED: THE CARDS: each row of YtfamnghjibckbaaDoorRows.lean that lists a variable, with what it lists TIED to the program's text (the seventh form; the later family's looks); each row that meets fmt, with fmt's text TOLD by the authors' own Lean function (tested against real Go, not proved from fmt's source: count such statements apart). THE CARD IS WHAT COUNTS. Prove the row's statement (the work); the ties are given (YtfamnghjibckbaaDoorTie.lean); close each card by the builder's one call (the guide's Derived/Test/ToyasCard.lean, 'card_holds'). Laid BY PROGRAM, IN A SANDBOX (cutbox-door.mjs). By AI agents, Wed Nov 11 2026. No macro, syntax, notation, axiom, sorry.
-/
import Derived.Test.YtfamnghjibckbaaDoorRows
import GoSem.ClaimSeven
namespace Go.Proofs.YtfamnghjibckbaaDoor
namespace Rows

/-- THE TIED CARD OF 'laws.FnEdns'. -/
def fnEdnsCard : Claim7 := { stood := { row := fnEdnsRow, standIns := [], harness := (true, "13f9e3eae6e9af9a5c580f949ac881abfaab5008fc39d082f2d373462b7b5f27"), looks := false }, kinds := [], alts := [], laidByText := true, laidKinds := [.mapped], laidTests := true, laidLooks := .later }
def FnEdnsCardSaid : Prop := Claim7.holds Tryd.pinned (.plain (OpenSpec.ofChange fnEdnsSpec)) fnEdnsCard

/-- THE TIED CARD OF 'laws.FnExactTruncate'. -/
def fnExactTruncateCard : Claim7 := { stood := { row := fnExactTruncateRow, standIns := [], harness := (true, "13f9e3eae6e9af9a5c580f949ac881abfaab5008fc39d082f2d373462b7b5f27"), looks := false }, kinds := [], alts := [], laidByText := true, laidKinds := [.mapped], laidTests := true, laidLooks := .later }
def FnExactTruncateCardSaid : Prop := Claim7.holds Tryd.pinned (.plain (OpenSpec.ofChange fnExactTruncateSpec)) fnExactTruncateCard

/-- THE TIED CARD OF 'laws.FnExactTriage'. -/
def fnExactTriageCard : Claim7 := { stood := { row := fnExactTriageRow, standIns := [], harness := (true, "13f9e3eae6e9af9a5c580f949ac881abfaab5008fc39d082f2d373462b7b5f27"), looks := false }, kinds := [], alts := [], laidByText := true, laidKinds := [.mapped, .data], laidTests := true, laidLooks := .later }
def FnExactTriageCardSaid : Prop := Claim7.holds Tryd.pinned (.plain (OpenSpec.ofChange fnExactTriageSpec)) fnExactTriageCard

/-- THE SECOND FORM's CARD OF 'laws.FnEdns'. -/
def fnEdnsUptoCard : Claim7 := { stood := { row := fnEdnsUptoRow, standIns := [], harness := (true, "13f9e3eae6e9af9a5c580f949ac881abfaab5008fc39d082f2d373462b7b5f27"), looks := false }, kinds := [], alts := [], laidByText := true, laidKinds := [.mapped], laidTests := true, laidLooks := .later }
def FnEdnsUptoCardSaid : Prop := Claim7.holds Tryd.pinned (.plain (OpenSpec.upto fnEdnsSpec)) fnEdnsUptoCard

/-- THE SECOND FORM's CARD OF 'laws.FnExactTruncate'. -/
def fnExactTruncateUptoCard : Claim7 := { stood := { row := fnExactTruncateUptoRow, standIns := [], harness := (true, "13f9e3eae6e9af9a5c580f949ac881abfaab5008fc39d082f2d373462b7b5f27"), looks := false }, kinds := [], alts := [], laidByText := true, laidKinds := [.mapped], laidTests := true, laidLooks := .later }
def FnExactTruncateUptoCardSaid : Prop := Claim7.holds Tryd.pinned (.plain (OpenSpec.upto fnExactTruncateSpec)) fnExactTruncateUptoCard

/-- THE SECOND FORM's CARD OF 'laws.FnExactTriage'. -/
def fnExactTriageUptoCard : Claim7 := { stood := { row := fnExactTriageUptoRow, standIns := [], harness := (true, "13f9e3eae6e9af9a5c580f949ac881abfaab5008fc39d082f2d373462b7b5f27"), looks := false }, kinds := [], alts := [], laidByText := true, laidKinds := [.mapped, .data], laidTests := true, laidLooks := .later }
def FnExactTriageUptoCardSaid : Prop := Claim7.holds Tryd.pinned (.plain (OpenSpec.upto fnExactTriageSpec)) fnExactTriageUptoCard
end Rows
end Go.Proofs.YtfamnghjibckbaaDoor

/-
  DERIVED. GIVEN WITH THE SEED: THE CARDS: each row of YtdanahjfpilfhaaDoorRows.lean that lists a variable, with what it lists TIED to the program's text (the seventh form; the later family's looks); each row that meets fmt, with fmt's text TOLD by the authors' own Lean function (tested against real Go, not proved from fmt's source: count such statements apart). THE CARD IS WHAT COUNTS. Prove the row's statement (the work); the ties are given (YtdanahjfpilfhaaDoorTie.lean); close each card by the builder's one call (the guide's Derived/Test/ToyasCard.lean, 'card_holds'). Laid BY PROGRAM, IN A SANDBOX (cutbox-door.mjs). By AI agents, Wed Nov 11 2026. No macro, syntax, notation, axiom, sorry.
-/
import Derived.Test.YtdanahjfpilfhaaDoorRows
import GoSem.ClaimSeven
namespace Go.Proofs.YtdanahjfpilfhaaDoor
namespace Rows

/-- THE TIED CARD OF 'laws.FnThree'. -/
def fnThreeCard : Claim7 := { stood := { row := fnThreeRow, standIns := [], harness := (true, "29f1472f6546720bc6c2cf04349e1f1897f2d8f2fd65695fac3b5e836179b9c6"), looks := false }, kinds := [], alts := [], laidByText := true, laidKinds := [.data, .pinned], laidTests := true, laidLooks := .later }
def FnThreeCardSaid : Prop := Claim7.holds Tryd.pinned (.plain (OpenSpec.ofChange fnThreeSpec)) fnThreeCard

/-- THE SECOND FORM's CARD OF 'laws.FnThree'. -/
def fnThreeUptoCard : Claim7 := { stood := { row := fnThreeUptoRow, standIns := [], harness := (true, "29f1472f6546720bc6c2cf04349e1f1897f2d8f2fd65695fac3b5e836179b9c6"), looks := false }, kinds := [], alts := [], laidByText := true, laidKinds := [.data, .pinned], laidTests := true, laidLooks := .later }
def FnThreeUptoCardSaid : Prop := Claim7.holds Tryd.pinned (.plain (OpenSpec.upto fnThreeSpec)) fnThreeUptoCard
end Rows
end Go.Proofs.YtdanahjfpilfhaaDoor

/-
  DERIVED. GIVEN WITH THE SEED: THE CARDS: each row of YtihminojbcppiaaDoorRows.lean that lists a variable, with what it lists TIED to the program's text (the seventh form; the later family's looks); each row that meets fmt, with fmt's text TOLD by the authors' own Lean function (tested against real Go, not proved from fmt's source: count such statements apart). THE CARD IS WHAT COUNTS. Prove the row's statement (the work); the ties are given (YtihminojbcppiaaDoorTie.lean); close each card by the builder's one call (the guide's Derived/Test/ToyasCard.lean, 'card_holds'). Laid BY PROGRAM, IN A SANDBOX (cutbox-door.mjs). By AI agents, Wed Nov 11 2026. No macro, syntax, notation, axiom, sorry.
-/
import Derived.Test.YtihminojbcppiaaDoorRows
import GoSem.ClaimSeven
namespace Go.Proofs.YtihminojbcppiaaDoor
namespace Rows

/-- THE TIED CARD OF 'laws.FnNear'. -/
def fnNearCard : Claim7 := { stood := { row := fnNearRow, standIns := [], harness := (true, "84d814300a6cbcfbeca8746d89f09aabde9b97aadb509e54897c0d3a1e805dbb"), looks := false }, kinds := [], alts := [], laidByText := true, laidKinds := [.data, .pinned], laidTests := true, laidLooks := .later }
def FnNearCardSaid : Prop := Claim7.holds Tryd.pinned (.plain (OpenSpec.ofChange fnNearSpec)) fnNearCard

/-- THE SECOND FORM's CARD OF 'laws.FnNear'. -/
def fnNearUptoCard : Claim7 := { stood := { row := fnNearUptoRow, standIns := [], harness := (true, "84d814300a6cbcfbeca8746d89f09aabde9b97aadb509e54897c0d3a1e805dbb"), looks := false }, kinds := [], alts := [], laidByText := true, laidKinds := [.data, .pinned], laidTests := true, laidLooks := .later }
def FnNearUptoCardSaid : Prop := Claim7.holds Tryd.pinned (.plain (OpenSpec.upto fnNearSpec)) fnNearUptoCard
end Rows
end Go.Proofs.YtihminojbcppiaaDoor

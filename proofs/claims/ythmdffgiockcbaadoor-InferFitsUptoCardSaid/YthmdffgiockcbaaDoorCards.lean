/-
  DERIVED. GIVEN WITH THE SEED: THE CARDS: each row of YthmdffgiockcbaaDoorRows.lean that lists a variable, with what it lists TIED to the program's text (the seventh form; the later family's looks); each row that meets fmt, with fmt's text TOLD by the authors' own Lean function (tested against real Go, not proved from fmt's source: count such statements apart). THE CARD IS WHAT COUNTS. Prove the row's statement (the work); the ties are given (YthmdffgiockcbaaDoorTie.lean); close each card by the builder's one call (the guide's Derived/Test/ToyasCard.lean, 'card_holds'). Laid BY PROGRAM, IN A SANDBOX (cutbox-door.mjs). By AI agents, Wed Nov 11 2026. No macro, syntax, notation, axiom, sorry.
-/
import Derived.Test.YthmdffgiockcbaaDoorRows
import GoSem.ClaimSeven
namespace Go.Proofs.YthmdffgiockcbaaDoor
namespace Rows

/-- THE TIED CARD OF 'underlaw8.InferFits'. -/
def inferFitsCard : Claim7 := { stood := { row := inferFitsRow, standIns := [], harness := (true, "571cf5cdbf12487060fac258266b97ad84bf7b67c641e9a5f9b69f3819027f02"), looks := true }, kinds := [], alts := [], laidByText := true, laidKinds := [.data, .data, .data, .sentinel, .sentinel], laidTests := true, laidLooks := .later }
def InferFitsCardSaid : Prop := Claim7.holds Tryd.pinned (.plain (OpenSpec.ofChange inferFitsSpec)) inferFitsCard

/-- THE SECOND FORM's CARD OF 'underlaw8.InferFits'. -/
def inferFitsUptoCard : Claim7 := { stood := { row := inferFitsUptoRow, standIns := [], harness := (true, "571cf5cdbf12487060fac258266b97ad84bf7b67c641e9a5f9b69f3819027f02"), looks := true }, kinds := [], alts := [], laidByText := true, laidKinds := [.data, .data, .data, .sentinel, .sentinel], laidTests := true, laidLooks := .later }
def InferFitsUptoCardSaid : Prop := Claim7.holds Tryd.pinned (.plain (OpenSpec.upto inferFitsSpec)) inferFitsUptoCard
end Rows
end Go.Proofs.YthmdffgiockcbaaDoor

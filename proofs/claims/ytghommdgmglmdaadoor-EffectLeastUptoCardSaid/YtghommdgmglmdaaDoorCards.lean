/-
  DERIVED. GIVEN WITH THE SEED: THE CARDS: each row of YtghommdgmglmdaaDoorRows.lean that lists a variable, with what it lists TIED to the program's text (the seventh form; the later family's looks); each row that meets fmt, with fmt's text TOLD by the authors' own Lean function (tested against real Go, not proved from fmt's source: count such statements apart). THE CARD IS WHAT COUNTS. Prove the row's statement (the work); the ties are given (YtghommdgmglmdaaDoorTie.lean); close each card by the builder's one call (the guide's Derived/Test/ToyasCard.lean, 'card_holds'). Laid BY PROGRAM, IN A SANDBOX (cutbox-door.mjs). By AI agents, Wed Nov 11 2026. No macro, syntax, notation, axiom, sorry.
-/
import Derived.Test.YtghommdgmglmdaaDoorRows
import GoSem.ClaimSeven
namespace Go.Proofs.YtghommdgmglmdaaDoor
namespace Rows

/-- THE TIED CARD OF 'underlaw5.EffectLeast'. -/
def effectLeastCard : Claim7 := { stood := { row := effectLeastRow, standIns := [], harness := (true, "b37005d4551e3a3ee810b6148cbac220cde9eabe3d1981129c84eff7bb7409fe"), looks := true }, kinds := [], alts := [], laidByText := true, laidKinds := [.data, .data, .data, .sentinel, .sentinel], laidTests := true, laidLooks := .later }
def EffectLeastCardSaid : Prop := Claim7.holds Tryd.pinned (.plain (OpenSpec.ofChange effectLeastSpec)) effectLeastCard

/-- THE SECOND FORM's CARD OF 'underlaw5.EffectLeast'. -/
def effectLeastUptoCard : Claim7 := { stood := { row := effectLeastUptoRow, standIns := [], harness := (true, "b37005d4551e3a3ee810b6148cbac220cde9eabe3d1981129c84eff7bb7409fe"), looks := true }, kinds := [], alts := [], laidByText := true, laidKinds := [.data, .data, .data, .sentinel, .sentinel], laidTests := true, laidLooks := .later }
def EffectLeastUptoCardSaid : Prop := Claim7.holds Tryd.pinned (.plain (OpenSpec.upto effectLeastSpec)) effectLeastUptoCard
end Rows
end Go.Proofs.YtghommdgmglmdaaDoor

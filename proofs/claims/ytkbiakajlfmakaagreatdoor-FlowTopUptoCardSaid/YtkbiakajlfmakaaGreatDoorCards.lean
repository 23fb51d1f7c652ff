/-
  DERIVED. GIVEN WITH THE SEED: THE CARDS: each row of YtkbiakajlfmakaaGreatDoorRows.lean that lists a variable, with what it lists TIED to the program's text (the seventh form; the later family's looks); each row that meets fmt, with fmt's text TOLD by the authors' own Lean function (tested against real Go, not proved from fmt's source: count such statements apart). THE CARD IS WHAT COUNTS. Prove the row's statement (the work); the ties are given (YtkbiakajlfmakaaGreatDoorTie.lean); close each card by the builder's one call (the guide's Derived/Test/ToyasCard.lean, 'card_holds'). Laid BY PROGRAM, IN A SANDBOX (cutbox-door.mjs). By AI agents, Wed Nov 11 2026. No macro, syntax, notation, axiom, sorry.
-/
import Derived.Test.YtkbiakajlfmakaaGreatDoorRows
import GoSem.ClaimSeven
namespace Go.Proofs.YtkbiakajlfmakaaGreatDoor
namespace Rows

/-- THE TIED CARD OF 'underlaw4.NamesTells'. -/
def namesTellsCard : Claim7 := { stood := { row := namesTellsRow, standIns := [], harness := (true, "7dde9d1fc02798b10713ca608d910f7b511e9f1828142bda106dc1fd5bd226e6"), looks := true }, kinds := [], alts := [], laidByText := true, laidKinds := [.data, .data, .data, .sentinel, .sentinel], laidTests := true, laidLooks := .later }
def NamesTellsCardSaid : Prop := Claim7.holds Tryz.pinned (.plain (OpenSpec.ofChange namesTellsSpec)) namesTellsCard

/-- THE TIED CARD OF 'underlaw6.FlowTells'. -/
def flowTellsCard : Claim7 := { stood := { row := flowTellsRow, standIns := [], harness := (true, "7dde9d1fc02798b10713ca608d910f7b511e9f1828142bda106dc1fd5bd226e6"), looks := true }, kinds := [], alts := [], laidByText := true, laidKinds := [.data, .data, .data, .sentinel, .sentinel], laidTests := true, laidLooks := .later }
def FlowTellsCardSaid : Prop := Claim7.holds Tryz.pinned (.plain (OpenSpec.ofChange flowTellsSpec)) flowTellsCard

/-- THE TIED CARD OF 'underlaw6.FlowTop'. -/
def flowTopCard : Claim7 := { stood := { row := flowTopRow, standIns := [], harness := (true, "7dde9d1fc02798b10713ca608d910f7b511e9f1828142bda106dc1fd5bd226e6"), looks := true }, kinds := [], alts := [], laidByText := true, laidKinds := [.data, .data, .data, .sentinel, .sentinel], laidTests := true, laidLooks := .later }
def FlowTopCardSaid : Prop := Claim7.holds Tryz.pinned (.plain (OpenSpec.ofChange flowTopSpec)) flowTopCard

/-- THE SECOND FORM's CARD OF 'underlaw4.NamesTells'. -/
def namesTellsUptoCard : Claim7 := { stood := { row := namesTellsUptoRow, standIns := [], harness := (true, "7dde9d1fc02798b10713ca608d910f7b511e9f1828142bda106dc1fd5bd226e6"), looks := true }, kinds := [], alts := [], laidByText := true, laidKinds := [.data, .data, .data, .sentinel, .sentinel], laidTests := true, laidLooks := .later }
def NamesTellsUptoCardSaid : Prop := Claim7.holds Tryz.pinned (.plain (OpenSpec.upto namesTellsSpec)) namesTellsUptoCard

/-- THE SECOND FORM's CARD OF 'underlaw6.FlowTells'. -/
def flowTellsUptoCard : Claim7 := { stood := { row := flowTellsUptoRow, standIns := [], harness := (true, "7dde9d1fc02798b10713ca608d910f7b511e9f1828142bda106dc1fd5bd226e6"), looks := true }, kinds := [], alts := [], laidByText := true, laidKinds := [.data, .data, .data, .sentinel, .sentinel], laidTests := true, laidLooks := .later }
def FlowTellsUptoCardSaid : Prop := Claim7.holds Tryz.pinned (.plain (OpenSpec.upto flowTellsSpec)) flowTellsUptoCard

/-- THE SECOND FORM's CARD OF 'underlaw6.FlowTop'. -/
def flowTopUptoCard : Claim7 := { stood := { row := flowTopUptoRow, standIns := [], harness := (true, "7dde9d1fc02798b10713ca608d910f7b511e9f1828142bda106dc1fd5bd226e6"), looks := true }, kinds := [], alts := [], laidByText := true, laidKinds := [.data, .data, .data, .sentinel, .sentinel], laidTests := true, laidLooks := .later }
def FlowTopUptoCardSaid : Prop := Claim7.holds Tryz.pinned (.plain (OpenSpec.upto flowTopSpec)) flowTopUptoCard
end Rows
end Go.Proofs.YtkbiakajlfmakaaGreatDoor

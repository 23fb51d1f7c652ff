/-
  DERIVED. GIVEN WITH THE SEED: THE CARDS: each row of YtgoglhmnfiehoaaDoorRows.lean that lists a variable, with what it lists TIED to the program's text (the seventh form; the later family's looks); each row that meets fmt, with fmt's text TOLD by the authors' own Lean function (tested against real Go, not proved from fmt's source: count such statements apart). THE CARD IS WHAT COUNTS. Prove the row's statement (the work); the ties are given (YtgoglhmnfiehoaaDoorTie.lean); close each card by the builder's one call (the guide's Derived/Test/ToyasCard.lean, 'card_holds'). Laid BY PROGRAM, IN A SANDBOX (cutbox-door.mjs). By AI agents, Wed Nov 11 2026. No macro, syntax, notation, axiom, sorry.
-/
import Derived.Test.YtgoglhmnfiehoaaDoorRows
import GoSem.ClaimSeven
namespace Go.Proofs.YtgoglhmnfiehoaaDoor
namespace Rows

/-- THE TIED CARD OF 'underlaw1.LabelTells'. -/
def labelTellsCard : Claim7 := { stood := { row := labelTellsRow, standIns := [], harness := (true, "5a714af6f68e827a862549e23a19898feecfdd4c1c12f57d54f4efe653fcac50"), looks := false }, kinds := [], alts := [], laidByText := true, laidKinds := [.data, .pinned], laidTests := true, laidLooks := .later }
def LabelTellsCardSaid : Prop := Claim7.holds Tryd.pinned (.plain (OpenSpec.ofChange labelTellsSpec)) labelTellsCard

/-- THE TIED CARD OF 'underlaw1.LabelOrder'. -/
def labelOrderCard : Claim7 := { stood := { row := labelOrderRow, standIns := [], harness := (true, "5a714af6f68e827a862549e23a19898feecfdd4c1c12f57d54f4efe653fcac50"), looks := false }, kinds := [], alts := [], laidByText := true, laidKinds := [.data, .pinned], laidTests := true, laidLooks := .later }
def LabelOrderCardSaid : Prop := Claim7.holds Tryd.pinned (.plain (OpenSpec.ofChange labelOrderSpec)) labelOrderCard

/-- THE TIED CARD OF 'underlaw1.LabelTurns'. -/
def labelTurnsCard : Claim7 := { stood := { row := labelTurnsRow, standIns := [], harness := (true, "5a714af6f68e827a862549e23a19898feecfdd4c1c12f57d54f4efe653fcac50"), looks := false }, kinds := [], alts := [], laidByText := true, laidKinds := [.data, .pinned], laidTests := true, laidLooks := .later }
def LabelTurnsCardSaid : Prop := Claim7.holds Tryd.pinned (.plain (OpenSpec.ofChange labelTurnsSpec)) labelTurnsCard

/-- THE SECOND FORM's CARD OF 'underlaw1.LabelTells'. -/
def labelTellsUptoCard : Claim7 := { stood := { row := labelTellsUptoRow, standIns := [], harness := (true, "5a714af6f68e827a862549e23a19898feecfdd4c1c12f57d54f4efe653fcac50"), looks := false }, kinds := [], alts := [], laidByText := true, laidKinds := [.data, .pinned], laidTests := true, laidLooks := .later }
def LabelTellsUptoCardSaid : Prop := Claim7.holds Tryd.pinned (.plain (OpenSpec.upto labelTellsSpec)) labelTellsUptoCard

/-- THE SECOND FORM's CARD OF 'underlaw1.LabelOrder'. -/
def labelOrderUptoCard : Claim7 := { stood := { row := labelOrderUptoRow, standIns := [], harness := (true, "5a714af6f68e827a862549e23a19898feecfdd4c1c12f57d54f4efe653fcac50"), looks := false }, kinds := [], alts := [], laidByText := true, laidKinds := [.data, .pinned], laidTests := true, laidLooks := .later }
def LabelOrderUptoCardSaid : Prop := Claim7.holds Tryd.pinned (.plain (OpenSpec.upto labelOrderSpec)) labelOrderUptoCard

/-- THE SECOND FORM's CARD OF 'underlaw1.LabelTurns'. -/
def labelTurnsUptoCard : Claim7 := { stood := { row := labelTurnsUptoRow, standIns := [], harness := (true, "5a714af6f68e827a862549e23a19898feecfdd4c1c12f57d54f4efe653fcac50"), looks := false }, kinds := [], alts := [], laidByText := true, laidKinds := [.data, .pinned], laidTests := true, laidLooks := .later }
def LabelTurnsUptoCardSaid : Prop := Claim7.holds Tryd.pinned (.plain (OpenSpec.upto labelTurnsSpec)) labelTurnsUptoCard
end Rows
end Go.Proofs.YtgoglhmnfiehoaaDoor

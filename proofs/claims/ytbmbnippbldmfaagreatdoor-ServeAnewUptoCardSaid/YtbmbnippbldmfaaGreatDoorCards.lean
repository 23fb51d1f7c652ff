/-
  DERIVED. GIVEN WITH THE SEED: THE CARDS: each row of YtbmbnippbldmfaaGreatDoorRows.lean that lists a variable, with what it lists TIED to the program's text (the seventh form; the later family's looks); each row that meets fmt, with fmt's text TOLD by the authors' own Lean function (tested against real Go, not proved from fmt's source: count such statements apart). THE CARD IS WHAT COUNTS. Prove the row's statement (the work); the ties are given (YtbmbnippbldmfaaGreatDoorTie.lean); close each card by the builder's one call (the guide's Derived/Test/ToyasCard.lean, 'card_holds'). Laid BY PROGRAM, IN A SANDBOX (cutbox-door.mjs). By AI agents, Wed Nov 11 2026. No macro, syntax, notation, axiom, sorry.
-/
import Derived.Test.YtbmbnippbldmfaaGreatDoorRows
import GoSem.ClaimSeven
namespace Go.Proofs.YtbmbnippbldmfaaGreatDoor
namespace Rows

/-- THE TIED CARD OF 'underlaw9.WriteTurns'. -/
def writeTurnsCard : Claim7 := { stood := { row := writeTurnsRow, standIns := [], harness := (true, "30b3d6dbfb0cfd54fd5f95b90fc31d7b894dcd167ee66527e255016deda87698"), looks := true }, kinds := [], alts := [], laidByText := true, laidKinds := [.data, .data, .data, .sentinel, .sentinel], laidTests := true, laidLooks := .later }
def WriteTurnsCardSaid : Prop := Claim7.holds Tryz.pinned (.plain (OpenSpec.ofChange writeTurnsSpec)) writeTurnsCard

/-- THE TIED CARD OF 'underlaw8.InferLeast'. -/
def inferLeastCard : Claim7 := { stood := { row := inferLeastRow, standIns := [], harness := (true, "30b3d6dbfb0cfd54fd5f95b90fc31d7b894dcd167ee66527e255016deda87698"), looks := true }, kinds := [], alts := [], laidByText := true, laidKinds := [.data, .data, .data, .sentinel, .sentinel], laidTests := true, laidLooks := .later }
def InferLeastCardSaid : Prop := Claim7.holds Tryz.pinned (.plain (OpenSpec.ofChange inferLeastSpec)) inferLeastCard

/-- THE TIED CARD OF 'underlaw10.RenameOnly'. -/
def renameOnlyCard : Claim7 := { stood := { row := renameOnlyRow, standIns := [], harness := (true, "30b3d6dbfb0cfd54fd5f95b90fc31d7b894dcd167ee66527e255016deda87698"), looks := true }, kinds := [], alts := [], laidByText := true, laidKinds := [.data, .data, .data, .sentinel, .sentinel], laidTests := true, laidLooks := .later }
def RenameOnlyCardSaid : Prop := Claim7.holds Tryz.pinned (.plain (OpenSpec.ofChange renameOnlySpec)) renameOnlyCard

/-- THE TIED CARD OF 'underlaw9.WriteSame'. -/
def writeSameCard : Claim7 := { stood := { row := writeSameRow, standIns := [], harness := (true, "30b3d6dbfb0cfd54fd5f95b90fc31d7b894dcd167ee66527e255016deda87698"), looks := true }, kinds := [], alts := [], laidByText := true, laidKinds := [.data, .data, .data, .sentinel, .sentinel], laidTests := true, laidLooks := .later }
def WriteSameCardSaid : Prop := Claim7.holds Tryz.pinned (.plain (OpenSpec.ofChange writeSameSpec)) writeSameCard

/-- THE TIED CARD OF 'underlaw12.ServeAnew'. -/
def serveAnewCard : Claim7 := { stood := { row := serveAnewRow, standIns := [], harness := (true, "30b3d6dbfb0cfd54fd5f95b90fc31d7b894dcd167ee66527e255016deda87698"), looks := true }, kinds := [], alts := [], laidByText := true, laidKinds := [.data, .data, .data, .sentinel, .sentinel], laidTests := true, laidLooks := .later }
def ServeAnewCardSaid : Prop := Claim7.holds Tryz.pinned (.plain (OpenSpec.ofChange serveAnewSpec)) serveAnewCard

/-- THE TIED CARD OF 'undertop.TopLeak'. -/
def topLeakCard : Claim7 := { stood := { row := topLeakRow, standIns := [], harness := (true, "30b3d6dbfb0cfd54fd5f95b90fc31d7b894dcd167ee66527e255016deda87698"), looks := true }, kinds := [], alts := [], laidByText := true, laidKinds := [.data, .data, .data, .sentinel, .sentinel], laidTests := true, laidLooks := .later }
def TopLeakCardSaid : Prop := Claim7.holds Tryz.pinned (.plain (OpenSpec.ofChange topLeakSpec)) topLeakCard

/-- THE SECOND FORM's CARD OF 'underlaw9.WriteTurns'. -/
def writeTurnsUptoCard : Claim7 := { stood := { row := writeTurnsUptoRow, standIns := [], harness := (true, "30b3d6dbfb0cfd54fd5f95b90fc31d7b894dcd167ee66527e255016deda87698"), looks := true }, kinds := [], alts := [], laidByText := true, laidKinds := [.data, .data, .data, .sentinel, .sentinel], laidTests := true, laidLooks := .later }
def WriteTurnsUptoCardSaid : Prop := Claim7.holds Tryz.pinned (.plain (OpenSpec.upto writeTurnsSpec)) writeTurnsUptoCard

/-- THE SECOND FORM's CARD OF 'underlaw8.InferLeast'. -/
def inferLeastUptoCard : Claim7 := { stood := { row := inferLeastUptoRow, standIns := [], harness := (true, "30b3d6dbfb0cfd54fd5f95b90fc31d7b894dcd167ee66527e255016deda87698"), looks := true }, kinds := [], alts := [], laidByText := true, laidKinds := [.data, .data, .data, .sentinel, .sentinel], laidTests := true, laidLooks := .later }
def InferLeastUptoCardSaid : Prop := Claim7.holds Tryz.pinned (.plain (OpenSpec.upto inferLeastSpec)) inferLeastUptoCard

/-- THE SECOND FORM's CARD OF 'underlaw10.RenameOnly'. -/
def renameOnlyUptoCard : Claim7 := { stood := { row := renameOnlyUptoRow, standIns := [], harness := (true, "30b3d6dbfb0cfd54fd5f95b90fc31d7b894dcd167ee66527e255016deda87698"), looks := true }, kinds := [], alts := [], laidByText := true, laidKinds := [.data, .data, .data, .sentinel, .sentinel], laidTests := true, laidLooks := .later }
def RenameOnlyUptoCardSaid : Prop := Claim7.holds Tryz.pinned (.plain (OpenSpec.upto renameOnlySpec)) renameOnlyUptoCard

/-- THE SECOND FORM's CARD OF 'underlaw9.WriteSame'. -/
def writeSameUptoCard : Claim7 := { stood := { row := writeSameUptoRow, standIns := [], harness := (true, "30b3d6dbfb0cfd54fd5f95b90fc31d7b894dcd167ee66527e255016deda87698"), looks := true }, kinds := [], alts := [], laidByText := true, laidKinds := [.data, .data, .data, .sentinel, .sentinel], laidTests := true, laidLooks := .later }
def WriteSameUptoCardSaid : Prop := Claim7.holds Tryz.pinned (.plain (OpenSpec.upto writeSameSpec)) writeSameUptoCard

/-- THE SECOND FORM's CARD OF 'underlaw12.ServeAnew'. -/
def serveAnewUptoCard : Claim7 := { stood := { row := serveAnewUptoRow, standIns := [], harness := (true, "30b3d6dbfb0cfd54fd5f95b90fc31d7b894dcd167ee66527e255016deda87698"), looks := true }, kinds := [], alts := [], laidByText := true, laidKinds := [.data, .data, .data, .sentinel, .sentinel], laidTests := true, laidLooks := .later }
def ServeAnewUptoCardSaid : Prop := Claim7.holds Tryz.pinned (.plain (OpenSpec.upto serveAnewSpec)) serveAnewUptoCard

/-- THE SECOND FORM's CARD OF 'undertop.TopLeak'. -/
def topLeakUptoCard : Claim7 := { stood := { row := topLeakUptoRow, standIns := [], harness := (true, "30b3d6dbfb0cfd54fd5f95b90fc31d7b894dcd167ee66527e255016deda87698"), looks := true }, kinds := [], alts := [], laidByText := true, laidKinds := [.data, .data, .data, .sentinel, .sentinel], laidTests := true, laidLooks := .later }
def TopLeakUptoCardSaid : Prop := Claim7.holds Tryz.pinned (.plain (OpenSpec.upto topLeakSpec)) topLeakUptoCard
end Rows
end Go.Proofs.YtbmbnippbldmfaaGreatDoor

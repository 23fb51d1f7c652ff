/-
  DERIVED. GIVEN WITH THE SEED: THE CARDS: each row of YthmdffgiockcbaaGreatDoorRows.lean that lists a variable, with what it lists TIED to the program's text (the seventh form; the later family's looks); each row that meets fmt, with fmt's text TOLD by the authors' own Lean function (tested against real Go, not proved from fmt's source: count such statements apart). THE CARD IS WHAT COUNTS. Prove the row's statement (the work); the ties are given (YthmdffgiockcbaaGreatDoorTie.lean); close each card by the builder's one call (the guide's Derived/Test/ToyasCard.lean, 'card_holds'). Laid BY PROGRAM, IN A SANDBOX (cutbox-door.mjs). By AI agents, Wed Nov 11 2026. No macro, syntax, notation, axiom, sorry.
-/
import Derived.Test.YthmdffgiockcbaaGreatDoorRows
import GoSem.ClaimSeven
namespace Go.Proofs.YthmdffgiockcbaaGreatDoor
namespace Rows

/-- THE TIED CARD OF 'underlaw9.WriteTurns'. -/
def writeTurnsCard : Claim7 := { stood := { row := writeTurnsRow, standIns := [], harness := (true, "c2a2ae80d88a3f13bb1d930b1095047194c9559c32389023416c516e1ff78217"), looks := true }, kinds := [], alts := [], laidByText := true, laidKinds := [.data, .data, .data, .sentinel, .sentinel], laidTests := true, laidLooks := .later }
def WriteTurnsCardSaid : Prop := Claim7.holds Tryz.pinned (.plain (OpenSpec.ofChange writeTurnsSpec)) writeTurnsCard

/-- THE TIED CARD OF 'underlaw8.InferTwice'. -/
def inferTwiceCard : Claim7 := { stood := { row := inferTwiceRow, standIns := [], harness := (true, "c2a2ae80d88a3f13bb1d930b1095047194c9559c32389023416c516e1ff78217"), looks := true }, kinds := [], alts := [], laidByText := true, laidKinds := [.data, .data, .data, .sentinel, .sentinel], laidTests := true, laidLooks := .later }
def InferTwiceCardSaid : Prop := Claim7.holds Tryz.pinned (.plain (OpenSpec.ofChange inferTwiceSpec)) inferTwiceCard

/-- THE TIED CARD OF 'underlaw8.InferLeast'. -/
def inferLeastCard : Claim7 := { stood := { row := inferLeastRow, standIns := [], harness := (true, "c2a2ae80d88a3f13bb1d930b1095047194c9559c32389023416c516e1ff78217"), looks := true }, kinds := [], alts := [], laidByText := true, laidKinds := [.data, .data, .data, .sentinel, .sentinel], laidTests := true, laidLooks := .later }
def InferLeastCardSaid : Prop := Claim7.holds Tryz.pinned (.plain (OpenSpec.ofChange inferLeastSpec)) inferLeastCard

/-- THE TIED CARD OF 'underlaw7.RunSends'. -/
def runSendsCard : Claim7 := { stood := { row := runSendsRow, standIns := [], harness := (true, "c2a2ae80d88a3f13bb1d930b1095047194c9559c32389023416c516e1ff78217"), looks := true }, kinds := [], alts := [], laidByText := true, laidKinds := [.data, .data, .data, .sentinel, .sentinel], laidTests := true, laidLooks := .later }
def RunSendsCardSaid : Prop := Claim7.holds Tryz.pinned (.plain (OpenSpec.ofChange runSendsSpec)) runSendsCard

/-- THE TIED CARD OF 'underlaw7.RunBad'. -/
def runBadCard : Claim7 := { stood := { row := runBadRow, standIns := [], harness := (true, "c2a2ae80d88a3f13bb1d930b1095047194c9559c32389023416c516e1ff78217"), looks := true }, kinds := [], alts := [], laidByText := true, laidKinds := [.data, .data, .data, .sentinel, .sentinel], laidTests := true, laidLooks := .later }
def RunBadCardSaid : Prop := Claim7.holds Tryz.pinned (.plain (OpenSpec.ofChange runBadSpec)) runBadCard

/-- THE TIED CARD OF 'underlaw7.RunSecret'. -/
def runSecretCard : Claim7 := { stood := { row := runSecretRow, standIns := [], harness := (true, "c2a2ae80d88a3f13bb1d930b1095047194c9559c32389023416c516e1ff78217"), looks := true }, kinds := [], alts := [], laidByText := true, laidKinds := [.data, .data, .data, .sentinel, .sentinel], laidTests := true, laidLooks := .later }
def RunSecretCardSaid : Prop := Claim7.holds Tryz.pinned (.plain (OpenSpec.ofChange runSecretSpec)) runSecretCard

/-- THE TIED CARD OF 'underlaw7.RunSeen'. -/
def runSeenCard : Claim7 := { stood := { row := runSeenRow, standIns := [], harness := (true, "c2a2ae80d88a3f13bb1d930b1095047194c9559c32389023416c516e1ff78217"), looks := true }, kinds := [], alts := [], laidByText := true, laidKinds := [.data, .data, .data, .sentinel, .sentinel], laidTests := true, laidLooks := .later }
def RunSeenCardSaid : Prop := Claim7.holds Tryz.pinned (.plain (OpenSpec.ofChange runSeenSpec)) runSeenCard

/-- THE TIED CARD OF 'underlaw10.RenameBack'. -/
def renameBackCard : Claim7 := { stood := { row := renameBackRow, standIns := [], harness := (true, "c2a2ae80d88a3f13bb1d930b1095047194c9559c32389023416c516e1ff78217"), looks := true }, kinds := [], alts := [], laidByText := true, laidKinds := [.data, .data, .data, .sentinel, .sentinel], laidTests := true, laidLooks := .later }
def RenameBackCardSaid : Prop := Claim7.holds Tryz.pinned (.plain (OpenSpec.ofChange renameBackSpec)) renameBackCard

/-- THE TIED CARD OF 'underlaw10.RenameOnly'. -/
def renameOnlyCard : Claim7 := { stood := { row := renameOnlyRow, standIns := [], harness := (true, "c2a2ae80d88a3f13bb1d930b1095047194c9559c32389023416c516e1ff78217"), looks := true }, kinds := [], alts := [], laidByText := true, laidKinds := [.data, .data, .data, .sentinel, .sentinel], laidTests := true, laidLooks := .later }
def RenameOnlyCardSaid : Prop := Claim7.holds Tryz.pinned (.plain (OpenSpec.ofChange renameOnlySpec)) renameOnlyCard

/-- THE TIED CARD OF 'underlaw9.WriteSame'. -/
def writeSameCard : Claim7 := { stood := { row := writeSameRow, standIns := [], harness := (true, "c2a2ae80d88a3f13bb1d930b1095047194c9559c32389023416c516e1ff78217"), looks := true }, kinds := [], alts := [], laidByText := true, laidKinds := [.data, .data, .data, .sentinel, .sentinel], laidTests := true, laidLooks := .later }
def WriteSameCardSaid : Prop := Claim7.holds Tryz.pinned (.plain (OpenSpec.ofChange writeSameSpec)) writeSameCard

/-- THE TIED CARD OF 'underlaw10.RenameSame'. -/
def renameSameCard : Claim7 := { stood := { row := renameSameRow, standIns := [], harness := (true, "c2a2ae80d88a3f13bb1d930b1095047194c9559c32389023416c516e1ff78217"), looks := true }, kinds := [], alts := [], laidByText := true, laidKinds := [.data, .data, .data, .sentinel, .sentinel], laidTests := true, laidLooks := .later }
def RenameSameCardSaid : Prop := Claim7.holds Tryz.pinned (.plain (OpenSpec.ofChange renameSameSpec)) renameSameCard

/-- THE SECOND FORM's CARD OF 'underlaw9.WriteTurns'. -/
def writeTurnsUptoCard : Claim7 := { stood := { row := writeTurnsUptoRow, standIns := [], harness := (true, "c2a2ae80d88a3f13bb1d930b1095047194c9559c32389023416c516e1ff78217"), looks := true }, kinds := [], alts := [], laidByText := true, laidKinds := [.data, .data, .data, .sentinel, .sentinel], laidTests := true, laidLooks := .later }
def WriteTurnsUptoCardSaid : Prop := Claim7.holds Tryz.pinned (.plain (OpenSpec.upto writeTurnsSpec)) writeTurnsUptoCard

/-- THE SECOND FORM's CARD OF 'underlaw8.InferTwice'. -/
def inferTwiceUptoCard : Claim7 := { stood := { row := inferTwiceUptoRow, standIns := [], harness := (true, "c2a2ae80d88a3f13bb1d930b1095047194c9559c32389023416c516e1ff78217"), looks := true }, kinds := [], alts := [], laidByText := true, laidKinds := [.data, .data, .data, .sentinel, .sentinel], laidTests := true, laidLooks := .later }
def InferTwiceUptoCardSaid : Prop := Claim7.holds Tryz.pinned (.plain (OpenSpec.upto inferTwiceSpec)) inferTwiceUptoCard

/-- THE SECOND FORM's CARD OF 'underlaw8.InferLeast'. -/
def inferLeastUptoCard : Claim7 := { stood := { row := inferLeastUptoRow, standIns := [], harness := (true, "c2a2ae80d88a3f13bb1d930b1095047194c9559c32389023416c516e1ff78217"), looks := true }, kinds := [], alts := [], laidByText := true, laidKinds := [.data, .data, .data, .sentinel, .sentinel], laidTests := true, laidLooks := .later }
def InferLeastUptoCardSaid : Prop := Claim7.holds Tryz.pinned (.plain (OpenSpec.upto inferLeastSpec)) inferLeastUptoCard

/-- THE SECOND FORM's CARD OF 'underlaw7.RunSends'. -/
def runSendsUptoCard : Claim7 := { stood := { row := runSendsUptoRow, standIns := [], harness := (true, "c2a2ae80d88a3f13bb1d930b1095047194c9559c32389023416c516e1ff78217"), looks := true }, kinds := [], alts := [], laidByText := true, laidKinds := [.data, .data, .data, .sentinel, .sentinel], laidTests := true, laidLooks := .later }
def RunSendsUptoCardSaid : Prop := Claim7.holds Tryz.pinned (.plain (OpenSpec.upto runSendsSpec)) runSendsUptoCard

/-- THE SECOND FORM's CARD OF 'underlaw7.RunBad'. -/
def runBadUptoCard : Claim7 := { stood := { row := runBadUptoRow, standIns := [], harness := (true, "c2a2ae80d88a3f13bb1d930b1095047194c9559c32389023416c516e1ff78217"), looks := true }, kinds := [], alts := [], laidByText := true, laidKinds := [.data, .data, .data, .sentinel, .sentinel], laidTests := true, laidLooks := .later }
def RunBadUptoCardSaid : Prop := Claim7.holds Tryz.pinned (.plain (OpenSpec.upto runBadSpec)) runBadUptoCard

/-- THE SECOND FORM's CARD OF 'underlaw7.RunSecret'. -/
def runSecretUptoCard : Claim7 := { stood := { row := runSecretUptoRow, standIns := [], harness := (true, "c2a2ae80d88a3f13bb1d930b1095047194c9559c32389023416c516e1ff78217"), looks := true }, kinds := [], alts := [], laidByText := true, laidKinds := [.data, .data, .data, .sentinel, .sentinel], laidTests := true, laidLooks := .later }
def RunSecretUptoCardSaid : Prop := Claim7.holds Tryz.pinned (.plain (OpenSpec.upto runSecretSpec)) runSecretUptoCard

/-- THE SECOND FORM's CARD OF 'underlaw7.RunSeen'. -/
def runSeenUptoCard : Claim7 := { stood := { row := runSeenUptoRow, standIns := [], harness := (true, "c2a2ae80d88a3f13bb1d930b1095047194c9559c32389023416c516e1ff78217"), looks := true }, kinds := [], alts := [], laidByText := true, laidKinds := [.data, .data, .data, .sentinel, .sentinel], laidTests := true, laidLooks := .later }
def RunSeenUptoCardSaid : Prop := Claim7.holds Tryz.pinned (.plain (OpenSpec.upto runSeenSpec)) runSeenUptoCard

/-- THE SECOND FORM's CARD OF 'underlaw10.RenameBack'. -/
def renameBackUptoCard : Claim7 := { stood := { row := renameBackUptoRow, standIns := [], harness := (true, "c2a2ae80d88a3f13bb1d930b1095047194c9559c32389023416c516e1ff78217"), looks := true }, kinds := [], alts := [], laidByText := true, laidKinds := [.data, .data, .data, .sentinel, .sentinel], laidTests := true, laidLooks := .later }
def RenameBackUptoCardSaid : Prop := Claim7.holds Tryz.pinned (.plain (OpenSpec.upto renameBackSpec)) renameBackUptoCard

/-- THE SECOND FORM's CARD OF 'underlaw10.RenameOnly'. -/
def renameOnlyUptoCard : Claim7 := { stood := { row := renameOnlyUptoRow, standIns := [], harness := (true, "c2a2ae80d88a3f13bb1d930b1095047194c9559c32389023416c516e1ff78217"), looks := true }, kinds := [], alts := [], laidByText := true, laidKinds := [.data, .data, .data, .sentinel, .sentinel], laidTests := true, laidLooks := .later }
def RenameOnlyUptoCardSaid : Prop := Claim7.holds Tryz.pinned (.plain (OpenSpec.upto renameOnlySpec)) renameOnlyUptoCard

/-- THE SECOND FORM's CARD OF 'underlaw9.WriteSame'. -/
def writeSameUptoCard : Claim7 := { stood := { row := writeSameUptoRow, standIns := [], harness := (true, "c2a2ae80d88a3f13bb1d930b1095047194c9559c32389023416c516e1ff78217"), looks := true }, kinds := [], alts := [], laidByText := true, laidKinds := [.data, .data, .data, .sentinel, .sentinel], laidTests := true, laidLooks := .later }
def WriteSameUptoCardSaid : Prop := Claim7.holds Tryz.pinned (.plain (OpenSpec.upto writeSameSpec)) writeSameUptoCard

/-- THE SECOND FORM's CARD OF 'underlaw10.RenameSame'. -/
def renameSameUptoCard : Claim7 := { stood := { row := renameSameUptoRow, standIns := [], harness := (true, "c2a2ae80d88a3f13bb1d930b1095047194c9559c32389023416c516e1ff78217"), looks := true }, kinds := [], alts := [], laidByText := true, laidKinds := [.data, .data, .data, .sentinel, .sentinel], laidTests := true, laidLooks := .later }
def RenameSameUptoCardSaid : Prop := Claim7.holds Tryz.pinned (.plain (OpenSpec.upto renameSameSpec)) renameSameUptoCard
end Rows
end Go.Proofs.YthmdffgiockcbaaGreatDoor

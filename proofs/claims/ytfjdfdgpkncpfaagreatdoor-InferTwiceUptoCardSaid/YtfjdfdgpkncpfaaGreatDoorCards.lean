/-
  DERIVED. GIVEN WITH THE SEED: THE CARDS: each row of YtfjdfdgpkncpfaaGreatDoorRows.lean that lists a variable, with what it lists TIED to the program's text (the seventh form; the later family's looks); each row that meets fmt, with fmt's text TOLD by the authors' own Lean function (tested against real Go, not proved from fmt's source: count such statements apart). THE CARD IS WHAT COUNTS. Prove the row's statement (the work); the ties are given (YtfjdfdgpkncpfaaGreatDoorTie.lean); close each card by the builder's one call (the guide's Derived/Test/ToyasCard.lean, 'card_holds'). Laid BY PROGRAM, IN A SANDBOX (cutbox-door.mjs). By AI agents, Wed Nov 11 2026. No macro, syntax, notation, axiom, sorry.
-/
import Derived.Test.YtfjdfdgpkncpfaaGreatDoorRows
import GoSem.ClaimSeven
namespace Go.Proofs.YtfjdfdgpkncpfaaGreatDoor
namespace Rows

/-- THE TIED CARD OF 'undertop.TopLoop'. -/
def topLoopCard : Claim7 := { stood := { row := topLoopRow, standIns := [], harness := (true, "a8b20c8e09782d1bdbaf8a3d50ca6add2844b2666d8d0351b82b9914fb277c83"), looks := true }, kinds := [], alts := [], laidByText := true, laidKinds := [.data, .data, .data, .sentinel, .sentinel], laidTests := true, laidLooks := .later }
def TopLoopCardSaid : Prop := Claim7.holds Tryz.pinned (.plain (OpenSpec.ofChange topLoopSpec)) topLoopCard

/-- THE TIED CARD OF 'undertop.TopType'. -/
def topTypeCard : Claim7 := { stood := { row := topTypeRow, standIns := [], harness := (true, "a8b20c8e09782d1bdbaf8a3d50ca6add2844b2666d8d0351b82b9914fb277c83"), looks := true }, kinds := [], alts := [], laidByText := true, laidKinds := [.data, .data, .data, .sentinel, .sentinel], laidTests := true, laidLooks := .later }
def TopTypeCardSaid : Prop := Claim7.holds Tryz.pinned (.plain (OpenSpec.ofChange topTypeSpec)) topTypeCard

/-- THE TIED CARD OF 'underlaw8.InferTwice'. -/
def inferTwiceCard : Claim7 := { stood := { row := inferTwiceRow, standIns := [], harness := (true, "a8b20c8e09782d1bdbaf8a3d50ca6add2844b2666d8d0351b82b9914fb277c83"), looks := true }, kinds := [], alts := [], laidByText := true, laidKinds := [.data, .data, .data, .sentinel, .sentinel], laidTests := true, laidLooks := .later }
def InferTwiceCardSaid : Prop := Claim7.holds Tryz.pinned (.plain (OpenSpec.ofChange inferTwiceSpec)) inferTwiceCard

/-- THE TIED CARD OF 'underlaw7.RunSends'. -/
def runSendsCard : Claim7 := { stood := { row := runSendsRow, standIns := [], harness := (true, "a8b20c8e09782d1bdbaf8a3d50ca6add2844b2666d8d0351b82b9914fb277c83"), looks := true }, kinds := [], alts := [], laidByText := true, laidKinds := [.data, .data, .data, .sentinel, .sentinel], laidTests := true, laidLooks := .later }
def RunSendsCardSaid : Prop := Claim7.holds Tryz.pinned (.plain (OpenSpec.ofChange runSendsSpec)) runSendsCard

/-- THE TIED CARD OF 'underlaw7.RunSecret'. -/
def runSecretCard : Claim7 := { stood := { row := runSecretRow, standIns := [], harness := (true, "a8b20c8e09782d1bdbaf8a3d50ca6add2844b2666d8d0351b82b9914fb277c83"), looks := true }, kinds := [], alts := [], laidByText := true, laidKinds := [.data, .data, .data, .sentinel, .sentinel], laidTests := true, laidLooks := .later }
def RunSecretCardSaid : Prop := Claim7.holds Tryz.pinned (.plain (OpenSpec.ofChange runSecretSpec)) runSecretCard

/-- THE TIED CARD OF 'underlaw7.RunSeen'. -/
def runSeenCard : Claim7 := { stood := { row := runSeenRow, standIns := [], harness := (true, "a8b20c8e09782d1bdbaf8a3d50ca6add2844b2666d8d0351b82b9914fb277c83"), looks := true }, kinds := [], alts := [], laidByText := true, laidKinds := [.data, .data, .data, .sentinel, .sentinel], laidTests := true, laidLooks := .later }
def RunSeenCardSaid : Prop := Claim7.holds Tryz.pinned (.plain (OpenSpec.ofChange runSeenSpec)) runSeenCard

/-- THE TIED CARD OF 'underlaw10.RenameOnly'. -/
def renameOnlyCard : Claim7 := { stood := { row := renameOnlyRow, standIns := [], harness := (true, "a8b20c8e09782d1bdbaf8a3d50ca6add2844b2666d8d0351b82b9914fb277c83"), looks := true }, kinds := [], alts := [], laidByText := true, laidKinds := [.data, .data, .data, .sentinel, .sentinel], laidTests := true, laidLooks := .later }
def RenameOnlyCardSaid : Prop := Claim7.holds Tryz.pinned (.plain (OpenSpec.ofChange renameOnlySpec)) renameOnlyCard

/-- THE TIED CARD OF 'underlaw12.ServeAll'. -/
def serveAllCard : Claim7 := { stood := { row := serveAllRow, standIns := [], harness := (true, "a8b20c8e09782d1bdbaf8a3d50ca6add2844b2666d8d0351b82b9914fb277c83"), looks := true }, kinds := [], alts := [], laidByText := true, laidKinds := [.data, .data, .data, .sentinel, .sentinel], laidTests := true, laidLooks := .later }
def ServeAllCardSaid : Prop := Claim7.holds Tryz.pinned (.plain (OpenSpec.ofChange serveAllSpec)) serveAllCard

/-- THE TIED CARD OF 'underlaw12.ServeAnew'. -/
def serveAnewCard : Claim7 := { stood := { row := serveAnewRow, standIns := [], harness := (true, "a8b20c8e09782d1bdbaf8a3d50ca6add2844b2666d8d0351b82b9914fb277c83"), looks := true }, kinds := [], alts := [], laidByText := true, laidKinds := [.data, .data, .data, .sentinel, .sentinel], laidTests := true, laidLooks := .later }
def ServeAnewCardSaid : Prop := Claim7.holds Tryz.pinned (.plain (OpenSpec.ofChange serveAnewSpec)) serveAnewCard

/-- THE TIED CARD OF 'underlaw12.ServeRefused'. -/
def serveRefusedCard : Claim7 := { stood := { row := serveRefusedRow, standIns := [], harness := (true, "a8b20c8e09782d1bdbaf8a3d50ca6add2844b2666d8d0351b82b9914fb277c83"), looks := true }, kinds := [], alts := [], laidByText := true, laidKinds := [.data, .data, .data, .sentinel, .sentinel], laidTests := true, laidLooks := .later }
def ServeRefusedCardSaid : Prop := Claim7.holds Tryz.pinned (.plain (OpenSpec.ofChange serveRefusedSpec)) serveRefusedCard

/-- THE TIED CARD OF 'underlaw12.ServeDiags'. -/
def serveDiagsCard : Claim7 := { stood := { row := serveDiagsRow, standIns := [], harness := (true, "a8b20c8e09782d1bdbaf8a3d50ca6add2844b2666d8d0351b82b9914fb277c83"), looks := true }, kinds := [], alts := [], laidByText := true, laidKinds := [.data, .data, .data, .sentinel, .sentinel], laidTests := true, laidLooks := .later }
def ServeDiagsCardSaid : Prop := Claim7.holds Tryz.pinned (.plain (OpenSpec.ofChange serveDiagsSpec)) serveDiagsCard

/-- THE TIED CARD OF 'undertop.TopDeep'. -/
def topDeepCard : Claim7 := { stood := { row := topDeepRow, standIns := [], harness := (true, "a8b20c8e09782d1bdbaf8a3d50ca6add2844b2666d8d0351b82b9914fb277c83"), looks := true }, kinds := [], alts := [], laidByText := true, laidKinds := [.data, .data, .data, .sentinel, .sentinel], laidTests := true, laidLooks := .later }
def TopDeepCardSaid : Prop := Claim7.holds Tryz.pinned (.plain (OpenSpec.ofChange topDeepSpec)) topDeepCard

/-- THE SECOND FORM's CARD OF 'undertop.TopLoop'. -/
def topLoopUptoCard : Claim7 := { stood := { row := topLoopUptoRow, standIns := [], harness := (true, "a8b20c8e09782d1bdbaf8a3d50ca6add2844b2666d8d0351b82b9914fb277c83"), looks := true }, kinds := [], alts := [], laidByText := true, laidKinds := [.data, .data, .data, .sentinel, .sentinel], laidTests := true, laidLooks := .later }
def TopLoopUptoCardSaid : Prop := Claim7.holds Tryz.pinned (.plain (OpenSpec.upto topLoopSpec)) topLoopUptoCard

/-- THE SECOND FORM's CARD OF 'undertop.TopType'. -/
def topTypeUptoCard : Claim7 := { stood := { row := topTypeUptoRow, standIns := [], harness := (true, "a8b20c8e09782d1bdbaf8a3d50ca6add2844b2666d8d0351b82b9914fb277c83"), looks := true }, kinds := [], alts := [], laidByText := true, laidKinds := [.data, .data, .data, .sentinel, .sentinel], laidTests := true, laidLooks := .later }
def TopTypeUptoCardSaid : Prop := Claim7.holds Tryz.pinned (.plain (OpenSpec.upto topTypeSpec)) topTypeUptoCard

/-- THE SECOND FORM's CARD OF 'underlaw8.InferTwice'. -/
def inferTwiceUptoCard : Claim7 := { stood := { row := inferTwiceUptoRow, standIns := [], harness := (true, "a8b20c8e09782d1bdbaf8a3d50ca6add2844b2666d8d0351b82b9914fb277c83"), looks := true }, kinds := [], alts := [], laidByText := true, laidKinds := [.data, .data, .data, .sentinel, .sentinel], laidTests := true, laidLooks := .later }
def InferTwiceUptoCardSaid : Prop := Claim7.holds Tryz.pinned (.plain (OpenSpec.upto inferTwiceSpec)) inferTwiceUptoCard

/-- THE SECOND FORM's CARD OF 'underlaw7.RunSends'. -/
def runSendsUptoCard : Claim7 := { stood := { row := runSendsUptoRow, standIns := [], harness := (true, "a8b20c8e09782d1bdbaf8a3d50ca6add2844b2666d8d0351b82b9914fb277c83"), looks := true }, kinds := [], alts := [], laidByText := true, laidKinds := [.data, .data, .data, .sentinel, .sentinel], laidTests := true, laidLooks := .later }
def RunSendsUptoCardSaid : Prop := Claim7.holds Tryz.pinned (.plain (OpenSpec.upto runSendsSpec)) runSendsUptoCard

/-- THE SECOND FORM's CARD OF 'underlaw7.RunSecret'. -/
def runSecretUptoCard : Claim7 := { stood := { row := runSecretUptoRow, standIns := [], harness := (true, "a8b20c8e09782d1bdbaf8a3d50ca6add2844b2666d8d0351b82b9914fb277c83"), looks := true }, kinds := [], alts := [], laidByText := true, laidKinds := [.data, .data, .data, .sentinel, .sentinel], laidTests := true, laidLooks := .later }
def RunSecretUptoCardSaid : Prop := Claim7.holds Tryz.pinned (.plain (OpenSpec.upto runSecretSpec)) runSecretUptoCard

/-- THE SECOND FORM's CARD OF 'underlaw7.RunSeen'. -/
def runSeenUptoCard : Claim7 := { stood := { row := runSeenUptoRow, standIns := [], harness := (true, "a8b20c8e09782d1bdbaf8a3d50ca6add2844b2666d8d0351b82b9914fb277c83"), looks := true }, kinds := [], alts := [], laidByText := true, laidKinds := [.data, .data, .data, .sentinel, .sentinel], laidTests := true, laidLooks := .later }
def RunSeenUptoCardSaid : Prop := Claim7.holds Tryz.pinned (.plain (OpenSpec.upto runSeenSpec)) runSeenUptoCard

/-- THE SECOND FORM's CARD OF 'underlaw10.RenameOnly'. -/
def renameOnlyUptoCard : Claim7 := { stood := { row := renameOnlyUptoRow, standIns := [], harness := (true, "a8b20c8e09782d1bdbaf8a3d50ca6add2844b2666d8d0351b82b9914fb277c83"), looks := true }, kinds := [], alts := [], laidByText := true, laidKinds := [.data, .data, .data, .sentinel, .sentinel], laidTests := true, laidLooks := .later }
def RenameOnlyUptoCardSaid : Prop := Claim7.holds Tryz.pinned (.plain (OpenSpec.upto renameOnlySpec)) renameOnlyUptoCard

/-- THE SECOND FORM's CARD OF 'underlaw12.ServeAll'. -/
def serveAllUptoCard : Claim7 := { stood := { row := serveAllUptoRow, standIns := [], harness := (true, "a8b20c8e09782d1bdbaf8a3d50ca6add2844b2666d8d0351b82b9914fb277c83"), looks := true }, kinds := [], alts := [], laidByText := true, laidKinds := [.data, .data, .data, .sentinel, .sentinel], laidTests := true, laidLooks := .later }
def ServeAllUptoCardSaid : Prop := Claim7.holds Tryz.pinned (.plain (OpenSpec.upto serveAllSpec)) serveAllUptoCard

/-- THE SECOND FORM's CARD OF 'underlaw12.ServeAnew'. -/
def serveAnewUptoCard : Claim7 := { stood := { row := serveAnewUptoRow, standIns := [], harness := (true, "a8b20c8e09782d1bdbaf8a3d50ca6add2844b2666d8d0351b82b9914fb277c83"), looks := true }, kinds := [], alts := [], laidByText := true, laidKinds := [.data, .data, .data, .sentinel, .sentinel], laidTests := true, laidLooks := .later }
def ServeAnewUptoCardSaid : Prop := Claim7.holds Tryz.pinned (.plain (OpenSpec.upto serveAnewSpec)) serveAnewUptoCard

/-- THE SECOND FORM's CARD OF 'underlaw12.ServeRefused'. -/
def serveRefusedUptoCard : Claim7 := { stood := { row := serveRefusedUptoRow, standIns := [], harness := (true, "a8b20c8e09782d1bdbaf8a3d50ca6add2844b2666d8d0351b82b9914fb277c83"), looks := true }, kinds := [], alts := [], laidByText := true, laidKinds := [.data, .data, .data, .sentinel, .sentinel], laidTests := true, laidLooks := .later }
def ServeRefusedUptoCardSaid : Prop := Claim7.holds Tryz.pinned (.plain (OpenSpec.upto serveRefusedSpec)) serveRefusedUptoCard

/-- THE SECOND FORM's CARD OF 'underlaw12.ServeDiags'. -/
def serveDiagsUptoCard : Claim7 := { stood := { row := serveDiagsUptoRow, standIns := [], harness := (true, "a8b20c8e09782d1bdbaf8a3d50ca6add2844b2666d8d0351b82b9914fb277c83"), looks := true }, kinds := [], alts := [], laidByText := true, laidKinds := [.data, .data, .data, .sentinel, .sentinel], laidTests := true, laidLooks := .later }
def ServeDiagsUptoCardSaid : Prop := Claim7.holds Tryz.pinned (.plain (OpenSpec.upto serveDiagsSpec)) serveDiagsUptoCard

/-- THE SECOND FORM's CARD OF 'undertop.TopDeep'. -/
def topDeepUptoCard : Claim7 := { stood := { row := topDeepUptoRow, standIns := [], harness := (true, "a8b20c8e09782d1bdbaf8a3d50ca6add2844b2666d8d0351b82b9914fb277c83"), looks := true }, kinds := [], alts := [], laidByText := true, laidKinds := [.data, .data, .data, .sentinel, .sentinel], laidTests := true, laidLooks := .later }
def TopDeepUptoCardSaid : Prop := Claim7.holds Tryz.pinned (.plain (OpenSpec.upto topDeepSpec)) topDeepUptoCard
end Rows
end Go.Proofs.YtfjdfdgpkncpfaaGreatDoor

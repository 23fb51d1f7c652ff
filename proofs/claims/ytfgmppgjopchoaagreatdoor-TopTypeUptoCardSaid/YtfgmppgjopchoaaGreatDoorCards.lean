/-
  DERIVED. GIVEN WITH THE SEED: THE CARDS: each row of YtfgmppgjopchoaaGreatDoorRows.lean that lists a variable, with what it lists TIED to the program's text (the seventh form; the later family's looks); each row that meets fmt, with fmt's text TOLD by the authors' own Lean function (tested against real Go, not proved from fmt's source: count such statements apart). THE CARD IS WHAT COUNTS. Prove the row's statement (the work); the ties are given (YtfgmppgjopchoaaGreatDoorTie.lean); close each card by the builder's one call (the guide's Derived/Test/ToyasCard.lean, 'card_holds'). Laid BY PROGRAM, IN A SANDBOX (cutbox-door.mjs). By AI agents, Wed Nov 11 2026. No macro, syntax, notation, axiom, sorry.
-/
import Derived.Test.YtfgmppgjopchoaaGreatDoorRows
import GoSem.ClaimSeven
namespace Go.Proofs.YtfgmppgjopchoaaGreatDoor
namespace Rows

/-- THE TIED CARD OF 'undertop.TopLoop'. -/
def topLoopCard : Claim7 := { stood := { row := topLoopRow, standIns := [], harness := (true, "86265dc03c43accb8773a1a94b96483df034f476add86cf61cdcbc99da2698e2"), looks := true }, kinds := [], alts := [], laidByText := true, laidKinds := [.data, .data, .data, .sentinel, .sentinel], laidTests := true, laidLooks := .later }
def TopLoopCardSaid : Prop := Claim7.holds Tryz.pinned (.plain (OpenSpec.ofChange topLoopSpec)) topLoopCard

/-- THE TIED CARD OF 'undertop.TopType'. -/
def topTypeCard : Claim7 := { stood := { row := topTypeRow, standIns := [], harness := (true, "86265dc03c43accb8773a1a94b96483df034f476add86cf61cdcbc99da2698e2"), looks := true }, kinds := [], alts := [], laidByText := true, laidKinds := [.data, .data, .data, .sentinel, .sentinel], laidTests := true, laidLooks := .later }
def TopTypeCardSaid : Prop := Claim7.holds Tryz.pinned (.plain (OpenSpec.ofChange topTypeSpec)) topTypeCard

/-- THE TIED CARD OF 'underlaw12.ServeAll'. -/
def serveAllCard : Claim7 := { stood := { row := serveAllRow, standIns := [], harness := (true, "86265dc03c43accb8773a1a94b96483df034f476add86cf61cdcbc99da2698e2"), looks := true }, kinds := [], alts := [], laidByText := true, laidKinds := [.data, .data, .data, .sentinel, .sentinel], laidTests := true, laidLooks := .later }
def ServeAllCardSaid : Prop := Claim7.holds Tryz.pinned (.plain (OpenSpec.ofChange serveAllSpec)) serveAllCard

/-- THE TIED CARD OF 'underlaw12.ServeRefused'. -/
def serveRefusedCard : Claim7 := { stood := { row := serveRefusedRow, standIns := [], harness := (true, "86265dc03c43accb8773a1a94b96483df034f476add86cf61cdcbc99da2698e2"), looks := true }, kinds := [], alts := [], laidByText := true, laidKinds := [.data, .data, .data, .sentinel, .sentinel], laidTests := true, laidLooks := .later }
def ServeRefusedCardSaid : Prop := Claim7.holds Tryz.pinned (.plain (OpenSpec.ofChange serveRefusedSpec)) serveRefusedCard

/-- THE TIED CARD OF 'underlaw12.ServeDiags'. -/
def serveDiagsCard : Claim7 := { stood := { row := serveDiagsRow, standIns := [], harness := (true, "86265dc03c43accb8773a1a94b96483df034f476add86cf61cdcbc99da2698e2"), looks := true }, kinds := [], alts := [], laidByText := true, laidKinds := [.data, .data, .data, .sentinel, .sentinel], laidTests := true, laidLooks := .later }
def ServeDiagsCardSaid : Prop := Claim7.holds Tryz.pinned (.plain (OpenSpec.ofChange serveDiagsSpec)) serveDiagsCard

/-- THE TIED CARD OF 'undertop.TopDeep'. -/
def topDeepCard : Claim7 := { stood := { row := topDeepRow, standIns := [], harness := (true, "86265dc03c43accb8773a1a94b96483df034f476add86cf61cdcbc99da2698e2"), looks := true }, kinds := [], alts := [], laidByText := true, laidKinds := [.data, .data, .data, .sentinel, .sentinel], laidTests := true, laidLooks := .later }
def TopDeepCardSaid : Prop := Claim7.holds Tryz.pinned (.plain (OpenSpec.ofChange topDeepSpec)) topDeepCard

/-- THE SECOND FORM's CARD OF 'undertop.TopLoop'. -/
def topLoopUptoCard : Claim7 := { stood := { row := topLoopUptoRow, standIns := [], harness := (true, "86265dc03c43accb8773a1a94b96483df034f476add86cf61cdcbc99da2698e2"), looks := true }, kinds := [], alts := [], laidByText := true, laidKinds := [.data, .data, .data, .sentinel, .sentinel], laidTests := true, laidLooks := .later }
def TopLoopUptoCardSaid : Prop := Claim7.holds Tryz.pinned (.plain (OpenSpec.upto topLoopSpec)) topLoopUptoCard

/-- THE SECOND FORM's CARD OF 'undertop.TopType'. -/
def topTypeUptoCard : Claim7 := { stood := { row := topTypeUptoRow, standIns := [], harness := (true, "86265dc03c43accb8773a1a94b96483df034f476add86cf61cdcbc99da2698e2"), looks := true }, kinds := [], alts := [], laidByText := true, laidKinds := [.data, .data, .data, .sentinel, .sentinel], laidTests := true, laidLooks := .later }
def TopTypeUptoCardSaid : Prop := Claim7.holds Tryz.pinned (.plain (OpenSpec.upto topTypeSpec)) topTypeUptoCard

/-- THE SECOND FORM's CARD OF 'underlaw12.ServeAll'. -/
def serveAllUptoCard : Claim7 := { stood := { row := serveAllUptoRow, standIns := [], harness := (true, "86265dc03c43accb8773a1a94b96483df034f476add86cf61cdcbc99da2698e2"), looks := true }, kinds := [], alts := [], laidByText := true, laidKinds := [.data, .data, .data, .sentinel, .sentinel], laidTests := true, laidLooks := .later }
def ServeAllUptoCardSaid : Prop := Claim7.holds Tryz.pinned (.plain (OpenSpec.upto serveAllSpec)) serveAllUptoCard

/-- THE SECOND FORM's CARD OF 'underlaw12.ServeRefused'. -/
def serveRefusedUptoCard : Claim7 := { stood := { row := serveRefusedUptoRow, standIns := [], harness := (true, "86265dc03c43accb8773a1a94b96483df034f476add86cf61cdcbc99da2698e2"), looks := true }, kinds := [], alts := [], laidByText := true, laidKinds := [.data, .data, .data, .sentinel, .sentinel], laidTests := true, laidLooks := .later }
def ServeRefusedUptoCardSaid : Prop := Claim7.holds Tryz.pinned (.plain (OpenSpec.upto serveRefusedSpec)) serveRefusedUptoCard

/-- THE SECOND FORM's CARD OF 'underlaw12.ServeDiags'. -/
def serveDiagsUptoCard : Claim7 := { stood := { row := serveDiagsUptoRow, standIns := [], harness := (true, "86265dc03c43accb8773a1a94b96483df034f476add86cf61cdcbc99da2698e2"), looks := true }, kinds := [], alts := [], laidByText := true, laidKinds := [.data, .data, .data, .sentinel, .sentinel], laidTests := true, laidLooks := .later }
def ServeDiagsUptoCardSaid : Prop := Claim7.holds Tryz.pinned (.plain (OpenSpec.upto serveDiagsSpec)) serveDiagsUptoCard

/-- THE SECOND FORM's CARD OF 'undertop.TopDeep'. -/
def topDeepUptoCard : Claim7 := { stood := { row := topDeepUptoRow, standIns := [], harness := (true, "86265dc03c43accb8773a1a94b96483df034f476add86cf61cdcbc99da2698e2"), looks := true }, kinds := [], alts := [], laidByText := true, laidKinds := [.data, .data, .data, .sentinel, .sentinel], laidTests := true, laidLooks := .later }
def TopDeepUptoCardSaid : Prop := Claim7.holds Tryz.pinned (.plain (OpenSpec.upto topDeepSpec)) topDeepUptoCard
end Rows
end Go.Proofs.YtfgmppgjopchoaaGreatDoor

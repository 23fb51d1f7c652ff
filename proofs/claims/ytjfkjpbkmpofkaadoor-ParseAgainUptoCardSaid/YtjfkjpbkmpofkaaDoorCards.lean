/-
  DERIVED. GIVEN WITH THE SEED: THE CARDS: each row of YtjfkjpbkmpofkaaDoorRows.lean that lists a variable, with what it lists TIED to the program's text (the seventh form; the later family's looks); each row that meets fmt, with fmt's text TOLD by the authors' own Lean function (tested against real Go, not proved from fmt's source: count such statements apart). THE CARD IS WHAT COUNTS. Prove the row's statement (the work); the ties are given (YtjfkjpbkmpofkaaDoorTie.lean); close each card by the builder's one call (the guide's Derived/Test/ToyasCard.lean, 'card_holds'). Laid BY PROGRAM, IN A SANDBOX (cutbox-door.mjs). By AI agents, Wed Nov 11 2026. No macro, syntax, notation, axiom, sorry.
-/
import Derived.Test.YtjfkjpbkmpofkaaDoorRows
import GoSem.ClaimSeven
namespace Go.Proofs.YtjfkjpbkmpofkaaDoor
namespace Rows

/-- THE TIED CARD OF 'underlaw3.ParseAgain'. -/
def parseAgainCard : Claim7 := { stood := { row := parseAgainRow, standIns := [], harness := (true, "55011af308743722182d075f391032a7a0ab0386fca1f8e2afb92f6d1f94895a"), looks := true }, kinds := [], alts := [], laidByText := true, laidKinds := [.data, .data, .data, .sentinel, .sentinel], laidTests := true, laidLooks := .later }
def ParseAgainCardSaid : Prop := Claim7.holds Tryd.pinned (.plain (OpenSpec.ofChange parseAgainSpec)) parseAgainCard

/-- THE TIED CARD OF 'underlaw3.ParseFew'. -/
def parseFewCard : Claim7 := { stood := { row := parseFewRow, standIns := [], harness := (true, "55011af308743722182d075f391032a7a0ab0386fca1f8e2afb92f6d1f94895a"), looks := true }, kinds := [], alts := [], laidByText := true, laidKinds := [.data, .data, .data, .sentinel, .sentinel], laidTests := true, laidLooks := .later }
def ParseFewCardSaid : Prop := Claim7.holds Tryd.pinned (.plain (OpenSpec.ofChange parseFewSpec)) parseFewCard

/-- THE TIED CARD OF 'underlaw3.ParseWhole'. -/
def parseWholeCard : Claim7 := { stood := { row := parseWholeRow, standIns := [], harness := (true, "55011af308743722182d075f391032a7a0ab0386fca1f8e2afb92f6d1f94895a"), looks := true }, kinds := [], alts := [], laidByText := true, laidKinds := [.data, .data, .data, .sentinel, .sentinel], laidTests := true, laidLooks := .later }
def ParseWholeCardSaid : Prop := Claim7.holds Tryd.pinned (.plain (OpenSpec.ofChange parseWholeSpec)) parseWholeCard

/-- THE TIED CARD OF 'underlaw3.ParseBad'. -/
def parseBadCard : Claim7 := { stood := { row := parseBadRow, standIns := [], harness := (true, "55011af308743722182d075f391032a7a0ab0386fca1f8e2afb92f6d1f94895a"), looks := true }, kinds := [], alts := [], laidByText := true, laidKinds := [.data, .data, .data, .sentinel, .sentinel], laidTests := true, laidLooks := .later }
def ParseBadCardSaid : Prop := Claim7.holds Tryd.pinned (.plain (OpenSpec.ofChange parseBadSpec)) parseBadCard

/-- THE SECOND FORM's CARD OF 'underlaw3.ParseAgain'. -/
def parseAgainUptoCard : Claim7 := { stood := { row := parseAgainUptoRow, standIns := [], harness := (true, "55011af308743722182d075f391032a7a0ab0386fca1f8e2afb92f6d1f94895a"), looks := true }, kinds := [], alts := [], laidByText := true, laidKinds := [.data, .data, .data, .sentinel, .sentinel], laidTests := true, laidLooks := .later }
def ParseAgainUptoCardSaid : Prop := Claim7.holds Tryd.pinned (.plain (OpenSpec.upto parseAgainSpec)) parseAgainUptoCard

/-- THE SECOND FORM's CARD OF 'underlaw3.ParseFew'. -/
def parseFewUptoCard : Claim7 := { stood := { row := parseFewUptoRow, standIns := [], harness := (true, "55011af308743722182d075f391032a7a0ab0386fca1f8e2afb92f6d1f94895a"), looks := true }, kinds := [], alts := [], laidByText := true, laidKinds := [.data, .data, .data, .sentinel, .sentinel], laidTests := true, laidLooks := .later }
def ParseFewUptoCardSaid : Prop := Claim7.holds Tryd.pinned (.plain (OpenSpec.upto parseFewSpec)) parseFewUptoCard

/-- THE SECOND FORM's CARD OF 'underlaw3.ParseWhole'. -/
def parseWholeUptoCard : Claim7 := { stood := { row := parseWholeUptoRow, standIns := [], harness := (true, "55011af308743722182d075f391032a7a0ab0386fca1f8e2afb92f6d1f94895a"), looks := true }, kinds := [], alts := [], laidByText := true, laidKinds := [.data, .data, .data, .sentinel, .sentinel], laidTests := true, laidLooks := .later }
def ParseWholeUptoCardSaid : Prop := Claim7.holds Tryd.pinned (.plain (OpenSpec.upto parseWholeSpec)) parseWholeUptoCard

/-- THE SECOND FORM's CARD OF 'underlaw3.ParseBad'. -/
def parseBadUptoCard : Claim7 := { stood := { row := parseBadUptoRow, standIns := [], harness := (true, "55011af308743722182d075f391032a7a0ab0386fca1f8e2afb92f6d1f94895a"), looks := true }, kinds := [], alts := [], laidByText := true, laidKinds := [.data, .data, .data, .sentinel, .sentinel], laidTests := true, laidLooks := .later }
def ParseBadUptoCardSaid : Prop := Claim7.holds Tryd.pinned (.plain (OpenSpec.upto parseBadSpec)) parseBadUptoCard
end Rows
end Go.Proofs.YtjfkjpbkmpofkaaDoor

/-
  DERIVED. GIVEN WITH THE SEED: THE CARDS: each row of YtkbiakajlfmakaaDoorRows.lean that lists a variable, with what it lists TIED to the program's text (the seventh form; the later family's looks); each row that meets fmt, with fmt's text TOLD by the authors' own Lean function (tested against real Go, not proved from fmt's source: count such statements apart). THE CARD IS WHAT COUNTS. Prove the row's statement (the work); the ties are given (YtkbiakajlfmakaaDoorTie.lean); close each card by the builder's one call (the guide's Derived/Test/ToyasCard.lean, 'card_holds'). Laid BY PROGRAM, IN A SANDBOX (cutbox-door.mjs). By AI agents, Wed Nov 11 2026. No macro, syntax, notation, axiom, sorry.
-/
import Derived.Test.YtkbiakajlfmakaaDoorRows
import GoSem.ClaimSeven
namespace Go.Proofs.YtkbiakajlfmakaaDoor
namespace Rows

/-- THE TIED CARD OF 'underlaw9.WriteTells'. -/
def writeTellsCard : Claim7 := { stood := { row := writeTellsRow, standIns := [], harness := (true, "884303b42f33120b021f509f362b0a50504d7207279c816648cc8f2072dbae17"), looks := true }, kinds := [], alts := [], laidByText := true, laidKinds := [.data, .data, .data], laidTests := true, laidLooks := .later }
def WriteTellsCardSaid : Prop := Claim7.holds Tryd.pinned (.plain (OpenSpec.ofChange writeTellsSpec)) writeTellsCard

/-- THE TIED CARD OF 'underlaw11.FrameTells'. -/
def frameTellsCard : Claim7 := { stood := { row := frameTellsRow, standIns := [], harness := (true, "884303b42f33120b021f509f362b0a50504d7207279c816648cc8f2072dbae17"), looks := true }, kinds := [], alts := [], laidByText := true, laidKinds := [.data, .data, .data, .sentinel, .sentinel], laidTests := true, laidLooks := .later }
def FrameTellsCardSaid : Prop := Claim7.holds Tryd.pinned (.plain (OpenSpec.ofChange frameTellsSpec)) frameTellsCard

/-- THE TIED CARD OF 'underlaw11.FrameTurns'. -/
def frameTurnsCard : Claim7 := { stood := { row := frameTurnsRow, standIns := [], harness := (true, "884303b42f33120b021f509f362b0a50504d7207279c816648cc8f2072dbae17"), looks := true }, kinds := [], alts := [], laidByText := true, laidKinds := [.data, .data, .data, .sentinel, .sentinel], laidTests := true, laidLooks := .later }
def FrameTurnsCardSaid : Prop := Claim7.holds Tryd.pinned (.plain (OpenSpec.ofChange frameTurnsSpec)) frameTurnsCard

/-- THE TIED CARD OF 'underlaw11.FrameJoined'. -/
def frameJoinedCard : Claim7 := { stood := { row := frameJoinedRow, standIns := [], harness := (true, "884303b42f33120b021f509f362b0a50504d7207279c816648cc8f2072dbae17"), looks := true }, kinds := [], alts := [], laidByText := true, laidKinds := [.data, .data, .data, .sentinel, .sentinel], laidTests := true, laidLooks := .later }
def FrameJoinedCardSaid : Prop := Claim7.holds Tryd.pinned (.plain (OpenSpec.ofChange frameJoinedSpec)) frameJoinedCard

/-- THE TIED CARD OF 'underlaw4.NamesUses'. -/
def namesUsesCard : Claim7 := { stood := { row := namesUsesRow, standIns := [], harness := (true, "884303b42f33120b021f509f362b0a50504d7207279c816648cc8f2072dbae17"), looks := true }, kinds := [], alts := [], laidByText := true, laidKinds := [.data, .data, .data, .sentinel, .sentinel], laidTests := true, laidLooks := .later }
def NamesUsesCardSaid : Prop := Claim7.holds Tryd.pinned (.plain (OpenSpec.ofChange namesUsesSpec)) namesUsesCard

/-- THE TIED CARD OF 'underlaw4.NamesMore'. -/
def namesMoreCard : Claim7 := { stood := { row := namesMoreRow, standIns := [], harness := (true, "884303b42f33120b021f509f362b0a50504d7207279c816648cc8f2072dbae17"), looks := true }, kinds := [], alts := [], laidByText := true, laidKinds := [.data, .data, .data, .sentinel, .sentinel], laidTests := true, laidLooks := .later }
def NamesMoreCardSaid : Prop := Claim7.holds Tryd.pinned (.plain (OpenSpec.ofChange namesMoreSpec)) namesMoreCard

/-- THE TIED CARD OF 'underlaw6.FlowNone'. -/
def flowNoneCard : Claim7 := { stood := { row := flowNoneRow, standIns := [], harness := (true, "884303b42f33120b021f509f362b0a50504d7207279c816648cc8f2072dbae17"), looks := true }, kinds := [], alts := [], laidByText := true, laidKinds := [.data, .data, .data, .sentinel, .sentinel], laidTests := true, laidLooks := .later }
def FlowNoneCardSaid : Prop := Claim7.holds Tryd.pinned (.plain (OpenSpec.ofChange flowNoneSpec)) flowNoneCard

/-- THE TIED CARD OF 'underlaw6.FlowMore'. -/
def flowMoreCard : Claim7 := { stood := { row := flowMoreRow, standIns := [], harness := (true, "884303b42f33120b021f509f362b0a50504d7207279c816648cc8f2072dbae17"), looks := true }, kinds := [], alts := [], laidByText := true, laidKinds := [.data, .data, .data, .sentinel, .sentinel], laidTests := true, laidLooks := .later }
def FlowMoreCardSaid : Prop := Claim7.holds Tryd.pinned (.plain (OpenSpec.ofChange flowMoreSpec)) flowMoreCard

/-- THE TIED CARD OF 'underlaw5.EffectLeast'. -/
def effectLeastCard : Claim7 := { stood := { row := effectLeastRow, standIns := [], harness := (true, "884303b42f33120b021f509f362b0a50504d7207279c816648cc8f2072dbae17"), looks := true }, kinds := [], alts := [], laidByText := true, laidKinds := [.data, .data, .data, .sentinel, .sentinel], laidTests := true, laidLooks := .later }
def EffectLeastCardSaid : Prop := Claim7.holds Tryd.pinned (.plain (OpenSpec.ofChange effectLeastSpec)) effectLeastCard

/-- THE SECOND FORM's CARD OF 'underlaw9.WriteTells'. -/
def writeTellsUptoCard : Claim7 := { stood := { row := writeTellsUptoRow, standIns := [], harness := (true, "884303b42f33120b021f509f362b0a50504d7207279c816648cc8f2072dbae17"), looks := true }, kinds := [], alts := [], laidByText := true, laidKinds := [.data, .data, .data], laidTests := true, laidLooks := .later }
def WriteTellsUptoCardSaid : Prop := Claim7.holds Tryd.pinned (.plain (OpenSpec.upto writeTellsSpec)) writeTellsUptoCard

/-- THE SECOND FORM's CARD OF 'underlaw11.FrameTells'. -/
def frameTellsUptoCard : Claim7 := { stood := { row := frameTellsUptoRow, standIns := [], harness := (true, "884303b42f33120b021f509f362b0a50504d7207279c816648cc8f2072dbae17"), looks := true }, kinds := [], alts := [], laidByText := true, laidKinds := [.data, .data, .data, .sentinel, .sentinel], laidTests := true, laidLooks := .later }
def FrameTellsUptoCardSaid : Prop := Claim7.holds Tryd.pinned (.plain (OpenSpec.upto frameTellsSpec)) frameTellsUptoCard

/-- THE SECOND FORM's CARD OF 'underlaw11.FrameTurns'. -/
def frameTurnsUptoCard : Claim7 := { stood := { row := frameTurnsUptoRow, standIns := [], harness := (true, "884303b42f33120b021f509f362b0a50504d7207279c816648cc8f2072dbae17"), looks := true }, kinds := [], alts := [], laidByText := true, laidKinds := [.data, .data, .data, .sentinel, .sentinel], laidTests := true, laidLooks := .later }
def FrameTurnsUptoCardSaid : Prop := Claim7.holds Tryd.pinned (.plain (OpenSpec.upto frameTurnsSpec)) frameTurnsUptoCard

/-- THE SECOND FORM's CARD OF 'underlaw11.FrameJoined'. -/
def frameJoinedUptoCard : Claim7 := { stood := { row := frameJoinedUptoRow, standIns := [], harness := (true, "884303b42f33120b021f509f362b0a50504d7207279c816648cc8f2072dbae17"), looks := true }, kinds := [], alts := [], laidByText := true, laidKinds := [.data, .data, .data, .sentinel, .sentinel], laidTests := true, laidLooks := .later }
def FrameJoinedUptoCardSaid : Prop := Claim7.holds Tryd.pinned (.plain (OpenSpec.upto frameJoinedSpec)) frameJoinedUptoCard

/-- THE SECOND FORM's CARD OF 'underlaw4.NamesUses'. -/
def namesUsesUptoCard : Claim7 := { stood := { row := namesUsesUptoRow, standIns := [], harness := (true, "884303b42f33120b021f509f362b0a50504d7207279c816648cc8f2072dbae17"), looks := true }, kinds := [], alts := [], laidByText := true, laidKinds := [.data, .data, .data, .sentinel, .sentinel], laidTests := true, laidLooks := .later }
def NamesUsesUptoCardSaid : Prop := Claim7.holds Tryd.pinned (.plain (OpenSpec.upto namesUsesSpec)) namesUsesUptoCard

/-- THE SECOND FORM's CARD OF 'underlaw4.NamesMore'. -/
def namesMoreUptoCard : Claim7 := { stood := { row := namesMoreUptoRow, standIns := [], harness := (true, "884303b42f33120b021f509f362b0a50504d7207279c816648cc8f2072dbae17"), looks := true }, kinds := [], alts := [], laidByText := true, laidKinds := [.data, .data, .data, .sentinel, .sentinel], laidTests := true, laidLooks := .later }
def NamesMoreUptoCardSaid : Prop := Claim7.holds Tryd.pinned (.plain (OpenSpec.upto namesMoreSpec)) namesMoreUptoCard

/-- THE SECOND FORM's CARD OF 'underlaw6.FlowNone'. -/
def flowNoneUptoCard : Claim7 := { stood := { row := flowNoneUptoRow, standIns := [], harness := (true, "884303b42f33120b021f509f362b0a50504d7207279c816648cc8f2072dbae17"), looks := true }, kinds := [], alts := [], laidByText := true, laidKinds := [.data, .data, .data, .sentinel, .sentinel], laidTests := true, laidLooks := .later }
def FlowNoneUptoCardSaid : Prop := Claim7.holds Tryd.pinned (.plain (OpenSpec.upto flowNoneSpec)) flowNoneUptoCard

/-- THE SECOND FORM's CARD OF 'underlaw6.FlowMore'. -/
def flowMoreUptoCard : Claim7 := { stood := { row := flowMoreUptoRow, standIns := [], harness := (true, "884303b42f33120b021f509f362b0a50504d7207279c816648cc8f2072dbae17"), looks := true }, kinds := [], alts := [], laidByText := true, laidKinds := [.data, .data, .data, .sentinel, .sentinel], laidTests := true, laidLooks := .later }
def FlowMoreUptoCardSaid : Prop := Claim7.holds Tryd.pinned (.plain (OpenSpec.upto flowMoreSpec)) flowMoreUptoCard

/-- THE SECOND FORM's CARD OF 'underlaw5.EffectLeast'. -/
def effectLeastUptoCard : Claim7 := { stood := { row := effectLeastUptoRow, standIns := [], harness := (true, "884303b42f33120b021f509f362b0a50504d7207279c816648cc8f2072dbae17"), looks := true }, kinds := [], alts := [], laidByText := true, laidKinds := [.data, .data, .data, .sentinel, .sentinel], laidTests := true, laidLooks := .later }
def EffectLeastUptoCardSaid : Prop := Claim7.holds Tryd.pinned (.plain (OpenSpec.upto effectLeastSpec)) effectLeastUptoCard
end Rows
end Go.Proofs.YtkbiakajlfmakaaDoor

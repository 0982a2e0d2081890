/-
  DERIVED. GIVEN WITH THE SEED: THE CARDS: each row of YtmidfknlmjgjpaaDoorRows.lean that lists a variable, with what it lists TIED to the program's text (the seventh form; the later family's looks); each row that meets fmt, with fmt's text TOLD by the authors' own Lean function (tested against real Go, not proved from fmt's source: count such statements apart). THE CARD IS WHAT COUNTS. Prove the row's statement (the work); the ties are given (YtmidfknlmjgjpaaDoorTie.lean); close each card by the builder's one call (the guide's Derived/Test/ToyasCard.lean, 'card_holds'). Laid BY PROGRAM, IN A SANDBOX (cutbox-door.mjs). By AI agents, Wed Nov 11 2026. No macro, syntax, notation, axiom, sorry.
-/
import Derived.Test.YtmidfknlmjgjpaaDoorRows
import GoSem.ClaimSeven
namespace Go.Proofs.YtmidfknlmjgjpaaDoor
namespace Rows

/-- THE TIED CARD OF 'comptorlaw17.MsgUnlike'. -/
def msgUnlikeCard : Claim7 := { stood := { row := msgUnlikeRow, standIns := [], harness := (true, "4ac8b772635e3103539d69f168fabc30d40781914b92fe2d7ef84a125697b80d"), looks := false }, kinds := [], alts := [], laidByText := true, laidKinds := [.data], laidTests := true, laidLooks := .later }
def MsgUnlikeCardSaid : Prop := Claim7.holds Tryd.pinned (.plain (OpenSpec.ofChange msgUnlikeSpec)) msgUnlikeCard

/-- THE TIED CARD OF 'comptorlaw22.ClientSame'. -/
def clientSameCard : Claim7 := { stood := { row := clientSameRow, standIns := [], harness := (true, "4ac8b772635e3103539d69f168fabc30d40781914b92fe2d7ef84a125697b80d"), looks := false }, kinds := [], alts := [], laidByText := true, laidKinds := [.data], laidTests := true, laidLooks := .later }
def ClientSameCardSaid : Prop := Claim7.holds Tryd.pinned (.plain (OpenSpec.ofChange clientSameSpec)) clientSameCard

/-- THE TIED CARD OF 'comptorlaw17.MsgEncodes'. -/
def msgEncodesCard : Claim7 := { stood := { row := msgEncodesRow, standIns := [], harness := (true, "4ac8b772635e3103539d69f168fabc30d40781914b92fe2d7ef84a125697b80d"), looks := false }, kinds := [], alts := [], laidByText := true, laidKinds := [.data], laidTests := true, laidLooks := .later }
def MsgEncodesCardSaid : Prop := Claim7.holds Tryd.pinned (.plain (OpenSpec.ofChange msgEncodesSpec)) msgEncodesCard

/-- THE TIED CARD OF 'comptorlaw17.MsgDecodes'. -/
def msgDecodesCard : Claim7 := { stood := { row := msgDecodesRow, standIns := [], harness := (true, "4ac8b772635e3103539d69f168fabc30d40781914b92fe2d7ef84a125697b80d"), looks := false }, kinds := [], alts := [], laidByText := true, laidKinds := [.data], laidTests := true, laidLooks := .later }
def MsgDecodesCardSaid : Prop := Claim7.holds Tryd.pinned (.plain (OpenSpec.ofChange msgDecodesSpec)) msgDecodesCard

/-- THE TIED CARD OF 'comptorlaw17.MsgTurns'. -/
def msgTurnsCard : Claim7 := { stood := { row := msgTurnsRow, standIns := [], harness := (true, "4ac8b772635e3103539d69f168fabc30d40781914b92fe2d7ef84a125697b80d"), looks := false }, kinds := [], alts := [], laidByText := true, laidKinds := [.data], laidTests := true, laidLooks := .later }
def MsgTurnsCardSaid : Prop := Claim7.holds Tryd.pinned (.plain (OpenSpec.ofChange msgTurnsSpec)) msgTurnsCard

/-- THE TIED CARD OF 'comptorlaw22.ClientOnce'. -/
def clientOnceCard : Claim7 := { stood := { row := clientOnceRow, standIns := [], harness := (true, "4ac8b772635e3103539d69f168fabc30d40781914b92fe2d7ef84a125697b80d"), looks := false }, kinds := [], alts := [], laidByText := true, laidKinds := [.data], laidTests := true, laidLooks := .later }
def ClientOnceCardSaid : Prop := Claim7.holds Tryd.pinned (.plain (OpenSpec.ofChange clientOnceSpec)) clientOnceCard

/-- THE TIED CARD OF 'comptorlaw22.ClientNil'. -/
def clientNilCard : Claim7 := { stood := { row := clientNilRow, standIns := [], harness := (true, "4ac8b772635e3103539d69f168fabc30d40781914b92fe2d7ef84a125697b80d"), looks := false }, kinds := [], alts := [], laidByText := true, laidKinds := [.data], laidTests := true, laidLooks := .later }
def ClientNilCardSaid : Prop := Claim7.holds Tryd.pinned (.plain (OpenSpec.ofChange clientNilSpec)) clientNilCard

/-- THE SECOND FORM's CARD OF 'comptorlaw17.MsgUnlike'. -/
def msgUnlikeUptoCard : Claim7 := { stood := { row := msgUnlikeUptoRow, standIns := [], harness := (true, "4ac8b772635e3103539d69f168fabc30d40781914b92fe2d7ef84a125697b80d"), looks := false }, kinds := [], alts := [], laidByText := true, laidKinds := [.data], laidTests := true, laidLooks := .later }
def MsgUnlikeUptoCardSaid : Prop := Claim7.holds Tryd.pinned (.plain (OpenSpec.upto msgUnlikeSpec)) msgUnlikeUptoCard

/-- THE SECOND FORM's CARD OF 'comptorlaw22.ClientSame'. -/
def clientSameUptoCard : Claim7 := { stood := { row := clientSameUptoRow, standIns := [], harness := (true, "4ac8b772635e3103539d69f168fabc30d40781914b92fe2d7ef84a125697b80d"), looks := false }, kinds := [], alts := [], laidByText := true, laidKinds := [.data], laidTests := true, laidLooks := .later }
def ClientSameUptoCardSaid : Prop := Claim7.holds Tryd.pinned (.plain (OpenSpec.upto clientSameSpec)) clientSameUptoCard

/-- THE SECOND FORM's CARD OF 'comptorlaw17.MsgEncodes'. -/
def msgEncodesUptoCard : Claim7 := { stood := { row := msgEncodesUptoRow, standIns := [], harness := (true, "4ac8b772635e3103539d69f168fabc30d40781914b92fe2d7ef84a125697b80d"), looks := false }, kinds := [], alts := [], laidByText := true, laidKinds := [.data], laidTests := true, laidLooks := .later }
def MsgEncodesUptoCardSaid : Prop := Claim7.holds Tryd.pinned (.plain (OpenSpec.upto msgEncodesSpec)) msgEncodesUptoCard

/-- THE SECOND FORM's CARD OF 'comptorlaw17.MsgDecodes'. -/
def msgDecodesUptoCard : Claim7 := { stood := { row := msgDecodesUptoRow, standIns := [], harness := (true, "4ac8b772635e3103539d69f168fabc30d40781914b92fe2d7ef84a125697b80d"), looks := false }, kinds := [], alts := [], laidByText := true, laidKinds := [.data], laidTests := true, laidLooks := .later }
def MsgDecodesUptoCardSaid : Prop := Claim7.holds Tryd.pinned (.plain (OpenSpec.upto msgDecodesSpec)) msgDecodesUptoCard

/-- THE SECOND FORM's CARD OF 'comptorlaw17.MsgTurns'. -/
def msgTurnsUptoCard : Claim7 := { stood := { row := msgTurnsUptoRow, standIns := [], harness := (true, "4ac8b772635e3103539d69f168fabc30d40781914b92fe2d7ef84a125697b80d"), looks := false }, kinds := [], alts := [], laidByText := true, laidKinds := [.data], laidTests := true, laidLooks := .later }
def MsgTurnsUptoCardSaid : Prop := Claim7.holds Tryd.pinned (.plain (OpenSpec.upto msgTurnsSpec)) msgTurnsUptoCard

/-- THE SECOND FORM's CARD OF 'comptorlaw22.ClientOnce'. -/
def clientOnceUptoCard : Claim7 := { stood := { row := clientOnceUptoRow, standIns := [], harness := (true, "4ac8b772635e3103539d69f168fabc30d40781914b92fe2d7ef84a125697b80d"), looks := false }, kinds := [], alts := [], laidByText := true, laidKinds := [.data], laidTests := true, laidLooks := .later }
def ClientOnceUptoCardSaid : Prop := Claim7.holds Tryd.pinned (.plain (OpenSpec.upto clientOnceSpec)) clientOnceUptoCard

/-- THE SECOND FORM's CARD OF 'comptorlaw22.ClientNil'. -/
def clientNilUptoCard : Claim7 := { stood := { row := clientNilUptoRow, standIns := [], harness := (true, "4ac8b772635e3103539d69f168fabc30d40781914b92fe2d7ef84a125697b80d"), looks := false }, kinds := [], alts := [], laidByText := true, laidKinds := [.data], laidTests := true, laidLooks := .later }
def ClientNilUptoCardSaid : Prop := Claim7.holds Tryd.pinned (.plain (OpenSpec.upto clientNilSpec)) clientNilUptoCard
end Rows
end Go.Proofs.YtmidfknlmjgjpaaDoor

/-
  DERIVED. GIVEN WITH THE SEED: THE CARDS: each row of YtllchhcdpfiodaaDoorRows.lean that lists a variable, with what it lists TIED to the program's text (the seventh form; the later family's looks); each row that meets fmt, with fmt's text TOLD by the authors' own Lean function (tested against real Go, not proved from fmt's source: count such statements apart). THE CARD IS WHAT COUNTS. Prove the row's statement (the work); the ties are given (YtllchhcdpfiodaaDoorTie.lean); close each card by the builder's one call (the guide's Derived/Test/ToyasCard.lean, 'card_holds'). Laid BY PROGRAM, IN A SANDBOX (cutbox-door.mjs). By AI agents, Wed Nov 11 2026. No macro, syntax, notation, axiom, sorry.
-/
import Derived.Test.YtllchhcdpfiodaaDoorRows
import GoSem.ClaimSeven
namespace Go.Proofs.YtllchhcdpfiodaaDoor
namespace Rows

/-- THE TIED CARD OF 'psalterylaw09.LapTurns'. -/
def lapTurnsCard : Claim7 := { stood := { row := lapTurnsRow, standIns := [], harness := (true, "8638fc0fe754741ea9dbcc459025a83affa5426b0c39cdcea04ae0ea3c6db5a2"), looks := false }, kinds := [], alts := [], laidByText := true, laidKinds := [.data], laidTests := true, laidLooks := .later }
def LapTurnsCardSaid : Prop := Claim7.holds Tryd.pinned (.plain (OpenSpec.ofChange lapTurnsSpec)) lapTurnsCard

/-- THE TIED CARD OF 'psalterylaw09.LapBacks'. -/
def lapBacksCard : Claim7 := { stood := { row := lapBacksRow, standIns := [], harness := (true, "8638fc0fe754741ea9dbcc459025a83affa5426b0c39cdcea04ae0ea3c6db5a2"), looks := false }, kinds := [], alts := [], laidByText := true, laidKinds := [.data], laidTests := true, laidLooks := .later }
def LapBacksCardSaid : Prop := Claim7.holds Tryd.pinned (.plain (OpenSpec.ofChange lapBacksSpec)) lapBacksCard

/-- THE TIED CARD OF 'psalterylaw09.LapFrames'. -/
def lapFramesCard : Claim7 := { stood := { row := lapFramesRow, standIns := [], harness := (true, "8638fc0fe754741ea9dbcc459025a83affa5426b0c39cdcea04ae0ea3c6db5a2"), looks := false }, kinds := [], alts := [], laidByText := true, laidKinds := [.data], laidTests := true, laidLooks := .later }
def LapFramesCardSaid : Prop := Claim7.holds Tryd.pinned (.plain (OpenSpec.ofChange lapFramesSpec)) lapFramesCard

/-- THE TIED CARD OF 'psalterylaw09.LapSignals'. -/
def lapSignalsCard : Claim7 := { stood := { row := lapSignalsRow, standIns := [], harness := (true, "8638fc0fe754741ea9dbcc459025a83affa5426b0c39cdcea04ae0ea3c6db5a2"), looks := false }, kinds := [], alts := [], laidByText := true, laidKinds := [.data], laidTests := true, laidLooks := .later }
def LapSignalsCardSaid : Prop := Claim7.holds Tryd.pinned (.plain (OpenSpec.ofChange lapSignalsSpec)) lapSignalsCard

/-- THE TIED CARD OF 'psalterylaw09.LapBorder'. -/
def lapBorderCard : Claim7 := { stood := { row := lapBorderRow, standIns := [], harness := (true, "8638fc0fe754741ea9dbcc459025a83affa5426b0c39cdcea04ae0ea3c6db5a2"), looks := false }, kinds := [], alts := [], laidByText := true, laidKinds := [.data], laidTests := true, laidLooks := .later }
def LapBorderCardSaid : Prop := Claim7.holds Tryd.pinned (.plain (OpenSpec.ofChange lapBorderSpec)) lapBorderCard

/-- THE TIED CARD OF 'psalterylaw09.LapBack'. -/
def lapBackCard : Claim7 := { stood := { row := lapBackRow, standIns := [], harness := (true, "8638fc0fe754741ea9dbcc459025a83affa5426b0c39cdcea04ae0ea3c6db5a2"), looks := false }, kinds := [], alts := [], laidByText := true, laidKinds := [.data], laidTests := true, laidLooks := .later }
def LapBackCardSaid : Prop := Claim7.holds Tryd.pinned (.plain (OpenSpec.ofChange lapBackSpec)) lapBackCard

/-- THE TIED CARD OF 'psalterylaw09.LapNear'. -/
def lapNearCard : Claim7 := { stood := { row := lapNearRow, standIns := [], harness := (true, "8638fc0fe754741ea9dbcc459025a83affa5426b0c39cdcea04ae0ea3c6db5a2"), looks := false }, kinds := [], alts := [], laidByText := true, laidKinds := [.data], laidTests := true, laidLooks := .later }
def LapNearCardSaid : Prop := Claim7.holds Tryd.pinned (.plain (OpenSpec.ofChange lapNearSpec)) lapNearCard

/-- THE SECOND FORM's CARD OF 'psalterylaw09.LapTurns'. -/
def lapTurnsUptoCard : Claim7 := { stood := { row := lapTurnsUptoRow, standIns := [], harness := (true, "8638fc0fe754741ea9dbcc459025a83affa5426b0c39cdcea04ae0ea3c6db5a2"), looks := false }, kinds := [], alts := [], laidByText := true, laidKinds := [.data], laidTests := true, laidLooks := .later }
def LapTurnsUptoCardSaid : Prop := Claim7.holds Tryd.pinned (.plain (OpenSpec.upto lapTurnsSpec)) lapTurnsUptoCard

/-- THE SECOND FORM's CARD OF 'psalterylaw09.LapBacks'. -/
def lapBacksUptoCard : Claim7 := { stood := { row := lapBacksUptoRow, standIns := [], harness := (true, "8638fc0fe754741ea9dbcc459025a83affa5426b0c39cdcea04ae0ea3c6db5a2"), looks := false }, kinds := [], alts := [], laidByText := true, laidKinds := [.data], laidTests := true, laidLooks := .later }
def LapBacksUptoCardSaid : Prop := Claim7.holds Tryd.pinned (.plain (OpenSpec.upto lapBacksSpec)) lapBacksUptoCard

/-- THE SECOND FORM's CARD OF 'psalterylaw09.LapFrames'. -/
def lapFramesUptoCard : Claim7 := { stood := { row := lapFramesUptoRow, standIns := [], harness := (true, "8638fc0fe754741ea9dbcc459025a83affa5426b0c39cdcea04ae0ea3c6db5a2"), looks := false }, kinds := [], alts := [], laidByText := true, laidKinds := [.data], laidTests := true, laidLooks := .later }
def LapFramesUptoCardSaid : Prop := Claim7.holds Tryd.pinned (.plain (OpenSpec.upto lapFramesSpec)) lapFramesUptoCard

/-- THE SECOND FORM's CARD OF 'psalterylaw09.LapSignals'. -/
def lapSignalsUptoCard : Claim7 := { stood := { row := lapSignalsUptoRow, standIns := [], harness := (true, "8638fc0fe754741ea9dbcc459025a83affa5426b0c39cdcea04ae0ea3c6db5a2"), looks := false }, kinds := [], alts := [], laidByText := true, laidKinds := [.data], laidTests := true, laidLooks := .later }
def LapSignalsUptoCardSaid : Prop := Claim7.holds Tryd.pinned (.plain (OpenSpec.upto lapSignalsSpec)) lapSignalsUptoCard

/-- THE SECOND FORM's CARD OF 'psalterylaw09.LapBorder'. -/
def lapBorderUptoCard : Claim7 := { stood := { row := lapBorderUptoRow, standIns := [], harness := (true, "8638fc0fe754741ea9dbcc459025a83affa5426b0c39cdcea04ae0ea3c6db5a2"), looks := false }, kinds := [], alts := [], laidByText := true, laidKinds := [.data], laidTests := true, laidLooks := .later }
def LapBorderUptoCardSaid : Prop := Claim7.holds Tryd.pinned (.plain (OpenSpec.upto lapBorderSpec)) lapBorderUptoCard

/-- THE SECOND FORM's CARD OF 'psalterylaw09.LapBack'. -/
def lapBackUptoCard : Claim7 := { stood := { row := lapBackUptoRow, standIns := [], harness := (true, "8638fc0fe754741ea9dbcc459025a83affa5426b0c39cdcea04ae0ea3c6db5a2"), looks := false }, kinds := [], alts := [], laidByText := true, laidKinds := [.data], laidTests := true, laidLooks := .later }
def LapBackUptoCardSaid : Prop := Claim7.holds Tryd.pinned (.plain (OpenSpec.upto lapBackSpec)) lapBackUptoCard

/-- THE SECOND FORM's CARD OF 'psalterylaw09.LapNear'. -/
def lapNearUptoCard : Claim7 := { stood := { row := lapNearUptoRow, standIns := [], harness := (true, "8638fc0fe754741ea9dbcc459025a83affa5426b0c39cdcea04ae0ea3c6db5a2"), looks := false }, kinds := [], alts := [], laidByText := true, laidKinds := [.data], laidTests := true, laidLooks := .later }
def LapNearUptoCardSaid : Prop := Claim7.holds Tryd.pinned (.plain (OpenSpec.upto lapNearSpec)) lapNearUptoCard
end Rows
end Go.Proofs.YtllchhcdpfiodaaDoor

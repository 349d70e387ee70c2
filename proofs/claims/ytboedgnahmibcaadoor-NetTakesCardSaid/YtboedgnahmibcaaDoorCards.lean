/-
  DERIVED. GIVEN WITH THE SEED: THE CARDS: each row of YtboedgnahmibcaaDoorRows.lean that lists a variable, with what it lists TIED to the program's text (the seventh form; the later family's looks); each row that meets fmt, with fmt's text TOLD by the authors' own Lean function (tested against real Go, not proved from fmt's source: count such statements apart). THE CARD IS WHAT COUNTS. Prove the row's statement (the work); the ties are given (YtboedgnahmibcaaDoorTie.lean); close each card by the builder's one call (the guide's Derived/Test/ToyasCard.lean, 'card_holds'). Laid BY PROGRAM, IN A SANDBOX (cutbox-door.mjs). By AI agents, Wed Nov 11 2026. No macro, syntax, notation, axiom, sorry.
-/
import Derived.Test.YtboedgnahmibcaaDoorRows
import GoSem.ClaimSeven
namespace Go.Proofs.YtboedgnahmibcaaDoor
namespace Rows

/-- THE TIED CARD OF 'palisadelaw21.ClientPlays'. -/
def clientPlaysCard : Claim7 := { stood := { row := clientPlaysRow, standIns := [], harness := (true, "8325eeec8372e70b3e378657809181c5441c0be91fc89610c644629174bb5c0e"), looks := false }, kinds := [], alts := [], laidByText := true, laidKinds := [.data, .data, .data], laidTests := true, laidLooks := .later }
def ClientPlaysCardSaid : Prop := Claim7.holds Tryd.pinned (.plain (OpenSpec.ofChange clientPlaysSpec)) clientPlaysCard

/-- THE TIED CARD OF 'palisadelaw21.ClientStray'. -/
def clientStrayCard : Claim7 := { stood := { row := clientStrayRow, standIns := [], harness := (true, "8325eeec8372e70b3e378657809181c5441c0be91fc89610c644629174bb5c0e"), looks := false }, kinds := [], alts := [], laidByText := true, laidKinds := [.data, .data, .data], laidTests := true, laidLooks := .later }
def ClientStrayCardSaid : Prop := Claim7.holds Tryd.pinned (.plain (OpenSpec.ofChange clientStraySpec)) clientStrayCard

/-- THE TIED CARD OF 'palisadelaw6.NetTakes'. -/
def netTakesCard : Claim7 := { stood := { row := netTakesRow, standIns := [], harness := (true, "8325eeec8372e70b3e378657809181c5441c0be91fc89610c644629174bb5c0e"), looks := false }, kinds := [], alts := [], laidByText := true, laidKinds := [.data, .data, .data], laidTests := true, laidLooks := .later }
def NetTakesCardSaid : Prop := Claim7.holds Tryd.pinned (.plain (OpenSpec.ofChange netTakesSpec)) netTakesCard

/-- THE TIED CARD OF 'palisadelaw6.NetDoubles'. -/
def netDoublesCard : Claim7 := { stood := { row := netDoublesRow, standIns := [], harness := (true, "8325eeec8372e70b3e378657809181c5441c0be91fc89610c644629174bb5c0e"), looks := false }, kinds := [], alts := [], laidByText := true, laidKinds := [.data, .data, .data], laidTests := true, laidLooks := .later }
def NetDoublesCardSaid : Prop := Claim7.holds Tryd.pinned (.plain (OpenSpec.ofChange netDoublesSpec)) netDoublesCard

/-- THE TIED CARD OF 'palisadelaw6.NetPlays'. -/
def netPlaysCard : Claim7 := { stood := { row := netPlaysRow, standIns := [], harness := (true, "8325eeec8372e70b3e378657809181c5441c0be91fc89610c644629174bb5c0e"), looks := false }, kinds := [], alts := [], laidByText := true, laidKinds := [.data, .data, .data], laidTests := true, laidLooks := .later }
def NetPlaysCardSaid : Prop := Claim7.holds Tryd.pinned (.plain (OpenSpec.ofChange netPlaysSpec)) netPlaysCard

/-- THE TIED CARD OF 'palisadelaw6.NetFull'. -/
def netFullCard : Claim7 := { stood := { row := netFullRow, standIns := [], harness := (true, "8325eeec8372e70b3e378657809181c5441c0be91fc89610c644629174bb5c0e"), looks := false }, kinds := [], alts := [], laidByText := true, laidKinds := [.data, .data, .data], laidTests := true, laidLooks := .later }
def NetFullCardSaid : Prop := Claim7.holds Tryd.pinned (.plain (OpenSpec.ofChange netFullSpec)) netFullCard

/-- THE TIED CARD OF 'palisadelaw3.MsgBack'. -/
def msgBackCard : Claim7 := { stood := { row := msgBackRow, standIns := [], harness := (true, "8325eeec8372e70b3e378657809181c5441c0be91fc89610c644629174bb5c0e"), looks := false }, kinds := [], alts := [], laidByText := true, laidKinds := [.data, .data, .data], laidTests := true, laidLooks := .later }
def MsgBackCardSaid : Prop := Claim7.holds Tryd.pinned (.plain (OpenSpec.ofChange msgBackSpec)) msgBackCard

/-- THE TIED CARD OF 'palisadelaw3.MsgVotes'. -/
def msgVotesCard : Claim7 := { stood := { row := msgVotesRow, standIns := [], harness := (true, "8325eeec8372e70b3e378657809181c5441c0be91fc89610c644629174bb5c0e"), looks := false }, kinds := [], alts := [], laidByText := true, laidKinds := [.data, .data, .data], laidTests := true, laidLooks := .later }
def MsgVotesCardSaid : Prop := Claim7.holds Tryd.pinned (.plain (OpenSpec.ofChange msgVotesSpec)) msgVotesCard

/-- THE TIED CARD OF 'palisadelaw3.MsgTexts'. -/
def msgTextsCard : Claim7 := { stood := { row := msgTextsRow, standIns := [], harness := (true, "8325eeec8372e70b3e378657809181c5441c0be91fc89610c644629174bb5c0e"), looks := false }, kinds := [], alts := [], laidByText := true, laidKinds := [.data, .data, .data], laidTests := true, laidLooks := .later }
def MsgTextsCardSaid : Prop := Claim7.holds Tryd.pinned (.plain (OpenSpec.ofChange msgTextsSpec)) msgTextsCard

/-- THE TIED CARD OF 'palisadelaw14.PqKeeps'. -/
def pqKeepsCard : Claim7 := { stood := { row := pqKeepsRow, standIns := [], harness := (true, "8325eeec8372e70b3e378657809181c5441c0be91fc89610c644629174bb5c0e"), looks := false }, kinds := [], alts := [], laidByText := true, laidKinds := [.data, .data, .data], laidTests := true, laidLooks := .later }
def PqKeepsCardSaid : Prop := Claim7.holds Tryd.pinned (.plain (OpenSpec.ofChange pqKeepsSpec)) pqKeepsCard

/-- THE TIED CARD OF 'palisadelaw14.PqOrder'. -/
def pqOrderCard : Claim7 := { stood := { row := pqOrderRow, standIns := [], harness := (true, "8325eeec8372e70b3e378657809181c5441c0be91fc89610c644629174bb5c0e"), looks := false }, kinds := [], alts := [], laidByText := true, laidKinds := [.data, .data, .data], laidTests := true, laidLooks := .later }
def PqOrderCardSaid : Prop := Claim7.holds Tryd.pinned (.plain (OpenSpec.ofChange pqOrderSpec)) pqOrderCard

/-- THE TIED CARD OF 'palisadelaw14.PqPlays'. -/
def pqPlaysCard : Claim7 := { stood := { row := pqPlaysRow, standIns := [], harness := (true, "8325eeec8372e70b3e378657809181c5441c0be91fc89610c644629174bb5c0e"), looks := false }, kinds := [], alts := [], laidByText := true, laidKinds := [.data, .data, .data], laidTests := true, laidLooks := .later }
def PqPlaysCardSaid : Prop := Claim7.holds Tryd.pinned (.plain (OpenSpec.ofChange pqPlaysSpec)) pqPlaysCard

/-- THE TIED CARD OF 'palisadelaw14.PqBounds'. -/
def pqBoundsCard : Claim7 := { stood := { row := pqBoundsRow, standIns := [], harness := (true, "8325eeec8372e70b3e378657809181c5441c0be91fc89610c644629174bb5c0e"), looks := false }, kinds := [], alts := [], laidByText := true, laidKinds := [.data, .data, .data], laidTests := true, laidLooks := .later }
def PqBoundsCardSaid : Prop := Claim7.holds Tryd.pinned (.plain (OpenSpec.ofChange pqBoundsSpec)) pqBoundsCard

/-- THE SECOND FORM's CARD OF 'palisadelaw21.ClientPlays'. -/
def clientPlaysUptoCard : Claim7 := { stood := { row := clientPlaysUptoRow, standIns := [], harness := (true, "8325eeec8372e70b3e378657809181c5441c0be91fc89610c644629174bb5c0e"), looks := false }, kinds := [], alts := [], laidByText := true, laidKinds := [.data, .data, .data], laidTests := true, laidLooks := .later }
def ClientPlaysUptoCardSaid : Prop := Claim7.holds Tryd.pinned (.plain (OpenSpec.upto clientPlaysSpec)) clientPlaysUptoCard

/-- THE SECOND FORM's CARD OF 'palisadelaw21.ClientStray'. -/
def clientStrayUptoCard : Claim7 := { stood := { row := clientStrayUptoRow, standIns := [], harness := (true, "8325eeec8372e70b3e378657809181c5441c0be91fc89610c644629174bb5c0e"), looks := false }, kinds := [], alts := [], laidByText := true, laidKinds := [.data, .data, .data], laidTests := true, laidLooks := .later }
def ClientStrayUptoCardSaid : Prop := Claim7.holds Tryd.pinned (.plain (OpenSpec.upto clientStraySpec)) clientStrayUptoCard

/-- THE SECOND FORM's CARD OF 'palisadelaw6.NetTakes'. -/
def netTakesUptoCard : Claim7 := { stood := { row := netTakesUptoRow, standIns := [], harness := (true, "8325eeec8372e70b3e378657809181c5441c0be91fc89610c644629174bb5c0e"), looks := false }, kinds := [], alts := [], laidByText := true, laidKinds := [.data, .data, .data], laidTests := true, laidLooks := .later }
def NetTakesUptoCardSaid : Prop := Claim7.holds Tryd.pinned (.plain (OpenSpec.upto netTakesSpec)) netTakesUptoCard

/-- THE SECOND FORM's CARD OF 'palisadelaw6.NetDoubles'. -/
def netDoublesUptoCard : Claim7 := { stood := { row := netDoublesUptoRow, standIns := [], harness := (true, "8325eeec8372e70b3e378657809181c5441c0be91fc89610c644629174bb5c0e"), looks := false }, kinds := [], alts := [], laidByText := true, laidKinds := [.data, .data, .data], laidTests := true, laidLooks := .later }
def NetDoublesUptoCardSaid : Prop := Claim7.holds Tryd.pinned (.plain (OpenSpec.upto netDoublesSpec)) netDoublesUptoCard

/-- THE SECOND FORM's CARD OF 'palisadelaw6.NetPlays'. -/
def netPlaysUptoCard : Claim7 := { stood := { row := netPlaysUptoRow, standIns := [], harness := (true, "8325eeec8372e70b3e378657809181c5441c0be91fc89610c644629174bb5c0e"), looks := false }, kinds := [], alts := [], laidByText := true, laidKinds := [.data, .data, .data], laidTests := true, laidLooks := .later }
def NetPlaysUptoCardSaid : Prop := Claim7.holds Tryd.pinned (.plain (OpenSpec.upto netPlaysSpec)) netPlaysUptoCard

/-- THE SECOND FORM's CARD OF 'palisadelaw6.NetFull'. -/
def netFullUptoCard : Claim7 := { stood := { row := netFullUptoRow, standIns := [], harness := (true, "8325eeec8372e70b3e378657809181c5441c0be91fc89610c644629174bb5c0e"), looks := false }, kinds := [], alts := [], laidByText := true, laidKinds := [.data, .data, .data], laidTests := true, laidLooks := .later }
def NetFullUptoCardSaid : Prop := Claim7.holds Tryd.pinned (.plain (OpenSpec.upto netFullSpec)) netFullUptoCard

/-- THE SECOND FORM's CARD OF 'palisadelaw3.MsgBack'. -/
def msgBackUptoCard : Claim7 := { stood := { row := msgBackUptoRow, standIns := [], harness := (true, "8325eeec8372e70b3e378657809181c5441c0be91fc89610c644629174bb5c0e"), looks := false }, kinds := [], alts := [], laidByText := true, laidKinds := [.data, .data, .data], laidTests := true, laidLooks := .later }
def MsgBackUptoCardSaid : Prop := Claim7.holds Tryd.pinned (.plain (OpenSpec.upto msgBackSpec)) msgBackUptoCard

/-- THE SECOND FORM's CARD OF 'palisadelaw3.MsgVotes'. -/
def msgVotesUptoCard : Claim7 := { stood := { row := msgVotesUptoRow, standIns := [], harness := (true, "8325eeec8372e70b3e378657809181c5441c0be91fc89610c644629174bb5c0e"), looks := false }, kinds := [], alts := [], laidByText := true, laidKinds := [.data, .data, .data], laidTests := true, laidLooks := .later }
def MsgVotesUptoCardSaid : Prop := Claim7.holds Tryd.pinned (.plain (OpenSpec.upto msgVotesSpec)) msgVotesUptoCard

/-- THE SECOND FORM's CARD OF 'palisadelaw3.MsgTexts'. -/
def msgTextsUptoCard : Claim7 := { stood := { row := msgTextsUptoRow, standIns := [], harness := (true, "8325eeec8372e70b3e378657809181c5441c0be91fc89610c644629174bb5c0e"), looks := false }, kinds := [], alts := [], laidByText := true, laidKinds := [.data, .data, .data], laidTests := true, laidLooks := .later }
def MsgTextsUptoCardSaid : Prop := Claim7.holds Tryd.pinned (.plain (OpenSpec.upto msgTextsSpec)) msgTextsUptoCard

/-- THE SECOND FORM's CARD OF 'palisadelaw14.PqKeeps'. -/
def pqKeepsUptoCard : Claim7 := { stood := { row := pqKeepsUptoRow, standIns := [], harness := (true, "8325eeec8372e70b3e378657809181c5441c0be91fc89610c644629174bb5c0e"), looks := false }, kinds := [], alts := [], laidByText := true, laidKinds := [.data, .data, .data], laidTests := true, laidLooks := .later }
def PqKeepsUptoCardSaid : Prop := Claim7.holds Tryd.pinned (.plain (OpenSpec.upto pqKeepsSpec)) pqKeepsUptoCard

/-- THE SECOND FORM's CARD OF 'palisadelaw14.PqOrder'. -/
def pqOrderUptoCard : Claim7 := { stood := { row := pqOrderUptoRow, standIns := [], harness := (true, "8325eeec8372e70b3e378657809181c5441c0be91fc89610c644629174bb5c0e"), looks := false }, kinds := [], alts := [], laidByText := true, laidKinds := [.data, .data, .data], laidTests := true, laidLooks := .later }
def PqOrderUptoCardSaid : Prop := Claim7.holds Tryd.pinned (.plain (OpenSpec.upto pqOrderSpec)) pqOrderUptoCard

/-- THE SECOND FORM's CARD OF 'palisadelaw14.PqPlays'. -/
def pqPlaysUptoCard : Claim7 := { stood := { row := pqPlaysUptoRow, standIns := [], harness := (true, "8325eeec8372e70b3e378657809181c5441c0be91fc89610c644629174bb5c0e"), looks := false }, kinds := [], alts := [], laidByText := true, laidKinds := [.data, .data, .data], laidTests := true, laidLooks := .later }
def PqPlaysUptoCardSaid : Prop := Claim7.holds Tryd.pinned (.plain (OpenSpec.upto pqPlaysSpec)) pqPlaysUptoCard

/-- THE SECOND FORM's CARD OF 'palisadelaw14.PqBounds'. -/
def pqBoundsUptoCard : Claim7 := { stood := { row := pqBoundsUptoRow, standIns := [], harness := (true, "8325eeec8372e70b3e378657809181c5441c0be91fc89610c644629174bb5c0e"), looks := false }, kinds := [], alts := [], laidByText := true, laidKinds := [.data, .data, .data], laidTests := true, laidLooks := .later }
def PqBoundsUptoCardSaid : Prop := Claim7.holds Tryd.pinned (.plain (OpenSpec.upto pqBoundsSpec)) pqBoundsUptoCard
end Rows
end Go.Proofs.YtboedgnahmibcaaDoor

/-
  DERIVED. GIVEN WITH THE SEED: THE CARDS: each row of YtbfndihcbogjfaaDoorRows.lean that lists a variable, with what it lists TIED to the program's text (the seventh form; the later family's looks); each row that meets fmt, with fmt's text TOLD by the authors' own Lean function (tested against real Go, not proved from fmt's source: count such statements apart). THE CARD IS WHAT COUNTS. Prove the row's statement (the work); the ties are given (YtbfndihcbogjfaaDoorTie.lean); close each card by the builder's one call (the guide's Derived/Test/ToyasCard.lean, 'card_holds'). Laid BY PROGRAM, IN A SANDBOX (cutbox-door.mjs). By AI agents, Wed Nov 11 2026. No macro, syntax, notation, axiom, sorry.
-/
import Derived.Test.YtbfndihcbogjfaaDoorRows
import GoSem.ClaimSeven
namespace Go.Proofs.YtbfndihcbogjfaaDoor
namespace Rows

/-- THE TIED CARD OF 'tholelaw20.HistTells'. -/
def histTellsCard : Claim7 := { stood := { row := histTellsRow, standIns := [], harness := (true, "dfafeabd24a985f95fd326232823c1b8acaefb197876dbaafee340197f2f3806"), looks := true }, kinds := [], alts := [], laidByText := true, laidKinds := [.data, .data, .data], laidTests := true, laidLooks := .later }
def HistTellsCardSaid : Prop := Claim7.holds Tryd.pinned (.plain (OpenSpec.ofChange histTellsSpec)) histTellsCard

/-- THE TIED CARD OF 'tholelaw20.HistParts'. -/
def histPartsCard : Claim7 := { stood := { row := histPartsRow, standIns := [], harness := (true, "dfafeabd24a985f95fd326232823c1b8acaefb197876dbaafee340197f2f3806"), looks := true }, kinds := [], alts := [], laidByText := true, laidKinds := [.data, .data, .data], laidTests := true, laidLooks := .later }
def HistPartsCardSaid : Prop := Claim7.holds Tryd.pinned (.plain (OpenSpec.ofChange histPartsSpec)) histPartsCard

/-- THE TIED CARD OF 'tholelaw20.HistMarks'. -/
def histMarksCard : Claim7 := { stood := { row := histMarksRow, standIns := [], harness := (true, "dfafeabd24a985f95fd326232823c1b8acaefb197876dbaafee340197f2f3806"), looks := true }, kinds := [], alts := [], laidByText := true, laidKinds := [.data, .data, .data], laidTests := true, laidLooks := .later }
def HistMarksCardSaid : Prop := Claim7.holds Tryd.pinned (.plain (OpenSpec.ofChange histMarksSpec)) histMarksCard

/-- THE TIED CARD OF 'tholelaw11.ReplayBegins'. -/
def replayBeginsCard : Claim7 := { stood := { row := replayBeginsRow, standIns := [], harness := (true, "dfafeabd24a985f95fd326232823c1b8acaefb197876dbaafee340197f2f3806"), looks := true }, kinds := [], alts := [], laidByText := true, laidKinds := [.handle], laidTests := true, laidLooks := .later }
def ReplayBeginsCardSaid : Prop := Claim7.holds Tryd.pinned (.plain (OpenSpec.ofChange replayBeginsSpec)) replayBeginsCard

/-- THE TIED CARD OF 'tholelaw11.ReplayBreaks'. -/
def replayBreaksCard : Claim7 := { stood := { row := replayBreaksRow, standIns := [], harness := (true, "dfafeabd24a985f95fd326232823c1b8acaefb197876dbaafee340197f2f3806"), looks := true }, kinds := [], alts := [], laidByText := true, laidKinds := [.handle], laidTests := true, laidLooks := .later }
def ReplayBreaksCardSaid : Prop := Claim7.holds Tryd.pinned (.plain (OpenSpec.ofChange replayBreaksSpec)) replayBreaksCard

/-- THE TIED CARD OF 'tholelaw11.ReplayBacks'. -/
def replayBacksCard : Claim7 := { stood := { row := replayBacksRow, standIns := [], harness := (true, "dfafeabd24a985f95fd326232823c1b8acaefb197876dbaafee340197f2f3806"), looks := true }, kinds := [], alts := [], laidByText := true, laidKinds := [.handle], laidTests := true, laidLooks := .later }
def ReplayBacksCardSaid : Prop := Claim7.holds Tryd.pinned (.plain (OpenSpec.ofChange replayBacksSpec)) replayBacksCard

/-- THE TIED CARD OF 'tholelaw11.ReplayMoves'. -/
def replayMovesCard : Claim7 := { stood := { row := replayMovesRow, standIns := [], harness := (true, "dfafeabd24a985f95fd326232823c1b8acaefb197876dbaafee340197f2f3806"), looks := true }, kinds := [], alts := [], laidByText := true, laidKinds := [.handle], laidTests := true, laidLooks := .later }
def ReplayMovesCardSaid : Prop := Claim7.holds Tryd.pinned (.plain (OpenSpec.ofChange replayMovesSpec)) replayMovesCard

/-- THE TIED CARD OF 'tholelaw11.ReplayLast'. -/
def replayLastCard : Claim7 := { stood := { row := replayLastRow, standIns := [], harness := (true, "dfafeabd24a985f95fd326232823c1b8acaefb197876dbaafee340197f2f3806"), looks := true }, kinds := [], alts := [], laidByText := true, laidKinds := [.handle], laidTests := true, laidLooks := .later }
def ReplayLastCardSaid : Prop := Claim7.holds Tryd.pinned (.plain (OpenSpec.ofChange replayLastSpec)) replayLastCard

/-- THE TIED CARD OF 'tholelaw11.ReplayEnds'. -/
def replayEndsCard : Claim7 := { stood := { row := replayEndsRow, standIns := [], harness := (true, "dfafeabd24a985f95fd326232823c1b8acaefb197876dbaafee340197f2f3806"), looks := true }, kinds := [], alts := [], laidByText := true, laidKinds := [.handle], laidTests := true, laidLooks := .later }
def ReplayEndsCardSaid : Prop := Claim7.holds Tryd.pinned (.plain (OpenSpec.ofChange replayEndsSpec)) replayEndsCard

/-- THE SECOND FORM's CARD OF 'tholelaw20.HistTells'. -/
def histTellsUptoCard : Claim7 := { stood := { row := histTellsUptoRow, standIns := [], harness := (true, "dfafeabd24a985f95fd326232823c1b8acaefb197876dbaafee340197f2f3806"), looks := true }, kinds := [], alts := [], laidByText := true, laidKinds := [.data, .data, .data], laidTests := true, laidLooks := .later }
def HistTellsUptoCardSaid : Prop := Claim7.holds Tryd.pinned (.plain (OpenSpec.upto histTellsSpec)) histTellsUptoCard

/-- THE SECOND FORM's CARD OF 'tholelaw20.HistParts'. -/
def histPartsUptoCard : Claim7 := { stood := { row := histPartsUptoRow, standIns := [], harness := (true, "dfafeabd24a985f95fd326232823c1b8acaefb197876dbaafee340197f2f3806"), looks := true }, kinds := [], alts := [], laidByText := true, laidKinds := [.data, .data, .data], laidTests := true, laidLooks := .later }
def HistPartsUptoCardSaid : Prop := Claim7.holds Tryd.pinned (.plain (OpenSpec.upto histPartsSpec)) histPartsUptoCard

/-- THE SECOND FORM's CARD OF 'tholelaw20.HistMarks'. -/
def histMarksUptoCard : Claim7 := { stood := { row := histMarksUptoRow, standIns := [], harness := (true, "dfafeabd24a985f95fd326232823c1b8acaefb197876dbaafee340197f2f3806"), looks := true }, kinds := [], alts := [], laidByText := true, laidKinds := [.data, .data, .data], laidTests := true, laidLooks := .later }
def HistMarksUptoCardSaid : Prop := Claim7.holds Tryd.pinned (.plain (OpenSpec.upto histMarksSpec)) histMarksUptoCard

/-- THE SECOND FORM's CARD OF 'tholelaw11.ReplayBegins'. -/
def replayBeginsUptoCard : Claim7 := { stood := { row := replayBeginsUptoRow, standIns := [], harness := (true, "dfafeabd24a985f95fd326232823c1b8acaefb197876dbaafee340197f2f3806"), looks := true }, kinds := [], alts := [], laidByText := true, laidKinds := [.handle], laidTests := true, laidLooks := .later }
def ReplayBeginsUptoCardSaid : Prop := Claim7.holds Tryd.pinned (.plain (OpenSpec.upto replayBeginsSpec)) replayBeginsUptoCard

/-- THE SECOND FORM's CARD OF 'tholelaw11.ReplayBreaks'. -/
def replayBreaksUptoCard : Claim7 := { stood := { row := replayBreaksUptoRow, standIns := [], harness := (true, "dfafeabd24a985f95fd326232823c1b8acaefb197876dbaafee340197f2f3806"), looks := true }, kinds := [], alts := [], laidByText := true, laidKinds := [.handle], laidTests := true, laidLooks := .later }
def ReplayBreaksUptoCardSaid : Prop := Claim7.holds Tryd.pinned (.plain (OpenSpec.upto replayBreaksSpec)) replayBreaksUptoCard

/-- THE SECOND FORM's CARD OF 'tholelaw11.ReplayBacks'. -/
def replayBacksUptoCard : Claim7 := { stood := { row := replayBacksUptoRow, standIns := [], harness := (true, "dfafeabd24a985f95fd326232823c1b8acaefb197876dbaafee340197f2f3806"), looks := true }, kinds := [], alts := [], laidByText := true, laidKinds := [.handle], laidTests := true, laidLooks := .later }
def ReplayBacksUptoCardSaid : Prop := Claim7.holds Tryd.pinned (.plain (OpenSpec.upto replayBacksSpec)) replayBacksUptoCard

/-- THE SECOND FORM's CARD OF 'tholelaw11.ReplayMoves'. -/
def replayMovesUptoCard : Claim7 := { stood := { row := replayMovesUptoRow, standIns := [], harness := (true, "dfafeabd24a985f95fd326232823c1b8acaefb197876dbaafee340197f2f3806"), looks := true }, kinds := [], alts := [], laidByText := true, laidKinds := [.handle], laidTests := true, laidLooks := .later }
def ReplayMovesUptoCardSaid : Prop := Claim7.holds Tryd.pinned (.plain (OpenSpec.upto replayMovesSpec)) replayMovesUptoCard

/-- THE SECOND FORM's CARD OF 'tholelaw11.ReplayLast'. -/
def replayLastUptoCard : Claim7 := { stood := { row := replayLastUptoRow, standIns := [], harness := (true, "dfafeabd24a985f95fd326232823c1b8acaefb197876dbaafee340197f2f3806"), looks := true }, kinds := [], alts := [], laidByText := true, laidKinds := [.handle], laidTests := true, laidLooks := .later }
def ReplayLastUptoCardSaid : Prop := Claim7.holds Tryd.pinned (.plain (OpenSpec.upto replayLastSpec)) replayLastUptoCard

/-- THE SECOND FORM's CARD OF 'tholelaw11.ReplayEnds'. -/
def replayEndsUptoCard : Claim7 := { stood := { row := replayEndsUptoRow, standIns := [], harness := (true, "dfafeabd24a985f95fd326232823c1b8acaefb197876dbaafee340197f2f3806"), looks := true }, kinds := [], alts := [], laidByText := true, laidKinds := [.handle], laidTests := true, laidLooks := .later }
def ReplayEndsUptoCardSaid : Prop := Claim7.holds Tryd.pinned (.plain (OpenSpec.upto replayEndsSpec)) replayEndsUptoCard
end Rows
end Go.Proofs.YtbfndihcbogjfaaDoor

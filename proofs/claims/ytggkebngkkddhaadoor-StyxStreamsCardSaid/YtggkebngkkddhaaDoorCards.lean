/-
  DERIVED. GIVEN WITH THE SEED: THE CARDS: each row of YtggkebngkkddhaaDoorRows.lean that lists a variable, with what it lists TIED to the program's text (the seventh form; the later family's looks); each row that meets fmt, with fmt's text TOLD by the authors' own Lean function (tested against real Go, not proved from fmt's source: count such statements apart). THE CARD IS WHAT COUNTS. Prove the row's statement (the work); the ties are given (YtggkebngkkddhaaDoorTie.lean); close each card by the builder's one call (the guide's Derived/Test/ToyasCard.lean, 'card_holds'). Laid BY PROGRAM, IN A SANDBOX (cutbox-door.mjs). By AI agents, Wed Nov 11 2026. No macro, syntax, notation, axiom, sorry.
-/
import Derived.Test.YtggkebngkkddhaaDoorRows
import GoSem.ClaimSeven
namespace Go.Proofs.YtggkebngkkddhaaDoor
namespace Rows

/-- THE TIED CARD OF 'acheronlaw31.StyxDecodes'. -/
def styxDecodesCard : Claim7 := { stood := { row := styxDecodesRow, standIns := [], harness := (true, "b71419dc4075b423505249ce68531b51c02b2e169ff931103a31cded73fc9cc7"), looks := false }, kinds := [], alts := [], laidByText := true, laidKinds := [.mapped], laidTests := true, laidLooks := .later }
def StyxDecodesCardSaid : Prop := Claim7.holds Tryd.pinned (.plain (OpenSpec.ofChange styxDecodesSpec)) styxDecodesCard

/-- THE TIED CARD OF 'acheronlaw31.StyxEncodes'. -/
def styxEncodesCard : Claim7 := { stood := { row := styxEncodesRow, standIns := [], harness := (true, "b71419dc4075b423505249ce68531b51c02b2e169ff931103a31cded73fc9cc7"), looks := false }, kinds := [], alts := [], laidByText := true, laidKinds := [.mapped], laidTests := true, laidLooks := .later }
def StyxEncodesCardSaid : Prop := Claim7.holds Tryd.pinned (.plain (OpenSpec.ofChange styxEncodesSpec)) styxEncodesCard

/-- THE TIED CARD OF 'acheronlaw31.StyxStreams'. -/
def styxStreamsCard : Claim7 := { stood := { row := styxStreamsRow, standIns := [], harness := (true, "b71419dc4075b423505249ce68531b51c02b2e169ff931103a31cded73fc9cc7"), looks := false }, kinds := [], alts := [], laidByText := true, laidKinds := [.mapped], laidTests := true, laidLooks := .later }
def StyxStreamsCardSaid : Prop := Claim7.holds Tryd.pinned (.plain (OpenSpec.ofChange styxStreamsSpec)) styxStreamsCard

/-- THE SECOND FORM's CARD OF 'acheronlaw31.StyxDecodes'. -/
def styxDecodesUptoCard : Claim7 := { stood := { row := styxDecodesUptoRow, standIns := [], harness := (true, "b71419dc4075b423505249ce68531b51c02b2e169ff931103a31cded73fc9cc7"), looks := false }, kinds := [], alts := [], laidByText := true, laidKinds := [.mapped], laidTests := true, laidLooks := .later }
def StyxDecodesUptoCardSaid : Prop := Claim7.holds Tryd.pinned (.plain (OpenSpec.upto styxDecodesSpec)) styxDecodesUptoCard

/-- THE SECOND FORM's CARD OF 'acheronlaw31.StyxEncodes'. -/
def styxEncodesUptoCard : Claim7 := { stood := { row := styxEncodesUptoRow, standIns := [], harness := (true, "b71419dc4075b423505249ce68531b51c02b2e169ff931103a31cded73fc9cc7"), looks := false }, kinds := [], alts := [], laidByText := true, laidKinds := [.mapped], laidTests := true, laidLooks := .later }
def StyxEncodesUptoCardSaid : Prop := Claim7.holds Tryd.pinned (.plain (OpenSpec.upto styxEncodesSpec)) styxEncodesUptoCard

/-- THE SECOND FORM's CARD OF 'acheronlaw31.StyxStreams'. -/
def styxStreamsUptoCard : Claim7 := { stood := { row := styxStreamsUptoRow, standIns := [], harness := (true, "b71419dc4075b423505249ce68531b51c02b2e169ff931103a31cded73fc9cc7"), looks := false }, kinds := [], alts := [], laidByText := true, laidKinds := [.mapped], laidTests := true, laidLooks := .later }
def StyxStreamsUptoCardSaid : Prop := Claim7.holds Tryd.pinned (.plain (OpenSpec.upto styxStreamsSpec)) styxStreamsUptoCard
end Rows
end Go.Proofs.YtggkebngkkddhaaDoor

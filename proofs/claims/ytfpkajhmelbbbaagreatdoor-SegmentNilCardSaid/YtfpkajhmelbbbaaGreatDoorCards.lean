/-
  DERIVED. GIVEN WITH THE SEED: THE CARDS: each row of YtfpkajhmelbbbaaGreatDoorRows.lean that lists a variable, with what it lists TIED to the program's text (the seventh form; the later family's looks); each row that meets fmt, with fmt's text TOLD by the authors' own Lean function (tested against real Go, not proved from fmt's source: count such statements apart). THE CARD IS WHAT COUNTS. Prove the row's statement (the work); the ties are given (YtfpkajhmelbbbaaGreatDoorTie.lean); close each card by the builder's one call (the guide's Derived/Test/ToyasCard.lean, 'card_holds'). Laid BY PROGRAM, IN A SANDBOX (cutbox-door.mjs). By AI agents, Wed Nov 11 2026. No macro, syntax, notation, axiom, sorry.
-/
import Derived.Test.YtfpkajhmelbbbaaGreatDoorRows
import GoSem.ClaimSeven
namespace Go.Proofs.YtfpkajhmelbbbaaGreatDoor
namespace Rows

/-- THE TIED CARD OF 'glosslaw19.BlendSteps'. -/
def blendStepsCard : Claim7 := { stood := { row := blendStepsRow, standIns := [], harness := (true, "c6dc2f3519b33afb0ddbc861184ab2e4b02211f9d50fa64e8580d109f2c88e76"), looks := false }, kinds := [], alts := [], laidByText := true, laidKinds := [.data, .data, .data, .data, .pinned], laidTests := true, laidLooks := .later }
def BlendStepsCardSaid : Prop := Claim7.holds Tryz.pinned (.plain (OpenSpec.ofChange blendStepsSpec)) blendStepsCard

/-- THE TIED CARD OF 'glosslaw19.BlendNil'. -/
def blendNilCard : Claim7 := { stood := { row := blendNilRow, standIns := [], harness := (true, "c6dc2f3519b33afb0ddbc861184ab2e4b02211f9d50fa64e8580d109f2c88e76"), looks := false }, kinds := [], alts := [], laidByText := true, laidKinds := [.data, .data, .data, .data, .pinned], laidTests := true, laidLooks := .later }
def BlendNilCardSaid : Prop := Claim7.holds Tryz.pinned (.plain (OpenSpec.ofChange blendNilSpec)) blendNilCard

/-- THE TIED CARD OF 'glosslaw16.SegmentTells'. -/
def segmentTellsCard : Claim7 := { stood := { row := segmentTellsRow, standIns := [], harness := (true, "c6dc2f3519b33afb0ddbc861184ab2e4b02211f9d50fa64e8580d109f2c88e76"), looks := false }, kinds := [], alts := [], laidByText := true, laidKinds := [.data, .data, .data, .data, .pinned], laidTests := true, laidLooks := .later }
def SegmentTellsCardSaid : Prop := Claim7.holds Tryz.pinned (.plain (OpenSpec.ofChange segmentTellsSpec)) segmentTellsCard

/-- THE TIED CARD OF 'glosslaw16.SegmentNil'. -/
def segmentNilCard : Claim7 := { stood := { row := segmentNilRow, standIns := [], harness := (true, "c6dc2f3519b33afb0ddbc861184ab2e4b02211f9d50fa64e8580d109f2c88e76"), looks := false }, kinds := [], alts := [], laidByText := true, laidKinds := [.data, .data, .data, .data, .pinned], laidTests := true, laidLooks := .later }
def SegmentNilCardSaid : Prop := Claim7.holds Tryz.pinned (.plain (OpenSpec.ofChange segmentNilSpec)) segmentNilCard

/-- THE TIED CARD OF 'glosslaw19.BlendKeeps'. -/
def blendKeepsCard : Claim7 := { stood := { row := blendKeepsRow, standIns := [], harness := (true, "c6dc2f3519b33afb0ddbc861184ab2e4b02211f9d50fa64e8580d109f2c88e76"), looks := false }, kinds := [], alts := [], laidByText := true, laidKinds := [.data, .data, .data, .data, .pinned], laidTests := true, laidLooks := .later }
def BlendKeepsCardSaid : Prop := Claim7.holds Tryz.pinned (.plain (OpenSpec.ofChange blendKeepsSpec)) blendKeepsCard

/-- THE SECOND FORM's CARD OF 'glosslaw19.BlendSteps'. -/
def blendStepsUptoCard : Claim7 := { stood := { row := blendStepsUptoRow, standIns := [], harness := (true, "c6dc2f3519b33afb0ddbc861184ab2e4b02211f9d50fa64e8580d109f2c88e76"), looks := false }, kinds := [], alts := [], laidByText := true, laidKinds := [.data, .data, .data, .data, .pinned], laidTests := true, laidLooks := .later }
def BlendStepsUptoCardSaid : Prop := Claim7.holds Tryz.pinned (.plain (OpenSpec.upto blendStepsSpec)) blendStepsUptoCard

/-- THE SECOND FORM's CARD OF 'glosslaw19.BlendNil'. -/
def blendNilUptoCard : Claim7 := { stood := { row := blendNilUptoRow, standIns := [], harness := (true, "c6dc2f3519b33afb0ddbc861184ab2e4b02211f9d50fa64e8580d109f2c88e76"), looks := false }, kinds := [], alts := [], laidByText := true, laidKinds := [.data, .data, .data, .data, .pinned], laidTests := true, laidLooks := .later }
def BlendNilUptoCardSaid : Prop := Claim7.holds Tryz.pinned (.plain (OpenSpec.upto blendNilSpec)) blendNilUptoCard

/-- THE SECOND FORM's CARD OF 'glosslaw16.SegmentTells'. -/
def segmentTellsUptoCard : Claim7 := { stood := { row := segmentTellsUptoRow, standIns := [], harness := (true, "c6dc2f3519b33afb0ddbc861184ab2e4b02211f9d50fa64e8580d109f2c88e76"), looks := false }, kinds := [], alts := [], laidByText := true, laidKinds := [.data, .data, .data, .data, .pinned], laidTests := true, laidLooks := .later }
def SegmentTellsUptoCardSaid : Prop := Claim7.holds Tryz.pinned (.plain (OpenSpec.upto segmentTellsSpec)) segmentTellsUptoCard

/-- THE SECOND FORM's CARD OF 'glosslaw16.SegmentNil'. -/
def segmentNilUptoCard : Claim7 := { stood := { row := segmentNilUptoRow, standIns := [], harness := (true, "c6dc2f3519b33afb0ddbc861184ab2e4b02211f9d50fa64e8580d109f2c88e76"), looks := false }, kinds := [], alts := [], laidByText := true, laidKinds := [.data, .data, .data, .data, .pinned], laidTests := true, laidLooks := .later }
def SegmentNilUptoCardSaid : Prop := Claim7.holds Tryz.pinned (.plain (OpenSpec.upto segmentNilSpec)) segmentNilUptoCard

/-- THE SECOND FORM's CARD OF 'glosslaw19.BlendKeeps'. -/
def blendKeepsUptoCard : Claim7 := { stood := { row := blendKeepsUptoRow, standIns := [], harness := (true, "c6dc2f3519b33afb0ddbc861184ab2e4b02211f9d50fa64e8580d109f2c88e76"), looks := false }, kinds := [], alts := [], laidByText := true, laidKinds := [.data, .data, .data, .data, .pinned], laidTests := true, laidLooks := .later }
def BlendKeepsUptoCardSaid : Prop := Claim7.holds Tryz.pinned (.plain (OpenSpec.upto blendKeepsSpec)) blendKeepsUptoCard
end Rows
end Go.Proofs.YtfpkajhmelbbbaaGreatDoor

/-
  DERIVED. GIVEN WITH THE SEED: THE CARDS: each row of YtaoejccgdpppgaaGreatDoorRows.lean that lists a variable, with what it lists TIED to the program's text (the seventh form; the later family's looks); each row that meets fmt, with fmt's text TOLD by the authors' own Lean function (tested against real Go, not proved from fmt's source: count such statements apart). THE CARD IS WHAT COUNTS. Prove the row's statement (the work); the ties are given (YtaoejccgdpppgaaGreatDoorTie.lean); close each card by the builder's one call (the guide's Derived/Test/ToyasCard.lean, 'card_holds'). Laid BY PROGRAM, IN A SANDBOX (cutbox-door.mjs). By AI agents, Wed Nov 11 2026. No macro, syntax, notation, axiom, sorry.
-/
import Derived.Test.YtaoejccgdpppgaaGreatDoorRows
import GoSem.ClaimSeven
namespace Go.Proofs.YtaoejccgdpppgaaGreatDoor
namespace Rows

/-- THE TIED CARD OF 'dragomanlaw9.JprintKnown'. -/
def jprintKnownCard : Claim7 := { stood := { row := jprintKnownRow, standIns := [], harness := (true, "3e210a0fc09ee668788b2edc215fa24255c1d7f9516bc00e060625c1a8175d77"), looks := true }, kinds := [], alts := [], laidByText := true, laidKinds := [.data, .data, .data, .data, .sentinel, .sentinel, .pinned], laidTests := true, laidLooks := .later }
def JprintKnownCardSaid : Prop := Claim7.holds Tryz.pinned (.plain (OpenSpec.ofChange jprintKnownSpec)) jprintKnownCard

/-- THE TIED CARD OF 'dragomanlaw9.JprintSays'. -/
def jprintSaysCard : Claim7 := { stood := { row := jprintSaysRow, standIns := [], harness := (true, "3e210a0fc09ee668788b2edc215fa24255c1d7f9516bc00e060625c1a8175d77"), looks := true }, kinds := [], alts := [], laidByText := true, laidKinds := [.data, .data, .data, .data, .sentinel, .sentinel, .pinned], laidTests := true, laidLooks := .later }
def JprintSaysCardSaid : Prop := Claim7.holds Tryz.pinned (.plain (OpenSpec.ofChange jprintSaysSpec)) jprintSaysCard

/-- THE TIED CARD OF 'dragomanlaw9.JprintApart'. -/
def jprintApartCard : Claim7 := { stood := { row := jprintApartRow, standIns := [], harness := (true, "3e210a0fc09ee668788b2edc215fa24255c1d7f9516bc00e060625c1a8175d77"), looks := true }, kinds := [], alts := [], laidByText := true, laidKinds := [.data, .data, .data, .data, .sentinel, .sentinel, .pinned], laidTests := true, laidLooks := .later }
def JprintApartCardSaid : Prop := Claim7.holds Tryz.pinned (.plain (OpenSpec.ofChange jprintApartSpec)) jprintApartCard

/-- THE TIED CARD OF 'dragomanlaw9.JprintLines'. -/
def jprintLinesCard : Claim7 := { stood := { row := jprintLinesRow, standIns := [], harness := (true, "3e210a0fc09ee668788b2edc215fa24255c1d7f9516bc00e060625c1a8175d77"), looks := true }, kinds := [], alts := [], laidByText := true, laidKinds := [.data, .data, .data, .data, .sentinel, .sentinel, .pinned], laidTests := true, laidLooks := .later }
def JprintLinesCardSaid : Prop := Claim7.holds Tryz.pinned (.plain (OpenSpec.ofChange jprintLinesSpec)) jprintLinesCard

/-- THE TIED CARD OF 'dragomanlaw9.JprintBack'. -/
def jprintBackCard : Claim7 := { stood := { row := jprintBackRow, standIns := [], harness := (true, "3e210a0fc09ee668788b2edc215fa24255c1d7f9516bc00e060625c1a8175d77"), looks := true }, kinds := [], alts := [], laidByText := true, laidKinds := [.data, .data, .data, .data, .sentinel, .sentinel, .pinned], laidTests := true, laidLooks := .later }
def JprintBackCardSaid : Prop := Claim7.holds Tryz.pinned (.plain (OpenSpec.ofChange jprintBackSpec)) jprintBackCard

/-- THE TIED CARD OF 'dragomanlaw9.JprintOne'. -/
def jprintOneCard : Claim7 := { stood := { row := jprintOneRow, standIns := [], harness := (true, "3e210a0fc09ee668788b2edc215fa24255c1d7f9516bc00e060625c1a8175d77"), looks := true }, kinds := [], alts := [], laidByText := true, laidKinds := [.data, .data, .data, .data, .sentinel, .sentinel, .pinned], laidTests := true, laidLooks := .later }
def JprintOneCardSaid : Prop := Claim7.holds Tryz.pinned (.plain (OpenSpec.ofChange jprintOneSpec)) jprintOneCard

/-- THE TIED CARD OF 'dragomanlaw9.JprintPlain'. -/
def jprintPlainCard : Claim7 := { stood := { row := jprintPlainRow, standIns := [], harness := (true, "3e210a0fc09ee668788b2edc215fa24255c1d7f9516bc00e060625c1a8175d77"), looks := true }, kinds := [], alts := [], laidByText := true, laidKinds := [.data, .data, .data, .data, .sentinel, .sentinel, .pinned], laidTests := true, laidLooks := .later }
def JprintPlainCardSaid : Prop := Claim7.holds Tryz.pinned (.plain (OpenSpec.ofChange jprintPlainSpec)) jprintPlainCard

/-- THE SECOND FORM's CARD OF 'dragomanlaw9.JprintKnown'. -/
def jprintKnownUptoCard : Claim7 := { stood := { row := jprintKnownUptoRow, standIns := [], harness := (true, "3e210a0fc09ee668788b2edc215fa24255c1d7f9516bc00e060625c1a8175d77"), looks := true }, kinds := [], alts := [], laidByText := true, laidKinds := [.data, .data, .data, .data, .sentinel, .sentinel, .pinned], laidTests := true, laidLooks := .later }
def JprintKnownUptoCardSaid : Prop := Claim7.holds Tryz.pinned (.plain (OpenSpec.upto jprintKnownSpec)) jprintKnownUptoCard

/-- THE SECOND FORM's CARD OF 'dragomanlaw9.JprintSays'. -/
def jprintSaysUptoCard : Claim7 := { stood := { row := jprintSaysUptoRow, standIns := [], harness := (true, "3e210a0fc09ee668788b2edc215fa24255c1d7f9516bc00e060625c1a8175d77"), looks := true }, kinds := [], alts := [], laidByText := true, laidKinds := [.data, .data, .data, .data, .sentinel, .sentinel, .pinned], laidTests := true, laidLooks := .later }
def JprintSaysUptoCardSaid : Prop := Claim7.holds Tryz.pinned (.plain (OpenSpec.upto jprintSaysSpec)) jprintSaysUptoCard

/-- THE SECOND FORM's CARD OF 'dragomanlaw9.JprintApart'. -/
def jprintApartUptoCard : Claim7 := { stood := { row := jprintApartUptoRow, standIns := [], harness := (true, "3e210a0fc09ee668788b2edc215fa24255c1d7f9516bc00e060625c1a8175d77"), looks := true }, kinds := [], alts := [], laidByText := true, laidKinds := [.data, .data, .data, .data, .sentinel, .sentinel, .pinned], laidTests := true, laidLooks := .later }
def JprintApartUptoCardSaid : Prop := Claim7.holds Tryz.pinned (.plain (OpenSpec.upto jprintApartSpec)) jprintApartUptoCard

/-- THE SECOND FORM's CARD OF 'dragomanlaw9.JprintLines'. -/
def jprintLinesUptoCard : Claim7 := { stood := { row := jprintLinesUptoRow, standIns := [], harness := (true, "3e210a0fc09ee668788b2edc215fa24255c1d7f9516bc00e060625c1a8175d77"), looks := true }, kinds := [], alts := [], laidByText := true, laidKinds := [.data, .data, .data, .data, .sentinel, .sentinel, .pinned], laidTests := true, laidLooks := .later }
def JprintLinesUptoCardSaid : Prop := Claim7.holds Tryz.pinned (.plain (OpenSpec.upto jprintLinesSpec)) jprintLinesUptoCard

/-- THE SECOND FORM's CARD OF 'dragomanlaw9.JprintBack'. -/
def jprintBackUptoCard : Claim7 := { stood := { row := jprintBackUptoRow, standIns := [], harness := (true, "3e210a0fc09ee668788b2edc215fa24255c1d7f9516bc00e060625c1a8175d77"), looks := true }, kinds := [], alts := [], laidByText := true, laidKinds := [.data, .data, .data, .data, .sentinel, .sentinel, .pinned], laidTests := true, laidLooks := .later }
def JprintBackUptoCardSaid : Prop := Claim7.holds Tryz.pinned (.plain (OpenSpec.upto jprintBackSpec)) jprintBackUptoCard

/-- THE SECOND FORM's CARD OF 'dragomanlaw9.JprintOne'. -/
def jprintOneUptoCard : Claim7 := { stood := { row := jprintOneUptoRow, standIns := [], harness := (true, "3e210a0fc09ee668788b2edc215fa24255c1d7f9516bc00e060625c1a8175d77"), looks := true }, kinds := [], alts := [], laidByText := true, laidKinds := [.data, .data, .data, .data, .sentinel, .sentinel, .pinned], laidTests := true, laidLooks := .later }
def JprintOneUptoCardSaid : Prop := Claim7.holds Tryz.pinned (.plain (OpenSpec.upto jprintOneSpec)) jprintOneUptoCard

/-- THE SECOND FORM's CARD OF 'dragomanlaw9.JprintPlain'. -/
def jprintPlainUptoCard : Claim7 := { stood := { row := jprintPlainUptoRow, standIns := [], harness := (true, "3e210a0fc09ee668788b2edc215fa24255c1d7f9516bc00e060625c1a8175d77"), looks := true }, kinds := [], alts := [], laidByText := true, laidKinds := [.data, .data, .data, .data, .sentinel, .sentinel, .pinned], laidTests := true, laidLooks := .later }
def JprintPlainUptoCardSaid : Prop := Claim7.holds Tryz.pinned (.plain (OpenSpec.upto jprintPlainSpec)) jprintPlainUptoCard
end Rows
end Go.Proofs.YtaoejccgdpppgaaGreatDoor

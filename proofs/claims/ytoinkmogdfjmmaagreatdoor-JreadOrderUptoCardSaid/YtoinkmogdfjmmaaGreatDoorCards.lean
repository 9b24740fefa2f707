/-
  DERIVED. GIVEN WITH THE SEED: THE CARDS: each row of YtoinkmogdfjmmaaGreatDoorRows.lean that lists a variable, with what it lists TIED to the program's text (the seventh form; the later family's looks); each row that meets fmt, with fmt's text TOLD by the authors' own Lean function (tested against real Go, not proved from fmt's source: count such statements apart). THE CARD IS WHAT COUNTS. Prove the row's statement (the work); the ties are given (YtoinkmogdfjmmaaGreatDoorTie.lean); close each card by the builder's one call (the guide's Derived/Test/ToyasCard.lean, 'card_holds'). Laid BY PROGRAM, IN A SANDBOX (cutbox-door.mjs). By AI agents, Wed Nov 11 2026. No macro, syntax, notation, axiom, sorry.
-/
import Derived.Test.YtoinkmogdfjmmaaGreatDoorRows
import GoSem.ClaimSeven
namespace Go.Proofs.YtoinkmogdfjmmaaGreatDoor
namespace Rows

/-- THE TIED CARD OF 'dragomanlaw8.JreadKnown'. -/
def jreadKnownCard : Claim7 := { stood := { row := jreadKnownRow, standIns := [], harness := (true, "b8598bb48509cc916514cab35ee3b114ff3fd30a46524ee7ee5383d24bd5bb4c"), looks := true }, kinds := [], alts := [], laidByText := true, laidKinds := [.data, .data, .data, .data, .sentinel, .sentinel, .pinned], laidTests := true, laidLooks := .later }
def JreadKnownCardSaid : Prop := Claim7.holds Tryz.pinned (.plain (OpenSpec.ofChange jreadKnownSpec)) jreadKnownCard

/-- THE TIED CARD OF 'dragomanlaw8.JreadSays'. -/
def jreadSaysCard : Claim7 := { stood := { row := jreadSaysRow, standIns := [], harness := (true, "b8598bb48509cc916514cab35ee3b114ff3fd30a46524ee7ee5383d24bd5bb4c"), looks := true }, kinds := [], alts := [], laidByText := true, laidKinds := [.data, .data, .data, .data, .sentinel, .sentinel, .pinned], laidTests := true, laidLooks := .later }
def JreadSaysCardSaid : Prop := Claim7.holds Tryz.pinned (.plain (OpenSpec.ofChange jreadSaysSpec)) jreadSaysCard

/-- THE TIED CARD OF 'dragomanlaw8.JreadNests'. -/
def jreadNestsCard : Claim7 := { stood := { row := jreadNestsRow, standIns := [], harness := (true, "b8598bb48509cc916514cab35ee3b114ff3fd30a46524ee7ee5383d24bd5bb4c"), looks := true }, kinds := [], alts := [], laidByText := true, laidKinds := [.data, .data, .data, .data, .sentinel, .sentinel, .pinned], laidTests := true, laidLooks := .later }
def JreadNestsCardSaid : Prop := Claim7.holds Tryz.pinned (.plain (OpenSpec.ofChange jreadNestsSpec)) jreadNestsCard

/-- THE TIED CARD OF 'dragomanlaw8.JreadOrder'. -/
def jreadOrderCard : Claim7 := { stood := { row := jreadOrderRow, standIns := [], harness := (true, "b8598bb48509cc916514cab35ee3b114ff3fd30a46524ee7ee5383d24bd5bb4c"), looks := true }, kinds := [], alts := [], laidByText := true, laidKinds := [.data, .data, .data, .data, .sentinel, .sentinel, .pinned], laidTests := true, laidLooks := .later }
def JreadOrderCardSaid : Prop := Claim7.holds Tryz.pinned (.plain (OpenSpec.ofChange jreadOrderSpec)) jreadOrderCard

/-- THE TIED CARD OF 'dragomanlaw8.JreadCuts'. -/
def jreadCutsCard : Claim7 := { stood := { row := jreadCutsRow, standIns := [], harness := (true, "b8598bb48509cc916514cab35ee3b114ff3fd30a46524ee7ee5383d24bd5bb4c"), looks := true }, kinds := [], alts := [], laidByText := true, laidKinds := [.data, .data, .data, .data, .sentinel, .sentinel, .pinned], laidTests := true, laidLooks := .later }
def JreadCutsCardSaid : Prop := Claim7.holds Tryz.pinned (.plain (OpenSpec.ofChange jreadCutsSpec)) jreadCutsCard

/-- THE TIED CARD OF 'dragomanlaw8.JreadTwice'. -/
def jreadTwiceCard : Claim7 := { stood := { row := jreadTwiceRow, standIns := [], harness := (true, "b8598bb48509cc916514cab35ee3b114ff3fd30a46524ee7ee5383d24bd5bb4c"), looks := true }, kinds := [], alts := [], laidByText := true, laidKinds := [.data, .data, .data, .data, .sentinel, .sentinel, .pinned], laidTests := true, laidLooks := .later }
def JreadTwiceCardSaid : Prop := Claim7.holds Tryz.pinned (.plain (OpenSpec.ofChange jreadTwiceSpec)) jreadTwiceCard

/-- THE TIED CARD OF 'dragomanlaw8.JreadNumbers'. -/
def jreadNumbersCard : Claim7 := { stood := { row := jreadNumbersRow, standIns := [], harness := (true, "b8598bb48509cc916514cab35ee3b114ff3fd30a46524ee7ee5383d24bd5bb4c"), looks := true }, kinds := [], alts := [], laidByText := true, laidKinds := [.data, .data, .data, .data, .sentinel, .sentinel, .pinned], laidTests := true, laidLooks := .later }
def JreadNumbersCardSaid : Prop := Claim7.holds Tryz.pinned (.plain (OpenSpec.ofChange jreadNumbersSpec)) jreadNumbersCard

/-- THE SECOND FORM's CARD OF 'dragomanlaw8.JreadKnown'. -/
def jreadKnownUptoCard : Claim7 := { stood := { row := jreadKnownUptoRow, standIns := [], harness := (true, "b8598bb48509cc916514cab35ee3b114ff3fd30a46524ee7ee5383d24bd5bb4c"), looks := true }, kinds := [], alts := [], laidByText := true, laidKinds := [.data, .data, .data, .data, .sentinel, .sentinel, .pinned], laidTests := true, laidLooks := .later }
def JreadKnownUptoCardSaid : Prop := Claim7.holds Tryz.pinned (.plain (OpenSpec.upto jreadKnownSpec)) jreadKnownUptoCard

/-- THE SECOND FORM's CARD OF 'dragomanlaw8.JreadSays'. -/
def jreadSaysUptoCard : Claim7 := { stood := { row := jreadSaysUptoRow, standIns := [], harness := (true, "b8598bb48509cc916514cab35ee3b114ff3fd30a46524ee7ee5383d24bd5bb4c"), looks := true }, kinds := [], alts := [], laidByText := true, laidKinds := [.data, .data, .data, .data, .sentinel, .sentinel, .pinned], laidTests := true, laidLooks := .later }
def JreadSaysUptoCardSaid : Prop := Claim7.holds Tryz.pinned (.plain (OpenSpec.upto jreadSaysSpec)) jreadSaysUptoCard

/-- THE SECOND FORM's CARD OF 'dragomanlaw8.JreadNests'. -/
def jreadNestsUptoCard : Claim7 := { stood := { row := jreadNestsUptoRow, standIns := [], harness := (true, "b8598bb48509cc916514cab35ee3b114ff3fd30a46524ee7ee5383d24bd5bb4c"), looks := true }, kinds := [], alts := [], laidByText := true, laidKinds := [.data, .data, .data, .data, .sentinel, .sentinel, .pinned], laidTests := true, laidLooks := .later }
def JreadNestsUptoCardSaid : Prop := Claim7.holds Tryz.pinned (.plain (OpenSpec.upto jreadNestsSpec)) jreadNestsUptoCard

/-- THE SECOND FORM's CARD OF 'dragomanlaw8.JreadOrder'. -/
def jreadOrderUptoCard : Claim7 := { stood := { row := jreadOrderUptoRow, standIns := [], harness := (true, "b8598bb48509cc916514cab35ee3b114ff3fd30a46524ee7ee5383d24bd5bb4c"), looks := true }, kinds := [], alts := [], laidByText := true, laidKinds := [.data, .data, .data, .data, .sentinel, .sentinel, .pinned], laidTests := true, laidLooks := .later }
def JreadOrderUptoCardSaid : Prop := Claim7.holds Tryz.pinned (.plain (OpenSpec.upto jreadOrderSpec)) jreadOrderUptoCard

/-- THE SECOND FORM's CARD OF 'dragomanlaw8.JreadCuts'. -/
def jreadCutsUptoCard : Claim7 := { stood := { row := jreadCutsUptoRow, standIns := [], harness := (true, "b8598bb48509cc916514cab35ee3b114ff3fd30a46524ee7ee5383d24bd5bb4c"), looks := true }, kinds := [], alts := [], laidByText := true, laidKinds := [.data, .data, .data, .data, .sentinel, .sentinel, .pinned], laidTests := true, laidLooks := .later }
def JreadCutsUptoCardSaid : Prop := Claim7.holds Tryz.pinned (.plain (OpenSpec.upto jreadCutsSpec)) jreadCutsUptoCard

/-- THE SECOND FORM's CARD OF 'dragomanlaw8.JreadTwice'. -/
def jreadTwiceUptoCard : Claim7 := { stood := { row := jreadTwiceUptoRow, standIns := [], harness := (true, "b8598bb48509cc916514cab35ee3b114ff3fd30a46524ee7ee5383d24bd5bb4c"), looks := true }, kinds := [], alts := [], laidByText := true, laidKinds := [.data, .data, .data, .data, .sentinel, .sentinel, .pinned], laidTests := true, laidLooks := .later }
def JreadTwiceUptoCardSaid : Prop := Claim7.holds Tryz.pinned (.plain (OpenSpec.upto jreadTwiceSpec)) jreadTwiceUptoCard

/-- THE SECOND FORM's CARD OF 'dragomanlaw8.JreadNumbers'. -/
def jreadNumbersUptoCard : Claim7 := { stood := { row := jreadNumbersUptoRow, standIns := [], harness := (true, "b8598bb48509cc916514cab35ee3b114ff3fd30a46524ee7ee5383d24bd5bb4c"), looks := true }, kinds := [], alts := [], laidByText := true, laidKinds := [.data, .data, .data, .data, .sentinel, .sentinel, .pinned], laidTests := true, laidLooks := .later }
def JreadNumbersUptoCardSaid : Prop := Claim7.holds Tryz.pinned (.plain (OpenSpec.upto jreadNumbersSpec)) jreadNumbersUptoCard
end Rows
end Go.Proofs.YtoinkmogdfjmmaaGreatDoor

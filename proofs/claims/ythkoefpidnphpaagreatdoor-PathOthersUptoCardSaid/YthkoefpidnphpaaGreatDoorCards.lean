/-
  DERIVED. GIVEN WITH THE SEED: THE CARDS: each row of YthkoefpidnphpaaGreatDoorRows.lean that lists a variable, with what it lists TIED to the program's text (the seventh form; the later family's looks); each row that meets fmt, with fmt's text TOLD by the authors' own Lean function (tested against real Go, not proved from fmt's source: count such statements apart). THE CARD IS WHAT COUNTS. Prove the row's statement (the work); the ties are given (YthkoefpidnphpaaGreatDoorTie.lean); close each card by the builder's one call (the guide's Derived/Test/ToyasCard.lean, 'card_holds'). Laid BY PROGRAM, IN A SANDBOX (cutbox-door.mjs). By AI agents, Wed Nov 11 2026. No macro, syntax, notation, axiom, sorry.
-/
import Derived.Test.YthkoefpidnphpaaGreatDoorRows
import GoSem.ClaimSeven
namespace Go.Proofs.YthkoefpidnphpaaGreatDoor
namespace Rows

/-- THE TIED CARD OF 'dragomanlaw12.TprintKnown'. -/
def tprintKnownCard : Claim7 := { stood := { row := tprintKnownRow, standIns := [], harness := (true, "16689faf2f25ddffd343123a317f4259aff22719525ae993f7249fe23520d6a8"), looks := true }, kinds := [], alts := [], laidByText := true, laidKinds := [.data, .data, .data, .data, .sentinel, .sentinel, .pinned], laidTests := true, laidLooks := .later }
def TprintKnownCardSaid : Prop := Claim7.holds Tryz.pinned (.plain (OpenSpec.ofChange tprintKnownSpec)) tprintKnownCard

/-- THE TIED CARD OF 'dragomanlaw12.TprintSays'. -/
def tprintSaysCard : Claim7 := { stood := { row := tprintSaysRow, standIns := [], harness := (true, "16689faf2f25ddffd343123a317f4259aff22719525ae993f7249fe23520d6a8"), looks := true }, kinds := [], alts := [], laidByText := true, laidKinds := [.data, .data, .data, .data, .sentinel, .sentinel, .pinned], laidTests := true, laidLooks := .later }
def TprintSaysCardSaid : Prop := Claim7.holds Tryz.pinned (.plain (OpenSpec.ofChange tprintSaysSpec)) tprintSaysCard

/-- THE TIED CARD OF 'dragomanlaw12.TprintApart'. -/
def tprintApartCard : Claim7 := { stood := { row := tprintApartRow, standIns := [], harness := (true, "16689faf2f25ddffd343123a317f4259aff22719525ae993f7249fe23520d6a8"), looks := true }, kinds := [], alts := [], laidByText := true, laidKinds := [.data, .data, .data, .data, .sentinel, .sentinel, .pinned], laidTests := true, laidLooks := .later }
def TprintApartCardSaid : Prop := Claim7.holds Tryz.pinned (.plain (OpenSpec.ofChange tprintApartSpec)) tprintApartCard

/-- THE TIED CARD OF 'dragomanlaw5.PathKnown'. -/
def pathKnownCard : Claim7 := { stood := { row := pathKnownRow, standIns := [], harness := (true, "16689faf2f25ddffd343123a317f4259aff22719525ae993f7249fe23520d6a8"), looks := true }, kinds := [], alts := [], laidByText := true, laidKinds := [.data, .data, .data, .data, .sentinel, .sentinel, .pinned], laidTests := true, laidLooks := .later }
def PathKnownCardSaid : Prop := Claim7.holds Tryz.pinned (.plain (OpenSpec.ofChange pathKnownSpec)) pathKnownCard

/-- THE TIED CARD OF 'dragomanlaw5.PathTrees'. -/
def pathTreesCard : Claim7 := { stood := { row := pathTreesRow, standIns := [], harness := (true, "16689faf2f25ddffd343123a317f4259aff22719525ae993f7249fe23520d6a8"), looks := true }, kinds := [], alts := [], laidByText := true, laidKinds := [.data, .data, .data, .data, .sentinel, .sentinel, .pinned], laidTests := true, laidLooks := .later }
def PathTreesCardSaid : Prop := Claim7.holds Tryz.pinned (.plain (OpenSpec.ofChange pathTreesSpec)) pathTreesCard

/-- THE TIED CARD OF 'dragomanlaw5.PathAll'. -/
def pathAllCard : Claim7 := { stood := { row := pathAllRow, standIns := [], harness := (true, "16689faf2f25ddffd343123a317f4259aff22719525ae993f7249fe23520d6a8"), looks := true }, kinds := [], alts := [], laidByText := true, laidKinds := [.data, .data, .data, .data, .sentinel, .sentinel, .pinned], laidTests := true, laidLooks := .later }
def PathAllCardSaid : Prop := Claim7.holds Tryz.pinned (.plain (OpenSpec.ofChange pathAllSpec)) pathAllCard

/-- THE TIED CARD OF 'dragomanlaw5.PathOrder'. -/
def pathOrderCard : Claim7 := { stood := { row := pathOrderRow, standIns := [], harness := (true, "16689faf2f25ddffd343123a317f4259aff22719525ae993f7249fe23520d6a8"), looks := true }, kinds := [], alts := [], laidByText := true, laidKinds := [.data, .data, .data, .data, .sentinel, .sentinel, .pinned], laidTests := true, laidLooks := .later }
def PathOrderCardSaid : Prop := Claim7.holds Tryz.pinned (.plain (OpenSpec.ofChange pathOrderSpec)) pathOrderCard

/-- THE TIED CARD OF 'dragomanlaw5.PathOthers'. -/
def pathOthersCard : Claim7 := { stood := { row := pathOthersRow, standIns := [], harness := (true, "16689faf2f25ddffd343123a317f4259aff22719525ae993f7249fe23520d6a8"), looks := true }, kinds := [], alts := [], laidByText := true, laidKinds := [.data, .data, .data, .data, .sentinel, .sentinel, .pinned], laidTests := true, laidLooks := .later }
def PathOthersCardSaid : Prop := Claim7.holds Tryz.pinned (.plain (OpenSpec.ofChange pathOthersSpec)) pathOthersCard

/-- THE TIED CARD OF 'dragomanlaw5.PathParts'. -/
def pathPartsCard : Claim7 := { stood := { row := pathPartsRow, standIns := [], harness := (true, "16689faf2f25ddffd343123a317f4259aff22719525ae993f7249fe23520d6a8"), looks := true }, kinds := [], alts := [], laidByText := true, laidKinds := [.data, .data, .data, .data, .sentinel, .sentinel, .pinned], laidTests := true, laidLooks := .later }
def PathPartsCardSaid : Prop := Claim7.holds Tryz.pinned (.plain (OpenSpec.ofChange pathPartsSpec)) pathPartsCard

/-- THE SECOND FORM's CARD OF 'dragomanlaw12.TprintKnown'. -/
def tprintKnownUptoCard : Claim7 := { stood := { row := tprintKnownUptoRow, standIns := [], harness := (true, "16689faf2f25ddffd343123a317f4259aff22719525ae993f7249fe23520d6a8"), looks := true }, kinds := [], alts := [], laidByText := true, laidKinds := [.data, .data, .data, .data, .sentinel, .sentinel, .pinned], laidTests := true, laidLooks := .later }
def TprintKnownUptoCardSaid : Prop := Claim7.holds Tryz.pinned (.plain (OpenSpec.upto tprintKnownSpec)) tprintKnownUptoCard

/-- THE SECOND FORM's CARD OF 'dragomanlaw12.TprintSays'. -/
def tprintSaysUptoCard : Claim7 := { stood := { row := tprintSaysUptoRow, standIns := [], harness := (true, "16689faf2f25ddffd343123a317f4259aff22719525ae993f7249fe23520d6a8"), looks := true }, kinds := [], alts := [], laidByText := true, laidKinds := [.data, .data, .data, .data, .sentinel, .sentinel, .pinned], laidTests := true, laidLooks := .later }
def TprintSaysUptoCardSaid : Prop := Claim7.holds Tryz.pinned (.plain (OpenSpec.upto tprintSaysSpec)) tprintSaysUptoCard

/-- THE SECOND FORM's CARD OF 'dragomanlaw12.TprintApart'. -/
def tprintApartUptoCard : Claim7 := { stood := { row := tprintApartUptoRow, standIns := [], harness := (true, "16689faf2f25ddffd343123a317f4259aff22719525ae993f7249fe23520d6a8"), looks := true }, kinds := [], alts := [], laidByText := true, laidKinds := [.data, .data, .data, .data, .sentinel, .sentinel, .pinned], laidTests := true, laidLooks := .later }
def TprintApartUptoCardSaid : Prop := Claim7.holds Tryz.pinned (.plain (OpenSpec.upto tprintApartSpec)) tprintApartUptoCard

/-- THE SECOND FORM's CARD OF 'dragomanlaw5.PathKnown'. -/
def pathKnownUptoCard : Claim7 := { stood := { row := pathKnownUptoRow, standIns := [], harness := (true, "16689faf2f25ddffd343123a317f4259aff22719525ae993f7249fe23520d6a8"), looks := true }, kinds := [], alts := [], laidByText := true, laidKinds := [.data, .data, .data, .data, .sentinel, .sentinel, .pinned], laidTests := true, laidLooks := .later }
def PathKnownUptoCardSaid : Prop := Claim7.holds Tryz.pinned (.plain (OpenSpec.upto pathKnownSpec)) pathKnownUptoCard

/-- THE SECOND FORM's CARD OF 'dragomanlaw5.PathTrees'. -/
def pathTreesUptoCard : Claim7 := { stood := { row := pathTreesUptoRow, standIns := [], harness := (true, "16689faf2f25ddffd343123a317f4259aff22719525ae993f7249fe23520d6a8"), looks := true }, kinds := [], alts := [], laidByText := true, laidKinds := [.data, .data, .data, .data, .sentinel, .sentinel, .pinned], laidTests := true, laidLooks := .later }
def PathTreesUptoCardSaid : Prop := Claim7.holds Tryz.pinned (.plain (OpenSpec.upto pathTreesSpec)) pathTreesUptoCard

/-- THE SECOND FORM's CARD OF 'dragomanlaw5.PathAll'. -/
def pathAllUptoCard : Claim7 := { stood := { row := pathAllUptoRow, standIns := [], harness := (true, "16689faf2f25ddffd343123a317f4259aff22719525ae993f7249fe23520d6a8"), looks := true }, kinds := [], alts := [], laidByText := true, laidKinds := [.data, .data, .data, .data, .sentinel, .sentinel, .pinned], laidTests := true, laidLooks := .later }
def PathAllUptoCardSaid : Prop := Claim7.holds Tryz.pinned (.plain (OpenSpec.upto pathAllSpec)) pathAllUptoCard

/-- THE SECOND FORM's CARD OF 'dragomanlaw5.PathOrder'. -/
def pathOrderUptoCard : Claim7 := { stood := { row := pathOrderUptoRow, standIns := [], harness := (true, "16689faf2f25ddffd343123a317f4259aff22719525ae993f7249fe23520d6a8"), looks := true }, kinds := [], alts := [], laidByText := true, laidKinds := [.data, .data, .data, .data, .sentinel, .sentinel, .pinned], laidTests := true, laidLooks := .later }
def PathOrderUptoCardSaid : Prop := Claim7.holds Tryz.pinned (.plain (OpenSpec.upto pathOrderSpec)) pathOrderUptoCard

/-- THE SECOND FORM's CARD OF 'dragomanlaw5.PathOthers'. -/
def pathOthersUptoCard : Claim7 := { stood := { row := pathOthersUptoRow, standIns := [], harness := (true, "16689faf2f25ddffd343123a317f4259aff22719525ae993f7249fe23520d6a8"), looks := true }, kinds := [], alts := [], laidByText := true, laidKinds := [.data, .data, .data, .data, .sentinel, .sentinel, .pinned], laidTests := true, laidLooks := .later }
def PathOthersUptoCardSaid : Prop := Claim7.holds Tryz.pinned (.plain (OpenSpec.upto pathOthersSpec)) pathOthersUptoCard

/-- THE SECOND FORM's CARD OF 'dragomanlaw5.PathParts'. -/
def pathPartsUptoCard : Claim7 := { stood := { row := pathPartsUptoRow, standIns := [], harness := (true, "16689faf2f25ddffd343123a317f4259aff22719525ae993f7249fe23520d6a8"), looks := true }, kinds := [], alts := [], laidByText := true, laidKinds := [.data, .data, .data, .data, .sentinel, .sentinel, .pinned], laidTests := true, laidLooks := .later }
def PathPartsUptoCardSaid : Prop := Claim7.holds Tryz.pinned (.plain (OpenSpec.upto pathPartsSpec)) pathPartsUptoCard
end Rows
end Go.Proofs.YthkoefpidnphpaaGreatDoor

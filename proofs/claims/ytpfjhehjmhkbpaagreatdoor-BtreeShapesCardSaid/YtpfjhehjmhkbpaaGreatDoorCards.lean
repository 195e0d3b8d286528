/-
  DERIVED. GIVEN WITH THE SEED: THE CARDS: each row of YtpfjhehjmhkbpaaGreatDoorRows.lean that lists a variable, with what it lists TIED to the program's text (the seventh form; the later family's looks); each row that meets fmt, with fmt's text TOLD by the authors' own Lean function (tested against real Go, not proved from fmt's source: count such statements apart). THE CARD IS WHAT COUNTS. Prove the row's statement (the work); the ties are given (YtpfjhehjmhkbpaaGreatDoorTie.lean); close each card by the builder's one call (the guide's Derived/Test/ToyasCard.lean, 'card_holds'). Laid BY PROGRAM, IN A SANDBOX (cutbox-door.mjs). By AI agents, Wed Nov 11 2026. No macro, syntax, notation, axiom, sorry.
-/
import Derived.Test.YtpfjhehjmhkbpaaGreatDoorRows
import GoSem.ClaimSeven
namespace Go.Proofs.YtpfjhehjmhkbpaaGreatDoor
namespace Rows

/-- THE TIED CARD OF 'pantrylaw10.BtreeRanges'. -/
def btreeRangesCard : Claim7 := { stood := { row := btreeRangesRow, standIns := [], harness := (true, "984712ac4b9a540fdf3efdad2402a3f5deeb70d557505067e0127f9b50e6b285"), looks := false }, kinds := [], alts := [], laidByText := true, laidKinds := [.data, .data, .data], laidTests := true, laidLooks := .later }
def BtreeRangesCardSaid : Prop := Claim7.holds Tryz.pinned (.plain (OpenSpec.ofChange btreeRangesSpec)) btreeRangesCard

/-- THE TIED CARD OF 'pantrylaw10.BtreeShapes'. -/
def btreeShapesCard : Claim7 := { stood := { row := btreeShapesRow, standIns := [], harness := (true, "984712ac4b9a540fdf3efdad2402a3f5deeb70d557505067e0127f9b50e6b285"), looks := false }, kinds := [], alts := [], laidByText := true, laidKinds := [.data, .data, .data], laidTests := true, laidLooks := .later }
def BtreeShapesCardSaid : Prop := Claim7.holds Tryz.pinned (.plain (OpenSpec.ofChange btreeShapesSpec)) btreeShapesCard

/-- THE TIED CARD OF 'pantrylaw10.BtreeDead'. -/
def btreeDeadCard : Claim7 := { stood := { row := btreeDeadRow, standIns := [], harness := (true, "984712ac4b9a540fdf3efdad2402a3f5deeb70d557505067e0127f9b50e6b285"), looks := false }, kinds := [], alts := [], laidByText := true, laidKinds := [.data, .data, .data], laidTests := true, laidLooks := .later }
def BtreeDeadCardSaid : Prop := Claim7.holds Tryz.pinned (.plain (OpenSpec.ofChange btreeDeadSpec)) btreeDeadCard

/-- THE TIED CARD OF 'pantrylaw10.BtreeEmpties'. -/
def btreeEmptiesCard : Claim7 := { stood := { row := btreeEmptiesRow, standIns := [], harness := (true, "984712ac4b9a540fdf3efdad2402a3f5deeb70d557505067e0127f9b50e6b285"), looks := false }, kinds := [], alts := [], laidByText := true, laidKinds := [.data, .data, .data], laidTests := true, laidLooks := .later }
def BtreeEmptiesCardSaid : Prop := Claim7.holds Tryz.pinned (.plain (OpenSpec.ofChange btreeEmptiesSpec)) btreeEmptiesCard

/-- THE TIED CARD OF 'pantrylaw10.BtreeLong'. -/
def btreeLongCard : Claim7 := { stood := { row := btreeLongRow, standIns := [], harness := (true, "984712ac4b9a540fdf3efdad2402a3f5deeb70d557505067e0127f9b50e6b285"), looks := false }, kinds := [], alts := [], laidByText := true, laidKinds := [.data, .data, .data], laidTests := true, laidLooks := .later }
def BtreeLongCardSaid : Prop := Claim7.holds Tryz.pinned (.plain (OpenSpec.ofChange btreeLongSpec)) btreeLongCard

/-- THE TIED CARD OF 'pantrylaw10.BtreeOfNothing'. -/
def btreeOfNothingCard : Claim7 := { stood := { row := btreeOfNothingRow, standIns := [], harness := (true, "984712ac4b9a540fdf3efdad2402a3f5deeb70d557505067e0127f9b50e6b285"), looks := false }, kinds := [], alts := [], laidByText := true, laidKinds := [.data, .data, .data], laidTests := true, laidLooks := .later }
def BtreeOfNothingCardSaid : Prop := Claim7.holds Tryz.pinned (.plain (OpenSpec.ofChange btreeOfNothingSpec)) btreeOfNothingCard

/-- THE TIED CARD OF 'pantrylaw10.BtreeWhole'. -/
def btreeWholeCard : Claim7 := { stood := { row := btreeWholeRow, standIns := [], harness := (true, "984712ac4b9a540fdf3efdad2402a3f5deeb70d557505067e0127f9b50e6b285"), looks := false }, kinds := [], alts := [], laidByText := true, laidKinds := [.data, .data, .data], laidTests := true, laidLooks := .later }
def BtreeWholeCardSaid : Prop := Claim7.holds Tryz.pinned (.plain (OpenSpec.ofChange btreeWholeSpec)) btreeWholeCard

/-- THE SECOND FORM's CARD OF 'pantrylaw10.BtreeRanges'. -/
def btreeRangesUptoCard : Claim7 := { stood := { row := btreeRangesUptoRow, standIns := [], harness := (true, "984712ac4b9a540fdf3efdad2402a3f5deeb70d557505067e0127f9b50e6b285"), looks := false }, kinds := [], alts := [], laidByText := true, laidKinds := [.data, .data, .data], laidTests := true, laidLooks := .later }
def BtreeRangesUptoCardSaid : Prop := Claim7.holds Tryz.pinned (.plain (OpenSpec.upto btreeRangesSpec)) btreeRangesUptoCard

/-- THE SECOND FORM's CARD OF 'pantrylaw10.BtreeShapes'. -/
def btreeShapesUptoCard : Claim7 := { stood := { row := btreeShapesUptoRow, standIns := [], harness := (true, "984712ac4b9a540fdf3efdad2402a3f5deeb70d557505067e0127f9b50e6b285"), looks := false }, kinds := [], alts := [], laidByText := true, laidKinds := [.data, .data, .data], laidTests := true, laidLooks := .later }
def BtreeShapesUptoCardSaid : Prop := Claim7.holds Tryz.pinned (.plain (OpenSpec.upto btreeShapesSpec)) btreeShapesUptoCard

/-- THE SECOND FORM's CARD OF 'pantrylaw10.BtreeDead'. -/
def btreeDeadUptoCard : Claim7 := { stood := { row := btreeDeadUptoRow, standIns := [], harness := (true, "984712ac4b9a540fdf3efdad2402a3f5deeb70d557505067e0127f9b50e6b285"), looks := false }, kinds := [], alts := [], laidByText := true, laidKinds := [.data, .data, .data], laidTests := true, laidLooks := .later }
def BtreeDeadUptoCardSaid : Prop := Claim7.holds Tryz.pinned (.plain (OpenSpec.upto btreeDeadSpec)) btreeDeadUptoCard

/-- THE SECOND FORM's CARD OF 'pantrylaw10.BtreeEmpties'. -/
def btreeEmptiesUptoCard : Claim7 := { stood := { row := btreeEmptiesUptoRow, standIns := [], harness := (true, "984712ac4b9a540fdf3efdad2402a3f5deeb70d557505067e0127f9b50e6b285"), looks := false }, kinds := [], alts := [], laidByText := true, laidKinds := [.data, .data, .data], laidTests := true, laidLooks := .later }
def BtreeEmptiesUptoCardSaid : Prop := Claim7.holds Tryz.pinned (.plain (OpenSpec.upto btreeEmptiesSpec)) btreeEmptiesUptoCard

/-- THE SECOND FORM's CARD OF 'pantrylaw10.BtreeLong'. -/
def btreeLongUptoCard : Claim7 := { stood := { row := btreeLongUptoRow, standIns := [], harness := (true, "984712ac4b9a540fdf3efdad2402a3f5deeb70d557505067e0127f9b50e6b285"), looks := false }, kinds := [], alts := [], laidByText := true, laidKinds := [.data, .data, .data], laidTests := true, laidLooks := .later }
def BtreeLongUptoCardSaid : Prop := Claim7.holds Tryz.pinned (.plain (OpenSpec.upto btreeLongSpec)) btreeLongUptoCard

/-- THE SECOND FORM's CARD OF 'pantrylaw10.BtreeOfNothing'. -/
def btreeOfNothingUptoCard : Claim7 := { stood := { row := btreeOfNothingUptoRow, standIns := [], harness := (true, "984712ac4b9a540fdf3efdad2402a3f5deeb70d557505067e0127f9b50e6b285"), looks := false }, kinds := [], alts := [], laidByText := true, laidKinds := [.data, .data, .data], laidTests := true, laidLooks := .later }
def BtreeOfNothingUptoCardSaid : Prop := Claim7.holds Tryz.pinned (.plain (OpenSpec.upto btreeOfNothingSpec)) btreeOfNothingUptoCard

/-- THE SECOND FORM's CARD OF 'pantrylaw10.BtreeWhole'. -/
def btreeWholeUptoCard : Claim7 := { stood := { row := btreeWholeUptoRow, standIns := [], harness := (true, "984712ac4b9a540fdf3efdad2402a3f5deeb70d557505067e0127f9b50e6b285"), looks := false }, kinds := [], alts := [], laidByText := true, laidKinds := [.data, .data, .data], laidTests := true, laidLooks := .later }
def BtreeWholeUptoCardSaid : Prop := Claim7.holds Tryz.pinned (.plain (OpenSpec.upto btreeWholeSpec)) btreeWholeUptoCard
end Rows
end Go.Proofs.YtpfjhehjmhkbpaaGreatDoor

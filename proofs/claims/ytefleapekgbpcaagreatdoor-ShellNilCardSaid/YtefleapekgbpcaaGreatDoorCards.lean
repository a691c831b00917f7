/-
  DERIVED. GIVEN WITH THE SEED: THE CARDS: each row of YtefleapekgbpcaaGreatDoorRows.lean that lists a variable, with what it lists TIED to the program's text (the seventh form; the later family's looks); each row that meets fmt, with fmt's text TOLD by the authors' own Lean function (tested against real Go, not proved from fmt's source: count such statements apart). THE CARD IS WHAT COUNTS. Prove the row's statement (the work); the ties are given (YtefleapekgbpcaaGreatDoorTie.lean); close each card by the builder's one call (the guide's Derived/Test/ToyasCard.lean, 'card_holds'). Laid BY PROGRAM, IN A SANDBOX (cutbox-door.mjs). By AI agents, Wed Nov 11 2026. No macro, syntax, notation, axiom, sorry.
-/
import Derived.Test.YtefleapekgbpcaaGreatDoorRows
import GoSem.ClaimSeven
namespace Go.Proofs.YtefleapekgbpcaaGreatDoor
namespace Rows

/-- THE TIED CARD OF 'folkmootlaw14.VsyncErrs'. -/
def vsyncErrsCard : Claim7 := { stood := { row := vsyncErrsRow, standIns := [], harness := (true, "c1439ab5195dedc21c4116d310766dd84a9b205baf8da55af3e572fec4e1edf7"), looks := true }, kinds := [], alts := [], laidByText := true, laidKinds := [.data], laidTests := true, laidLooks := .later }
def VsyncErrsCardSaid : Prop := Claim7.holds Tryz.pinned (.plain (OpenSpec.ofChange vsyncErrsSpec)) vsyncErrsCard

/-- THE TIED CARD OF 'folkmootlaw18.NodeErrs'. -/
def nodeErrsCard : Claim7 := { stood := { row := nodeErrsRow, standIns := [], harness := (true, "c1439ab5195dedc21c4116d310766dd84a9b205baf8da55af3e572fec4e1edf7"), looks := true }, kinds := [], alts := [], laidByText := true, laidKinds := [.data], laidTests := true, laidLooks := .later }
def NodeErrsCardSaid : Prop := Claim7.holds Tryz.pinned (.plain (OpenSpec.ofChange nodeErrsSpec)) nodeErrsCard

/-- THE TIED CARD OF 'folkmootlaw20.MootBounds'. -/
def mootBoundsCard : Claim7 := { stood := { row := mootBoundsRow, standIns := [], harness := (true, "c1439ab5195dedc21c4116d310766dd84a9b205baf8da55af3e572fec4e1edf7"), looks := true }, kinds := [], alts := [], laidByText := true, laidKinds := [.data], laidTests := true, laidLooks := .later }
def MootBoundsCardSaid : Prop := Claim7.holds Tryz.pinned (.plain (OpenSpec.ofChange mootBoundsSpec)) mootBoundsCard

/-- THE TIED CARD OF 'folkmootlaw21.ShellReads'. -/
def shellReadsCard : Claim7 := { stood := { row := shellReadsRow, standIns := [], harness := (true, "c1439ab5195dedc21c4116d310766dd84a9b205baf8da55af3e572fec4e1edf7"), looks := true }, kinds := [], alts := [], laidByText := true, laidKinds := [.data, .data, .data, .data, .sentinel, .sentinel, .data, .data, .pinned], laidTests := true, laidLooks := .later }
def ShellReadsCardSaid : Prop := Claim7.holds Tryz.pinned (.plain (OpenSpec.ofChange shellReadsSpec)) shellReadsCard

/-- THE TIED CARD OF 'folkmootlaw21.ShellNil'. -/
def shellNilCard : Claim7 := { stood := { row := shellNilRow, standIns := [], harness := (true, "c1439ab5195dedc21c4116d310766dd84a9b205baf8da55af3e572fec4e1edf7"), looks := true }, kinds := [], alts := [], laidByText := true, laidKinds := [.data, .data, .data, .data, .sentinel, .sentinel, .data, .data, .pinned], laidTests := true, laidLooks := .later }
def ShellNilCardSaid : Prop := Claim7.holds Tryz.pinned (.plain (OpenSpec.ofChange shellNilSpec)) shellNilCard

/-- THE TIED CARD OF 'folkmootlaw21.ShellNumbers'. -/
def shellNumbersCard : Claim7 := { stood := { row := shellNumbersRow, standIns := [], harness := (true, "c1439ab5195dedc21c4116d310766dd84a9b205baf8da55af3e572fec4e1edf7"), looks := true }, kinds := [], alts := [], laidByText := true, laidKinds := [.data, .data, .data, .data, .sentinel, .sentinel, .data, .data, .pinned], laidTests := true, laidLooks := .later }
def ShellNumbersCardSaid : Prop := Claim7.holds Tryz.pinned (.plain (OpenSpec.ofChange shellNumbersSpec)) shellNumbersCard

/-- THE TIED CARD OF 'folkmootlaw21.ShellWrites'. -/
def shellWritesCard : Claim7 := { stood := { row := shellWritesRow, standIns := [], harness := (true, "c1439ab5195dedc21c4116d310766dd84a9b205baf8da55af3e572fec4e1edf7"), looks := true }, kinds := [], alts := [], laidByText := true, laidKinds := [.data, .data, .data, .data, .sentinel, .sentinel, .data, .data, .pinned], laidTests := true, laidLooks := .later }
def ShellWritesCardSaid : Prop := Claim7.holds Tryz.pinned (.plain (OpenSpec.ofChange shellWritesSpec)) shellWritesCard

/-- THE SECOND FORM's CARD OF 'folkmootlaw14.VsyncErrs'. -/
def vsyncErrsUptoCard : Claim7 := { stood := { row := vsyncErrsUptoRow, standIns := [], harness := (true, "c1439ab5195dedc21c4116d310766dd84a9b205baf8da55af3e572fec4e1edf7"), looks := true }, kinds := [], alts := [], laidByText := true, laidKinds := [.data], laidTests := true, laidLooks := .later }
def VsyncErrsUptoCardSaid : Prop := Claim7.holds Tryz.pinned (.plain (OpenSpec.upto vsyncErrsSpec)) vsyncErrsUptoCard

/-- THE SECOND FORM's CARD OF 'folkmootlaw18.NodeErrs'. -/
def nodeErrsUptoCard : Claim7 := { stood := { row := nodeErrsUptoRow, standIns := [], harness := (true, "c1439ab5195dedc21c4116d310766dd84a9b205baf8da55af3e572fec4e1edf7"), looks := true }, kinds := [], alts := [], laidByText := true, laidKinds := [.data], laidTests := true, laidLooks := .later }
def NodeErrsUptoCardSaid : Prop := Claim7.holds Tryz.pinned (.plain (OpenSpec.upto nodeErrsSpec)) nodeErrsUptoCard

/-- THE SECOND FORM's CARD OF 'folkmootlaw20.MootBounds'. -/
def mootBoundsUptoCard : Claim7 := { stood := { row := mootBoundsUptoRow, standIns := [], harness := (true, "c1439ab5195dedc21c4116d310766dd84a9b205baf8da55af3e572fec4e1edf7"), looks := true }, kinds := [], alts := [], laidByText := true, laidKinds := [.data], laidTests := true, laidLooks := .later }
def MootBoundsUptoCardSaid : Prop := Claim7.holds Tryz.pinned (.plain (OpenSpec.upto mootBoundsSpec)) mootBoundsUptoCard

/-- THE SECOND FORM's CARD OF 'folkmootlaw21.ShellReads'. -/
def shellReadsUptoCard : Claim7 := { stood := { row := shellReadsUptoRow, standIns := [], harness := (true, "c1439ab5195dedc21c4116d310766dd84a9b205baf8da55af3e572fec4e1edf7"), looks := true }, kinds := [], alts := [], laidByText := true, laidKinds := [.data, .data, .data, .data, .sentinel, .sentinel, .data, .data, .pinned], laidTests := true, laidLooks := .later }
def ShellReadsUptoCardSaid : Prop := Claim7.holds Tryz.pinned (.plain (OpenSpec.upto shellReadsSpec)) shellReadsUptoCard

/-- THE SECOND FORM's CARD OF 'folkmootlaw21.ShellNil'. -/
def shellNilUptoCard : Claim7 := { stood := { row := shellNilUptoRow, standIns := [], harness := (true, "c1439ab5195dedc21c4116d310766dd84a9b205baf8da55af3e572fec4e1edf7"), looks := true }, kinds := [], alts := [], laidByText := true, laidKinds := [.data, .data, .data, .data, .sentinel, .sentinel, .data, .data, .pinned], laidTests := true, laidLooks := .later }
def ShellNilUptoCardSaid : Prop := Claim7.holds Tryz.pinned (.plain (OpenSpec.upto shellNilSpec)) shellNilUptoCard

/-- THE SECOND FORM's CARD OF 'folkmootlaw21.ShellNumbers'. -/
def shellNumbersUptoCard : Claim7 := { stood := { row := shellNumbersUptoRow, standIns := [], harness := (true, "c1439ab5195dedc21c4116d310766dd84a9b205baf8da55af3e572fec4e1edf7"), looks := true }, kinds := [], alts := [], laidByText := true, laidKinds := [.data, .data, .data, .data, .sentinel, .sentinel, .data, .data, .pinned], laidTests := true, laidLooks := .later }
def ShellNumbersUptoCardSaid : Prop := Claim7.holds Tryz.pinned (.plain (OpenSpec.upto shellNumbersSpec)) shellNumbersUptoCard

/-- THE SECOND FORM's CARD OF 'folkmootlaw21.ShellWrites'. -/
def shellWritesUptoCard : Claim7 := { stood := { row := shellWritesUptoRow, standIns := [], harness := (true, "c1439ab5195dedc21c4116d310766dd84a9b205baf8da55af3e572fec4e1edf7"), looks := true }, kinds := [], alts := [], laidByText := true, laidKinds := [.data, .data, .data, .data, .sentinel, .sentinel, .data, .data, .pinned], laidTests := true, laidLooks := .later }
def ShellWritesUptoCardSaid : Prop := Claim7.holds Tryz.pinned (.plain (OpenSpec.upto shellWritesSpec)) shellWritesUptoCard
end Rows
end Go.Proofs.YtefleapekgbpcaaGreatDoor

/-
  DERIVED. GIVEN WITH THE SEED: THE CARDS: each row of YthehiobacjjakaaGreatDoorRows.lean that lists a variable, with what it lists TIED to the program's text (the seventh form; the later family's looks); each row that meets fmt, with fmt's text TOLD by the authors' own Lean function (tested against real Go, not proved from fmt's source: count such statements apart). THE CARD IS WHAT COUNTS. Prove the row's statement (the work); the ties are given (YthehiobacjjakaaGreatDoorTie.lean); close each card by the builder's one call (the guide's Derived/Test/ToyasCard.lean, 'card_holds'). Laid BY PROGRAM, IN A SANDBOX (cutbox-door.mjs). By AI agents, Wed Nov 11 2026. No macro, syntax, notation, axiom, sorry.
-/
import Derived.Test.YthehiobacjjakaaGreatDoorRows
import GoSem.ClaimSeven
namespace Go.Proofs.YthehiobacjjakaaGreatDoor
namespace Rows

/-- THE TIED CARD OF 'pollardlaw17.WorkPlays'. -/
def workPlaysCard : Claim7 := { stood := { row := workPlaysRow, standIns := [], harness := (true, "b5315929075185513a43c99e1efd03fd2b7237898fc1d5697669653d5c0aa4e0"), looks := false }, kinds := [], alts := [], laidByText := true, laidKinds := [.data, .data, .data, .data, .pinned], laidTests := true, laidLooks := .later }
def WorkPlaysCardSaid : Prop := Claim7.holds Tryz.pinned (.plain (OpenSpec.ofChange workPlaysSpec)) workPlaysCard

/-- THE TIED CARD OF 'pollardlaw17.WorkLists'. -/
def workListsCard : Claim7 := { stood := { row := workListsRow, standIns := [], harness := (true, "b5315929075185513a43c99e1efd03fd2b7237898fc1d5697669653d5c0aa4e0"), looks := false }, kinds := [], alts := [], laidByText := true, laidKinds := [.data, .data, .data, .data, .pinned], laidTests := true, laidLooks := .later }
def WorkListsCardSaid : Prop := Claim7.holds Tryz.pinned (.plain (OpenSpec.ofChange workListsSpec)) workListsCard

/-- THE TIED CARD OF 'pollardlaw17.WorkPaths'. -/
def workPathsCard : Claim7 := { stood := { row := workPathsRow, standIns := [], harness := (true, "b5315929075185513a43c99e1efd03fd2b7237898fc1d5697669653d5c0aa4e0"), looks := false }, kinds := [], alts := [], laidByText := true, laidKinds := [.data, .data, .data, .data, .pinned], laidTests := true, laidLooks := .later }
def WorkPathsCardSaid : Prop := Claim7.holds Tryz.pinned (.plain (OpenSpec.ofChange workPathsSpec)) workPathsCard

/-- THE TIED CARD OF 'pollardlaw17.WorkNames'. -/
def workNamesCard : Claim7 := { stood := { row := workNamesRow, standIns := [], harness := (true, "b5315929075185513a43c99e1efd03fd2b7237898fc1d5697669653d5c0aa4e0"), looks := false }, kinds := [], alts := [], laidByText := true, laidKinds := [.data, .data, .data, .data, .pinned], laidTests := true, laidLooks := .later }
def WorkNamesCardSaid : Prop := Claim7.holds Tryz.pinned (.plain (OpenSpec.ofChange workNamesSpec)) workNamesCard

/-- THE TIED CARD OF 'pollardlaw17.WorkClocks'. -/
def workClocksCard : Claim7 := { stood := { row := workClocksRow, standIns := [], harness := (true, "b5315929075185513a43c99e1efd03fd2b7237898fc1d5697669653d5c0aa4e0"), looks := false }, kinds := [], alts := [], laidByText := true, laidKinds := [.data, .data, .data, .data, .pinned], laidTests := true, laidLooks := .later }
def WorkClocksCardSaid : Prop := Claim7.holds Tryz.pinned (.plain (OpenSpec.ofChange workClocksSpec)) workClocksCard

/-- THE SECOND FORM's CARD OF 'pollardlaw17.WorkPlays'. -/
def workPlaysUptoCard : Claim7 := { stood := { row := workPlaysUptoRow, standIns := [], harness := (true, "b5315929075185513a43c99e1efd03fd2b7237898fc1d5697669653d5c0aa4e0"), looks := false }, kinds := [], alts := [], laidByText := true, laidKinds := [.data, .data, .data, .data, .pinned], laidTests := true, laidLooks := .later }
def WorkPlaysUptoCardSaid : Prop := Claim7.holds Tryz.pinned (.plain (OpenSpec.upto workPlaysSpec)) workPlaysUptoCard

/-- THE SECOND FORM's CARD OF 'pollardlaw17.WorkLists'. -/
def workListsUptoCard : Claim7 := { stood := { row := workListsUptoRow, standIns := [], harness := (true, "b5315929075185513a43c99e1efd03fd2b7237898fc1d5697669653d5c0aa4e0"), looks := false }, kinds := [], alts := [], laidByText := true, laidKinds := [.data, .data, .data, .data, .pinned], laidTests := true, laidLooks := .later }
def WorkListsUptoCardSaid : Prop := Claim7.holds Tryz.pinned (.plain (OpenSpec.upto workListsSpec)) workListsUptoCard

/-- THE SECOND FORM's CARD OF 'pollardlaw17.WorkPaths'. -/
def workPathsUptoCard : Claim7 := { stood := { row := workPathsUptoRow, standIns := [], harness := (true, "b5315929075185513a43c99e1efd03fd2b7237898fc1d5697669653d5c0aa4e0"), looks := false }, kinds := [], alts := [], laidByText := true, laidKinds := [.data, .data, .data, .data, .pinned], laidTests := true, laidLooks := .later }
def WorkPathsUptoCardSaid : Prop := Claim7.holds Tryz.pinned (.plain (OpenSpec.upto workPathsSpec)) workPathsUptoCard

/-- THE SECOND FORM's CARD OF 'pollardlaw17.WorkNames'. -/
def workNamesUptoCard : Claim7 := { stood := { row := workNamesUptoRow, standIns := [], harness := (true, "b5315929075185513a43c99e1efd03fd2b7237898fc1d5697669653d5c0aa4e0"), looks := false }, kinds := [], alts := [], laidByText := true, laidKinds := [.data, .data, .data, .data, .pinned], laidTests := true, laidLooks := .later }
def WorkNamesUptoCardSaid : Prop := Claim7.holds Tryz.pinned (.plain (OpenSpec.upto workNamesSpec)) workNamesUptoCard

/-- THE SECOND FORM's CARD OF 'pollardlaw17.WorkClocks'. -/
def workClocksUptoCard : Claim7 := { stood := { row := workClocksUptoRow, standIns := [], harness := (true, "b5315929075185513a43c99e1efd03fd2b7237898fc1d5697669653d5c0aa4e0"), looks := false }, kinds := [], alts := [], laidByText := true, laidKinds := [.data, .data, .data, .data, .pinned], laidTests := true, laidLooks := .later }
def WorkClocksUptoCardSaid : Prop := Claim7.holds Tryz.pinned (.plain (OpenSpec.upto workClocksSpec)) workClocksUptoCard
end Rows
end Go.Proofs.YthehiobacjjakaaGreatDoor

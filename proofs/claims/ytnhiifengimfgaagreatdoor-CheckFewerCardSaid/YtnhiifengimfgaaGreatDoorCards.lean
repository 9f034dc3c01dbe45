/-
  DERIVED. GIVEN WITH THE SEED: THE CARDS: each row of YtnhiifengimfgaaGreatDoorRows.lean that lists a variable, with what it lists TIED to the program's text (the seventh form; the later family's looks); each row that meets fmt, with fmt's text TOLD by the authors' own Lean function (tested against real Go, not proved from fmt's source: count such statements apart). THE CARD IS WHAT COUNTS. Prove the row's statement (the work); the ties are given (YtnhiifengimfgaaGreatDoorTie.lean); close each card by the builder's one call (the guide's Derived/Test/ToyasCard.lean, 'card_holds'). Laid BY PROGRAM, IN A SANDBOX (cutbox-door.mjs). By AI agents, Wed Nov 11 2026. No macro, syntax, notation, axiom, sorry.
-/
import Derived.Test.YtnhiifengimfgaaGreatDoorRows
import GoSem.ClaimSeven
namespace Go.Proofs.YtnhiifengimfgaaGreatDoor
namespace Rows

/-- THE TIED CARD OF 'leveelaw18.CheckRows'. -/
def checkRowsCard : Claim7 := { stood := { row := checkRowsRow, standIns := [], harness := (true, "c7e08ddcc860706956aa8fd8959cd8c7136718588b44e10d1849de4249463643"), looks := true }, kinds := [], alts := [], laidByText := true, laidKinds := [.data, .data, .data, .data, .sentinel, .sentinel, .pinned], laidTests := true, laidLooks := .later }
def CheckRowsCardSaid : Prop := Claim7.holds Tryz.pinned (.plain (OpenSpec.ofChange checkRowsSpec)) checkRowsCard

/-- THE TIED CARD OF 'leveelaw18.CheckFewer'. -/
def checkFewerCard : Claim7 := { stood := { row := checkFewerRow, standIns := [], harness := (true, "c7e08ddcc860706956aa8fd8959cd8c7136718588b44e10d1849de4249463643"), looks := true }, kinds := [], alts := [], laidByText := true, laidKinds := [.data, .data, .data, .data, .sentinel, .sentinel, .pinned], laidTests := true, laidLooks := .later }
def CheckFewerCardSaid : Prop := Claim7.holds Tryz.pinned (.plain (OpenSpec.ofChange checkFewerSpec)) checkFewerCard

/-- THE SECOND FORM's CARD OF 'leveelaw18.CheckRows'. -/
def checkRowsUptoCard : Claim7 := { stood := { row := checkRowsUptoRow, standIns := [], harness := (true, "c7e08ddcc860706956aa8fd8959cd8c7136718588b44e10d1849de4249463643"), looks := true }, kinds := [], alts := [], laidByText := true, laidKinds := [.data, .data, .data, .data, .sentinel, .sentinel, .pinned], laidTests := true, laidLooks := .later }
def CheckRowsUptoCardSaid : Prop := Claim7.holds Tryz.pinned (.plain (OpenSpec.upto checkRowsSpec)) checkRowsUptoCard

/-- THE SECOND FORM's CARD OF 'leveelaw18.CheckFewer'. -/
def checkFewerUptoCard : Claim7 := { stood := { row := checkFewerUptoRow, standIns := [], harness := (true, "c7e08ddcc860706956aa8fd8959cd8c7136718588b44e10d1849de4249463643"), looks := true }, kinds := [], alts := [], laidByText := true, laidKinds := [.data, .data, .data, .data, .sentinel, .sentinel, .pinned], laidTests := true, laidLooks := .later }
def CheckFewerUptoCardSaid : Prop := Claim7.holds Tryz.pinned (.plain (OpenSpec.upto checkFewerSpec)) checkFewerUptoCard
end Rows
end Go.Proofs.YtnhiifengimfgaaGreatDoor

/-
  DERIVED. GIVEN WITH THE SEED: THE CARDS: each row of YtpoffnlnhdbpmaaGreatDoorRows.lean that lists a variable, with what it lists TIED to the program's text (the seventh form; the later family's looks); each row that meets fmt, with fmt's text TOLD by the authors' own Lean function (tested against real Go, not proved from fmt's source: count such statements apart). THE CARD IS WHAT COUNTS. Prove the row's statement (the work); the ties are given (YtpoffnlnhdbpmaaGreatDoorTie.lean); close each card by the builder's one call (the guide's Derived/Test/ToyasCard.lean, 'card_holds'). Laid BY PROGRAM, IN A SANDBOX (cutbox-door.mjs). By AI agents, Wed Nov 11 2026. No macro, syntax, notation, axiom, sorry.
-/
import Derived.Test.YtpoffnlnhdbpmaaGreatDoorRows
import GoSem.ClaimSeven
namespace Go.Proofs.YtpoffnlnhdbpmaaGreatDoor
namespace Rows

/-- THE TIED CARD OF 'leveelaw18.CheckTells'. -/
def checkTellsCard : Claim7 := { stood := { row := checkTellsRow, standIns := [], harness := (true, "95957ad698fa92e4df5222697cb5bf4d3c330c6b7661bffefe7cc27fbf832bac"), looks := true }, kinds := [], alts := [], laidByText := true, laidKinds := [.data, .data, .data, .data, .sentinel, .sentinel, .pinned], laidTests := true, laidLooks := .later }
def CheckTellsCardSaid : Prop := Claim7.holds Tryz.pinned (.plain (OpenSpec.ofChange checkTellsSpec)) checkTellsCard

/-- THE TIED CARD OF 'leveelaw18.CheckOrder'. -/
def checkOrderCard : Claim7 := { stood := { row := checkOrderRow, standIns := [], harness := (true, "95957ad698fa92e4df5222697cb5bf4d3c330c6b7661bffefe7cc27fbf832bac"), looks := true }, kinds := [], alts := [], laidByText := true, laidKinds := [.data, .data, .data, .data, .sentinel, .sentinel, .pinned], laidTests := true, laidLooks := .later }
def CheckOrderCardSaid : Prop := Claim7.holds Tryz.pinned (.plain (OpenSpec.ofChange checkOrderSpec)) checkOrderCard

/-- THE TIED CARD OF 'leveelaw17.ClosureTells'. -/
def closureTellsCard : Claim7 := { stood := { row := closureTellsRow, standIns := [], harness := (true, "95957ad698fa92e4df5222697cb5bf4d3c330c6b7661bffefe7cc27fbf832bac"), looks := true }, kinds := [], alts := [], laidByText := true, laidKinds := [.data, .data, .data, .data, .sentinel, .sentinel, .pinned], laidTests := true, laidLooks := .later }
def ClosureTellsCardSaid : Prop := Claim7.holds Tryz.pinned (.plain (OpenSpec.ofChange closureTellsSpec)) closureTellsCard

/-- THE TIED CARD OF 'leveelaw17.ClosureLeast'. -/
def closureLeastCard : Claim7 := { stood := { row := closureLeastRow, standIns := [], harness := (true, "95957ad698fa92e4df5222697cb5bf4d3c330c6b7661bffefe7cc27fbf832bac"), looks := true }, kinds := [], alts := [], laidByText := true, laidKinds := [.data, .data, .data, .data, .sentinel, .sentinel, .pinned], laidTests := true, laidLooks := .later }
def ClosureLeastCardSaid : Prop := Claim7.holds Tryz.pinned (.plain (OpenSpec.ofChange closureLeastSpec)) closureLeastCard

/-- THE TIED CARD OF 'leveelaw17.ClosureQuiet'. -/
def closureQuietCard : Claim7 := { stood := { row := closureQuietRow, standIns := [], harness := (true, "95957ad698fa92e4df5222697cb5bf4d3c330c6b7661bffefe7cc27fbf832bac"), looks := true }, kinds := [], alts := [], laidByText := true, laidKinds := [.data, .data, .data, .data, .sentinel, .sentinel, .pinned], laidTests := true, laidLooks := .later }
def ClosureQuietCardSaid : Prop := Claim7.holds Tryz.pinned (.plain (OpenSpec.ofChange closureQuietSpec)) closureQuietCard

/-- THE TIED CARD OF 'leveelaw17.ClosureWrites'. -/
def closureWritesCard : Claim7 := { stood := { row := closureWritesRow, standIns := [], harness := (true, "95957ad698fa92e4df5222697cb5bf4d3c330c6b7661bffefe7cc27fbf832bac"), looks := true }, kinds := [], alts := [], laidByText := true, laidKinds := [.data, .data, .data, .data, .sentinel, .sentinel, .pinned], laidTests := true, laidLooks := .later }
def ClosureWritesCardSaid : Prop := Claim7.holds Tryz.pinned (.plain (OpenSpec.ofChange closureWritesSpec)) closureWritesCard

/-- THE TIED CARD OF 'leveelaw17.ClosureChain'. -/
def closureChainCard : Claim7 := { stood := { row := closureChainRow, standIns := [], harness := (true, "95957ad698fa92e4df5222697cb5bf4d3c330c6b7661bffefe7cc27fbf832bac"), looks := true }, kinds := [], alts := [], laidByText := true, laidKinds := [.data, .data, .data, .data, .sentinel, .sentinel, .pinned], laidTests := true, laidLooks := .later }
def ClosureChainCardSaid : Prop := Claim7.holds Tryz.pinned (.plain (OpenSpec.ofChange closureChainSpec)) closureChainCard

/-- THE SECOND FORM's CARD OF 'leveelaw18.CheckTells'. -/
def checkTellsUptoCard : Claim7 := { stood := { row := checkTellsUptoRow, standIns := [], harness := (true, "95957ad698fa92e4df5222697cb5bf4d3c330c6b7661bffefe7cc27fbf832bac"), looks := true }, kinds := [], alts := [], laidByText := true, laidKinds := [.data, .data, .data, .data, .sentinel, .sentinel, .pinned], laidTests := true, laidLooks := .later }
def CheckTellsUptoCardSaid : Prop := Claim7.holds Tryz.pinned (.plain (OpenSpec.upto checkTellsSpec)) checkTellsUptoCard

/-- THE SECOND FORM's CARD OF 'leveelaw18.CheckOrder'. -/
def checkOrderUptoCard : Claim7 := { stood := { row := checkOrderUptoRow, standIns := [], harness := (true, "95957ad698fa92e4df5222697cb5bf4d3c330c6b7661bffefe7cc27fbf832bac"), looks := true }, kinds := [], alts := [], laidByText := true, laidKinds := [.data, .data, .data, .data, .sentinel, .sentinel, .pinned], laidTests := true, laidLooks := .later }
def CheckOrderUptoCardSaid : Prop := Claim7.holds Tryz.pinned (.plain (OpenSpec.upto checkOrderSpec)) checkOrderUptoCard

/-- THE SECOND FORM's CARD OF 'leveelaw17.ClosureTells'. -/
def closureTellsUptoCard : Claim7 := { stood := { row := closureTellsUptoRow, standIns := [], harness := (true, "95957ad698fa92e4df5222697cb5bf4d3c330c6b7661bffefe7cc27fbf832bac"), looks := true }, kinds := [], alts := [], laidByText := true, laidKinds := [.data, .data, .data, .data, .sentinel, .sentinel, .pinned], laidTests := true, laidLooks := .later }
def ClosureTellsUptoCardSaid : Prop := Claim7.holds Tryz.pinned (.plain (OpenSpec.upto closureTellsSpec)) closureTellsUptoCard

/-- THE SECOND FORM's CARD OF 'leveelaw17.ClosureLeast'. -/
def closureLeastUptoCard : Claim7 := { stood := { row := closureLeastUptoRow, standIns := [], harness := (true, "95957ad698fa92e4df5222697cb5bf4d3c330c6b7661bffefe7cc27fbf832bac"), looks := true }, kinds := [], alts := [], laidByText := true, laidKinds := [.data, .data, .data, .data, .sentinel, .sentinel, .pinned], laidTests := true, laidLooks := .later }
def ClosureLeastUptoCardSaid : Prop := Claim7.holds Tryz.pinned (.plain (OpenSpec.upto closureLeastSpec)) closureLeastUptoCard

/-- THE SECOND FORM's CARD OF 'leveelaw17.ClosureQuiet'. -/
def closureQuietUptoCard : Claim7 := { stood := { row := closureQuietUptoRow, standIns := [], harness := (true, "95957ad698fa92e4df5222697cb5bf4d3c330c6b7661bffefe7cc27fbf832bac"), looks := true }, kinds := [], alts := [], laidByText := true, laidKinds := [.data, .data, .data, .data, .sentinel, .sentinel, .pinned], laidTests := true, laidLooks := .later }
def ClosureQuietUptoCardSaid : Prop := Claim7.holds Tryz.pinned (.plain (OpenSpec.upto closureQuietSpec)) closureQuietUptoCard

/-- THE SECOND FORM's CARD OF 'leveelaw17.ClosureWrites'. -/
def closureWritesUptoCard : Claim7 := { stood := { row := closureWritesUptoRow, standIns := [], harness := (true, "95957ad698fa92e4df5222697cb5bf4d3c330c6b7661bffefe7cc27fbf832bac"), looks := true }, kinds := [], alts := [], laidByText := true, laidKinds := [.data, .data, .data, .data, .sentinel, .sentinel, .pinned], laidTests := true, laidLooks := .later }
def ClosureWritesUptoCardSaid : Prop := Claim7.holds Tryz.pinned (.plain (OpenSpec.upto closureWritesSpec)) closureWritesUptoCard

/-- THE SECOND FORM's CARD OF 'leveelaw17.ClosureChain'. -/
def closureChainUptoCard : Claim7 := { stood := { row := closureChainUptoRow, standIns := [], harness := (true, "95957ad698fa92e4df5222697cb5bf4d3c330c6b7661bffefe7cc27fbf832bac"), looks := true }, kinds := [], alts := [], laidByText := true, laidKinds := [.data, .data, .data, .data, .sentinel, .sentinel, .pinned], laidTests := true, laidLooks := .later }
def ClosureChainUptoCardSaid : Prop := Claim7.holds Tryz.pinned (.plain (OpenSpec.upto closureChainSpec)) closureChainUptoCard
end Rows
end Go.Proofs.YtpoffnlnhdbpmaaGreatDoor

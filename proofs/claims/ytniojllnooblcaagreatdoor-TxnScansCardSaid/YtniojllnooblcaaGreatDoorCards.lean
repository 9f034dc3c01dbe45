/-
  DERIVED. GIVEN WITH THE SEED: THE CARDS: each row of YtniojllnooblcaaGreatDoorRows.lean that lists a variable, with what it lists TIED to the program's text (the seventh form; the later family's looks); each row that meets fmt, with fmt's text TOLD by the authors' own Lean function (tested against real Go, not proved from fmt's source: count such statements apart). THE CARD IS WHAT COUNTS. Prove the row's statement (the work); the ties are given (YtniojllnooblcaaGreatDoorTie.lean); close each card by the builder's one call (the guide's Derived/Test/ToyasCard.lean, 'card_holds'). Laid BY PROGRAM, IN A SANDBOX (cutbox-door.mjs). By AI agents, Wed Nov 11 2026. No macro, syntax, notation, axiom, sorry.
-/
import Derived.Test.YtniojllnooblcaaGreatDoorRows
import GoSem.ClaimSeven
namespace Go.Proofs.YtniojllnooblcaaGreatDoor
namespace Rows

/-- THE TIED CARD OF 'leveelaw21.TxnScans'. -/
def txnScansCard : Claim7 := { stood := { row := txnScansRow, standIns := [], harness := (true, "26ba1582cf79eddf88db80ec0fa5f090b84b94bb53d3b6c67310dd8a50aa4608"), looks := false }, kinds := [], alts := [], laidByText := true, laidKinds := [.data, .data, .data, .data, .pinned], laidTests := true, laidLooks := .later }
def TxnScansCardSaid : Prop := Claim7.holds Tryz.pinned (.plain (OpenSpec.ofChange txnScansSpec)) txnScansCard

/-- THE TIED CARD OF 'leveelaw21.TxnFull'. -/
def txnFullCard : Claim7 := { stood := { row := txnFullRow, standIns := [], harness := (true, "26ba1582cf79eddf88db80ec0fa5f090b84b94bb53d3b6c67310dd8a50aa4608"), looks := false }, kinds := [], alts := [], laidByText := true, laidKinds := [.data, .data, .data, .data, .pinned], laidTests := true, laidLooks := .later }
def TxnFullCardSaid : Prop := Claim7.holds Tryz.pinned (.plain (OpenSpec.ofChange txnFullSpec)) txnFullCard

/-- THE SECOND FORM's CARD OF 'leveelaw21.TxnScans'. -/
def txnScansUptoCard : Claim7 := { stood := { row := txnScansUptoRow, standIns := [], harness := (true, "26ba1582cf79eddf88db80ec0fa5f090b84b94bb53d3b6c67310dd8a50aa4608"), looks := false }, kinds := [], alts := [], laidByText := true, laidKinds := [.data, .data, .data, .data, .pinned], laidTests := true, laidLooks := .later }
def TxnScansUptoCardSaid : Prop := Claim7.holds Tryz.pinned (.plain (OpenSpec.upto txnScansSpec)) txnScansUptoCard

/-- THE SECOND FORM's CARD OF 'leveelaw21.TxnFull'. -/
def txnFullUptoCard : Claim7 := { stood := { row := txnFullUptoRow, standIns := [], harness := (true, "26ba1582cf79eddf88db80ec0fa5f090b84b94bb53d3b6c67310dd8a50aa4608"), looks := false }, kinds := [], alts := [], laidByText := true, laidKinds := [.data, .data, .data, .data, .pinned], laidTests := true, laidLooks := .later }
def TxnFullUptoCardSaid : Prop := Claim7.holds Tryz.pinned (.plain (OpenSpec.upto txnFullSpec)) txnFullUptoCard
end Rows
end Go.Proofs.YtniojllnooblcaaGreatDoor

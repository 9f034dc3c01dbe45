/-
  DERIVED. GIVEN WITH THE SEED: THE CARDS: each row of YtnogebfcpicghaaGreatDoorRows.lean that lists a variable, with what it lists TIED to the program's text (the seventh form; the later family's looks); each row that meets fmt, with fmt's text TOLD by the authors' own Lean function (tested against real Go, not proved from fmt's source: count such statements apart). THE CARD IS WHAT COUNTS. Prove the row's statement (the work); the ties are given (YtnogebfcpicghaaGreatDoorTie.lean); close each card by the builder's one call (the guide's Derived/Test/ToyasCard.lean, 'card_holds'). Laid BY PROGRAM, IN A SANDBOX (cutbox-door.mjs). By AI agents, Wed Nov 11 2026. No macro, syntax, notation, axiom, sorry.
-/
import Derived.Test.YtnogebfcpicghaaGreatDoorRows
import GoSem.ClaimSeven
namespace Go.Proofs.YtnogebfcpicghaaGreatDoor
namespace Rows

/-- THE TIED CARD OF 'leveelaw07.DdlPrints'. -/
def ddlPrintsCard : Claim7 := { stood := { row := ddlPrintsRow, standIns := [], harness := (true, "573daee577e1311e2ab2662387a1630d81c6c06ccc69ec537490203d84841d94"), looks := true }, kinds := [], alts := [], laidByText := true, laidKinds := [.data, .data, .data, .data, .sentinel, .sentinel, .pinned], laidTests := true, laidLooks := .later }
def DdlPrintsCardSaid : Prop := Claim7.holds Tryz.pinned (.plain (OpenSpec.ofChange ddlPrintsSpec)) ddlPrintsCard

/-- THE TIED CARD OF 'leveelaw07.DdlBack'. -/
def ddlBackCard : Claim7 := { stood := { row := ddlBackRow, standIns := [], harness := (true, "573daee577e1311e2ab2662387a1630d81c6c06ccc69ec537490203d84841d94"), looks := true }, kinds := [], alts := [], laidByText := true, laidKinds := [.data, .data, .data, .data, .sentinel, .sentinel, .pinned], laidTests := true, laidLooks := .later }
def DdlBackCardSaid : Prop := Claim7.holds Tryz.pinned (.plain (OpenSpec.ofChange ddlBackSpec)) ddlBackCard

/-- THE TIED CARD OF 'leveelaw07.DdlBlanks'. -/
def ddlBlanksCard : Claim7 := { stood := { row := ddlBlanksRow, standIns := [], harness := (true, "573daee577e1311e2ab2662387a1630d81c6c06ccc69ec537490203d84841d94"), looks := true }, kinds := [], alts := [], laidByText := true, laidKinds := [.data, .data, .data, .data, .sentinel, .sentinel, .pinned], laidTests := true, laidLooks := .later }
def DdlBlanksCardSaid : Prop := Claim7.holds Tryz.pinned (.plain (OpenSpec.ofChange ddlBlanksSpec)) ddlBlanksCard

/-- THE TIED CARD OF 'leveelaw07.DdlParts'. -/
def ddlPartsCard : Claim7 := { stood := { row := ddlPartsRow, standIns := [], harness := (true, "573daee577e1311e2ab2662387a1630d81c6c06ccc69ec537490203d84841d94"), looks := true }, kinds := [], alts := [], laidByText := true, laidKinds := [.data, .data, .data, .data, .sentinel, .sentinel, .pinned], laidTests := true, laidLooks := .later }
def DdlPartsCardSaid : Prop := Claim7.holds Tryz.pinned (.plain (OpenSpec.ofChange ddlPartsSpec)) ddlPartsCard

/-- THE TIED CARD OF 'leveelaw07.DdlUnlike'. -/
def ddlUnlikeCard : Claim7 := { stood := { row := ddlUnlikeRow, standIns := [], harness := (true, "573daee577e1311e2ab2662387a1630d81c6c06ccc69ec537490203d84841d94"), looks := true }, kinds := [], alts := [], laidByText := true, laidKinds := [.data, .data, .data, .data, .sentinel, .sentinel, .pinned], laidTests := true, laidLooks := .later }
def DdlUnlikeCardSaid : Prop := Claim7.holds Tryz.pinned (.plain (OpenSpec.ofChange ddlUnlikeSpec)) ddlUnlikeCard

/-- THE SECOND FORM's CARD OF 'leveelaw07.DdlPrints'. -/
def ddlPrintsUptoCard : Claim7 := { stood := { row := ddlPrintsUptoRow, standIns := [], harness := (true, "573daee577e1311e2ab2662387a1630d81c6c06ccc69ec537490203d84841d94"), looks := true }, kinds := [], alts := [], laidByText := true, laidKinds := [.data, .data, .data, .data, .sentinel, .sentinel, .pinned], laidTests := true, laidLooks := .later }
def DdlPrintsUptoCardSaid : Prop := Claim7.holds Tryz.pinned (.plain (OpenSpec.upto ddlPrintsSpec)) ddlPrintsUptoCard

/-- THE SECOND FORM's CARD OF 'leveelaw07.DdlBack'. -/
def ddlBackUptoCard : Claim7 := { stood := { row := ddlBackUptoRow, standIns := [], harness := (true, "573daee577e1311e2ab2662387a1630d81c6c06ccc69ec537490203d84841d94"), looks := true }, kinds := [], alts := [], laidByText := true, laidKinds := [.data, .data, .data, .data, .sentinel, .sentinel, .pinned], laidTests := true, laidLooks := .later }
def DdlBackUptoCardSaid : Prop := Claim7.holds Tryz.pinned (.plain (OpenSpec.upto ddlBackSpec)) ddlBackUptoCard

/-- THE SECOND FORM's CARD OF 'leveelaw07.DdlBlanks'. -/
def ddlBlanksUptoCard : Claim7 := { stood := { row := ddlBlanksUptoRow, standIns := [], harness := (true, "573daee577e1311e2ab2662387a1630d81c6c06ccc69ec537490203d84841d94"), looks := true }, kinds := [], alts := [], laidByText := true, laidKinds := [.data, .data, .data, .data, .sentinel, .sentinel, .pinned], laidTests := true, laidLooks := .later }
def DdlBlanksUptoCardSaid : Prop := Claim7.holds Tryz.pinned (.plain (OpenSpec.upto ddlBlanksSpec)) ddlBlanksUptoCard

/-- THE SECOND FORM's CARD OF 'leveelaw07.DdlParts'. -/
def ddlPartsUptoCard : Claim7 := { stood := { row := ddlPartsUptoRow, standIns := [], harness := (true, "573daee577e1311e2ab2662387a1630d81c6c06ccc69ec537490203d84841d94"), looks := true }, kinds := [], alts := [], laidByText := true, laidKinds := [.data, .data, .data, .data, .sentinel, .sentinel, .pinned], laidTests := true, laidLooks := .later }
def DdlPartsUptoCardSaid : Prop := Claim7.holds Tryz.pinned (.plain (OpenSpec.upto ddlPartsSpec)) ddlPartsUptoCard

/-- THE SECOND FORM's CARD OF 'leveelaw07.DdlUnlike'. -/
def ddlUnlikeUptoCard : Claim7 := { stood := { row := ddlUnlikeUptoRow, standIns := [], harness := (true, "573daee577e1311e2ab2662387a1630d81c6c06ccc69ec537490203d84841d94"), looks := true }, kinds := [], alts := [], laidByText := true, laidKinds := [.data, .data, .data, .data, .sentinel, .sentinel, .pinned], laidTests := true, laidLooks := .later }
def DdlUnlikeUptoCardSaid : Prop := Claim7.holds Tryz.pinned (.plain (OpenSpec.upto ddlUnlikeSpec)) ddlUnlikeUptoCard
end Rows
end Go.Proofs.YtnogebfcpicghaaGreatDoor

import Derived.Test.YtpoffnlnhdbpmaaGreatDoorTG
set_option linter.all false
set_option linter.unusedVariables false
set_option linter.unusedSimpArgs false
set_option linter.unusedSectionVars false
set_option maxRecDepth 100000
namespace Go.Proofs.YtpoffnlnhdbpmaaGreatDoor
open Go Lv Go.Proofs Go.RowKit Go.ChangeShapes Go.WideShapes Go.ChangeAt Go.Proofs.Ytpoffnlnhdbpmaa
theorem pV:false=Rows.checkTellsRow.goesBy Tryz.pinned.checked.prog:=by kernel_rfl
end Go.Proofs.YtpoffnlnhdbpmaaGreatDoor

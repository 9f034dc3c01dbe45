import Derived.Test.YtpoffnlnhdbpmaaGreatDoorTRowA
import Derived.Test.YtpoffnlnhdbpmaaGreatDoorTRowP
set_option linter.all false
set_option linter.unusedVariables false
set_option linter.unusedSimpArgs false
set_option linter.unusedSectionVars false
/-
 For every catalog,sources and name leveelaw18.CheckTells returns true and leaves its arguments as they were:check.First and check.Table find what the reference finds.
 Conditions:none beyond the given row's own (what the listed library variables hold,which the given tie holds against the program's text).
-/
set_option maxRecDepth 100000
namespace Go.Proofs.YtpoffnlnhdbpmaaGreatDoor
open Go Lv Go.Proofs Go.RowKit Go.ChangeShapes Go.WideShapes Go.ChangeAt Go.Proofs.Ytpoffnlnhdbpmaa
theorem checkTells_holds : Rows.CheckTellsCardSaid :=
  Claim7.holds_tied_plain_at .later [] [.data, .data, .data, .data, .sentinel, .sentinel, .pinned] true (true, "95957ad698fa92e4df5222697cb5bf4d3c330c6b7661bffefe7cc27fbf832bac") true
    pH (fun _ h=>by cases h) (by kernel_rfl) (fun _ h=>by cases h) checkTells_row_tie rfl ⟨rfl,rfl⟩ (by kernel_rfl) rfl
    (fun f fn hf hfn=>by
      obtain rfl : f = 3 := Option.some.inj ((show Tryz.prog.funcNamed "levee/leveelaw18.CheckTells" = some 3 by kernel_rfl).symm.trans hf) |>.symm
      obtain rfl:fn=Tryz.f3:=(Option.some.inj (Tryz.func3.symm.trans hfn)).symm
      exact ⟨by kernel_rfl,fun j t ht=>by
        rw [Tryz.params3] at ht
        have hm:t∈ [23,24,9]:=by simpa using Array.mem_of_getElem? ht
        have hall:([23,24,9].all fun u=> !Tryz.prog.wantsStandIn u)=true:=by kernel_rfl
        exact (show Tryz.prog.wantsStandIn t=false by simpa using List.all_eq_true.1 hall t hm)⟩)
    pV
end Go.Proofs.YtpoffnlnhdbpmaaGreatDoor

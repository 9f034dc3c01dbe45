import Derived.Test.YtpoffnlnhdbpmaaGreatDoorRowA
import Derived.Test.YtpoffnlnhdbpmaaGreatDoorRowP
set_option linter.all false
set_option linter.unusedVariables false
set_option linter.unusedSimpArgs false
set_option linter.unusedSectionVars false
/-
 For every catalog and sources leveelaw18.CheckOrder returns true and leaves its arguments as they were:what check.First finds is what check.Table finds of the first table of which it finds something;of tables without rows it finds nothing.
 Conditions:none beyond the given row's own (what the listed library variables hold,which the given tie holds against the program's text).
-/
set_option maxRecDepth 100000
namespace Go.Proofs.YtpoffnlnhdbpmaaGreatDoor
open Go Lv Go.Proofs Go.RowKit Go.ChangeShapes Go.WideShapes Go.ChangeAt Go.Proofs.Ytpoffnlnhdbpmaa
theorem checkOrder_holds : Rows.CheckOrderCardSaid :=
  Claim7.holds_tied_plain_at .later [] [.data, .data, .data, .data, .sentinel, .sentinel, .pinned] true (true, "95957ad698fa92e4df5222697cb5bf4d3c330c6b7661bffefe7cc27fbf832bac") true
    pz (fun _ h=>by cases h) (by kernel_rfl) (fun _ h=>by cases h) checkOrder_row_tie rfl ⟨rfl,rfl⟩ (by kernel_rfl) rfl
    (fun f fn hf hfn=>by
      obtain rfl : f = 4 := Option.some.inj ((show Tryz.prog.funcNamed "levee/leveelaw18.CheckOrder" = some 4 by kernel_rfl).symm.trans hf) |>.symm
      obtain rfl:fn=Tryz.f4:=(Option.some.inj (Tryz.func4.symm.trans hfn)).symm
      exact ⟨by kernel_rfl,fun j t ht=>by
        rw [Tryz.params4] at ht
        have hm:t∈ [23,24]:=by simpa using Array.mem_of_getElem? ht
        have hall:([23,24].all fun u=> !Tryz.prog.wantsStandIn u)=true:=by kernel_rfl
        exact (show Tryz.prog.wantsStandIn t=false by simpa using List.all_eq_true.1 hall t hm)⟩)
    pO
end Go.Proofs.YtpoffnlnhdbpmaaGreatDoor

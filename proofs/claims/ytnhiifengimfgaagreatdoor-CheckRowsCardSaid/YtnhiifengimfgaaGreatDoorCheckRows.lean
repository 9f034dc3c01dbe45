import Derived.Test.YtnhiifengimfgaaGreatDoorM8
import Derived.Test.YtnhiifengimfgaaGreatDoorM7
set_option linter.all false
set_option linter.unusedVariables false
set_option linter.unusedSimpArgs false
set_option linter.unusedSectionVars false
/-
  For every catalog and sources leveelaw18.CheckRows returns true and leaves its arguments as they were:where check.First finds nothing,each row is of its columns' kinds,no value of a unique column stands twice,and each reference leads to just one row.
  Conditions:none beyond the given row's own (what the listed library variables hold,which the given tie holds against the program's text).
-/
set_option maxRecDepth 100000
namespace Go.Proofs.YtnhiifengimfgaaGreatDoor
open Go Lv Go.Proofs Go.RowKit Go.ChangeShapes Go.WideShapes Go.ChangeAt Go.Proofs.Ytnhiifengimfgaa
theorem checkRows_own:ownKnob Tryz.prog.godebug=none:=by kernel_rfl
theorem checkRows_laidOut:laidOutB Tryz.prog=true:=by kernel_rfl
theorem checkRows_lifted (os:Os) (started:os.Started) (H:Type) (enc:TypeId×Value→H):
    ReturnsInHanded {} Tryz.checked os 3 .any (fun w args=>(Rows.checkRowsSpec.pre enc Tryz.prog Tryz.f3 [] false w args∧laidMetH Tryz.prog laid7 w)∧sizedMet enc Tryz.prog Tryz.f3 (OpenSpec.ofChange Rows.checkRowsSpec) false w args)
      (Rows.checkRowsSpec.post enc Tryz.prog Tryz.f3 false true false false):=
  law_card (C:=Tryz.checked) (l:=[(.sl 69 tDef,false),(.sl 72 tSource,false)]) (rt:=4) (laid:=laid7) checkRows_own started (by kernel_rfl) Tryz.func3 checkRows_laidOut
    (ChangeSpec.witness_shaped (enc:=enc) (C:=Tryz.checked) (os:=os) (X:=fun w _=>laidMetH Tryz.prog laid7 w) false (World.laidAll Tryz.prog os laid7) #[.slice none 0 0,.slice none 0 0] 8 (World.laidAll_os _ _ _)
      (World.shaped_of_ZipB (by kernel_rfl) (by kernel_rfl)) (by kernel_rfl) (by kernel_rfl) (by kernel_rfl)
      (by rw [MakeChecks.laidMetH_plain _ _ _ (by kernel_rfl)];exact laidMet_laidAll _ (by kernel_rfl) (by kernel_rfl)))
    rfl (fun ds h=>by match ds,h with| [x0,x1],_=>rfl) (by kernel_rfl) Tryz.underlying4 (by kernel_rfl) rows_ok pure3 fun W h1 h2=>glb_of h1 h2
theorem checkRows_f0:(Rows.checkRowsRow.inPlace==Tryz.pinned.checked.prog.inPlace 3)=true:=by kernel_rfl
theorem checkRows_f1:(Rows.checkRowsRow.unfollowed==Tryz.pinned.checked.prog.unfollowed 3)=true:=by kernel_rfl
theorem checkRows_f2:(Rows.checkRowsRow.recurses==Tryz.pinned.checked.prog.recurses 3)=true:=by kernel_rfl
theorem checkRows_f3:(Rows.checkRowsRow.named==Tryz.pinned.checked.prog.varsNamed 3)=true:=by kernel_rfl
theorem checkRows_f4:laidOutB Tryz.pinned.checked.prog=true:=by kernel_rfl
theorem checkRows_f5:mapsRowed Tryz.pinned.checked.prog=true:=by kernel_rfl
theorem checkRows_f6:Tryz.pinned.checked.prog.mayEnter=true:=by kernel_rfl
theorem checkRows_f7:Tryz.pinned.checked.prog.stopsHeard=true:=by kernel_rfl
theorem checkRows_closed:joinedFacts Tryz.pinned.checked.prog 3 Tryz.f3 Rows.checkRowsSpec Rows.checkRowsRow=true:=by
  unfold joinedFacts
  rw [checkRows_f0,checkRows_f1,checkRows_f2,checkRows_f3,checkRows_f4,checkRows_f5,checkRows_f6,checkRows_f7]
  kernel_rfl
theorem checkRows_row:Rows.CheckRowsSaid:=
  OpenClaim.holds_of_wide 3 Tryz.f3 rfl rfl rfl rfl rfl rfl rfl ⟨rfl,rfl,rfl,rfl,rfl⟩ rfl rfl rfl rfl rfl (by kernel_rfl) Tryz.func3 checkRows_closed
    (of_decide_eq_true (by kernel_rfl)) (by unfold Func.isWrapper;first|(rw [if_pos (by decide+kernel)];kernel_rfl)|(rw [if_neg (by decide+kernel)];exact ⟨rfl,rfl⟩))
    (fun os started H enc _=>checkRows_lifted os started H enc)
theorem checkRows_holds : Rows.CheckRowsCardSaid :=
  Claim7.holds_tied_plain_at .later [] [.data, .data, .data, .data, .sentinel, .sentinel, .pinned] true (true, "c7e08ddcc860706956aa8fd8959cd8c7136718588b44e10d1849de4249463643") true
    checkRows_row (fun _ h=>by cases h) (by kernel_rfl) (fun _ h=>by cases h) checkRows_row_tie rfl ⟨rfl,rfl⟩ (by kernel_rfl) rfl
    (fun f fn hf hfn=>by
      obtain rfl : f = 3 := Option.some.inj ((show Tryz.prog.funcNamed "levee/leveelaw18.CheckRows" = some 3 by kernel_rfl).symm.trans hf) |>.symm
      obtain rfl:fn=Tryz.f3:=(Option.some.inj (Tryz.func3.symm.trans hfn)).symm
      exact ⟨by kernel_rfl,fun j t ht=>by
        rw [Tryz.params3] at ht
        have hm:t∈ [23,24]:=by simpa using Array.mem_of_getElem? ht
        have hall:([23,24].all fun u=> !Tryz.prog.wantsStandIn u)=true:=by kernel_rfl
        exact (show Tryz.prog.wantsStandIn t=false by simpa using List.all_eq_true.1 hall t hm)⟩)
    (by kernel_rfl)
end Go.Proofs.YtnhiifengimfgaaGreatDoor

import Derived.Test.YtnhiifengimfgaaGreatDoorM8
import Derived.Test.YtnhiifengimfgaaGreatDoorM7
set_option linter.all false
set_option linter.unusedVariables false
set_option linter.unusedSimpArgs false
set_option linter.unusedSectionVars false
/-
  For every catalog,sources,name and place leveelaw18.CheckFewer returns true and leaves its arguments as they were:where check.First finds nothing,it finds nothing when a row is dropped to which no column refers.
  Conditions:none beyond the given row's own (what the listed library variables hold,which the given tie holds against the program's text).
-/
set_option maxRecDepth 100000
namespace Go.Proofs.YtnhiifengimfgaaGreatDoor
open Go Lv Go.Proofs Go.RowKit Go.ChangeShapes Go.WideShapes Go.ChangeAt Go.Proofs.Ytnhiifengimfgaa
theorem checkFewer_own:ownKnob Tryz.prog.godebug=none:=by kernel_rfl
theorem checkFewer_laidOut:laidOutB Tryz.prog=true:=by kernel_rfl
theorem checkFewer_lifted (os:Os) (started:os.Started) (H:Type) (enc:TypeId×Value→H):
    ReturnsInHanded {} Tryz.checked os 4 .any (fun w args=>(Rows.checkFewerSpec.pre enc Tryz.prog Tryz.f4 [] false w args∧laidMetH Tryz.prog laid7 w)∧sizedMet enc Tryz.prog Tryz.f4 (OpenSpec.ofChange Rows.checkFewerSpec) false w args)
      (Rows.checkFewerSpec.post enc Tryz.prog Tryz.f4 false true false false):=
  law_card (C:=Tryz.checked) (l:=[(.sl 69 tDef,false),(.sl 72 tSource,false),(.pair .str (.int .i64),true)]) (rt:=4) (laid:=laid7) checkFewer_own started (by kernel_rfl) Tryz.func4 checkFewer_laidOut
    (ChangeSpec.witness_shaped (enc:=enc) (C:=Tryz.checked) (os:=os) (X:=fun w _=>laidMetH Tryz.prog laid7 w) false (World.laidAll Tryz.prog os laid7) #[.slice none 0 0,.slice none 0 0,.agg #[.string ⟨#[]⟩,.int .i64 0]] 8 (World.laidAll_os _ _ _)
      (World.shaped_of_ZipB (by kernel_rfl) (by kernel_rfl)) (by kernel_rfl) (by kernel_rfl) (by kernel_rfl)
      (by rw [MakeChecks.laidMetH_plain _ _ _ (by kernel_rfl)];exact laidMet_laidAll _ (by kernel_rfl) (by kernel_rfl)))
    rfl (fun ds h=>by match ds,h with| [x0,x1,x2],_=>rfl) (by kernel_rfl) Tryz.underlying4 (by kernel_rfl) fewer_ok pure4 fun W h1 h2=>glb_of h1 h2
theorem checkFewer_f0:(Rows.checkFewerRow.inPlace==Tryz.pinned.checked.prog.inPlace 4)=true:=by kernel_rfl
theorem checkFewer_f1:(Rows.checkFewerRow.unfollowed==Tryz.pinned.checked.prog.unfollowed 4)=true:=by kernel_rfl
theorem checkFewer_f2:(Rows.checkFewerRow.recurses==Tryz.pinned.checked.prog.recurses 4)=true:=by kernel_rfl
theorem checkFewer_f3:(Rows.checkFewerRow.named==Tryz.pinned.checked.prog.varsNamed 4)=true:=by kernel_rfl
theorem checkFewer_f4:laidOutB Tryz.pinned.checked.prog=true:=by kernel_rfl
theorem checkFewer_f5:mapsRowed Tryz.pinned.checked.prog=true:=by kernel_rfl
theorem checkFewer_f6:Tryz.pinned.checked.prog.mayEnter=true:=by kernel_rfl
theorem checkFewer_f7:Tryz.pinned.checked.prog.stopsHeard=true:=by kernel_rfl
theorem checkFewer_closed:joinedFacts Tryz.pinned.checked.prog 4 Tryz.f4 Rows.checkFewerSpec Rows.checkFewerRow=true:=by
  unfold joinedFacts
  rw [checkFewer_f0,checkFewer_f1,checkFewer_f2,checkFewer_f3,checkFewer_f4,checkFewer_f5,checkFewer_f6,checkFewer_f7]
  kernel_rfl
theorem checkFewer_row:Rows.CheckFewerSaid:=
  OpenClaim.holds_of_wide 4 Tryz.f4 rfl rfl rfl rfl rfl rfl rfl ⟨rfl,rfl,rfl,rfl,rfl⟩ rfl rfl rfl rfl rfl (by kernel_rfl) Tryz.func4 checkFewer_closed
    (of_decide_eq_true (by kernel_rfl)) (by unfold Func.isWrapper;first|(rw [if_pos (by decide+kernel)];kernel_rfl)|(rw [if_neg (by decide+kernel)];exact ⟨rfl,rfl⟩))
    (fun os started H enc _=>checkFewer_lifted os started H enc)
theorem checkFewer_holds : Rows.CheckFewerCardSaid :=
  Claim7.holds_tied_plain_at .later [] [.data, .data, .data, .data, .sentinel, .sentinel, .pinned] true (true, "c7e08ddcc860706956aa8fd8959cd8c7136718588b44e10d1849de4249463643") true
    checkFewer_row (fun _ h=>by cases h) (by kernel_rfl) (fun _ h=>by cases h) checkFewer_row_tie rfl ⟨rfl,rfl⟩ (by kernel_rfl) rfl
    (fun f fn hf hfn=>by
      obtain rfl : f = 4 := Option.some.inj ((show Tryz.prog.funcNamed "levee/leveelaw18.CheckFewer" = some 4 by kernel_rfl).symm.trans hf) |>.symm
      obtain rfl:fn=Tryz.f4:=(Option.some.inj (Tryz.func4.symm.trans hfn)).symm
      exact ⟨by kernel_rfl,fun j t ht=>by
        rw [Tryz.params4] at ht
        have hm:t∈ [23,24,52]:=by simpa using Array.mem_of_getElem? ht
        have hall:([23,24,52].all fun u=> !Tryz.prog.wantsStandIn u)=true:=by kernel_rfl
        exact (show Tryz.prog.wantsStandIn t=false by simpa using List.all_eq_true.1 hall t hm)⟩)
    (by kernel_rfl)
end Go.Proofs.YtnhiifengimfgaaGreatDoor

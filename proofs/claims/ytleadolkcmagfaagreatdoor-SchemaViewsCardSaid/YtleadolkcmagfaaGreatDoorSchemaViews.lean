import Derived.Test.YtleadolkcmagfaaGreatDoorM6
set_option linter.all false
set_option linter.unusedVariables false
set_option linter.unusedSimpArgs false
set_option linter.unusedSectionVars false
/-
 For every catalog and place leveelaw09.SchemaViews returns true and leaves its arguments as they were:a view has as many kinds as picks and aggregates,a table as many as columns.
 Conditions:none beyond the given row's own (what the listed library variables hold,which the given tie holds against the program's text).
-/
set_option maxRecDepth 100000
namespace Go.Proofs.YtleadolkcmagfaaGreatDoor
open Go Lv Go.Proofs Go.RowKit Go.ChangeShapes Go.WideShapes Go.ChangeAt Go.Proofs.Ytleadolkcmagfaa
theorem uZ:ownKnob Tryz.prog.godebug=none:=by kernel_rfl
theorem qD:laidOutB Tryz.prog=true:=by kernel_rfl
theorem rT (os:Os) (started:os.Started) (H:Type) (enc:TypeId×Value→H):
    ReturnsInHanded {} Tryz.checked os 6 .any (fun w args=>(Rows.schemaViewsSpec.pre enc Tryz.prog Tryz.f6 [] false w args∧laidMetH Tryz.prog Ag w)∧sizedMet enc Tryz.prog Tryz.f6 (OpenSpec.ofChange Rows.schemaViewsSpec) false w args)
      (Rows.schemaViewsSpec.post enc Tryz.prog Tryz.f6 false true false false):=
  Hr (C:=Tryz.checked) (l:=[(.sl 38 fB,false),(.int .i64,false)]) (rt:=4) (laid:=Ag) uZ started (by kernel_rfl) Tryz.func6 qD
    (ChangeSpec.witness_shaped (enc:=enc) (C:=Tryz.checked) (os:=os) (X:=fun w _=>laidMetH Tryz.prog Ag w) false (World.laidAll Tryz.prog os Ag) #[.slice none 0 0,.int .i64 0] 8 (World.laidAll_os _ _ _)
      (World.shaped_of_ZipB (by kernel_rfl) (by kernel_rfl)) (by kernel_rfl) (by kernel_rfl) (by kernel_rfl)
      (by rw [MakeChecks.laidMetH_plain _ _ _ (by kernel_rfl)];exact laidMet_laidAll _ (by kernel_rfl) (by kernel_rfl)))
    rfl (fun ds h=>by match ds,h with| [x0,x1],_=>rfl) (by kernel_rfl) Tryz.underlying4 (by kernel_rfl) bI.ok pure6 fun W h1 h2=>La h1 h2
theorem u0:Rows.SchemaViewsSaid:=
 OpenClaim.holds_of_wide 6 Tryz.f6 rfl rfl rfl rfl rfl rfl rfl ⟨rfl,rfl,rfl,rfl,rfl⟩ rfl rfl rfl rfl rfl (by kernel_rfl) Tryz.func6 (by kernel_rfl)
  (of_decide_eq_true (by kernel_rfl)) (by unfold Func.isWrapper;first|(rw [if_pos (by decide+kernel)];kernel_rfl)|(rw [if_neg (by decide+kernel)];exact ⟨rfl,rfl⟩))
  (fun os started H enc _=>rT os started H enc)
theorem schemaViews_holds : Rows.SchemaViewsCardSaid :=
  Claim7.holds_tied_plain_at .later [] [.data, .data, .data, .data, .sentinel, .sentinel, .pinned] true (true, "f08c965926940067fc270ae14e0093dd148e3f019cecc3380fbdc90452773b37") true
    u0 (fun _ h=>by cases h) (by kernel_rfl) (fun _ h=>by cases h) schemaViews_row_tie rfl ⟨rfl,rfl⟩ (by kernel_rfl) rfl
    (fun f fn hf hfn=>by
      obtain rfl : f = 6 := Option.some.inj ((show Tryz.prog.funcNamed "levee/leveelaw09.SchemaViews" = some 6 by kernel_rfl).symm.trans hf) |>.symm
      obtain rfl:fn=Tryz.f6:=(Option.some.inj (Tryz.func6.symm.trans hfn)).symm
      exact ⟨by kernel_rfl,fun j t ht=>by
        rw [Tryz.params6] at ht
        have hm:t∈ [23,3]:=by simpa using Array.mem_of_getElem? ht
        have hall:([23,3].all fun u=> !Tryz.prog.wantsStandIn u)=true:=by kernel_rfl
        exact (show Tryz.prog.wantsStandIn t=false by simpa using List.all_eq_true.1 hall t hm)⟩)
    (by kernel_rfl)
end Go.Proofs.YtleadolkcmagfaaGreatDoor

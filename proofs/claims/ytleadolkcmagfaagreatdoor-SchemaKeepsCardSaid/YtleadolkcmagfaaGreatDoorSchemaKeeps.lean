import Derived.Test.YtleadolkcmagfaaGreatDoorM6
set_option linter.all false
set_option linter.unusedVariables false
set_option linter.unusedSimpArgs false
set_option linter.unusedSectionVars false
/-
 For every catalog,definition and name leveelaw09.SchemaKeeps returns true and leaves its arguments as they were:a definition more changes nothing of those that there are:neither their places,nor their kinds.
 Conditions:none beyond the given row's own (what the listed library variables hold,which the given tie holds against the program's text).
-/
set_option maxRecDepth 100000
namespace Go.Proofs.YtleadolkcmagfaaGreatDoor
open Go Lv Go.Proofs Go.RowKit Go.ChangeShapes Go.WideShapes Go.ChangeAt Go.Proofs.Ytleadolkcmagfaa
theorem u4:ownKnob Tryz.prog.godebug=none:=by kernel_rfl
theorem qB:laidOutB Tryz.prog=true:=by kernel_rfl
theorem rT (os:Os) (started:os.Started) (H:Type) (enc:TypeId×Value→H):
    ReturnsInHanded {} Tryz.checked os 4 .any (fun w args=>(Rows.schemaKeepsSpec.pre enc Tryz.prog Tryz.f4 [] false w args∧laidMetH Tryz.prog Ah w)∧sizedMet enc Tryz.prog Tryz.f4 (OpenSpec.ofChange Rows.schemaKeepsSpec) false w args)
      (Rows.schemaKeepsSpec.post enc Tryz.prog Tryz.f4 false true false false):=
  Hs (C:=Tryz.checked) (l:=[(.sl 38 fp,false),(fp,true),(.str,false)]) (rt:=4) (laid:=Ah) u4 started (by kernel_rfl) Tryz.func4 qB
    (ChangeSpec.witness_shaped (enc:=enc) (C:=Tryz.checked) (os:=os) (X:=fun w _=>laidMetH Tryz.prog Ah w) false (World.laidAll Tryz.prog os Ah) #[.slice none 0 0,.agg #[.int .i64 0,.string ⟨#[]⟩,.slice none 0 0,.slice none 0 0,.string ⟨#[]⟩,.string ⟨#[]⟩,.string ⟨#[]⟩,.int .i64 0,.int .i64 0,.slice none 0 0,.slice none 0 0,.bool false,.slice none 0 0],.string ⟨#[]⟩] 8 (World.laidAll_os _ _ _)
      (World.shaped_of_ZipB (by kernel_rfl) (by kernel_rfl)) (by kernel_rfl) (by kernel_rfl) (by kernel_rfl)
      (by rw [MakeChecks.laidMetH_plain _ _ _ (by kernel_rfl)];exact laidMet_laidAll _ (by kernel_rfl) (by kernel_rfl)))
    rfl (fun ds h=>by match ds,h with| [x0,x1,x2],_=>rfl) (by kernel_rfl) Tryz.underlying4 (by kernel_rfl) bI.ok pure4 fun W h1 h2=>K9 h1 h2
theorem u6:Rows.SchemaKeepsSaid:=
 OpenClaim.holds_of_wide 4 Tryz.f4 rfl rfl rfl rfl rfl rfl rfl ⟨rfl,rfl,rfl,rfl,rfl⟩ rfl rfl rfl rfl rfl (by kernel_rfl) Tryz.func4 (by kernel_rfl)
  (of_decide_eq_true (by kernel_rfl)) (by unfold Func.isWrapper;first|(rw [if_pos (by decide+kernel)];kernel_rfl)|(rw [if_neg (by decide+kernel)];exact ⟨rfl,rfl⟩))
  (fun os started H enc _=>rT os started H enc)
theorem schemaKeeps_holds : Rows.SchemaKeepsCardSaid :=
  Claim7.holds_tied_plain_at .later [] [.data, .data, .data, .data, .sentinel, .sentinel, .pinned] true (true, "f08c965926940067fc270ae14e0093dd148e3f019cecc3380fbdc90452773b37") true
    u6 (fun _ h=>by cases h) (by kernel_rfl) (fun _ h=>by cases h) schemaKeeps_row_tie rfl ⟨rfl,rfl⟩ (by kernel_rfl) rfl
    (fun f fn hf hfn=>by
      obtain rfl : f = 4 := Option.some.inj ((show Tryz.prog.funcNamed "levee/leveelaw09.SchemaKeeps" = some 4 by kernel_rfl).symm.trans hf) |>.symm
      obtain rfl:fn=Tryz.f4:=(Option.some.inj (Tryz.func4.symm.trans hfn)).symm
      exact ⟨by kernel_rfl,fun j t ht=>by
        rw [Tryz.params4] at ht
        have hm:t∈ [23,38,9]:=by simpa using Array.mem_of_getElem? ht
        have hall:([23,38,9].all fun u=> !Tryz.prog.wantsStandIn u)=true:=by kernel_rfl
        exact (show Tryz.prog.wantsStandIn t=false by simpa using List.all_eq_true.1 hall t hm)⟩)
    (by kernel_rfl)
end Go.Proofs.YtleadolkcmagfaaGreatDoor

import Derived.Test.YtleadolkcmagfaaGreatDoorM6
set_option linter.all false
set_option linter.unusedVariables false
set_option linter.unusedSimpArgs false
set_option linter.unusedSectionVars false
/-
 For every catalog,place and name leveelaw09.SchemaTwice returns true and leaves its arguments as they were:what was defined cannot be defined again,nor anything of its name;a name that is none has no kinds.
 Conditions:none beyond the given row's own (what the listed library variables hold,which the given tie holds against the program's text).
-/
set_option maxRecDepth 100000
namespace Go.Proofs.YtleadolkcmagfaaGreatDoor
open Go Lv Go.Proofs Go.RowKit Go.ChangeShapes Go.WideShapes Go.ChangeAt Go.Proofs.Ytleadolkcmagfaa
theorem u6:ownKnob Tryz.prog.godebug=none:=by kernel_rfl
theorem qC:laidOutB Tryz.prog=true:=by kernel_rfl
theorem rV (os:Os) (started:os.Started) (H:Type) (enc:TypeId×Value→H):
    ReturnsInHanded {} Tryz.checked os 5 .any (fun w args=>(Rows.schemaTwiceSpec.pre enc Tryz.prog Tryz.f5 [] false w args∧laidMetH Tryz.prog Ao w)∧sizedMet enc Tryz.prog Tryz.f5 (OpenSpec.ofChange Rows.schemaTwiceSpec) false w args)
      (Rows.schemaTwiceSpec.post enc Tryz.prog Tryz.f5 false true false false):=
  Hv (C:=Tryz.checked) (l:=[(.sl 38 fq,false),(.int .i64,false),(.str,false)]) (rt:=4) (laid:=Ao) u6 started (by kernel_rfl) Tryz.func5 qC
    (ChangeSpec.witness_shaped (enc:=enc) (C:=Tryz.checked) (os:=os) (X:=fun w _=>laidMetH Tryz.prog Ao w) false (World.laidAll Tryz.prog os Ao) #[.slice none 0 0,.int .i64 0,.string ⟨#[]⟩] 8 (World.laidAll_os _ _ _)
      (World.shaped_of_ZipB (by kernel_rfl) (by kernel_rfl)) (by kernel_rfl) (by kernel_rfl) (by kernel_rfl)
      (by rw [MakeChecks.laidMetH_plain _ _ _ (by kernel_rfl)];exact laidMet_laidAll _ (by kernel_rfl) (by kernel_rfl)))
    rfl (fun ds h=>by match ds,h with| [x0,x1,x2],_=>rfl) (by kernel_rfl) Tryz.underlying4 (by kernel_rfl) bJ.ok pure5 fun W h1 h2=>Lb h1 h2
theorem u7:Rows.SchemaTwiceSaid:=
 OpenClaim.holds_of_wide 5 Tryz.f5 rfl rfl rfl rfl rfl rfl rfl ⟨rfl,rfl,rfl,rfl,rfl⟩ rfl rfl rfl rfl rfl (by kernel_rfl) Tryz.func5 (by kernel_rfl)
  (of_decide_eq_true (by kernel_rfl)) (by unfold Func.isWrapper;first|(rw [if_pos (by decide+kernel)];kernel_rfl)|(rw [if_neg (by decide+kernel)];exact ⟨rfl,rfl⟩))
  (fun os started H enc _=>rV os started H enc)
theorem schemaTwice_holds : Rows.SchemaTwiceCardSaid :=
  Claim7.holds_tied_plain_at .later [] [.data, .data, .data, .data, .sentinel, .sentinel, .pinned] true (true, "f08c965926940067fc270ae14e0093dd148e3f019cecc3380fbdc90452773b37") true
    u7 (fun _ h=>by cases h) (by kernel_rfl) (fun _ h=>by cases h) schemaTwice_row_tie rfl ⟨rfl,rfl⟩ (by kernel_rfl) rfl
    (fun f fn hf hfn=>by
      obtain rfl : f = 5 := Option.some.inj ((show Tryz.prog.funcNamed "levee/leveelaw09.SchemaTwice" = some 5 by kernel_rfl).symm.trans hf) |>.symm
      obtain rfl:fn=Tryz.f5:=(Option.some.inj (Tryz.func5.symm.trans hfn)).symm
      exact ⟨by kernel_rfl,fun j t ht=>by
        rw [Tryz.params5] at ht
        have hm:t∈ [23,3,9]:=by simpa using Array.mem_of_getElem? ht
        have hall:([23,3,9].all fun u=> !Tryz.prog.wantsStandIn u)=true:=by kernel_rfl
        exact (show Tryz.prog.wantsStandIn t=false by simpa using List.all_eq_true.1 hall t hm)⟩)
    (by kernel_rfl)
end Go.Proofs.YtleadolkcmagfaaGreatDoor

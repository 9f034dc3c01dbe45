import Derived.Test.YtleadolkcmagfaaGreatDoorM6
set_option linter.all false
set_option linter.unusedVariables false
set_option linter.unusedSimpArgs false
set_option linter.unusedSectionVars false
/-
 For every catalog and number leveelaw09.SchemaAhead returns true and leaves its arguments as they were:what a definition refers to stands ahead of it,or is itself,if it is a table;the first so many definitions of a catalog that may be may be;each has kinds of 1 to 3,at most 40 and at least one.
 Conditions:none beyond the given row's own (what the listed library variables hold,which the given tie holds against the program's text).
-/
set_option maxRecDepth 100000
namespace Go.Proofs.YtleadolkcmagfaaGreatDoor
open Go Lv Go.Proofs Go.RowKit Go.ChangeShapes Go.WideShapes Go.ChangeAt Go.Proofs.Ytleadolkcmagfaa
theorem va:ownKnob Tryz.prog.godebug=none:=by kernel_rfl
theorem qE:laidOutB Tryz.prog=true:=by kernel_rfl
theorem rY (os:Os) (started:os.Started) (H:Type) (enc:TypeId×Value→H):
    ReturnsInHanded {} Tryz.checked os 3 .any (fun w args=>(Rows.schemaAheadSpec.pre enc Tryz.prog Tryz.f3 [] false w args∧laidMetH Tryz.prog Am w)∧sizedMet enc Tryz.prog Tryz.f3 (OpenSpec.ofChange Rows.schemaAheadSpec) false w args)
      (Rows.schemaAheadSpec.post enc Tryz.prog Tryz.f3 false true false false):=
  Hw (C:=Tryz.checked) (l:=[(.sl 38 eU,false),(.int .i64,false)]) (rt:=4) (laid:=Am) va started (by kernel_rfl) Tryz.func3 qE
    (ChangeSpec.witness_shaped (enc:=enc) (C:=Tryz.checked) (os:=os) (X:=fun w _=>laidMetH Tryz.prog Am w) false (World.laidAll Tryz.prog os Am) #[.slice none 0 0,.int .i64 0] 8 (World.laidAll_os _ _ _)
      (World.shaped_of_ZipB (by kernel_rfl) (by kernel_rfl)) (by kernel_rfl) (by kernel_rfl) (by kernel_rfl)
      (by rw [MakeChecks.laidMetH_plain _ _ _ (by kernel_rfl)];exact laidMet_laidAll _ (by kernel_rfl) (by kernel_rfl)))
    rfl (fun ds h=>by match ds,h with| [x0,x1],_=>rfl) (by kernel_rfl) Tryz.underlying4 (by kernel_rfl) bJ.ok pure3 fun W h1 h2=>Lg h1 h2
theorem vb:Rows.SchemaAheadSaid:=
 OpenClaim.holds_of_wide 3 Tryz.f3 rfl rfl rfl rfl rfl rfl rfl ⟨rfl,rfl,rfl,rfl,rfl⟩ rfl rfl rfl rfl rfl (by kernel_rfl) Tryz.func3 (by kernel_rfl)
  (of_decide_eq_true (by kernel_rfl)) (by unfold Func.isWrapper;first|(rw [if_pos (by decide+kernel)];kernel_rfl)|(rw [if_neg (by decide+kernel)];exact ⟨rfl,rfl⟩))
  (fun os started H enc _=>rY os started H enc)
theorem schemaAhead_holds : Rows.SchemaAheadCardSaid :=
  Claim7.holds_tied_plain_at .later [] [.data, .data, .data, .data, .sentinel, .sentinel, .pinned] true (true, "f08c965926940067fc270ae14e0093dd148e3f019cecc3380fbdc90452773b37") true
    vb (fun _ h=>by cases h) (by kernel_rfl) (fun _ h=>by cases h) schemaAhead_row_tie rfl ⟨rfl,rfl⟩ (by kernel_rfl) rfl
    (fun f fn hf hfn=>by
      obtain rfl : f = 3 := Option.some.inj ((show Tryz.prog.funcNamed "levee/leveelaw09.SchemaAhead" = some 3 by kernel_rfl).symm.trans hf) |>.symm
      obtain rfl:fn=Tryz.f3:=(Option.some.inj (Tryz.func3.symm.trans hfn)).symm
      exact ⟨by kernel_rfl,fun j t ht=>by
        rw [Tryz.params3] at ht
        have hm:t∈ [23,3]:=by simpa using Array.mem_of_getElem? ht
        have hall:([23,3].all fun u=> !Tryz.prog.wantsStandIn u)=true:=by kernel_rfl
        exact (show Tryz.prog.wantsStandIn t=false by simpa using List.all_eq_true.1 hall t hm)⟩)
    (by kernel_rfl)
end Go.Proofs.YtleadolkcmagfaaGreatDoor

import Derived.Test.YtleadolkcmagfaaGreatDoorM5
set_option linter.all false
set_option linter.unusedVariables false
set_option linter.unusedSimpArgs false
set_option linter.unusedSectionVars false
set_option maxRecDepth 100000
namespace Go.Proofs.YtleadolkcmagfaaGreatDoor
open Go Lv Go.Proofs Go.RowKit Go.ChangeShapes Go.WideShapes Go.ChangeAt Go.Proofs.Ytleadolkcmagfaa
theorem schemaMany_own:ownKnob Tryz.prog.godebug=none:=by kernel_rfl
theorem schemaMany_laidOut:laidOutB Tryz.prog=true:=by kernel_rfl
theorem schemaMany_lifted (os:Os) (started:os.Started) (H:Type) (enc:TypeId×Value→H):
    ReturnsInHanded {} Tryz.checked os 7 .any (fun w args=>(Rows.schemaManySpec.pre enc Tryz.prog Tryz.f7 [] false w args∧laidMetH Tryz.prog laid7 w)∧sizedMet enc Tryz.prog Tryz.f7 (OpenSpec.ofChange Rows.schemaManySpec) false w args)
      (Rows.schemaManySpec.post enc Tryz.prog Tryz.f7 false true false false):=
  law_card (C:=Tryz.checked) (l:=[(.int .i64,false)]) (rt:=4) (laid:=laid7) schemaMany_own started (by kernel_rfl) Tryz.func7 schemaMany_laidOut
    (ChangeSpec.witness_shaped (enc:=enc) (C:=Tryz.checked) (os:=os) (X:=fun w _=>laidMetH Tryz.prog laid7 w) false (World.laidAll Tryz.prog os laid7) #[.int .i64 0] 8 (World.laidAll_os _ _ _)
      (World.shaped_of_ZipB (by kernel_rfl) (by kernel_rfl)) (by kernel_rfl) (by kernel_rfl) (by kernel_rfl)
      (by rw [MakeChecks.laidMetH_plain _ _ _ (by kernel_rfl)];exact laidMet_laidAll _ (by kernel_rfl) (by kernel_rfl)))
    rfl (fun ds h=>by match ds,h with| [x0],_=>rfl) (by kernel_rfl) Tryz.underlying4 (by kernel_rfl) L09_SchemaMany.ok pure7 fun W h1 h2=>glb_of h1 h2
theorem schemaMany_row:Rows.SchemaManySaid:=
  OpenClaim.holds_of_wide 7 Tryz.f7 rfl rfl rfl rfl rfl rfl rfl ⟨rfl,rfl,rfl,rfl,rfl⟩ rfl rfl rfl rfl rfl (by kernel_rfl) Tryz.func7 (by kernel_rfl)
    (of_decide_eq_true (by kernel_rfl)) (by unfold Func.isWrapper;first|(rw [if_pos (by decide+kernel)];kernel_rfl)|(rw [if_neg (by decide+kernel)];exact ⟨rfl,rfl⟩))
    (fun os started H enc _=>schemaMany_lifted os started H enc)
theorem schemaMany_holds : Rows.SchemaManyCardSaid :=
  Claim7.holds_tied_plain_at .later [] [.data, .data, .data, .data, .sentinel, .sentinel, .pinned] true (true, "f08c965926940067fc270ae14e0093dd148e3f019cecc3380fbdc90452773b37") true
    schemaMany_row (fun _ h=>by cases h) (by kernel_rfl) (fun _ h=>by cases h) schemaMany_row_tie rfl ⟨rfl,rfl⟩ (by kernel_rfl) rfl
    (fun f fn hf hfn=>by
      obtain rfl : f = 7 := Option.some.inj ((show Tryz.prog.funcNamed "levee/leveelaw09.SchemaMany" = some 7 by kernel_rfl).symm.trans hf) |>.symm
      obtain rfl:fn=Tryz.f7:=(Option.some.inj (Tryz.func7.symm.trans hfn)).symm
      exact ⟨by kernel_rfl,fun j t ht=>by
        rw [Tryz.params7] at ht
        have hm:t∈ [3]:=by simpa using Array.mem_of_getElem? ht
        have hall:([3].all fun u=> !Tryz.prog.wantsStandIn u)=true:=by kernel_rfl
        exact (show Tryz.prog.wantsStandIn t=false by simpa using List.all_eq_true.1 hall t hm)⟩)
    (by kernel_rfl)
end Go.Proofs.YtleadolkcmagfaaGreatDoor

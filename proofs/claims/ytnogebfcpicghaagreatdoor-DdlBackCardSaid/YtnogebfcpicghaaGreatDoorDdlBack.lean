/-
  For every definition and text leveelaw07.DdlBack returns true and leaves its arguments as they were: what is printed is read as it was; what is read may be printed, and is read from that as the same.
  Conditions: none beyond the given row's own (what the listed library variables hold, which the given tie holds against the program's text).
-/
import Derived.Test.YtnogebfcpicghaaGreatDoorG1
import Derived.Test.YtnogebfcpicghaaGreatDoorL12
set_option linter.all false
set_option linter.unusedVariables false
set_option linter.unusedSimpArgs false
set_option linter.unusedSectionVars false
set_option maxRecDepth 100000
namespace Go.Proofs.YtnogebfcpicghaaGreatDoor
open Go Lv Go.Proofs Go.RowKit Go.ChangeShapes Go.WideShapes Go.ChangeAt Go.Proofs.Ytnogebfcpicghaa
theorem ddlBack_own : ownKnob Tryz.prog.godebug = none := by kernel_rfl
theorem ddlBack_laidOut : laidOutB Tryz.prog = true := by kernel_rfl
theorem ddlBack_lifted (os : Os) (started : os.Started) (H : Type) (enc : TypeId × Value → H) :
    ReturnsInHanded {} Tryz.checked os 4 .any (fun w args => (Rows.ddlBackSpec.pre enc Tryz.prog Tryz.f4 [] false w args ∧ laidMetH Tryz.prog laid7 w) ∧ sizedMet enc Tryz.prog Tryz.f4 (OpenSpec.ofChange Rows.ddlBackSpec) false w args)
      (Rows.ddlBackSpec.post enc Tryz.prog Tryz.f4 false true false false) :=
  law_card (C := Tryz.checked) (l := [(tDef, true), (.str, false)]) (rt := 4) (laid := laid7) ddlBack_own started (by kernel_rfl) Tryz.func4 ddlBack_laidOut
    (ChangeSpec.witness_shaped (enc := enc) (C := Tryz.checked) (os := os) (X := fun w _ => laidMetH Tryz.prog laid7 w) false (World.laidAll Tryz.prog os laid7) #[.agg #[.int .i64 0, .string ⟨#[]⟩, .slice none 0 0, .slice none 0 0, .string ⟨#[]⟩, .string ⟨#[]⟩, .string ⟨#[]⟩, .int .i64 0, .int .i64 0, .slice none 0 0, .slice none 0 0, .bool false, .slice none 0 0], .string ⟨#[]⟩] 8 (World.laidAll_os _ _ _)
      (World.shaped_of_ZipB (by kernel_rfl) (by kernel_rfl)) (by kernel_rfl) (by kernel_rfl) (by kernel_rfl)
      (by rw [MakeChecks.laidMetH_plain _ _ _ (by kernel_rfl)]; exact laidMet_laidAll _ (by kernel_rfl) (by kernel_rfl)))
    rfl (fun ds h => by match ds, h with | [x0, x1], _ => rfl) (by kernel_rfl) Tryz.underlying4 (by kernel_rfl) L07_DdlBack.ok pure4 fun W h1 h2 => glb_of h1 h2
theorem ddlBack_row : Rows.DdlBackSaid :=
  OpenClaim.holds_of_wide 4 Tryz.f4 rfl rfl rfl rfl rfl rfl rfl ⟨rfl, rfl, rfl, rfl, rfl⟩ rfl rfl rfl rfl rfl (by kernel_rfl) Tryz.func4 (by kernel_rfl)
    (of_decide_eq_true (by kernel_rfl)) (by unfold Func.isWrapper; first | (rw [if_pos (by decide +kernel)]; kernel_rfl) | (rw [if_neg (by decide +kernel)]; exact ⟨rfl, rfl⟩))
    (fun os started H enc _ => ddlBack_lifted os started H enc)
theorem ddlBack_holds : Rows.DdlBackCardSaid :=
  Claim7.holds_tied_plain_at .later [] [.data, .data, .data, .data, .sentinel, .sentinel, .pinned] true (true, "573daee577e1311e2ab2662387a1630d81c6c06ccc69ec537490203d84841d94") true
    ddlBack_row (fun _ h => by cases h) (by kernel_rfl) (fun _ h => by cases h) ddlBack_row_tie rfl ⟨rfl, rfl⟩ (by kernel_rfl) rfl
    (fun f fn hf hfn => by
      obtain rfl : f = 4 := Option.some.inj ((show Tryz.prog.funcNamed "levee/leveelaw07.DdlBack" = some 4 by kernel_rfl).symm.trans hf) |>.symm
      obtain rfl : fn = Tryz.f4 := (Option.some.inj (Tryz.func4.symm.trans hfn)).symm
      exact ⟨by kernel_rfl, fun j t ht => by
        rw [Tryz.params4] at ht
        have hm : t ∈ [34, 9] := by simpa using Array.mem_of_getElem? ht
        have hall : ([34, 9].all fun u => !Tryz.prog.wantsStandIn u) = true := by kernel_rfl
        exact (show Tryz.prog.wantsStandIn t = false by simpa using List.all_eq_true.1 hall t hm)⟩)
    (by kernel_rfl)
end Go.Proofs.YtnogebfcpicghaaGreatDoor

/-
  For every text leveelaw07.DdlParts returns true and leaves its argument as it was: of a definition that is read its kind tells which part there is.
  Conditions: none beyond the given row's own (what the listed library variables hold, which the given tie holds against the program's text).
-/
import Derived.Test.YtnogebfcpicghaaGreatDoorG1
import Derived.Test.YtnogebfcpicghaaGreatDoorL12
set_option linter.all false
set_option linter.unusedVariables false
set_option linter.unusedSimpArgs false
set_option linter.unusedSectionVars false
set_option maxRecDepth 100000
namespace Go.Proofs.YtnogebfcpicghaaGreatDoor
open Go Lv Go.Proofs Go.RowKit Go.ChangeShapes Go.WideShapes Go.ChangeAt Go.Proofs.Ytnogebfcpicghaa
theorem ddlParts_own : ownKnob Tryz.prog.godebug = none := by kernel_rfl
theorem ddlParts_laidOut : laidOutB Tryz.prog = true := by kernel_rfl
theorem ddlParts_lifted (os : Os) (started : os.Started) (H : Type) (enc : TypeId × Value → H) :
    ReturnsInHanded {} Tryz.checked os 6 .any (fun w args => (Rows.ddlPartsSpec.pre enc Tryz.prog Tryz.f6 [] false w args ∧ laidMetH Tryz.prog laid7 w) ∧ sizedMet enc Tryz.prog Tryz.f6 (OpenSpec.ofChange Rows.ddlPartsSpec) false w args)
      (Rows.ddlPartsSpec.post enc Tryz.prog Tryz.f6 false true false false) :=
  law_card (C := Tryz.checked) (l := [(.str, false)]) (rt := 4) (laid := laid7) ddlParts_own started (by kernel_rfl) Tryz.func6 ddlParts_laidOut
    (ChangeSpec.witness_shaped (enc := enc) (C := Tryz.checked) (os := os) (X := fun w _ => laidMetH Tryz.prog laid7 w) false (World.laidAll Tryz.prog os laid7) #[.string ⟨#[]⟩] 8 (World.laidAll_os _ _ _)
      (World.shaped_of_ZipB (by kernel_rfl) (by kernel_rfl)) (by kernel_rfl) (by kernel_rfl) (by kernel_rfl)
      (by rw [MakeChecks.laidMetH_plain _ _ _ (by kernel_rfl)]; exact laidMet_laidAll _ (by kernel_rfl) (by kernel_rfl)))
    rfl (fun ds h => by match ds, h with | [x0], _ => rfl) (by kernel_rfl) Tryz.underlying4 (by kernel_rfl) L07_DdlParts.ok pure6 fun W h1 h2 => glb_of h1 h2
theorem ddlParts_row : Rows.DdlPartsSaid :=
  OpenClaim.holds_of_wide 6 Tryz.f6 rfl rfl rfl rfl rfl rfl rfl ⟨rfl, rfl, rfl, rfl, rfl⟩ rfl rfl rfl rfl rfl (by kernel_rfl) Tryz.func6 (by kernel_rfl)
    (of_decide_eq_true (by kernel_rfl)) (by unfold Func.isWrapper; first | (rw [if_pos (by decide +kernel)]; kernel_rfl) | (rw [if_neg (by decide +kernel)]; exact ⟨rfl, rfl⟩))
    (fun os started H enc _ => ddlParts_lifted os started H enc)
theorem ddlParts_holds : Rows.DdlPartsCardSaid :=
  Claim7.holds_tied_plain_at .later [] [.data, .data, .data, .data, .sentinel, .sentinel, .pinned] true (true, "573daee577e1311e2ab2662387a1630d81c6c06ccc69ec537490203d84841d94") true
    ddlParts_row (fun _ h => by cases h) (by kernel_rfl) (fun _ h => by cases h) ddlParts_row_tie rfl ⟨rfl, rfl⟩ (by kernel_rfl) rfl
    (fun f fn hf hfn => by
      obtain rfl : f = 6 := Option.some.inj ((show Tryz.prog.funcNamed "levee/leveelaw07.DdlParts" = some 6 by kernel_rfl).symm.trans hf) |>.symm
      obtain rfl : fn = Tryz.f6 := (Option.some.inj (Tryz.func6.symm.trans hfn)).symm
      exact ⟨by kernel_rfl, fun j t ht => by
        rw [Tryz.params6] at ht
        have hm : t ∈ [9] := by simpa using Array.mem_of_getElem? ht
        have hall : ([9].all fun u => !Tryz.prog.wantsStandIn u) = true := by kernel_rfl
        exact (show Tryz.prog.wantsStandIn t = false by simpa using List.all_eq_true.1 hall t hm)⟩)
    (by kernel_rfl)
end Go.Proofs.YtnogebfcpicghaaGreatDoor

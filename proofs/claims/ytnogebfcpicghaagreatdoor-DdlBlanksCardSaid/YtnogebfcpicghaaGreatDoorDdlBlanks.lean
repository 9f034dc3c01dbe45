/-
  For every text and place leveelaw07.DdlBlanks returns true and leaves its arguments as they were: a blank more, where one stands, ahead, or behind, changes nothing, but within a text.
  Conditions: none beyond the given row's own (what the listed library variables hold, which the given tie holds against the program's text).
-/
import Derived.Test.YtnogebfcpicghaaGreatDoorG1
import Derived.Test.YtnogebfcpicghaaGreatDoorL12
set_option linter.all false
set_option linter.unusedVariables false
set_option linter.unusedSimpArgs false
set_option linter.unusedSectionVars false
set_option maxRecDepth 100000
namespace Go.Proofs.YtnogebfcpicghaaGreatDoor
open Go Lv Go.Proofs Go.RowKit Go.ChangeShapes Go.WideShapes Go.ChangeAt Go.Proofs.Ytnogebfcpicghaa
theorem ddlBlanks_own : ownKnob Tryz.prog.godebug = none := by kernel_rfl
theorem ddlBlanks_laidOut : laidOutB Tryz.prog = true := by kernel_rfl
theorem ddlBlanks_lifted (os : Os) (started : os.Started) (H : Type) (enc : TypeId × Value → H) :
    ReturnsInHanded {} Tryz.checked os 5 .any (fun w args => (Rows.ddlBlanksSpec.pre enc Tryz.prog Tryz.f5 [] false w args ∧ laidMetH Tryz.prog laid7 w) ∧ sizedMet enc Tryz.prog Tryz.f5 (OpenSpec.ofChange Rows.ddlBlanksSpec) false w args)
      (Rows.ddlBlanksSpec.post enc Tryz.prog Tryz.f5 false true false false) :=
  law_card (C := Tryz.checked) (l := [(.str, false), (.int .i64, false)]) (rt := 4) (laid := laid7) ddlBlanks_own started (by kernel_rfl) Tryz.func5 ddlBlanks_laidOut
    (ChangeSpec.witness_shaped (enc := enc) (C := Tryz.checked) (os := os) (X := fun w _ => laidMetH Tryz.prog laid7 w) false (World.laidAll Tryz.prog os laid7) #[.string ⟨#[]⟩, .int .i64 0] 8 (World.laidAll_os _ _ _)
      (World.shaped_of_ZipB (by kernel_rfl) (by kernel_rfl)) (by kernel_rfl) (by kernel_rfl) (by kernel_rfl)
      (by rw [MakeChecks.laidMetH_plain _ _ _ (by kernel_rfl)]; exact laidMet_laidAll _ (by kernel_rfl) (by kernel_rfl)))
    rfl (fun ds h => by match ds, h with | [x0, x1], _ => rfl) (by kernel_rfl) Tryz.underlying4 (by kernel_rfl) L07_DdlBlanks.ok pure5 fun W h1 h2 => glb_of h1 h2
theorem ddlBlanks_row : Rows.DdlBlanksSaid :=
  OpenClaim.holds_of_wide 5 Tryz.f5 rfl rfl rfl rfl rfl rfl rfl ⟨rfl, rfl, rfl, rfl, rfl⟩ rfl rfl rfl rfl rfl (by kernel_rfl) Tryz.func5 (by kernel_rfl)
    (of_decide_eq_true (by kernel_rfl)) (by unfold Func.isWrapper; first | (rw [if_pos (by decide +kernel)]; kernel_rfl) | (rw [if_neg (by decide +kernel)]; exact ⟨rfl, rfl⟩))
    (fun os started H enc _ => ddlBlanks_lifted os started H enc)
theorem ddlBlanks_holds : Rows.DdlBlanksCardSaid :=
  Claim7.holds_tied_plain_at .later [] [.data, .data, .data, .data, .sentinel, .sentinel, .pinned] true (true, "573daee577e1311e2ab2662387a1630d81c6c06ccc69ec537490203d84841d94") true
    ddlBlanks_row (fun _ h => by cases h) (by kernel_rfl) (fun _ h => by cases h) ddlBlanks_row_tie rfl ⟨rfl, rfl⟩ (by kernel_rfl) rfl
    (fun f fn hf hfn => by
      obtain rfl : f = 5 := Option.some.inj ((show Tryz.prog.funcNamed "levee/leveelaw07.DdlBlanks" = some 5 by kernel_rfl).symm.trans hf) |>.symm
      obtain rfl : fn = Tryz.f5 := (Option.some.inj (Tryz.func5.symm.trans hfn)).symm
      exact ⟨by kernel_rfl, fun j t ht => by
        rw [Tryz.params5] at ht
        have hm : t ∈ [9, 3] := by simpa using Array.mem_of_getElem? ht
        have hall : ([9, 3].all fun u => !Tryz.prog.wantsStandIn u) = true := by kernel_rfl
        exact (show Tryz.prog.wantsStandIn t = false by simpa using List.all_eq_true.1 hall t hm)⟩)
    (by kernel_rfl)
end Go.Proofs.YtnogebfcpicghaaGreatDoor

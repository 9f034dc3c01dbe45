import Derived.Test.YtniojllnooblcaaGreatDoorM8
set_option linter.all false
set_option linter.unusedVariables false
set_option linter.unusedSimpArgs false
set_option linter.unusedSectionVars false
/-
  For every number leveelaw21.TxnFull returns true: a transaction takes fifty statements; the next one is refused,and changes nothing.
  Conditions: none beyond the given row's own (what the listed library variables hold,which the given tie holds against the program's text).
-/
set_option maxRecDepth 100000
namespace Go.Proofs.YtniojllnooblcaaGreatDoor
open Go Lv Go.Proofs Go.RowKit Go.ChangeShapes Go.WideShapes Go.ChangeAt Go.Proofs.Ytniojllnooblcaa
theorem txnFull_own : ownKnob Tryz.prog.godebug = none := by kernel_rfl
theorem txnFull_laidOut : laidOutB Tryz.prog = true := by kernel_rfl
theorem txnFull_lifted (os : Os) (started : os.Started) (H : Type) (enc : TypeId × Value → H) :
    ReturnsInHanded {} Tryz.checked os 4 .any (fun w args => (Rows.txnFullSpec.pre enc Tryz.prog Tryz.f4 [] false w args ∧ laidMetH Tryz.prog laid7 w) ∧ sizedMet enc Tryz.prog Tryz.f4 (OpenSpec.ofChange Rows.txnFullSpec) false w args)
      (Rows.txnFullSpec.post enc Tryz.prog Tryz.f4 false true false false) :=
  law_card (C := Tryz.checked) (l := [(.int .i64,false)]) (rt := 4) (laid := laid7) txnFull_own started (by kernel_rfl) Tryz.func4 txnFull_laidOut
    (ChangeSpec.witness_shaped (enc := enc) (C := Tryz.checked) (os := os) (X := fun w _ => laidMetH Tryz.prog laid7 w) false (World.laidAll Tryz.prog os laid7) #[.int .i64 0] 8 (World.laidAll_os _ _ _)
      (World.shaped_of_ZipB (by kernel_rfl) (by kernel_rfl)) (by kernel_rfl) (by kernel_rfl) (by kernel_rfl)
      (by rw [MakeChecks.laidMetH_plain _ _ _ (by kernel_rfl)]; exact laidMet_laidAll _ (by kernel_rfl) (by kernel_rfl)))
    rfl (fun ds h => by match ds,h with | [x0],_ => rfl) (by kernel_rfl) Tryz.underlying4 (by kernel_rfl) L21_TxnFull.ok pure4 fun W h1 h2 => glb_of h1 h2
theorem txnFull_row : Rows.TxnFullSaid :=
  OpenClaim.holds_of_wide 4 Tryz.f4 rfl rfl rfl rfl rfl rfl rfl ⟨rfl,rfl,rfl,rfl,rfl⟩ rfl rfl rfl rfl rfl (by kernel_rfl) Tryz.func4 (by kernel_rfl)
    (of_decide_eq_true (by kernel_rfl)) (by unfold Func.isWrapper; first | (rw [if_pos (by decide +kernel)]; kernel_rfl) | (rw [if_neg (by decide +kernel)]; exact ⟨rfl,rfl⟩))
    (fun os started H enc _ => txnFull_lifted os started H enc)
theorem txnFull_holds : Rows.TxnFullCardSaid :=
  Claim7.holds_tied_plain_at .later [] [.data, .data, .data, .data, .pinned] true (true, "26ba1582cf79eddf88db80ec0fa5f090b84b94bb53d3b6c67310dd8a50aa4608") false
    txnFull_row (fun _ h => by cases h) (by kernel_rfl) (fun _ h => by cases h) txnFull_row_tie rfl ⟨rfl,rfl⟩ (by kernel_rfl) rfl
    (fun f fn hf hfn => by
      obtain rfl : f = 4 := Option.some.inj ((show Tryz.prog.funcNamed "levee/leveelaw21.TxnFull" = some 4 by kernel_rfl).symm.trans hf) |>.symm
      obtain rfl : fn = Tryz.f4 := (Option.some.inj (Tryz.func4.symm.trans hfn)).symm
      exact ⟨by kernel_rfl,fun j t ht => by
        rw [Tryz.params4] at ht
        have hm : t ∈ [3] := by simpa using Array.mem_of_getElem? ht
        have hall : ([3].all fun u => !Tryz.prog.wantsStandIn u) = true := by kernel_rfl
        exact (show Tryz.prog.wantsStandIn t = false by simpa using List.all_eq_true.1 hall t hm)⟩)
    (by kernel_rfl)
end Go.Proofs.YtniojllnooblcaaGreatDoor

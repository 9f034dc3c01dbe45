/-
  For every list of locks and two locks leveelaw22.LockOrder returns true and leaves its arguments as they were: keys are taken in any order to the same.
  Conditions: none beyond the given row's own.
-/
import Derived.Test.YtmpoopidlojdbaaP7
import Derived.Test.YtmpoopidlojdbaaRows
set_option linter.all false
set_option linter.unusedVariables false
set_option linter.unusedSimpArgs false
set_option linter.unusedSectionVars false
set_option maxRecDepth 100000
namespace Go.Proofs.Ytmpoopidlojdbaa
open Go Lv Go.Proofs Go.RowKit Go.ChangeShapes Go.WideShapes
theorem lockOrder_own : ownKnob Try.prog.godebug = none := by kernel_rfl
theorem lockOrder_laid : laidOutB Try.prog = true := by kernel_rfl
theorem lockOrder_lifted (os : Os) (started : os.Started) (H : Type) (enc : TypeId × Value → H) :
    ReturnsInHanded {} Try.checked os 6 .any (Rows.lockOrderSpec.pre6 enc Try.prog Try.f6 Rows.lockOrderRow.domain false) (Rows.lockOrderSpec.post enc Try.prog Try.f6 false true false false) :=
  law_lifted (C := Try.checked) (l := [(.sl 26 tL, false), (tL, true), (tL, true)]) (rt := 4) lockOrder_own started (by kernel_rfl) Try.func6 lockOrder_laid
    (ChangeSpec.witness6 (enc := enc) (C := Try.checked) false ⟨#[], #[.slice none 0 0, .agg #[.string ⟨#[]⟩, .int .i64 0, .int .i64 0, .string ⟨#[]⟩, .int .i64 0], .agg #[.string ⟨#[]⟩, .int .i64 0, .int .i64 0, .string ⟨#[]⟩, .int .i64 0]], []⟩ 8 (by kernel_rfl) (by kernel_rfl) (by kernel_rfl) (by kernel_rfl))
    rfl (fun ds h => by match ds, h with | [x0, x1, x2], _ => rfl) (by kernel_rfl) Try.underlying4 (by kernel_rfl) f6.ok pure6
theorem lockOrder_holds : Rows.LockOrderSaid :=
  OpenClaim.holds_of_wide 6 Try.f6 rfl rfl rfl rfl rfl rfl rfl ⟨rfl, rfl, rfl, rfl, rfl⟩ rfl rfl rfl rfl rfl (by kernel_rfl) Try.func6 (by kernel_rfl)
    (of_decide_eq_true (by kernel_rfl)) (by unfold Func.isWrapper; first | (rw [if_pos (by decide +kernel)]; kernel_rfl) | (rw [if_neg (by decide +kernel)]; exact ⟨rfl, rfl⟩))
    (fun os started H enc _ => lockOrder_lifted os started H enc)
end Go.Proofs.Ytmpoopidlojdbaa

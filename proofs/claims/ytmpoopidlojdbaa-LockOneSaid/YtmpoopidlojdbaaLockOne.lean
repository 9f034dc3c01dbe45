/-
  For every list of locks, lock and other owner leveelaw22.LockOne returns true and leaves its arguments as they were: a key has one owner at most.
  Conditions: none beyond the given row's own.
-/
import Derived.Test.YtmpoopidlojdbaaP6
import Derived.Test.YtmpoopidlojdbaaRows
set_option linter.all false
set_option linter.unusedVariables false
set_option linter.unusedSimpArgs false
set_option linter.unusedSectionVars false
set_option maxRecDepth 100000
namespace Go.Proofs.Ytmpoopidlojdbaa
open Go Lv Go.Proofs Go.RowKit Go.ChangeShapes Go.WideShapes
theorem lockOne_own : ownKnob Try.prog.godebug = none := by kernel_rfl
theorem lockOne_laid : laidOutB Try.prog = true := by kernel_rfl
theorem lockOne_lifted (os : Os) (started : os.Started) (H : Type) (enc : TypeId × Value → H) :
    ReturnsInHanded {} Try.checked os 4 .any (Rows.lockOneSpec.pre6 enc Try.prog Try.f4 Rows.lockOneRow.domain false) (Rows.lockOneSpec.post enc Try.prog Try.f4 false true false false) :=
  law_lifted (C := Try.checked) (l := [(.sl 26 tL, false), (tL, true), (.int .i64, false)]) (rt := 4) lockOne_own started (by kernel_rfl) Try.func4 lockOne_laid
    (ChangeSpec.witness6 (enc := enc) (C := Try.checked) false ⟨#[], #[.slice none 0 0, .agg #[.string ⟨#[]⟩, .int .i64 0, .int .i64 0, .string ⟨#[]⟩, .int .i64 0], .int .i64 0], []⟩ 8 (by kernel_rfl) (by kernel_rfl) (by kernel_rfl) (by kernel_rfl))
    rfl (fun ds h => by match ds, h with | [x0, x1, x2], _ => rfl) (by kernel_rfl) Try.underlying4 (by kernel_rfl) f4.ok pure4
theorem lockOne_holds : Rows.LockOneSaid :=
  OpenClaim.holds_of_wide 4 Try.f4 rfl rfl rfl rfl rfl rfl rfl ⟨rfl, rfl, rfl, rfl, rfl⟩ rfl rfl rfl rfl rfl (by kernel_rfl) Try.func4 (by kernel_rfl)
    (of_decide_eq_true (by kernel_rfl)) (by unfold Func.isWrapper; first | (rw [if_pos (by decide +kernel)]; kernel_rfl) | (rw [if_neg (by decide +kernel)]; exact ⟨rfl, rfl⟩))
    (fun os started H enc _ => lockOne_lifted os started H enc)
end Go.Proofs.Ytmpoopidlojdbaa

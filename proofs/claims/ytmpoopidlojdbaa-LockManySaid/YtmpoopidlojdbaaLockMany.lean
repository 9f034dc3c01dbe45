/-
  For all three numbers leveelaw22.LockMany returns true and leaves its arguments as they were: so many keys are taken by one owner, freed, and taken by another.
  Conditions: none beyond the given row's own.
-/
import Derived.Test.YtmpoopidlojdbaaP7
import Derived.Test.YtmpoopidlojdbaaRows
set_option linter.all false
set_option linter.unusedVariables false
set_option linter.unusedSimpArgs false
set_option linter.unusedSectionVars false
set_option maxRecDepth 100000
namespace Go.Proofs.Ytmpoopidlojdbaa
open Go Lv Go.Proofs Go.RowKit Go.ChangeShapes Go.WideShapes
theorem lockMany_own : ownKnob Try.prog.godebug = none := by kernel_rfl
theorem lockMany_laid : laidOutB Try.prog = true := by kernel_rfl
theorem lockMany_lifted (os : Os) (started : os.Started) (H : Type) (enc : TypeId × Value → H) :
    ReturnsInHanded {} Try.checked os 7 .any (Rows.lockManySpec.pre6 enc Try.prog Try.f7 Rows.lockManyRow.domain false) (Rows.lockManySpec.post enc Try.prog Try.f7 false true false false) :=
  law_lifted (C := Try.checked) (l := [(.int .i64, false), (.int .i64, false), (.int .i64, false)]) (rt := 4) lockMany_own started (by kernel_rfl) Try.func7 lockMany_laid
    (ChangeSpec.witness6 (enc := enc) (C := Try.checked) false ⟨#[], #[.int .i64 0, .int .i64 0, .int .i64 0], []⟩ 8 (by kernel_rfl) (by kernel_rfl) (by kernel_rfl) (by kernel_rfl))
    rfl (fun ds h => by match ds, h with | [x0, x1, x2], _ => rfl) (by kernel_rfl) Try.underlying4 (by kernel_rfl) f7.ok pure7
theorem lockMany_holds : Rows.LockManySaid :=
  OpenClaim.holds_of_wide 7 Try.f7 rfl rfl rfl rfl rfl rfl rfl ⟨rfl, rfl, rfl, rfl, rfl⟩ rfl rfl rfl rfl rfl (by kernel_rfl) Try.func7 (by kernel_rfl)
    (of_decide_eq_true (by kernel_rfl)) (by unfold Func.isWrapper; first | (rw [if_pos (by decide +kernel)]; kernel_rfl) | (rw [if_neg (by decide +kernel)]; exact ⟨rfl, rfl⟩))
    (fun os started H enc _ => lockMany_lifted os started H enc)
end Go.Proofs.Ytmpoopidlojdbaa

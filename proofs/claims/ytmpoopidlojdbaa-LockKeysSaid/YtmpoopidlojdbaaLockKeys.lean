/-
  For every list of writes and owner leveelaw22.LockKeys returns true and leaves its arguments as they were: keys of writes rise, and are just those of the writes.
  Conditions: none beyond the given row's own.
-/
import Derived.Test.YtmpoopidlojdbaaP8
import Derived.Test.YtmpoopidlojdbaaRows
set_option linter.all false
set_option linter.unusedVariables false
set_option linter.unusedSimpArgs false
set_option linter.unusedSectionVars false
set_option maxRecDepth 100000
namespace Go.Proofs.Ytmpoopidlojdbaa
open Go Lv Go.Proofs Go.RowKit Go.ChangeShapes Go.WideShapes
theorem lockKeys_own : ownKnob Try.prog.godebug = none := by kernel_rfl
theorem lockKeys_laid : laidOutB Try.prog = true := by kernel_rfl
theorem lockKeys_lifted (os : Os) (started : os.Started) (H : Type) (enc : TypeId × Value → H) :
    ReturnsInHanded {} Try.checked os 5 .any (Rows.lockKeysSpec.pre6 enc Try.prog Try.f5 Rows.lockKeysRow.domain false) (Rows.lockKeysSpec.post enc Try.prog Try.f5 false true false false) :=
  law_lifted (C := Try.checked) (l := [(.sl 42 tW, false), (.int .i64, false)]) (rt := 4) lockKeys_own started (by kernel_rfl) Try.func5 lockKeys_laid
    (ChangeSpec.witness6 (enc := enc) (C := Try.checked) false ⟨#[], #[.slice none 0 0, .int .i64 0], []⟩ 8 (by kernel_rfl) (by kernel_rfl) (by kernel_rfl) (by kernel_rfl))
    rfl (fun ds h => by match ds, h with | [x0, x1], _ => rfl) (by kernel_rfl) Try.underlying4 (by kernel_rfl) f5.ok pure5
theorem lockKeys_holds : Rows.LockKeysSaid :=
  OpenClaim.holds_of_wide 5 Try.f5 rfl rfl rfl rfl rfl rfl rfl ⟨rfl, rfl, rfl, rfl, rfl⟩ rfl rfl rfl rfl rfl (by kernel_rfl) Try.func5 (by kernel_rfl)
    (of_decide_eq_true (by kernel_rfl)) (by unfold Func.isWrapper; first | (rw [if_pos (by decide +kernel)]; kernel_rfl) | (rw [if_neg (by decide +kernel)]; exact ⟨rfl, rfl⟩))
    (fun os started H enc _ => lockKeys_lifted os started H enc)
end Go.Proofs.Ytmpoopidlojdbaa

/-
  For every list of locks, lock and list of writes leveelaw22.LockTells returns true and leaves its arguments as they were: the keys of writes, who has a lock, and what is taken and freed, are as the document says.
  Conditions: none beyond the given row's own.
-/
import Derived.Test.YtmpoopidlojdbaaP5
import Derived.Test.YtmpoopidlojdbaaRows
set_option linter.all false
set_option linter.unusedVariables false
set_option linter.unusedSimpArgs false
set_option linter.unusedSectionVars false
set_option maxRecDepth 100000
namespace Go.Proofs.Ytmpoopidlojdbaa
open Go Lv Go.Proofs Go.RowKit Go.ChangeShapes Go.WideShapes
theorem lockTells_own : ownKnob Try.prog.godebug = none := by kernel_rfl
theorem lockTells_laid : laidOutB Try.prog = true := by kernel_rfl
theorem lockTells_lifted (os : Os) (started : os.Started) (H : Type) (enc : TypeId × Value → H) :
    ReturnsInHanded {} Try.checked os 3 .any (Rows.lockTellsSpec.pre6 enc Try.prog Try.f3 Rows.lockTellsRow.domain false) (Rows.lockTellsSpec.post enc Try.prog Try.f3 false true false false) :=
  law_lifted (C := Try.checked) (l := [(.sl 26 tL, false), (tL, true), (.sl 42 tW, false)]) (rt := 4) lockTells_own started (by kernel_rfl) Try.func3 lockTells_laid
    (ChangeSpec.witness6 (enc := enc) (C := Try.checked) false ⟨#[], #[.slice none 0 0, .agg #[.string ⟨#[]⟩, .int .i64 0, .int .i64 0, .string ⟨#[]⟩, .int .i64 0], .slice none 0 0], []⟩ 8 (by kernel_rfl) (by kernel_rfl) (by kernel_rfl) (by kernel_rfl))
    rfl (fun ds h => by match ds, h with | [x0, x1, x2], _ => rfl) (by kernel_rfl) Try.underlying4 (by kernel_rfl) f3.ok pure3
theorem lockTells_holds : Rows.LockTellsSaid :=
  OpenClaim.holds_of_wide 3 Try.f3 rfl rfl rfl rfl rfl rfl rfl ⟨rfl, rfl, rfl, rfl, rfl⟩ rfl rfl rfl rfl rfl (by kernel_rfl) Try.func3 (by kernel_rfl)
    (of_decide_eq_true (by kernel_rfl)) (by unfold Func.isWrapper; first | (rw [if_pos (by decide +kernel)]; kernel_rfl) | (rw [if_neg (by decide +kernel)]; exact ⟨rfl, rfl⟩))
    (fun os started H enc _ => lockTells_lifted os started H enc)
end Go.Proofs.Ytmpoopidlojdbaa

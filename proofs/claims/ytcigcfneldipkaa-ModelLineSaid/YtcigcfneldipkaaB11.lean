/- Part 11 of what the proof leans on: ModelLine, part 10. Conditions: as each theorem says. -/
import Derived.Test.YtcigcfneldipkaaB10
set_option linter.unusedVariables false
namespace Go.Eng.Try
open Go Go.Eng Go.RowKit Go.Proofs.Try
theorem lc80 : LCase 8 0 := by unfold LCase; kernel_rfl
theorem lc81 : LCase 8 1 := by unfold LCase; kernel_rfl
theorem lc82 : LCase 8 2 := by unfold LCase; kernel_rfl
theorem lc83 : LCase 8 3 := by unfold LCase; kernel_rfl
theorem lc84 : LCase 8 4 := by unfold LCase; kernel_rfl
theorem lc85 : LCase 8 5 := by unfold LCase; kernel_rfl
theorem lc86 : LCase 8 6 := by unfold LCase; kernel_rfl
theorem lc87 : LCase 8 7 := by unfold LCase; kernel_rfl
theorem lc88 : LCase 8 8 := by unfold LCase; kernel_rfl
end Go.Eng.Try

/- Part 5 of what the proof leans on: ModelLine, part 4. Conditions: as each theorem says. -/
import Derived.Test.YtcigcfneldipkaaB4
set_option linter.unusedVariables false
namespace Go.Eng.Try
open Go Go.Eng Go.RowKit Go.Proofs.Try
theorem lc20 : LCase 2 0 := by unfold LCase; kernel_rfl
theorem lc21 : LCase 2 1 := by unfold LCase; kernel_rfl
theorem lc22 : LCase 2 2 := by unfold LCase; kernel_rfl
theorem lc23 : LCase 2 3 := by unfold LCase; kernel_rfl
theorem lc24 : LCase 2 4 := by unfold LCase; kernel_rfl
theorem lc25 : LCase 2 5 := by unfold LCase; kernel_rfl
theorem lc26 : LCase 2 6 := by unfold LCase; kernel_rfl
theorem lc27 : LCase 2 7 := by unfold LCase; kernel_rfl
theorem lc28 : LCase 2 8 := by unfold LCase; kernel_rfl
end Go.Eng.Try

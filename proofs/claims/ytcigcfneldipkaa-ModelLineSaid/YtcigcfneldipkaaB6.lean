/- Part 6 of what the proof leans on: ModelLine, part 5. Conditions: as each theorem says. -/
import Derived.Test.YtcigcfneldipkaaB5
set_option linter.unusedVariables false
namespace Go.Eng.Try
open Go Go.Eng Go.RowKit Go.Proofs.Try
theorem lc30 : LCase 3 0 := by unfold LCase; kernel_rfl
theorem lc31 : LCase 3 1 := by unfold LCase; kernel_rfl
theorem lc32 : LCase 3 2 := by unfold LCase; kernel_rfl
theorem lc33 : LCase 3 3 := by unfold LCase; kernel_rfl
theorem lc34 : LCase 3 4 := by unfold LCase; kernel_rfl
theorem lc35 : LCase 3 5 := by unfold LCase; kernel_rfl
theorem lc36 : LCase 3 6 := by unfold LCase; kernel_rfl
theorem lc37 : LCase 3 7 := by unfold LCase; kernel_rfl
theorem lc38 : LCase 3 8 := by unfold LCase; kernel_rfl
end Go.Eng.Try

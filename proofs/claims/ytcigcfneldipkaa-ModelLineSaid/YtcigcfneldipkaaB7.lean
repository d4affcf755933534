/- Part 7 of what the proof leans on: ModelLine, part 6. Conditions: as each theorem says. -/
import Derived.Test.YtcigcfneldipkaaB6
set_option linter.unusedVariables false
namespace Go.Eng.Try
open Go Go.Eng Go.RowKit Go.Proofs.Try
theorem lc40 : LCase 4 0 := by unfold LCase; kernel_rfl
theorem lc41 : LCase 4 1 := by unfold LCase; kernel_rfl
theorem lc42 : LCase 4 2 := by unfold LCase; kernel_rfl
theorem lc43 : LCase 4 3 := by unfold LCase; kernel_rfl
theorem lc44 : LCase 4 4 := by unfold LCase; kernel_rfl
theorem lc45 : LCase 4 5 := by unfold LCase; kernel_rfl
theorem lc46 : LCase 4 6 := by unfold LCase; kernel_rfl
theorem lc47 : LCase 4 7 := by unfold LCase; kernel_rfl
theorem lc48 : LCase 4 8 := by unfold LCase; kernel_rfl
end Go.Eng.Try

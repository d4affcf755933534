/- Part 4 of what the proof leans on: ModelLine, part 3. Conditions: as each theorem says. -/
import Derived.Test.YtcigcfneldipkaaB3
set_option linter.unusedVariables false
namespace Go.Eng.Try
open Go Go.Eng Go.RowKit Go.Proofs.Try
theorem lc10 : LCase 1 0 := by unfold LCase; kernel_rfl
theorem lc11 : LCase 1 1 := by unfold LCase; kernel_rfl
theorem lc12 : LCase 1 2 := by unfold LCase; kernel_rfl
theorem lc13 : LCase 1 3 := by unfold LCase; kernel_rfl
theorem lc14 : LCase 1 4 := by unfold LCase; kernel_rfl
theorem lc15 : LCase 1 5 := by unfold LCase; kernel_rfl
theorem lc16 : LCase 1 6 := by unfold LCase; kernel_rfl
theorem lc17 : LCase 1 7 := by unfold LCase; kernel_rfl
theorem lc18 : LCase 1 8 := by unfold LCase; kernel_rfl
end Go.Eng.Try

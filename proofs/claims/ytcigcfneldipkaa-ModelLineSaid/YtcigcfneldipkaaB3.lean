/- Part 3 of what the proof leans on: ModelLine, part 2. Conditions: as each theorem says. -/
import Derived.Test.YtcigcfneldipkaaB2
set_option linter.unusedVariables false
namespace Go.Eng.Try
open Go Go.Eng Go.RowKit Go.Proofs.Try
theorem lc00 : LCase 0 0 := by unfold LCase; kernel_rfl
theorem lc01 : LCase 0 1 := by unfold LCase; kernel_rfl
theorem lc02 : LCase 0 2 := by unfold LCase; kernel_rfl
theorem lc03 : LCase 0 3 := by unfold LCase; kernel_rfl
theorem lc04 : LCase 0 4 := by unfold LCase; kernel_rfl
theorem lc05 : LCase 0 5 := by unfold LCase; kernel_rfl
theorem lc06 : LCase 0 6 := by unfold LCase; kernel_rfl
theorem lc07 : LCase 0 7 := by unfold LCase; kernel_rfl
theorem lc08 : LCase 0 8 := by unfold LCase; kernel_rfl
end Go.Eng.Try

/- Part 10 of what the proof leans on: ModelLine, part 9. Conditions: as each theorem says. -/
import Derived.Test.YtcigcfneldipkaaB9
set_option linter.unusedVariables false
namespace Go.Eng.Try
open Go Go.Eng Go.RowKit Go.Proofs.Try
theorem lc70 : LCase 7 0 := by unfold LCase; kernel_rfl
theorem lc71 : LCase 7 1 := by unfold LCase; kernel_rfl
theorem lc72 : LCase 7 2 := by unfold LCase; kernel_rfl
theorem lc73 : LCase 7 3 := by unfold LCase; kernel_rfl
theorem lc74 : LCase 7 4 := by unfold LCase; kernel_rfl
theorem lc75 : LCase 7 5 := by unfold LCase; kernel_rfl
theorem lc76 : LCase 7 6 := by unfold LCase; kernel_rfl
theorem lc77 : LCase 7 7 := by unfold LCase; kernel_rfl
theorem lc78 : LCase 7 8 := by unfold LCase; kernel_rfl
end Go.Eng.Try

/- Part 8 of what the proof leans on: ModelLine, part 7. Conditions: as each theorem says. -/
import Derived.Test.YtcigcfneldipkaaB7
set_option linter.unusedVariables false
namespace Go.Eng.Try
open Go Go.Eng Go.RowKit Go.Proofs.Try
theorem lc50 : LCase 5 0 := by unfold LCase; kernel_rfl
theorem lc51 : LCase 5 1 := by unfold LCase; kernel_rfl
theorem lc52 : LCase 5 2 := by unfold LCase; kernel_rfl
theorem lc53 : LCase 5 3 := by unfold LCase; kernel_rfl
theorem lc54 : LCase 5 4 := by unfold LCase; kernel_rfl
theorem lc55 : LCase 5 5 := by unfold LCase; kernel_rfl
theorem lc56 : LCase 5 6 := by unfold LCase; kernel_rfl
theorem lc57 : LCase 5 7 := by unfold LCase; kernel_rfl
theorem lc58 : LCase 5 8 := by unfold LCase; kernel_rfl
end Go.Eng.Try

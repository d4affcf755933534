/- Part 9 of what the proof leans on: ModelLine, part 8. Conditions: as each theorem says. -/
import Derived.Test.YtcigcfneldipkaaB8
set_option linter.unusedVariables false
namespace Go.Eng.Try
open Go Go.Eng Go.RowKit Go.Proofs.Try
theorem lc60 : LCase 6 0 := by unfold LCase; kernel_rfl
theorem lc61 : LCase 6 1 := by unfold LCase; kernel_rfl
theorem lc62 : LCase 6 2 := by unfold LCase; kernel_rfl
theorem lc63 : LCase 6 3 := by unfold LCase; kernel_rfl
theorem lc64 : LCase 6 4 := by unfold LCase; kernel_rfl
theorem lc65 : LCase 6 5 := by unfold LCase; kernel_rfl
theorem lc66 : LCase 6 6 := by unfold LCase; kernel_rfl
theorem lc67 : LCase 6 7 := by unfold LCase; kernel_rfl
theorem lc68 : LCase 6 8 := by unfold LCase; kernel_rfl
end Go.Eng.Try

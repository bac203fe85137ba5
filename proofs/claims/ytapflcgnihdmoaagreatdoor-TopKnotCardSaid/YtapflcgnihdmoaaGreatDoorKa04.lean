/- Runs for the knots (printed by genK.py). -/
import Derived.Test.YtapflcgnihdmoaaGreatDoorK1
import Derived.KernelRfl
namespace X
open Go
set_option linter.unusedVariables false
theorem g4_7_3_0 : allB ((pc59 (4, 7, 3, 0)).map run59) = true := by kernel_rfl
theorem g4_7_4_0 : allB ((pc59 (4, 7, 4, 0)).map run59) = true := by kernel_rfl
theorem g4_7_5_0 : allB ((pc59 (4, 7, 5, 0)).map run59) = true := by kernel_rfl
theorem g4_7_6_0 : allB ((pc59 (4, 7, 6, 0)).map run59) = true := by kernel_rfl
end X

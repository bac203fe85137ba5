/- Runs for the knots (printed by genK.py). -/
import Derived.Test.YtapflcgnihdmoaaGreatDoorK1
import Derived.KernelRfl
namespace X
open Go
set_option linter.unusedVariables false
theorem o7_2_1 : allB [runKK 7 2 1] = true := by kernel_rfl
theorem o7_2_2 : allB [runKK 7 2 2] = true := by kernel_rfl
theorem o7_2_3 : allB [runKK 7 2 3] = true := by kernel_rfl
theorem o7_2_4 : allB [runKK 7 2 4] = true := by kernel_rfl
theorem o7_2_5 : allB [runKK 7 2 5] = true := by kernel_rfl
theorem o7_2_6 : allB [runKK 7 2 6] = true := by kernel_rfl
theorem o7_3_0 : allB [runKK 7 3 0] = true := by kernel_rfl
theorem o7_3_1 : allB [runKK 7 3 1] = true := by kernel_rfl
theorem o7_3_2 : allB [runKK 7 3 2] = true := by kernel_rfl
theorem o7_3_3 : allB [runKK 7 3 3] = true := by kernel_rfl
theorem o7_3_4 : allB [runKK 7 3 4] = true := by kernel_rfl
theorem o7_3_5 : allB [runKK 7 3 5] = true := by kernel_rfl
theorem o7_3_6 : allB [runKK 7 3 6] = true := by kernel_rfl
theorem o7_4_0 : allB [runKK 7 4 0] = true := by kernel_rfl
theorem o7_4_1 : allB [runKK 7 4 1] = true := by kernel_rfl
theorem o7_4_2 : allB [runKK 7 4 2] = true := by kernel_rfl
theorem o7_4_3 : allB [runKK 7 4 3] = true := by kernel_rfl
theorem o7_4_4 : allB [runKK 7 4 4] = true := by kernel_rfl
theorem o7_4_5 : allB [runKK 7 4 5] = true := by kernel_rfl
theorem o7_4_6 : allB [runKK 7 4 6] = true := by kernel_rfl
theorem o7_5_0 : allB [runKK 7 5 0] = true := by kernel_rfl
theorem o7_5_1 : allB [runKK 7 5 1] = true := by kernel_rfl
theorem o7_5_2 : allB [runKK 7 5 2] = true := by kernel_rfl
theorem o7_5_3 : allB [runKK 7 5 3] = true := by kernel_rfl
theorem o7_5_4 : allB [runKK 7 5 4] = true := by kernel_rfl
theorem o7_5_5 : allB [runKK 7 5 5] = true := by kernel_rfl
theorem o7_5_6 : allB [runKK 7 5 6] = true := by kernel_rfl
theorem o7_6_0 : allB [runKK 7 6 0] = true := by kernel_rfl
theorem o7_6_1 : allB [runKK 7 6 1] = true := by kernel_rfl
theorem o7_6_2 : allB [runKK 7 6 2] = true := by kernel_rfl
theorem o7_6_3 : allB [runKK 7 6 3] = true := by kernel_rfl
theorem o7_6_4 : allB [runKK 7 6 4] = true := by kernel_rfl
theorem o7_6_5 : allB [runKK 7 6 5] = true := by kernel_rfl
theorem o7_6_6 : allB [runKK 7 6 6] = true := by kernel_rfl
end X

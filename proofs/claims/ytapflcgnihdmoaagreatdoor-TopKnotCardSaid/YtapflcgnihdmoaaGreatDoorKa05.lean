/- Runs for the knots (printed by genK.py). -/
import Derived.Test.YtapflcgnihdmoaaGreatDoorK1
import Derived.KernelRfl
namespace X
open Go
set_option linter.unusedVariables false
theorem h2_0 : allB [doK 2 .y 0 none] = true := by kernel_rfl
theorem h2_1 : allB [doK 2 .y 1 none] = true := by kernel_rfl
theorem h3_0 : allB [doK 3 .y 0 none] = true := by kernel_rfl
theorem h3_1 : allB [doK 3 .y 1 none] = true := by kernel_rfl
theorem h3_2 : allB [doK 3 .y 2 none] = true := by kernel_rfl
theorem h4_0 : allB [doK 4 .y 0 none] = true := by kernel_rfl
theorem h4_1 : allB [doK 4 .y 1 none] = true := by kernel_rfl
theorem h4_2 : allB [doK 4 .y 2 none] = true := by kernel_rfl
theorem h4_3 : allB [doK 4 .y 3 none] = true := by kernel_rfl
theorem h5_0 : allB [doK 5 .y 0 none] = true := by kernel_rfl
theorem h5_1 : allB [doK 5 .y 1 none] = true := by kernel_rfl
theorem h5_2 : allB [doK 5 .y 2 none] = true := by kernel_rfl
theorem h5_3 : allB [doK 5 .y 3 none] = true := by kernel_rfl
theorem h5_4 : allB [doK 5 .y 4 none] = true := by kernel_rfl
theorem h6_0 : allB [doK 6 .y 0 none] = true := by kernel_rfl
theorem h6_1 : allB [doK 6 .y 1 none] = true := by kernel_rfl
theorem h6_2 : allB [doK 6 .y 2 none] = true := by kernel_rfl
theorem h6_3 : allB [doK 6 .y 3 none] = true := by kernel_rfl
theorem h6_4 : allB [doK 6 .y 4 none] = true := by kernel_rfl
theorem h6_5 : allB [doK 6 .y 5 none] = true := by kernel_rfl
theorem h7_0 : allB [doK 7 .y 0 none] = true := by kernel_rfl
theorem h7_1 : allB [doK 7 .y 1 none] = true := by kernel_rfl
theorem h7_2 : allB [doK 7 .y 2 none] = true := by kernel_rfl
theorem h7_3 : allB [doK 7 .y 3 none] = true := by kernel_rfl
theorem h7_4 : allB [doK 7 .y 4 none] = true := by kernel_rfl
theorem h7_5 : allB [doK 7 .y 5 none] = true := by kernel_rfl
theorem h7_6 : allB [doK 7 .y 6 none] = true := by kernel_rfl
theorem i2_0_0 : allB [doK 2 (kI 1) 0 (some 0)] = true := by kernel_rfl
theorem i2_0_1 : allB [doK 2 (kI 1) 1 (some 0)] = true := by kernel_rfl
theorem i2_1_1 : allB [doK 2 (kI 1) 1 (some 1)] = true := by kernel_rfl
theorem i3_0_0 : allB [doK 3 (kI 1) 0 (some 0)] = true := by kernel_rfl
theorem i3_0_1 : allB [doK 3 (kI 1) 1 (some 0)] = true := by kernel_rfl
theorem i3_0_2 : allB [doK 3 (kI 1) 2 (some 0)] = true := by kernel_rfl
theorem i3_1_1 : allB [doK 3 (kI 1) 1 (some 1)] = true := by kernel_rfl
theorem i3_1_2 : allB [doK 3 (kI 1) 2 (some 1)] = true := by kernel_rfl
theorem i3_2_2 : allB [doK 3 (kI 1) 2 (some 2)] = true := by kernel_rfl
theorem i4_0_0 : allB [doK 4 (kI 1) 0 (some 0)] = true := by kernel_rfl
theorem i4_0_1 : allB [doK 4 (kI 1) 1 (some 0)] = true := by kernel_rfl
theorem i4_0_2 : allB [doK 4 (kI 1) 2 (some 0)] = true := by kernel_rfl
theorem i4_0_3 : allB [doK 4 (kI 1) 3 (some 0)] = true := by kernel_rfl
theorem i4_1_1 : allB [doK 4 (kI 1) 1 (some 1)] = true := by kernel_rfl
theorem i4_1_2 : allB [doK 4 (kI 1) 2 (some 1)] = true := by kernel_rfl
theorem i4_1_3 : allB [doK 4 (kI 1) 3 (some 1)] = true := by kernel_rfl
theorem i4_2_2 : allB [doK 4 (kI 1) 2 (some 2)] = true := by kernel_rfl
theorem i4_2_3 : allB [doK 4 (kI 1) 3 (some 2)] = true := by kernel_rfl
theorem i4_3_3 : allB [doK 4 (kI 1) 3 (some 3)] = true := by kernel_rfl
theorem i5_0_0 : allB [doK 5 (kI 1) 0 (some 0)] = true := by kernel_rfl
theorem i5_0_1 : allB [doK 5 (kI 1) 1 (some 0)] = true := by kernel_rfl
theorem i5_0_2 : allB [doK 5 (kI 1) 2 (some 0)] = true := by kernel_rfl
theorem i5_0_3 : allB [doK 5 (kI 1) 3 (some 0)] = true := by kernel_rfl
theorem i5_0_4 : allB [doK 5 (kI 1) 4 (some 0)] = true := by kernel_rfl
theorem i5_1_1 : allB [doK 5 (kI 1) 1 (some 1)] = true := by kernel_rfl
theorem i5_1_2 : allB [doK 5 (kI 1) 2 (some 1)] = true := by kernel_rfl
theorem i5_1_3 : allB [doK 5 (kI 1) 3 (some 1)] = true := by kernel_rfl
theorem i5_1_4 : allB [doK 5 (kI 1) 4 (some 1)] = true := by kernel_rfl
theorem i5_2_2 : allB [doK 5 (kI 1) 2 (some 2)] = true := by kernel_rfl
theorem i5_2_3 : allB [doK 5 (kI 1) 3 (some 2)] = true := by kernel_rfl
theorem i5_2_4 : allB [doK 5 (kI 1) 4 (some 2)] = true := by kernel_rfl
theorem i5_3_3 : allB [doK 5 (kI 1) 3 (some 3)] = true := by kernel_rfl
theorem i5_3_4 : allB [doK 5 (kI 1) 4 (some 3)] = true := by kernel_rfl
end X

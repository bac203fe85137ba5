/- Runs for the knots (printed by genK.py). -/
import Derived.Test.YtapflcgnihdmoaaGreatDoorK1
import Derived.KernelRfl
namespace X
open Go
set_option linter.unusedVariables false
theorem i5_4_4 : allB [doK 5 (kI 1) 4 (some 4)] = true := by kernel_rfl
theorem i6_0_0 : allB [doK 6 (kI 1) 0 (some 0)] = true := by kernel_rfl
theorem i6_0_1 : allB [doK 6 (kI 1) 1 (some 0)] = true := by kernel_rfl
theorem i6_0_2 : allB [doK 6 (kI 1) 2 (some 0)] = true := by kernel_rfl
theorem i6_0_3 : allB [doK 6 (kI 1) 3 (some 0)] = true := by kernel_rfl
theorem i6_0_4 : allB [doK 6 (kI 1) 4 (some 0)] = true := by kernel_rfl
theorem i6_0_5 : allB [doK 6 (kI 1) 5 (some 0)] = true := by kernel_rfl
theorem i6_1_1 : allB [doK 6 (kI 1) 1 (some 1)] = true := by kernel_rfl
theorem i6_1_2 : allB [doK 6 (kI 1) 2 (some 1)] = true := by kernel_rfl
theorem i6_1_3 : allB [doK 6 (kI 1) 3 (some 1)] = true := by kernel_rfl
theorem i6_1_4 : allB [doK 6 (kI 1) 4 (some 1)] = true := by kernel_rfl
theorem i6_1_5 : allB [doK 6 (kI 1) 5 (some 1)] = true := by kernel_rfl
theorem i6_2_2 : allB [doK 6 (kI 1) 2 (some 2)] = true := by kernel_rfl
theorem i6_2_3 : allB [doK 6 (kI 1) 3 (some 2)] = true := by kernel_rfl
theorem i6_2_4 : allB [doK 6 (kI 1) 4 (some 2)] = true := by kernel_rfl
theorem i6_2_5 : allB [doK 6 (kI 1) 5 (some 2)] = true := by kernel_rfl
theorem i6_3_3 : allB [doK 6 (kI 1) 3 (some 3)] = true := by kernel_rfl
theorem i6_3_4 : allB [doK 6 (kI 1) 4 (some 3)] = true := by kernel_rfl
theorem i6_3_5 : allB [doK 6 (kI 1) 5 (some 3)] = true := by kernel_rfl
theorem i6_4_4 : allB [doK 6 (kI 1) 4 (some 4)] = true := by kernel_rfl
theorem i6_4_5 : allB [doK 6 (kI 1) 5 (some 4)] = true := by kernel_rfl
theorem i6_5_5 : allB [doK 6 (kI 1) 5 (some 5)] = true := by kernel_rfl
theorem i7_0_0 : allB [doK 7 (kI 1) 0 (some 0)] = true := by kernel_rfl
theorem i7_0_1 : allB [doK 7 (kI 1) 1 (some 0)] = true := by kernel_rfl
theorem i7_0_2 : allB [doK 7 (kI 1) 2 (some 0)] = true := by kernel_rfl
theorem i7_0_3 : allB [doK 7 (kI 1) 3 (some 0)] = true := by kernel_rfl
theorem i7_0_4 : allB [doK 7 (kI 1) 4 (some 0)] = true := by kernel_rfl
theorem i7_0_5 : allB [doK 7 (kI 1) 5 (some 0)] = true := by kernel_rfl
end X

/- Runs for the knots (printed by genK.py). -/
import Derived.Test.YtapflcgnihdmoaaGreatDoorK1
import Derived.KernelRfl
namespace X
open Go
set_option linter.unusedVariables false
theorem i7_0_6 : allB [doK 7 (kI 1) 6 (some 0)] = true := by kernel_rfl
theorem i7_1_1 : allB [doK 7 (kI 1) 1 (some 1)] = true := by kernel_rfl
theorem i7_1_2 : allB [doK 7 (kI 1) 2 (some 1)] = true := by kernel_rfl
theorem i7_1_3 : allB [doK 7 (kI 1) 3 (some 1)] = true := by kernel_rfl
theorem i7_1_4 : allB [doK 7 (kI 1) 4 (some 1)] = true := by kernel_rfl
theorem i7_1_5 : allB [doK 7 (kI 1) 5 (some 1)] = true := by kernel_rfl
theorem i7_1_6 : allB [doK 7 (kI 1) 6 (some 1)] = true := by kernel_rfl
theorem i7_2_2 : allB [doK 7 (kI 1) 2 (some 2)] = true := by kernel_rfl
theorem i7_2_3 : allB [doK 7 (kI 1) 3 (some 2)] = true := by kernel_rfl
theorem i7_2_4 : allB [doK 7 (kI 1) 4 (some 2)] = true := by kernel_rfl
theorem i7_2_5 : allB [doK 7 (kI 1) 5 (some 2)] = true := by kernel_rfl
theorem i7_2_6 : allB [doK 7 (kI 1) 6 (some 2)] = true := by kernel_rfl
theorem i7_3_3 : allB [doK 7 (kI 1) 3 (some 3)] = true := by kernel_rfl
theorem i7_3_4 : allB [doK 7 (kI 1) 4 (some 3)] = true := by kernel_rfl
theorem i7_3_5 : allB [doK 7 (kI 1) 5 (some 3)] = true := by kernel_rfl
theorem i7_3_6 : allB [doK 7 (kI 1) 6 (some 3)] = true := by kernel_rfl
theorem i7_4_4 : allB [doK 7 (kI 1) 4 (some 4)] = true := by kernel_rfl
theorem i7_4_5 : allB [doK 7 (kI 1) 5 (some 4)] = true := by kernel_rfl
theorem i7_4_6 : allB [doK 7 (kI 1) 6 (some 4)] = true := by kernel_rfl
theorem i7_5_5 : allB [doK 7 (kI 1) 5 (some 5)] = true := by kernel_rfl
end X

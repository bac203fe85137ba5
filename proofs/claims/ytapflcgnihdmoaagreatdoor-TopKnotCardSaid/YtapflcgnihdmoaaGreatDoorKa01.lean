/- Runs for the knots (printed by genK.py). -/
import Derived.Test.YtapflcgnihdmoaaGreatDoorK1
import Derived.KernelRfl
namespace X
open Go
set_option linter.unusedVariables false
theorem g0_4_1_0 : allB ((pc59 (0, 4, 1, 0)).map run59) = true := by kernel_rfl
theorem g0_4_2_0 : allB ((pc59 (0, 4, 2, 0)).map run59) = true := by kernel_rfl
theorem g0_4_3_0 : allB ((pc59 (0, 4, 3, 0)).map run59) = true := by kernel_rfl
theorem g0_5_0_0 : allB ((pc59 (0, 5, 0, 0)).map run59) = true := by kernel_rfl
theorem g0_5_1_0 : allB ((pc59 (0, 5, 1, 0)).map run59) = true := by kernel_rfl
theorem g0_5_2_0 : allB ((pc59 (0, 5, 2, 0)).map run59) = true := by kernel_rfl
theorem g0_5_3_0 : allB ((pc59 (0, 5, 3, 0)).map run59) = true := by kernel_rfl
theorem g0_5_4_0 : allB ((pc59 (0, 5, 4, 0)).map run59) = true := by kernel_rfl
theorem g0_6_0_0 : allB ((pc59 (0, 6, 0, 0)).map run59) = true := by kernel_rfl
theorem g0_6_1_0 : allB ((pc59 (0, 6, 1, 0)).map run59) = true := by kernel_rfl
theorem g0_6_2_0 : allB ((pc59 (0, 6, 2, 0)).map run59) = true := by kernel_rfl
theorem g0_6_3_0 : allB ((pc59 (0, 6, 3, 0)).map run59) = true := by kernel_rfl
theorem g0_6_4_0 : allB ((pc59 (0, 6, 4, 0)).map run59) = true := by kernel_rfl
theorem g0_6_5_0 : allB ((pc59 (0, 6, 5, 0)).map run59) = true := by kernel_rfl
theorem g0_7_0_0 : allB ((pc59 (0, 7, 0, 0)).map run59) = true := by kernel_rfl
theorem g0_7_1_0 : allB ((pc59 (0, 7, 1, 0)).map run59) = true := by kernel_rfl
theorem g0_7_2_0 : allB ((pc59 (0, 7, 2, 0)).map run59) = true := by kernel_rfl
theorem g0_7_3_0 : allB ((pc59 (0, 7, 3, 0)).map run59) = true := by kernel_rfl
theorem g0_7_4_0 : allB ((pc59 (0, 7, 4, 0)).map run59) = true := by kernel_rfl
theorem g0_7_5_0 : allB ((pc59 (0, 7, 5, 0)).map run59) = true := by kernel_rfl
theorem g0_7_6_0 : allB ((pc59 (0, 7, 6, 0)).map run59) = true := by kernel_rfl
theorem g1_2_1_0 : allB ((pc59 (1, 2, 1, 0)).map run59) = true := by kernel_rfl
theorem g1_3_1_0 : allB ((pc59 (1, 3, 1, 0)).map run59) = true := by kernel_rfl
theorem g1_3_2_0 : allB ((pc59 (1, 3, 2, 0)).map run59) = true := by kernel_rfl
theorem g1_3_2_1 : allB ((pc59 (1, 3, 2, 1)).map run59) = true := by kernel_rfl
theorem g1_4_1_0 : allB ((pc59 (1, 4, 1, 0)).map run59) = true := by kernel_rfl
theorem g1_4_2_0 : allB ((pc59 (1, 4, 2, 0)).map run59) = true := by kernel_rfl
theorem g1_4_2_1 : allB ((pc59 (1, 4, 2, 1)).map run59) = true := by kernel_rfl
theorem g1_4_3_0 : allB ((pc59 (1, 4, 3, 0)).map run59) = true := by kernel_rfl
theorem g1_4_3_1 : allB ((pc59 (1, 4, 3, 1)).map run59) = true := by kernel_rfl
theorem g1_4_3_2 : allB ((pc59 (1, 4, 3, 2)).map run59) = true := by kernel_rfl
theorem g1_5_1_0 : allB ((pc59 (1, 5, 1, 0)).map run59) = true := by kernel_rfl
theorem g1_5_2_0 : allB ((pc59 (1, 5, 2, 0)).map run59) = true := by kernel_rfl
theorem g1_5_2_1 : allB ((pc59 (1, 5, 2, 1)).map run59) = true := by kernel_rfl
theorem g1_5_3_0 : allB ((pc59 (1, 5, 3, 0)).map run59) = true := by kernel_rfl
theorem g1_5_3_1 : allB ((pc59 (1, 5, 3, 1)).map run59) = true := by kernel_rfl
theorem g1_5_3_2 : allB ((pc59 (1, 5, 3, 2)).map run59) = true := by kernel_rfl
theorem g1_5_4_0 : allB ((pc59 (1, 5, 4, 0)).map run59) = true := by kernel_rfl
theorem g1_5_4_1 : allB ((pc59 (1, 5, 4, 1)).map run59) = true := by kernel_rfl
theorem g1_5_4_2 : allB ((pc59 (1, 5, 4, 2)).map run59) = true := by kernel_rfl
theorem g1_5_4_3 : allB ((pc59 (1, 5, 4, 3)).map run59) = true := by kernel_rfl
theorem g1_6_1_0 : allB ((pc59 (1, 6, 1, 0)).map run59) = true := by kernel_rfl
theorem g1_6_2_0 : allB ((pc59 (1, 6, 2, 0)).map run59) = true := by kernel_rfl
theorem g1_6_2_1 : allB ((pc59 (1, 6, 2, 1)).map run59) = true := by kernel_rfl
end X

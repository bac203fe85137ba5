/- Runs for the knots (printed by genK.py). -/
import Derived.Test.YtapflcgnihdmoaaGreatDoorK1
import Derived.KernelRfl
namespace X
open Go
set_option linter.unusedVariables false
theorem g1_6_3_0 : allB ((pc59 (1, 6, 3, 0)).map run59) = true := by kernel_rfl
theorem g1_6_3_1 : allB ((pc59 (1, 6, 3, 1)).map run59) = true := by kernel_rfl
theorem g1_6_3_2 : allB ((pc59 (1, 6, 3, 2)).map run59) = true := by kernel_rfl
theorem g1_6_4_0 : allB ((pc59 (1, 6, 4, 0)).map run59) = true := by kernel_rfl
theorem g1_6_4_1 : allB ((pc59 (1, 6, 4, 1)).map run59) = true := by kernel_rfl
theorem g1_6_4_2 : allB ((pc59 (1, 6, 4, 2)).map run59) = true := by kernel_rfl
theorem g1_6_4_3 : allB ((pc59 (1, 6, 4, 3)).map run59) = true := by kernel_rfl
theorem g1_6_5_0 : allB ((pc59 (1, 6, 5, 0)).map run59) = true := by kernel_rfl
theorem g1_6_5_1 : allB ((pc59 (1, 6, 5, 1)).map run59) = true := by kernel_rfl
theorem g1_6_5_2 : allB ((pc59 (1, 6, 5, 2)).map run59) = true := by kernel_rfl
theorem g1_6_5_3 : allB ((pc59 (1, 6, 5, 3)).map run59) = true := by kernel_rfl
theorem g1_6_5_4 : allB ((pc59 (1, 6, 5, 4)).map run59) = true := by kernel_rfl
theorem g1_7_1_0 : allB ((pc59 (1, 7, 1, 0)).map run59) = true := by kernel_rfl
theorem g1_7_2_0 : allB ((pc59 (1, 7, 2, 0)).map run59) = true := by kernel_rfl
theorem g1_7_2_1 : allB ((pc59 (1, 7, 2, 1)).map run59) = true := by kernel_rfl
theorem g1_7_3_0 : allB ((pc59 (1, 7, 3, 0)).map run59) = true := by kernel_rfl
theorem g1_7_3_1 : allB ((pc59 (1, 7, 3, 1)).map run59) = true := by kernel_rfl
theorem g1_7_3_2 : allB ((pc59 (1, 7, 3, 2)).map run59) = true := by kernel_rfl
theorem g1_7_4_0 : allB ((pc59 (1, 7, 4, 0)).map run59) = true := by kernel_rfl
theorem g1_7_4_1 : allB ((pc59 (1, 7, 4, 1)).map run59) = true := by kernel_rfl
theorem g1_7_4_2 : allB ((pc59 (1, 7, 4, 2)).map run59) = true := by kernel_rfl
theorem g1_7_4_3 : allB ((pc59 (1, 7, 4, 3)).map run59) = true := by kernel_rfl
theorem g1_7_5_0 : allB ((pc59 (1, 7, 5, 0)).map run59) = true := by kernel_rfl
theorem g1_7_5_1 : allB ((pc59 (1, 7, 5, 1)).map run59) = true := by kernel_rfl
theorem g1_7_5_2 : allB ((pc59 (1, 7, 5, 2)).map run59) = true := by kernel_rfl
theorem g1_7_5_3 : allB ((pc59 (1, 7, 5, 3)).map run59) = true := by kernel_rfl
theorem g1_7_5_4 : allB ((pc59 (1, 7, 5, 4)).map run59) = true := by kernel_rfl
theorem g1_7_6_0 : allB ((pc59 (1, 7, 6, 0)).map run59) = true := by kernel_rfl
end X

/- Runs for the knots (printed by genK.py). -/
import Derived.Test.YtapflcgnihdmoaaGreatDoorK1
import Derived.KernelRfl
namespace X
open Go
set_option linter.unusedVariables false
theorem g1_7_6_1 : allB ((pc59 (1, 7, 6, 1)).map run59) = true := by kernel_rfl
theorem g1_7_6_2 : allB ((pc59 (1, 7, 6, 2)).map run59) = true := by kernel_rfl
theorem g1_7_6_3 : allB ((pc59 (1, 7, 6, 3)).map run59) = true := by kernel_rfl
theorem g1_7_6_4 : allB ((pc59 (1, 7, 6, 4)).map run59) = true := by kernel_rfl
theorem g1_7_6_5 : allB ((pc59 (1, 7, 6, 5)).map run59) = true := by kernel_rfl
theorem g2_2_0_0 : allB ((pc59 (2, 2, 0, 0)).map run59) = true := by kernel_rfl
theorem g2_2_1_0 : allB ((pc59 (2, 2, 1, 0)).map run59) = true := by kernel_rfl
theorem g2_3_0_0 : allB ((pc59 (2, 3, 0, 0)).map run59) = true := by kernel_rfl
theorem g2_3_1_0 : allB ((pc59 (2, 3, 1, 0)).map run59) = true := by kernel_rfl
theorem g2_3_2_0 : allB ((pc59 (2, 3, 2, 0)).map run59) = true := by kernel_rfl
theorem g2_4_0_0 : allB ((pc59 (2, 4, 0, 0)).map run59) = true := by kernel_rfl
theorem g2_4_1_0 : allB ((pc59 (2, 4, 1, 0)).map run59) = true := by kernel_rfl
theorem g2_4_2_0 : allB ((pc59 (2, 4, 2, 0)).map run59) = true := by kernel_rfl
theorem g2_4_3_0 : allB ((pc59 (2, 4, 3, 0)).map run59) = true := by kernel_rfl
theorem g2_5_0_0 : allB ((pc59 (2, 5, 0, 0)).map run59) = true := by kernel_rfl
theorem g2_5_1_0 : allB ((pc59 (2, 5, 1, 0)).map run59) = true := by kernel_rfl
theorem g2_5_2_0 : allB ((pc59 (2, 5, 2, 0)).map run59) = true := by kernel_rfl
theorem g2_5_3_0 : allB ((pc59 (2, 5, 3, 0)).map run59) = true := by kernel_rfl
theorem g2_5_4_0 : allB ((pc59 (2, 5, 4, 0)).map run59) = true := by kernel_rfl
theorem g2_6_0_0 : allB ((pc59 (2, 6, 0, 0)).map run59) = true := by kernel_rfl
theorem g2_6_1_0 : allB ((pc59 (2, 6, 1, 0)).map run59) = true := by kernel_rfl
theorem g2_6_2_0 : allB ((pc59 (2, 6, 2, 0)).map run59) = true := by kernel_rfl
theorem g2_6_3_0 : allB ((pc59 (2, 6, 3, 0)).map run59) = true := by kernel_rfl
theorem g2_6_4_0 : allB ((pc59 (2, 6, 4, 0)).map run59) = true := by kernel_rfl
theorem g2_6_5_0 : allB ((pc59 (2, 6, 5, 0)).map run59) = true := by kernel_rfl
theorem g2_7_0_0 : allB ((pc59 (2, 7, 0, 0)).map run59) = true := by kernel_rfl
theorem g2_7_1_0 : allB ((pc59 (2, 7, 1, 0)).map run59) = true := by kernel_rfl
theorem g2_7_2_0 : allB ((pc59 (2, 7, 2, 0)).map run59) = true := by kernel_rfl
theorem g2_7_3_0 : allB ((pc59 (2, 7, 3, 0)).map run59) = true := by kernel_rfl
theorem g2_7_4_0 : allB ((pc59 (2, 7, 4, 0)).map run59) = true := by kernel_rfl
theorem g2_7_5_0 : allB ((pc59 (2, 7, 5, 0)).map run59) = true := by kernel_rfl
theorem g2_7_6_0 : allB ((pc59 (2, 7, 6, 0)).map run59) = true := by kernel_rfl
theorem g3_2_0_0 : allB ((pc59 (3, 2, 0, 0)).map run59) = true := by kernel_rfl
theorem g3_3_0_0 : allB ((pc59 (3, 3, 0, 0)).map run59) = true := by kernel_rfl
theorem g3_4_0_0 : allB ((pc59 (3, 4, 0, 0)).map run59) = true := by kernel_rfl
theorem g3_5_0_0 : allB ((pc59 (3, 5, 0, 0)).map run59) = true := by kernel_rfl
theorem g3_6_0_0 : allB ((pc59 (3, 6, 0, 0)).map run59) = true := by kernel_rfl
theorem g3_7_0_0 : allB ((pc59 (3, 7, 0, 0)).map run59) = true := by kernel_rfl
theorem g4_2_0_0 : allB ((pc59 (4, 2, 0, 0)).map run59) = true := by kernel_rfl
theorem g4_2_1_0 : allB ((pc59 (4, 2, 1, 0)).map run59) = true := by kernel_rfl
theorem g4_3_0_0 : allB ((pc59 (4, 3, 0, 0)).map run59) = true := by kernel_rfl
theorem g4_3_1_0 : allB ((pc59 (4, 3, 1, 0)).map run59) = true := by kernel_rfl
theorem g4_3_2_0 : allB ((pc59 (4, 3, 2, 0)).map run59) = true := by kernel_rfl
theorem g4_4_0_0 : allB ((pc59 (4, 4, 0, 0)).map run59) = true := by kernel_rfl
theorem g4_4_1_0 : allB ((pc59 (4, 4, 1, 0)).map run59) = true := by kernel_rfl
theorem g4_4_2_0 : allB ((pc59 (4, 4, 2, 0)).map run59) = true := by kernel_rfl
theorem g4_4_3_0 : allB ((pc59 (4, 4, 3, 0)).map run59) = true := by kernel_rfl
theorem g4_5_0_0 : allB ((pc59 (4, 5, 0, 0)).map run59) = true := by kernel_rfl
theorem g4_5_1_0 : allB ((pc59 (4, 5, 1, 0)).map run59) = true := by kernel_rfl
theorem g4_5_2_0 : allB ((pc59 (4, 5, 2, 0)).map run59) = true := by kernel_rfl
theorem g4_5_3_0 : allB ((pc59 (4, 5, 3, 0)).map run59) = true := by kernel_rfl
theorem g4_5_4_0 : allB ((pc59 (4, 5, 4, 0)).map run59) = true := by kernel_rfl
theorem g4_6_0_0 : allB ((pc59 (4, 6, 0, 0)).map run59) = true := by kernel_rfl
theorem g4_6_1_0 : allB ((pc59 (4, 6, 1, 0)).map run59) = true := by kernel_rfl
theorem g4_6_2_0 : allB ((pc59 (4, 6, 2, 0)).map run59) = true := by kernel_rfl
theorem g4_6_3_0 : allB ((pc59 (4, 6, 3, 0)).map run59) = true := by kernel_rfl
theorem g4_6_4_0 : allB ((pc59 (4, 6, 4, 0)).map run59) = true := by kernel_rfl
theorem g4_6_5_0 : allB ((pc59 (4, 6, 5, 0)).map run59) = true := by kernel_rfl
theorem g4_7_0_0 : allB ((pc59 (4, 7, 0, 0)).map run59) = true := by kernel_rfl
theorem g4_7_1_0 : allB ((pc59 (4, 7, 1, 0)).map run59) = true := by kernel_rfl
theorem g4_7_2_0 : allB ((pc59 (4, 7, 2, 0)).map run59) = true := by kernel_rfl
end X

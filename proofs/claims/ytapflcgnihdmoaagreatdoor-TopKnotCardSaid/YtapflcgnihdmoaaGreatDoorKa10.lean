/- Runs for the knots (printed by genK.py). -/
import Derived.Test.YtapflcgnihdmoaaGreatDoorK1
import Derived.KernelRfl
namespace X
open Go
set_option linter.unusedVariables false
theorem l6_0_5 : allB [freeT 6 0 5] = true := by kernel_rfl
theorem l6_0_6 : allB [freeT 6 0 6] = true := by kernel_rfl
theorem m6_0_0 : allB ((inQ 6 0 0).map (goneT 6 0 0)) = true := by kernel_rfl
theorem m6_0_1 : allB ((inQ 6 0 1).map (goneT 6 0 1)) = true := by kernel_rfl
theorem m6_0_2 : allB ((inQ 6 0 2).map (goneT 6 0 2)) = true := by kernel_rfl
theorem m6_0_3 : allB ((inQ 6 0 3).map (goneT 6 0 3)) = true := by kernel_rfl
theorem m6_0_4 : allB ((inQ 6 0 4).map (goneT 6 0 4)) = true := by kernel_rfl
theorem m6_0_5 : allB ((inQ 6 0 5).map (goneT 6 0 5)) = true := by kernel_rfl
theorem n6_0 : allB [stuckT 6 0] = true := by kernel_rfl
theorem k6_1 : allB [validT 6 1] = true := by kernel_rfl
theorem l6_1_0 : allB [freeT 6 1 0] = true := by kernel_rfl
theorem l6_1_1 : allB [freeT 6 1 1] = true := by kernel_rfl
theorem l6_1_2 : allB [freeT 6 1 2] = true := by kernel_rfl
theorem l6_1_3 : allB [freeT 6 1 3] = true := by kernel_rfl
theorem l6_1_4 : allB [freeT 6 1 4] = true := by kernel_rfl
theorem l6_1_5 : allB [freeT 6 1 5] = true := by kernel_rfl
theorem l6_1_6 : allB [freeT 6 1 6] = true := by kernel_rfl
theorem m6_1_0 : allB ((inQ 6 1 0).map (goneT 6 1 0)) = true := by kernel_rfl
theorem m6_1_1 : allB ((inQ 6 1 1).map (goneT 6 1 1)) = true := by kernel_rfl
theorem m6_1_2 : allB ((inQ 6 1 2).map (goneT 6 1 2)) = true := by kernel_rfl
theorem m6_1_3 : allB ((inQ 6 1 3).map (goneT 6 1 3)) = true := by kernel_rfl
theorem m6_1_4 : allB ((inQ 6 1 4).map (goneT 6 1 4)) = true := by kernel_rfl
theorem m6_1_5 : allB ((inQ 6 1 5).map (goneT 6 1 5)) = true := by kernel_rfl
theorem n6_1 : allB [stuckT 6 1] = true := by kernel_rfl
theorem k6_2 : allB [validT 6 2] = true := by kernel_rfl
theorem l6_2_0 : allB [freeT 6 2 0] = true := by kernel_rfl
theorem l6_2_1 : allB [freeT 6 2 1] = true := by kernel_rfl
theorem l6_2_2 : allB [freeT 6 2 2] = true := by kernel_rfl
theorem l6_2_3 : allB [freeT 6 2 3] = true := by kernel_rfl
theorem l6_2_4 : allB [freeT 6 2 4] = true := by kernel_rfl
theorem l6_2_5 : allB [freeT 6 2 5] = true := by kernel_rfl
theorem l6_2_6 : allB [freeT 6 2 6] = true := by kernel_rfl
theorem m6_2_0 : allB ((inQ 6 2 0).map (goneT 6 2 0)) = true := by kernel_rfl
theorem m6_2_1 : allB ((inQ 6 2 1).map (goneT 6 2 1)) = true := by kernel_rfl
theorem m6_2_2 : allB ((inQ 6 2 2).map (goneT 6 2 2)) = true := by kernel_rfl
theorem m6_2_3 : allB ((inQ 6 2 3).map (goneT 6 2 3)) = true := by kernel_rfl
theorem m6_2_4 : allB ((inQ 6 2 4).map (goneT 6 2 4)) = true := by kernel_rfl
theorem m6_2_5 : allB ((inQ 6 2 5).map (goneT 6 2 5)) = true := by kernel_rfl
theorem n6_2 : allB [stuckT 6 2] = true := by kernel_rfl
theorem k6_3 : allB [validT 6 3] = true := by kernel_rfl
theorem l6_3_0 : allB [freeT 6 3 0] = true := by kernel_rfl
theorem l6_3_1 : allB [freeT 6 3 1] = true := by kernel_rfl
theorem l6_3_2 : allB [freeT 6 3 2] = true := by kernel_rfl
theorem l6_3_3 : allB [freeT 6 3 3] = true := by kernel_rfl
theorem l6_3_4 : allB [freeT 6 3 4] = true := by kernel_rfl
theorem l6_3_5 : allB [freeT 6 3 5] = true := by kernel_rfl
theorem l6_3_6 : allB [freeT 6 3 6] = true := by kernel_rfl
theorem m6_3_0 : allB ((inQ 6 3 0).map (goneT 6 3 0)) = true := by kernel_rfl
theorem m6_3_1 : allB ((inQ 6 3 1).map (goneT 6 3 1)) = true := by kernel_rfl
theorem m6_3_2 : allB ((inQ 6 3 2).map (goneT 6 3 2)) = true := by kernel_rfl
theorem m6_3_3 : allB ((inQ 6 3 3).map (goneT 6 3 3)) = true := by kernel_rfl
theorem m6_3_4 : allB ((inQ 6 3 4).map (goneT 6 3 4)) = true := by kernel_rfl
theorem m6_3_5 : allB ((inQ 6 3 5).map (goneT 6 3 5)) = true := by kernel_rfl
theorem n6_3 : allB [stuckT 6 3] = true := by kernel_rfl
theorem k6_4 : allB [validT 6 4] = true := by kernel_rfl
theorem l6_4_0 : allB [freeT 6 4 0] = true := by kernel_rfl
theorem l6_4_1 : allB [freeT 6 4 1] = true := by kernel_rfl
theorem l6_4_2 : allB [freeT 6 4 2] = true := by kernel_rfl
theorem l6_4_3 : allB [freeT 6 4 3] = true := by kernel_rfl
theorem l6_4_4 : allB [freeT 6 4 4] = true := by kernel_rfl
theorem l6_4_5 : allB [freeT 6 4 5] = true := by kernel_rfl
theorem l6_4_6 : allB [freeT 6 4 6] = true := by kernel_rfl
theorem m6_4_0 : allB ((inQ 6 4 0).map (goneT 6 4 0)) = true := by kernel_rfl
theorem m6_4_1 : allB ((inQ 6 4 1).map (goneT 6 4 1)) = true := by kernel_rfl
theorem m6_4_2 : allB ((inQ 6 4 2).map (goneT 6 4 2)) = true := by kernel_rfl
theorem m6_4_3 : allB ((inQ 6 4 3).map (goneT 6 4 3)) = true := by kernel_rfl
theorem m6_4_4 : allB ((inQ 6 4 4).map (goneT 6 4 4)) = true := by kernel_rfl
theorem m6_4_5 : allB ((inQ 6 4 5).map (goneT 6 4 5)) = true := by kernel_rfl
theorem n6_4 : allB [stuckT 6 4] = true := by kernel_rfl
theorem k6_5 : allB [validT 6 5] = true := by kernel_rfl
theorem l6_5_0 : allB [freeT 6 5 0] = true := by kernel_rfl
theorem l6_5_1 : allB [freeT 6 5 1] = true := by kernel_rfl
theorem l6_5_2 : allB [freeT 6 5 2] = true := by kernel_rfl
theorem l6_5_3 : allB [freeT 6 5 3] = true := by kernel_rfl
theorem l6_5_4 : allB [freeT 6 5 4] = true := by kernel_rfl
theorem l6_5_5 : allB [freeT 6 5 5] = true := by kernel_rfl
theorem l6_5_6 : allB [freeT 6 5 6] = true := by kernel_rfl
theorem m6_5_0 : allB ((inQ 6 5 0).map (goneT 6 5 0)) = true := by kernel_rfl
theorem m6_5_1 : allB ((inQ 6 5 1).map (goneT 6 5 1)) = true := by kernel_rfl
theorem m6_5_2 : allB ((inQ 6 5 2).map (goneT 6 5 2)) = true := by kernel_rfl
theorem m6_5_3 : allB ((inQ 6 5 3).map (goneT 6 5 3)) = true := by kernel_rfl
theorem m6_5_4 : allB ((inQ 6 5 4).map (goneT 6 5 4)) = true := by kernel_rfl
theorem m6_5_5 : allB ((inQ 6 5 5).map (goneT 6 5 5)) = true := by kernel_rfl
theorem n6_5 : allB [stuckT 6 5] = true := by kernel_rfl
theorem k7_0 : allB [validT 7 0] = true := by kernel_rfl
theorem l7_0_0 : allB [freeT 7 0 0] = true := by kernel_rfl
theorem l7_0_1 : allB [freeT 7 0 1] = true := by kernel_rfl
theorem l7_0_2 : allB [freeT 7 0 2] = true := by kernel_rfl
end X

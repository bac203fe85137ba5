/- Runs for the knots (printed by genK.py). -/
import Derived.Test.YtapflcgnihdmoaaGreatDoorK1
import Derived.KernelRfl
namespace X
open Go
set_option linter.unusedVariables false
theorem l7_0_3 : allB [freeT 7 0 3] = true := by kernel_rfl
theorem l7_0_4 : allB [freeT 7 0 4] = true := by kernel_rfl
theorem l7_0_5 : allB [freeT 7 0 5] = true := by kernel_rfl
theorem l7_0_6 : allB [freeT 7 0 6] = true := by kernel_rfl
theorem l7_0_7 : allB [freeT 7 0 7] = true := by kernel_rfl
theorem m7_0_0 : allB ((inQ 7 0 0).map (goneT 7 0 0)) = true := by kernel_rfl
theorem m7_0_1 : allB ((inQ 7 0 1).map (goneT 7 0 1)) = true := by kernel_rfl
theorem m7_0_2 : allB ((inQ 7 0 2).map (goneT 7 0 2)) = true := by kernel_rfl
theorem m7_0_3 : allB ((inQ 7 0 3).map (goneT 7 0 3)) = true := by kernel_rfl
theorem m7_0_4 : allB ((inQ 7 0 4).map (goneT 7 0 4)) = true := by kernel_rfl
theorem m7_0_5 : allB ((inQ 7 0 5).map (goneT 7 0 5)) = true := by kernel_rfl
theorem m7_0_6 : allB ((inQ 7 0 6).map (goneT 7 0 6)) = true := by kernel_rfl
theorem n7_0 : allB [stuckT 7 0] = true := by kernel_rfl
theorem k7_1 : allB [validT 7 1] = true := by kernel_rfl
theorem l7_1_0 : allB [freeT 7 1 0] = true := by kernel_rfl
theorem l7_1_1 : allB [freeT 7 1 1] = true := by kernel_rfl
theorem l7_1_2 : allB [freeT 7 1 2] = true := by kernel_rfl
theorem l7_1_3 : allB [freeT 7 1 3] = true := by kernel_rfl
theorem l7_1_4 : allB [freeT 7 1 4] = true := by kernel_rfl
theorem l7_1_5 : allB [freeT 7 1 5] = true := by kernel_rfl
theorem l7_1_6 : allB [freeT 7 1 6] = true := by kernel_rfl
theorem l7_1_7 : allB [freeT 7 1 7] = true := by kernel_rfl
theorem m7_1_0 : allB ((inQ 7 1 0).map (goneT 7 1 0)) = true := by kernel_rfl
theorem m7_1_1 : allB ((inQ 7 1 1).map (goneT 7 1 1)) = true := by kernel_rfl
theorem m7_1_2 : allB ((inQ 7 1 2).map (goneT 7 1 2)) = true := by kernel_rfl
theorem m7_1_3 : allB ((inQ 7 1 3).map (goneT 7 1 3)) = true := by kernel_rfl
theorem m7_1_4 : allB ((inQ 7 1 4).map (goneT 7 1 4)) = true := by kernel_rfl
theorem m7_1_5 : allB ((inQ 7 1 5).map (goneT 7 1 5)) = true := by kernel_rfl
theorem m7_1_6 : allB ((inQ 7 1 6).map (goneT 7 1 6)) = true := by kernel_rfl
theorem n7_1 : allB [stuckT 7 1] = true := by kernel_rfl
theorem k7_2 : allB [validT 7 2] = true := by kernel_rfl
theorem l7_2_0 : allB [freeT 7 2 0] = true := by kernel_rfl
theorem l7_2_1 : allB [freeT 7 2 1] = true := by kernel_rfl
theorem l7_2_2 : allB [freeT 7 2 2] = true := by kernel_rfl
theorem l7_2_3 : allB [freeT 7 2 3] = true := by kernel_rfl
theorem l7_2_4 : allB [freeT 7 2 4] = true := by kernel_rfl
theorem l7_2_5 : allB [freeT 7 2 5] = true := by kernel_rfl
theorem l7_2_6 : allB [freeT 7 2 6] = true := by kernel_rfl
theorem l7_2_7 : allB [freeT 7 2 7] = true := by kernel_rfl
theorem m7_2_0 : allB ((inQ 7 2 0).map (goneT 7 2 0)) = true := by kernel_rfl
theorem m7_2_1 : allB ((inQ 7 2 1).map (goneT 7 2 1)) = true := by kernel_rfl
theorem m7_2_2 : allB ((inQ 7 2 2).map (goneT 7 2 2)) = true := by kernel_rfl
theorem m7_2_3 : allB ((inQ 7 2 3).map (goneT 7 2 3)) = true := by kernel_rfl
theorem m7_2_4 : allB ((inQ 7 2 4).map (goneT 7 2 4)) = true := by kernel_rfl
theorem m7_2_5 : allB ((inQ 7 2 5).map (goneT 7 2 5)) = true := by kernel_rfl
theorem m7_2_6 : allB ((inQ 7 2 6).map (goneT 7 2 6)) = true := by kernel_rfl
theorem n7_2 : allB [stuckT 7 2] = true := by kernel_rfl
theorem k7_3 : allB [validT 7 3] = true := by kernel_rfl
theorem l7_3_0 : allB [freeT 7 3 0] = true := by kernel_rfl
theorem l7_3_1 : allB [freeT 7 3 1] = true := by kernel_rfl
theorem l7_3_2 : allB [freeT 7 3 2] = true := by kernel_rfl
theorem l7_3_3 : allB [freeT 7 3 3] = true := by kernel_rfl
theorem l7_3_4 : allB [freeT 7 3 4] = true := by kernel_rfl
theorem l7_3_5 : allB [freeT 7 3 5] = true := by kernel_rfl
theorem l7_3_6 : allB [freeT 7 3 6] = true := by kernel_rfl
theorem l7_3_7 : allB [freeT 7 3 7] = true := by kernel_rfl
theorem m7_3_0 : allB ((inQ 7 3 0).map (goneT 7 3 0)) = true := by kernel_rfl
theorem m7_3_1 : allB ((inQ 7 3 1).map (goneT 7 3 1)) = true := by kernel_rfl
theorem m7_3_2 : allB ((inQ 7 3 2).map (goneT 7 3 2)) = true := by kernel_rfl
theorem m7_3_3 : allB ((inQ 7 3 3).map (goneT 7 3 3)) = true := by kernel_rfl
theorem m7_3_4 : allB ((inQ 7 3 4).map (goneT 7 3 4)) = true := by kernel_rfl
theorem m7_3_5 : allB ((inQ 7 3 5).map (goneT 7 3 5)) = true := by kernel_rfl
theorem m7_3_6 : allB ((inQ 7 3 6).map (goneT 7 3 6)) = true := by kernel_rfl
theorem n7_3 : allB [stuckT 7 3] = true := by kernel_rfl
end X

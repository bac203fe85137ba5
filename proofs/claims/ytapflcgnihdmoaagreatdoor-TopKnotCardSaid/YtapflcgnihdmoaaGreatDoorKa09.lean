/- Runs for the knots (printed by genK.py). -/
import Derived.Test.YtapflcgnihdmoaaGreatDoorK1
import Derived.KernelRfl
namespace X
open Go
set_option linter.unusedVariables false
theorem j2 : allB [stuckS 2 .y] = true := by kernel_rfl
theorem j3 : allB [stuckS 3 .y] = true := by kernel_rfl
theorem j4 : allB [stuckS 4 .y] = true := by kernel_rfl
theorem j5 : allB [stuckS 5 .y] = true := by kernel_rfl
theorem j6 : allB [stuckS 6 .y] = true := by kernel_rfl
theorem j7 : allB [stuckS 7 .y] = true := by kernel_rfl
theorem k2_0 : allB [validT 2 0] = true := by kernel_rfl
theorem l2_0_0 : allB [freeT 2 0 0] = true := by kernel_rfl
theorem l2_0_1 : allB [freeT 2 0 1] = true := by kernel_rfl
theorem l2_0_2 : allB [freeT 2 0 2] = true := by kernel_rfl
theorem m2_0_0 : allB ((inQ 2 0 0).map (goneT 2 0 0)) = true := by kernel_rfl
theorem m2_0_1 : allB ((inQ 2 0 1).map (goneT 2 0 1)) = true := by kernel_rfl
theorem n2_0 : allB [stuckT 2 0] = true := by kernel_rfl
theorem k2_1 : allB [validT 2 1] = true := by kernel_rfl
theorem l2_1_0 : allB [freeT 2 1 0] = true := by kernel_rfl
theorem l2_1_1 : allB [freeT 2 1 1] = true := by kernel_rfl
theorem l2_1_2 : allB [freeT 2 1 2] = true := by kernel_rfl
theorem m2_1_0 : allB ((inQ 2 1 0).map (goneT 2 1 0)) = true := by kernel_rfl
theorem m2_1_1 : allB ((inQ 2 1 1).map (goneT 2 1 1)) = true := by kernel_rfl
theorem n2_1 : allB [stuckT 2 1] = true := by kernel_rfl
theorem k3_0 : allB [validT 3 0] = true := by kernel_rfl
theorem l3_0_0 : allB [freeT 3 0 0] = true := by kernel_rfl
theorem l3_0_1 : allB [freeT 3 0 1] = true := by kernel_rfl
theorem l3_0_2 : allB [freeT 3 0 2] = true := by kernel_rfl
theorem l3_0_3 : allB [freeT 3 0 3] = true := by kernel_rfl
theorem m3_0_0 : allB ((inQ 3 0 0).map (goneT 3 0 0)) = true := by kernel_rfl
theorem m3_0_1 : allB ((inQ 3 0 1).map (goneT 3 0 1)) = true := by kernel_rfl
theorem m3_0_2 : allB ((inQ 3 0 2).map (goneT 3 0 2)) = true := by kernel_rfl
theorem n3_0 : allB [stuckT 3 0] = true := by kernel_rfl
theorem k3_1 : allB [validT 3 1] = true := by kernel_rfl
theorem l3_1_0 : allB [freeT 3 1 0] = true := by kernel_rfl
theorem l3_1_1 : allB [freeT 3 1 1] = true := by kernel_rfl
theorem l3_1_2 : allB [freeT 3 1 2] = true := by kernel_rfl
theorem l3_1_3 : allB [freeT 3 1 3] = true := by kernel_rfl
theorem m3_1_0 : allB ((inQ 3 1 0).map (goneT 3 1 0)) = true := by kernel_rfl
theorem m3_1_1 : allB ((inQ 3 1 1).map (goneT 3 1 1)) = true := by kernel_rfl
theorem m3_1_2 : allB ((inQ 3 1 2).map (goneT 3 1 2)) = true := by kernel_rfl
theorem n3_1 : allB [stuckT 3 1] = true := by kernel_rfl
theorem k3_2 : allB [validT 3 2] = true := by kernel_rfl
theorem l3_2_0 : allB [freeT 3 2 0] = true := by kernel_rfl
theorem l3_2_1 : allB [freeT 3 2 1] = true := by kernel_rfl
theorem l3_2_2 : allB [freeT 3 2 2] = true := by kernel_rfl
theorem l3_2_3 : allB [freeT 3 2 3] = true := by kernel_rfl
theorem m3_2_0 : allB ((inQ 3 2 0).map (goneT 3 2 0)) = true := by kernel_rfl
theorem m3_2_1 : allB ((inQ 3 2 1).map (goneT 3 2 1)) = true := by kernel_rfl
theorem m3_2_2 : allB ((inQ 3 2 2).map (goneT 3 2 2)) = true := by kernel_rfl
theorem n3_2 : allB [stuckT 3 2] = true := by kernel_rfl
theorem k4_0 : allB [validT 4 0] = true := by kernel_rfl
theorem l4_0_0 : allB [freeT 4 0 0] = true := by kernel_rfl
theorem l4_0_1 : allB [freeT 4 0 1] = true := by kernel_rfl
theorem l4_0_2 : allB [freeT 4 0 2] = true := by kernel_rfl
theorem l4_0_3 : allB [freeT 4 0 3] = true := by kernel_rfl
theorem l4_0_4 : allB [freeT 4 0 4] = true := by kernel_rfl
theorem m4_0_0 : allB ((inQ 4 0 0).map (goneT 4 0 0)) = true := by kernel_rfl
theorem m4_0_1 : allB ((inQ 4 0 1).map (goneT 4 0 1)) = true := by kernel_rfl
theorem m4_0_2 : allB ((inQ 4 0 2).map (goneT 4 0 2)) = true := by kernel_rfl
theorem m4_0_3 : allB ((inQ 4 0 3).map (goneT 4 0 3)) = true := by kernel_rfl
theorem n4_0 : allB [stuckT 4 0] = true := by kernel_rfl
theorem k4_1 : allB [validT 4 1] = true := by kernel_rfl
theorem l4_1_0 : allB [freeT 4 1 0] = true := by kernel_rfl
theorem l4_1_1 : allB [freeT 4 1 1] = true := by kernel_rfl
theorem l4_1_2 : allB [freeT 4 1 2] = true := by kernel_rfl
theorem l4_1_3 : allB [freeT 4 1 3] = true := by kernel_rfl
theorem l4_1_4 : allB [freeT 4 1 4] = true := by kernel_rfl
theorem m4_1_0 : allB ((inQ 4 1 0).map (goneT 4 1 0)) = true := by kernel_rfl
theorem m4_1_1 : allB ((inQ 4 1 1).map (goneT 4 1 1)) = true := by kernel_rfl
theorem m4_1_2 : allB ((inQ 4 1 2).map (goneT 4 1 2)) = true := by kernel_rfl
theorem m4_1_3 : allB ((inQ 4 1 3).map (goneT 4 1 3)) = true := by kernel_rfl
theorem n4_1 : allB [stuckT 4 1] = true := by kernel_rfl
theorem k4_2 : allB [validT 4 2] = true := by kernel_rfl
theorem l4_2_0 : allB [freeT 4 2 0] = true := by kernel_rfl
theorem l4_2_1 : allB [freeT 4 2 1] = true := by kernel_rfl
theorem l4_2_2 : allB [freeT 4 2 2] = true := by kernel_rfl
theorem l4_2_3 : allB [freeT 4 2 3] = true := by kernel_rfl
theorem l4_2_4 : allB [freeT 4 2 4] = true := by kernel_rfl
theorem m4_2_0 : allB ((inQ 4 2 0).map (goneT 4 2 0)) = true := by kernel_rfl
theorem m4_2_1 : allB ((inQ 4 2 1).map (goneT 4 2 1)) = true := by kernel_rfl
theorem m4_2_2 : allB ((inQ 4 2 2).map (goneT 4 2 2)) = true := by kernel_rfl
theorem m4_2_3 : allB ((inQ 4 2 3).map (goneT 4 2 3)) = true := by kernel_rfl
theorem n4_2 : allB [stuckT 4 2] = true := by kernel_rfl
theorem k4_3 : allB [validT 4 3] = true := by kernel_rfl
theorem l4_3_0 : allB [freeT 4 3 0] = true := by kernel_rfl
theorem l4_3_1 : allB [freeT 4 3 1] = true := by kernel_rfl
theorem l4_3_2 : allB [freeT 4 3 2] = true := by kernel_rfl
theorem l4_3_3 : allB [freeT 4 3 3] = true := by kernel_rfl
theorem l4_3_4 : allB [freeT 4 3 4] = true := by kernel_rfl
theorem m4_3_0 : allB ((inQ 4 3 0).map (goneT 4 3 0)) = true := by kernel_rfl
theorem m4_3_1 : allB ((inQ 4 3 1).map (goneT 4 3 1)) = true := by kernel_rfl
theorem m4_3_2 : allB ((inQ 4 3 2).map (goneT 4 3 2)) = true := by kernel_rfl
theorem m4_3_3 : allB ((inQ 4 3 3).map (goneT 4 3 3)) = true := by kernel_rfl
theorem n4_3 : allB [stuckT 4 3] = true := by kernel_rfl
theorem k5_0 : allB [validT 5 0] = true := by kernel_rfl
theorem l5_0_0 : allB [freeT 5 0 0] = true := by kernel_rfl
theorem l5_0_1 : allB [freeT 5 0 1] = true := by kernel_rfl
theorem l5_0_2 : allB [freeT 5 0 2] = true := by kernel_rfl
theorem l5_0_3 : allB [freeT 5 0 3] = true := by kernel_rfl
theorem l5_0_4 : allB [freeT 5 0 4] = true := by kernel_rfl
theorem l5_0_5 : allB [freeT 5 0 5] = true := by kernel_rfl
theorem m5_0_0 : allB ((inQ 5 0 0).map (goneT 5 0 0)) = true := by kernel_rfl
theorem m5_0_1 : allB ((inQ 5 0 1).map (goneT 5 0 1)) = true := by kernel_rfl
theorem m5_0_2 : allB ((inQ 5 0 2).map (goneT 5 0 2)) = true := by kernel_rfl
theorem m5_0_3 : allB ((inQ 5 0 3).map (goneT 5 0 3)) = true := by kernel_rfl
theorem m5_0_4 : allB ((inQ 5 0 4).map (goneT 5 0 4)) = true := by kernel_rfl
theorem n5_0 : allB [stuckT 5 0] = true := by kernel_rfl
theorem k5_1 : allB [validT 5 1] = true := by kernel_rfl
theorem l5_1_0 : allB [freeT 5 1 0] = true := by kernel_rfl
theorem l5_1_1 : allB [freeT 5 1 1] = true := by kernel_rfl
theorem l5_1_2 : allB [freeT 5 1 2] = true := by kernel_rfl
theorem l5_1_3 : allB [freeT 5 1 3] = true := by kernel_rfl
theorem l5_1_4 : allB [freeT 5 1 4] = true := by kernel_rfl
theorem l5_1_5 : allB [freeT 5 1 5] = true := by kernel_rfl
theorem m5_1_0 : allB ((inQ 5 1 0).map (goneT 5 1 0)) = true := by kernel_rfl
theorem m5_1_1 : allB ((inQ 5 1 1).map (goneT 5 1 1)) = true := by kernel_rfl
theorem m5_1_2 : allB ((inQ 5 1 2).map (goneT 5 1 2)) = true := by kernel_rfl
theorem m5_1_3 : allB ((inQ 5 1 3).map (goneT 5 1 3)) = true := by kernel_rfl
theorem m5_1_4 : allB ((inQ 5 1 4).map (goneT 5 1 4)) = true := by kernel_rfl
theorem n5_1 : allB [stuckT 5 1] = true := by kernel_rfl
theorem k5_2 : allB [validT 5 2] = true := by kernel_rfl
theorem l5_2_0 : allB [freeT 5 2 0] = true := by kernel_rfl
theorem l5_2_1 : allB [freeT 5 2 1] = true := by kernel_rfl
theorem l5_2_2 : allB [freeT 5 2 2] = true := by kernel_rfl
theorem l5_2_3 : allB [freeT 5 2 3] = true := by kernel_rfl
theorem l5_2_4 : allB [freeT 5 2 4] = true := by kernel_rfl
theorem l5_2_5 : allB [freeT 5 2 5] = true := by kernel_rfl
theorem m5_2_0 : allB ((inQ 5 2 0).map (goneT 5 2 0)) = true := by kernel_rfl
theorem m5_2_1 : allB ((inQ 5 2 1).map (goneT 5 2 1)) = true := by kernel_rfl
theorem m5_2_2 : allB ((inQ 5 2 2).map (goneT 5 2 2)) = true := by kernel_rfl
theorem m5_2_3 : allB ((inQ 5 2 3).map (goneT 5 2 3)) = true := by kernel_rfl
theorem m5_2_4 : allB ((inQ 5 2 4).map (goneT 5 2 4)) = true := by kernel_rfl
theorem n5_2 : allB [stuckT 5 2] = true := by kernel_rfl
theorem k5_3 : allB [validT 5 3] = true := by kernel_rfl
theorem l5_3_0 : allB [freeT 5 3 0] = true := by kernel_rfl
theorem l5_3_1 : allB [freeT 5 3 1] = true := by kernel_rfl
theorem l5_3_2 : allB [freeT 5 3 2] = true := by kernel_rfl
theorem l5_3_3 : allB [freeT 5 3 3] = true := by kernel_rfl
theorem l5_3_4 : allB [freeT 5 3 4] = true := by kernel_rfl
theorem l5_3_5 : allB [freeT 5 3 5] = true := by kernel_rfl
theorem m5_3_0 : allB ((inQ 5 3 0).map (goneT 5 3 0)) = true := by kernel_rfl
theorem m5_3_1 : allB ((inQ 5 3 1).map (goneT 5 3 1)) = true := by kernel_rfl
theorem m5_3_2 : allB ((inQ 5 3 2).map (goneT 5 3 2)) = true := by kernel_rfl
theorem m5_3_3 : allB ((inQ 5 3 3).map (goneT 5 3 3)) = true := by kernel_rfl
theorem m5_3_4 : allB ((inQ 5 3 4).map (goneT 5 3 4)) = true := by kernel_rfl
theorem n5_3 : allB [stuckT 5 3] = true := by kernel_rfl
theorem k5_4 : allB [validT 5 4] = true := by kernel_rfl
theorem l5_4_0 : allB [freeT 5 4 0] = true := by kernel_rfl
theorem l5_4_1 : allB [freeT 5 4 1] = true := by kernel_rfl
theorem l5_4_2 : allB [freeT 5 4 2] = true := by kernel_rfl
theorem l5_4_3 : allB [freeT 5 4 3] = true := by kernel_rfl
theorem l5_4_4 : allB [freeT 5 4 4] = true := by kernel_rfl
theorem l5_4_5 : allB [freeT 5 4 5] = true := by kernel_rfl
theorem m5_4_0 : allB ((inQ 5 4 0).map (goneT 5 4 0)) = true := by kernel_rfl
theorem m5_4_1 : allB ((inQ 5 4 1).map (goneT 5 4 1)) = true := by kernel_rfl
theorem m5_4_2 : allB ((inQ 5 4 2).map (goneT 5 4 2)) = true := by kernel_rfl
theorem m5_4_3 : allB ((inQ 5 4 3).map (goneT 5 4 3)) = true := by kernel_rfl
theorem m5_4_4 : allB ((inQ 5 4 4).map (goneT 5 4 4)) = true := by kernel_rfl
theorem n5_4 : allB [stuckT 5 4] = true := by kernel_rfl
theorem k6_0 : allB [validT 6 0] = true := by kernel_rfl
theorem l6_0_0 : allB [freeT 6 0 0] = true := by kernel_rfl
theorem l6_0_1 : allB [freeT 6 0 1] = true := by kernel_rfl
theorem l6_0_2 : allB [freeT 6 0 2] = true := by kernel_rfl
theorem l6_0_3 : allB [freeT 6 0 3] = true := by kernel_rfl
theorem l6_0_4 : allB [freeT 6 0 4] = true := by kernel_rfl
end X

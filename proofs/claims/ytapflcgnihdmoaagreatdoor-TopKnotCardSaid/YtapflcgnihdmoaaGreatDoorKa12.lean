/- Runs for the knots (printed by genK.py). -/
import Derived.Test.YtapflcgnihdmoaaGreatDoorK1
import Derived.KernelRfl
namespace X
open Go
set_option linter.unusedVariables false
theorem k7_4 : allB [validT 7 4] = true := by kernel_rfl
theorem l7_4_0 : allB [freeT 7 4 0] = true := by kernel_rfl
theorem l7_4_1 : allB [freeT 7 4 1] = true := by kernel_rfl
theorem l7_4_2 : allB [freeT 7 4 2] = true := by kernel_rfl
theorem l7_4_3 : allB [freeT 7 4 3] = true := by kernel_rfl
theorem l7_4_4 : allB [freeT 7 4 4] = true := by kernel_rfl
theorem l7_4_5 : allB [freeT 7 4 5] = true := by kernel_rfl
theorem l7_4_6 : allB [freeT 7 4 6] = true := by kernel_rfl
theorem l7_4_7 : allB [freeT 7 4 7] = true := by kernel_rfl
theorem m7_4_0 : allB ((inQ 7 4 0).map (goneT 7 4 0)) = true := by kernel_rfl
theorem m7_4_1 : allB ((inQ 7 4 1).map (goneT 7 4 1)) = true := by kernel_rfl
theorem m7_4_2 : allB ((inQ 7 4 2).map (goneT 7 4 2)) = true := by kernel_rfl
theorem m7_4_3 : allB ((inQ 7 4 3).map (goneT 7 4 3)) = true := by kernel_rfl
theorem m7_4_4 : allB ((inQ 7 4 4).map (goneT 7 4 4)) = true := by kernel_rfl
theorem m7_4_5 : allB ((inQ 7 4 5).map (goneT 7 4 5)) = true := by kernel_rfl
theorem m7_4_6 : allB ((inQ 7 4 6).map (goneT 7 4 6)) = true := by kernel_rfl
theorem n7_4 : allB [stuckT 7 4] = true := by kernel_rfl
theorem k7_5 : allB [validT 7 5] = true := by kernel_rfl
theorem l7_5_0 : allB [freeT 7 5 0] = true := by kernel_rfl
theorem l7_5_1 : allB [freeT 7 5 1] = true := by kernel_rfl
theorem l7_5_2 : allB [freeT 7 5 2] = true := by kernel_rfl
theorem l7_5_3 : allB [freeT 7 5 3] = true := by kernel_rfl
theorem l7_5_4 : allB [freeT 7 5 4] = true := by kernel_rfl
theorem l7_5_5 : allB [freeT 7 5 5] = true := by kernel_rfl
theorem l7_5_6 : allB [freeT 7 5 6] = true := by kernel_rfl
theorem l7_5_7 : allB [freeT 7 5 7] = true := by kernel_rfl
theorem m7_5_0 : allB ((inQ 7 5 0).map (goneT 7 5 0)) = true := by kernel_rfl
theorem m7_5_1 : allB ((inQ 7 5 1).map (goneT 7 5 1)) = true := by kernel_rfl
theorem m7_5_2 : allB ((inQ 7 5 2).map (goneT 7 5 2)) = true := by kernel_rfl
theorem m7_5_3 : allB ((inQ 7 5 3).map (goneT 7 5 3)) = true := by kernel_rfl
theorem m7_5_4 : allB ((inQ 7 5 4).map (goneT 7 5 4)) = true := by kernel_rfl
theorem m7_5_5 : allB ((inQ 7 5 5).map (goneT 7 5 5)) = true := by kernel_rfl
theorem m7_5_6 : allB ((inQ 7 5 6).map (goneT 7 5 6)) = true := by kernel_rfl
theorem n7_5 : allB [stuckT 7 5] = true := by kernel_rfl
theorem k7_6 : allB [validT 7 6] = true := by kernel_rfl
theorem l7_6_0 : allB [freeT 7 6 0] = true := by kernel_rfl
theorem l7_6_1 : allB [freeT 7 6 1] = true := by kernel_rfl
theorem l7_6_2 : allB [freeT 7 6 2] = true := by kernel_rfl
theorem l7_6_3 : allB [freeT 7 6 3] = true := by kernel_rfl
theorem l7_6_4 : allB [freeT 7 6 4] = true := by kernel_rfl
theorem l7_6_5 : allB [freeT 7 6 5] = true := by kernel_rfl
theorem l7_6_6 : allB [freeT 7 6 6] = true := by kernel_rfl
theorem l7_6_7 : allB [freeT 7 6 7] = true := by kernel_rfl
theorem m7_6_0 : allB ((inQ 7 6 0).map (goneT 7 6 0)) = true := by kernel_rfl
theorem m7_6_1 : allB ((inQ 7 6 1).map (goneT 7 6 1)) = true := by kernel_rfl
theorem m7_6_2 : allB ((inQ 7 6 2).map (goneT 7 6 2)) = true := by kernel_rfl
theorem m7_6_3 : allB ((inQ 7 6 3).map (goneT 7 6 3)) = true := by kernel_rfl
theorem m7_6_4 : allB ((inQ 7 6 4).map (goneT 7 6 4)) = true := by kernel_rfl
theorem m7_6_5 : allB ((inQ 7 6 5).map (goneT 7 6 5)) = true := by kernel_rfl
theorem m7_6_6 : allB ((inQ 7 6 6).map (goneT 7 6 6)) = true := by kernel_rfl
theorem n7_6 : allB [stuckT 7 6] = true := by kernel_rfl
end X

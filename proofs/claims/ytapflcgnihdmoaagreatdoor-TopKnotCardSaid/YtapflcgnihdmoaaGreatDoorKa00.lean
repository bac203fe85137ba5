/- Runs for the knots (printed by genK.py). -/
import Derived.Test.YtapflcgnihdmoaaGreatDoorK1
import Derived.KernelRfl
namespace X
open Go
set_option linter.unusedVariables false
theorem a0_0 : allB ((pc93 (0, 0)).map run93) = true := by kernel_rfl
theorem a0_1 : allB ((pc93 (0, 1)).map run93) = true := by kernel_rfl
theorem a0_2 : allB ((pc93 (0, 2)).map run93) = true := by kernel_rfl
theorem a0_3 : allB ((pc93 (0, 3)).map run93) = true := by kernel_rfl
theorem a0_4 : allB ((pc93 (0, 4)).map run93) = true := by kernel_rfl
theorem a0_5 : allB ((pc93 (0, 5)).map run93) = true := by kernel_rfl
theorem a0_6 : allB ((pc93 (0, 6)).map run93) = true := by kernel_rfl
theorem a1_1 : allB ((pc93 (1, 1)).map run93) = true := by kernel_rfl
theorem a1_2 : allB ((pc93 (1, 2)).map run93) = true := by kernel_rfl
theorem a1_3 : allB ((pc93 (1, 3)).map run93) = true := by kernel_rfl
theorem a1_4 : allB ((pc93 (1, 4)).map run93) = true := by kernel_rfl
theorem a1_5 : allB ((pc93 (1, 5)).map run93) = true := by kernel_rfl
theorem a1_6 : allB ((pc93 (1, 6)).map run93) = true := by kernel_rfl
theorem a2_0 : allB ((pc93 (2, 0)).map run93) = true := by kernel_rfl
theorem a2_2 : allB ((pc93 (2, 2)).map run93) = true := by kernel_rfl
theorem a2_3 : allB ((pc93 (2, 3)).map run93) = true := by kernel_rfl
theorem a2_4 : allB ((pc93 (2, 4)).map run93) = true := by kernel_rfl
theorem a2_5 : allB ((pc93 (2, 5)).map run93) = true := by kernel_rfl
theorem a2_6 : allB ((pc93 (2, 6)).map run93) = true := by kernel_rfl
theorem a3_0 : allB ((pc93 (3, 0)).map run93) = true := by kernel_rfl
theorem a3_1 : allB ((pc93 (3, 1)).map run93) = true := by kernel_rfl
theorem a3_3 : allB ((pc93 (3, 3)).map run93) = true := by kernel_rfl
theorem a3_4 : allB ((pc93 (3, 4)).map run93) = true := by kernel_rfl
theorem a3_5 : allB ((pc93 (3, 5)).map run93) = true := by kernel_rfl
theorem a3_6 : allB ((pc93 (3, 6)).map run93) = true := by kernel_rfl
theorem a4_0 : allB ((pc93 (4, 0)).map run93) = true := by kernel_rfl
theorem a4_1 : allB ((pc93 (4, 1)).map run93) = true := by kernel_rfl
theorem a4_2 : allB ((pc93 (4, 2)).map run93) = true := by kernel_rfl
theorem a4_4 : allB ((pc93 (4, 4)).map run93) = true := by kernel_rfl
theorem a4_5 : allB ((pc93 (4, 5)).map run93) = true := by kernel_rfl
theorem a4_6 : allB ((pc93 (4, 6)).map run93) = true := by kernel_rfl
theorem a5_0 : allB ((pc93 (5, 0)).map run93) = true := by kernel_rfl
theorem a5_1 : allB ((pc93 (5, 1)).map run93) = true := by kernel_rfl
theorem a5_2 : allB ((pc93 (5, 2)).map run93) = true := by kernel_rfl
theorem a5_3 : allB ((pc93 (5, 3)).map run93) = true := by kernel_rfl
theorem a5_5 : allB ((pc93 (5, 5)).map run93) = true := by kernel_rfl
theorem a5_6 : allB ((pc93 (5, 6)).map run93) = true := by kernel_rfl
theorem a6_0 : allB ((pc93 (6, 0)).map run93) = true := by kernel_rfl
theorem a6_1 : allB ((pc93 (6, 1)).map run93) = true := by kernel_rfl
theorem a6_2 : allB ((pc93 (6, 2)).map run93) = true := by kernel_rfl
theorem a6_3 : allB ((pc93 (6, 3)).map run93) = true := by kernel_rfl
theorem a6_4 : allB ((pc93 (6, 4)).map run93) = true := by kernel_rfl
theorem a6_6 : allB ((pc93 (6, 6)).map run93) = true := by kernel_rfl
theorem a7_0 : allB ((pc93 (7, 0)).map run93) = true := by kernel_rfl
theorem a7_1 : allB ((pc93 (7, 1)).map run93) = true := by kernel_rfl
theorem a7_2 : allB ((pc93 (7, 2)).map run93) = true := by kernel_rfl
theorem a7_3 : allB ((pc93 (7, 3)).map run93) = true := by kernel_rfl
theorem a7_4 : allB ((pc93 (7, 4)).map run93) = true := by kernel_rfl
theorem a7_5 : allB ((pc93 (7, 5)).map run93) = true := by kernel_rfl
theorem a8_0 : allB ((pc93 (8, 0)).map run93) = true := by kernel_rfl
theorem a8_1 : allB ((pc93 (8, 1)).map run93) = true := by kernel_rfl
theorem a8_2 : allB ((pc93 (8, 2)).map run93) = true := by kernel_rfl
theorem a8_3 : allB ((pc93 (8, 3)).map run93) = true := by kernel_rfl
theorem a8_4 : allB ((pc93 (8, 4)).map run93) = true := by kernel_rfl
theorem a8_5 : allB ((pc93 (8, 5)).map run93) = true := by kernel_rfl
theorem a8_6 : allB ((pc93 (8, 6)).map run93) = true := by kernel_rfl
theorem a9_0 : allB ((pc93 (9, 0)).map run93) = true := by kernel_rfl
theorem b0_0 : allB ((pc93 (0, 0)).map run113) = true := by kernel_rfl
theorem b0_1 : allB ((pc93 (0, 1)).map run113) = true := by kernel_rfl
theorem b0_2 : allB ((pc93 (0, 2)).map run113) = true := by kernel_rfl
theorem b0_3 : allB ((pc93 (0, 3)).map run113) = true := by kernel_rfl
theorem b0_4 : allB ((pc93 (0, 4)).map run113) = true := by kernel_rfl
theorem b0_5 : allB ((pc93 (0, 5)).map run113) = true := by kernel_rfl
theorem b0_6 : allB ((pc93 (0, 6)).map run113) = true := by kernel_rfl
theorem b1_1 : allB ((pc93 (1, 1)).map run113) = true := by kernel_rfl
theorem b1_2 : allB ((pc93 (1, 2)).map run113) = true := by kernel_rfl
theorem b1_3 : allB ((pc93 (1, 3)).map run113) = true := by kernel_rfl
theorem b1_4 : allB ((pc93 (1, 4)).map run113) = true := by kernel_rfl
theorem b1_5 : allB ((pc93 (1, 5)).map run113) = true := by kernel_rfl
theorem b1_6 : allB ((pc93 (1, 6)).map run113) = true := by kernel_rfl
theorem b2_0 : allB ((pc93 (2, 0)).map run113) = true := by kernel_rfl
theorem b2_2 : allB ((pc93 (2, 2)).map run113) = true := by kernel_rfl
theorem b2_3 : allB ((pc93 (2, 3)).map run113) = true := by kernel_rfl
theorem b2_4 : allB ((pc93 (2, 4)).map run113) = true := by kernel_rfl
theorem b2_5 : allB ((pc93 (2, 5)).map run113) = true := by kernel_rfl
theorem b2_6 : allB ((pc93 (2, 6)).map run113) = true := by kernel_rfl
theorem b3_0 : allB ((pc93 (3, 0)).map run113) = true := by kernel_rfl
theorem b3_1 : allB ((pc93 (3, 1)).map run113) = true := by kernel_rfl
theorem b3_3 : allB ((pc93 (3, 3)).map run113) = true := by kernel_rfl
theorem b3_4 : allB ((pc93 (3, 4)).map run113) = true := by kernel_rfl
theorem b3_5 : allB ((pc93 (3, 5)).map run113) = true := by kernel_rfl
theorem b3_6 : allB ((pc93 (3, 6)).map run113) = true := by kernel_rfl
theorem b4_0 : allB ((pc93 (4, 0)).map run113) = true := by kernel_rfl
theorem b4_1 : allB ((pc93 (4, 1)).map run113) = true := by kernel_rfl
theorem b4_2 : allB ((pc93 (4, 2)).map run113) = true := by kernel_rfl
theorem b4_4 : allB ((pc93 (4, 4)).map run113) = true := by kernel_rfl
theorem b4_5 : allB ((pc93 (4, 5)).map run113) = true := by kernel_rfl
theorem b4_6 : allB ((pc93 (4, 6)).map run113) = true := by kernel_rfl
theorem b5_0 : allB ((pc93 (5, 0)).map run113) = true := by kernel_rfl
theorem b5_1 : allB ((pc93 (5, 1)).map run113) = true := by kernel_rfl
theorem b5_2 : allB ((pc93 (5, 2)).map run113) = true := by kernel_rfl
theorem b5_3 : allB ((pc93 (5, 3)).map run113) = true := by kernel_rfl
theorem b5_5 : allB ((pc93 (5, 5)).map run113) = true := by kernel_rfl
theorem b5_6 : allB ((pc93 (5, 6)).map run113) = true := by kernel_rfl
theorem b6_0 : allB ((pc93 (6, 0)).map run113) = true := by kernel_rfl
theorem b6_1 : allB ((pc93 (6, 1)).map run113) = true := by kernel_rfl
theorem b6_2 : allB ((pc93 (6, 2)).map run113) = true := by kernel_rfl
theorem b6_3 : allB ((pc93 (6, 3)).map run113) = true := by kernel_rfl
theorem b6_4 : allB ((pc93 (6, 4)).map run113) = true := by kernel_rfl
theorem b6_6 : allB ((pc93 (6, 6)).map run113) = true := by kernel_rfl
theorem b7_0 : allB ((pc93 (7, 0)).map run113) = true := by kernel_rfl
theorem b7_1 : allB ((pc93 (7, 1)).map run113) = true := by kernel_rfl
theorem b7_2 : allB ((pc93 (7, 2)).map run113) = true := by kernel_rfl
theorem b7_3 : allB ((pc93 (7, 3)).map run113) = true := by kernel_rfl
theorem b7_4 : allB ((pc93 (7, 4)).map run113) = true := by kernel_rfl
theorem b7_5 : allB ((pc93 (7, 5)).map run113) = true := by kernel_rfl
theorem b8_0 : allB ((pc93 (8, 0)).map run113) = true := by kernel_rfl
theorem b8_1 : allB ((pc93 (8, 1)).map run113) = true := by kernel_rfl
theorem b8_2 : allB ((pc93 (8, 2)).map run113) = true := by kernel_rfl
theorem b8_3 : allB ((pc93 (8, 3)).map run113) = true := by kernel_rfl
theorem b8_4 : allB ((pc93 (8, 4)).map run113) = true := by kernel_rfl
theorem b8_5 : allB ((pc93 (8, 5)).map run113) = true := by kernel_rfl
theorem b8_6 : allB ((pc93 (8, 6)).map run113) = true := by kernel_rfl
theorem b9_0 : allB ((pc93 (9, 0)).map run113) = true := by kernel_rfl
theorem c2_0 : allB ((pc94 (2, 0)).map (run94 (2, 0))) = true := by kernel_rfl
theorem c2_1 : allB ((pc94 (2, 1)).map (run94 (2, 1))) = true := by kernel_rfl
theorem c3_0 : allB ((pc94 (3, 0)).map (run94 (3, 0))) = true := by kernel_rfl
theorem c3_1 : allB ((pc94 (3, 1)).map (run94 (3, 1))) = true := by kernel_rfl
theorem c3_2 : allB ((pc94 (3, 2)).map (run94 (3, 2))) = true := by kernel_rfl
theorem c4_0 : allB ((pc94 (4, 0)).map (run94 (4, 0))) = true := by kernel_rfl
theorem c4_1 : allB ((pc94 (4, 1)).map (run94 (4, 1))) = true := by kernel_rfl
theorem c4_2 : allB ((pc94 (4, 2)).map (run94 (4, 2))) = true := by kernel_rfl
theorem c4_3 : allB ((pc94 (4, 3)).map (run94 (4, 3))) = true := by kernel_rfl
theorem c5_0 : allB ((pc94 (5, 0)).map (run94 (5, 0))) = true := by kernel_rfl
theorem c5_1 : allB ((pc94 (5, 1)).map (run94 (5, 1))) = true := by kernel_rfl
theorem c5_2 : allB ((pc94 (5, 2)).map (run94 (5, 2))) = true := by kernel_rfl
theorem c5_3 : allB ((pc94 (5, 3)).map (run94 (5, 3))) = true := by kernel_rfl
theorem c5_4 : allB ((pc94 (5, 4)).map (run94 (5, 4))) = true := by kernel_rfl
theorem c6_0 : allB ((pc94 (6, 0)).map (run94 (6, 0))) = true := by kernel_rfl
theorem c6_1 : allB ((pc94 (6, 1)).map (run94 (6, 1))) = true := by kernel_rfl
theorem c6_2 : allB ((pc94 (6, 2)).map (run94 (6, 2))) = true := by kernel_rfl
theorem c6_3 : allB ((pc94 (6, 3)).map (run94 (6, 3))) = true := by kernel_rfl
theorem c6_4 : allB ((pc94 (6, 4)).map (run94 (6, 4))) = true := by kernel_rfl
theorem c6_5 : allB ((pc94 (6, 5)).map (run94 (6, 5))) = true := by kernel_rfl
theorem c7_0 : allB ((pc94 (7, 0)).map (run94 (7, 0))) = true := by kernel_rfl
theorem c7_1 : allB ((pc94 (7, 1)).map (run94 (7, 1))) = true := by kernel_rfl
theorem c7_2 : allB ((pc94 (7, 2)).map (run94 (7, 2))) = true := by kernel_rfl
theorem c7_3 : allB ((pc94 (7, 3)).map (run94 (7, 3))) = true := by kernel_rfl
theorem c7_4 : allB ((pc94 (7, 4)).map (run94 (7, 4))) = true := by kernel_rfl
theorem c7_5 : allB ((pc94 (7, 5)).map (run94 (7, 5))) = true := by kernel_rfl
theorem c7_6 : allB ((pc94 (7, 6)).map (run94 (7, 6))) = true := by kernel_rfl
theorem d0_0 : runX h108 m1 (r108 (0, 0)) = true := by kernel_rfl
theorem d0_1 : runX h108 m1 (r108 (0, 1)) = true := by kernel_rfl
theorem d0_2 : runX h108 m1 (r108 (0, 2)) = true := by kernel_rfl
theorem d0_3 : runX h108 m1 (r108 (0, 3)) = true := by kernel_rfl
theorem d0_4 : runX h108 m1 (r108 (0, 4)) = true := by kernel_rfl
theorem d0_5 : runX h108 m1 (r108 (0, 5)) = true := by kernel_rfl
theorem d0_6 : runX h108 m1 (r108 (0, 6)) = true := by kernel_rfl
theorem d2_0 : runX h108 m1 (r108 (2, 0)) = true := by kernel_rfl
theorem d2_1 : runX h108 m1 (r108 (2, 1)) = true := by kernel_rfl
theorem d3_0 : runX h108 m1 (r108 (3, 0)) = true := by kernel_rfl
theorem d3_1 : runX h108 m1 (r108 (3, 1)) = true := by kernel_rfl
theorem d3_2 : runX h108 m1 (r108 (3, 2)) = true := by kernel_rfl
theorem d4_0 : runX h108 m1 (r108 (4, 0)) = true := by kernel_rfl
theorem d4_1 : runX h108 m1 (r108 (4, 1)) = true := by kernel_rfl
theorem d4_2 : runX h108 m1 (r108 (4, 2)) = true := by kernel_rfl
theorem d4_3 : runX h108 m1 (r108 (4, 3)) = true := by kernel_rfl
theorem d5_0 : runX h108 m1 (r108 (5, 0)) = true := by kernel_rfl
theorem d5_1 : runX h108 m1 (r108 (5, 1)) = true := by kernel_rfl
theorem d5_2 : runX h108 m1 (r108 (5, 2)) = true := by kernel_rfl
theorem d5_3 : runX h108 m1 (r108 (5, 3)) = true := by kernel_rfl
theorem d5_4 : runX h108 m1 (r108 (5, 4)) = true := by kernel_rfl
theorem d6_0 : runX h108 m1 (r108 (6, 0)) = true := by kernel_rfl
theorem d6_1 : runX h108 m1 (r108 (6, 1)) = true := by kernel_rfl
theorem d6_2 : runX h108 m1 (r108 (6, 2)) = true := by kernel_rfl
theorem d6_3 : runX h108 m1 (r108 (6, 3)) = true := by kernel_rfl
theorem d6_4 : runX h108 m1 (r108 (6, 4)) = true := by kernel_rfl
theorem d6_5 : runX h108 m1 (r108 (6, 5)) = true := by kernel_rfl
theorem d7_0 : runX h108 m1 (r108 (7, 0)) = true := by kernel_rfl
theorem d7_1 : runX h108 m1 (r108 (7, 1)) = true := by kernel_rfl
theorem d7_2 : runX h108 m1 (r108 (7, 2)) = true := by kernel_rfl
theorem d7_3 : runX h108 m1 (r108 (7, 3)) = true := by kernel_rfl
theorem d7_4 : runX h108 m1 (r108 (7, 4)) = true := by kernel_rfl
theorem d7_5 : runX h108 m1 (r108 (7, 5)) = true := by kernel_rfl
theorem d7_6 : runX h108 m1 (r108 (7, 6)) = true := by kernel_rfl
theorem e2_0 : allB [runX h22 m1 (entKO 2 0)] = true := by kernel_rfl
theorem f2_0 : allB [runX h22 m1 (entKA 2 0)] = true := by kernel_rfl
theorem e2_1 : allB [runX h22 m1 (entKO 2 1)] = true := by kernel_rfl
theorem f2_1 : allB [runX h22 m1 (entKA 2 1)] = true := by kernel_rfl
theorem e3_0 : allB [runX h22 m1 (entKO 3 0)] = true := by kernel_rfl
theorem f3_0 : allB [runX h22 m1 (entKA 3 0)] = true := by kernel_rfl
theorem e3_1 : allB [runX h22 m1 (entKO 3 1)] = true := by kernel_rfl
theorem f3_1 : allB [runX h22 m1 (entKA 3 1)] = true := by kernel_rfl
theorem e3_2 : allB [runX h22 m1 (entKO 3 2)] = true := by kernel_rfl
theorem f3_2 : allB [runX h22 m1 (entKA 3 2)] = true := by kernel_rfl
theorem e4_0 : allB [runX h22 m1 (entKO 4 0)] = true := by kernel_rfl
theorem f4_0 : allB [runX h22 m1 (entKA 4 0)] = true := by kernel_rfl
theorem e4_1 : allB [runX h22 m1 (entKO 4 1)] = true := by kernel_rfl
theorem f4_1 : allB [runX h22 m1 (entKA 4 1)] = true := by kernel_rfl
theorem e4_2 : allB [runX h22 m1 (entKO 4 2)] = true := by kernel_rfl
theorem f4_2 : allB [runX h22 m1 (entKA 4 2)] = true := by kernel_rfl
theorem e4_3 : allB [runX h22 m1 (entKO 4 3)] = true := by kernel_rfl
theorem f4_3 : allB [runX h22 m1 (entKA 4 3)] = true := by kernel_rfl
theorem e5_0 : allB [runX h22 m1 (entKO 5 0)] = true := by kernel_rfl
theorem f5_0 : allB [runX h22 m1 (entKA 5 0)] = true := by kernel_rfl
theorem e5_1 : allB [runX h22 m1 (entKO 5 1)] = true := by kernel_rfl
theorem f5_1 : allB [runX h22 m1 (entKA 5 1)] = true := by kernel_rfl
theorem e5_2 : allB [runX h22 m1 (entKO 5 2)] = true := by kernel_rfl
theorem f5_2 : allB [runX h22 m1 (entKA 5 2)] = true := by kernel_rfl
theorem e5_3 : allB [runX h22 m1 (entKO 5 3)] = true := by kernel_rfl
theorem f5_3 : allB [runX h22 m1 (entKA 5 3)] = true := by kernel_rfl
theorem e5_4 : allB [runX h22 m1 (entKO 5 4)] = true := by kernel_rfl
theorem f5_4 : allB [runX h22 m1 (entKA 5 4)] = true := by kernel_rfl
theorem e6_0 : allB [runX h22 m1 (entKO 6 0)] = true := by kernel_rfl
theorem f6_0 : allB [runX h22 m1 (entKA 6 0)] = true := by kernel_rfl
theorem e6_1 : allB [runX h22 m1 (entKO 6 1)] = true := by kernel_rfl
theorem f6_1 : allB [runX h22 m1 (entKA 6 1)] = true := by kernel_rfl
theorem e6_2 : allB [runX h22 m1 (entKO 6 2)] = true := by kernel_rfl
theorem f6_2 : allB [runX h22 m1 (entKA 6 2)] = true := by kernel_rfl
theorem e6_3 : allB [runX h22 m1 (entKO 6 3)] = true := by kernel_rfl
theorem f6_3 : allB [runX h22 m1 (entKA 6 3)] = true := by kernel_rfl
theorem e6_4 : allB [runX h22 m1 (entKO 6 4)] = true := by kernel_rfl
theorem f6_4 : allB [runX h22 m1 (entKA 6 4)] = true := by kernel_rfl
theorem e6_5 : allB [runX h22 m1 (entKO 6 5)] = true := by kernel_rfl
theorem f6_5 : allB [runX h22 m1 (entKA 6 5)] = true := by kernel_rfl
theorem e7_0 : allB [runX h22 m1 (entKO 7 0)] = true := by kernel_rfl
theorem f7_0 : allB [runX h22 m1 (entKA 7 0)] = true := by kernel_rfl
theorem e7_1 : allB [runX h22 m1 (entKO 7 1)] = true := by kernel_rfl
theorem f7_1 : allB [runX h22 m1 (entKA 7 1)] = true := by kernel_rfl
theorem e7_2 : allB [runX h22 m1 (entKO 7 2)] = true := by kernel_rfl
theorem f7_2 : allB [runX h22 m1 (entKA 7 2)] = true := by kernel_rfl
theorem e7_3 : allB [runX h22 m1 (entKO 7 3)] = true := by kernel_rfl
theorem f7_3 : allB [runX h22 m1 (entKA 7 3)] = true := by kernel_rfl
theorem e7_4 : allB [runX h22 m1 (entKO 7 4)] = true := by kernel_rfl
theorem f7_4 : allB [runX h22 m1 (entKA 7 4)] = true := by kernel_rfl
theorem e7_5 : allB [runX h22 m1 (entKO 7 5)] = true := by kernel_rfl
theorem f7_5 : allB [runX h22 m1 (entKA 7 5)] = true := by kernel_rfl
theorem e7_6 : allB [runX h22 m1 (entKO 7 6)] = true := by kernel_rfl
theorem f7_6 : allB [runX h22 m1 (entKA 7 6)] = true := by kernel_rfl
theorem g0_2_0_0 : allB ((pc59 (0, 2, 0, 0)).map run59) = true := by kernel_rfl
theorem g0_2_1_0 : allB ((pc59 (0, 2, 1, 0)).map run59) = true := by kernel_rfl
theorem g0_3_0_0 : allB ((pc59 (0, 3, 0, 0)).map run59) = true := by kernel_rfl
theorem g0_3_1_0 : allB ((pc59 (0, 3, 1, 0)).map run59) = true := by kernel_rfl
theorem g0_3_2_0 : allB ((pc59 (0, 3, 2, 0)).map run59) = true := by kernel_rfl
theorem g0_4_0_0 : allB ((pc59 (0, 4, 0, 0)).map run59) = true := by kernel_rfl
end X

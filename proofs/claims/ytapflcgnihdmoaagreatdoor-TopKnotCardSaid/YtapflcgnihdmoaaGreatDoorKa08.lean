/- Runs for the knots (printed by genK.py). -/
import Derived.Test.YtapflcgnihdmoaaGreatDoorK1
import Derived.KernelRfl
namespace X
open Go
set_option linter.unusedVariables false
theorem i7_5_6 : allB [doK 7 (kI 1) 6 (some 5)] = true := by kernel_rfl
theorem i7_6_6 : allB [doK 7 (kI 1) 6 (some 6)] = true := by kernel_rfl
end X

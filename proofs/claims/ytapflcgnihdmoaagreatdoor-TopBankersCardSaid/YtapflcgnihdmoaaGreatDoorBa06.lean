/- Runs for the bankers (printed by genB.py). -/
import Derived.Test.YtapflcgnihdmoaaGreatDoorD1
import Derived.KernelRfl
namespace X
open Go
set_option linter.unusedVariables false
theorem x8616 : gDT0 (8,6,1,6) = true := by kernel_rfl
theorem k8616 : gDT1 (8,6,1,6) = true := by kernel_rfl
theorem x8617 : gDT0 (8,6,1,7) = true := by kernel_rfl
theorem k8617 : gDT1 (8,6,1,7) = true := by kernel_rfl
theorem x8618 : gDT0 (8,6,1,8) = true := by kernel_rfl
theorem k8618 : gDT1 (8,6,1,8) = true := by kernel_rfl
theorem x8712 : gDT0 (8,7,1,2) = true := by kernel_rfl
theorem k8712 : gDT1 (8,7,1,2) = true := by kernel_rfl
theorem x8713 : gDT0 (8,7,1,3) = true := by kernel_rfl
theorem k8713 : gDT1 (8,7,1,3) = true := by kernel_rfl
theorem x8714 : gDT0 (8,7,1,4) = true := by kernel_rfl
theorem k8714 : gDT1 (8,7,1,4) = true := by kernel_rfl
theorem x8715 : gDT0 (8,7,1,5) = true := by kernel_rfl
theorem k8715 : gDT1 (8,7,1,5) = true := by kernel_rfl
theorem x8716 : gDT0 (8,7,1,6) = true := by kernel_rfl
theorem k8716 : gDT1 (8,7,1,6) = true := by kernel_rfl
theorem x8717 : gDT0 (8,7,1,7) = true := by kernel_rfl
theorem k8717 : gDT1 (8,7,1,7) = true := by kernel_rfl
theorem x8718 : gDT0 (8,7,1,8) = true := by kernel_rfl
theorem k8718 : gDT1 (8,7,1,8) = true := by kernel_rfl
theorem x8812 : gDT0 (8,8,1,2) = true := by kernel_rfl
theorem k8812 : gDT1 (8,8,1,2) = true := by kernel_rfl
theorem x8813 : gDT0 (8,8,1,3) = true := by kernel_rfl
theorem k8813 : gDT1 (8,8,1,3) = true := by kernel_rfl
theorem x8814 : gDT0 (8,8,1,4) = true := by kernel_rfl
theorem k8814 : gDT1 (8,8,1,4) = true := by kernel_rfl
theorem x8815 : gDT0 (8,8,1,5) = true := by kernel_rfl
theorem k8815 : gDT1 (8,8,1,5) = true := by kernel_rfl
theorem x8816 : gDT0 (8,8,1,6) = true := by kernel_rfl
theorem k8816 : gDT1 (8,8,1,6) = true := by kernel_rfl
theorem x8817 : gDT0 (8,8,1,7) = true := by kernel_rfl
theorem k8817 : gDT1 (8,8,1,7) = true := by kernel_rfl
theorem x8818 : gDT0 (8,8,1,8) = true := by kernel_rfl
theorem k8818 : gDT1 (8,8,1,8) = true := by kernel_rfl
theorem y2112 : gSB (2,1,1,2) = true := by kernel_rfl
theorem y2212 : gSB (2,2,1,2) = true := by kernel_rfl
end X

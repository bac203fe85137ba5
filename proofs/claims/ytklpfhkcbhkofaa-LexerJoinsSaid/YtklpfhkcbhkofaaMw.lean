
/- The walks of package mode and of its reference: each function once, with what it returns. Conditions: the table of compatible modes holds what its initialiser lays (Tab). -/
import Derived.Test.YtklpfhkcbhkofaaMd
import Derived.Test.YtklpfhkcbhkofaaWd
namespace Go.Proofs.Ytklpfhkcbhkofaa
open Go.RowKit
theorem cov_bad {a b : Int} (h : ¬ (CL.vld a = true ∧ CL.vld b = true)) : CL.cov a b = false := by
  by_cases ha : CL.vld a = true
  · by_cases hb : CL.vld b = true
    · exact absurd ⟨ha, hb⟩ h
    · simp only [Bool.not_eq_true] at hb; exact CL.cov_nr hb
  · simp only [Bool.not_eq_true] at ha; exact CL.cov_nl ha
theorem cov_at (m : Int) (n : Nat) (h1 : 1 ≤ n) (h2 : n ≤ 5) : #[Value.bool false, .bool (CL.cov m 1), .bool (CL.cov m 2), .bool (CL.cov m 3), .bool (CL.cov m 4), .bool (CL.cov m 5)][n]? = some (.bool (CL.cov m (n : Int))) := by
  have : n = 1 ∨ n = 2 ∨ n = 3 ∨ n = 4 ∨ n = 5 := by omega
  rcases this with rfl | rfl | rfl | rfl | rfl <;> rfl
def NoBoth (a b k : Int) : Prop := ∀ j, 1 ≤ j → j < k → CL.both j a b = false
end Go.Proofs.Ytklpfhkcbhkofaa


/- The walks of package mode and of its reference: each function once, with what it returns. Conditions: the table of compatible modes holds what its initialiser lays (Tab). -/
import Derived.Test.YtmboojbhnmdnkaaMd
import Derived.Test.YtmboojbhnmdnkaaWd
namespace Go.Proofs.Ytmboojbhnmdnkaa
open Go.RowKit
theorem Valid_c (m : Int) (w : World) : Calls Try.prog 68 #[.int .i64 m] w fun e w' => e = .returned (.bool (CL.vld m)) ∧ w = w' := by
  go_enter Try.func68, Try.ntmps68
  go_wp2
  all_goals (go_ret; refine ⟨?_, rfl⟩; simp [CL.vld]; try omega)
theorem RValid_c (m : Int) (w : World) : Calls Try.prog 71 #[.int .i64 m] w fun e w' => e = .returned (.bool (CL.vld m)) ∧ w = w' := by
  go_enter Try.func71, Try.ntmps71
  go_wp2
  all_goals (go_ret; refine ⟨?_, rfl⟩; simp [CL.vld]; try omega)

theorem cov_bad {a b : Int} (h : ¬ (CL.vld a = true ∧ CL.vld b = true)) : CL.cov a b = false := by
  by_cases ha : CL.vld a = true
  · by_cases hb : CL.vld b = true
    · exact absurd ⟨ha, hb⟩ h
    · simp only [Bool.not_eq_true] at hb; exact CL.cov_nr hb
  · simp only [Bool.not_eq_true] at ha; exact CL.cov_nl ha
theorem cov_at (m : Int) (n : Nat) (h1 : 1 ≤ n) (h2 : n ≤ 5) : #[Value.bool false, .bool (CL.cov m 1), .bool (CL.cov m 2), .bool (CL.cov m 3), .bool (CL.cov m 4), .bool (CL.cov m 5)][n]? = some (.bool (CL.cov m (n : Int))) := by
  have : n = 1 ∨ n = 2 ∨ n = 3 ∨ n = 4 ∨ n = 5 := by omega
  rcases this with rfl | rfl | rfl | rfl | rfl <;> rfl
def NoBoth (a b k : Int) : Prop := ∀ j, 1 ≤ j → j < k → CL.both j a b = false
end Go.Proofs.Ytmboojbhnmdnkaa

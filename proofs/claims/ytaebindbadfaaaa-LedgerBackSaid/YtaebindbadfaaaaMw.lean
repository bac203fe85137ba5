
/- The walks of package mode and of its reference: each function once, with what it returns. Conditions: the table of compatible modes holds what its initialiser lays (Tab). -/
import Derived.Test.YtaebindbadfaaaaMd
import Derived.Test.YtaebindbadfaaaaWd
namespace Go.Proofs.Ytaebindbadfaaaa
open Go.RowKit
theorem Valid_c (m : Int) (w : World) : Calls Try.prog 41 #[.int .i64 m] w fun e w' => e = .returned (.bool (CL.vld m)) ∧ w = w' := by
  go_enter Try.func41, Try.ntmps41
  go_wp2
  all_goals (go_ret; refine ⟨?_, rfl⟩; simp [CL.vld]; try omega)
theorem RValid_c (m : Int) (w : World) : Calls Try.prog 42 #[.int .i64 m] w fun e w' => e = .returned (.bool (CL.vld m)) ∧ w = w' := by
  go_enter Try.func42, Try.ntmps42
  go_wp2
  all_goals (go_ret; refine ⟨?_, rfl⟩; simp [CL.vld]; try omega)

theorem covered_c (m : Int) (w : World) (hm : CL.vld m = true) : Calls Try.prog 56 #[.int .i64 m] w fun e w' => e = .returned (.agg #[.bool false, .bool (CL.cov m 1), .bool (CL.cov m 2), .bool (CL.cov m 3), .bool (CL.cov m 4), .bool (CL.cov m 5)]) ∧ Ext w w' := by
  rcases CL.vld_cases hm with rfl | rfl | rfl | rfl | rfl <;> clear hm
  all_goals
    go_enter Try.func56, Try.ntmps56
    go_wp2
    go_returns
    refine ⟨rfl, ?_⟩
    go_grown

theorem cov_bad {a b : Int} (h : ¬ (CL.vld a = true ∧ CL.vld b = true)) : CL.cov a b = false := by
  by_cases ha : CL.vld a = true
  · by_cases hb : CL.vld b = true
    · exact absurd ⟨ha, hb⟩ h
    · simp only [Bool.not_eq_true] at hb; exact CL.cov_nr hb
  · simp only [Bool.not_eq_true] at ha; exact CL.cov_nl ha
theorem cov_at (m : Int) (n : Nat) (h1 : 1 ≤ n) (h2 : n ≤ 5) : #[Value.bool false, .bool (CL.cov m 1), .bool (CL.cov m 2), .bool (CL.cov m 3), .bool (CL.cov m 4), .bool (CL.cov m 5)][n]? = some (.bool (CL.cov m (n : Int))) := by
  have : n = 1 ∨ n = 2 ∨ n = 3 ∨ n = 4 ∨ n = 5 := by omega
  rcases this with rfl | rfl | rfl | rfl | rfl <;> rfl
set_option maxHeartbeats 400000 in
theorem Covers_c (a b : Int) (w : World) : Calls Try.prog 43 #[.int .i64 a, .int .i64 b] w fun e w' => e = .returned (.bool (CL.cov a b)) ∧ Ext w w' := by
  by_cases ha : CL.vld a = true
  · by_cases hb : CL.vld b = true
    · have hix : ∀ n : Int, CL.vld n = true → ∀ W : World, (Instr.index 77 (.agg #[Value.bool false, .bool (CL.cov a 1), .bool (CL.cov a 2), .bool (CL.cov a 3), .bool (CL.cov a 4), .bool (CL.cov a 5)]) (.int .i64 n)).run Try.prog W = .ok (.bool (CL.cov a n)) W := by
        intro n hn W
        rcases CL.vld_cases hn with rfl | rfl | rfl | rfl | rfl <;> kernel_rfl
      have hix := hix b hb
      rcases CL.vld_cases hb with rfl | rfl | rfl | rfl | rfl <;> clear hb
      all_goals
        go_enter Try.func43, Try.ntmps43
        go_wp2_with (first | (go_at_call 41; refine (Valid_c _ _).mono ?_; rintro e w' ⟨rfl, rfl⟩) | (go_at_call 56; refine (covered_c _ _ ha).mono ?_; rintro e w' ⟨rfl, hx⟩))
        go_ret
        exact ⟨rfl, hx⟩
    · simp only [Bool.not_eq_true] at hb
      have hr := Lib.hid (CL.cov_nr (a := a) hb)
      go_enter Try.func43, Try.ntmps43
      go_wp2_with (go_at_call 41; refine (Valid_c _ _).mono ?_; rintro e w' ⟨rfl, rfl⟩)
      all_goals (go_ret; exact ⟨ret_bool hr.out.symm, Below.refl _ _⟩)
  · simp only [Bool.not_eq_true] at ha
    have hr := Lib.hid (CL.cov_nl (b := b) ha)
    go_enter Try.func43, Try.ntmps43
    go_wp2_with (go_at_call 41; refine (Valid_c _ _).mono ?_; rintro e w' ⟨rfl, rfl⟩)
    all_goals (go_ret; exact ⟨ret_bool hr.out.symm, Below.refl _ _⟩)

def NoBoth (a b k : Int) : Prop := ∀ j, 1 ≤ j → j < k → CL.both j a b = false
end Go.Proofs.Ytaebindbadfaaaa

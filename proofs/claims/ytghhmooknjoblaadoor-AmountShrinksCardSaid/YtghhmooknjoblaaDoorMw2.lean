
/- The walks of package mode and of its reference, second part: Format, Parse, Group, Conflicts, and the reference's Covers, Compatible, Sup. -/
import Derived.Test.YtghhmooknjoblaaDoorMw
namespace Go.Proofs.YtghhmooknjoblaaDoor
open Go.RowKit
def vstr (l : List UInt8) : Value := .string ⟨l.toArray⟩
theorem Format_c (m : Int) (w : World) : Calls Tryd.prog 33 #[.int .i64 m] w fun e w' => e = .returned (.string ⟨(CL.nm m).toArray⟩) ∧ w = w' := by
  by_cases h : CL.vld m = true
  · rcases CL.vld_cases h with rfl | rfl | rfl | rfl | rfl <;> clear h
    all_goals
      go_enter Tryd.func33, Tryd.ntmps33
      go_wp2
      go_ret
      exact ⟨rfl, rfl⟩
  · have hr := Lib.hid (CL.nm_bad (by simpa using h))
    have hb : m < 1 ∨ 5 < m := by simp [CL.vld] at h; omega
    clear h
    have h1 : (m == 1) = false := by simp; omega
    have h2 : (m == 2) = false := by simp; omega
    have h3 : (m == 3) = false := by simp; omega
    have h4 : (m == 4) = false := by simp; omega
    have h5 : (m == 5) = false := by simp; omega
    go_enter Tryd.func33, Tryd.ntmps33
    go_wp2
    go_ret
    exact ⟨ret_str hr.out.symm, rfl⟩
theorem RFormat_c (m : Int) (w : World) : Calls Tryd.prog 36 #[.int .i64 m] w fun e w' => e = .returned (.string ⟨(CL.nm m).toArray⟩) ∧ w = w' := by
  by_cases h : CL.vld m = true
  · rcases CL.vld_cases h with rfl | rfl | rfl | rfl | rfl <;> clear h
    all_goals
      go_enter Tryd.func36, Tryd.ntmps36
      go_wp2
      go_ret
      exact ⟨rfl, rfl⟩
  · have hr := Lib.hid (CL.nm_bad (by simpa using h))
    have hb : m < 1 ∨ 5 < m := by simp [CL.vld] at h; omega
    clear h
    have h1 : (m == 1) = false := by simp; omega
    have h2 : (m == 2) = false := by simp; omega
    have h3 : (m == 3) = false := by simp; omega
    have h4 : (m == 4) = false := by simp; omega
    have h5 : (m == 5) = false := by simp; omega
    go_enter Tryd.func36, Tryd.ntmps36
    go_wp2
    go_ret
    exact ⟨ret_str hr.out.symm, rfl⟩
def NoNm (s : List UInt8) (k : Int) : Prop := ∀ j, 1 ≤ j → j < k → (CL.nm j == s) = false
theorem RCovers_c (a b : Int) (w : World) : Calls Tryd.prog 41 #[.int .i64 a, .int .i64 b] w fun e w' => e = .returned (.bool (CL.cov a b)) ∧ w = w' := by
  go_enter Tryd.func41, Tryd.ntmps41
  go_wp2_with (go_at_call 30; refine (RValid_c _ _).mono ?_; rintro e w' ⟨rfl, rfl⟩)
  all_goals (go_ret; refine ⟨ret_bool ?_, rfl⟩; go_tidy; simp_all [CL.cov])
theorem RCompatible_c (a b : Int) (w : World) : Calls Tryd.prog 39 #[.int .i64 a, .int .i64 b] w fun e w' => e = .returned (.bool (CL.cmp a b)) ∧ w = w' := by
  go_enter Tryd.func39, Tryd.ntmps39
  go_wp2_with (go_at_call 30; refine (RValid_c _ _).mono ?_; rintro e w' ⟨rfl, rfl⟩)
  all_goals (go_ret; refine ⟨ret_bool ?_, rfl⟩; go_tidy; first | (simp_all [CL.cmp]; done) | (simp_all [CL.cmp]; grind))
theorem RSup_c (a b : Int) (w : World) : Calls Tryd.prog 42 #[.int .i64 a, .int .i64 b] w fun e w' => e = .returned (.int .i64 (CL.sup a b)) ∧ w = w' := by
  go_enter Tryd.func42, Tryd.ntmps42
  go_wp2
  go_loop [5] (fun i => ∃ k : Int, 1 ≤ k ∧ k ≤ 6 ∧ i = .int .i64 k ∧ NoBoth a b k) (fun i => (6 - intOf i).toNat)
  case atStart => exact ⟨1, by omega, by omega, rfl, fun j h1 h2 => by omega⟩
  case round =>
    obtain ⟨k, hk1, hk2, rfl, hn⟩ := hrel
    by_cases hk : k ≤ 5
    · go_wp2_with (go_at_call 41; refine (RCovers_c _ _ _).mono ?_; rintro e w' ⟨rfl, rfl⟩)
      · have h1 : CL.cov k a = true := by assumption
        have h2 : CL.cov k b = true := by assumption
        go_ret
        exact ⟨ret_int (CL.sup_found hk1 hk hn (by simp [CL.both, h1, h2])).symm, rfl⟩
      · have h2 : CL.cov k b = false := by assumption
        go_round
        case rel => exact ⟨k + 1, by omega, by omega, rfl, CL.none_step hn (by simp [CL.both, h2])⟩
        case measure => simp [intOf]; omega
      · have h2 : ¬ CL.cov k a = true := by assumption
        go_round
        case rel => exact ⟨k + 1, by omega, by omega, rfl, CL.none_step hn (by simp [CL.both, h2])⟩
        case measure => simp [intOf]; omega
    · go_wp2
      go_ret
      exact ⟨ret_int (CL.sup_none (by omega) hn).symm, rfl⟩
end Go.Proofs.YtghhmooknjoblaaDoor

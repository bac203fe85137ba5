
/- The walks of package mode and of its reference, second part: Format, Parse, Group, Conflicts, and the reference's Covers, Compatible, Sup. -/
import Derived.Test.YtklpfhkcbhkofaaMw
namespace Go.Proofs.Ytklpfhkcbhkofaa
open Go.RowKit
def vstr (l : List UInt8) : Value := .string ⟨l.toArray⟩
theorem Format_c (m : Int) (w : World) : Calls Try.prog 28 #[.int .i64 m] w fun e w' => e = .returned (.string ⟨(CL.nm m).toArray⟩) ∧ w = w' := by
  by_cases h : CL.vld m = true
  · rcases CL.vld_cases h with rfl | rfl | rfl | rfl | rfl <;> clear h
    all_goals
      go_enter Try.func28, Try.ntmps28
      go_wp2
      go_ret
      exact ⟨rfl, rfl⟩
  · have hr := Lib.hid (CL.nm_bad (by simpa using h))
    have hb : m < 1 ∨ 5 < m := by simp [CL.vld] at h; omega
    clear h
    have h1 : (m == 1) = false := by simp; omega
    have h2 : (m == 2) = false := by simp; omega
    have h3 : (m == 3) = false := by simp; omega
    have h4 : (m == 4) = false := by simp; omega
    have h5 : (m == 5) = false := by simp; omega
    go_enter Try.func28, Try.ntmps28
    go_wp2
    go_ret
    exact ⟨ret_str hr.out.symm, rfl⟩
theorem RFormat_c (m : Int) (w : World) : Calls Try.prog 27 #[.int .i64 m] w fun e w' => e = .returned (.string ⟨(CL.nm m).toArray⟩) ∧ w = w' := by
  by_cases h : CL.vld m = true
  · rcases CL.vld_cases h with rfl | rfl | rfl | rfl | rfl <;> clear h
    all_goals
      go_enter Try.func27, Try.ntmps27
      go_wp2
      go_ret
      exact ⟨rfl, rfl⟩
  · have hr := Lib.hid (CL.nm_bad (by simpa using h))
    have hb : m < 1 ∨ 5 < m := by simp [CL.vld] at h; omega
    clear h
    have h1 : (m == 1) = false := by simp; omega
    have h2 : (m == 2) = false := by simp; omega
    have h3 : (m == 3) = false := by simp; omega
    have h4 : (m == 4) = false := by simp; omega
    have h5 : (m == 5) = false := by simp; omega
    go_enter Try.func27, Try.ntmps27
    go_wp2
    go_ret
    exact ⟨ret_str hr.out.symm, rfl⟩
def NoNm (s : List UInt8) (k : Int) : Prop := ∀ j, 1 ≤ j → j < k → (CL.nm j == s) = false
theorem Parse_c (s : List UInt8) (w : World) : Calls Try.prog 25 #[.string ⟨s.toArray⟩] w fun e w' => e = .returned (.tuple #[.int .i64 (CL.prs s), .bool (CL.prs s != 0)]) ∧ w = w' := by
  go_enter Try.func25, Try.ntmps25
  go_wp2
  go_loop [4] (fun i => ∃ k : Int, 1 ≤ k ∧ k ≤ 6 ∧ i = .int .i64 k ∧ NoNm s k) (fun i => (6 - intOf i).toNat)
  case atStart => exact ⟨1, by omega, by omega, rfl, fun j h1 h2 => by omega⟩
  case round =>
    obtain ⟨k, hk1, hk2, rfl, hn⟩ := hrel
    by_cases hk : k ≤ 5
    · go_wp2_with (go_at_call 28; refine (Format_c _ _).mono ?_; rintro e w' ⟨rfl, rfl⟩)
      · have h1 : (CL.nm k == s) = true := by assumption
        have hp := CL.prs_found hk1 hk (by simpa using h1)
        go_ret2
        exact ⟨ret_int_bool (by rw [hp]) (by rw [hp]; simp; omega), rfl⟩
      · have h1 : (CL.nm k == s) = false := by assumption
        go_round
        case rel => exact ⟨k + 1, by omega, by omega, rfl, CL.none_step hn h1⟩
        case measure => simp [intOf]; omega
    · have hp := Lib.hid (CL.prs_none (by omega) hn)
      go_wp2
      go_ret2
      exact ⟨ret_int_bool hp.out.symm (by rw [hp.out]; rfl), rfl⟩
theorem RParse_c (s : List UInt8) (w : World) : Calls Try.prog 21 #[.string ⟨s.toArray⟩] w fun e w' => e = .returned (.tuple #[.int .i64 (CL.prs s), .bool (CL.prs s != 0)]) ∧ w = w' := by
  go_enter Try.func21, Try.ntmps21
  go_wp2
  go_loop [4] (fun i => ∃ k : Int, 1 ≤ k ∧ k ≤ 6 ∧ i = .int .i64 k ∧ NoNm s k) (fun i => (6 - intOf i).toNat)
  case atStart => exact ⟨1, by omega, by omega, rfl, fun j h1 h2 => by omega⟩
  case round =>
    obtain ⟨k, hk1, hk2, rfl, hn⟩ := hrel
    by_cases hk : k ≤ 5
    · go_wp2_with (go_at_call 27; refine (RFormat_c _ _).mono ?_; rintro e w' ⟨rfl, rfl⟩)
      · have h1 : (CL.nm k == s) = true := by assumption
        have hp := CL.prs_found hk1 hk (by simpa using h1)
        go_ret2
        exact ⟨ret_int_bool (by rw [hp]) (by rw [hp]; simp; omega), rfl⟩
      · have h1 : (CL.nm k == s) = false := by assumption
        go_round
        case rel => exact ⟨k + 1, by omega, by omega, rfl, CL.none_step hn h1⟩
        case measure => simp [intOf]; omega
    · have hp := Lib.hid (CL.prs_none (by omega) hn)
      go_wp2
      go_ret2
      exact ⟨ret_int_bool hp.out.symm (by rw [hp.out]; rfl), rfl⟩
end Go.Proofs.Ytklpfhkcbhkofaa


/- The walks of packages catalog and its reference that expressions reach: names. -/
import Derived.Test.YtaebindbadfaaaaEx
import Derived.Test.YtaebindbadfaaaaAw
import Derived.Test.YtaebindbadfaaaaXq
namespace Go.Proofs.Ytaebindbadfaaaa
open Go.RowKit
set_option linter.unusedVariables false
theorem catalog.Reserved_c (s : List UInt8) (w : World) : Calls Try.prog 63 #[.string ⟨s.toArray⟩] w fun e w' => e = .returned (.bool (CL.rsv s)) ∧ w = w' := by
  go_enter Try.func63, Try.ntmps63
  go_wp2
  all_goals (go_ret; refine ⟨ret_bool ?_, rfl⟩; go_tidy; rw [Bool.eq_iff_iff]; simp_all [CL.rsv])
theorem clusterlocksref05.Reserved_c (s : List UInt8) (w : World) : Calls Try.prog 61 #[.string ⟨s.toArray⟩] w fun e w' => e = .returned (.bool (CL.rsv s)) ∧ w = w' := by
  go_enter Try.func61, Try.ntmps61
  go_wp2
  all_goals (go_ret; refine ⟨ret_bool ?_, rfl⟩; go_tidy; rw [Bool.eq_iff_iff]; simp_all [CL.rsv])
theorem clusterlocksref05.Letter_c (n : Int) (w : World) : Calls Try.prog 60 #[.int .u8 n] w fun e w' => e = .returned (.bool (CL.ltr n)) ∧ w = w' := by
  go_enter Try.func60, Try.ntmps60
  go_wp2
  all_goals (go_ret; refine ⟨ret_bool ?_, rfl⟩; simp [CL.ltr]; try omega)
theorem clusterlocksref05.Part_c (n : Int) (w : World) : Calls Try.prog 62 #[.int .u8 n] w fun e w' => e = .returned (.bool (CL.prt n)) ∧ w = w' := by
  go_enter Try.func62, Try.ntmps62
  go_wp2_with (go_at_call 60; refine (clusterlocksref05.Letter_c _ _).mono ?_; rintro e w' ⟨rfl, rfl⟩)
  all_goals (go_ret; refine ⟨ret_bool ?_, rfl⟩; go_tidy; first | (simp_all [CL.prt, CL.dig]; done) | (simp_all [CL.prt, CL.dig]; grind))
theorem clusterlocksref05.ValidName_c (s : List UInt8) (w : World) (hs : s.length ≤ maxLen) : Calls Try.prog 53 #[.string ⟨s.toArray⟩] w fun e w' => e = .returned (.bool (CL.vname s)) ∧ w = w' := by
  unfold maxLen at hs
  by_cases hl : 1 ≤ s.length ∧ s.length ≤ 12
  · obtain ⟨h1, h2⟩ := hl
    by_cases hc : CL.at8 CL.ltr (s[0]'(by omega)) = true
    · have c0 : CL.ltr (((⟨s.toArray⟩ : ByteArray)[0]'(by simp [ByteArray.size]; omega)).toNat : Int) = true := hc
      by_cases hr : CL.rsv s = true
      · have HV := Lib.hid (CL.vname_rsv hr)
        go_enter Try.func53, Try.ntmps53
        go_wp2_with (first
        | (go_at_call 60; refine (clusterlocksref05.Letter_c _ _).mono ?_; rintro e w' ⟨rfl, rfl⟩)
        | (go_at_call 61; refine (clusterlocksref05.Reserved_c _ _).mono ?_; rintro e w' ⟨rfl, rfl⟩))
        go_ret
        exact ⟨ret_bool HV.out.symm, rfl⟩
      · simp only [Bool.not_eq_true] at hr
        have HR := Lib.hid hr
        have HO : Hid (CL.OkTo s 0) := CL.OkTo.zero
        go_enter Try.func53, Try.ntmps53
        go_wp2_with (first
        | (go_at_call 60; refine (clusterlocksref05.Letter_c _ _).mono ?_; rintro e w' ⟨rfl, rfl⟩)
        | (go_at_call 61; refine (clusterlocksref05.Reserved_c _ _).mono ?_; rintro e w' ⟨rfl, rfl⟩))
        go_loop [3] (fun i => ∃ k : Nat, k ≤ s.length ∧ i = .int .i64 k ∧ Hid (CL.OkTo s k)) (fun i => s.length - (intOf i).toNat)
        case atStart => exact ⟨0, by omega, rfl, HO⟩
        case round =>
          obtain ⟨k, hk, rfl, HK⟩ := hrel
          by_cases hlt : k < s.length
          · by_cases hp : CL.at8 CL.prt s[k] = true
            · have c1 : CL.prt (((⟨s.toArray⟩ : ByteArray)[k]'hlt).toNat : Int) = true := hp
              have HS := Lib.hid (HK.out.step hlt (by unfold CL.okAt; split; · subst_vars; exact hc
                                                      · exact hp))
              clear hp
              go_wp2_with (first
        | (go_at_call 62; refine (clusterlocksref05.Part_c _ _).mono ?_; rintro e w' ⟨rfl, rfl⟩))
              go_round
              case rel => exact ⟨k + 1, by omega, by go_num, HS⟩
              case measure => simp [intOf]; omega
            · simp only [Bool.not_eq_true] at hp
              have c1 : CL.prt (((⟨s.toArray⟩ : ByteArray)[k]'hlt).toNat : Int) = false := hp
              have HV := Lib.hid (CL.vname_bad hlt (by unfold CL.okAt; split; · subst_vars; rw [CL.prt_ltr hc] at hp; cases hp
                                                       · exact hp))
              clear hp
              go_wp2_with (first
        | (go_at_call 62; refine (clusterlocksref05.Part_c _ _).mono ?_; rintro e w' ⟨rfl, rfl⟩))
              go_ret
              exact ⟨ret_bool HV.out.symm, rfl⟩
          · have HV := Lib.hid (CL.vname_all (by omega) h2 HR.out (fun i hi => HK.out i hi (by omega)))
            go_wp2
            go_ret
            exact ⟨ret_bool HV.out.symm, rfl⟩
    · simp only [Bool.not_eq_true] at hc
      have c0 : CL.ltr (((⟨s.toArray⟩ : ByteArray)[0]'(by simp [ByteArray.size]; omega)).toNat : Int) = false := hc
      have HV := Lib.hid (CL.vname_bad (s := s) (i := 0) (by omega) (by unfold CL.okAt; rw [if_pos rfl]; exact hc))
      go_enter Try.func53, Try.ntmps53
      go_wp2_with (first
        | (go_at_call 60; refine (clusterlocksref05.Letter_c _ _).mono ?_; rintro e w' ⟨rfl, rfl⟩)
        | (go_at_call 61; refine (clusterlocksref05.Reserved_c _ _).mono ?_; rintro e w' ⟨rfl, rfl⟩))
      go_ret
      exact ⟨ret_bool HV.out.symm, rfl⟩
  · have HV := Lib.hid (CL.vname_len (s := s) (by omega))
    have hl2 : s.length < 1 ∨ (1 ≤ s.length ∧ 12 < s.length) := by omega
    clear hl
    rcases hl2 with h1 | ⟨h1, h2⟩
    all_goals
      go_enter Try.func53, Try.ntmps53
      go_wp2
      go_ret
      exact ⟨ret_bool HV.out.symm, rfl⟩
theorem ok0 (c : UInt8) : CL.okAt 0 c = decide (97 ≤ (c.toNat : Int) ∧ (c.toNat : Int) ≤ 122) := rfl
theorem ok1 (c : UInt8) {k : Nat} (h : 0 < k) : CL.okAt k c = (decide (97 ≤ (c.toNat : Int) ∧ (c.toNat : Int) ≤ 122) || decide (48 ≤ (c.toNat : Int) ∧ (c.toNat : Int) ≤ 57) || (c.toNat : Int) == 95 || (c.toNat : Int) == 45) := by
  unfold CL.okAt; rw [if_neg (by omega)]; rfl
set_option maxHeartbeats 800000 in
theorem catalog.ValidName_c (s : List UInt8) (w : World) (hs : s.length ≤ maxLen) : Calls Try.prog 54 #[.string ⟨s.toArray⟩] w fun e w' => e = .returned (.bool (CL.vname s)) ∧ w = w' := by
  unfold maxLen at hs
  by_cases hl : 1 ≤ s.length ∧ s.length ≤ 12
  · obtain ⟨h1, h2⟩ := hl
    by_cases hr : CL.rsv s = true
    · have HV := Lib.hid (CL.vname_rsv hr)
      go_enter Try.func54, Try.ntmps54
      go_wp2_with (first
        | (go_at_call 63; refine (catalog.Reserved_c _ _).mono ?_; rintro e w' ⟨rfl, rfl⟩))
      go_ret
      exact ⟨ret_bool HV.out.symm, rfl⟩
    · simp only [Bool.not_eq_true] at hr
      have HR := Lib.hid hr
      have HO : Hid (CL.OkTo s 0) := CL.OkTo.zero
      go_enter Try.func54, Try.ntmps54
      go_wp2_with (first
        | (go_at_call 63; refine (catalog.Reserved_c _ _).mono ?_; rintro e w' ⟨rfl, rfl⟩))
      go_loop [21] (fun i => ∃ k : Nat, k ≤ s.length ∧ i = .int .i64 k ∧ Hid (CL.OkTo s k)) (fun i => s.length - (intOf i).toNat)
      case atStart => exact ⟨0, by omega, rfl, HO⟩
      case round =>
        obtain ⟨k, hk, rfl, HK⟩ := hrel
        by_cases hlt : k < s.length
        · have HS := Lib.hid (fun h => HK.out.step hlt h)
          have HV := Lib.hid (fun h => CL.vname_bad (i := k) hlt h)
          rcases Nat.eq_zero_or_pos k with hk0 | hk0
          · subst hk0
            have H0 := Lib.hid (show CL.okAt 0 s[0] = decide (97 ≤ (((⟨s.toArray⟩ : ByteArray)[0]'hlt).toNat : Int) ∧ (((⟨s.toArray⟩ : ByteArray)[0]'hlt).toNat : Int) ≤ 122) from ok0 s[0])
            clear hk
            go_wp2
            all_goals first
              | (go_ret; exact ⟨ret_bool (HV.out (by rw [H0.out]; grind)).symm, rfl⟩)
              | (refine ⟨⟨1, by omega, rfl, Lib.hid (HS.out (by rw [H0.out]; grind))⟩, by simp [intOf]; omega⟩)
          · have hz : ((k : Int) == 0) = false := beq_eq_false_iff_ne.2 (by omega)
            have H0 := Lib.hid (show CL.okAt k s[k] = (decide (97 ≤ (((⟨s.toArray⟩ : ByteArray)[k]'hlt).toNat : Int) ∧ (((⟨s.toArray⟩ : ByteArray)[k]'hlt).toNat : Int) ≤ 122) || decide (48 ≤ (((⟨s.toArray⟩ : ByteArray)[k]'hlt).toNat : Int) ∧ (((⟨s.toArray⟩ : ByteArray)[k]'hlt).toNat : Int) ≤ 57) || (((⟨s.toArray⟩ : ByteArray)[k]'hlt).toNat : Int) == 95 || (((⟨s.toArray⟩ : ByteArray)[k]'hlt).toNat : Int) == 45) from ok1 s[k] hk0)
            go_wp2
            all_goals first
              | (go_ret; exact ⟨ret_bool (HV.out (by rw [H0.out]; grind)).symm, rfl⟩)
              | (refine ⟨⟨k + 1, by omega, by go_num, Lib.hid (HS.out (by rw [H0.out]; grind))⟩, by simp [intOf]; omega⟩)
        · have HV := Lib.hid (CL.vname_all (by omega) h2 HR.out (fun i hi => HK.out i hi (by omega)))
          go_wp2
          go_ret
          exact ⟨ret_bool HV.out.symm, rfl⟩
  · have HV := Lib.hid (CL.vname_len (s := s) (by omega))
    have hl2 : s.length < 1 ∨ (1 ≤ s.length ∧ 12 < s.length) := by omega
    clear hl
    rcases hl2 with h1 | ⟨h1, h2⟩
    all_goals
      go_enter Try.func54, Try.ntmps54
      go_wp2
      go_ret
      exact ⟨ret_bool HV.out.symm, rfl⟩
end Go.Proofs.Ytaebindbadfaaaa


/- The walks of package mode and of its reference: each function once, with what it returns. Conditions: the table of compatible modes holds what its initialiser lays (Tab). -/
import Derived.Test.YtghhmooknjoblaaDoorMd
import Derived.Test.YtghhmooknjoblaaDoorWd
namespace Go.Proofs.YtghhmooknjoblaaDoor
open Go.RowKit
theorem Valid_c (m : Int) (w : World) : Calls Tryd.prog 29 #[.int .i64 m] w fun e w' => e = .returned (.bool (CL.vld m)) ∧ w = w' := by
  go_enter Tryd.func29, Tryd.ntmps29
  go_wp2
  all_goals (go_ret; refine ⟨?_, rfl⟩; simp [CL.vld]; try omega)
theorem RValid_c (m : Int) (w : World) : Calls Tryd.prog 30 #[.int .i64 m] w fun e w' => e = .returned (.bool (CL.vld m)) ∧ w = w' := by
  go_enter Tryd.func30, Tryd.ntmps30
  go_wp2
  all_goals (go_ret; refine ⟨?_, rfl⟩; simp [CL.vld]; try omega)

/-- the table of compatible modes -/
def Tab (w : World) : Prop := ∀ i j : Nat, i < 5 → j < 5 → w.cell? ⟨0, i * 5 + j, none⟩ = some (.bool (CL.cmp (i + 1 : Nat) (j + 1 : Nat)))
theorem Tab.ext {w w' : World} (h : Tab w) (hx : Ext w w') : Tab w' := fun i j hi hj => hx.cell (h i j hi hj)

theorem Compatible_c (a b : Int) (w : World) (hT : Tab w) : Calls Tryd.prog 32 #[.int .i64 a, .int .i64 b] w fun e w' => e = .returned (.bool (CL.cmp a b)) ∧ w = w' := by
  by_cases ha : CL.vld a = true
  · by_cases hb : CL.vld b = true
    · have h1 := CL.vld_iff.1 ha
      have h2 := CL.vld_iff.1 hb
      have hc : w.cell? ⟨0, (a.toNat - 1) * 5 + (b.toNat - 1), none⟩ = some (.bool (CL.cmp a b)) := by
        rw [hT _ _ (by omega) (by omega)]
        congr 3 <;> omega
      obtain ⟨ha1, ha2⟩ := h1
      obtain ⟨hb1, hb2⟩ := h2
      clear hT
      go_enter Tryd.func32, Tryd.ntmps32
      go_wp2_with (go_at_call 29; refine (Valid_c _ _).mono ?_; rintro e w' ⟨rfl, rfl⟩)
      go_ret
      exact ⟨rfl, rfl⟩
    · simp only [Bool.not_eq_true] at hb
      have hr := Lib.hid (CL.cmp_nr (a := a) hb)
      clear hT
      go_enter Tryd.func32, Tryd.ntmps32
      go_wp2_with (go_at_call 29; refine (Valid_c _ _).mono ?_; rintro e w' ⟨rfl, rfl⟩)
      all_goals (go_ret; exact ⟨ret_bool hr.out.symm, rfl⟩)
  · simp only [Bool.not_eq_true] at ha
    have hr := Lib.hid (CL.cmp_nl (b := b) ha)
    clear hT
    go_enter Tryd.func32, Tryd.ntmps32
    go_wp2_with (go_at_call 29; refine (Valid_c _ _).mono ?_; rintro e w' ⟨rfl, rfl⟩)
    all_goals (go_ret; exact ⟨ret_bool hr.out.symm, rfl⟩)

theorem covered_c (m : Int) (w : World) (hm : CL.vld m = true) : Calls Tryd.prog 44 #[.int .i64 m] w fun e w' => e = .returned (.agg #[.bool false, .bool (CL.cov m 1), .bool (CL.cov m 2), .bool (CL.cov m 3), .bool (CL.cov m 4), .bool (CL.cov m 5)]) ∧ Ext w w' := by
  rcases CL.vld_cases hm with rfl | rfl | rfl | rfl | rfl <;> clear hm
  all_goals
    go_enter Tryd.func44, Tryd.ntmps44
    go_wp2
    go_returns
    refine ⟨rfl, ?_⟩
    go_grown

theorem cov_bad {a b : Int} (h : ¬ (CL.vld a = true ∧ CL.vld b = true)) : CL.cov a b = false := by
  by_cases ha : CL.vld a = true
  · by_cases hb : CL.vld b = true
    · exact absurd ⟨ha, hb⟩ h
    · simp only [Bool.not_eq_true] at hb; exact CL.cov_nr hb
  · simp only [Bool.not_eq_true] at ha; exact CL.cov_nl ha
theorem cov_at (m : Int) (n : Nat) (h1 : 1 ≤ n) (h2 : n ≤ 5) : #[Value.bool false, .bool (CL.cov m 1), .bool (CL.cov m 2), .bool (CL.cov m 3), .bool (CL.cov m 4), .bool (CL.cov m 5)][n]? = some (.bool (CL.cov m (n : Int))) := by
  have : n = 1 ∨ n = 2 ∨ n = 3 ∨ n = 4 ∨ n = 5 := by omega
  rcases this with rfl | rfl | rfl | rfl | rfl <;> rfl
set_option maxHeartbeats 400000 in
theorem Covers_c (a b : Int) (w : World) : Calls Tryd.prog 40 #[.int .i64 a, .int .i64 b] w fun e w' => e = .returned (.bool (CL.cov a b)) ∧ Ext w w' := by
  by_cases ha : CL.vld a = true
  · by_cases hb : CL.vld b = true
    · have hix : ∀ n : Int, CL.vld n = true → ∀ W : World, (Instr.index 41 (.agg #[Value.bool false, .bool (CL.cov a 1), .bool (CL.cov a 2), .bool (CL.cov a 3), .bool (CL.cov a 4), .bool (CL.cov a 5)]) (.int .i64 n)).run Tryd.prog W = .ok (.bool (CL.cov a n)) W := by
        intro n hn W
        rcases CL.vld_cases hn with rfl | rfl | rfl | rfl | rfl <;> kernel_rfl
      have hix := hix b hb
      rcases CL.vld_cases hb with rfl | rfl | rfl | rfl | rfl <;> clear hb
      all_goals
        go_enter Tryd.func40, Tryd.ntmps40
        go_wp2_with (first | (go_at_call 29; refine (Valid_c _ _).mono ?_; rintro e w' ⟨rfl, rfl⟩) | (go_at_call 44; refine (covered_c _ _ ha).mono ?_; rintro e w' ⟨rfl, hx⟩))
        go_ret
        exact ⟨rfl, hx⟩
    · simp only [Bool.not_eq_true] at hb
      have hr := Lib.hid (CL.cov_nr (a := a) hb)
      go_enter Tryd.func40, Tryd.ntmps40
      go_wp2_with (go_at_call 29; refine (Valid_c _ _).mono ?_; rintro e w' ⟨rfl, rfl⟩)
      all_goals (go_ret; exact ⟨ret_bool hr.out.symm, Below.refl _ _⟩)
  · simp only [Bool.not_eq_true] at ha
    have hr := Lib.hid (CL.cov_nl (b := b) ha)
    go_enter Tryd.func40, Tryd.ntmps40
    go_wp2_with (go_at_call 29; refine (Valid_c _ _).mono ?_; rintro e w' ⟨rfl, rfl⟩)
    all_goals (go_ret; exact ⟨ret_bool hr.out.symm, Below.refl _ _⟩)

def NoBoth (a b k : Int) : Prop := ∀ j, 1 ≤ j → j < k → CL.both j a b = false
theorem Sup_c (a b : Int) (w : World) : Calls Tryd.prog 38 #[.int .i64 a, .int .i64 b] w fun e w' => e = .returned (.int .i64 (CL.sup a b)) ∧ Ext w w' := by
  go_enter Tryd.func38, Tryd.ntmps38
  go_wp2
  go_loopw [5] (fun i wr => ∃ k : Int, 1 ≤ k ∧ k ≤ 6 ∧ i = .int .i64 k ∧ NoBoth a b k ∧ Ext w wr) (fun i _ => (6 - intOf i).toNat)
  case atStart => exact ⟨1, by omega, by omega, rfl, fun j h1 h2 => by omega, Below.refl _ _⟩
  case round =>
    obtain ⟨k, hk1, hk2, rfl, hn, hx⟩ := hrel
    obtain ⟨wo, rfl⟩ : ∃ wo : World, wo = wr := ⟨_, rfl⟩
    by_cases hk : k ≤ 5
    · go_wp2_with (go_at_call 40; refine (Covers_c _ _ _).mono ?_; rintro e w' ⟨rfl, hx1⟩; replace hx := hx.tr hx1; clear hx1)
      · have h1 : CL.cov k a = true := by assumption
        have h2 : CL.cov k b = true := by assumption
        go_ret
        exact ⟨ret_int (CL.sup_found hk1 hk hn (by simp [CL.both, h1, h2])).symm, hx⟩
      · have h2 : CL.cov k b = false := by assumption
        go_roundw
        case rel => exact ⟨k + 1, by omega, by omega, rfl, CL.none_step hn (by simp [CL.both, h2]), hx⟩
        case measure => simp [intOf]; omega
      · have h2 : ¬ CL.cov k a = true := by assumption
        go_roundw
        case rel => exact ⟨k + 1, by omega, by omega, rfl, CL.none_step hn (by simp [CL.both, h2]), hx⟩
        case measure => simp [intOf]; omega
    · go_wp2
      go_ret
      exact ⟨ret_int (CL.sup_none (by omega) hn).symm, hx⟩
end Go.Proofs.YtghhmooknjoblaaDoor

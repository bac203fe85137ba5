
/- Ledger: the mill of chapter 14: Mod, Light, grown. -/
import Derived.Test.YtaebindbadfaaaaLry
import Derived.Test.YtaebindbadfaaaaLk
namespace Go.Proofs.Ytaebindbadfaaaa
open Go.RowKit
set_option linter.unusedVariables false
set_option linter.unusedSimpArgs false
theorem clusterlocksmill.Mod_c (n m : Int) (w : World) (h1 : 1 ≤ m) (h2 : m ≤ 1048576) : Calls Try.prog 29 #[.int .i64 n, .int .i64 m] w fun e w' => e = .returned (.int .i64 (if n.tmod m < 0 then n.tmod m + m else n.tmod m)) ∧ w = w' := by
  have q1 : n.tmod m < m := Int.tmod_lt_of_pos n (by omega)
  have q2 : -m < n.tmod m := Int.lt_tmod_of_pos n (by omega)
  have q3 : wrap64 (n.tmod m + m) = n.tmod m + m := by unfold wrap64; omega
  go_enter Try.func29, Try.ntmps29
  go_wp2
  all_goals (go_ret; exact ⟨ret_int (by go_tidy; first | rfl | rw [if_pos (by omega)] | rw [if_neg (by omega)]), rfl⟩)
theorem clusterlocksmill.Light_c (l : List Int) (A : Option Addr) (c : Nat) (w : World) : Calls Try.prog 28 #[.slice A l.length c] w fun e w' => e = .returned (.bool (decide (l.length ≤ 300))) ∧ w = w' := by
  go_enter Try.func28, Try.ntmps28
  go_wp2
  go_ret
  exact ⟨ret_bool (by simp only [decide_eq_decide]; omega), rfl⟩
theorem tdiv_in {n m : Int} (h0 : 0 ≤ n) (h1 : n < 1048576) (hm : 1 ≤ m) : 0 ≤ n.tdiv m ∧ n.tdiv m < 1048576 := by
  have h2 := Int.tdiv_le_self m h0
  exact ⟨Int.tdiv_nonneg h0 (by omega), by omega⟩
theorem tmod_in {n m : Int} (h0 : 0 ≤ n) (hm : 1 ≤ m) : 0 ≤ n.tmod m ∧ n.tmod m < m := ⟨Int.tmod_nonneg m h0, Int.tmod_lt_of_pos n (by omega)⟩
set_option maxHeartbeats 3200000 in
set_option maxRecDepth 100000 in
theorem grown_c (a : CL.Am) (n : Int) (w : World) (ha : 0 ≤ a.u ∧ a.u ≤ 8) (h0 : 0 ≤ n) (h1 : n < 1048576) :
    Calls Try.prog 32 #[.agg #[.int .i64 a.m, .int .i64 a.u], .int .i64 n] w fun r w' => r = .returned (.agg #[.int .i64 (CL.grownF a n).m, .int .i64 (CL.grownF a n).u]) ∧ Ext w w' := by
  obtain ⟨m, u⟩ := a
  obtain ⟨d0, d1⟩ := tdiv_in (m := 2) h0 h1 (by omega)
  obtain ⟨r0, r1⟩ := tmod_in (m := 2) h0 (by omega)
  obtain ⟨s0, s1⟩ := tmod_in (m := 2) d0 (by omega)
  obtain ⟨t0, t1⟩ := tmod_in (m := 5) d0 (by omega)
  by_cases hc : m = 0 ∧ (0 < u ∨ n.tmod 2 = 0)
  · have HF := Lib.hid (show CL.grownF ⟨m, u⟩ n = ⟨0, u + 1 + (n.tdiv 2).tmod 2⟩ by unfold CL.grownF; rw [if_pos hc])
    obtain ⟨rfl, hc⟩ := hc
    simp only at ha
    have hw1 : IntKind.i64.wrap (u + 1) = u + 1 := IntWalk.i64_in _ (by omega)
    have hw2 : IntKind.i64.wrap (n.tdiv 2) = n.tdiv 2 := IntWalk.i64_in _ (by omega)
    have hw3 : IntKind.i64.wrap (u + 1 + (n.tdiv 2).tmod 2) = u + 1 + (n.tdiv 2).tmod 2 := IntWalk.i64_in _ (by omega)
    by_cases hu : 0 < u
    · have hud : (decide (0 < u)) = true := decide_eq_true hu
      clear hc
      go_enter Try.func32, Try.ntmps32
      go_wp2
      refine bodyPost_ret (v := .agg #[.int .i64 0, .int .i64 (u + 1 + (n.tdiv 2).tmod 2)]) (by simp [results, Try.results32, go_sem, Int.tmod_eq_emod_of_nonneg d0]) rfl ?_
      rw [HF.out]
      exact ⟨rfl, by go_grown⟩
    · have hud : (decide (0 < u)) = false := decide_eq_false hu
      have hn2 : n.tmod 2 = 0 := hc.resolve_left hu
      have hn3 : n % 2 = 0 := by rw [← Int.tmod_eq_emod_of_nonneg h0]; exact hn2
      clear hc
      go_enter Try.func32, Try.ntmps32
      go_wp2
      refine bodyPost_ret (v := .agg #[.int .i64 0, .int .i64 (u + 1 + (n.tdiv 2).tmod 2)]) (by simp [results, Try.results32, go_sem, Int.tmod_eq_emod_of_nonneg d0]) rfl ?_
      rw [HF.out]
      exact ⟨rfl, by go_grown⟩
  · have HF := Lib.hid (show CL.grownF ⟨m, u⟩ n = ⟨if (n.tdiv 2).tmod 5 = 0 then 1 else if (n.tdiv 2).tmod 5 = 1 then 2 else if (n.tdiv 2).tmod 5 = 2 then 3 else if (n.tdiv 2).tmod 5 = 3 then 4 else 5, 0⟩ by unfold CL.grownF; rw [if_neg hc])
    have hw2 : IntKind.i64.wrap (n.tdiv 2) = n.tdiv 2 := IntWalk.i64_in _ (by omega)
    have h5 : (n.tdiv 2).tmod 5 = 0 ∨ (n.tdiv 2).tmod 5 = 1 ∨ (n.tdiv 2).tmod 5 = 2 ∨ (n.tdiv 2).tmod 5 = 3 ∨ (n.tdiv 2).tmod 5 = 4 := by omega
    have hem := Int.tmod_eq_emod_of_nonneg (b := 5) d0
    clear t0 t1 s0 s1 d1
    by_cases hm : m = 0
    · have hmd : (m == 0) = true := by simpa using hm
      have hud : (decide (0 < u)) = false := decide_eq_false (fun c => hc ⟨hm, .inl c⟩)
      have hn2 : (n % 2 == 0) = false := by rw [← Int.tmod_eq_emod_of_nonneg h0]; exact beq_eq_false_iff_ne.2 (fun c => hc ⟨hm, .inr c⟩)
      clear hc hm
      go_enter Try.func32, Try.ntmps32
      rcases h5 with h5 | h5 | h5 | h5 | h5 <;> rw [h5] at HF <;> rw [h5] at hem <;> replace hem := hem.symm
      · go_wp2
        refine bodyPost_ret (v := .agg #[.int .i64 1, .int .i64 0]) (by simp [results, Try.results32, go_sem]) rfl ?_
        rw [HF.out]
        exact ⟨rfl, by go_grown⟩
      · go_wp2
        refine bodyPost_ret (v := .agg #[.int .i64 2, .int .i64 0]) (by simp [results, Try.results32, go_sem]) rfl ?_
        rw [HF.out]
        exact ⟨rfl, by go_grown⟩
      · go_wp2
        refine bodyPost_ret (v := .agg #[.int .i64 3, .int .i64 0]) (by simp [results, Try.results32, go_sem]) rfl ?_
        rw [HF.out]
        exact ⟨rfl, by go_grown⟩
      · go_wp2
        refine bodyPost_ret (v := .agg #[.int .i64 4, .int .i64 0]) (by simp [results, Try.results32, go_sem]) rfl ?_
        rw [HF.out]
        exact ⟨rfl, by go_grown⟩
      · go_wp2
        refine bodyPost_ret (v := .agg #[.int .i64 5, .int .i64 0]) (by simp [results, Try.results32, go_sem]) rfl ?_
        rw [HF.out]
        exact ⟨rfl, by go_grown⟩
    · have hmd : (m == 0) = false := beq_eq_false_iff_ne.2 hm
      clear hc hm
      go_enter Try.func32, Try.ntmps32
      rcases h5 with h5 | h5 | h5 | h5 | h5 <;> rw [h5] at HF <;> rw [h5] at hem <;> replace hem := hem.symm
      · go_wp2
        refine bodyPost_ret (v := .agg #[.int .i64 1, .int .i64 0]) (by simp [results, Try.results32, go_sem]) rfl ?_
        rw [HF.out]
        exact ⟨rfl, by go_grown⟩
      · go_wp2
        refine bodyPost_ret (v := .agg #[.int .i64 2, .int .i64 0]) (by simp [results, Try.results32, go_sem]) rfl ?_
        rw [HF.out]
        exact ⟨rfl, by go_grown⟩
      · go_wp2
        refine bodyPost_ret (v := .agg #[.int .i64 3, .int .i64 0]) (by simp [results, Try.results32, go_sem]) rfl ?_
        rw [HF.out]
        exact ⟨rfl, by go_grown⟩
      · go_wp2
        refine bodyPost_ret (v := .agg #[.int .i64 4, .int .i64 0]) (by simp [results, Try.results32, go_sem]) rfl ?_
        rw [HF.out]
        exact ⟨rfl, by go_grown⟩
      · go_wp2
        refine bodyPost_ret (v := .agg #[.int .i64 5, .int .i64 0]) (by simp [results, Try.results32, go_sem]) rfl ?_
        rw [HF.out]
        exact ⟨rfl, by go_grown⟩
end Go.Proofs.Ytaebindbadfaaaa

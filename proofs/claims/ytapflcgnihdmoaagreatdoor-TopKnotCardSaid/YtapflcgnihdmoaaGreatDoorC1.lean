/- The laws' own beginnings: out of range there is awake alone. -/
import Derived.Test.YtapflcgnihdmoaaGreatDoorB9
import Derived.Test.YtapflcgnihdmoaaGreatDoorB7
import Derived.Handy
import Derived.BigQuiet
import Derived.Deep.QuietTactic
namespace X
open Go Go.Proofs Go.RowKit Go.Lib
set_option linter.unusedVariables false
set_option linter.unusedSimpArgs false
set_option linter.unusedSectionVars false
set_option maxRecDepth 100000
variable [Luck]
theorem run_own {f : Nat} {fn : Func} (hf : Tryz.prog.funcs[f]? = some fn) (hn : (fn.name == "runtime.NumGoroutine") = false) (hb : ∃ B, fn.body = some B) (xs : Array Value) (w : World) : (callFunc f xs).run Tryz.prog w = .ok (.enter f xs) w := by
  have hn' : ¬ fn.name = "runtime.NumGoroutine" := by simpa using hn
  obtain ⟨B, hB⟩ := hb
  unfold callFunc
  simp [program, Sem.run, hf, hn', hB]
theorem awake_c (hS : Start S0) (w : World) (hT : TabOk w) : Calls Tryz.prog 5 #[] w fun e w' => e = .returned (.bool true) ∧ Below w.heap.size w w' := by
  have h := awake_ent hS w #[] hT DeepL.nil
  rw [run_own Tryz.func5 (by kernel_rfl) ⟨_, rfl⟩] at h
  refine Calls.mono h fun e w' ⟨v, he, hd, hb⟩ => ?_
  cases hd
  exact ⟨he, hb⟩
theorem knot_out (hS : Start S0) (n k l : Int) (w : World) (hT : TabOk w) (h : n < 2 ∨ 8 ≤ n ∨ k < 1 ∨ n ≤ k) : Calls Tryz.prog 4 #[.int .i64 n, .int .i64 k, .int .i64 l] w fun e w' => e = .returned (.bool true) ∧ Below w.heap.size w w' := by
  go_enter Tryz.func4, Tryz.ntmps4
  by_cases h1 : n < 2
  · have d1 : decide (n < 2) = true := by simp [h1]
    go_wp2_with (go_at_call 5; refine (awake_c hS _ hT).mono ?_; rintro e w' ⟨rfl, hb⟩)
    go_ret
    exact ⟨rfl, hb⟩
  · have d1 : decide (n < 2) = false := by simp [h1]
    by_cases h2 : 8 ≤ n
    · have d2 : decide (8 ≤ n) = true := by simp [h2]
      go_wp2_with (go_at_call 5; refine (awake_c hS _ hT).mono ?_; rintro e w' ⟨rfl, hb⟩)
      go_ret
      exact ⟨rfl, hb⟩
    · have d2 : decide (8 ≤ n) = false := by simp [h2]
      by_cases h3 : k < 1
      · have d3 : decide (k < 1) = true := by simp [h3]
        go_wp2_with (go_at_call 5; refine (awake_c hS _ hT).mono ?_; rintro e w' ⟨rfl, hb⟩)
        go_ret
        exact ⟨rfl, hb⟩
      · have d3 : decide (k < 1) = false := by simp [h3]
        have d4 : decide (n ≤ k) = true := by simp; omega
        go_wp2_with (go_at_call 5; refine (awake_c hS _ hT).mono ?_; rintro e w' ⟨rfl, hb⟩)
        go_ret
        exact ⟨rfl, hb⟩
theorem bank_out (hS : Start S0) (u n h t : Int) (w : World) (hT : TabOk w) (ho : u < 1 ∨ 8 < u ∨ n < 1 ∨ 8 < n ∨ h < 1 ∨ 8 < h ∨ u < n * h ∨ t ≤ h ∨ u < t) : Calls Tryz.prog 3 #[.int .i64 u, .int .i64 n, .int .i64 h, .int .i64 t] w fun e w' => e = .returned (.bool true) ∧ Below w.heap.size w w' := by
  go_enter Tryz.func3, Tryz.ntmps3
  by_cases c0 : u < 1
  · have d0 : decide (u < 1) = true := by simp [c0]
    go_wp2_with (go_at_call 5; refine (awake_c hS _ hT).mono ?_; rintro e w' ⟨rfl, hb⟩)
    go_ret
    exact ⟨rfl, hb⟩
  have d0 : decide (u < 1) = false := by simp [c0]
  by_cases c1 : 8 < u
  · have d1 : decide (8 < u) = true := by simp [c1]
    go_wp2_with (go_at_call 5; refine (awake_c hS _ hT).mono ?_; rintro e w' ⟨rfl, hb⟩)
    go_ret
    exact ⟨rfl, hb⟩
  have d1 : decide (8 < u) = false := by simp [c1]
  by_cases c2 : n < 1
  · have d2 : decide (n < 1) = true := by simp [c2]
    go_wp2_with (go_at_call 5; refine (awake_c hS _ hT).mono ?_; rintro e w' ⟨rfl, hb⟩)
    go_ret
    exact ⟨rfl, hb⟩
  have d2 : decide (n < 1) = false := by simp [c2]
  by_cases c3 : 8 < n
  · have d3 : decide (8 < n) = true := by simp [c3]
    go_wp2_with (go_at_call 5; refine (awake_c hS _ hT).mono ?_; rintro e w' ⟨rfl, hb⟩)
    go_ret
    exact ⟨rfl, hb⟩
  have d3 : decide (8 < n) = false := by simp [c3]
  by_cases c4 : h < 1
  · have d4 : decide (h < 1) = true := by simp [c4]
    go_wp2_with (go_at_call 5; refine (awake_c hS _ hT).mono ?_; rintro e w' ⟨rfl, hb⟩)
    go_ret
    exact ⟨rfl, hb⟩
  have d4 : decide (h < 1) = false := by simp [c4]
  by_cases c5 : 8 < h
  · have d5 : decide (8 < h) = true := by simp [c5]
    go_wp2_with (go_at_call 5; refine (awake_c hS _ hT).mono ?_; rintro e w' ⟨rfl, hb⟩)
    go_ret
    exact ⟨rfl, hb⟩
  have d5 : decide (8 < h) = false := by simp [c5]
  have q1 : 1 ≤ n * h := by rcases (show n = 1 ∨ n = 2 ∨ n = 3 ∨ n = 4 ∨ n = 5 ∨ n = 6 ∨ n = 7 ∨ n = 8 by omega) with e | e | e | e | e | e | e | e <;> subst e <;> omega
  have q2 : n * h ≤ 64 := by rcases (show n = 1 ∨ n = 2 ∨ n = 3 ∨ n = 4 ∨ n = 5 ∨ n = 6 ∨ n = 7 ∨ n = 8 by omega) with e | e | e | e | e | e | e | e <;> subst e <;> omega
  have q3 : wrap64 (n * h) = n * h := by unfold wrap64; omega
  by_cases c6 : u < n * h
  · have d6 : decide (u < n * h) = true := by simp [c6]
    go_wp2_with (go_at_call 5; refine (awake_c hS _ hT).mono ?_; rintro e w' ⟨rfl, hb⟩)
    go_ret
    exact ⟨rfl, hb⟩
  have d6 : decide (u < n * h) = false := by simp [c6]
  by_cases c7 : t ≤ h
  · have d7 : decide (t ≤ h) = true := by simp [c7]
    go_wp2_with (go_at_call 5; refine (awake_c hS _ hT).mono ?_; rintro e w' ⟨rfl, hb⟩)
    go_ret
    exact ⟨rfl, hb⟩
  have d7 : decide (t ≤ h) = false := by simp [c7]
  have d8 : decide (u < t) = true := by simp; omega
  go_wp2_with (go_at_call 5; refine (awake_c hS _ hT).mono ?_; rintro e w' ⟨rfl, hb⟩)
  go_ret
  exact ⟨rfl, hb⟩
end X

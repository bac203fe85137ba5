
/- The walks of package amount and of its reference, fifth part: texts of amounts. -/
import Derived.Test.YtghhmooknjoblaaDoorAw4
import Derived.Test.YtghhmooknjoblaaDoorCv
namespace Go.Proofs.YtghhmooknjoblaaDoor
open Go.RowKit
theorem dig_cases {k : Int} (h0 : 0 ≤ k) (h9 : k ≤ 9) : k = 0 ∨ k = 1 ∨ k = 2 ∨ k = 3 ∨ k = 4 ∨ k = 5 ∨ k = 6 ∨ k = 7 ∨ k = 8 ∨ k = 9 := by omega
theorem small_c (k : Int) (h0 : 0 ≤ k) (h9 : k ≤ 9) (w : World) : Calls Tryd.prog 46 #[.int .i64 k] w fun e w' => e = .returned (.string ⟨(CL.dg1 k).toArray⟩) ∧ w = w' := by
  rcases dig_cases h0 h9 with rfl | rfl | rfl | rfl | rfl | rfl | rfl | rfl | rfl | rfl <;> clear h0 h9
  all_goals
    go_enter Tryd.func46, Tryd.ntmps46
    go_wp2
    go_ret
    exact ⟨rfl, rfl⟩
theorem fmtInt_c (k : Int) (h0 : 0 ≤ k) (h9 : k ≤ 9) (w : World) : Calls Tryd.prog 45 #[.int .i64 k, .int .i64 10] w fun e w' => e = .returned (.string ⟨(CL.dg1 k).toArray⟩) ∧ w = w' := by
  have h1 : k < 100 := by omega
  go_enter Tryd.func45, Tryd.ntmps45
  go_wp2_with (go_at_call 46; refine (small_c _ h0 h9 _).mono ?_; rintro e w' ⟨rfl, rfl⟩)
  go_ret
  exact ⟨rfl, rfl⟩
theorem iItoa_c (k : Int) (h0 : 0 ≤ k) (h9 : k ≤ 9) (w : World) : Calls Tryd.prog 43 #[.int .i64 k] w fun e w' => e = .returned (.string ⟨(CL.dg1 k).toArray⟩) ∧ w = w' := by
  go_enter Tryd.func43, Tryd.ntmps43
  go_wp2_with (go_at_call 45; refine (fmtInt_c _ h0 h9 _).mono ?_; rintro e w' ⟨rfl, rfl⟩)
  go_ret
  exact ⟨rfl, rfl⟩
theorem Itoa_c (k : Int) (h0 : 0 ≤ k) (h9 : k ≤ 9) (w : World) : Calls Tryd.prog 34 #[.int .i64 k] w fun e w' => e = .returned (.string ⟨(CL.dg1 k).toArray⟩) ∧ w = w' := by
  go_enter Tryd.func34, Tryd.ntmps34
  go_wp2_with (go_at_call 43; refine (iItoa_c _ h0 h9 _).mono ?_; rintro e w' ⟨rfl, rfl⟩)
  go_ret
  exact ⟨rfl, rfl⟩
theorem Decimal_d (k : Int) (h0 : 0 ≤ k) (h9 : k ≤ 9) (w : World) : Calls Tryd.prog 37 #[.int .i64 k] w fun e w' => e = .returned (.string ⟨(CL.dg1 k).toArray⟩) ∧ Ext w w' := by
  have hcv := conv_one (P := Tryd.prog) 47 9 5 Tryd.underlying47 Tryd.underlying5 Tryd.underlying9 w
  rcases dig_cases h0 h9 with rfl | rfl | rfl | rfl | rfl | rfl | rfl | rfl | rfl | rfl <;> clear h0 h9
  all_goals
    go_enter Tryd.func37, Tryd.ntmps37
    go_wp2
    go_ret
    exact ⟨rfl, Ext.new _ _⟩
theorem fmtA_z {a b : Int} (h1 : CL.zer ⟨a, b⟩ = true) : CL.fmtA ⟨a, b⟩ = [45] := by unfold CL.fmtA; rw [h1]; rfl
theorem fmtA_m {a : Int} (h1 : CL.zer ⟨a, 0⟩ = false) : CL.fmtA ⟨a, 0⟩ = CL.nm a := by unfold CL.fmtA; rw [h1]; rfl
theorem fmtA_u {b : Int} (h1 : CL.zer ⟨0, b⟩ = false) (h2 : b ≠ 0) (h4 : 1 ≤ b) (h5 : b ≤ 8) : CL.fmtA ⟨0, b⟩ = 42 :: CL.dg1 b := by
  unfold CL.fmtA; rw [h1]; simp [h2, h4, h5]
theorem fmtA_n {a b : Int} (h1 : CL.zer ⟨a, b⟩ = false) (h2 : b ≠ 0) (h4 : ¬ (a = 0 ∧ 1 ≤ b ∧ b ≤ 8)) : CL.fmtA ⟨a, b⟩ = [] := by
  unfold CL.fmtA; rw [h1]; simp only [h2, h4, if_false, Bool.false_eq_true]
theorem dg1_len (k : Int) : (CL.dg1 k).length = 1 := rfl
theorem ret_star {l m : List UInt8} (h : m = 42 :: l) : Ending.returned (.string (⟨#[42]⟩ ++ ⟨l.toArray⟩)) = .returned (.string ⟨m.toArray⟩) := by
  rw [h, show (⟨#[42]⟩ : ByteArray) ++ ⟨l.toArray⟩ = _ from bytes_append [42] l]; rfl
set_option maxHeartbeats 800000 in
theorem amount.Format_c (a b : Int) (w : World) : Calls Tryd.prog 19 #[.agg #[.int .i64 a, .int .i64 b]] w fun e w' => e = .returned (.string ⟨(CL.fmtA ⟨a, b⟩).toArray⟩) ∧ Ext w w' := by
  by_cases z : CL.zer ⟨a, b⟩ = true
  · have HA := Lib.hid (fmtA_z z)
    go_enter Tryd.func19, Tryd.ntmps19
    go_wp2_with (first
        | (go_at_call 15; refine (amount.Zero_c _ _ _).mono ?_; rintro e w' ⟨rfl, hx1⟩; have hx := Ext.tr (a := w) (by go_grown) hx1; have hz := hx.size; obtain ⟨hc1, hf1⟩ := bcell hx1; have hz1 := hx1.size; (try simp only [World.size_alloc] at hz1); (try have hl0 : w.heap.size < w'.heap.size := by omega); (try have hl1 : w.heap.size + 1 < w'.heap.size := by omega); (try have hl2 : w.heap.size + 1 + 1 < w'.heap.size := by omega); (try have hl3 : w.heap.size + 1 + 1 + 1 < w'.heap.size := by omega); clear hx1))
    go_ret
    exact ⟨ret_str HA.out.symm, by go_grown⟩
  · simp only [Bool.not_eq_true] at z
    by_cases hb : b = 0
    · subst hb
      have HA := Lib.hid (fmtA_m z)
      go_enter Tryd.func19, Tryd.ntmps19
      go_wp2_with (first
        | (go_at_call 15; refine (amount.Zero_c _ _ _).mono ?_; rintro e w' ⟨rfl, hx1⟩; have hx := Ext.tr (a := w) (by go_grown) hx1; have hz := hx.size; obtain ⟨hc1, hf1⟩ := bcell hx1; have hz1 := hx1.size; (try simp only [World.size_alloc] at hz1); (try have hl0 : w.heap.size < w'.heap.size := by omega); (try have hl1 : w.heap.size + 1 < w'.heap.size := by omega); (try have hl2 : w.heap.size + 1 + 1 < w'.heap.size := by omega); (try have hl3 : w.heap.size + 1 + 1 + 1 < w'.heap.size := by omega); clear hx1)
        | (go_at_call 33; refine (Go.Proofs.YtghhmooknjoblaaDoor.Format_c _ _).mono ?_; rintro e w' ⟨rfl, rfl⟩))
      go_ret
      exact ⟨ret_str HA.out.symm, by go_grown⟩
    · have hb0 : (b == 0) = false := by simpa using hb
      by_cases hg : a = 0 ∧ 1 ≤ b ∧ b ≤ 8
      · obtain ⟨rfl, h1, h8⟩ := hg
        have HA := Lib.hid (fmtA_u z hb h1 h8)
        have hl := dg1_len b
        clear hb
        go_enter Tryd.func19, Tryd.ntmps19
        go_wp2_with (first
        | (go_at_call 15; refine (amount.Zero_c _ _ _).mono ?_; rintro e w' ⟨rfl, hx1⟩; have hx := Ext.tr (a := w) (by go_grown) hx1; have hz := hx.size; obtain ⟨hc1, hf1⟩ := bcell hx1; have hz1 := hx1.size; (try simp only [World.size_alloc] at hz1); (try have hl0 : w.heap.size < w'.heap.size := by omega); (try have hl1 : w.heap.size + 1 < w'.heap.size := by omega); (try have hl2 : w.heap.size + 1 + 1 < w'.heap.size := by omega); (try have hl3 : w.heap.size + 1 + 1 + 1 < w'.heap.size := by omega); clear hx1)
        | (go_at_call 34; refine (Itoa_c _ (by omega) (by omega) _).mono ?_; rintro e w' ⟨rfl, rfl⟩))
        go_ret
        exact ⟨ret_star HA.out, by go_grown⟩
      · have HA := Lib.hid (fmtA_n z hb hg)
        clear hb
        by_cases ha : a = 0
        · subst ha
          by_cases h1 : 1 ≤ b
          · have h8 : ¬ b ≤ 8 := fun h => hg ⟨rfl, h1, h⟩
            clear hg
            go_enter Tryd.func19, Tryd.ntmps19
            go_wp2_with (first
        | (go_at_call 15; refine (amount.Zero_c _ _ _).mono ?_; rintro e w' ⟨rfl, hx1⟩; have hx := Ext.tr (a := w) (by go_grown) hx1; have hz := hx.size; obtain ⟨hc1, hf1⟩ := bcell hx1; have hz1 := hx1.size; (try simp only [World.size_alloc] at hz1); (try have hl0 : w.heap.size < w'.heap.size := by omega); (try have hl1 : w.heap.size + 1 < w'.heap.size := by omega); (try have hl2 : w.heap.size + 1 + 1 < w'.heap.size := by omega); (try have hl3 : w.heap.size + 1 + 1 + 1 < w'.heap.size := by omega); clear hx1))
            go_ret
            exact ⟨ret_str HA.out.symm, by go_grown⟩
          · clear hg
            go_enter Tryd.func19, Tryd.ntmps19
            go_wp2_with (first
        | (go_at_call 15; refine (amount.Zero_c _ _ _).mono ?_; rintro e w' ⟨rfl, hx1⟩; have hx := Ext.tr (a := w) (by go_grown) hx1; have hz := hx.size; obtain ⟨hc1, hf1⟩ := bcell hx1; have hz1 := hx1.size; (try simp only [World.size_alloc] at hz1); (try have hl0 : w.heap.size < w'.heap.size := by omega); (try have hl1 : w.heap.size + 1 < w'.heap.size := by omega); (try have hl2 : w.heap.size + 1 + 1 < w'.heap.size := by omega); (try have hl3 : w.heap.size + 1 + 1 + 1 < w'.heap.size := by omega); clear hx1))
            go_ret
            exact ⟨ret_str HA.out.symm, by go_grown⟩
        · have ha0 : (a == 0) = false := by simpa using ha
          clear hg ha
          go_enter Tryd.func19, Tryd.ntmps19
          go_wp2_with (first
        | (go_at_call 15; refine (amount.Zero_c _ _ _).mono ?_; rintro e w' ⟨rfl, hx1⟩; have hx := Ext.tr (a := w) (by go_grown) hx1; have hz := hx.size; obtain ⟨hc1, hf1⟩ := bcell hx1; have hz1 := hx1.size; (try simp only [World.size_alloc] at hz1); (try have hl0 : w.heap.size < w'.heap.size := by omega); (try have hl1 : w.heap.size + 1 < w'.heap.size := by omega); (try have hl2 : w.heap.size + 1 + 1 < w'.heap.size := by omega); (try have hl3 : w.heap.size + 1 + 1 + 1 < w'.heap.size := by omega); clear hx1))
          go_ret
          exact ⟨ret_str HA.out.symm, by go_grown⟩
set_option maxHeartbeats 800000 in
theorem clusterlocksref04.Format_c (a b : Int) (w : World) : Calls Tryd.prog 20 #[.agg #[.int .i64 a, .int .i64 b]] w fun e w' => e = .returned (.string ⟨(CL.fmtA ⟨a, b⟩).toArray⟩) ∧ Ext w w' := by
  by_cases z : CL.zer ⟨a, b⟩ = true
  · have HA := Lib.hid (fmtA_z z)
    go_enter Tryd.func20, Tryd.ntmps20
    go_wp2_with (first
        | (go_at_call 35; refine (clusterlocksref04.Zero_c _ _ _).mono ?_; rintro e w' ⟨rfl, hx1⟩; have hx := Ext.tr (a := w) (by go_grown) hx1; have hz := hx.size; obtain ⟨hc1, hf1⟩ := bcell hx1; have hz1 := hx1.size; (try simp only [World.size_alloc] at hz1); (try have hl0 : w.heap.size < w'.heap.size := by omega); (try have hl1 : w.heap.size + 1 < w'.heap.size := by omega); (try have hl2 : w.heap.size + 1 + 1 < w'.heap.size := by omega); (try have hl3 : w.heap.size + 1 + 1 + 1 < w'.heap.size := by omega); clear hx1))
    go_ret
    exact ⟨ret_str HA.out.symm, by go_grown⟩
  · simp only [Bool.not_eq_true] at z
    by_cases hb : b = 0
    · subst hb
      have HA := Lib.hid (fmtA_m z)
      go_enter Tryd.func20, Tryd.ntmps20
      go_wp2_with (first
        | (go_at_call 35; refine (clusterlocksref04.Zero_c _ _ _).mono ?_; rintro e w' ⟨rfl, hx1⟩; have hx := Ext.tr (a := w) (by go_grown) hx1; have hz := hx.size; obtain ⟨hc1, hf1⟩ := bcell hx1; have hz1 := hx1.size; (try simp only [World.size_alloc] at hz1); (try have hl0 : w.heap.size < w'.heap.size := by omega); (try have hl1 : w.heap.size + 1 < w'.heap.size := by omega); (try have hl2 : w.heap.size + 1 + 1 < w'.heap.size := by omega); (try have hl3 : w.heap.size + 1 + 1 + 1 < w'.heap.size := by omega); clear hx1)
        | (go_at_call 36; refine (Go.Proofs.YtghhmooknjoblaaDoor.RFormat_c _ _).mono ?_; rintro e w' ⟨rfl, rfl⟩))
      go_ret
      exact ⟨ret_str HA.out.symm, by go_grown⟩
    · have hb0 : (b == 0) = false := by simpa using hb
      by_cases hg : a = 0 ∧ 1 ≤ b ∧ b ≤ 8
      · obtain ⟨rfl, h1, h8⟩ := hg
        have HA := Lib.hid (fmtA_u z hb h1 h8)
        have hl := dg1_len b
        clear hb
        go_enter Tryd.func20, Tryd.ntmps20
        go_wp2_with (first
        | (go_at_call 35; refine (clusterlocksref04.Zero_c _ _ _).mono ?_; rintro e w' ⟨rfl, hx1⟩; have hx := Ext.tr (a := w) (by go_grown) hx1; have hz := hx.size; obtain ⟨hc1, hf1⟩ := bcell hx1; have hz1 := hx1.size; (try simp only [World.size_alloc] at hz1); (try have hl0 : w.heap.size < w'.heap.size := by omega); (try have hl1 : w.heap.size + 1 < w'.heap.size := by omega); (try have hl2 : w.heap.size + 1 + 1 < w'.heap.size := by omega); (try have hl3 : w.heap.size + 1 + 1 + 1 < w'.heap.size := by omega); clear hx1)
        | (go_at_call 37; refine (Decimal_d _ (by omega) (by omega) _).mono ?_; rintro e w' ⟨rfl, hx1⟩; have hx := Ext.tr (a := w) (by go_grown) hx1; have hz := hx.size; obtain ⟨hc1, hf1⟩ := bcell hx1; have hz1 := hx1.size; (try simp only [World.size_alloc] at hz1); (try have hl0 : w.heap.size < w'.heap.size := by omega); (try have hl1 : w.heap.size + 1 < w'.heap.size := by omega); (try have hl2 : w.heap.size + 1 + 1 < w'.heap.size := by omega); (try have hl3 : w.heap.size + 1 + 1 + 1 < w'.heap.size := by omega); clear hx1))
        go_ret
        exact ⟨ret_star HA.out, by go_grown⟩
      · have HA := Lib.hid (fmtA_n z hb hg)
        clear hb
        by_cases ha : a = 0
        · subst ha
          by_cases h1 : 1 ≤ b
          · have h8 : ¬ b ≤ 8 := fun h => hg ⟨rfl, h1, h⟩
            clear hg
            go_enter Tryd.func20, Tryd.ntmps20
            go_wp2_with (first
        | (go_at_call 35; refine (clusterlocksref04.Zero_c _ _ _).mono ?_; rintro e w' ⟨rfl, hx1⟩; have hx := Ext.tr (a := w) (by go_grown) hx1; have hz := hx.size; obtain ⟨hc1, hf1⟩ := bcell hx1; have hz1 := hx1.size; (try simp only [World.size_alloc] at hz1); (try have hl0 : w.heap.size < w'.heap.size := by omega); (try have hl1 : w.heap.size + 1 < w'.heap.size := by omega); (try have hl2 : w.heap.size + 1 + 1 < w'.heap.size := by omega); (try have hl3 : w.heap.size + 1 + 1 + 1 < w'.heap.size := by omega); clear hx1))
            go_ret
            exact ⟨ret_str HA.out.symm, by go_grown⟩
          · clear hg
            go_enter Tryd.func20, Tryd.ntmps20
            go_wp2_with (first
        | (go_at_call 35; refine (clusterlocksref04.Zero_c _ _ _).mono ?_; rintro e w' ⟨rfl, hx1⟩; have hx := Ext.tr (a := w) (by go_grown) hx1; have hz := hx.size; obtain ⟨hc1, hf1⟩ := bcell hx1; have hz1 := hx1.size; (try simp only [World.size_alloc] at hz1); (try have hl0 : w.heap.size < w'.heap.size := by omega); (try have hl1 : w.heap.size + 1 < w'.heap.size := by omega); (try have hl2 : w.heap.size + 1 + 1 < w'.heap.size := by omega); (try have hl3 : w.heap.size + 1 + 1 + 1 < w'.heap.size := by omega); clear hx1))
            go_ret
            exact ⟨ret_str HA.out.symm, by go_grown⟩
        · have ha0 : (a == 0) = false := by simpa using ha
          clear hg ha
          go_enter Tryd.func20, Tryd.ntmps20
          go_wp2_with (first
        | (go_at_call 35; refine (clusterlocksref04.Zero_c _ _ _).mono ?_; rintro e w' ⟨rfl, hx1⟩; have hx := Ext.tr (a := w) (by go_grown) hx1; have hz := hx.size; obtain ⟨hc1, hf1⟩ := bcell hx1; have hz1 := hx1.size; (try simp only [World.size_alloc] at hz1); (try have hl0 : w.heap.size < w'.heap.size := by omega); (try have hl1 : w.heap.size + 1 < w'.heap.size := by omega); (try have hl2 : w.heap.size + 1 + 1 < w'.heap.size := by omega); (try have hl3 : w.heap.size + 1 + 1 + 1 < w'.heap.size := by omega); clear hx1))
          go_ret
          exact ⟨ret_str HA.out.symm, by go_grown⟩
end Go.Proofs.YtghhmooknjoblaaDoor

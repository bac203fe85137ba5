
/- The walks of package amount and of its reference: each function once, with what it returns. -/
import Derived.Test.YtghhmooknjoblaaDoorAm
import Derived.Test.YtghhmooknjoblaaDoorMw2
import Derived.Test.YtghhmooknjoblaaDoorBk
namespace Go.Proofs.YtghhmooknjoblaaDoor
open Go.RowKit
theorem am_eqIn (a b c d : Int) (W : World) : (Op.equalIn 10000 25 (.agg #[.int .i64 a, .int .i64 b]) (.agg #[.int .i64 c, .int .i64 d])).run Tryd.prog W = .ok (decide (a = c ∧ b = d)) W := by
  have h1 : Tryd.prog.stoodInHeld 25 = false := by kernel_rfl
  rw [run_equalIn_struct (d := 9999) _ _ _ _ (by simp [Program.fieldsOf, Tryd.underlying25]) h1]
  simp [Program.fieldsOf, Tryd.underlying25, Op.eqFields, go_sem, Tryd.underlying3]
  by_cases e1 : a = c <;> by_cases e2 : b = d <;> simp [e1, e2]
theorem am_eql (a b c d : Int) (W : World) : (binOp .eql 25 (.agg #[.int .i64 a, .int .i64 b]) (.agg #[.int .i64 c, .int .i64 d])).run Tryd.prog W = .ok (.bool (decide (a = c ∧ b = d))) W := by
  rw [run_eql_struct, am_eqIn]; rfl
theorem am_neq (a b c d : Int) (W : World) : (binOp .neq 25 (.agg #[.int .i64 a, .int .i64 b]) (.agg #[.int .i64 c, .int .i64 d])).run Tryd.prog W = .ok (.bool (!decide (a = c ∧ b = d))) W := by
  rw [run_neq_struct, am_eqIn]; rfl
theorem am_guard : Tryd.prog.eqGuardType Tryd.prog.depth 25 = false := by kernel_rfl
theorem am_zero (a b : Int) (W : World) : (binOp .eql 25 (.agg #[.int .i64 a, .int .i64 b]) (.agg #[.int .i64 0, .int .i64 0])).run Tryd.prog W = .ok (.bool (CL.zer ⟨a, b⟩)) W := am_eql a b 0 0 W
theorem amount.Shaped_c (n : ByteArray) (k u h : Int) (w : World) : Calls Tryd.prog 13 #[.agg #[.string n, .int .i64 k, .int .i64 u, .int .i64 h]] w fun e w' => e = .returned (.bool (CL.shaped k u)) ∧ Ext w w' := by
  go_enter Tryd.func13, Tryd.ntmps13
  go_wp2
  all_goals (go_ret; refine ⟨ret_bool ?_, ?_⟩; · go_tidy; grind [CL.shaped]
             · go_grown)
theorem clusterlocksref04.Shaped_c (n : ByteArray) (k u h : Int) (w : World) : Calls Tryd.prog 14 #[.agg #[.string n, .int .i64 k, .int .i64 u, .int .i64 h]] w fun e w' => e = .returned (.bool (CL.shaped k u)) ∧ Ext w w' := by
  go_enter Tryd.func14, Tryd.ntmps14
  go_wp2
  all_goals (go_ret; refine ⟨ret_bool ?_, ?_⟩; · go_tidy; grind [CL.shaped]
             · go_grown)
theorem amount.Zero_c (a b : Int) (w : World) : Calls Tryd.prog 15 #[.agg #[.int .i64 a, .int .i64 b]] w fun e w' => e = .returned (.bool (CL.zer ⟨a, b⟩)) ∧ Ext w w' := by
  have hq := am_zero a b
  have hg := am_guard
  go_enter Tryd.func15, Tryd.ntmps15
  go_wp2
  go_ret
  exact ⟨rfl, Ext.new _ _⟩
theorem clusterlocksref04.Zero_c (a b : Int) (w : World) : Calls Tryd.prog 35 #[.agg #[.int .i64 a, .int .i64 b]] w fun e w' => e = .returned (.bool (CL.zer ⟨a, b⟩)) ∧ Ext w w' := by
  have hq := am_zero a b
  have hg := am_guard
  go_enter Tryd.func35, Tryd.ntmps35
  go_wp2
  go_ret
  exact ⟨rfl, Ext.new _ _⟩
theorem amount.Fits_c (n : ByteArray) (k u h a b : Int) (w : World) : Calls Tryd.prog 16 #[.agg #[.string n, .int .i64 k, .int .i64 u, .int .i64 h], .agg #[.int .i64 a, .int .i64 b]] w fun e w' => e = .returned (.bool (CL.fits k u ⟨a, b⟩)) ∧ Ext w w' := by
  go_enter Tryd.func16, Tryd.ntmps16
  go_wp2_with (first
        | (go_at_call 13; refine (amount.Shaped_c _ _ _ _ _).mono ?_; rintro e w' ⟨rfl, hx1⟩; have hx := Ext.tr (a := w) (by go_grown) hx1; have hz := hx.size; obtain ⟨hc1, hf1⟩ := bcell hx1; have hz1 := hx1.size; (try simp only [World.size_alloc] at hz1); (try have hl0 : w.heap.size < w'.heap.size := by omega); (try have hl1 : w.heap.size + 1 < w'.heap.size := by omega); (try have hl2 : w.heap.size + 1 + 1 < w'.heap.size := by omega); (try have hl3 : w.heap.size + 1 + 1 + 1 < w'.heap.size := by omega); clear hx1)
        | (go_at_call 29; refine (Valid_c _ _).mono ?_; rintro e w' ⟨rfl, rfl⟩))
  all_goals (go_ret; refine ⟨ret_bool ?_, ?_⟩; · go_tidy; grind [CL.fits]
             · go_grown)
theorem clusterlocksref04.Fits_c (n : ByteArray) (k u h a b : Int) (w : World) : Calls Tryd.prog 17 #[.agg #[.string n, .int .i64 k, .int .i64 u, .int .i64 h], .agg #[.int .i64 a, .int .i64 b]] w fun e w' => e = .returned (.bool (CL.fits k u ⟨a, b⟩)) ∧ Ext w w' := by
  go_enter Tryd.func17, Tryd.ntmps17
  go_wp2_with (first
        | (go_at_call 14; refine (clusterlocksref04.Shaped_c _ _ _ _ _).mono ?_; rintro e w' ⟨rfl, hx1⟩; have hx := Ext.tr (a := w) (by go_grown) hx1; have hz := hx.size; obtain ⟨hc1, hf1⟩ := bcell hx1; have hz1 := hx1.size; (try simp only [World.size_alloc] at hz1); (try have hl0 : w.heap.size < w'.heap.size := by omega); (try have hl1 : w.heap.size + 1 < w'.heap.size := by omega); (try have hl2 : w.heap.size + 1 + 1 < w'.heap.size := by omega); (try have hl3 : w.heap.size + 1 + 1 + 1 < w'.heap.size := by omega); clear hx1)
        | (go_at_call 30; refine (RValid_c _ _).mono ?_; rintro e w' ⟨rfl, rfl⟩))
  all_goals (go_ret; refine ⟨ret_bool ?_, ?_⟩; · go_tidy; grind [CL.fits]
             · go_grown)
theorem amount.permitted_c (n : ByteArray) (k u h a b : Int) (w : World) : Calls Tryd.prog 31 #[.agg #[.string n, .int .i64 k, .int .i64 u, .int .i64 h], .agg #[.int .i64 a, .int .i64 b]] w fun e w' => e = .returned (.bool (CL.perm k u ⟨a, b⟩)) ∧ Ext w w' := by
  go_enter Tryd.func31, Tryd.ntmps31
  go_wp2_with (first
        | (go_at_call 13; refine (amount.Shaped_c _ _ _ _ _).mono ?_; rintro e w' ⟨rfl, hx1⟩; have hx := Ext.tr (a := w) (by go_grown) hx1; have hz := hx.size; obtain ⟨hc1, hf1⟩ := bcell hx1; have hz1 := hx1.size; (try simp only [World.size_alloc] at hz1); (try have hl0 : w.heap.size < w'.heap.size := by omega); (try have hl1 : w.heap.size + 1 < w'.heap.size := by omega); (try have hl2 : w.heap.size + 1 + 1 < w'.heap.size := by omega); (try have hl3 : w.heap.size + 1 + 1 + 1 < w'.heap.size := by omega); clear hx1)
        | (go_at_call 15; refine (amount.Zero_c _ _ _).mono ?_; rintro e w' ⟨rfl, hx1⟩; have hx := Ext.tr (a := w) (by go_grown) hx1; have hz := hx.size; obtain ⟨hc1, hf1⟩ := bcell hx1; have hz1 := hx1.size; (try simp only [World.size_alloc] at hz1); (try have hl0 : w.heap.size < w'.heap.size := by omega); (try have hl1 : w.heap.size + 1 < w'.heap.size := by omega); (try have hl2 : w.heap.size + 1 + 1 < w'.heap.size := by omega); (try have hl3 : w.heap.size + 1 + 1 + 1 < w'.heap.size := by omega); clear hx1)
        | (go_at_call 16; refine (amount.Fits_c _ _ _ _ _ _ _).mono ?_; rintro e w' ⟨rfl, hx1⟩; have hx := Ext.tr (a := w) (by go_grown) hx1; have hz := hx.size; obtain ⟨hc1, hf1⟩ := bcell hx1; have hz1 := hx1.size; (try simp only [World.size_alloc] at hz1); (try have hl0 : w.heap.size < w'.heap.size := by omega); (try have hl1 : w.heap.size + 1 < w'.heap.size := by omega); (try have hl2 : w.heap.size + 1 + 1 < w'.heap.size := by omega); (try have hl3 : w.heap.size + 1 + 1 + 1 < w'.heap.size := by omega); clear hx1))
  all_goals (go_ret; refine ⟨ret_bool ?_, ?_⟩; · go_tidy; grind [CL.perm]
             · go_grown)
theorem clusterlocksref04.Permitted_c (n : ByteArray) (k u h a b : Int) (w : World) : Calls Tryd.prog 21 #[.agg #[.string n, .int .i64 k, .int .i64 u, .int .i64 h], .agg #[.int .i64 a, .int .i64 b]] w fun e w' => e = .returned (.bool (CL.perm k u ⟨a, b⟩)) ∧ Ext w w' := by
  go_enter Tryd.func21, Tryd.ntmps21
  go_wp2_with (first
        | (go_at_call 14; refine (clusterlocksref04.Shaped_c _ _ _ _ _).mono ?_; rintro e w' ⟨rfl, hx1⟩; have hx := Ext.tr (a := w) (by go_grown) hx1; have hz := hx.size; obtain ⟨hc1, hf1⟩ := bcell hx1; have hz1 := hx1.size; (try simp only [World.size_alloc] at hz1); (try have hl0 : w.heap.size < w'.heap.size := by omega); (try have hl1 : w.heap.size + 1 < w'.heap.size := by omega); (try have hl2 : w.heap.size + 1 + 1 < w'.heap.size := by omega); (try have hl3 : w.heap.size + 1 + 1 + 1 < w'.heap.size := by omega); clear hx1)
        | (go_at_call 35; refine (clusterlocksref04.Zero_c _ _ _).mono ?_; rintro e w' ⟨rfl, hx1⟩; have hx := Ext.tr (a := w) (by go_grown) hx1; have hz := hx.size; obtain ⟨hc1, hf1⟩ := bcell hx1; have hz1 := hx1.size; (try simp only [World.size_alloc] at hz1); (try have hl0 : w.heap.size < w'.heap.size := by omega); (try have hl1 : w.heap.size + 1 < w'.heap.size := by omega); (try have hl2 : w.heap.size + 1 + 1 < w'.heap.size := by omega); (try have hl3 : w.heap.size + 1 + 1 + 1 < w'.heap.size := by omega); clear hx1)
        | (go_at_call 17; refine (clusterlocksref04.Fits_c _ _ _ _ _ _ _).mono ?_; rintro e w' ⟨rfl, hx1⟩; have hx := Ext.tr (a := w) (by go_grown) hx1; have hz := hx.size; obtain ⟨hc1, hf1⟩ := bcell hx1; have hz1 := hx1.size; (try simp only [World.size_alloc] at hz1); (try have hl0 : w.heap.size < w'.heap.size := by omega); (try have hl1 : w.heap.size + 1 < w'.heap.size := by omega); (try have hl2 : w.heap.size + 1 + 1 < w'.heap.size := by omega); (try have hl3 : w.heap.size + 1 + 1 + 1 < w'.heap.size := by omega); clear hx1))
  all_goals (go_ret; refine ⟨ret_bool ?_, ?_⟩; · go_tidy; grind [CL.perm]
             · go_grown)
set_option maxHeartbeats 800000 in
theorem amount.Covers_c (n : ByteArray) (k u h a b c d : Int) (w : World) : Calls Tryd.prog 26 #[.agg #[.string n, .int .i64 k, .int .i64 u, .int .i64 h], .agg #[.int .i64 a, .int .i64 b], .agg #[.int .i64 c, .int .i64 d]] w fun e w' => e = .returned (.bool (CL.covs k u ⟨a, b⟩ ⟨c, d⟩)) ∧ Ext w w' := by
  go_enter Tryd.func26, Tryd.ntmps26
  go_wp2_with (first
        | (go_at_call 31; refine (amount.permitted_c _ _ _ _ _ _ _).mono ?_; rintro e w' ⟨rfl, hx1⟩; have hx := Ext.tr (a := w) (by go_grown) hx1; have hz := hx.size; obtain ⟨hc1, hf1⟩ := bcell hx1; have hz1 := hx1.size; (try simp only [World.size_alloc] at hz1); (try have hl0 : w.heap.size < w'.heap.size := by omega); (try have hl1 : w.heap.size + 1 < w'.heap.size := by omega); (try have hl2 : w.heap.size + 1 + 1 < w'.heap.size := by omega); (try have hl3 : w.heap.size + 1 + 1 + 1 < w'.heap.size := by omega); clear hx1)
        | (go_at_call 15; refine (amount.Zero_c _ _ _).mono ?_; rintro e w' ⟨rfl, hx1⟩; have hx := Ext.tr (a := w) (by go_grown) hx1; have hz := hx.size; obtain ⟨hc1, hf1⟩ := bcell hx1; have hz1 := hx1.size; (try simp only [World.size_alloc] at hz1); (try have hl0 : w.heap.size < w'.heap.size := by omega); (try have hl1 : w.heap.size + 1 < w'.heap.size := by omega); (try have hl2 : w.heap.size + 1 + 1 < w'.heap.size := by omega); (try have hl3 : w.heap.size + 1 + 1 + 1 < w'.heap.size := by omega); clear hx1)
        | (go_at_call 40; refine (Go.Proofs.YtghhmooknjoblaaDoor.Covers_c _ _ _).mono ?_; rintro e w' ⟨rfl, hx1⟩; have hx := Ext.tr (a := w) (by go_grown) hx1; have hz := hx.size; obtain ⟨hc1, hf1⟩ := bcell hx1; have hz1 := hx1.size; (try simp only [World.size_alloc] at hz1); (try have hl0 : w.heap.size < w'.heap.size := by omega); (try have hl1 : w.heap.size + 1 < w'.heap.size := by omega); (try have hl2 : w.heap.size + 1 + 1 < w'.heap.size := by omega); (try have hl3 : w.heap.size + 1 + 1 + 1 < w'.heap.size := by omega); clear hx1))
  all_goals (go_ret; refine ⟨ret_bool ?_, ?_⟩; · go_tidy; grind [CL.covs]
             · go_grown)
set_option maxHeartbeats 800000 in
theorem clusterlocksref04.Covers_c (n : ByteArray) (k u h a b c d : Int) (w : World) : Calls Tryd.prog 27 #[.agg #[.string n, .int .i64 k, .int .i64 u, .int .i64 h], .agg #[.int .i64 a, .int .i64 b], .agg #[.int .i64 c, .int .i64 d]] w fun e w' => e = .returned (.bool (CL.covs k u ⟨a, b⟩ ⟨c, d⟩)) ∧ Ext w w' := by
  go_enter Tryd.func27, Tryd.ntmps27
  go_wp2_with (first
        | (go_at_call 21; refine (clusterlocksref04.Permitted_c _ _ _ _ _ _ _).mono ?_; rintro e w' ⟨rfl, hx1⟩; have hx := Ext.tr (a := w) (by go_grown) hx1; have hz := hx.size; obtain ⟨hc1, hf1⟩ := bcell hx1; have hz1 := hx1.size; (try simp only [World.size_alloc] at hz1); (try have hl0 : w.heap.size < w'.heap.size := by omega); (try have hl1 : w.heap.size + 1 < w'.heap.size := by omega); (try have hl2 : w.heap.size + 1 + 1 < w'.heap.size := by omega); (try have hl3 : w.heap.size + 1 + 1 + 1 < w'.heap.size := by omega); clear hx1)
        | (go_at_call 35; refine (clusterlocksref04.Zero_c _ _ _).mono ?_; rintro e w' ⟨rfl, hx1⟩; have hx := Ext.tr (a := w) (by go_grown) hx1; have hz := hx.size; obtain ⟨hc1, hf1⟩ := bcell hx1; have hz1 := hx1.size; (try simp only [World.size_alloc] at hz1); (try have hl0 : w.heap.size < w'.heap.size := by omega); (try have hl1 : w.heap.size + 1 < w'.heap.size := by omega); (try have hl2 : w.heap.size + 1 + 1 < w'.heap.size := by omega); (try have hl3 : w.heap.size + 1 + 1 + 1 < w'.heap.size := by omega); clear hx1)
        | (go_at_call 41; refine (RCovers_c _ _ _).mono ?_; rintro e w' ⟨rfl, rfl⟩))
  all_goals (go_ret; refine ⟨ret_bool ?_, ?_⟩; · go_tidy; grind [CL.covs]
             · go_grown)
/-- an amount as a value -/
theorem ret_am {J : CL.Am} {a b : Int} (h : J = ⟨a, b⟩) : Ending.returned (.agg #[.int .i64 a, .int .i64 b]) = .returned (.agg #[.int .i64 J.m, .int .i64 J.u]) := by rw [h]
set_option maxHeartbeats 800000 in
theorem amount.Join_c (n : ByteArray) (k u h a b c d : Int) (w : World) : Calls Tryd.prog 22 #[.agg #[.string n, .int .i64 k, .int .i64 u, .int .i64 h], .agg #[.int .i64 a, .int .i64 b], .agg #[.int .i64 c, .int .i64 d]] w fun e w' =>
    e = .returned (.agg #[.int .i64 (CL.join k u ⟨a, b⟩ ⟨c, d⟩).m, .int .i64 (CL.join k u ⟨a, b⟩ ⟨c, d⟩).u]) ∧ Ext w w' := by
  go_enter Tryd.func22, Tryd.ntmps22
  go_wp2_with (first
        | (go_at_call 31; refine (amount.permitted_c _ _ _ _ _ _ _).mono ?_; rintro e w' ⟨rfl, hx1⟩; have hx := Ext.tr (a := w) (by go_grown) hx1; have hz := hx.size; obtain ⟨hc1, hf1⟩ := bcell hx1; have hz1 := hx1.size; (try simp only [World.size_alloc] at hz1); (try have hl0 : w.heap.size < w'.heap.size := by omega); (try have hl1 : w.heap.size + 1 < w'.heap.size := by omega); (try have hl2 : w.heap.size + 1 + 1 < w'.heap.size := by omega); (try have hl3 : w.heap.size + 1 + 1 + 1 < w'.heap.size := by omega); clear hx1)
        | (go_at_call 15; refine (amount.Zero_c _ _ _).mono ?_; rintro e w' ⟨rfl, hx1⟩; have hx := Ext.tr (a := w) (by go_grown) hx1; have hz := hx.size; obtain ⟨hc1, hf1⟩ := bcell hx1; have hz1 := hx1.size; (try simp only [World.size_alloc] at hz1); (try have hl0 : w.heap.size < w'.heap.size := by omega); (try have hl1 : w.heap.size + 1 < w'.heap.size := by omega); (try have hl2 : w.heap.size + 1 + 1 < w'.heap.size := by omega); (try have hl3 : w.heap.size + 1 + 1 + 1 < w'.heap.size := by omega); clear hx1)
        | (go_at_call 38; refine (Go.Proofs.YtghhmooknjoblaaDoor.Sup_c _ _ _).mono ?_; rintro e w' ⟨rfl, hx1⟩; have hx := Ext.tr (a := w) (by go_grown) hx1; have hz := hx.size; obtain ⟨hc1, hf1⟩ := bcell hx1; have hz1 := hx1.size; (try simp only [World.size_alloc] at hz1); (try have hl0 : w.heap.size < w'.heap.size := by omega); (try have hl1 : w.heap.size + 1 < w'.heap.size := by omega); (try have hl2 : w.heap.size + 1 + 1 < w'.heap.size := by omega); (try have hl3 : w.heap.size + 1 + 1 + 1 < w'.heap.size := by omega); clear hx1))
  all_goals (try simp only [Exit.inBlock, Exit.then])
  all_goals (refine bodyPost_ret (by simp [results, Tryd.results22, go_sem, *]; try rfl) rfl ?_)
  all_goals (refine ⟨ret_am ?_, by go_grown⟩; go_tidy; grind [CL.join])
set_option maxHeartbeats 800000 in
theorem clusterlocksref04.Join_c (n : ByteArray) (k u h a b c d : Int) (w : World) : Calls Tryd.prog 28 #[.agg #[.string n, .int .i64 k, .int .i64 u, .int .i64 h], .agg #[.int .i64 a, .int .i64 b], .agg #[.int .i64 c, .int .i64 d]] w fun e w' =>
    e = .returned (.agg #[.int .i64 (CL.join k u ⟨a, b⟩ ⟨c, d⟩).m, .int .i64 (CL.join k u ⟨a, b⟩ ⟨c, d⟩).u]) ∧ Ext w w' := by
  have HJ := Lib.hid (@CL.join_ref k u ⟨a, b⟩ ⟨c, d⟩)
  go_enter Tryd.func28, Tryd.ntmps28
  go_wp2_with (first
        | (go_at_call 21; refine (clusterlocksref04.Permitted_c _ _ _ _ _ _ _).mono ?_; rintro e w' ⟨rfl, hx1⟩; have hx := Ext.tr (a := w) (by go_grown) hx1; have hz := hx.size; obtain ⟨hc1, hf1⟩ := bcell hx1; have hz1 := hx1.size; (try simp only [World.size_alloc] at hz1); (try have hl0 : w.heap.size < w'.heap.size := by omega); (try have hl1 : w.heap.size + 1 < w'.heap.size := by omega); (try have hl2 : w.heap.size + 1 + 1 < w'.heap.size := by omega); (try have hl3 : w.heap.size + 1 + 1 + 1 < w'.heap.size := by omega); clear hx1)
        | (go_at_call 27; refine (clusterlocksref04.Covers_c _ _ _ _ _ _ _ _ _).mono ?_; rintro e w' ⟨rfl, hx1⟩; have hx := Ext.tr (a := w) (by go_grown) hx1; have hz := hx.size; obtain ⟨hc1, hf1⟩ := bcell hx1; have hz1 := hx1.size; (try simp only [World.size_alloc] at hz1); (try have hl0 : w.heap.size < w'.heap.size := by omega); (try have hl1 : w.heap.size + 1 < w'.heap.size := by omega); (try have hl2 : w.heap.size + 1 + 1 < w'.heap.size := by omega); (try have hl3 : w.heap.size + 1 + 1 + 1 < w'.heap.size := by omega); clear hx1)
        | (go_at_call 42; refine (RSup_c _ _ _).mono ?_; rintro e w' ⟨rfl, rfl⟩))
  all_goals (try simp only [Exit.inBlock, Exit.then])
  all_goals (refine bodyPost_ret (by simp [results, Tryd.results28, go_sem, *]; try rfl) rfl ?_)
  all_goals (refine ⟨ret_am ?_, by go_grown⟩; go_tidy; have HJ := HJ.out; grind [CL.join_bad])
end Go.Proofs.YtghhmooknjoblaaDoor

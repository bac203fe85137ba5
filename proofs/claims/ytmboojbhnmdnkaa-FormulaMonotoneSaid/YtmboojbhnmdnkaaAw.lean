
/- The walks of package amount and of its reference: each function once, with what it returns. -/
import Derived.Test.YtmboojbhnmdnkaaAm
import Derived.Test.YtmboojbhnmdnkaaMw2
import Derived.Test.YtmboojbhnmdnkaaBk
namespace Go.Proofs.Ytmboojbhnmdnkaa
open Go.RowKit
theorem am_eqIn (a b c d : Int) (W : World) : (Op.equalIn 10000 23 (.agg #[.int .i64 a, .int .i64 b]) (.agg #[.int .i64 c, .int .i64 d])).run Try.prog W = .ok (decide (a = c ∧ b = d)) W := by
  have h1 : Try.prog.stoodInHeld 23 = false := by kernel_rfl
  rw [run_equalIn_struct (d := 9999) _ _ _ _ (by simp [Program.fieldsOf, Try.underlying23]) h1]
  simp [Program.fieldsOf, Try.underlying23, Op.eqFields, go_sem, Try.underlying3]
  by_cases e1 : a = c <;> by_cases e2 : b = d <;> simp [e1, e2]
theorem am_eql (a b c d : Int) (W : World) : (binOp .eql 23 (.agg #[.int .i64 a, .int .i64 b]) (.agg #[.int .i64 c, .int .i64 d])).run Try.prog W = .ok (.bool (decide (a = c ∧ b = d))) W := by
  rw [run_eql_struct, am_eqIn]; rfl
theorem am_neq (a b c d : Int) (W : World) : (binOp .neq 23 (.agg #[.int .i64 a, .int .i64 b]) (.agg #[.int .i64 c, .int .i64 d])).run Try.prog W = .ok (.bool (!decide (a = c ∧ b = d))) W := by
  rw [run_neq_struct, am_eqIn]; rfl
theorem am_guard : Try.prog.eqGuardType Try.prog.depth 23 = false := by kernel_rfl
theorem am_zero (a b : Int) (W : World) : (binOp .eql 23 (.agg #[.int .i64 a, .int .i64 b]) (.agg #[.int .i64 0, .int .i64 0])).run Try.prog W = .ok (.bool (CL.zer ⟨a, b⟩)) W := am_eql a b 0 0 W
theorem amount.Shaped_c (n : ByteArray) (k u h : Int) (w : World) : Calls Try.prog 67 #[.agg #[.string n, .int .i64 k, .int .i64 u, .int .i64 h]] w fun e w' => e = .returned (.bool (CL.shaped k u)) ∧ Ext w w' := by
  go_enter Try.func67, Try.ntmps67
  go_wp2
  all_goals (go_ret; refine ⟨ret_bool ?_, ?_⟩; · go_tidy; grind [CL.shaped]
             · go_grown)
theorem clusterlocksref04.Shaped_c (n : ByteArray) (k u h : Int) (w : World) : Calls Try.prog 70 #[.agg #[.string n, .int .i64 k, .int .i64 u, .int .i64 h]] w fun e w' => e = .returned (.bool (CL.shaped k u)) ∧ Ext w w' := by
  go_enter Try.func70, Try.ntmps70
  go_wp2
  all_goals (go_ret; refine ⟨ret_bool ?_, ?_⟩; · go_tidy; grind [CL.shaped]
             · go_grown)
theorem amount.Fits_c (n : ByteArray) (k u h a b : Int) (w : World) : Calls Try.prog 53 #[.agg #[.string n, .int .i64 k, .int .i64 u, .int .i64 h], .agg #[.int .i64 a, .int .i64 b]] w fun e w' => e = .returned (.bool (CL.fits k u ⟨a, b⟩)) ∧ Ext w w' := by
  go_enter Try.func53, Try.ntmps53
  go_wp2_with (first
        | (go_at_call 67; refine (amount.Shaped_c _ _ _ _ _).mono ?_; rintro e w' ⟨rfl, hx1⟩; have hx := Ext.tr (a := w) (by go_grown) hx1; have hz := hx.size; obtain ⟨hc1, hf1⟩ := bcell hx1; have hz1 := hx1.size; (try simp only [World.size_alloc] at hz1); (try have hl0 : w.heap.size < w'.heap.size := by omega); (try have hl1 : w.heap.size + 1 < w'.heap.size := by omega); (try have hl2 : w.heap.size + 1 + 1 < w'.heap.size := by omega); (try have hl3 : w.heap.size + 1 + 1 + 1 < w'.heap.size := by omega); clear hx1)
        | (go_at_call 68; refine (Valid_c _ _).mono ?_; rintro e w' ⟨rfl, rfl⟩))
  all_goals (go_ret; refine ⟨ret_bool ?_, ?_⟩; · go_tidy; grind [CL.fits]
             · go_grown)
theorem clusterlocksref04.Fits_c (n : ByteArray) (k u h a b : Int) (w : World) : Calls Try.prog 56 #[.agg #[.string n, .int .i64 k, .int .i64 u, .int .i64 h], .agg #[.int .i64 a, .int .i64 b]] w fun e w' => e = .returned (.bool (CL.fits k u ⟨a, b⟩)) ∧ Ext w w' := by
  go_enter Try.func56, Try.ntmps56
  go_wp2_with (first
        | (go_at_call 70; refine (clusterlocksref04.Shaped_c _ _ _ _ _).mono ?_; rintro e w' ⟨rfl, hx1⟩; have hx := Ext.tr (a := w) (by go_grown) hx1; have hz := hx.size; obtain ⟨hc1, hf1⟩ := bcell hx1; have hz1 := hx1.size; (try simp only [World.size_alloc] at hz1); (try have hl0 : w.heap.size < w'.heap.size := by omega); (try have hl1 : w.heap.size + 1 < w'.heap.size := by omega); (try have hl2 : w.heap.size + 1 + 1 < w'.heap.size := by omega); (try have hl3 : w.heap.size + 1 + 1 + 1 < w'.heap.size := by omega); clear hx1)
        | (go_at_call 71; refine (RValid_c _ _).mono ?_; rintro e w' ⟨rfl, rfl⟩))
  all_goals (go_ret; refine ⟨ret_bool ?_, ?_⟩; · go_tidy; grind [CL.fits]
             · go_grown)
/-- an amount as a value -/
theorem ret_am {J : CL.Am} {a b : Int} (h : J = ⟨a, b⟩) : Ending.returned (.agg #[.int .i64 a, .int .i64 b]) = .returned (.agg #[.int .i64 J.m, .int .i64 J.u]) := by rw [h]
end Go.Proofs.Ytmboojbhnmdnkaa

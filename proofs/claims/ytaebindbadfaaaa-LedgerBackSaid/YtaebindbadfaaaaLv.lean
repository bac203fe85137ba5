
/- Ledger: the walks of Fits and Grows and of the reference's. -/
import Derived.Test.YtaebindbadfaaaaMp
import Derived.Test.YtaebindbadfaaaaEt
namespace Go.Proofs.Ytaebindbadfaaaa
open Go.RowKit
set_option linter.unusedVariables false
set_option linter.unusedSimpArgs false
theorem ledger.Fits_c (a b : Int) (w : World) : Calls Try.prog 13 #[.agg #[.int .i64 a, .int .i64 b]] w fun e w' => e = .returned (.bool (CL.usable ⟨a, b⟩)) ∧ Ext w w' := by
  go_enter Try.func13, Try.ntmps13
  go_wp2_with (first
        | (go_at_call 41; refine (Valid_c _ _).mono ?_; rintro e w' ⟨rfl, rfl⟩))
  all_goals (go_ret; refine ⟨ret_bool ?_, by go_grown⟩; go_tidy; grind [CL.usable, CL.vld_zero])
set_option maxHeartbeats 1600000 in
set_option maxRecDepth 100000 in
theorem ledger.Grows_c (a b c d : Int) (w : World) : Calls Try.prog 15 #[.agg #[.int .i64 a, .int .i64 b], .agg #[.int .i64 c, .int .i64 d]] w fun e w' => e = .returned (.bool (CL.grows ⟨a, b⟩ ⟨c, d⟩)) ∧ Ext w w' := by
  have hq := am_eql a b c d
  have hq0 := am_eql a b 0 0
  have hg := am_guard
  go_enter Try.func15, Try.ntmps15
  go_wp2_with (first
        | (go_at_call 13; refine (ledger.Fits_c _ _ _).mono ?_; rintro e w' ⟨rfl, hx1⟩; have hx := Ext.tr (a := w) (by go_grown) hx1; have hz := hx.size; obtain ⟨hc1, hf1⟩ := bcell hx1; have hz1 := hx1.size; (try simp only [World.size_alloc] at hz1); (try have hl0 : w.heap.size < w'.heap.size := by omega); (try have hl1 : w.heap.size + 1 < w'.heap.size := by omega); (try have hl2 : w.heap.size + 1 + 1 < w'.heap.size := by omega); (try have hl3 : w.heap.size + 1 + 1 + 1 < w'.heap.size := by omega); clear hx1)
        | (go_at_call 43; refine (Go.Proofs.Ytaebindbadfaaaa.Covers_c _ _ _).mono ?_; rintro e w' ⟨rfl, hx1⟩; have hx := Ext.tr (a := w) (by go_grown) hx1; have hz := hx.size; obtain ⟨hc1, hf1⟩ := bcell hx1; have hz1 := hx1.size; (try simp only [World.size_alloc] at hz1); (try have hl0 : w.heap.size < w'.heap.size := by omega); (try have hl1 : w.heap.size + 1 < w'.heap.size := by omega); (try have hl2 : w.heap.size + 1 + 1 < w'.heap.size := by omega); (try have hl3 : w.heap.size + 1 + 1 + 1 < w'.heap.size := by omega); clear hx1))
  all_goals (go_ret; refine ⟨ret_bool ?_, by go_grown⟩; go_tidy; grind [CL.grows, CL.zer, CL.usable, CL.vld, CL.cov])
set_option maxHeartbeats 1600000 in
set_option maxRecDepth 100000 in
theorem clusterlocksref14.Grows_c (a b c d : Int) (w : World) : Calls Try.prog 16 #[.agg #[.int .i64 a, .int .i64 b], .agg #[.int .i64 c, .int .i64 d]] w fun e w' => e = .returned (.bool (CL.grows ⟨a, b⟩ ⟨c, d⟩)) ∧ Ext w w' := by
  have hq := am_eql a b c d
  have hq0 := am_eql a b 0 0
  have hg := am_guard
  go_enter Try.func16, Try.ntmps16
  go_wp2_with (first
        | (go_at_call 14; refine (clusterlocksref07.Usable_c _ _ _).mono ?_; rintro e w' ⟨rfl, hx1⟩; have hx := Ext.tr (a := w) (by go_grown) hx1; have hz := hx.size; obtain ⟨hc1, hf1⟩ := bcell hx1; have hz1 := hx1.size; (try simp only [World.size_alloc] at hz1); (try have hl0 : w.heap.size < w'.heap.size := by omega); (try have hl1 : w.heap.size + 1 < w'.heap.size := by omega); (try have hl2 : w.heap.size + 1 + 1 < w'.heap.size := by omega); (try have hl3 : w.heap.size + 1 + 1 + 1 < w'.heap.size := by omega); clear hx1)
        | (go_at_call 44; refine (RCovers_c _ _ _).mono ?_; rintro e w' ⟨rfl, rfl⟩))
  all_goals (go_ret; refine ⟨ret_bool ?_, by go_grown⟩; go_tidy; grind [CL.grows, CL.zer, CL.usable, CL.vld, CL.cov])
end Go.Proofs.Ytaebindbadfaaaa

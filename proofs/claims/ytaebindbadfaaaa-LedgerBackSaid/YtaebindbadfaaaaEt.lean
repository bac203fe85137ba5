
/- The walks that count nodes and levels of an expression, by the program and by the reference. -/
import Derived.Test.YtaebindbadfaaaaRd
import Derived.Test.YtaebindbadfaaaaEw
namespace Go.Proofs.Ytaebindbadfaaaa
open Go.RowKit
set_option linter.unusedVariables false
theorem box1 (w : World) (c1 : Array Value) (t1 : TypeId) : Blk (w.alloc (.cells c1 t1)) w.heap.size t1 c1 ∧ Ext w (w.alloc (.cells c1 t1)) := ⟨Blk.new _ _ _, Ext.new _ _⟩
theorem meas_le {e : CL.Ex} {lv n : Nat} (h : (CL.meas e lv n).1 ≠ 0) : (CL.meas e lv n).2 ≤ 24 ∧ (CL.meas e lv n).1 ≤ 24 ∧ n ≤ (CL.meas e lv n).2 := by
  by_cases c : CL.depth e + lv ≤ 5 ∧ n + CL.size e ≤ 24
  · rw [(CL.meas_spec e lv n).1 c]; simp only; omega
  · exact absurd ((CL.meas_spec e lv n).2 c) h
theorem measL_step {kids : List CL.Ex} {j lv n d : Nat} (hj : j < kids.length) : CL.measL (kids.drop j) lv n d = if (CL.meas kids[j] lv n).1 = 0 then (0, (CL.meas kids[j] lv n).2) else CL.measL (kids.drop (j + 1)) lv (CL.meas kids[j] lv n).2 (max d (CL.meas kids[j] lv n).1) := by
  rw [List.drop_eq_getElem_cons hj]; simp only [CL.measL]
theorem measL_end {kids : List CL.Ex} {j lv n d : Nat} (hj : kids.length ≤ j) : CL.measL (kids.drop j) lv n d = (d + 1, n) := by
  rw [List.drop_eq_nil_of_le hj]; simp only [CL.measL]
theorem rszL_step {kids : List CL.Ex} {j dp n d : Nat} (hj : j < kids.length) : CL.rszL (kids.drop j) dp n d = if 24 < n + (CL.rsz kids[j] dp).1 then (25, 0) else CL.rszL (kids.drop (j + 1)) dp (n + (CL.rsz kids[j] dp).1) (max d (CL.rsz kids[j] dp).2) := by
  rw [List.drop_eq_getElem_cons hj]; simp only [CL.rszL]
theorem rszL_end {kids : List CL.Ex} {j dp n d : Nat} (hj : kids.length ≤ j) : CL.rszL (kids.drop j) dp n d = (n, d + 1) := by
  rw [List.drop_eq_nil_of_le hj]; simp only [CL.rszL]
theorem rsz_le (e : CL.Ex) (dp : Nat) : (CL.rsz e dp).1 ≤ 25 ∧ ((CL.rsz e dp).1 ≤ 24 → (CL.rsz e dp).2 ≤ 24) := by
  by_cases c : CL.depth e + dp ≤ 5 ∧ CL.size e ≤ 24
  · rw [(CL.rsz_spec e dp).1 c]; simp only; omega
  · have := (CL.rsz_spec e dp).2 c; omega
theorem clusterlocksref07.Usable_c (a b : Int) (w : World) : Calls Try.prog 14 #[.agg #[.int .i64 a, .int .i64 b]] w fun e w' => e = .returned (.bool (CL.usable ⟨a, b⟩)) ∧ Ext w w' := by
  go_enter Try.func14, Try.ntmps14
  go_wp2_with (first
        | (go_at_call 42; refine (RValid_c _ _).mono ?_; rintro e w' ⟨rfl, rfl⟩))
  all_goals (go_ret; refine ⟨ret_bool ?_, Ext.new _ _⟩; go_tidy; grind [CL.usable])
end Go.Proofs.Ytaebindbadfaaaa


/- The statements about normal forms (chapter 9): the walks of NormalMinimal, NormalBlocking. -/
import Derived.Test.YtmolffigeobnnaaLaw09
import Derived.Deep.DrawnRows
import Derived.Deep.RegionHeld3
namespace Go.Proofs.Ytmolffigeobnnaa
open Go.RowKit
set_option linter.unusedVariables false
set_option linter.unusedSimpArgs false
set_option maxRecDepth 100000
attribute [local go_sem ↓] Go.wp_at_zero Go.wp_at_succ
theorem blks_le {e : CL.Ex} : (blksE e).length ≤ 256 := by rw [blks_dual]; exact mins_le
set_option maxHeartbeats 3200000 in
theorem NormalMinimal_w (e : CL.Ex) (cs : List Value) (w : World) (hR : Rd w w.heap.size e cs) : Calls Try.prog 3 #[.agg cs.toArray] w fun r w' => r = .returned (.bool true) ∧ Ext w w' := by
  obtain ⟨k, s, m, u, A1, l1, c1, rfl⟩ := hR.shape
  obtain ⟨bE, hx0⟩ := box1 w #[.int .i64 k, .string s, .int .i64 m, .int .i64 u, .slice A1 l1 c1] 28
  have hz0 := hx0.size
  have hml := mins_le (e := e)
  go_enter Try.func3, Try.ntmps3
  go_wp2_with fail
  generalize (w.alloc (.cells #[.int .i64 k, .string s, .int .i64 m, .int .i64 u, .slice A1 l1 c1] 28)) = W at *
  have hc := bE.c5
  have HC := Lib.hid hc
  obtain ⟨e0, e1, e2, e3, e4⟩ := hc
  have HRW := Lib.hid (hR.ext hx0 (Nat.le_refl _))
  have hx1 : Ext W W.drew := Ext.drawn W
  have HAW := Lib.hid (fun w => awake9_c w)
  go_region_held3 (fun w' => w'.cell? ⟨w.heap.size, 0, none⟩ = some (.int .i64 k) ∧ w'.cell? ⟨w.heap.size, 1, none⟩ = some (.string s) ∧ w'.cell? ⟨w.heap.size, 2, none⟩ = some (.int .i64 m) ∧ w'.cell? ⟨w.heap.size, 3, none⟩ = some (.int .i64 u) ∧ w'.cell? ⟨w.heap.size, 4, none⟩ = some (.slice A1 l1 c1))
    (first | go_keep | exact cells5' HC.out hx1)
    (first
      | (go_at_call 14; (with_reducible refine (HAW.out _).mono ?_); rintro r w2 ⟨rfl, hxa⟩; replace hx1 := Ext.tr hx1 hxa)
      | (go_at_call 16; (with_reducible refine (normal.Minimal_c e _ w.heap.size _ (HRW.out.ext hx1 hz0) (by have := hx1.size; omega)).mono ?_); intro r w1 hp; obtain ⟨A2, c2, rfl, hr2, hy2⟩ := hp.mat; replace hx1 := Ext.tr hx1 hy2; first | (have hr3' := hr3.ext hy2) | skip)
      | (go_at_call 17; (with_reducible refine (clusterlocksref09.Minimal_c e _ w.heap.size _ (HRW.out.ext hx1 hz0) (by have := hx1.size; omega)).mono ?_); intro r w1 hp; obtain ⟨A3, c3, rfl, hr3, hy3⟩ := hp.mat; replace hx1 := Ext.tr hx1 hy3; first | (have hr2' := hr2.ext hy3) | skip)
      | (go_at_call 15; (with_reducible refine (SameSets_c (minsE e) _ _ _ _ (by unfold maxLen; omega) _ (by first | exact hr2' | exact hr2) (by first | exact hr3' | exact hr3)).mono ?_); rintro r w4 ⟨rfl, hx4⟩; replace hx1 := Ext.tr hx1 hx4))
  all_goals
    go_wp2
    go_ret
    exact ⟨rfl, hx0.tr hx1⟩
set_option maxHeartbeats 3200000 in
theorem NormalBlocking_w (e : CL.Ex) (cs : List Value) (w : World) (hR : Rd w w.heap.size e cs) : Calls Try.prog 9 #[.agg cs.toArray] w fun r w' => r = .returned (.bool true) ∧ Ext w w' := by
  obtain ⟨k, s, m, u, A1, l1, c1, rfl⟩ := hR.shape
  obtain ⟨bE, hx0⟩ := box1 w #[.int .i64 k, .string s, .int .i64 m, .int .i64 u, .slice A1 l1 c1] 28
  have hz0 := hx0.size
  have hml := blks_le (e := e)
  go_enter Try.func9, Try.ntmps9
  go_wp2_with fail
  generalize (w.alloc (.cells #[.int .i64 k, .string s, .int .i64 m, .int .i64 u, .slice A1 l1 c1] 28)) = W at *
  have hc := bE.c5
  have HC := Lib.hid hc
  obtain ⟨e0, e1, e2, e3, e4⟩ := hc
  have HRW := Lib.hid (hR.ext hx0 (Nat.le_refl _))
  have hx1 : Ext W W.drew := Ext.drawn W
  have HAW := Lib.hid (fun w => awake9_c w)
  go_region_held3 (fun w' => w'.cell? ⟨w.heap.size, 0, none⟩ = some (.int .i64 k) ∧ w'.cell? ⟨w.heap.size, 1, none⟩ = some (.string s) ∧ w'.cell? ⟨w.heap.size, 2, none⟩ = some (.int .i64 m) ∧ w'.cell? ⟨w.heap.size, 3, none⟩ = some (.int .i64 u) ∧ w'.cell? ⟨w.heap.size, 4, none⟩ = some (.slice A1 l1 c1))
    (first | go_keep | exact cells5' HC.out hx1)
    (first
      | (go_at_call 14; (with_reducible refine (HAW.out _).mono ?_); rintro r w2 ⟨rfl, hxa⟩; replace hx1 := Ext.tr hx1 hxa)
      | (go_at_call 34; (with_reducible refine (normal.Blocking_c e _ w.heap.size _ (HRW.out.ext hx1 hz0) (by have := hx1.size; omega)).mono ?_); intro r w1 hp; obtain ⟨A2, c2, rfl, hr2, hy2⟩ := hp.mat; replace hx1 := Ext.tr hx1 hy2; first | (have hr3' := hr3.ext hy2) | skip)
      | (go_at_call 35; (with_reducible refine (clusterlocksref09.Blocking_c e _ w.heap.size _ (HRW.out.ext hx1 hz0) (by have := hx1.size; omega)).mono ?_); intro r w1 hp; obtain ⟨A3, c3, rfl, hr3, hy3⟩ := hp.mat; replace hx1 := Ext.tr hx1 hy3; first | (have hr2' := hr2.ext hy3) | skip)
      | (go_at_call 15; (with_reducible refine (SameSets_c (blksE e) _ _ _ _ (by unfold maxLen; omega) _ (by first | exact hr2' | exact hr2) (by first | exact hr3' | exact hr3)).mono ?_); rintro r w4 ⟨rfl, hx4⟩; replace hx1 := Ext.tr hx1 hx4))
  all_goals
    go_wp2
    go_ret
    exact ⟨rfl, hx0.tr hx1⟩
end Go.Proofs.Ytmolffigeobnnaa

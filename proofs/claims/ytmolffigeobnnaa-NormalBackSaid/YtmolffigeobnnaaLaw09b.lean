
/- The statements about normal forms (chapter 9): the walk of NormalImplies. -/
import Derived.Test.YtmolffigeobnnaaLaw09
import Derived.Deep.DrawnRows
import Derived.Deep.RegionHeld3
namespace Go.Proofs.Ytmolffigeobnnaa
open Go.RowKit
set_option linter.unusedVariables false
set_option linter.unusedSimpArgs false
set_option maxRecDepth 100000
attribute [local go_sem ↓] Go.wp_at_zero Go.wp_at_succ
theorem rImplies_e (a b : CL.Ex) (w : World) (B : Nat) (cs ds : List Value) (hR : Rd w B a cs) (hS : Rd w B b ds) (hB : B ≤ w.heap.size) : Calls Try.prog 25 #[.agg cs.toArray, .agg ds.toArray] w fun r w' => r = .returned (.bool (implE a b)) ∧ Ext w w' := by
  rw [impl_eq]; exact clusterlocksref09.Implies_c a b w B cs ds hR hS hB
theorem rEquivalent_e (a b : CL.Ex) (w : World) (B : Nat) (cs ds : List Value) (hR : Rd w B a cs) (hS : Rd w B b ds) (hB : B ≤ w.heap.size) : Calls Try.prog 27 #[.agg cs.toArray, .agg ds.toArray] w fun r w' => r = .returned (.bool (eqvE a b)) ∧ Ext w w' := by
  rw [eqv_eq]; exact clusterlocksref09.Equivalent_c a b w B cs ds hR hS hB
set_option maxHeartbeats 6400000 in
theorem NormalImplies_w (a : CL.Ex) (cs : List Value) (b : CL.Ex) (ds : List Value) (w : World) (hR : Rd w w.heap.size a cs) (hS : Rd w w.heap.size b ds) : Calls Try.prog 5 #[.agg cs.toArray, .agg ds.toArray] w fun r w' => r = .returned (.bool true) ∧ Ext w w' := by
  obtain ⟨k0, s0, m0, u0, A0, l0, c0, rfl⟩ := hR.shape
  obtain ⟨k1, s1, m1, u1, A1, l1, c1, rfl⟩ := hS.shape
  obtain ⟨bE, bF, hx0⟩ := boxE2 w #[.int .i64 k0, .string s0, .int .i64 m0, .int .i64 u0, .slice A0 l0 c0] 28 #[.int .i64 k1, .string s1, .int .i64 m1, .int .i64 u1, .slice A1 l1 c1] 28
  have hz0 := hx0.size
  have HRA := Lib.hid (hR.ext hx0 (Nat.le_refl _))
  have HRB := Lib.hid (hS.ext hx0 (Nat.le_refl _))
  clear hR hS
  go_enter Try.func5, Try.ntmps5
  go_wp2_with fail
  generalize ((w.alloc (.cells #[.int .i64 k0, .string s0, .int .i64 m0, .int .i64 u0, .slice A0 l0 c0] 28)).alloc (.cells #[.int .i64 k1, .string s1, .int .i64 m1, .int .i64 u1, .slice A1 l1 c1] 28)) = W at *
  have HCE := Lib.hid bE.c5
  have HCF := Lib.hid bF.c5
  obtain ⟨e0, e1, e2, e3, e4⟩ := bE.c5
  obtain ⟨f0, f1, f2, f3, f4⟩ := bF.c5
  have hy : Ext W W.drew := Ext.drawn W
  have HAW := Lib.hid (fun w => awake9_c w)
  go_region_held3 (fun w' => (w'.cell? ⟨w.heap.size, 0, none⟩ = some (.int .i64 k0) ∧ w'.cell? ⟨w.heap.size, 1, none⟩ = some (.string s0) ∧ w'.cell? ⟨w.heap.size, 2, none⟩ = some (.int .i64 m0) ∧ w'.cell? ⟨w.heap.size, 3, none⟩ = some (.int .i64 u0) ∧ w'.cell? ⟨w.heap.size, 4, none⟩ = some (.slice A0 l0 c0)) ∧ (w'.cell? ⟨w.heap.size + 1, 0, none⟩ = some (.int .i64 k1) ∧ w'.cell? ⟨w.heap.size + 1, 1, none⟩ = some (.string s1) ∧ w'.cell? ⟨w.heap.size + 1, 2, none⟩ = some (.int .i64 m1) ∧ w'.cell? ⟨w.heap.size + 1, 3, none⟩ = some (.int .i64 u1) ∧ w'.cell? ⟨w.heap.size + 1, 4, none⟩ = some (.slice A1 l1 c1)))
    (first | go_keep | exact ⟨cells5' HCE.out hy, cells5' HCF.out hy⟩)
    (first
      | (go_at_call 14; (with_reducible refine (HAW.out _).mono ?_); rintro r w2 ⟨rfl, hxa⟩; replace hy := Ext.tr hy hxa)
      | (go_at_call 24; (with_reducible refine (normal.Implies_c a b _ w.heap.size _ _ (HRA.out.ext hy hz0) (HRB.out.ext hy hz0) (by have := hy.size; omega)).mono ?_); rintro r w3 ⟨rfl, hx3⟩; replace hy := Ext.tr hy hx3)
      | (go_at_call 25; (with_reducible refine (rImplies_e a b _ w.heap.size _ _ (HRA.out.ext hy hz0) (HRB.out.ext hy hz0) (by have := hy.size; omega)).mono ?_); rintro r w4 ⟨rfl, hx4⟩; replace hy := Ext.tr hy hx4)
      | (go_at_call 26; (with_reducible refine (normal.Equivalent_c a b _ w.heap.size _ _ (HRA.out.ext hy hz0) (HRB.out.ext hy hz0) (by have := hy.size; omega)).mono ?_); rintro r w5 ⟨rfl, hx5⟩; replace hy := Ext.tr hy hx5)
      | (go_at_call 27; (with_reducible refine (rEquivalent_e a b _ w.heap.size _ _ (HRA.out.ext hy hz0) (HRB.out.ext hy hz0) (by have := hy.size; omega)).mono ?_); rintro r w6 ⟨rfl, hx6⟩; replace hy := Ext.tr hy hx6))
  all_goals
    go_wp2
    go_ret
    exact ⟨rfl, hx0.tr hy⟩
end Go.Proofs.Ytmolffigeobnnaa

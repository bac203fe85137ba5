
/- The statements about normal forms (chapter 9): the walk of NormalDual. -/
import Derived.Test.YtmolffigeobnnaaLaw09
import Derived.Deep.DrawnRows
import Derived.Deep.RegionHeld3
namespace Go.Proofs.Ytmolffigeobnnaa
open Go.RowKit
set_option linter.unusedVariables false
set_option linter.unusedSimpArgs false
set_option maxRecDepth 100000
attribute [local go_sem ↓] Go.wp_at_zero Go.wp_at_succ
theorem dual_back {e : CL.Ex} (hv : CL.valid e = true) : CL.dualE (CL.dualE e) = e := by
  obtain ⟨h1, _, h3⟩ := CL.dual_valid hv
  have : CL.dualE e = CL.dual e := by simp [CL.dualE, hv]
  rw [this]; simp [CL.dualE, h1, h3]
theorem rHolds_d {e : CL.Ex} (hv : CL.valid e = true) (set : List Bool) (S : Option Addr) (d : Nat) (hs : set.length ≤ maxLen) (w : World) (B : Nat) (cs : List Value) (hR : Rd w B (CL.dualE e) cs) (hB : B ≤ w.heap.size) (hrs : Sits w S (bls set)) :
    Calls Try.prog 22 #[.agg cs.toArray, .slice S set.length d] w fun r w' => r = .returned (.bool (hpl e set)) ∧ Ext w w' := by
  have h := clusterlocksref08.Holds_c (CL.dualE e) set S d hs w B cs hR hB hrs
  rw [show CL.dualE e = CL.dual e by simp [CL.dualE, hv], dual_holds hv] at h; exact h
set_option maxHeartbeats 6400000 in
theorem NormalDual_w (e : CL.Ex) (cs : List Value) (set : List Bool) (S : Option Addr) (d : Nat) (w : World) (hR : Rd w w.heap.size e cs) (hs : set.length ≤ maxLen) (hrs : Sits w S (bls set)) : Calls Try.prog 4 #[.agg cs.toArray, .slice S set.length d] w fun r w' => r = .returned (.bool true) ∧ Ext w w' := by
  obtain ⟨k0, s0, m0, u0, A0, l0, c0, rfl⟩ := hR.shape
  obtain ⟨bE, hx0⟩ := box1 w #[.int .i64 k0, .string s0, .int .i64 m0, .int .i64 u0, .slice A0 l0 c0] 28
  have hz0 := hx0.size
  have HRA := Lib.hid (hR.ext hx0 (Nat.le_refl _))
  have HS := Lib.hid (hrs.ext hx0)
  clear hR hrs
  go_enter Try.func4, Try.ntmps4
  go_wp2_with fail
  generalize (w.alloc (.cells #[.int .i64 k0, .string s0, .int .i64 m0, .int .i64 u0, .slice A0 l0 c0] 28)) = W at *
  refine (normal.Dual_c e W w.heap.size _ HRA.out hz0).mono ?_
  intro r w1 hp1
  obtain ⟨k1, s1, m1, u1, A1, l1, c1, rfl, hR1, hx1⟩ := hp1.get
  have hz1 := hx1.size
  have bE1 := bE.ext hx1
  have HR1 := Lib.hid (HRA.out.ext hx1 hz0)
  have HS1 := Lib.hid (HS.out.ext hx1)
  clear hp1 bE HRA HS
  go_wp2_with fail
  obtain ⟨bD, hx2⟩ := box1 w1 #[.int .i64 k1, .string s1, .int .i64 m1, .int .i64 u1, .slice A1 l1 c1] 28
  have hz2 := hx2.size
  have bE2 := bE1.ext hx2
  have HR2 := Lib.hid (HR1.out.ext hx2 (by omega))
  have HS2 := Lib.hid (HS1.out.ext hx2)
  have HD2 := Lib.hid (hR1.rd.ext hx2 (Nat.le_refl _))
  have HX2 := Lib.hid ((hx0.tr hx1).tr hx2)
  clear bE1 HR1 HS1 hR1
  generalize hg : w1.heap.size = g at *
  generalize (w1.alloc (.cells #[.int .i64 k1, .string s1, .int .i64 m1, .int .i64 u1, .slice A1 l1 c1] 28)) = W2 at *
  have HCE := Lib.hid bE2.c5
  have HCF := Lib.hid bD.c5
  obtain ⟨e0, e1, e2, e3, e4⟩ := bE2.c5
  obtain ⟨f0, f1, f2, f3, f4⟩ := bD.c5
  have hy : Ext W2 W2.drew := Ext.drawn W2
  have HAW := Lib.hid (fun w => awake9_c w)
  go_region_held3 (fun w' => (w'.cell? ⟨w.heap.size, 0, none⟩ = some (.int .i64 k0) ∧ w'.cell? ⟨w.heap.size, 1, none⟩ = some (.string s0) ∧ w'.cell? ⟨w.heap.size, 2, none⟩ = some (.int .i64 m0) ∧ w'.cell? ⟨w.heap.size, 3, none⟩ = some (.int .i64 u0) ∧ w'.cell? ⟨w.heap.size, 4, none⟩ = some (.slice A0 l0 c0)) ∧ (w'.cell? ⟨g, 0, none⟩ = some (.int .i64 k1) ∧ w'.cell? ⟨g, 1, none⟩ = some (.string s1) ∧ w'.cell? ⟨g, 2, none⟩ = some (.int .i64 m1) ∧ w'.cell? ⟨g, 3, none⟩ = some (.int .i64 u1) ∧ w'.cell? ⟨g, 4, none⟩ = some (.slice A1 l1 c1)))
    (first | go_keep | exact ⟨cells5' HCE.out hy, cells5' HCF.out hy⟩)
    (first
      | (go_at_call 14; (with_reducible refine (HAW.out _).mono ?_); rintro r w2 ⟨rfl, hxa⟩; replace hy := Ext.tr hy hxa)
      | (go_at_call 20; (with_reducible refine (clusterlocksref09.Dual_c e _ w.heap.size _ (HR2.out.ext hy (by omega)) (by have := hy.size; omega)).mono ?_); intro r w3 hp; obtain ⟨k2, s2, m2, u2, A2, l2, c2, rfl, hR3, hx3⟩ := hp.get; replace hy := Ext.tr hy hx3)
      | (go_at_call 19; (with_reducible refine (clusterlocksref07.SameExpr_c (CL.dualE e) _ _ _ ((HD2.out.ext hy (by omega)).le (by have := hy.size; omega)) hR3.rd).mono ?_); rintro r w4 ⟨rfl, hx4⟩; replace hy := Ext.tr hy hx4))
  all_goals
    have HX3 := Lib.hid (HX2.out.tr hy)
    have hz3 := hy.size
    have bE3 := bE2.ext hy
    have bD3 := bD.ext hy
    have HR3 := Lib.hid (HR2.out.ext hy (by omega))
    have HD3 := Lib.hid (HD2.out.ext hy (by omega))
    have HS3 := Lib.hid (HS2.out.ext hy)
    clear e0 e1 e2 e3 e4 f0 f1 f2 f3 f4 HCE HCF
    obtain ⟨e0, e1, e2, e3, e4⟩ := bE3.c5
    go_wp2_with fail
    refine (clusterlocksref07.ValidExpr_c e _ w.heap.size _ HR3.out (by omega)).mono ?_
    rintro r w5 ⟨rfl, hx5⟩
    have hz5 := hx5.size
    cases hv : CL.valid e
    · go_wp2
      go_ret
      exact ⟨rfl, HX3.out.tr hx5⟩
    · go_wp2_with fail
      have bE5 := bE3.ext hx5
      have bD5 := bD3.ext hx5
      have HR5 := Lib.hid (HR3.out.ext hx5 (by omega))
      have HD5 := Lib.hid (HD3.out.ext hx5 (by omega))
      have HS5 := Lib.hid (HS3.out.ext hx5)
      have HX5 := Lib.hid (HX3.out.tr hx5)
      have HCE := Lib.hid bE5.c5
      have HCF := Lib.hid bD5.c5
      clear e0 e1 e2 e3 e4 hy
      obtain ⟨e0, e1, e2, e3, e4⟩ := bE5.c5
      obtain ⟨f0, f1, f2, f3, f4⟩ := bD5.c5
      have hy : Ext w5 w5.drew := Ext.drawn w5
      have HDB := Lib.hid (dual_back hv)
      have HHD := Lib.hid (fun w B cs h1 h2 h3 => rHolds_d hv set S d hs w B cs h1 h2 h3)
      clear hv
      go_region_held3 (fun w' => (w'.cell? ⟨w.heap.size, 0, none⟩ = some (.int .i64 k0) ∧ w'.cell? ⟨w.heap.size, 1, none⟩ = some (.string s0) ∧ w'.cell? ⟨w.heap.size, 2, none⟩ = some (.int .i64 m0) ∧ w'.cell? ⟨w.heap.size, 3, none⟩ = some (.int .i64 u0) ∧ w'.cell? ⟨w.heap.size, 4, none⟩ = some (.slice A0 l0 c0)) ∧ (w'.cell? ⟨g, 0, none⟩ = some (.int .i64 k1) ∧ w'.cell? ⟨g, 1, none⟩ = some (.string s1) ∧ w'.cell? ⟨g, 2, none⟩ = some (.int .i64 m1) ∧ w'.cell? ⟨g, 3, none⟩ = some (.int .i64 u1) ∧ w'.cell? ⟨g, 4, none⟩ = some (.slice A1 l1 c1)))
        (first | go_keep | exact ⟨cells5' HCE.out hy, cells5' HCF.out hy⟩)
        (first
          | (go_at_call 18; (with_reducible refine (normal.Dual_c (CL.dualE e) _ g _ (HD5.out.ext hy (by omega)) (by have := hy.size; omega)).mono ?_); intro r w6 hp; obtain ⟨k2, s2, m2, u2, A2, l2, c2, rfl, hR6, hx6⟩ := hp.get; rw [HDB.out] at hR6; replace hy := Ext.tr hy hx6)
          | (go_at_call 19; (with_reducible refine (clusterlocksref07.SameExpr_c e _ _ _ hR6.rd ((HR5.out.ext hy (by omega)).le (by have := hy.size; omega))).mono ?_); rintro r w7 ⟨rfl, hx7⟩; replace hy := Ext.tr hy hx7)
          | (go_at_call 22; (with_reducible refine (HHD.out _ g _ (HD5.out.ext hy (by omega)) (by have := hy.size; omega) (HS5.out.ext hy)).mono ?_); rintro r w8 ⟨rfl, hx8⟩; replace hy := Ext.tr hy hx8)
          | (go_at_call 23; (with_reducible refine (clusterlocksref08.Hopeless_c e set S d hs _ w.heap.size _ (HR5.out.ext hy (by omega)) (by have := hy.size; omega) (HS5.out.ext hy)).mono ?_); rintro r w9 ⟨rfl, hx9⟩; replace hy := Ext.tr hy hx9))
      all_goals
        go_wp2
        go_ret
        exact ⟨rfl, HX5.out.tr hy⟩
end Go.Proofs.Ytmolffigeobnnaa

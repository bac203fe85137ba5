
/- The statements about normal forms (chapter 9): the walk of NormalSimplify. -/
import Derived.Test.YtmolffigeobnnaaLaw09
import Derived.Test.YtmolffigeobnnaaNrs
import Derived.Deep.DrawnRows
import Derived.Deep.RegionHeld3
namespace Go.Proofs.Ytmolffigeobnnaa
open Go.RowKit
set_option linter.unusedVariables false
set_option linter.unusedSimpArgs false
set_option maxRecDepth 100000
attribute [local go_sem ↓] Go.wp_at_zero Go.wp_at_succ
set_option maxHeartbeats 800000 in
theorem clusterlocksref09.Simplify_c (e : CL.Ex) (w : World) (B : Nat) (cs : List Value) (hR : Rd w B e cs) (hB : B ≤ w.heap.size) : Calls Try.prog 31 #[.agg cs.toArray] w (MadeE (CL.smpE e) w) := by
  obtain ⟨k, s, m, u, A, l, c, rfl⟩ := hR.shape
  obtain ⟨bE, bF, hx0⟩ := boxE2 w #[.int .i64 k, .string s, .int .i64 m, .int .i64 u, .slice A l c] 28 #[.int .i64 0, .string ⟨#[]⟩, .int .i64 0, .int .i64 0, .slice none 0 0] 28
  have hz0 := hx0.size
  have hvc := clusterlocksref07.ValidExpr_c e ((w.alloc (.cells #[.int .i64 k, .string s, .int .i64 m, .int .i64 u, .slice A l c] 28)).alloc (.cells #[.int .i64 0, .string ⟨#[]⟩, .int .i64 0, .int .i64 0, .slice none 0 0] 28)) B _ (hR.ext hx0 hB) (by omega)
  have hzz : ((w.alloc (.cells #[.int .i64 k, .string s, .int .i64 m, .int .i64 u, .slice A l c] 28)).alloc (.cells #[.int .i64 0, .string ⟨#[]⟩, .int .i64 0, .int .i64 0, .slice none 0 0] 28)).heap.size = w.heap.size + 2 := by simp
  cases hv : CL.valid e
  · have HA := Lib.hid (show CL.smpE e = CL.noEx by simp [CL.smpE, hv])
    rw [hv] at hvc
    have HVC := Lib.hid hvc
    clear hvc
    go_enter Try.func31, Try.ntmps31
    go_wp2_with (go_at_call 21; (with_reducible refine HVC.out.mono ?_); rintro r w' ⟨rfl, hx⟩; have hbF := bF.ext hx; obtain ⟨q0, q1, q2, q3, q4⟩ := hbF.c5; have f0 := hbF.frozen 0; have f1 := hbF.frozen 1; have f2 := hbF.frozen 2; have f3 := hbF.frozen 3; have f4 := hbF.frozen 4)
    (try simp only [Exit.inBlock, Exit.then])
    refine bodyPost_ret (by simp [results, Try.results31, go_sem, *]; try rfl) rfl ?_
    rw [HA.out]
    exact noEx_made (below_only (hx0.tr hx) (((((Only.rf.set 0 _).set 1 _).set 2 _).set 3 _).set 4 _) (by omega) (by have := hx.size; omega))
  · have HA := Lib.hid (show CL.smpE e = CL.smp e by simp [CL.smpE, hv])
    rw [hv] at hvc
    have HVC := Lib.hid hvc
    have HW := Lib.hid (clusterlocksref09.simplify_c e (valid_wf hv) (valid_size hv))
    clear hvc
    go_enter Try.func31, Try.ntmps31
    go_wp2_with (first
      | (go_at_call 21; (with_reducible refine HVC.out.mono ?_); rintro r w' ⟨rfl, hx⟩; obtain ⟨e0, e1, e2, e3, e4⟩ := (bE.ext hx).c5; have hz1 := hx.size)
      | (go_at_call 60; (with_reducible refine (HW.out _ B _ ((hR.ext hx0 hB).ext hx (by omega)) (by omega)).mono ?_); intro r wc hp; obtain ⟨k', n', m', u', A2, l2, c2, rfl, hR2, hxc⟩ := hp.get; have hbF := (bF.ext hx).ext hxc; obtain ⟨q0, q1, q2, q3, q4⟩ := hbF.c5; have f0 := hbF.frozen 0; have f1 := hbF.frozen 1; have f2 := hbF.frozen 2; have f3 := hbF.frozen 3; have f4 := hbF.frozen 4))
    have HP := Lib.hid (MadeE.put (w := w) (p := w.heap.size + 1) (v0 := .int .i64 k') (v1 := .string n') (v2 := .int .i64 m') (v3 := .int .i64 u') (v4 := .slice A2 l2 c2) hR2 (by omega) (by omega) ((hx0.tr hx).tr hxc))
    (try simp only [Exit.inBlock, Exit.then])
    refine bodyPost_ret (by simp [results, Try.results31, go_sem, *]; try rfl) rfl ?_
    rw [HA.out]
    exact HP.out
set_option maxHeartbeats 3200000 in
theorem NormalSimplify_w (e : CL.Ex) (cs : List Value) (w : World) (hR : Rd w w.heap.size e cs) : Calls Try.prog 7 #[.agg cs.toArray] w fun r w' => r = .returned (.bool true) ∧ Ext w w' := by
  obtain ⟨k, s, m, u, A1, l1, c1, rfl⟩ := hR.shape
  obtain ⟨bE, hx0⟩ := box1 w #[.int .i64 k, .string s, .int .i64 m, .int .i64 u, .slice A1 l1 c1] 28
  have hz0 := hx0.size
  go_enter Try.func7, Try.ntmps7
  go_wp2_with fail
  generalize (w.alloc (.cells #[.int .i64 k, .string s, .int .i64 m, .int .i64 u, .slice A1 l1 c1] 28)) = W at *
  have hc := bE.c5
  have HC := Lib.hid hc
  obtain ⟨e0, e1, e2, e3, e4⟩ := hc
  have HRW := Lib.hid (hR.ext hx0 (Nat.le_refl _))
  have hx1 : Ext W W.drew := Ext.drawn W
  have HAW := Lib.hid (fun w => awake9_c w)
  go_region_held3 (fun w' => w'.cell? ⟨w.heap.size, 0, none⟩ = some (.int .i64 k) ∧ w'.cell? ⟨w.heap.size, 1, none⟩ = some (.string s) ∧ w'.cell? ⟨w.heap.size, 2, none⟩ = some (.int .i64 m) ∧ w'.cell? ⟨w.heap.size, 3, none⟩ = some (.int .i64 u) ∧ w'.cell? ⟨w.heap.size, 4, none⟩ = some (.slice A1 l1 c1))
    (first | go_keep | exact cells5' HC.out hx1)
    (first
      | (go_at_call 14; (with_reducible refine (HAW.out _).mono ?_); rintro r w2 ⟨rfl, hxa⟩; replace hx1 := Ext.tr hx1 hxa)
      | (go_at_call 30; (with_reducible refine (normal.Simplify_c e _ w.heap.size _ (HRW.out.ext hx1 hz0) (by have := hx1.size; omega)).mono ?_); intro r w1 hp; obtain ⟨k2, n2, m2, u2, A2, l2, x2, rfl, hr2, hy2⟩ := hp.get; replace hx1 := Ext.tr hx1 hy2; have hrn := hr2.rd; first | (have hrr' := (hrr.ext hy2 (Nat.le_refl _)).le hy2.size) | skip)
      | (go_at_call 31; (with_reducible refine (clusterlocksref09.Simplify_c e _ w.heap.size _ (HRW.out.ext hx1 hz0) (by have := hx1.size; omega)).mono ?_); intro r w1 hp; obtain ⟨k3, n3, m3, u3, A3, l3, x3, rfl, hr3, hy3⟩ := hp.get; replace hx1 := Ext.tr hx1 hy3; have hrr := hr3.rd; first | (have hrn' := (hrn.ext hy3 (Nat.le_refl _)).le hy3.size) | skip)
      | (go_at_call 19; (with_reducible refine (clusterlocksref07.SameExpr_c (CL.smpE e) _ _ _ (by first | exact hrn' | exact hrn) (by first | exact hrr' | exact hrr)).mono ?_); rintro r w4 ⟨rfl, hx4⟩; replace hx1 := Ext.tr hx1 hx4))
  all_goals
    go_wp2
    go_ret
    exact ⟨rfl, hx0.tr hx1⟩
end Go.Proofs.Ytmolffigeobnnaa

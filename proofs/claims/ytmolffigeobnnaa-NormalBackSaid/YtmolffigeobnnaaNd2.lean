
/- The walks of Dual and of the reference's Dual and Blocking. -/
import Derived.Test.YtmolffigeobnnaaNdw
import Derived.Test.YtmolffigeobnnaaNrm
namespace Go.Proofs.Ytmolffigeobnnaa
open Go.RowKit
set_option linter.unusedVariables false
set_option linter.unusedSimpArgs false
set_option maxRecDepth 100000
theorem MadeE.put {w wc : World} {p lo : Nat} {e : CL.Ex} {cs : List Value} {v0 v1 v2 v3 v4 : Value} (h : RdI wc lo wc.heap.size e cs) (hp : w.heap.size ≤ p) (hp2 : p < lo) (hx : Ext w wc) :
    MadeE e w (.returned (.agg cs.toArray)) (((((wc.setCell ⟨p, 0, none⟩ v0).setCell ⟨p, 1, none⟩ v1).setCell ⟨p, 2, none⟩ v2).setCell ⟨p, 3, none⟩ v3).setCell ⟨p, 4, none⟩ v4) := by
  refine ⟨_, rfl, ?_, below_only hx (((((Only.rf.set 0 v0).set 1 v1).set 2 v2).set 3 v3).set 4 v4) hp hx.size⟩
  have h1 := h.same (Same.set5 (v0 := v0) (v1 := v1) (v2 := v2) (v3 := v3) (v4 := v4) (.inl hp2) (Nat.le_refl _))
  exact h1.wide (by omega) (by simp)
theorem noEx_made {w w' : World} (hx : Ext w w') : MadeE CL.noEx w (.returned (.agg #[.int .i64 0, .string ⟨#[]⟩, .int .i64 0, .int .i64 0, .slice none 0 0])) w' :=
  ⟨_, rfl, RdI.leaf w' _ _ 0 CL.noAt none 0 (by simp [CL.noAt]), hx⟩
theorem boxE2 (w : World) (c1 : Array Value) (t1 : TypeId) (c2 : Array Value) (t2 : TypeId) :
    Blk ((w.alloc (.cells c1 t1)).alloc (.cells c2 t2)) w.heap.size t1 c1 ∧ Blk ((w.alloc (.cells c1 t1)).alloc (.cells c2 t2)) (w.heap.size + 1) t2 c2 ∧ Ext w ((w.alloc (.cells c1 t1)).alloc (.cells c2 t2)) := by
  have h2 := Blk.new (w.alloc (.cells c1 t1)) t2 c2
  rw [World.size_alloc] at h2
  exact ⟨(Blk.new w t1 c1).alloc _, h2, (Ext.new _ _).tr (Ext.new _ _)⟩
theorem valid_size {e : CL.Ex} (hv : CL.valid e = true) : CL.size e ≤ 100 := by
  have := (CL.valid_coll hv).2.2
  simp only [CL.small, decide_eq_true_eq] at this; omega
theorem valid_wf {e : CL.Ex} (hv : CL.valid e = true) : CL.Wf e := CL.Wf.of_radd e [] _ (CL.valid_coll hv).1
set_option maxHeartbeats 800000 in
theorem normal.Dual_c (e : CL.Ex) (w : World) (B : Nat) (cs : List Value) (hR : Rd w B e cs) (hB : B ≤ w.heap.size) : Calls Try.prog 18 #[.agg cs.toArray] w (MadeE (CL.dualE e) w) := by
  obtain ⟨k, s, m, u, A, l, c, rfl⟩ := hR.shape
  obtain ⟨bE, bF, hx0⟩ := boxE2 w #[.int .i64 k, .string s, .int .i64 m, .int .i64 u, .slice A l c] 28 #[.int .i64 0, .string ⟨#[]⟩, .int .i64 0, .int .i64 0, .slice none 0 0] 28
  have hz0 := hx0.size
  have hvc := request.ValidExpr_c e ((w.alloc (.cells #[.int .i64 k, .string s, .int .i64 m, .int .i64 u, .slice A l c] 28)).alloc (.cells #[.int .i64 0, .string ⟨#[]⟩, .int .i64 0, .int .i64 0, .slice none 0 0] 28)) B _ (hR.ext hx0 hB) (by omega)
  have hzz : ((w.alloc (.cells #[.int .i64 k, .string s, .int .i64 m, .int .i64 u, .slice A l c] 28)).alloc (.cells #[.int .i64 0, .string ⟨#[]⟩, .int .i64 0, .int .i64 0, .slice none 0 0] 28)).heap.size = w.heap.size + 2 := by simp
  cases hv : CL.valid e
  · have HA := Lib.hid (show CL.dualE e = CL.noEx by simp [CL.dualE, hv])
    rw [hv] at hvc
    have HVC := Lib.hid hvc
    clear hvc
    go_enter Try.func18, Try.ntmps18
    go_wp2_with (go_at_call 44; (with_reducible refine HVC.out.mono ?_); rintro r w' ⟨rfl, hx⟩; have hbF := bF.ext hx; obtain ⟨q0, q1, q2, q3, q4⟩ := hbF.c5; have f0 := hbF.frozen 0; have f1 := hbF.frozen 1; have f2 := hbF.frozen 2; have f3 := hbF.frozen 3; have f4 := hbF.frozen 4)
    (try simp only [Exit.inBlock, Exit.then])
    refine bodyPost_ret (by simp [results, Try.results18, go_sem, *]; try rfl) rfl ?_
    rw [HA.out]
    exact noEx_made (below_only (hx0.tr hx) (((((Only.rf.set 0 _).set 1 _).set 2 _).set 3 _).set 4 _) (by omega) (by have := hx.size; omega))
  · have HA := Lib.hid (show CL.dualE e = CL.dual e by simp [CL.dualE, hv])
    rw [hv] at hvc
    have HVC := Lib.hid hvc
    have HW := Lib.hid (normal.dual_c e (valid_wf hv) (valid_size hv))
    clear hvc
    go_enter Try.func18, Try.ntmps18
    go_wp2_with (first
      | (go_at_call 44; (with_reducible refine HVC.out.mono ?_); rintro r w' ⟨rfl, hx⟩; obtain ⟨e0, e1, e2, e3, e4⟩ := (bE.ext hx).c5; have hz1 := hx.size)
      | (go_at_call 51; (with_reducible refine (HW.out _ B _ ((hR.ext hx0 hB).ext hx (by omega)) (by omega)).mono ?_); intro r wc hp; obtain ⟨k', n', m', u', A2, l2, c2, rfl, hR2, hxc⟩ := hp.get; have hbF := (bF.ext hx).ext hxc; obtain ⟨q0, q1, q2, q3, q4⟩ := hbF.c5; have f0 := hbF.frozen 0; have f1 := hbF.frozen 1; have f2 := hbF.frozen 2; have f3 := hbF.frozen 3; have f4 := hbF.frozen 4))
    have HP := Lib.hid (MadeE.put (w := w) (p := w.heap.size + 1) (v0 := .int .i64 k') (v1 := .string n') (v2 := .int .i64 m') (v3 := .int .i64 u') (v4 := .slice A2 l2 c2) hR2 (by omega) (by omega) ((hx0.tr hx).tr hxc))
    (try simp only [Exit.inBlock, Exit.then])
    refine bodyPost_ret (by simp [results, Try.results18, go_sem, *]; try rfl) rfl ?_
    rw [HA.out]
    exact HP.out
set_option maxHeartbeats 800000 in
theorem clusterlocksref09.Dual_c (e : CL.Ex) (w : World) (B : Nat) (cs : List Value) (hR : Rd w B e cs) (hB : B ≤ w.heap.size) : Calls Try.prog 20 #[.agg cs.toArray] w (MadeE (CL.dualE e) w) := by
  obtain ⟨k, s, m, u, A, l, c, rfl⟩ := hR.shape
  obtain ⟨bE, bF, hx0⟩ := boxE2 w #[.int .i64 k, .string s, .int .i64 m, .int .i64 u, .slice A l c] 28 #[.int .i64 0, .string ⟨#[]⟩, .int .i64 0, .int .i64 0, .slice none 0 0] 28
  have hz0 := hx0.size
  have hvc := clusterlocksref07.ValidExpr_c e ((w.alloc (.cells #[.int .i64 k, .string s, .int .i64 m, .int .i64 u, .slice A l c] 28)).alloc (.cells #[.int .i64 0, .string ⟨#[]⟩, .int .i64 0, .int .i64 0, .slice none 0 0] 28)) B _ (hR.ext hx0 hB) (by omega)
  have hzz : ((w.alloc (.cells #[.int .i64 k, .string s, .int .i64 m, .int .i64 u, .slice A l c] 28)).alloc (.cells #[.int .i64 0, .string ⟨#[]⟩, .int .i64 0, .int .i64 0, .slice none 0 0] 28)).heap.size = w.heap.size + 2 := by simp
  cases hv : CL.valid e
  · have HA := Lib.hid (show CL.dualE e = CL.noEx by simp [CL.dualE, hv])
    rw [hv] at hvc
    have HVC := Lib.hid hvc
    clear hvc
    go_enter Try.func20, Try.ntmps20
    go_wp2_with (go_at_call 21; (with_reducible refine HVC.out.mono ?_); rintro r w' ⟨rfl, hx⟩; have hbF := bF.ext hx; obtain ⟨q0, q1, q2, q3, q4⟩ := hbF.c5; have f0 := hbF.frozen 0; have f1 := hbF.frozen 1; have f2 := hbF.frozen 2; have f3 := hbF.frozen 3; have f4 := hbF.frozen 4)
    (try simp only [Exit.inBlock, Exit.then])
    refine bodyPost_ret (by simp [results, Try.results20, go_sem, *]; try rfl) rfl ?_
    rw [HA.out]
    exact noEx_made (below_only (hx0.tr hx) (((((Only.rf.set 0 _).set 1 _).set 2 _).set 3 _).set 4 _) (by omega) (by have := hx.size; omega))
  · have HA := Lib.hid (show CL.dualE e = CL.dual e by simp [CL.dualE, hv])
    rw [hv] at hvc
    have HVC := Lib.hid hvc
    have HW := Lib.hid (clusterlocksref09.dual_c e (valid_wf hv) (valid_size hv))
    clear hvc
    go_enter Try.func20, Try.ntmps20
    go_wp2_with (first
      | (go_at_call 21; (with_reducible refine HVC.out.mono ?_); rintro r w' ⟨rfl, hx⟩; obtain ⟨e0, e1, e2, e3, e4⟩ := (bE.ext hx).c5; have hz1 := hx.size)
      | (go_at_call 52; (with_reducible refine (HW.out _ B _ ((hR.ext hx0 hB).ext hx (by omega)) (by omega)).mono ?_); intro r wc hp; obtain ⟨k', n', m', u', A2, l2, c2, rfl, hR2, hxc⟩ := hp.get; have hbF := (bF.ext hx).ext hxc; obtain ⟨q0, q1, q2, q3, q4⟩ := hbF.c5; have f0 := hbF.frozen 0; have f1 := hbF.frozen 1; have f2 := hbF.frozen 2; have f3 := hbF.frozen 3; have f4 := hbF.frozen 4))
    have HP := Lib.hid (MadeE.put (w := w) (p := w.heap.size + 1) (v0 := .int .i64 k') (v1 := .string n') (v2 := .int .i64 m') (v3 := .int .i64 u') (v4 := .slice A2 l2 c2) hR2 (by omega) (by omega) ((hx0.tr hx).tr hxc))
    (try simp only [Exit.inBlock, Exit.then])
    refine bodyPost_ret (by simp [results, Try.results20, go_sem, *]; try rfl) rfl ?_
    rw [HA.out]
    exact HP.out
set_option maxHeartbeats 800000 in
theorem clusterlocksref09.Blocking_c (e : CL.Ex) (w : World) (B : Nat) (cs : List Value) (hR : Rd w B e cs) (hB : B ≤ w.heap.size) : Calls Try.prog 35 #[.agg cs.toArray] w (SetsAt (blksE e) w) := by
  obtain ⟨k, s, m, u, A, l, c, rfl⟩ := hR.shape
  obtain ⟨bE, hx0⟩ := box1 w #[.int .i64 k, .string s, .int .i64 m, .int .i64 u, .slice A l c] 28
  have hz0 := hx0.size
  have hvc := clusterlocksref07.ValidExpr_c e (w.alloc (.cells #[.int .i64 k, .string s, .int .i64 m, .int .i64 u, .slice A l c] 28)) B _ (hR.ext hx0 hB) (by omega)
  cases hv : CL.valid e
  · have HA := Lib.hid (show blksE e = [] by simp [blksE, hv])
    rw [hv] at hvc
    have HVC := Lib.hid hvc
    clear hvc
    go_enter Try.func35, Try.ntmps35
    go_wp2_with (go_at_call 21; (with_reducible refine HVC.out.mono ?_); rintro r w' ⟨rfl, hx⟩)
    go_ret
    rw [HA.out]
    exact SetsAt.nil _ _ (hx0.tr hx)
  · have HA := Lib.hid (show blksE e = minsE (CL.dual e) by rw [blks_dual]; simp [CL.dualE, hv])
    rw [hv] at hvc
    have HVC := Lib.hid hvc
    have HW := Lib.hid (clusterlocksref09.dual_c e (valid_wf hv) (valid_size hv))
    clear hvc
    go_enter Try.func35, Try.ntmps35
    go_wp2_with (first
      | (go_at_call 21; (with_reducible refine HVC.out.mono ?_); rintro r w' ⟨rfl, hx⟩; obtain ⟨e0, e1, e2, e3, e4⟩ := (bE.ext hx).c5; have hz1 := hx.size)
      | (go_at_call 52; (with_reducible refine (HW.out _ B _ ((hR.ext hx0 hB).ext hx (by omega)) (by omega)).mono ?_); intro r wc hp; obtain ⟨k', n', m', u', A2, l2, c2, rfl, hR2, hxc⟩ := hp.get)
      | (go_at_call 17; (with_reducible refine (clusterlocksref09.Minimal_c (CL.dual e) _ _ _ hR2.rd (Nat.le_refl _)).mono ?_); intro r w3 hp3; obtain ⟨A3, c3, vs, rfl, q1, q2, q3⟩ := hp3.pre ((hx0.tr hx).tr hxc)))
    go_ret
    exact ⟨A3, c3, vs, by rw [HA.out]; rfl, q1, by rw [HA.out]; exact q2, q3⟩
end Go.Proofs.Ytmolffigeobnnaa


/- The walks of the reference's SameExpr and SameRequest, at two expressions that are the same. -/
import Derived.Test.YtlfnpkjfnafeaaaDoorZ10
import Derived.Test.YtlfnpkjfnafeaaaDoorZ1
namespace Go.Proofs.YtlfnpkjfnafeaaaDoor
open Go.RowKit
set_option linter.unusedVariables false
set_option linter.unusedSimpArgs false
set_option maxRecDepth 100000
theorem boxes2 (w : World) (c1 : Array Value) (t1 : TypeId) (c2 : Array Value) (t2 : TypeId) :
    Blk ((w.alloc (.cells c1 t1)).alloc (.cells c2 t2)) w.heap.size t1 c1 ∧ Blk ((w.alloc (.cells c1 t1)).alloc (.cells c2 t2)) (w.heap.size + 1) t2 c2 ∧ Ext w ((w.alloc (.cells c1 t1)).alloc (.cells c2 t2)) := by
  refine ⟨(Blk.new w t1 c1).alloc _, ?_, (Ext.new _ _).tr (Ext.new _ _)⟩
  have h := Blk.new (w.alloc (.cells c1 t1)) t2 c2
  rw [World.size_alloc] at h; exact h
set_option maxHeartbeats 1600000 in
theorem clusterlocksref07.SameExpr_c (e : CL.Ex) : ∀ (w : World) (cs ds : List Value), Rd w w.heap.size e cs → Rd w w.heap.size e ds →
    Calls Tryd.prog 41 #[.agg cs.toArray, .agg ds.toArray] w fun r w' => r = .returned (.bool true) ∧ Ext w w' := by
  induction e using CL.Ex.ind with
  | h k a kids ih =>
    intro w cs ds hR hS
    obtain ⟨A, c, rfl, hnm, hkl, hkc, hK⟩ := hR.inv
    obtain ⟨D, d, rfl, hnm', hkl', hkd, hD⟩ := hS.inv
    obtain ⟨nm, m, u⟩ := a
    have IH := Lib.hid ih
    clear ih hR hS hnm' hkl'
    unfold maxLen at hkl
    obtain ⟨bE, bF, hx0⟩ := boxes2 w #[.int .i64 k, .string ⟨nm.toArray⟩, .int .i64 m, .int .i64 u, .slice A kids.length c] 28 #[.int .i64 k, .string ⟨nm.toArray⟩, .int .i64 m, .int .i64 u, .slice D kids.length d] 28
    go_enter Tryd.func41, Tryd.ntmps41
    go_wp2
    generalize ((w.alloc (.cells #[.int .i64 k, .string ⟨nm.toArray⟩, .int .i64 m, .int .i64 u, .slice A kids.length c] 28)).alloc (.cells #[.int .i64 k, .string ⟨nm.toArray⟩, .int .i64 m, .int .i64 u, .slice D kids.length d] 28)) = w1 at *
    go_loopw [5] (fun i wr => ∃ (j : Nat), j ≤ kids.length ∧ i = .int .i64 j ∧ Ext w1 wr) (fun i _ => kids.length - (intOf i).toNat)
    case atStart => exact ⟨0, by omega, rfl, Ext.rfl'⟩
    case round =>
      obtain ⟨j, hj, rfl, hx⟩ := hrel
      have e4 : wr.cell? ⟨w.heap.size, 4, none⟩ = some (.slice A kids.length c) := (bE.ext hx).cell 4
      have f4 : wr.cell? ⟨w.heap.size + 1, 4, none⟩ = some (.slice D kids.length d) := (bF.ext hx).cell 4
      have hw1 := hx0.size
      have hwr := hx.size
      by_cases hlt : j < kids.length
      · have hKr := hK.below ((hx0.tr hx).mono (Nat.le_refl _))
        have hDr := hD.below ((hx0.tr hx).mono (Nat.le_refl _))
        obtain ⟨b, o, k1, s1, m1, u1, A1, l1, x1, rfl, hbB, hR, c0, c1, c2, c3, c4⟩ := hKr.get hlt
        obtain ⟨b', o', k2, s2, m2, u2, A2, l2, x2, rfl, hbB', hS, d0, d1, d2, d3, d4⟩ := hDr.get hlt
        have hm := List.getElem_mem hlt
        generalize kids[j] = e at *
        have HC := Lib.hid (fun x : ExtOf wr => IH.out e hm x.val _ _ ((hR.ext x.ext (by omega)).le (by have := x.ext.size; omega)) ((hS.ext x.ext (by omega)).le (by have := x.ext.size; omega)))
        have hlts : (j : Int) < (kids.length : Int) := by omega
        have q4 := ExtOf.cell e4
        have r4 := ExtOf.cell f4
        have y0 := ExtOf.cell c0
        have y1 := ExtOf.cell c1
        have y2 := ExtOf.cell c2
        have y3 := ExtOf.cell c3
        have y4 := ExtOf.cell c4
        have z0 := ExtOf.cell d0
        have z1 := ExtOf.cell d1
        have z2 := ExtOf.cell d2
        have z3 := ExtOf.cell d3
        have z4 := ExtOf.cell d4
        go_wp2_with fail
        refine wp_region_ext_lit (by kernel_rfl) (by kernel_rfl) ?_
        repeat (go_big_quiet_step ((go_at_call 41; exact xqX (HC.out _))))
        refine wpQuiet_nil ?_
        intro wq hw'
        obtain ⟨⟨wq', hxq⟩, hw''⟩ := hw'
        subst hw''
        go_wp2
        go_roundw
        case rel => exact ⟨j + 1, by omega, by go_num, hx.tr hxq⟩
        case measure => simp [intOf]; omega
      · have hge : decide ((j : Int) < (kids.length : Int)) = false := by simp; omega
        go_wp2
        go_ret
        exact ⟨rfl, hx0.tr hx⟩
set_option maxHeartbeats 1600000 in
theorem clusterlocksref07.SameRequest_c (q : CL.Rq) (w : World) (cs ds : List Value) (hR : Rd w w.heap.size q.e cs) (hS : Rd w w.heap.size q.e ds) :
    Calls Tryd.prog 19 #[.agg (cs ++ [Value.int .i64 q.p, Value.int .i64 q.m]).toArray, .agg (ds ++ [Value.int .i64 q.p, Value.int .i64 q.m]).toArray] w fun r w' => r = .returned (.bool true) ∧ Ext w w' := by
  obtain ⟨k, s, m, u, A, l, c, rfl⟩ := hR.shape
  obtain ⟨k', s', m', u', A', l', c', rfl⟩ := hS.shape
  simp only [List.cons_append, List.nil_append]
  obtain ⟨bE, bF, hx0⟩ := boxes2 w #[.int .i64 k, .string s, .int .i64 m, .int .i64 u, .slice A l c, .int .i64 q.p, .int .i64 q.m] 30 #[.int .i64 k', .string s', .int .i64 m', .int .i64 u', .slice A' l' c', .int .i64 q.p, .int .i64 q.m] 30
  go_enter Tryd.func19, Tryd.ntmps19
  go_wp2_with fail
  generalize ((w.alloc (.cells #[.int .i64 k, .string s, .int .i64 m, .int .i64 u, .slice A l c, .int .i64 q.p, .int .i64 q.m] 30)).alloc (.cells #[.int .i64 k', .string s', .int .i64 m', .int .i64 u', .slice A' l' c', .int .i64 q.p, .int .i64 q.m] 30)) = w1 at *
  have hz := hx0.size
  have H := clusterlocksref07.SameExpr_c q.e w1 _ _ ((hR.ext hx0 (Nat.le_refl _)).le hz) ((hS.ext hx0 (Nat.le_refl _)).le hz)
  obtain ⟨e0, e1, e2, e3, e4, e5, e6⟩ := bE.c7
  obtain ⟨f0, f1, f2, f3, f4, f5, f6⟩ := bF.c7
  refine H.mono ?_
  rintro r w2 ⟨rfl, hx2⟩
  obtain ⟨e0, e1, e2, e3, e4, e5, e6⟩ := (bE.ext hx2).c7
  obtain ⟨f0, f1, f2, f3, f4, f5, f6⟩ := (bF.ext hx2).c7
  go_wp2_with fail
  go_ret
  exact ⟨rfl, hx0.tr hx2⟩
end Go.Proofs.YtlfnpkjfnafeaaaDoor

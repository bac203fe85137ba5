
/- The walks of normal's Minimal and Blocking. -/
import Derived.Test.YtmolffigeobnnaaNl
namespace Go.Proofs.Ytmolffigeobnnaa
open Go.RowKit
set_option linter.unusedVariables false
set_option linter.unusedSimpArgs false
set_option maxRecDepth 100000
theorem SetsAt.pre {a w w' : World} {ls : List (List Int)} {r : Ending} (h : SetsAt ls w r w') (hx : Ext a w) : SetsAt ls a r w' := by
  obtain ⟨A, c, vs, rfl, h1, h2, h3⟩ := h
  refine ⟨A, c, vs, rfl, h1, ⟨h2.1, fun i p q => ?_⟩, hx.tr h3⟩
  obtain ⟨A', c', e, k1, k2, k3⟩ := h2.2 i p q
  exact ⟨A', c', e, k1, k2, fun b o e => ⟨Nat.le_trans hx.size (k3 b o e).1, (k3 b o e).2⟩⟩
theorem SetsAt.nil (w w' : World) (hx : Ext w w') : SetsAt [] w (.returned (.slice none 0 0)) w' := ⟨none, 0, [], rfl, Sits.nil, Mats.nil _ _ _, hx⟩
theorem asks_m (e : CL.Ex) (n g B : Nat) (cs : List Value) (w : World) (hn : n ≤ 8) (hb : Blk w g 28 cs.toArray) (hR : Rd w B e cs) (hB : B ≤ w.heap.size) : Asks 47 g n (holdsE e) w := by
  intro w' hx s S c hs hS
  obtain ⟨k, nm, m, u, A, l, c1, rfl⟩ := hR.shape
  have hb' := hb.ext hx
  obtain ⟨e0, e1, e2, e3, e4⟩ := hb'.c5
  have hsz := hx.size
  subst hs
  go_enter Try.func47, Try.ntmps47
  go_wp2_with (go_at_call 48; (with_reducible refine (formula.Holds_c e s S c (by unfold maxLen; omega) _ B _ (hR.ext hx hB) (by omega) hS).mono ?_); rintro r w'' ⟨rfl, hx1⟩)
  go_ret
  exact ⟨rfl, hx1⟩
theorem asks_b (e : CL.Ex) (n g B : Nat) (cs : List Value) (w : World) (hn : n ≤ 8) (hb : Blk w g 28 cs.toArray) (hR : Rd w B e cs) (hB : B ≤ w.heap.size) : Asks 62 g n (hpl e) w := by
  intro w' hx s S c hs hS
  obtain ⟨k, nm, m, u, A, l, c1, rfl⟩ := hR.shape
  have hb' := hb.ext hx
  obtain ⟨e0, e1, e2, e3, e4⟩ := hb'.c5
  have hsz := hx.size
  subst hs
  go_enter Try.func62, Try.ntmps62
  go_wp2_with (go_at_call 63; (with_reducible refine (formula.Hopeless_c e s S c (by unfold maxLen; omega) _ B _ (hR.ext hx hB) (by omega) hS).mono ?_); rintro r w'' ⟨rfl, hx1⟩)
  go_ret
  exact ⟨rfl, hx1⟩
set_option maxHeartbeats 800000 in
theorem normal.Minimal_c (e : CL.Ex) (w : World) (B : Nat) (cs : List Value) (hR : Rd w B e cs) (hB : B ≤ w.heap.size) : Calls Try.prog 16 #[.agg cs.toArray] w (SetsAt (minsE e) w) := by
  obtain ⟨k, s, m, u, A, l, c, rfl⟩ := hR.shape
  obtain ⟨bE, hx0⟩ := box1 w #[.int .i64 k, .string s, .int .i64 m, .int .i64 u, .slice A l c] 28
  have hz0 := hx0.size
  have hvc := request.ValidExpr_c e (w.alloc (.cells #[.int .i64 k, .string s, .int .i64 m, .int .i64 u, .slice A l c] 28)) B _ (hR.ext hx0 hB) (by omega)
  cases hv : CL.valid e
  · have HA := Lib.hid (show minsE e = [] by simp [minsE, hv])
    rw [hv] at hvc
    go_enter Try.func16, Try.ntmps16
    go_wp2_with (go_at_call 44; (with_reducible refine hvc.mono ?_); rintro r w' ⟨rfl, hx⟩)
    go_ret
    rw [HA.out]
    exact SetsAt.nil _ _ (hx0.tr hx)
  · have HA := Lib.hid (show minsE e = minsN (CL.atoms e).length (holdsE e) by simp [minsE, hv])
    rw [hv] at hvc
    have hl8 := atoms_len e
    go_enter Try.func16, Try.ntmps16
    go_wp2_with (first
      | (go_at_call 44; (with_reducible refine hvc.mono ?_); rintro r w' ⟨rfl, hx⟩; obtain ⟨e0, e1, e2, e3, e4⟩ := (bE.ext hx).c5; have hz1 := hx.size)
      | (go_at_call 46; (with_reducible refine (formula.Atoms_c e _ B _ ((hR.ext hx0 hB).ext hx (by omega)) (by omega)).mono ?_); intro r w2 hp; obtain ⟨A2, c2, rfl, _, hx2⟩ := hp.get; have hz2 := hx2.size)
      | (go_at_call 45; (with_reducible refine (least_m _ w.heap.size (holdsE e) hl8 _ (asks_m e _ w.heap.size B _ _ hl8 ((bE.ext hx).ext hx2) (((hR.ext hx0 hB).ext hx (by omega)).ext hx2 (by omega)) (by omega))).mono ?_); intro r w3 hp3; obtain ⟨A3, c3, vs, rfl, q1, q2, q3⟩ := hp3.pre ((hx0.tr hx).tr hx2)))
    go_ret
    exact ⟨A3, c3, vs, by rw [HA.out]; rfl, q1, by rw [HA.out]; exact q2, q3⟩
set_option maxHeartbeats 800000 in
theorem normal.Blocking_c (e : CL.Ex) (w : World) (B : Nat) (cs : List Value) (hR : Rd w B e cs) (hB : B ≤ w.heap.size) : Calls Try.prog 34 #[.agg cs.toArray] w (SetsAt (blksE e) w) := by
  obtain ⟨k, s, m, u, A, l, c, rfl⟩ := hR.shape
  obtain ⟨bE, hx0⟩ := box1 w #[.int .i64 k, .string s, .int .i64 m, .int .i64 u, .slice A l c] 28
  have hz0 := hx0.size
  have hvc := request.ValidExpr_c e (w.alloc (.cells #[.int .i64 k, .string s, .int .i64 m, .int .i64 u, .slice A l c] 28)) B _ (hR.ext hx0 hB) (by omega)
  cases hv : CL.valid e
  · have HA := Lib.hid (show blksE e = [] by simp [blksE, hv])
    rw [hv] at hvc
    go_enter Try.func34, Try.ntmps34
    go_wp2_with (go_at_call 44; (with_reducible refine hvc.mono ?_); rintro r w' ⟨rfl, hx⟩)
    go_ret
    rw [HA.out]
    exact SetsAt.nil _ _ (hx0.tr hx)
  · have HA := Lib.hid (show blksE e = minsN (CL.atoms e).length (hpl e) by simp [blksE, hv])
    rw [hv] at hvc
    have hl8 := atoms_len e
    go_enter Try.func34, Try.ntmps34
    go_wp2_with (first
      | (go_at_call 44; (with_reducible refine hvc.mono ?_); rintro r w' ⟨rfl, hx⟩; obtain ⟨e0, e1, e2, e3, e4⟩ := (bE.ext hx).c5; have hz1 := hx.size)
      | (go_at_call 46; (with_reducible refine (formula.Atoms_c e _ B _ ((hR.ext hx0 hB).ext hx (by omega)) (by omega)).mono ?_); intro r w2 hp; obtain ⟨A2, c2, rfl, _, hx2⟩ := hp.get; have hz2 := hx2.size)
      | (go_at_call 45; (with_reducible refine (least_b _ w.heap.size (hpl e) hl8 _ (asks_b e _ w.heap.size B _ _ hl8 ((bE.ext hx).ext hx2) (((hR.ext hx0 hB).ext hx (by omega)).ext hx2 (by omega)) (by omega))).mono ?_); intro r w3 hp3; obtain ⟨A3, c3, vs, rfl, q1, q2, q3⟩ := hp3.pre ((hx0.tr hx).tr hx2)))
    go_ret
    exact ⟨A3, c3, vs, by rw [HA.out]; rfl, q1, by rw [HA.out]; exact q2, q3⟩
end Go.Proofs.Ytmolffigeobnnaa

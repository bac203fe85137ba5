
/- The statements about amounts (chapter 4): the walks of the laws, first part. -/
import Derived.Test.YtghhmooknjoblaaDoorAw5
namespace Go.Proofs.YtghhmooknjoblaaDoor
open Go.RowKit
set_option linter.unusedVariables false
theorem Blk.c2 {w : World} {g : Nat} {t : TypeId} {x y : Value} (h : Blk w g t #[x, y]) : w.cell? ⟨g, 0, none⟩ = some x ∧ w.cell? ⟨g, 1, none⟩ = some y := ⟨h.cell 0, h.cell 1⟩
theorem Blk.c4 {w : World} {g : Nat} {t : TypeId} {x y z v : Value} (h : Blk w g t #[x, y, z, v]) : w.cell? ⟨g, 0, none⟩ = some x ∧ w.cell? ⟨g, 1, none⟩ = some y ∧ w.cell? ⟨g, 2, none⟩ = some z ∧ w.cell? ⟨g, 3, none⟩ = some v := ⟨h.cell 0, h.cell 1, h.cell 2, h.cell 3⟩
theorem box1 (w : World) (c1 : Array Value) (t1 : TypeId) : Blk (w.alloc (.cells c1 t1)) w.heap.size t1 c1 ∧ Ext w (w.alloc (.cells c1 t1)) := ⟨Blk.new _ _ _, Ext.new _ _⟩
theorem box2 (w : World) (c1 : Array Value) (t1 : TypeId) (c2 : Array Value) (t2 : TypeId) : Blk ((w.alloc (.cells c1 t1)).alloc (.cells c2 t2)) w.heap.size t1 c1 ∧ Blk ((w.alloc (.cells c1 t1)).alloc (.cells c2 t2)) (w.heap.size + 1) t2 c2 ∧ Ext w ((w.alloc (.cells c1 t1)).alloc (.cells c2 t2)) :=
  ⟨(Blk.new _ _ _).alloc _, by have h := Blk.new (w.alloc (.cells c1 t1)) t2 c2; rw [World.size_alloc] at h; exact h, by go_grown⟩
theorem box3 (w : World) (c1 : Array Value) (t1 : TypeId) (c2 : Array Value) (t2 : TypeId) (c3 : Array Value) (t3 : TypeId) : Blk (((w.alloc (.cells c1 t1)).alloc (.cells c2 t2)).alloc (.cells c3 t3)) w.heap.size t1 c1 ∧ Blk (((w.alloc (.cells c1 t1)).alloc (.cells c2 t2)).alloc (.cells c3 t3)) (w.heap.size + 1) t2 c2 ∧
    Blk (((w.alloc (.cells c1 t1)).alloc (.cells c2 t2)).alloc (.cells c3 t3)) (w.heap.size + 1 + 1) t3 c3 ∧ Ext w (((w.alloc (.cells c1 t1)).alloc (.cells c2 t2)).alloc (.cells c3 t3)) := by
  obtain ⟨h1, h2, h3⟩ := box2 w c1 t1 c2 t2
  have h := Blk.new ((w.alloc (.cells c1 t1)).alloc (.cells c2 t2)) t3 c3
  rw [World.size_alloc, World.size_alloc] at h
  exact ⟨h1.alloc _, h2.alloc _, h, by go_grown⟩
theorem box4 (w : World) (c1 : Array Value) (t1 : TypeId) (c2 : Array Value) (t2 : TypeId) (c3 : Array Value) (t3 : TypeId) (c4 : Array Value) (t4 : TypeId) : Blk ((((w.alloc (.cells c1 t1)).alloc (.cells c2 t2)).alloc (.cells c3 t3)).alloc (.cells c4 t4)) w.heap.size t1 c1 ∧ Blk ((((w.alloc (.cells c1 t1)).alloc (.cells c2 t2)).alloc (.cells c3 t3)).alloc (.cells c4 t4)) (w.heap.size + 1) t2 c2 ∧
    Blk ((((w.alloc (.cells c1 t1)).alloc (.cells c2 t2)).alloc (.cells c3 t3)).alloc (.cells c4 t4)) (w.heap.size + 1 + 1) t3 c3 ∧ Blk ((((w.alloc (.cells c1 t1)).alloc (.cells c2 t2)).alloc (.cells c3 t3)).alloc (.cells c4 t4)) (w.heap.size + 1 + 1 + 1) t4 c4 ∧ Ext w ((((w.alloc (.cells c1 t1)).alloc (.cells c2 t2)).alloc (.cells c3 t3)).alloc (.cells c4 t4)) := by
  obtain ⟨h1, h2, h3, h4⟩ := box3 w c1 t1 c2 t2 c3 t3
  have h := Blk.new (((w.alloc (.cells c1 t1)).alloc (.cells c2 t2)).alloc (.cells c3 t3)) t4 c4
  rw [World.size_alloc, World.size_alloc, World.size_alloc] at h
  exact ⟨h1.alloc _, h2.alloc _, h3.alloc _, h, by go_grown⟩
set_option maxHeartbeats 800000 in
theorem awake4_c (w : World) (hT : Tab w) : Calls Tryd.prog 12 #[] w fun e w' => e = .returned (.bool true) ∧ Ext w w' := by
  have k1 : CL.join 1 1 ⟨2, 0⟩ ⟨3, 0⟩ = ⟨4, 0⟩ := by decide
  have k2 : CL.compat 2 3 [⟨0, 1⟩, ⟨0, 2⟩] = true := by decide
  have k3 : CL.fits 2 3 ⟨0, 4⟩ = false := by decide
  have k4 : CL.fmtA ⟨0, 3⟩ = [42, 51] := by decide
  have hq := am_eql 4 0 4 0
  have hg := am_guard
  go_enter Tryd.func12, Tryd.ntmps12
  go_wp2_with (first
        | (go_at_call 22; refine (amount.Join_c _ _ _ _ _ _ _ _ _).mono ?_; rintro e w' ⟨rfl, hx1⟩; have hx := Ext.tr (a := w) (by go_grown) hx1; have hz := hx.size; obtain ⟨hc1, hf1⟩ := bcell hx1; have hz1 := hx1.size; (try simp only [World.size_alloc] at hz1); (try have hl0 : w.heap.size < w'.heap.size := by omega); (try have hl1 : w.heap.size + 1 < w'.heap.size := by omega); (try have hl2 : w.heap.size + 1 + 1 < w'.heap.size := by omega); (try have hl3 : w.heap.size + 1 + 1 + 1 < w'.heap.size := by omega); clear hx1)
        | (go_at_call 18; refine (amount.Compatible_n _ _ _ _ [⟨0, 1⟩, ⟨0, 2⟩] _ _ _ rfl _ (hT.ext (by go_grown)) (by decide) (Sits.new _ _ _)).mono ?_; rintro e w' ⟨rfl, hx1⟩; have hx := Ext.tr (a := w) (by go_grown) hx1; have hz := hx.size; obtain ⟨hc1, hf1⟩ := bcell hx1; have hz1 := hx1.size; (try simp only [World.size_alloc] at hz1); (try have hl0 : w.heap.size < w'.heap.size := by omega); (try have hl1 : w.heap.size + 1 < w'.heap.size := by omega); (try have hl2 : w.heap.size + 1 + 1 < w'.heap.size := by omega); (try have hl3 : w.heap.size + 1 + 1 + 1 < w'.heap.size := by omega); clear hx1)
        | (go_at_call 16; refine (amount.Fits_c _ _ _ _ _ _ _).mono ?_; rintro e w' ⟨rfl, hx1⟩; have hx := Ext.tr (a := w) (by go_grown) hx1; have hz := hx.size; obtain ⟨hc1, hf1⟩ := bcell hx1; have hz1 := hx1.size; (try simp only [World.size_alloc] at hz1); (try have hl0 : w.heap.size < w'.heap.size := by omega); (try have hl1 : w.heap.size + 1 < w'.heap.size := by omega); (try have hl2 : w.heap.size + 1 + 1 < w'.heap.size := by omega); (try have hl3 : w.heap.size + 1 + 1 + 1 < w'.heap.size := by omega); clear hx1)
        | (go_at_call 19; refine (amount.Format_c _ _ _).mono ?_; rintro e w' ⟨rfl, hx1⟩; have hx := Ext.tr (a := w) (by go_grown) hx1; have hz := hx.size; obtain ⟨hc1, hf1⟩ := bcell hx1; have hz1 := hx1.size; (try simp only [World.size_alloc] at hz1); (try have hl0 : w.heap.size < w'.heap.size := by omega); (try have hl1 : w.heap.size + 1 < w'.heap.size := by omega); (try have hl2 : w.heap.size + 1 + 1 < w'.heap.size := by omega); (try have hl3 : w.heap.size + 1 + 1 + 1 < w'.heap.size := by omega); clear hx1))
  go_ret
  exact ⟨rfl, by go_grown⟩
theorem AmountFits_w (n : ByteArray) (k u h : Int) (a0 a1 : Int) (w : World) (hT : Tab w) : Calls Tryd.prog 3 #[.agg #[.string n, .int .i64 k, .int .i64 u, .int .i64 h], .agg #[.int .i64 a0, .int .i64 a1]] w fun e w' => e = .returned (.bool true) ∧ Ext w w' := by
  have hq := am_eql a0 a1 0 0
  have hg := am_guard
  have hz : decide (a0 = 0 ∧ a1 = 0) = CL.zer ⟨a0, a1⟩ := rfl
  go_enter Tryd.func3, Tryd.ntmps3
  go_wp2_with fail
  obtain ⟨bR, ba, hxW⟩ := box2 w #[.string n, .int .i64 k, .int .i64 u, .int .i64 h] 23 #[.int .i64 a0, .int .i64 a1] 25
  generalize ((w.alloc (.cells #[.string n, .int .i64 k, .int .i64 u, .int .i64 h] 23)).alloc (.cells #[.int .i64 a0, .int .i64 a1] 25)) = W at *
  obtain ⟨e0, e1, e2, e3⟩ := bR.c4
  have q0 := ExtOf.cell e0
  have q1 := ExtOf.cell e1
  have q2 := ExtOf.cell e2
  have q3 := ExtOf.cell e3
  obtain ⟨f0, f1⟩ := ba.c2
  have g0 := ExtOf.cell f0
  have g1 := ExtOf.cell f1
  have hTx := fun x : ExtOf W => (hT.ext hxW).ext x.ext
  have HTX := Lib.hid hTx
  clear hTx
  refine wp_region_ext_lit (by kernel_rfl) (by kernel_rfl) ?_
  repeat (go_big_quiet_step ((first
      | (go_at_call 12; exact xqX (awake4_c _ (HTX.out _)))
      | (go_at_call 13; exact xqX (amount.Shaped_c _ _ _ _ _))
      | (go_at_call 14; exact xqX (clusterlocksref04.Shaped_c _ _ _ _ _))
      | (go_at_call 15; exact xqX (amount.Zero_c _ _ _))
      | (go_at_call 16; exact xqX (amount.Fits_c _ _ _ _ _ _ _))
      | (go_at_call 17; exact xqX (clusterlocksref04.Fits_c _ _ _ _ _ _ _)))))
  refine wpQuiet_nil ?_
  intro wq hw'
  obtain ⟨⟨wq', hxq⟩, hw''⟩ := hw'
  subst hw''
  go_wp2
  go_ret
  exact ⟨rfl, hxW.tr hxq⟩
set_option maxHeartbeats 800000 in
theorem AmountCovers_w (n : ByteArray) (k u h : Int) (a0 a1 : Int) (b0 b1 : Int) (w : World) (hT : Tab w) : Calls Tryd.prog 8 #[.agg #[.string n, .int .i64 k, .int .i64 u, .int .i64 h], .agg #[.int .i64 a0, .int .i64 a1], .agg #[.int .i64 b0, .int .i64 b1]] w fun e w' => e = .returned (.bool true) ∧ Ext w w' := by
  have hq := am_eql
  have hg := am_guard
  go_enter Tryd.func8, Tryd.ntmps8
  go_wp2_with fail
  obtain ⟨bR, ba, bb, hxW⟩ := box3 w #[.string n, .int .i64 k, .int .i64 u, .int .i64 h] 23 #[.int .i64 a0, .int .i64 a1] 25 #[.int .i64 b0, .int .i64 b1] 25
  generalize (((w.alloc (.cells #[.string n, .int .i64 k, .int .i64 u, .int .i64 h] 23)).alloc (.cells #[.int .i64 a0, .int .i64 a1] 25)).alloc (.cells #[.int .i64 b0, .int .i64 b1] 25)) = W at *
  obtain ⟨e0, e1, e2, e3⟩ := bR.c4
  have q0 := ExtOf.cell e0
  have q1 := ExtOf.cell e1
  have q2 := ExtOf.cell e2
  have q3 := ExtOf.cell e3
  obtain ⟨f0, f1⟩ := ba.c2
  have g0 := ExtOf.cell f0
  have g1 := ExtOf.cell f1
  obtain ⟨f0, f1⟩ := bb.c2
  have g0 := ExtOf.cell f0
  have g1 := ExtOf.cell f1
  have hTx := fun x : ExtOf W => (hT.ext hxW).ext x.ext
  have HTX := Lib.hid hTx
  clear hTx
  refine wp_region_ext_lit (by kernel_rfl) (by kernel_rfl) ?_
  repeat (go_big_quiet_step ((first
      | (go_at_call 12; exact xqX (awake4_c _ (HTX.out _)))
      | (go_at_call 26; exact xqX (amount.Covers_c _ _ _ _ _ _ _ _ _))
      | (go_at_call 27; exact xqX (clusterlocksref04.Covers_c _ _ _ _ _ _ _ _ _))
      | (go_at_call 22; exact xqX (amount.Join_c _ _ _ _ _ _ _ _ _))
      | (go_at_call 28; exact xqX (clusterlocksref04.Join_c _ _ _ _ _ _ _ _ _)))))
  refine wpQuiet_nil ?_
  intro wq hw'
  obtain ⟨⟨wq', hxq⟩, hw''⟩ := hw'
  subst hw''
  go_wp2
  go_ret
  exact ⟨rfl, hxW.tr hxq⟩
theorem AmountTexts_w (a0 a1 : Int) (w : World) (hT : Tab w) : Calls Tryd.prog 5 #[.agg #[.int .i64 a0, .int .i64 a1]] w fun e w' => e = .returned (.bool true) ∧ Ext w w' := by
  go_enter Tryd.func5, Tryd.ntmps5
  go_wp2_with fail
  obtain ⟨ba, hxW⟩ := box1 w #[.int .i64 a0, .int .i64 a1] 25
  generalize (w.alloc (.cells #[.int .i64 a0, .int .i64 a1] 25)) = W at *
  obtain ⟨f0, f1⟩ := ba.c2
  have g0 := ExtOf.cell f0
  have g1 := ExtOf.cell f1
  have hTx := fun x : ExtOf W => (hT.ext hxW).ext x.ext
  have HTX := Lib.hid hTx
  clear hTx
  refine wp_region_ext_lit (by kernel_rfl) (by kernel_rfl) ?_
  repeat (go_big_quiet_step ((first
      | (go_at_call 12; exact xqX (awake4_c _ (HTX.out _)))
      | (go_at_call 19; exact xqX (amount.Format_c _ _ _))
      | (go_at_call 20; exact xqX (clusterlocksref04.Format_c _ _ _)))))
  refine wpQuiet_nil ?_
  intro wq hw'
  obtain ⟨⟨wq', hxq⟩, hw''⟩ := hw'
  subst hw''
  go_wp2
  go_ret
  exact ⟨rfl, hxW.tr hxq⟩
set_option maxHeartbeats 1600000 in
theorem AmountJoins_w (n : ByteArray) (k u h : Int) (a0 a1 : Int) (b0 b1 : Int) (c0 c1 : Int) (w : World) (hT : Tab w) : Calls Tryd.prog 6 #[.agg #[.string n, .int .i64 k, .int .i64 u, .int .i64 h], .agg #[.int .i64 a0, .int .i64 a1], .agg #[.int .i64 b0, .int .i64 b1], .agg #[.int .i64 c0, .int .i64 c1]] w fun e w' => e = .returned (.bool true) ∧ Ext w w' := by
  by_cases hp : CL.perm k u ⟨a0, a1⟩ = true ∧ CL.perm k u ⟨b0, b1⟩ = true ∧ CL.perm k u ⟨c0, c1⟩ = true
  · obtain ⟨p1, p2, p3⟩ := hp
    have j1 : CL.join k u ⟨b0, b1⟩ ⟨a0, a1⟩ = CL.join k u ⟨a0, a1⟩ ⟨b0, b1⟩ := CL.join_comm _ _ _ _
    have j2 : CL.join k u ⟨a0, a1⟩ ⟨a0, a1⟩ = ⟨a0, a1⟩ := CL.join_self p1
    have j3 : CL.join k u ⟨(CL.join k u ⟨a0, a1⟩ ⟨b0, b1⟩).m, (CL.join k u ⟨a0, a1⟩ ⟨b0, b1⟩).u⟩ ⟨c0, c1⟩ = CL.join k u ⟨a0, a1⟩ ⟨(CL.join k u ⟨b0, b1⟩ ⟨c0, c1⟩).m, (CL.join k u ⟨b0, b1⟩ ⟨c0, c1⟩).u⟩ := CL.join_assoc p1 p2 p3
    have hq := am_eql
    have hg := am_guard
    go_enter Tryd.func6, Tryd.ntmps6
    go_wp2_with fail
    obtain ⟨bR, ba, bb, bc, hxW⟩ := box4 w #[.string n, .int .i64 k, .int .i64 u, .int .i64 h] 23 #[.int .i64 a0, .int .i64 a1] 25 #[.int .i64 b0, .int .i64 b1] 25 #[.int .i64 c0, .int .i64 c1] 25
    generalize ((((w.alloc (.cells #[.string n, .int .i64 k, .int .i64 u, .int .i64 h] 23)).alloc (.cells #[.int .i64 a0, .int .i64 a1] 25)).alloc (.cells #[.int .i64 b0, .int .i64 b1] 25)).alloc (.cells #[.int .i64 c0, .int .i64 c1] 25)) = W at *
    have hx : Ext W W := Ext.rfl'
    have hTW := hT.ext hxW
    obtain ⟨e0, e1, e2, e3⟩ := (bR.ext hx).c4
    obtain ⟨f0, f1⟩ := (ba.ext hx).c2
    obtain ⟨f0, f1⟩ := (bb.ext hx).c2
    obtain ⟨f0, f1⟩ := (bc.ext hx).c2
    go_wp2_with (first
      | (go_at_call 21; refine (clusterlocksref04.Permitted_c _ _ _ _ _ _ _).mono ?_; rintro e w' ⟨rfl, hx1⟩; replace hx := hx.tr hx1; clear hx1; obtain ⟨e0, e1, e2, e3⟩ := (bR.ext hx).c4; obtain ⟨f0, f1⟩ := (ba.ext hx).c2; obtain ⟨f0, f1⟩ := (bb.ext hx).c2; obtain ⟨f0, f1⟩ := (bc.ext hx).c2))
    obtain ⟨e0, e1, e2, e3⟩ := (bR.ext hx).c4
    have q0 := ExtOf.cell e0
    have q1 := ExtOf.cell e1
    have q2 := ExtOf.cell e2
    have q3 := ExtOf.cell e3
    obtain ⟨f0, f1⟩ := (ba.ext hx).c2
    have g0 := ExtOf.cell f0
    have g1 := ExtOf.cell f1
    obtain ⟨f0, f1⟩ := (bb.ext hx).c2
    have g0 := ExtOf.cell f0
    have g1 := ExtOf.cell f1
    obtain ⟨f0, f1⟩ := (bc.ext hx).c2
    have g0 := ExtOf.cell f0
    have g1 := ExtOf.cell f1
    have hTx := fun x : ExtOf _ => (hTW.ext hx).ext x.ext
    have HTX := Lib.hid hTx
    clear hTx
    refine wp_region_ext_lit (by kernel_rfl) (by kernel_rfl) ?_
    repeat (go_big_quiet_step ((first
        | (go_at_call 12; exact xqX (awake4_c _ (HTX.out _)))
        | (go_at_call 22; exact xqX (amount.Join_c _ _ _ _ _ _ _ _ _)))))
    refine wpQuiet_nil ?_
    intro wq hw'
    obtain ⟨⟨wq', hxq⟩, hw''⟩ := hw'
    subst hw''
    go_wp2
    go_ret
    exact ⟨rfl, hxW.tr (hx.tr hxq)⟩
  · go_enter Tryd.func6, Tryd.ntmps6
    go_wp2_with fail
    obtain ⟨bR, ba, bb, bc, hxW⟩ := box4 w #[.string n, .int .i64 k, .int .i64 u, .int .i64 h] 23 #[.int .i64 a0, .int .i64 a1] 25 #[.int .i64 b0, .int .i64 b1] 25 #[.int .i64 c0, .int .i64 c1] 25
    generalize ((((w.alloc (.cells #[.string n, .int .i64 k, .int .i64 u, .int .i64 h] 23)).alloc (.cells #[.int .i64 a0, .int .i64 a1] 25)).alloc (.cells #[.int .i64 b0, .int .i64 b1] 25)).alloc (.cells #[.int .i64 c0, .int .i64 c1] 25)) = W at *
    have hx : Ext W W := Ext.rfl'
    have hTW := hT.ext hxW
    obtain ⟨e0, e1, e2, e3⟩ := (bR.ext hx).c4
    obtain ⟨f0, f1⟩ := (ba.ext hx).c2
    obtain ⟨f0, f1⟩ := (bb.ext hx).c2
    obtain ⟨f0, f1⟩ := (bc.ext hx).c2
    go_wp2_with (first
      | (go_at_call 12; refine (awake4_c _ (hTW.ext hx)).mono ?_; rintro e w' ⟨rfl, hx1⟩; replace hx := hx.tr hx1; clear hx1; obtain ⟨e0, e1, e2, e3⟩ := (bR.ext hx).c4; obtain ⟨f0, f1⟩ := (ba.ext hx).c2; obtain ⟨f0, f1⟩ := (bb.ext hx).c2; obtain ⟨f0, f1⟩ := (bc.ext hx).c2)
      | (go_at_call 21; refine (clusterlocksref04.Permitted_c _ _ _ _ _ _ _).mono ?_; rintro e w' ⟨rfl, hx1⟩; replace hx := hx.tr hx1; clear hx1; obtain ⟨e0, e1, e2, e3⟩ := (bR.ext hx).c4; obtain ⟨f0, f1⟩ := (ba.ext hx).c2; obtain ⟨f0, f1⟩ := (bb.ext hx).c2; obtain ⟨f0, f1⟩ := (bc.ext hx).c2))
    all_goals first | (go_ret; exact ⟨rfl, hxW.tr hx⟩) | (exfalso; exact hp ⟨by assumption, by assumption, by simpa using (by assumption : (!CL.perm k u ⟨c0, c1⟩) = false)⟩)
theorem lat_cases (k u : Int) (a b c : CL.Am) : CL.covs k u a b = false ∨ CL.covs k u a b = true ∧ (CL.covs k u b a = false ∨ CL.covs k u b a = true ∧ decide (a.m = b.m ∧ a.u = b.u) = true) ∧ (CL.covs k u b c = false ∨ CL.covs k u b c = true ∧ CL.covs k u a c = true) := by
  cases h1 : CL.covs k u a b
  · exact .inl rfl
  · refine .inr ⟨rfl, ?_, ?_⟩
    · cases h2 : CL.covs k u b a
      · exact .inl rfl
      · exact .inr ⟨rfl, by have := CL.covs_anti h1 h2; simp [this]⟩
    · cases h2 : CL.covs k u b c
      · exact .inl rfl
      · exact .inr ⟨rfl, CL.covs_trans h1 h2⟩
theorem top_cases (k u : Int) (a b c : CL.Am) : CL.covs k u c a = false ∨ CL.covs k u c a = true ∧ (CL.covs k u c b = false ∨ CL.covs k u c b = true ∧ CL.covs k u c (CL.join k u a b) = true) := by
  cases h1 : CL.covs k u c a
  · exact .inl rfl
  · refine .inr ⟨rfl, ?_⟩
    cases h2 : CL.covs k u c b
    · exact .inl rfl
    · exact .inr ⟨rfl, CL.join_least h1 h2⟩
set_option maxHeartbeats 3200000 in
theorem AmountLattice_w (n : ByteArray) (k u h : Int) (a0 a1 : Int) (b0 b1 : Int) (c0 c1 : Int) (w : World) (hT : Tab w) : Calls Tryd.prog 9 #[.agg #[.string n, .int .i64 k, .int .i64 u, .int .i64 h], .agg #[.int .i64 a0, .int .i64 a1], .agg #[.int .i64 b0, .int .i64 b1], .agg #[.int .i64 c0, .int .i64 c1]] w fun e w' => e = .returned (.bool true) ∧ Ext w w' := by
  have hq := am_neq a0 a1 b0 b1
  have hg := am_guard
  have c0' := CL.covs_self k u ⟨a0, a1⟩
  by_cases hp : CL.perm k u ⟨a0, a1⟩ = true ∧ CL.perm k u ⟨b0, b1⟩ = true
  · obtain ⟨p1, p2⟩ := hp
    have j1 : CL.covs k u ⟨(CL.join k u ⟨a0, a1⟩ ⟨b0, b1⟩).m, (CL.join k u ⟨a0, a1⟩ ⟨b0, b1⟩).u⟩ ⟨a0, a1⟩ = true := CL.join_l p1 p2
    have j2 : CL.covs k u ⟨(CL.join k u ⟨a0, a1⟩ ⟨b0, b1⟩).m, (CL.join k u ⟨a0, a1⟩ ⟨b0, b1⟩).u⟩ ⟨b0, b1⟩ = true := CL.join_r p1 p2
    have HT := top_cases k u ⟨a0, a1⟩ ⟨b0, b1⟩ ⟨c0, c1⟩
    have HL := lat_cases k u ⟨a0, a1⟩ ⟨b0, b1⟩ ⟨c0, c1⟩
    rcases HL with x1 | ⟨x1, x2 | ⟨x2, x2'⟩, x3 | ⟨x3, x4⟩⟩ <;> rcases HT with y1 | ⟨y1, y2 | ⟨y2, y3⟩⟩
    all_goals
      go_enter Tryd.func9, Tryd.ntmps9
      go_wp2_with fail
      obtain ⟨bR, ba, bb, bc, hxW⟩ := box4 w #[.string n, .int .i64 k, .int .i64 u, .int .i64 h] 23 #[.int .i64 a0, .int .i64 a1] 25 #[.int .i64 b0, .int .i64 b1] 25 #[.int .i64 c0, .int .i64 c1] 25
      generalize ((((w.alloc (.cells #[.string n, .int .i64 k, .int .i64 u, .int .i64 h] 23)).alloc (.cells #[.int .i64 a0, .int .i64 a1] 25)).alloc (.cells #[.int .i64 b0, .int .i64 b1] 25)).alloc (.cells #[.int .i64 c0, .int .i64 c1] 25)) = W at *
      have hx : Ext W W := Ext.rfl'
      have hTW := hT.ext hxW
      obtain ⟨e0, e1, e2, e3⟩ := (bR.ext hx).c4
      obtain ⟨f0, f1⟩ := (ba.ext hx).c2
      obtain ⟨f0, f1⟩ := (bb.ext hx).c2
      obtain ⟨f0, f1⟩ := (bc.ext hx).c2
      obtain ⟨e0, e1, e2, e3⟩ := (bR.ext hx).c4
      have q0 := ExtOf.cell e0
      have q1 := ExtOf.cell e1
      have q2 := ExtOf.cell e2
      have q3 := ExtOf.cell e3
      obtain ⟨f0, f1⟩ := (ba.ext hx).c2
      have g0 := ExtOf.cell f0
      have g1 := ExtOf.cell f1
      obtain ⟨f0, f1⟩ := (bb.ext hx).c2
      have g0 := ExtOf.cell f0
      have g1 := ExtOf.cell f1
      obtain ⟨f0, f1⟩ := (bc.ext hx).c2
      have g0 := ExtOf.cell f0
      have g1 := ExtOf.cell f1
      have hTx := fun x : ExtOf _ => (hTW.ext hx).ext x.ext
      have HTX := Lib.hid hTx
      clear hTx
      refine wp_region_ext_lit (by kernel_rfl) (by kernel_rfl) ?_
      repeat (go_big_quiet_step ((first
          | (go_at_call 12; exact xqX (awake4_c _ (HTX.out _)))
          | (go_at_call 26; exact xqX (amount.Covers_c _ _ _ _ _ _ _ _ _))
          | (go_at_call 21; exact xqX (clusterlocksref04.Permitted_c _ _ _ _ _ _ _)))))
      refine wpQuiet_nil ?_
      intro wq hw'
      obtain ⟨⟨wq', hxq⟩, hw''⟩ := hw'
      subst hw''
      replace hx := hx.tr hxq
      clear hxq q0 q1 q2 q3 g0 g1
      obtain ⟨e0, e1, e2, e3⟩ := (bR.ext hx).c4
      obtain ⟨f0, f1⟩ := (ba.ext hx).c2
      obtain ⟨f0, f1⟩ := (bb.ext hx).c2
      obtain ⟨f0, f1⟩ := (bc.ext hx).c2
      go_wp2_with (first
        | (go_at_call 26; refine (amount.Covers_c _ _ _ _ _ _ _ _ _).mono ?_; rintro e w' ⟨rfl, hx1⟩; have hz := hx.size; have hx2 : Ext W w' := Ext.tr (by go_grown) hx1; (try (replace bj := bj.ext hx1; obtain ⟨t0, t1⟩ := bj.c2)); clear hx1 hx; have hx := hx2; clear hx2; obtain ⟨e0, e1, e2, e3⟩ := (bR.ext hx).c4; obtain ⟨f0, f1⟩ := (ba.ext hx).c2; obtain ⟨f0, f1⟩ := (bb.ext hx).c2; obtain ⟨f0, f1⟩ := (bc.ext hx).c2)
        | (go_at_call 21; refine (clusterlocksref04.Permitted_c _ _ _ _ _ _ _).mono ?_; rintro e w' ⟨rfl, hx1⟩; have hz := hx.size; have hx2 : Ext W w' := Ext.tr (by go_grown) hx1; (try (replace bj := bj.ext hx1; obtain ⟨t0, t1⟩ := bj.c2)); clear hx1 hx; have hx := hx2; clear hx2; obtain ⟨e0, e1, e2, e3⟩ := (bR.ext hx).c4; obtain ⟨f0, f1⟩ := (ba.ext hx).c2; obtain ⟨f0, f1⟩ := (bb.ext hx).c2; obtain ⟨f0, f1⟩ := (bc.ext hx).c2)
        | (go_at_call 22; refine (amount.Join_c _ _ _ _ _ _ _ _ _).mono ?_; rintro e w' ⟨rfl, hx1⟩; replace hx := hx.tr hx1; clear hx1; obtain ⟨e0, e1, e2, e3⟩ := (bR.ext hx).c4; obtain ⟨f0, f1⟩ := (ba.ext hx).c2; obtain ⟨f0, f1⟩ := (bb.ext hx).c2; obtain ⟨f0, f1⟩ := (bc.ext hx).c2; have bj := Blk.new w' 25 #[.int .i64 (CL.join k u ⟨a0, a1⟩ ⟨b0, b1⟩).m, .int .i64 (CL.join k u ⟨a0, a1⟩ ⟨b0, b1⟩).u]; have hRa := (bR.ext hx).alloc (.cells #[.int .i64 (CL.join k u ⟨a0, a1⟩ ⟨b0, b1⟩).m, .int .i64 (CL.join k u ⟨a0, a1⟩ ⟨b0, b1⟩).u] 25); obtain ⟨v0, v1, v2, v3⟩ := hRa.c4; obtain ⟨y0, y1⟩ := ((ba.ext hx).alloc (.cells #[.int .i64 (CL.join k u ⟨a0, a1⟩ ⟨b0, b1⟩).m, .int .i64 (CL.join k u ⟨a0, a1⟩ ⟨b0, b1⟩).u] 25)).c2; obtain ⟨y0, y1⟩ := ((bb.ext hx).alloc (.cells #[.int .i64 (CL.join k u ⟨a0, a1⟩ ⟨b0, b1⟩).m, .int .i64 (CL.join k u ⟨a0, a1⟩ ⟨b0, b1⟩).u] 25)).c2; obtain ⟨y0, y1⟩ := ((bc.ext hx).alloc (.cells #[.int .i64 (CL.join k u ⟨a0, a1⟩ ⟨b0, b1⟩).m, .int .i64 (CL.join k u ⟨a0, a1⟩ ⟨b0, b1⟩).u] 25)).c2))
      go_ret
      exact ⟨rfl, hxW.tr hx⟩
  · have j0 := CL.join_bad hp
    have x1 : CL.covs k u ⟨a0, a1⟩ ⟨b0, b1⟩ = false := by
      cases h : CL.covs k u ⟨a0, a1⟩ ⟨b0, b1⟩
      · rfl
      · exact absurd (CL.covs_pl h) hp
    have hz : CL.zer ⟨0, 0⟩ = true := rfl
    have hp2 : CL.perm k u ⟨a0, a1⟩ = false ∨ CL.perm k u ⟨a0, a1⟩ = true ∧ CL.perm k u ⟨b0, b1⟩ = false := by
      cases h1 : CL.perm k u ⟨a0, a1⟩ <;> cases h2 : CL.perm k u ⟨b0, b1⟩ <;> simp_all
    clear hp
    rcases hp2 with hp | ⟨p1, p2⟩
    all_goals
      go_enter Tryd.func9, Tryd.ntmps9
      go_wp2_with fail
      obtain ⟨bR, ba, bb, bc, hxW⟩ := box4 w #[.string n, .int .i64 k, .int .i64 u, .int .i64 h] 23 #[.int .i64 a0, .int .i64 a1] 25 #[.int .i64 b0, .int .i64 b1] 25 #[.int .i64 c0, .int .i64 c1] 25
      generalize ((((w.alloc (.cells #[.string n, .int .i64 k, .int .i64 u, .int .i64 h] 23)).alloc (.cells #[.int .i64 a0, .int .i64 a1] 25)).alloc (.cells #[.int .i64 b0, .int .i64 b1] 25)).alloc (.cells #[.int .i64 c0, .int .i64 c1] 25)) = W at *
      have hx : Ext W W := Ext.rfl'
      have hTW := hT.ext hxW
      obtain ⟨e0, e1, e2, e3⟩ := (bR.ext hx).c4
      obtain ⟨f0, f1⟩ := (ba.ext hx).c2
      obtain ⟨f0, f1⟩ := (bb.ext hx).c2
      obtain ⟨f0, f1⟩ := (bc.ext hx).c2
      obtain ⟨e0, e1, e2, e3⟩ := (bR.ext hx).c4
      have q0 := ExtOf.cell e0
      have q1 := ExtOf.cell e1
      have q2 := ExtOf.cell e2
      have q3 := ExtOf.cell e3
      obtain ⟨f0, f1⟩ := (ba.ext hx).c2
      have g0 := ExtOf.cell f0
      have g1 := ExtOf.cell f1
      obtain ⟨f0, f1⟩ := (bb.ext hx).c2
      have g0 := ExtOf.cell f0
      have g1 := ExtOf.cell f1
      obtain ⟨f0, f1⟩ := (bc.ext hx).c2
      have g0 := ExtOf.cell f0
      have g1 := ExtOf.cell f1
      have hTx := fun x : ExtOf _ => (hTW.ext hx).ext x.ext
      have HTX := Lib.hid hTx
      clear hTx
      refine wp_region_ext_lit (by kernel_rfl) (by kernel_rfl) ?_
      repeat (go_big_quiet_step ((first
          | (go_at_call 12; exact xqX (awake4_c _ (HTX.out _)))
          | (go_at_call 26; exact xqX (amount.Covers_c _ _ _ _ _ _ _ _ _))
          | (go_at_call 21; exact xqX (clusterlocksref04.Permitted_c _ _ _ _ _ _ _)))))
      refine wpQuiet_nil ?_
      intro wq hw'
      obtain ⟨⟨wq', hxq⟩, hw''⟩ := hw'
      subst hw''
      replace hx := hx.tr hxq
      clear hxq q0 q1 q2 q3 g0 g1
      obtain ⟨e0, e1, e2, e3⟩ := (bR.ext hx).c4
      obtain ⟨f0, f1⟩ := (ba.ext hx).c2
      obtain ⟨f0, f1⟩ := (bb.ext hx).c2
      obtain ⟨f0, f1⟩ := (bc.ext hx).c2
      go_wp2_with (first
        | (go_at_call 26; refine (amount.Covers_c _ _ _ _ _ _ _ _ _).mono ?_; rintro e w' ⟨rfl, hx1⟩; replace hx := hx.tr hx1; clear hx1; obtain ⟨e0, e1, e2, e3⟩ := (bR.ext hx).c4; obtain ⟨f0, f1⟩ := (ba.ext hx).c2; obtain ⟨f0, f1⟩ := (bb.ext hx).c2; obtain ⟨f0, f1⟩ := (bc.ext hx).c2)
        | (go_at_call 21; refine (clusterlocksref04.Permitted_c _ _ _ _ _ _ _).mono ?_; rintro e w' ⟨rfl, hx1⟩; replace hx := hx.tr hx1; clear hx1; obtain ⟨e0, e1, e2, e3⟩ := (bR.ext hx).c4; obtain ⟨f0, f1⟩ := (ba.ext hx).c2; obtain ⟨f0, f1⟩ := (bb.ext hx).c2; obtain ⟨f0, f1⟩ := (bc.ext hx).c2)
        | (go_at_call 15; refine (amount.Zero_c _ _ _).mono ?_; rintro e w' ⟨rfl, hx1⟩; replace hx := hx.tr hx1; clear hx1; obtain ⟨e0, e1, e2, e3⟩ := (bR.ext hx).c4; obtain ⟨f0, f1⟩ := (ba.ext hx).c2; obtain ⟨f0, f1⟩ := (bb.ext hx).c2; obtain ⟨f0, f1⟩ := (bc.ext hx).c2)
        | (go_at_call 22; refine (amount.Join_c _ _ _ _ _ _ _ _ _).mono ?_; rintro e w' ⟨rfl, hx1⟩; replace hx := hx.tr hx1; clear hx1; obtain ⟨e0, e1, e2, e3⟩ := (bR.ext hx).c4; obtain ⟨f0, f1⟩ := (ba.ext hx).c2; obtain ⟨f0, f1⟩ := (bb.ext hx).c2; obtain ⟨f0, f1⟩ := (bc.ext hx).c2))
      go_ret
      exact ⟨rfl, hxW.tr hx⟩
set_option maxHeartbeats 1600000 in
theorem AmountCompatible_w (n : ByteArray) (k u h : Int) (l : List CL.Am) (A : Option Addr) (c : Nat) (a0 a1 : Int) (w : World) (hT : Tab w) (hl : l.length ≤ maxLen) (hr : Sits w A (ams l)) : Calls Tryd.prog 7 #[.agg #[.string n, .int .i64 k, .int .i64 u, .int .i64 h], .slice A l.length c, .agg #[.int .i64 a0, .int .i64 a1]] w fun e w' => e = .returned (.bool true) ∧ Ext w w' := by
  by_cases h100 : l.length ≤ 100
  · go_enter Tryd.func7, Tryd.ntmps7
    go_wp2_with fail
    obtain ⟨bR, ba, hxW⟩ := box2 w #[.string n, .int .i64 k, .int .i64 u, .int .i64 h] 23 #[.int .i64 a0, .int .i64 a1] 25
    generalize ((w.alloc (.cells #[.string n, .int .i64 k, .int .i64 u, .int .i64 h] 23)).alloc (.cells #[.int .i64 a0, .int .i64 a1] 25)) = W at *
    obtain ⟨e0, e1, e2, e3⟩ := bR.c4
    have q0 := ExtOf.cell e0
    have q1 := ExtOf.cell e1
    have q2 := ExtOf.cell e2
    have q3 := ExtOf.cell e3
    obtain ⟨f0, f1⟩ := ba.c2
    have g0 := ExtOf.cell f0
    have g1 := ExtOf.cell f1
    have hTx := fun x : ExtOf W => (hT.ext hxW).ext x.ext
    have HTX := Lib.hid hTx
    clear hTx
    have hSx := fun x : ExtOf W => (hr.ext hxW).ext x.ext
    have HSX := Lib.hid hSx
    clear hSx
    refine wp_region_ext_lit (by kernel_rfl) (by kernel_rfl) ?_
    repeat (go_big_quiet_step ((first
        | (go_at_call 12; exact xqX (awake4_c _ (HTX.out _)))
        | (go_at_call 18; exact xqX (amount.Compatible_n _ _ _ _ l _ _ _ (by simp) _ (HTX.out _) (by omega) (HSX.out _)))
        | (go_at_call 23; exact xqX (clusterlocksref04.Compatible_n _ _ _ _ l _ _ _ rfl _ (by omega) (HSX.out _)))
        | (go_at_call 24; exact xqX (amount.Room_c _ _ _ _ l _ _ _ _ _ (HTX.out _) (by omega) (HSX.out _)))
        | (go_at_call 25; exact xqX (clusterlocksref04.Room_c _ _ _ _ l _ _ _ _ _ (by omega) (HSX.out _))))))
    refine wpQuiet_nil ?_
    intro wq hw'
    obtain ⟨⟨wq', hxq⟩, hw''⟩ := hw'
    subst hw''
    go_wp2
    go_ret
    exact ⟨rfl, hxW.tr hxq⟩
  · go_enter Tryd.func7, Tryd.ntmps7
    go_wp2_with fail
    obtain ⟨bR, ba, hxW⟩ := box2 w #[.string n, .int .i64 k, .int .i64 u, .int .i64 h] 23 #[.int .i64 a0, .int .i64 a1] 25
    generalize ((w.alloc (.cells #[.string n, .int .i64 k, .int .i64 u, .int .i64 h] 23)).alloc (.cells #[.int .i64 a0, .int .i64 a1] 25)) = W at *
    have hx : Ext W W := Ext.rfl'
    have hTW := hT.ext hxW
    obtain ⟨e0, e1, e2, e3⟩ := (bR.ext hx).c4
    obtain ⟨f0, f1⟩ := (ba.ext hx).c2
    go_wp2_with (first
      | (go_at_call 12; refine (awake4_c _ (hTW.ext hx)).mono ?_; rintro e w' ⟨rfl, hx1⟩; replace hx := hx.tr hx1; clear hx1; obtain ⟨e0, e1, e2, e3⟩ := (bR.ext hx).c4; obtain ⟨f0, f1⟩ := (ba.ext hx).c2))
    go_ret
    exact ⟨rfl, hxW.tr hx⟩
set_option maxHeartbeats 1600000 in
theorem AmountRoom_w (n : ByteArray) (k u h : Int) (l : List CL.Am) (A : Option Addr) (c : Nat) (a0 a1 : Int) (b0 b1 : Int) (w : World) (hT : Tab w) (hl : l.length ≤ maxLen) (hr : Sits w A (ams l)) : Calls Tryd.prog 11 #[.agg #[.string n, .int .i64 k, .int .i64 u, .int .i64 h], .slice A l.length c, .agg #[.int .i64 a0, .int .i64 a1], .agg #[.int .i64 b0, .int .i64 b1]] w fun e w' => e = .returned (.bool true) ∧ Ext w w' := by
  by_cases h60 : l.length ≤ 60
  · have hcs : CL.compat k u (l ++ [⟨a0, a1⟩]) = false ∨ CL.compat k u (l ++ [⟨a0, a1⟩]) = true ∧ (CL.covs k u ⟨a0, a1⟩ ⟨b0, b1⟩ = false ∨ CL.covs k u ⟨a0, a1⟩ ⟨b0, b1⟩ = true ∧ CL.compat k u (l ++ [⟨b0, b1⟩]) = true) := by
      cases h1 : CL.compat k u (l ++ [⟨a0, a1⟩])
      · exact .inl rfl
      · refine .inr ⟨rfl, ?_⟩
        cases h2 : CL.covs k u ⟨a0, a1⟩ ⟨b0, b1⟩
        · exact .inl rfl
        · exact .inr ⟨rfl, CL.compat_less (q := []) h1 h2⟩
    rcases hcs with x1 | ⟨x1, x2 | ⟨x2, x3⟩⟩
    all_goals
      go_enter Tryd.func11, Tryd.ntmps11
      go_wp2_with fail
      obtain ⟨bR, ba, bb, hxW⟩ := box3 w #[.string n, .int .i64 k, .int .i64 u, .int .i64 h] 23 #[.int .i64 a0, .int .i64 a1] 25 #[.int .i64 b0, .int .i64 b1] 25
      generalize (((w.alloc (.cells #[.string n, .int .i64 k, .int .i64 u, .int .i64 h] 23)).alloc (.cells #[.int .i64 a0, .int .i64 a1] 25)).alloc (.cells #[.int .i64 b0, .int .i64 b1] 25)) = W at *
      have hx : Ext W W := Ext.rfl'
      have hTW := hT.ext hxW
      obtain ⟨e0, e1, e2, e3⟩ := (bR.ext hx).c4
      obtain ⟨f0, f1⟩ := (ba.ext hx).c2
      obtain ⟨f0, f1⟩ := (bb.ext hx).c2
      have hrW := hr.ext hxW
      go_wp2_with (first
        | (go_at_call 12; refine (awake4_c _ (hTW.ext hx)).mono ?_; rintro e w' ⟨rfl, hx1⟩; replace hx := hx.tr hx1; clear hx1; obtain ⟨e0, e1, e2, e3⟩ := (bR.ext hx).c4; obtain ⟨f0, f1⟩ := (ba.ext hx).c2; obtain ⟨f0, f1⟩ := (bb.ext hx).c2)
        | (go_at_call 24; refine (amount.Room_c _ _ _ _ l _ _ _ _ _ (hTW.ext hx) (by omega) (hrW.ext hx)).mono ?_; rintro e w' ⟨rfl, hx1⟩; replace hx := hx.tr hx1; clear hx1; obtain ⟨e0, e1, e2, e3⟩ := (bR.ext hx).c4; obtain ⟨f0, f1⟩ := (ba.ext hx).c2; obtain ⟨f0, f1⟩ := (bb.ext hx).c2)
        | (go_at_call 26; refine (amount.Covers_c _ _ _ _ _ _ _ _ _).mono ?_; rintro e w' ⟨rfl, hx1⟩; replace hx := hx.tr hx1; clear hx1; obtain ⟨e0, e1, e2, e3⟩ := (bR.ext hx).c4; obtain ⟨f0, f1⟩ := (ba.ext hx).c2; obtain ⟨f0, f1⟩ := (bb.ext hx).c2))
      go_ret
      exact ⟨rfl, hxW.tr hx⟩
  · go_enter Tryd.func11, Tryd.ntmps11
    go_wp2_with fail
    obtain ⟨bR, ba, bb, hxW⟩ := box3 w #[.string n, .int .i64 k, .int .i64 u, .int .i64 h] 23 #[.int .i64 a0, .int .i64 a1] 25 #[.int .i64 b0, .int .i64 b1] 25
    generalize (((w.alloc (.cells #[.string n, .int .i64 k, .int .i64 u, .int .i64 h] 23)).alloc (.cells #[.int .i64 a0, .int .i64 a1] 25)).alloc (.cells #[.int .i64 b0, .int .i64 b1] 25)) = W at *
    have hx : Ext W W := Ext.rfl'
    have hTW := hT.ext hxW
    obtain ⟨e0, e1, e2, e3⟩ := (bR.ext hx).c4
    obtain ⟨f0, f1⟩ := (ba.ext hx).c2
    obtain ⟨f0, f1⟩ := (bb.ext hx).c2
    go_wp2_with (first
      | (go_at_call 12; refine (awake4_c _ (hTW.ext hx)).mono ?_; rintro e w' ⟨rfl, hx1⟩; replace hx := hx.tr hx1; clear hx1; obtain ⟨e0, e1, e2, e3⟩ := (bR.ext hx).c4; obtain ⟨f0, f1⟩ := (ba.ext hx).c2; obtain ⟨f0, f1⟩ := (bb.ext hx).c2))
    go_ret
    exact ⟨rfl, hxW.tr hx⟩
end Go.Proofs.YtghhmooknjoblaaDoor

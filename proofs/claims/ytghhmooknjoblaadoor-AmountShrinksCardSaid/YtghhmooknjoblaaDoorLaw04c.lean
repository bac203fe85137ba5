
/- The statements about amounts (chapter 4): the walks of the laws, third part. -/
import Derived.Test.YtghhmooknjoblaaDoorLaw04b
import Derived.IntWalk
namespace Go.Proofs.YtghhmooknjoblaaDoor
open Go.RowKit
set_option linter.unusedVariables false
/-- a row of the call's own in which one amount is replaced -/
theorem own_put {w : World} {base : Nat} {v : Value} {l : List CL.Am} {q : Nat} (h : w.ownsRow base 25 2 v l.length (ams l)) (hq : q < l.length) :
    ∃ g cap cur, v = .slice (some ⟨g, 0, none⟩) l.length cap ∧ base ≤ g ∧ l.length ≤ cap ∧ Blk w g 25 cur ∧ q * 2 + 1 < cur.size ∧ Sits w (some ⟨g, 0, none⟩) (ams l) ∧
      ∀ w' : World, Ext w w' → ∀ a0 a1 : Int, Sits ((w'.setCell ⟨g, q * 2, none⟩ (.int .i64 a0)).setCell ⟨g, q * 2 + 1, none⟩ (.int .i64 a1)) (some ⟨g, 0, none⟩) (ams (l.set q ⟨a0, a1⟩)) := by
  rcases h.2 with ⟨_, e⟩ | ⟨g, cap, cur, e, hb, hh, h1, h2, h3, h4⟩
  · omega
  · have hB : Blk w g 25 cur := hh
    refine ⟨g, cap, cur, e, hb, h1, hB, by omega, ?_, fun w' hx' a0 a1 => ?_⟩
    · subst e; exact Sits.of_own h
    · intro _
      refine ⟨g, 0, rfl, fun j x hx => ?_⟩
      have hj : j < l.length * 2 := by
        have := (List.getElem?_eq_some_iff.1 hx).1
        rw [ams_len, List.length_set] at this; exact this
      rw [Nat.zero_add, (((hB.ext hx').set (q * 2) (.int .i64 a0)).set (q * 2 + 1) (.int .i64 a1)).cell j]
      have hcur : ∀ j, j < l.length * 2 → cur[j]? = (ams l)[j]? := by
        intro j hj
        rw [← h4, List.getElem?_take_of_lt hj, Array.getElem?_toList]
      have hd : j = (j / 2) * 2 + j % 2 := by omega
      have hk : j / 2 < l.length := by omega
      have hx2 : (ams (l.set q ⟨a0, a1⟩))[(j / 2) * 2 + j % 2]? = some x := by rw [← hd]; exact hx
      rw [ams_get (by rw [List.length_set]; exact hk) _ (by omega), List.getElem_set] at hx2
      rw [Array.getElem?_setIfInBounds, Array.getElem?_setIfInBounds]
      by_cases e0 : q = j / 2
      · rw [if_pos e0] at hx2
        have hm : j % 2 = 0 ∨ j % 2 = 1 := by omega
        rcases hm with hm | hm
        · rw [hm] at hx2
          rw [if_neg (by omega), if_pos (by omega), if_pos (by omega)]
          simpa [amc] using hx2
        · rw [hm] at hx2
          rw [if_pos (by omega), if_pos (by simp; omega)]
          simpa [amc] using hx2
      · rw [if_neg e0] at hx2
        rw [if_neg (by omega), if_neg (by omega), hcur j hj, hd, ams_get hk _ (by omega)]
        exact hx2
theorem shrink_less {k u : Int} {l : List CL.Am} {q : Nat} (h : CL.compat k u l = true) : CL.compat k u (l.take q ++ l.drop (q + 1)) = true := by
  refine CL.compat_sub h ?_
  rw [← List.eraseIdx_eq_take_drop_succ]
  exact List.eraseIdx_sublist ..
theorem shrink_put {k u : Int} {l : List CL.Am} {q : Nat} {a : CL.Am} (hq : q < l.length) (h : CL.compat k u l = true) (hc : CL.covs k u l[q] a = true) : CL.compat k u (l.set q a) = true := by
  rw [List.set_eq_take_append_cons_drop, if_pos hq]
  refine CL.compat_less (a := l[q]) ?_ hc
  rw [List.getElem_cons_drop, List.take_append_drop]; exact h
set_option maxHeartbeats 1600000 in
theorem AmountShrinks_w (n : ByteArray) (k u h : Int) (l : List CL.Am) (A : Option Addr) (c : Nat) (z : Int) (a0 a1 : Int) (w : World) (hT : Tab w) (hl : l.length ≤ maxLen) (hc : l.length ≤ c) (hr : Sits w A (ams l)) : Calls Tryd.prog 10 #[.agg #[.string n, .int .i64 k, .int .i64 u, .int .i64 h], .slice A l.length c, .int .i64 z, .agg #[.int .i64 a0, .int .i64 a1]] w fun e w' => e = .returned (.bool true) ∧ Ext w w' := by
  unfold maxLen at hl
  obtain ⟨bR, ba, hxW⟩ := box2 w #[.string n, .int .i64 k, .int .i64 u, .int .i64 h] 23 #[.int .i64 a0, .int .i64 a1] 25
  have hz := Nat.le_of_eq (show w.heap.size + 1 + 1 = ((w.alloc (.cells #[.string n, .int .i64 k, .int .i64 u, .int .i64 h] 23)).alloc (.cells #[.int .i64 a0, .int .i64 a1] 25)).heap.size by simp)
  have hz' := Nat.le_of_eq (show ((w.alloc (.cells #[.string n, .int .i64 k, .int .i64 u, .int .i64 h] 23)).alloc (.cells #[.int .i64 a0, .int .i64 a1] 25)).heap.size = w.heap.size + 1 + 1 by simp)
  have hTW := hT.ext hxW
  have hrW := hr.ext hxW
  have hx : Ext _ _ := Ext.rfl' (a := ((w.alloc (.cells #[.string n, .int .i64 k, .int .i64 u, .int .i64 h] 23)).alloc (.cells #[.int .i64 a0, .int .i64 a1] 25)))
  obtain ⟨e0, e1, e2, e3⟩ := bR.c4
  obtain ⟨f0, f1⟩ := ba.c2
  by_cases hm : l.length ≤ 60 ∧ 0 ≤ z ∧ z < l.length
  · obtain ⟨h60, hz0, hz1⟩ := hm
    obtain ⟨q, rfl⟩ : ∃ q : Nat, z = (q : Int) := ⟨z.toNat, by omega⟩
    have hq : q < l.length := by omega
    cases hcm : CL.compat k u l
    · go_enter Tryd.func10, Tryd.ntmps10
      go_wp2_with (first
        | (go_at_call 12; refine (awake4_c _ (hTW.ext hx)).mono ?_; rintro e w' ⟨rfl, hx1⟩; replace hx := hx.tr hx1; clear hx1)
        | (go_at_call 18; refine (amount.Compatible_n _ _ _ _ l _ _ _ rfl _ (hTW.ext hx) (by omega) (hrW.ext hx)).mono ?_; rintro e w' ⟨rfl, hx1⟩; replace hx := hx.tr hx1; clear hx1))
      go_ret
      exact ⟨rfl, hxW.tr hx⟩
    · have HP1 := Lib.hid (shrink_less (q := q) hcm)
      have HP2 := Lib.hid (fun h => shrink_put (a := ⟨a0, a1⟩) hq hcm h)
      have HP3 := Lib.hid hcm
      obtain ⟨b, o, rfl, hcell⟩ := hrW.get (by rw [ams_len]; omega)
      have hr2 : Sits w (some ⟨b, o, none⟩) (ams l) := hr
      clear hr
      obtain ⟨y0, y1⟩ := am_cells hcell hq
      clear hcell
      obtain ⟨ad, hs1, hs1s⟩ : ∃ ad : Addr, (∀ W, (Instr.slice 30 (.slice (some ⟨b, o, none⟩) l.length c) (some (.int .i64 ((q : Int) + 1))) none none).run Tryd.prog W = .ok (.slice (some ad) (l.length - (q + 1)) (c - (q + 1))) W) ∧
          (∀ W, Sits W (some ⟨b, o, none⟩) (ams l) → Sits W (some ad) (ams (l.drop (q + 1)))) :=
        ⟨_, fun W => am_low b o l.length c (q + 1) hq W, fun W h => sits_low h hq hc⟩
      have hs2 := am_high b o l.length c q (by omega)
      have hs2s := fun W (h : Sits W (some ⟨b, o, none⟩) (ams l)) => sits_high (k := q) h
      have HS1 := Lib.hid hs1s
      have HS2 := Lib.hid hs2s
      clear hs1s hs2s
      go_enter Tryd.func10, Tryd.ntmps10
      go_wp2_with (go_at_call 18; refine (amount.Compatible_n _ _ _ _ l _ _ _ rfl _ (hTW.ext hx) (by omega) (hrW.ext hx)).mono ?_; rintro e w' ⟨rfl, hx1⟩; replace hx := hx.tr hx1; clear hx1)
      have hxw := hxW.tr hx
      obtain ⟨e0, e1, e2, e3⟩ := (bR.ext hx).c4
      obtain ⟨f0, f1⟩ := (ba.ext hx).c2
      replace bR := bR.ext hx
      replace ba := ba.ext hx
      replace hz := Nat.le_trans hz hx.size
      replace hrW := hrW.ext hx
      replace hTW := hTW.ext hx
      have y0 := hx.cell y0
      have y1 := hx.cell y1
      clear hx hxW hz'
      have hlo := HS1.out _ hrW
      have hhi := HS2.out _ hrW
      have tok1 : True := trivial
      have hwq : IntKind.i64.wrap ((q : Int) + 1) = (q : Int) + 1 := IntWalk.i64_in _ (by omega)
      go_region_held3 (fun w'' => w''.cell? ⟨w.heap.size, 0, none⟩ = some (.string n))
        (first | go_keep | (rw [bcellB hb2 _ _ (by omega)]; first | go_keep | (refine Ext.cell (a := w') hf1 ?_; assumption)) | (rw [bcellB hb1 _ _ (by omega)]; first | go_keep | (refine Ext.cell (a := w') (by go_grown) ?_; assumption)))
        (first
          | (have _t := tok1; clear _t tok1; refine step_append_sits _ (by rfl) (.tmp 31) (.tmp 34) _ (by rfl) w'.heap.size 25 2 16 _ Tryd.underlying30 am_info rfl (by omega) _ 0 [] (by rfl) (by first | exact own_empty _ _ _ (by (try simp)) | exact (own_empty _ _ _ (by (try simp))).drew) _ _ _ (ams (l.take q)) (by rfl) (by rw [ams_len]; (try simp); (try omega)) (by exact hhi.ext (by go_grown)) (ams_one _) (by simp only [maxLen]; omega) (by omega) (by (try simp)) ?_; intro v1 w1 hown1 hb1 hg1; obtain ⟨A1, c1, rfl, _, _⟩ := own_form hown1; have hf1 : Ext w' w1 := Below.trans (by go_grown) hb1)
          | (refine step_append_sits _ (by rfl) (.tmp 35) (.tmp 39) _ (by rfl) w'.heap.size 25 2 16 _ Tryd.underlying30 am_info rfl (by omega) _ _ _ (by rfl) (by first | exact hown1 | exact (by simpa only [Nat.zero_add] using hown1)) _ _ _ (ams (l.drop (q + 1))) (by rfl) (by rw [ams_len]; (try simp); (try omega)) (by exact hlo.ext hf1) (ams_one _) (by simp only [maxLen]; omega) (by omega) (by exact hf1.size) ?_; intro v2 w2 hown2 hb2 hg2; obtain ⟨A2, c2, rfl, _, _⟩ := own_form hown2; have hf2 : Ext w' w2 := Below.trans hf1 hb2))
      have HL : Hid (Sits w2 A2 (ams (l.take q ++ l.drop (q + 1)))) := by rw [ams_append]; exact Sits.of_own hown2
      clear hown1 hown2 hb1 hb2 hg1 hg2 hlo hhi hs1 hs2 hwq
      have hnu : 0 ≤ l.length - (q + 1) := Nat.zero_le _
      go_wp2_with (at_builtin; refine wpList_append_sits _ rfl (.tmp 41) (.tmp 42) _ rfl w2.heap.size 25 2 16 _ Tryd.underlying30 am_info rfl (by omega) _ 0 [] rfl (own_empty _ _ _ (Nat.le_refl _)) _ _ _ (ams l) rfl (by rw [ams_len]) ((hrW.ext hf2).ext (Ext.new _ _)) (ams_one _) (by simp only [maxLen]; omega) (by omega) (by simp) ?_; intro v3 w3 hown3 hb3 hg3)
      simp only [Nat.zero_add, List.nil_append] at hown3
      obtain ⟨g, cap, cur, rfl, hg, hcap, hB, hcur, hS3, hput⟩ := own_put hown3 hq
      have hf3 : Ext w2 w3 := Below.trans (Ext.new _ _) hb3
      have hw3 := hf2.tr hf3
      have HPUT := Lib.hid hput
      have HS3 : Hid (Sits w3 (some ⟨g, 0, none⟩) (ams l)) := hS3
      have p0 := ExtOf.cell (hw3.cell e0)
      have p1 := ExtOf.cell (hw3.cell e1)
      have p2 := ExtOf.cell (hw3.cell e2)
      have p3 := ExtOf.cell (hw3.cell e3)
      have p4 := ExtOf.cell (hw3.cell f0)
      have p5 := ExtOf.cell (hw3.cell f1)
      have p6 := ExtOf.cell (hw3.cell y0)
      have p7 := ExtOf.cell (hw3.cell y1)
      clear hown3 hb3 hg3 hput hS3 hcm
      generalize hlq : l[q] = x at *
      have HLQ := Lib.hid hlq
      clear hlq
      obtain ⟨xm, xu⟩ := x
      simp only at p6 p7
      go_wp2_with fail
      refine wp_region_ext_lit (by kernel_rfl) (by kernel_rfl) ?_
      repeat (go_big_quiet_step ((go_at_call 26; exact xqX (amount.Covers_c _ _ _ _ _ _ _ _ _))))
      refine wpQuiet_nil ?_
      intro wq hw'
      obtain ⟨⟨wq', hxq⟩, hw''⟩ := hw'
      subst hw''
      clear p0 p1 p2 p3 p4 p5 p6 p7
      have hP1 := HP1.out
      have hP3 := HP3.out
      have g0 : wq.cell? ⟨w.heap.size + 1, 0, none⟩ = some (.int .i64 a0) := hxq.cell (hw3.cell f0)
      have g1 : wq.cell? ⟨w.heap.size + 1, 1, none⟩ = some (.int .i64 a1) := hxq.cell (hw3.cell f1)
      clear e0 e1 e2 e3 f0 f1 y0 y1
      have HN1 := Lib.hid (show q + (l.length - (q + 1)) = (l.take q ++ l.drop (q + 1)).length by simp; omega)
      have HN2 := Lib.hid (show (l.take q ++ l.drop (q + 1)).length ≤ 1000 by simp; omega)
      have HN3 := Lib.hid (show l.length ≤ 1000 by omega)
      have HN4 := Lib.hid (show (l.set q ⟨a0, a1⟩).length ≤ 1000 by simp; omega)
      have HN5 := Lib.hid (show l.length = (l.set q ⟨a0, a1⟩).length by simp)
      cases hcv : CL.covs k u ⟨xm, xu⟩ ⟨a0, a1⟩
      · have hx := hxq
        clear hxq
        obtain ⟨e0, e1, e2, e3⟩ := ((bR.ext hw3).ext hx).c4
        clear g0 g1
        go_wp2_with (first
          | (go_at_call 12; (with_reducible refine (awake4_c _ ((hTW.ext hw3).ext hx)).mono ?_); rintro e w'' ⟨rfl, hx1⟩; replace hx := hx.tr hx1; clear hx1; obtain ⟨e0, e1, e2, e3⟩ := ((bR.ext hw3).ext hx).c4)
          | (go_at_call 18; (with_reducible refine (amount.Compatible_n _ _ _ _ (l.take q ++ l.drop (q + 1)) _ _ _ HN1.out _ ((hTW.ext hw3).ext hx) HN2.out ((HL.out.ext hf3).ext hx)).mono ?_); rintro e w'' ⟨rfl, hx1⟩; replace hx := hx.tr hx1; clear hx1; obtain ⟨e0, e1, e2, e3⟩ := ((bR.ext hw3).ext hx).c4)
          | (go_at_call 18; (with_reducible refine (amount.Compatible_n _ _ _ _ l _ _ _ rfl _ ((hTW.ext hw3).ext hx) HN3.out (HS3.out.ext hx)).mono ?_); rintro e w'' ⟨rfl, hx1⟩; replace hx := hx.tr hx1; clear hx1))
        go_ret
        exact ⟨rfl, hxw.tr (hw3.tr hx)⟩
      · have hP2 := HP2.out hcv
        have hBq := hB.ext hxq
        have s0 : wq.cell? ⟨g, q * 2, none⟩ = some (cur[q * 2]'(by omega)) := by rw [hBq.cell]; simp
        have z0 := hBq.frozen (q * 2)
        have hBr := hBq.set (q * 2) (.int .i64 a0)
        have s1 : (wq.setCell ⟨g, q * 2, none⟩ (.int .i64 a0)).cell? ⟨g, q * 2 + 1, none⟩ = some (cur[q * 2 + 1]) := by rw [hBr.cell, Array.getElem?_setIfInBounds, if_neg (by omega)]; simp
        have z1 := hBr.frozen (q * 2 + 1)
        have HP := Lib.hid (HPUT.out wq hxq a0 a1)
        have hgw : g < w3.heap.size := hB.lt
        go_wp2_with fail
        have hx2 : Ext w2 ((wq.setCell ⟨g, q * 2, none⟩ (.int .i64 a0)).setCell ⟨g, q * 2 + 1, none⟩ (.int .i64 a1)) := ((hf3.tr hxq).setCell hg _).setCell hg _
        clear s0 s1 z0 z1 hBr hBq g0 g1
        generalize (wq.setCell ⟨g, q * 2, none⟩ (.int .i64 a0)).setCell ⟨g, q * 2 + 1, none⟩ (.int .i64 a1) = wz at *
        have hx : Ext wz wz := Ext.rfl'
        have hwz := hf2.tr hx2
        obtain ⟨e0, e1, e2, e3⟩ := ((bR.ext hwz).ext hx).c4
        go_wp2_with (first
          | (go_at_call 12; (with_reducible refine (awake4_c _ ((hTW.ext hwz).ext hx)).mono ?_); rintro e w'' ⟨rfl, hx1⟩; replace hx := hx.tr hx1; clear hx1; obtain ⟨e0, e1, e2, e3⟩ := ((bR.ext hwz).ext hx).c4)
          | (go_at_call 18; (with_reducible refine (amount.Compatible_n _ _ _ _ (l.take q ++ l.drop (q + 1)) _ _ _ HN1.out _ ((hTW.ext hwz).ext hx) HN2.out ((HL.out.ext hx2).ext hx)).mono ?_); rintro e w'' ⟨rfl, hx1⟩; replace hx := hx.tr hx1; clear hx1; obtain ⟨e0, e1, e2, e3⟩ := ((bR.ext hwz).ext hx).c4)
          | (go_at_call 18; (with_reducible refine (amount.Compatible_n _ _ _ _ (l.set q ⟨a0, a1⟩) _ _ _ HN5.out _ ((hTW.ext hwz).ext hx) HN4.out (HP.out.ext hx)).mono ?_); rintro e w'' ⟨rfl, hx1⟩; replace hx := hx.tr hx1; clear hx1))
        go_ret
        exact ⟨rfl, hxw.tr (hwz.tr hx)⟩
  · have h2 : 60 < l.length ∨ (l.length ≤ 60 ∧ (z < 0 ∨ (0 ≤ z ∧ (l.length : Int) ≤ z))) := by omega
    clear hm
    rcases h2 with h2 | ⟨h2, h3 | ⟨h3, h4⟩⟩
    all_goals
      go_enter Tryd.func10, Tryd.ntmps10
      go_wp2_with (go_at_call 12; (with_reducible refine (awake4_c _ (hTW.ext hx)).mono ?_); rintro e w' ⟨rfl, hx1⟩; replace hx := hx.tr hx1; clear hx1)
      go_ret
      exact ⟨rfl, hxW.tr hx⟩
end Go.Proofs.YtghhmooknjoblaaDoor

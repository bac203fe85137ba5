
/- The statements about normal forms (chapter 9): the walk of NormalSimpler. -/
import Derived.Test.YtmolffigeobnnaaLaw09d
import Derived.Test.YtmolffigeobnnaaLaw09b
import Derived.Deep.DrawnRows
import Derived.Deep.RegionHeld3
namespace Go.Proofs.Ytmolffigeobnnaa
open Go.RowKit
set_option linter.unusedVariables false
set_option linter.unusedSimpArgs false
set_option maxRecDepth 100000
attribute [local go_sem ↓] Go.wp_at_zero Go.wp_at_succ
theorem clusterlocksref07.Depth_c (e : CL.Ex) (w : World) (B : Nat) (cs : List Value) (hR : Rd w B e cs) (hB : B ≤ w.heap.size) : Calls Try.prog 33 #[.agg cs.toArray] w fun r w' => r = .returned (.int .i64 (CL.dep e : Nat)) ∧ Ext w w' := by
  obtain ⟨k, s, m, u, A, l, c, rfl⟩ := hR.shape
  have hn : if CL.small e = true then CL.rsz e 1 = (CL.size e, CL.depth e) ∧ CL.size e ≤ 24 ∧ CL.dep e = CL.depth e else (CL.rsz e 1).1 = 25 ∧ CL.dep e = 0 := by
    by_cases h : CL.small e = true
    · rw [if_pos h]; exact ⟨CL.rsz_small h, by simp [CL.small] at h; omega, by simp [CL.dep, h]⟩
    · rw [if_neg h]; exact ⟨CL.rsz_great (by simpa using h), by simp [CL.dep, h]⟩
  split at hn
  · obtain ⟨h1, h2, h3⟩ := hn
    go_enter Try.func33, Try.ntmps33
    go_wp2_with (go_at_call 61; (with_reducible refine (clusterlocksref07.Size_c e _ B _ 1 1 rfl (hR.ext (Ext.new _ _) hB) (by simp; omega) (by omega)).mono ?_); rintro r w' ⟨rfl, hx'⟩)
    go_ret
    exact ⟨ret_int (by rw [h3]), (Ext.new _ _).tr hx'⟩
  · obtain ⟨h1, h2⟩ := hn
    go_enter Try.func33, Try.ntmps33
    go_wp2_with (go_at_call 61; (with_reducible refine (clusterlocksref07.Size_c e _ B _ 1 1 rfl (hR.ext (Ext.new _ _) hB) (by simp; omega) (by omega)).mono ?_); rintro r w' ⟨rfl, hx'⟩)
    go_ret
    exact ⟨ret_int (by rw [h2]; rfl), (Ext.new _ _).tr hx'⟩
set_option maxHeartbeats 3200000 in
theorem NormalSimpler_w (l : List Int) (A : Option Addr) (c : Nat) (w : World) (hl : l.length ≤ maxLen) (hr : Sits w A (ints l)) : Calls Try.prog 8 #[.slice A l.length c] w fun r w' => r = .returned (.bool true) ∧ Ext w w' := by
  have HL := Lib.hid (fun w => (clusterlocksmill.Light_c l A c w))
  have HAW := Lib.hid (fun w => awake9_c w)
  by_cases h3 : l.length ≤ 300
  · rw [decide_eq_true h3] at HL
    go_enter Try.func8, Try.ntmps8
    go_wp2_with (first
      | (go_at_call 28; (with_reducible refine (HL.out _).mono ?_); rintro r w' ⟨rfl, rfl⟩)
      | (go_at_call 29; (with_reducible refine (made_c l A c _ hl hr).mono ?_); rintro r w1 ⟨e, k0, s0, m0, u0, A0, l0, c0, rfl, hv, hR, hx1⟩))
    obtain ⟨bE, hxb⟩ := box1 w1 #[.int .i64 k0, .string s0, .int .i64 m0, .int .i64 u0, .slice A0 l0 c0] 28
    have hz1 := hx1.size
    have hzb := hxb.size
    have HRW := Lib.hid (hR.ext hxb (Nat.le_refl _))
    have HX := Lib.hid (hx1.tr hxb)
    clear hR
    generalize hg : w1.heap.size = g at *
    generalize (w1.alloc (.cells #[.int .i64 k0, .string s0, .int .i64 m0, .int .i64 u0, .slice A0 l0 c0] 28)) = W at *
    refine (normal.Simplify_c e W g _ HRW.out hzb).mono ?_
    intro r w2 hp
    obtain ⟨k1, s1, m1, u1, A1, l1, c1, rfl, hR1, hx2⟩ := hp.get
    rw [show CL.smpE e = CL.smp e by simp [CL.smpE, hv]] at hR1
    obtain ⟨q1, q2, q3, q4, q5⟩ := simpler hv
    have HV := Lib.hid q1
    have HQ := Lib.hid q2
    have HSS := Lib.hid (show CL.smpE (CL.smp e) = CL.smp e by simp [CL.smpE, q1, q5])
    have bE2 := bE.ext hx2
    have hz2 := hx2.size
    clear hp bE q1 q2 q5
    go_wp2_with fail
    obtain ⟨bS, hx3⟩ := box1 w2 #[.int .i64 k1, .string s1, .int .i64 m1, .int .i64 u1, .slice A1 l1 c1] 28
    have bE3 := bE2.ext hx3
    have HX3 := Lib.hid ((HX.out.tr hx2).tr hx3)
    have HE := Lib.hid (((HRW.out.ext hx2 hzb).ext hx3 (Nat.le_trans hzb hz2)).le (Nat.le_trans hzb hz2))
    have HS := Lib.hid (hR1.rd.ext hx3 (Nat.le_refl _))
    have hz3 := hx3.size
    clear HRW hR1 bE2
    generalize hg2 : w2.heap.size = g2 at *
    generalize (w2.alloc (.cells #[.int .i64 k1, .string s1, .int .i64 m1, .int .i64 u1, .slice A1 l1 c1] 28)) = W3 at *
    obtain ⟨n1, hn1⟩ : ∃ n, CL.nod (CL.smp e) = n := ⟨_, rfl⟩
    obtain ⟨n2, hn2⟩ : ∃ n, CL.nod e = n := ⟨_, rfl⟩
    obtain ⟨d1, hd1⟩ : ∃ n, CL.dep (CL.smp e) = n := ⟨_, rfl⟩
    obtain ⟨d2, hd2⟩ : ∃ n, CL.dep e = n := ⟨_, rfl⟩
    rw [hn1, hn2] at q3
    rw [hd1, hd2] at q4
    have g5 : (n1 : Int) ≤ (n2 : Int) := by omega
    have g6 : (d1 : Int) ≤ (d2 : Int) := by omega
    have HN1 := Lib.hid hn1
    have HN2 := Lib.hid hn2
    have HD1 := Lib.hid hd1
    have HD2 := Lib.hid hd2
    have HCE := Lib.hid bE3.c5
    have HCF := Lib.hid bS.c5
    clear hn1 hn2 hd1 hd2
    obtain ⟨e0, e1, e2, e3, e4⟩ := bE3.c5
    obtain ⟨f0, f1, f2, f3, f4⟩ := bS.c5
    have hy : Ext W3 W3.drew := Ext.drawn W3
    go_region_held3 (fun w' => (w'.cell? ⟨g, 0, none⟩ = some (.int .i64 k0) ∧ w'.cell? ⟨g, 1, none⟩ = some (.string s0) ∧ w'.cell? ⟨g, 2, none⟩ = some (.int .i64 m0) ∧ w'.cell? ⟨g, 3, none⟩ = some (.int .i64 u0) ∧ w'.cell? ⟨g, 4, none⟩ = some (.slice A0 l0 c0)) ∧ (w'.cell? ⟨g2, 0, none⟩ = some (.int .i64 k1) ∧ w'.cell? ⟨g2, 1, none⟩ = some (.string s1) ∧ w'.cell? ⟨g2, 2, none⟩ = some (.int .i64 m1) ∧ w'.cell? ⟨g2, 3, none⟩ = some (.int .i64 u1) ∧ w'.cell? ⟨g2, 4, none⟩ = some (.slice A1 l1 c1)))
      (first | go_keep | exact ⟨cells5' HCE.out hy, cells5' HCF.out hy⟩)
      (first
        | (go_at_call 14; (with_reducible refine (HAW.out _).mono ?_); intro r wv hp; obtain ⟨hr9, hx9⟩ := hp; subst hr9; replace hy := Ext.tr hy hx9)
        | (go_at_call 21; (with_reducible refine (clusterlocksref07.ValidExpr_c (CL.smp e) _ g2 _ (HS.out.ext hy hz3) (by have := hy.size; omega)).mono ?_); intro r wv hp; obtain ⟨hr9, hx9⟩ := hp; rw [HV.out] at hr9; subst hr9; replace hy := Ext.tr hy hx9)
        | (go_at_call 27; (with_reducible refine (rEquivalent_e (CL.smp e) e _ g2 _ _ (HS.out.ext hy hz3) (HE.out.ext hy hz3) (by have := hy.size; omega)).mono ?_); intro r wv hp; obtain ⟨hr9, hx9⟩ := hp; rw [HQ.out] at hr9; subst hr9; replace hy := Ext.tr hy hx9)
        | (go_at_call 32; (with_reducible refine (clusterlocksref07.Nodes_c (CL.smp e) _ g2 _ (HS.out.ext hy hz3) (by have := hy.size; omega)).mono ?_); intro r wv hp; obtain ⟨hr9, hx9⟩ := hp; rw [HN1.out] at hr9; subst hr9; replace hy := Ext.tr hy hx9)
        | (go_at_call 32; (with_reducible refine (clusterlocksref07.Nodes_c e _ g2 _ (HE.out.ext hy hz3) (by have := hy.size; omega)).mono ?_); intro r wv hp; obtain ⟨hr9, hx9⟩ := hp; rw [HN2.out] at hr9; subst hr9; replace hy := Ext.tr hy hx9)
        | (go_at_call 33; (with_reducible refine (clusterlocksref07.Depth_c (CL.smp e) _ g2 _ (HS.out.ext hy hz3) (by have := hy.size; omega)).mono ?_); intro r wv hp; obtain ⟨hr9, hx9⟩ := hp; rw [HD1.out] at hr9; subst hr9; replace hy := Ext.tr hy hx9)
        | (go_at_call 33; (with_reducible refine (clusterlocksref07.Depth_c e _ g2 _ (HE.out.ext hy hz3) (by have := hy.size; omega)).mono ?_); intro r wv hp; obtain ⟨hr9, hx9⟩ := hp; rw [HD2.out] at hr9; subst hr9; replace hy := Ext.tr hy hx9)
        | (go_at_call 30; (with_reducible refine (normal.Simplify_c (CL.smp e) _ g2 _ (HS.out.ext hy hz3) (by have := hy.size; omega)).mono ?_); intro r wv hp; obtain ⟨k5, s5, m5, u5, A5, l5, c5, rfl, hR5, hx9⟩ := hp.get; rw [HSS.out] at hR5; replace hy := Ext.tr hy hx9)
        | (go_at_call 19; (with_reducible refine (clusterlocksref07.SameExpr_c (CL.smp e) _ _ _ hR5.rd ((HS.out.ext hy hz3).le (by have := hy.size; omega))).mono ?_); intro r wv hp; obtain ⟨hr9, hx9⟩ := hp; subst hr9; replace hy := Ext.tr hy hx9))
    all_goals
      go_wp2
      go_ret
      exact ⟨rfl, HX3.out.tr hy⟩
  · rw [decide_eq_false h3] at HL
    go_enter Try.func8, Try.ntmps8
    go_wp2_with (first
      | (go_at_call 28; (with_reducible refine (HL.out _).mono ?_); rintro r w' ⟨rfl, rfl⟩)
      | (go_at_call 14; (with_reducible refine (HAW.out _).mono ?_); rintro r w2 ⟨rfl, hxa⟩))
    go_ret
    exact ⟨rfl, hxa⟩
end Go.Proofs.Ytmolffigeobnnaa

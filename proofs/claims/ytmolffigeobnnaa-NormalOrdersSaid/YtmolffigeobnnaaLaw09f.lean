
/- The statements about normal forms (chapter 9): the walk of NormalOrders. -/
import Derived.Test.YtmolffigeobnnaaLaw09d
import Derived.Deep.DrawnRows
import Derived.Deep.RegionHeld3
namespace Go.Proofs.Ytmolffigeobnnaa
open Go.RowKit
set_option linter.unusedVariables false
set_option linter.unusedSimpArgs false
set_option maxRecDepth 100000
attribute [local go_sem ↓] Go.wp_at_zero Go.wp_at_succ
/-- three boxes at the end of the heap -/
theorem boxE3 (w : World) (x y z : Array Value) (t : TypeId) : Blk (((w.alloc (.cells x t)).alloc (.cells y t)).alloc (.cells z t)) w.heap.size t x ∧ Blk (((w.alloc (.cells x t)).alloc (.cells y t)).alloc (.cells z t)) (w.heap.size + 1) t y ∧ Blk (((w.alloc (.cells x t)).alloc (.cells y t)).alloc (.cells z t)) (w.heap.size + 1 + 1) t z ∧ Ext w (((w.alloc (.cells x t)).alloc (.cells y t)).alloc (.cells z t)) := by
  obtain ⟨h1, h2, h3⟩ := boxE2 w x t y t
  have h4 := Ext.new ((w.alloc (.cells x t)).alloc (.cells y t)) (.cells z t)
  have h5 := Blk.new ((w.alloc (.cells x t)).alloc (.cells y t)) t z
  rw [show ((w.alloc (.cells x t)).alloc (.cells y t)).heap.size = w.heap.size + 1 + 1 by simp] at h5
  exact ⟨h1.ext h4, h2.ext h4, h5, h3.tr h4⟩
theorem three {a b c : CL.Ex} : implE a b = false ∨ (implE a b = true ∧ implE b c = false) ∨ (implE a b = true ∧ implE b c = true ∧ implE a c = true) := by
  cases h1 : implE a b
  · exact .inl rfl
  · cases h2 : implE b c
    · exact .inr (.inl ⟨rfl, rfl⟩)
    · exact .inr (.inr ⟨rfl, rfl, impl_trans h1 h2⟩)
theorem dual_impE {a b : CL.Ex} (ha : CL.valid a = true) (hb : CL.valid b = true) : implE (CL.dualE b) (CL.dualE a) = implE a b := by
  rw [show CL.dualE a = CL.dual a by simp [CL.dualE, ha], show CL.dualE b = CL.dual b by simp [CL.dualE, hb], ← dual_imp ha hb]
/-- an operation that a guard leaves out, under another head: so that no load of it is tried -/
def hidL (t : TypeId) (x : Operand) : Op := .load t x
def hidU (o : UnOp) (t : TypeId) (x : Operand) : Op := .unOp o t x
theorem hidL_op (n : Nat) (t : TypeId) (x : Operand) (ty : TypeId) (pos : String) (af : Array Edge) (g : Option (Nat × Bool)) : (⟨some n, .load t x, ty, pos, af, g⟩ : Oper) = ⟨some n, hidL t x, ty, pos, af, g⟩ := rfl
theorem hidU_op (n : Nat) (o : UnOp) (t : TypeId) (x : Operand) (ty : TypeId) (pos : String) (af : Array Edge) (g : Option (Nat × Bool)) : (⟨some n, .unOp o t x, ty, pos, af, g⟩ : Oper) = ⟨some n, hidU o t x, ty, pos, af, g⟩ := rfl
set_option maxHeartbeats 6400000 in
theorem NormalOrders_w (l m n : List Int) (A B C : Option Addr) (cA cB cC : Nat) (w : World) (hl : l.length ≤ maxLen) (hrA : Sits w A (ints l)) (hm : m.length ≤ maxLen) (hrB : Sits w B (ints m)) (hn : n.length ≤ maxLen) (hrC : Sits w C (ints n)) :
    Calls Try.prog 6 #[.slice A l.length cA, .slice B m.length cB, .slice C n.length cC] w fun r w' => r = .returned (.bool true) ∧ Ext w w' := by
  have HL := Lib.hid (fun w => (clusterlocksmill.Light_c l A cA w))
  have HM := Lib.hid (fun w => (clusterlocksmill.Light_c m B cB w))
  have HN := Lib.hid (fun w => (clusterlocksmill.Light_c n C cC w))
  have HAW := Lib.hid (fun w => awake9_c w)
  by_cases h3 : l.length ≤ 300 ∧ m.length ≤ 300 ∧ n.length ≤ 300
  · rw [decide_eq_true h3.1] at HL
    rw [decide_eq_true h3.2.1] at HM
    rw [decide_eq_true h3.2.2] at HN
    go_enter Try.func6, Try.ntmps6
    go_wp2_with (first
      | (go_at_call 28; (with_reducible refine (HL.out _).mono ?_); rintro r w' ⟨rfl, rfl⟩)
      | (go_at_call 28; (with_reducible refine (HM.out _).mono ?_); rintro r w' ⟨rfl, rfl⟩)
      | (go_at_call 28; (with_reducible refine (HN.out _).mono ?_); rintro r w' ⟨rfl, rfl⟩)
      | (go_at_call 29; (with_reducible refine (made_c l A cA _ hl hrA).mono ?_); rintro r w1 ⟨a, k0, s0, m0, u0, A0, l0, c0, rfl, hva, hRa, hx1⟩)
      | (go_at_call 29; (with_reducible refine (made_c m B cB _ hm (hrB.ext hx1)).mono ?_); rintro r w2 ⟨b, k1, s1, m1, u1, A1, l1, c1, rfl, hvb, hRb, hx2⟩)
      | (go_at_call 29; (with_reducible refine (made_c n C cC _ hn (hrC.ext (hx1.tr hx2))).mono ?_); rintro r w3 ⟨c, k2, s2, m2, u2, A2, l2, c2, rfl, hvc, hRc, hx3⟩))
    obtain ⟨bA, bB, bC, hxb⟩ := boxE3 w3 #[.int .i64 k0, .string s0, .int .i64 m0, .int .i64 u0, .slice A0 l0 c0] #[.int .i64 k1, .string s1, .int .i64 m1, .int .i64 u1, .slice A1 l1 c1] #[.int .i64 k2, .string s2, .int .i64 m2, .int .i64 u2, .slice A2 l2 c2] 28
    have hz1 := hx1.size
    have hz2 := hx2.size
    have hz3 := hx3.size
    have hzW := hxb.size
    have HRA := Lib.hid (((hRa.ext (hx2.tr hx3) (Nat.le_refl _)).le (show w1.heap.size ≤ w3.heap.size by omega)).ext hxb (Nat.le_refl _))
    have HRB := Lib.hid (((hRb.ext hx3 (Nat.le_refl _)).le hz3).ext hxb (Nat.le_refl _))
    have HRC := Lib.hid (hRc.ext hxb (Nat.le_refl _))
    have HX := Lib.hid (((hx1.tr hx2).tr hx3).tr hxb)
    have HAA := Lib.hid (impl_refl hva)
    have HDD := Lib.hid (dual_impE hva hvb)
    clear hRa hRb hRc hva hvb hvc hxb hx1 hx2 hx3
    generalize hg : w3.heap.size = g at *
    generalize (((w3.alloc (.cells #[.int .i64 k0, .string s0, .int .i64 m0, .int .i64 u0, .slice A0 l0 c0] 28)).alloc (.cells #[.int .i64 k1, .string s1, .int .i64 m1, .int .i64 u1, .slice A1 l1 c1] 28)).alloc (.cells #[.int .i64 k2, .string s2, .int .i64 m2, .int .i64 u2, .slice A2 l2 c2] 28)) = W at *
    have HCE := Lib.hid bA.c5
    have HCF := Lib.hid bB.c5
    have HCG := Lib.hid bC.c5
    obtain ⟨d0, d1, d2, d3, d4⟩ := bA.c5
    obtain ⟨e0, e1, e2, e3, e4⟩ := bB.c5
    obtain ⟨f0, f1, f2, f3, f4⟩ := bC.c5
    have hy : Ext W W.drew := Ext.drawn W
    clear bA bB bC
    rcases three (a := a) (b := b) (c := c) with h | ⟨h, h'⟩ | ⟨h, h', h''⟩
    · have HAB := Lib.hid h
      clear h
      rw [hidL_op 42, hidL_op 43, hidU_op 45, hidL_op 48, hidL_op 49]
      first
      | (
        go_region_held3 (fun w' => (w'.cell? ⟨g, 0, none⟩ = some (.int .i64 k0) ∧ w'.cell? ⟨g, 1, none⟩ = some (.string s0) ∧ w'.cell? ⟨g, 2, none⟩ = some (.int .i64 m0) ∧ w'.cell? ⟨g, 3, none⟩ = some (.int .i64 u0) ∧ w'.cell? ⟨g, 4, none⟩ = some (.slice A0 l0 c0)) ∧ (w'.cell? ⟨g + 1, 0, none⟩ = some (.int .i64 k1) ∧ w'.cell? ⟨g + 1, 1, none⟩ = some (.string s1) ∧ w'.cell? ⟨g + 1, 2, none⟩ = some (.int .i64 m1) ∧ w'.cell? ⟨g + 1, 3, none⟩ = some (.int .i64 u1) ∧ w'.cell? ⟨g + 1, 4, none⟩ = some (.slice A1 l1 c1)) ∧ (w'.cell? ⟨g + 1 + 1, 0, none⟩ = some (.int .i64 k2) ∧ w'.cell? ⟨g + 1 + 1, 1, none⟩ = some (.string s2) ∧ w'.cell? ⟨g + 1 + 1, 2, none⟩ = some (.int .i64 m2) ∧ w'.cell? ⟨g + 1 + 1, 3, none⟩ = some (.int .i64 u2) ∧ w'.cell? ⟨g + 1 + 1, 4, none⟩ = some (.slice A2 l2 c2)))
          (first | go_keep | exact ⟨cells5' HCE.out hy, cells5' HCF.out hy, cells5' HCG.out hy⟩)
          (first
            | (go_at_call 14; (with_reducible refine (HAW.out _).mono ?_); rintro r wv ⟨rfl, hxa⟩; replace hy := Ext.tr hy hxa)
            | (go_at_call 24; (with_reducible refine (normal.Implies_c a a _ g _ _ (HRA.out.ext hy hzW) (HRA.out.ext hy hzW) (by have := hy.size; omega)).mono ?_); intro r wv hp; obtain ⟨hr, hx9⟩ := hp; rw [HAA.out] at hr; subst hr; replace hy := Ext.tr hy hx9; (try (have hDb1 := hDb.ext hx9 (Nat.le_refl _))))
            | (go_at_call 24; (with_reducible refine (normal.Implies_c a b _ g _ _ (HRA.out.ext hy hzW) (HRB.out.ext hy hzW) (by have := hy.size; omega)).mono ?_); intro r wv hp; obtain ⟨hr, hx9⟩ := hp; rw [HAB.out] at hr; subst hr; replace hy := Ext.tr hy hx9; (try (have hDb1 := hDb.ext hx9 (Nat.le_refl _))))
            | (go_at_call 24; (with_reducible refine (normal.Implies_c b c _ g _ _ (HRB.out.ext hy hzW) (HRC.out.ext hy hzW) (by have := hy.size; omega)).mono ?_); intro r wv hp; obtain ⟨hr, hx9⟩ := hp; rw [HBC.out] at hr; subst hr; replace hy := Ext.tr hy hx9; (try (have hDb1 := hDb.ext hx9 (Nat.le_refl _))))
            | (go_at_call 24; (with_reducible refine (normal.Implies_c a c _ g _ _ (HRA.out.ext hy hzW) (HRC.out.ext hy hzW) (by have := hy.size; omega)).mono ?_); intro r wv hp; obtain ⟨hr, hx9⟩ := hp; rw [HAC.out] at hr; subst hr; replace hy := Ext.tr hy hx9; (try (have hDb1 := hDb.ext hx9 (Nat.le_refl _))))
            | (go_at_call 18; (with_reducible refine (normal.Dual_c b _ g _ (HRB.out.ext hy hzW) (by have := hy.size; omega)).mono ?_); intro r wv hp; obtain ⟨k5, s5, m5, u5, A5, l5, c5, rfl, hR5, hx9⟩ := hp.get; replace hy := Ext.tr hy hx9; have hDb := hR5.rd)
            | (go_at_call 18; (with_reducible refine (normal.Dual_c a _ g _ (HRA.out.ext hy hzW) (by have := hy.size; omega)).mono ?_); intro r wv hp; obtain ⟨k6, s6, m6, u6, A6, l6, c6, rfl, hR6, hx9⟩ := hp.get; replace hy := Ext.tr hy hx9; have hDa := hR6.rd; have hDb1 := (hDb.ext hx9 (Nat.le_refl _)).le hx9.size)
            | (go_at_call 24; (with_reducible refine (normal.Implies_c (CL.dualE b) (CL.dualE a) _ _ _ _ hDb1 hDa (Nat.le_refl _)).mono ?_); intro r wv hp; obtain ⟨hr, hx9⟩ := hp; rw [HDD.out, HAB.out] at hr; subst hr; replace hy := Ext.tr hy hx9))
        )
      | fail "held3"
      all_goals
        go_wp2
        go_ret
        exact ⟨rfl, HX.out.tr hy⟩
    · have HAB := Lib.hid h
      have HBC := Lib.hid h'
      clear h h'
      rw [hidL_op 48, hidL_op 49]
      first
      | (
        go_region_held3 (fun w' => (w'.cell? ⟨g, 0, none⟩ = some (.int .i64 k0) ∧ w'.cell? ⟨g, 1, none⟩ = some (.string s0) ∧ w'.cell? ⟨g, 2, none⟩ = some (.int .i64 m0) ∧ w'.cell? ⟨g, 3, none⟩ = some (.int .i64 u0) ∧ w'.cell? ⟨g, 4, none⟩ = some (.slice A0 l0 c0)) ∧ (w'.cell? ⟨g + 1, 0, none⟩ = some (.int .i64 k1) ∧ w'.cell? ⟨g + 1, 1, none⟩ = some (.string s1) ∧ w'.cell? ⟨g + 1, 2, none⟩ = some (.int .i64 m1) ∧ w'.cell? ⟨g + 1, 3, none⟩ = some (.int .i64 u1) ∧ w'.cell? ⟨g + 1, 4, none⟩ = some (.slice A1 l1 c1)) ∧ (w'.cell? ⟨g + 1 + 1, 0, none⟩ = some (.int .i64 k2) ∧ w'.cell? ⟨g + 1 + 1, 1, none⟩ = some (.string s2) ∧ w'.cell? ⟨g + 1 + 1, 2, none⟩ = some (.int .i64 m2) ∧ w'.cell? ⟨g + 1 + 1, 3, none⟩ = some (.int .i64 u2) ∧ w'.cell? ⟨g + 1 + 1, 4, none⟩ = some (.slice A2 l2 c2)))
          (first | go_keep | exact ⟨cells5' HCE.out hy, cells5' HCF.out hy, cells5' HCG.out hy⟩)
          (first
            | (go_at_call 14; (with_reducible refine (HAW.out _).mono ?_); rintro r wv ⟨rfl, hxa⟩; replace hy := Ext.tr hy hxa)
            | (go_at_call 24; (with_reducible refine (normal.Implies_c a a _ g _ _ (HRA.out.ext hy hzW) (HRA.out.ext hy hzW) (by have := hy.size; omega)).mono ?_); intro r wv hp; obtain ⟨hr, hx9⟩ := hp; rw [HAA.out] at hr; subst hr; replace hy := Ext.tr hy hx9; (try (have hDb1 := hDb.ext hx9 (Nat.le_refl _))))
            | (go_at_call 24; (with_reducible refine (normal.Implies_c a b _ g _ _ (HRA.out.ext hy hzW) (HRB.out.ext hy hzW) (by have := hy.size; omega)).mono ?_); intro r wv hp; obtain ⟨hr, hx9⟩ := hp; rw [HAB.out] at hr; subst hr; replace hy := Ext.tr hy hx9; (try (have hDb1 := hDb.ext hx9 (Nat.le_refl _))))
            | (go_at_call 24; (with_reducible refine (normal.Implies_c b c _ g _ _ (HRB.out.ext hy hzW) (HRC.out.ext hy hzW) (by have := hy.size; omega)).mono ?_); intro r wv hp; obtain ⟨hr, hx9⟩ := hp; rw [HBC.out] at hr; subst hr; replace hy := Ext.tr hy hx9; (try (have hDb1 := hDb.ext hx9 (Nat.le_refl _))))
            | (go_at_call 24; (with_reducible refine (normal.Implies_c a c _ g _ _ (HRA.out.ext hy hzW) (HRC.out.ext hy hzW) (by have := hy.size; omega)).mono ?_); intro r wv hp; obtain ⟨hr, hx9⟩ := hp; rw [HAC.out] at hr; subst hr; replace hy := Ext.tr hy hx9; (try (have hDb1 := hDb.ext hx9 (Nat.le_refl _))))
            | (go_at_call 18; (with_reducible refine (normal.Dual_c b _ g _ (HRB.out.ext hy hzW) (by have := hy.size; omega)).mono ?_); intro r wv hp; obtain ⟨k5, s5, m5, u5, A5, l5, c5, rfl, hR5, hx9⟩ := hp.get; replace hy := Ext.tr hy hx9; have hDb := hR5.rd)
            | (go_at_call 18; (with_reducible refine (normal.Dual_c a _ g _ (HRA.out.ext hy hzW) (by have := hy.size; omega)).mono ?_); intro r wv hp; obtain ⟨k6, s6, m6, u6, A6, l6, c6, rfl, hR6, hx9⟩ := hp.get; replace hy := Ext.tr hy hx9; have hDa := hR6.rd; have hDb1 := (hDb.ext hx9 (Nat.le_refl _)).le hx9.size)
            | (go_at_call 24; (with_reducible refine (normal.Implies_c (CL.dualE b) (CL.dualE a) _ _ _ _ hDb1 hDa (Nat.le_refl _)).mono ?_); intro r wv hp; obtain ⟨hr, hx9⟩ := hp; rw [HDD.out, HAB.out] at hr; subst hr; replace hy := Ext.tr hy hx9))
        )
      | fail "held3"
      all_goals
        go_wp2
        go_ret
        exact ⟨rfl, HX.out.tr hy⟩
    · have HAB := Lib.hid h
      have HBC := Lib.hid h'
      have HAC := Lib.hid h''
      clear h h' h''
      first
      | (
        go_region_held3 (fun w' => (w'.cell? ⟨g, 0, none⟩ = some (.int .i64 k0) ∧ w'.cell? ⟨g, 1, none⟩ = some (.string s0) ∧ w'.cell? ⟨g, 2, none⟩ = some (.int .i64 m0) ∧ w'.cell? ⟨g, 3, none⟩ = some (.int .i64 u0) ∧ w'.cell? ⟨g, 4, none⟩ = some (.slice A0 l0 c0)) ∧ (w'.cell? ⟨g + 1, 0, none⟩ = some (.int .i64 k1) ∧ w'.cell? ⟨g + 1, 1, none⟩ = some (.string s1) ∧ w'.cell? ⟨g + 1, 2, none⟩ = some (.int .i64 m1) ∧ w'.cell? ⟨g + 1, 3, none⟩ = some (.int .i64 u1) ∧ w'.cell? ⟨g + 1, 4, none⟩ = some (.slice A1 l1 c1)) ∧ (w'.cell? ⟨g + 1 + 1, 0, none⟩ = some (.int .i64 k2) ∧ w'.cell? ⟨g + 1 + 1, 1, none⟩ = some (.string s2) ∧ w'.cell? ⟨g + 1 + 1, 2, none⟩ = some (.int .i64 m2) ∧ w'.cell? ⟨g + 1 + 1, 3, none⟩ = some (.int .i64 u2) ∧ w'.cell? ⟨g + 1 + 1, 4, none⟩ = some (.slice A2 l2 c2)))
          (first | go_keep | exact ⟨cells5' HCE.out hy, cells5' HCF.out hy, cells5' HCG.out hy⟩)
          (first
            | (go_at_call 14; (with_reducible refine (HAW.out _).mono ?_); rintro r wv ⟨rfl, hxa⟩; replace hy := Ext.tr hy hxa)
            | (go_at_call 24; (with_reducible refine (normal.Implies_c a a _ g _ _ (HRA.out.ext hy hzW) (HRA.out.ext hy hzW) (by have := hy.size; omega)).mono ?_); intro r wv hp; obtain ⟨hr, hx9⟩ := hp; rw [HAA.out] at hr; subst hr; replace hy := Ext.tr hy hx9; (try (have hDb1 := hDb.ext hx9 (Nat.le_refl _))))
            | (go_at_call 24; (with_reducible refine (normal.Implies_c a b _ g _ _ (HRA.out.ext hy hzW) (HRB.out.ext hy hzW) (by have := hy.size; omega)).mono ?_); intro r wv hp; obtain ⟨hr, hx9⟩ := hp; rw [HAB.out] at hr; subst hr; replace hy := Ext.tr hy hx9; (try (have hDb1 := hDb.ext hx9 (Nat.le_refl _))))
            | (go_at_call 24; (with_reducible refine (normal.Implies_c b c _ g _ _ (HRB.out.ext hy hzW) (HRC.out.ext hy hzW) (by have := hy.size; omega)).mono ?_); intro r wv hp; obtain ⟨hr, hx9⟩ := hp; rw [HBC.out] at hr; subst hr; replace hy := Ext.tr hy hx9; (try (have hDb1 := hDb.ext hx9 (Nat.le_refl _))))
            | (go_at_call 24; (with_reducible refine (normal.Implies_c a c _ g _ _ (HRA.out.ext hy hzW) (HRC.out.ext hy hzW) (by have := hy.size; omega)).mono ?_); intro r wv hp; obtain ⟨hr, hx9⟩ := hp; rw [HAC.out] at hr; subst hr; replace hy := Ext.tr hy hx9; (try (have hDb1 := hDb.ext hx9 (Nat.le_refl _))))
            | (go_at_call 18; (with_reducible refine (normal.Dual_c b _ g _ (HRB.out.ext hy hzW) (by have := hy.size; omega)).mono ?_); intro r wv hp; obtain ⟨k5, s5, m5, u5, A5, l5, c5, rfl, hR5, hx9⟩ := hp.get; replace hy := Ext.tr hy hx9; have hDb := hR5.rd)
            | (go_at_call 18; (with_reducible refine (normal.Dual_c a _ g _ (HRA.out.ext hy hzW) (by have := hy.size; omega)).mono ?_); intro r wv hp; obtain ⟨k6, s6, m6, u6, A6, l6, c6, rfl, hR6, hx9⟩ := hp.get; replace hy := Ext.tr hy hx9; have hDa := hR6.rd; have hDb1 := (hDb.ext hx9 (Nat.le_refl _)).le hx9.size)
            | (go_at_call 24; (with_reducible refine (normal.Implies_c (CL.dualE b) (CL.dualE a) _ _ _ _ hDb1 hDa (Nat.le_refl _)).mono ?_); intro r wv hp; obtain ⟨hr, hx9⟩ := hp; rw [HDD.out, HAB.out] at hr; subst hr; replace hy := Ext.tr hy hx9))
        )
      | fail "held3"
      all_goals
        go_wp2
        go_ret
        exact ⟨rfl, HX.out.tr hy⟩
  · have hcs : (l.length ≤ 300 ∧ m.length ≤ 300 ∧ ¬ n.length ≤ 300) ∨ (l.length ≤ 300 ∧ ¬ m.length ≤ 300) ∨ ¬ l.length ≤ 300 := by omega
    rcases hcs with ⟨q1, q2, q3⟩ | ⟨q1, q2⟩ | q1
    all_goals
      (try rw [decide_eq_true q1] at HL)
      (try rw [decide_eq_false q1] at HL)
      (try rw [decide_eq_true q2] at HM)
      (try rw [decide_eq_false q2] at HM)
      (try rw [decide_eq_false q3] at HN)
      go_enter Try.func6, Try.ntmps6
      go_wp2_with (first
        | (go_at_call 28; (with_reducible refine (HL.out _).mono ?_); rintro r w' ⟨rfl, rfl⟩)
        | (go_at_call 28; (with_reducible refine (HM.out _).mono ?_); rintro r w' ⟨rfl, rfl⟩)
        | (go_at_call 28; (with_reducible refine (HN.out _).mono ?_); rintro r w' ⟨rfl, rfl⟩)
        | (go_at_call 14; (with_reducible refine (HAW.out _).mono ?_); rintro r w2 ⟨rfl, hxa⟩))
      go_ret
      exact ⟨rfl, hxa⟩
end Go.Proofs.Ytmolffigeobnnaa

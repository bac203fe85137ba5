
/- The statements about expressions (chapter 8): the walks of FormulaClass, FormulaPrunes. -/
import Derived.Test.YtmboojbhnmdnkaaLaw08
import Derived.Test.YtmboojbhnmdnkaaRi
import Derived.Deep.DrawnRows
namespace Go.Proofs.Ytmboojbhnmdnkaa
open Go.RowKit
set_option linter.unusedVariables false
attribute [local go_sem ↓] Go.wp_at_zero Go.wp_at_succ
theorem cells5c {w w' : World} {g : Nat} {v0 v1 v2 v3 v4 : Value} (h : w.cell? ⟨g, 0, none⟩ = some v0 ∧ w.cell? ⟨g, 1, none⟩ = some v1 ∧ w.cell? ⟨g, 2, none⟩ = some v2 ∧ w.cell? ⟨g, 3, none⟩ = some v3 ∧ w.cell? ⟨g, 4, none⟩ = some v4) (hx : Ext w w') :
    w'.cell? ⟨g, 0, none⟩ = some v0 ∧ w'.cell? ⟨g, 1, none⟩ = some v1 ∧ w'.cell? ⟨g, 2, none⟩ = some v2 ∧ w'.cell? ⟨g, 3, none⟩ = some v3 ∧ w'.cell? ⟨g, 4, none⟩ = some v4 :=
  ⟨hx.cell h.1, hx.cell h.2.1, hx.cell h.2.2.1, hx.cell h.2.2.2.1, hx.cell h.2.2.2.2⟩
set_option maxHeartbeats 1600000 in
theorem FormulaClass_w (e : CL.Ex) (cs : List Value) (w : World) (hR : Rd w w.heap.size e cs) :
    Calls Try.prog 9 #[.agg cs.toArray] w fun r w' => r = .returned (.bool true) ∧ Ext w w' := by
  obtain ⟨k, s, m, u, A1, l1, c1, rfl⟩ := hR.shape
  obtain ⟨bE, hx0⟩ := box1 w #[.int .i64 k, .string s, .int .i64 m, .int .i64 u, .slice A1 l1 c1] 28
  have hz0 := hx0.size
  go_enter Try.func9, Try.ntmps9
  go_wp2_with fail
  generalize (w.alloc (.cells #[.int .i64 k, .string s, .int .i64 m, .int .i64 u, .slice A1 l1 c1] 28)) = W at *
  obtain ⟨e0, e1, e2, e3, e4⟩ := bE.c5
  have q0 := ExtOf.cell e0
  have q1 := ExtOf.cell e1
  have q2 := ExtOf.cell e2
  have q3 := ExtOf.cell e3
  have q4 := ExtOf.cell e4
  have HR := Lib.hid (fun x : ExtOf W => (hR.ext hx0 (Nat.le_refl _)).ext x.ext hz0)
  have HZ := Lib.hid (fun x : ExtOf W => Nat.le_trans hz0 x.ext.size)
  refine wp_region_ext_lit (by kernel_rfl) (by kernel_rfl) ?_
  repeat (go_big_quiet_step ((first
    | (go_at_call 15; exact xqX (awake8_c _))
    | (go_at_call 27; exact xqX (formula.Class_c e _ _ _ (HR.out _) (HZ.out _)))
    | (go_at_call 28; exact xqX (clusterlocksref08.Class_c e _ _ _ (HR.out _) (HZ.out _))))))
  refine wpQuiet_nil ?_
  intro wq hw'
  obtain ⟨⟨wq', hxq⟩, hw''⟩ := hw'
  subst hw''
  go_wp2
  go_ret
  exact ⟨rfl, hx0.tr hxq⟩
set_option maxHeartbeats 1600000 in
theorem FormulaPrunes_w (e : CL.Ex) (cs : List Value) (set : List Bool) (S : Option Addr) (d : Nat) (w : World) (hR : Rd w w.heap.size e cs) (hs : set.length ≤ maxLen) (hrs : Sits w S (bls set)) :
    Calls Try.prog 7 #[.agg cs.toArray, .slice S set.length d] w fun r w' => r = .returned (.bool true) ∧ Ext w w' := by
  obtain ⟨k, s, m, u, A1, l1, c1, rfl⟩ := hR.shape
  obtain ⟨bE, hx0⟩ := box1 w #[.int .i64 k, .string s, .int .i64 m, .int .i64 u, .slice A1 l1 c1] 28
  have hz0 := hx0.size
  have hpl : (prn e set).length ≤ maxLen := by rw [prn_len]; have := atoms_len e; unfold maxLen; omega
  go_enter Try.func7, Try.ntmps7
  go_wp2_with fail
  generalize (w.alloc (.cells #[.int .i64 k, .string s, .int .i64 m, .int .i64 u, .slice A1 l1 c1] 28)) = W at *
  have hc := bE.c5
  have HC := Lib.hid hc
  obtain ⟨e0, e1, e2, e3, e4⟩ := hc
  have HRW := Lib.hid (hR.ext hx0 (Nat.le_refl _))
  have HSW := Lib.hid (hrs.ext hx0)
  have hx1 : Ext W W.drew := Ext.drawn W
  go_region_held3 (fun w' => w'.cell? ⟨w.heap.size, 0, none⟩ = some (.int .i64 k) ∧ w'.cell? ⟨w.heap.size, 1, none⟩ = some (.string s) ∧ w'.cell? ⟨w.heap.size, 2, none⟩ = some (.int .i64 m) ∧ w'.cell? ⟨w.heap.size, 3, none⟩ = some (.int .i64 u) ∧ w'.cell? ⟨w.heap.size, 4, none⟩ = some (.slice A1 l1 c1))
    (first | go_keep | exact cells5c HC.out hx1)
    (first
      | (go_at_call 15; refine (awake8_c _).mono ?_; rintro r w0 ⟨rfl, hy⟩; replace hx1 := Ext.tr hx1 hy)
      | (go_at_call 25; refine (formula.Prune_c e set _ _ hs _ w.heap.size _ (HRW.out.ext hx1 hz0) (by have := hx1.size; omega) (HSW.out.ext hx1)).mono ?_; rintro r w1 ⟨g2, rfl, hb2, _, hy2⟩; have hp2 := hb2.sits; (first | (have hp3' := hp3.ext hy2) | skip); replace hx1 := Ext.tr hx1 hy2)
      | (go_at_call 26; refine (clusterlocksref08.Prune_c e set _ _ hs _ w.heap.size _ (HRW.out.ext hx1 hz0) (by have := hx1.size; omega) (HSW.out.ext hx1)).mono ?_; rintro r w1 ⟨g3, rfl, hb3, _, hy3⟩; have hp3 := hb3.sits; (first | (have hp2' := hp2.ext hy3) | skip); replace hx1 := Ext.tr hx1 hy3)
      | (go_at_call 24; refine (clusterlocksref08.SameBools_c (prn e set) (prn e set) _ _ _ _ _ hpl hpl (by first | exact hp2' | exact hp2) (by first | exact hp3' | exact hp3)).mono ?_; rintro r w1 ⟨rfl, hy4⟩; replace hx1 := Ext.tr hx1 hy4))
  all_goals
    go_wp2
    go_ret
    exact ⟨ret_bool (by simp), hx0.tr hx1⟩
end Go.Proofs.Ytmboojbhnmdnkaa

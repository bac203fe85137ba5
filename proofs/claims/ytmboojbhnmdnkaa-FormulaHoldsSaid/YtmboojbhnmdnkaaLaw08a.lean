
/- The statements about expressions (chapter 8): the walks of FormulaAtoms, FormulaHolds. -/
import Derived.Test.YtmboojbhnmdnkaaLaw08
namespace Go.Proofs.Ytmboojbhnmdnkaa
open Go.RowKit
set_option linter.unusedVariables false
set_option maxHeartbeats 1600000 in
theorem FormulaHolds_w (e : CL.Ex) (cs : List Value) (set : List Bool) (S : Option Addr) (d : Nat) (w : World) (hR : Rd w w.heap.size e cs) (hs : set.length ≤ maxLen) (hrs : Sits w S (bls set)) :
    Calls Try.prog 4 #[.agg cs.toArray, .slice S set.length d] w fun r w' => r = .returned (.bool true) ∧ Ext w w' := by
  obtain ⟨k, s, m, u, A1, l1, c1, rfl⟩ := hR.shape
  obtain ⟨bE, hx0⟩ := box1 w #[.int .i64 k, .string s, .int .i64 m, .int .i64 u, .slice A1 l1 c1] 28
  have hz0 := hx0.size
  go_enter Try.func4, Try.ntmps4
  go_wp2_with fail
  generalize (w.alloc (.cells #[.int .i64 k, .string s, .int .i64 m, .int .i64 u, .slice A1 l1 c1] 28)) = W at *
  obtain ⟨e0, e1, e2, e3, e4⟩ := bE.c5
  have q0 := ExtOf.cell e0
  have q1 := ExtOf.cell e1
  have q2 := ExtOf.cell e2
  have q3 := ExtOf.cell e3
  have q4 := ExtOf.cell e4
  have hRx := fun x : ExtOf W => (hR.ext hx0 (Nat.le_refl _)).ext x.ext hz0
  have HR := Lib.hid hRx
  have hSx := fun x : ExtOf W => (hrs.ext hx0).ext x.ext
  have HS := Lib.hid hSx
  have hZx := fun x : ExtOf W => Nat.le_trans hz0 x.ext.size
  have HZ := Lib.hid hZx
  clear hRx hSx hZx
  refine wp_region_ext_lit (by kernel_rfl) (by kernel_rfl) ?_
  repeat (go_big_quiet_step ((first
    | (go_at_call 15; exact xqX (awake8_c _))
    | (go_at_call 16; exact xqX (formula.Holds_c e set _ _ hs _ _ _ (HR.out _) (HZ.out _) (HS.out _)))
    | (go_at_call 17; exact xqX (clusterlocksref08.Holds_c e set _ _ hs _ _ _ (HR.out _) (HZ.out _) (HS.out _)))
    | (go_at_call 18; exact xqX (formula.Hopeless_c e set _ _ hs _ _ _ (HR.out _) (HZ.out _) (HS.out _)))
    | (go_at_call 19; exact xqX (clusterlocksref08.Hopeless_c e set _ _ hs _ _ _ (HR.out _) (HZ.out _) (HS.out _))))))
  refine wpQuiet_nil ?_
  intro wq hw'
  obtain ⟨⟨wq', hxq⟩, hw''⟩ := hw'
  subst hw''
  go_wp2
  go_ret
  exact ⟨rfl, hx0.tr hxq⟩
end Go.Proofs.Ytmboojbhnmdnkaa

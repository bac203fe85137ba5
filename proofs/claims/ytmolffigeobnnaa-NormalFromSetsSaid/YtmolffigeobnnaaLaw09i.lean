
/- The statements about normal forms (chapter 9): the walk of NormalFromSets. -/
import Derived.Test.YtmolffigeobnnaaLaw09
import Derived.Test.YtmolffigeobnnaaNfw
import Derived.Deep.DrawnRows
import Derived.Deep.RegionHeld3
namespace Go.Proofs.Ytmolffigeobnnaa
open Go.RowKit
set_option linter.unusedVariables false
set_option linter.unusedSimpArgs false
set_option maxRecDepth 100000
attribute [local go_sem ↓] Go.wp_at_zero Go.wp_at_succ
set_option maxHeartbeats 3200000 in
theorem NormalFromSets_w (l : List CL.At) (ss : List (List Int)) (A D : Option Addr) (c d : Nat) (w : World) (hl : l.length ≤ maxLen) (hn : ∀ a ∈ l, a.n.length ≤ maxLen) (hA : Sits w A (ats l)) (hss : ss.length ≤ maxLen) (hD : MatS w D ss) : Calls Try.prog 12 #[.slice A l.length c, .slice D ss.length d] w fun r w' => r = .returned (.bool true) ∧ Ext w w' := by
  have HAW := Lib.hid (fun w => awake9_c w)
  go_enter Try.func12, Try.ntmps12
  go_wp2_with fail
  refine (FromSets_c l ss A D c d w hl hss hn hA hD).mono ?_
  intro r w1 hp1
  obtain ⟨k1, s1, m1, u1, A1, l1, c1, rfl, hR1, hx1⟩ := hp1.get
  have hz1 := hx1.size
  have HA1 := Lib.hid (hA.ext hx1)
  have HD1 := Lib.hid (hD.ext hx1)
  clear hp1 hA hD
  go_wp2_with fail
  obtain ⟨bD, hx2⟩ := box1 w1 #[.int .i64 k1, .string s1, .int .i64 m1, .int .i64 u1, .slice A1 l1 c1] 28
  have hz2 := hx2.size
  have HA2 := Lib.hid (HA1.out.ext hx2)
  have HD2 := Lib.hid (HD1.out.ext hx2)
  have HR2 := Lib.hid (hR1.rd.ext hx2 (Nat.le_refl _))
  have HX2 := Lib.hid (hx1.tr hx2)
  clear hR1 HA1 HD1
  generalize hg : w1.heap.size = g at *
  generalize (w1.alloc (.cells #[.int .i64 k1, .string s1, .int .i64 m1, .int .i64 u1, .slice A1 l1 c1] 28)) = W2 at *
  refine (RFromSets_c l ss A D c d W2 hl hss hn HA2.out HD2.out).mono ?_
  intro r w3 hp3
  obtain ⟨k3, s3, m3, u3, A3, l3, c3, rfl, hR3, hx3⟩ := hp3.get
  have hz3 := hx3.size
  have bD3 := bD.ext hx3
  have HR3 := Lib.hid (HR2.out.ext hx3 hz2)
  clear hp3 HR2 HA2 HD2 bD
  go_wp2_with fail
  obtain ⟨bF, hx4⟩ := box1 w3 #[.int .i64 k3, .string s3, .int .i64 m3, .int .i64 u3, .slice A3 l3 c3] 28
  have hz4 := hx4.size
  have bD4 := bD3.ext hx4
  have HR4 := Lib.hid (HR3.out.ext hx4 (by omega))
  have HF4 := Lib.hid (hR3.rd.ext hx4 (Nat.le_refl _))
  have HX4 := Lib.hid ((HX2.out.tr hx3).tr hx4)
  clear HR3 hR3 bD3
  generalize hg3 : w3.heap.size = g3 at *
  generalize (w3.alloc (.cells #[.int .i64 k3, .string s3, .int .i64 m3, .int .i64 u3, .slice A3 l3 c3] 28)) = W4 at *
  generalize CL.fromOK l ss = ok at *
  have hok : (ok == ok) = true := by simp
  go_wp2_with (first
    | (go_at_call 14; (with_reducible refine (HAW.out _).mono ?_); rintro r w5 ⟨rfl, hx5⟩; obtain ⟨e0, e1, e2, e3, e4⟩ := (bD4.ext hx5).c5; obtain ⟨f0, f1, f2, f3, f4⟩ := (bF.ext hx5).c5; have hz5 := hx5.size)
    | (go_at_call 19; (with_reducible refine (clusterlocksref07.SameExpr_c (CL.fromE l ss) _ _ _ ((HR4.out.ext hx5 (by omega)).le (by omega)) ((HF4.out.ext hx5 (by omega)).le (by omega))).mono ?_); rintro r w6 ⟨rfl, hx6⟩))
  go_ret
  exact ⟨rfl, (HX4.out.tr hx5).tr hx6⟩
end Go.Proofs.Ytmolffigeobnnaa

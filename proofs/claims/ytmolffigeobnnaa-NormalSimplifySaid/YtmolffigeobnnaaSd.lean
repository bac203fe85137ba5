
/- The walk of the reference's SameExpr, at any two expressions. -/
import Derived.Test.YtmolffigeobnnaaNeq
import Derived.Test.YtmolffigeobnnaaSe
namespace Go.Proofs.Ytmolffigeobnnaa
open Go.RowKit
set_option linter.unusedVariables false
set_option linter.unusedSimpArgs false
set_option maxRecDepth 100000
/-- the contract of SameExpr at one pair -/
def SdAt (a b : CL.Ex) : Prop := ∀ (w : World) (B : Nat) (cs ds : List Value), Rd w B a cs → Rd w B b ds → B ≤ w.heap.size → Calls Try.prog 19 #[.agg cs.toArray, .agg ds.toArray] w fun r w' => r = .returned (.bool (CL.eqE a b)) ∧ Ext w w'
set_option maxHeartbeats 3200000 in
theorem SameExpr_d (a : CL.Ex) : ∀ b, SdAt a b := by
  induction a using CL.Ex.ind with
  | h k at' kids ih =>
    intro b w B cs ds hR hS hB
    cases b with
    | mk k' bt kids' =>
      obtain ⟨A, c, rfl, hnm, hkl, hkc, hK⟩ := hR.inv
      obtain ⟨D, d, rfl, hnm', hkl', hkd, hD⟩ := hS.inv
      obtain ⟨nm, m, u⟩ := at'
      obtain ⟨nm', m', u'⟩ := bt
      have IH := Lib.hid ih
      have hg := at_guard
      have hq := at_neq nm nm' m u m' u'
      have HV := Lib.hid (show CL.eqE (.mk k ⟨nm, ⟨m, u⟩⟩ kids) (.mk k' ⟨nm', ⟨m', u'⟩⟩ kids') = (decide (k = k') && decide ((⟨nm, ⟨m, u⟩⟩ : CL.At) = ⟨nm', ⟨m', u'⟩⟩) && CL.eqL kids kids') by simp [CL.eqE])
      clear ih hR hS hnm hnm' hkc hkd
      unfold maxLen at hkl hkl'
      obtain ⟨bE, bF, hx0⟩ := boxes2 w #[.int .i64 k, .string ⟨nm.toArray⟩, .int .i64 m, .int .i64 u, .slice A kids.length c] 28 #[.int .i64 k', .string ⟨nm'.toArray⟩, .int .i64 m', .int .i64 u', .slice D kids'.length d] 28
      by_cases h1 : k = k'
      · have h1' : (k != k') = false := by simp [h1]
        by_cases h2 : (⟨nm, ⟨m, u⟩⟩ : CL.At) = ⟨nm', ⟨m', u'⟩⟩
        · rw [decide_eq_true h2] at hq
          by_cases h3 : kids.length = kids'.length
          · have h3' : ((kids.length : Int) != (kids'.length : Int)) = false := by simp [h3]
            have HE := Lib.hid (show CL.eqE (.mk k ⟨nm, ⟨m, u⟩⟩ kids) (.mk k' ⟨nm', ⟨m', u'⟩⟩ kids') = CL.eqL kids kids' by rw [HV.out, decide_eq_true h1, decide_eq_true h2]; rfl)
            have HL := Lib.hid h3
            clear h1 h2 h3
            go_enter Try.func19, Try.ntmps19
            go_wp2
            generalize ((w.alloc (.cells #[.int .i64 k, .string ⟨nm.toArray⟩, .int .i64 m, .int .i64 u, .slice A kids.length c] 28)).alloc (.cells #[.int .i64 k', .string ⟨nm'.toArray⟩, .int .i64 m', .int .i64 u', .slice D kids'.length d] 28)) = w1 at *
            go_loopw [5] (fun i wr => ∃ (j : Nat), j ≤ kids.length ∧ i = .int .i64 j ∧ Ext w1 wr ∧ Hid (CL.eqL kids kids' = CL.eqL (kids.drop j) (kids'.drop j))) (fun i _ => kids.length - (intOf i).toNat)
            case atStart => exact ⟨0, by omega, rfl, Ext.rfl', Lib.hid (by simp)⟩
            case round =>
              obtain ⟨j, hj, rfl, hx, HJ⟩ := hrel
              have e4 : wr.cell? ⟨w.heap.size, 4, none⟩ = some (.slice A kids.length c) := (bE.ext hx).cell 4
              have f4 : wr.cell? ⟨w.heap.size + 1, 4, none⟩ = some (.slice D kids'.length d) := (bF.ext hx).cell 4
              have hw1 := hx0.size
              have hwr := hx.size
              by_cases hlt : j < kids.length
              · have hlt2 : j < kids'.length := by rw [← HL.out]; exact hlt
                obtain ⟨b, o, k1, s1, m1, u1, A1, l1, x1, rfl, hbB, hR, c0, c1, c2, c3, c4⟩ := (hK.below ((hx0.tr hx).mono hB)).get hlt
                obtain ⟨b', o', k2, s2, m2, u2, A2, l2, x2, rfl, hbB', hS, d0, d1, d2, d3, d4⟩ := (hD.below ((hx0.tr hx).mono hB)).get hlt2
                have hm := List.getElem_mem hlt
                have HS := Lib.hid (eqL_step hlt hlt2)
                generalize kids[j] = e at *
                generalize kids'[j] = e' at *
                have HC := Lib.hid (fun x : ExtOf wr => IH.out e hm e' x.val B _ _ (hR.ext x.ext (by omega)) (hS.ext x.ext (by omega)) (by have := x.ext.size; omega))
                have hlts : (j : Int) < (kids.length : Int) := by omega
                have hlts2 : (j : Int) < (kids'.length : Int) := by omega
                have q4 := ExtOf.cell e4
                have r4 := ExtOf.cell f4
                have y0 := ExtOf.cell c0
                have y1 := ExtOf.cell c1
                have y2 := ExtOf.cell c2
                have y3 := ExtOf.cell c3
                have y4 := ExtOf.cell c4
                have z0 := ExtOf.cell d0
                have z1 := ExtOf.cell d1
                have z2 := ExtOf.cell d2
                have z3 := ExtOf.cell d3
                have z4 := ExtOf.cell d4
                cases hxy : CL.eqE e e'
                · rw [hxy] at HC
                  have HF := Lib.hid (show CL.eqL kids kids' = false by rw [HJ.out, HS.out, hxy]; rfl)
                  clear hxy
                  go_wp2_with fail
                  refine wp_region_ext_lit (by kernel_rfl) (by kernel_rfl) ?_
                  repeat (go_big_quiet_step ((go_at_call 19; exact xqX (HC.out _))))
                  refine wpQuiet_nil ?_
                  intro wq hw'
                  obtain ⟨⟨wq', hxq⟩, hw''⟩ := hw'
                  subst hw''
                  go_wp2
                  go_ret
                  exact ⟨ret_bool (HE.out.trans HF.out).symm, hx0.tr (hx.tr hxq)⟩
                · rw [hxy] at HC
                  have HF := Lib.hid (show CL.eqL kids kids' = CL.eqL (kids.drop (j + 1)) (kids'.drop (j + 1)) by rw [HJ.out, HS.out, hxy, Bool.true_and])
                  clear hxy
                  go_wp2_with fail
                  refine wp_region_ext_lit (by kernel_rfl) (by kernel_rfl) ?_
                  repeat (go_big_quiet_step ((go_at_call 19; exact xqX (HC.out _))))
                  refine wpQuiet_nil ?_
                  intro wq hw'
                  obtain ⟨⟨wq', hxq⟩, hw''⟩ := hw'
                  subst hw''
                  go_wp2
                  go_roundw
                  case rel => exact ⟨j + 1, by omega, by go_num, hx.tr hxq, HF⟩
                  case measure => simp [intOf]; omega
              · have hge : decide ((j : Int) < (kids.length : Int)) = false := by simp; omega
                have HF := Lib.hid (show CL.eqL kids kids' = true by rw [HJ.out, eqL_end (by omega) (by rw [← HL.out]; omega)])
                go_wp2
                go_ret
                exact ⟨ret_bool (HE.out.trans HF.out).symm, hx0.tr hx⟩
          · have h3' : ((kids.length : Int) != (kids'.length : Int)) = true := by simp; omega
            have HE := Lib.hid (show CL.eqE (.mk k ⟨nm, ⟨m, u⟩⟩ kids) (.mk k' ⟨nm', ⟨m', u'⟩⟩ kids') = false by rw [HV.out, eqL_len h3]; simp)
            clear h1 h2 h3 IH hK hD
            go_enter Try.func19, Try.ntmps19
            go_wp2
            go_ret
            exact ⟨ret_bool HE.out.symm, hx0⟩
        · have HE := Lib.hid (show CL.eqE (.mk k ⟨nm, ⟨m, u⟩⟩ kids) (.mk k' ⟨nm', ⟨m', u'⟩⟩ kids') = false by rw [HV.out, decide_eq_false h2]; simp)
          rw [decide_eq_false h2] at hq
          clear h1 h2 IH hK hD
          go_enter Try.func19, Try.ntmps19
          go_wp2
          go_ret
          exact ⟨ret_bool HE.out.symm, hx0⟩
      · have h1' : (k != k') = true := by simpa using h1
        have HE := Lib.hid (show CL.eqE (.mk k ⟨nm, ⟨m, u⟩⟩ kids) (.mk k' ⟨nm', ⟨m', u'⟩⟩ kids') = false by rw [HV.out, decide_eq_false h1]; simp)
        clear h1 IH hK hD
        go_enter Try.func19, Try.ntmps19
        go_wp2
        go_ret
        exact ⟨ret_bool HE.out.symm, hx0⟩
end Go.Proofs.Ytmolffigeobnnaa


/- The walks of normal's equal and of the library's EqualFunc at it. -/
import Derived.Test.YtmolffigeobnnaaNir
namespace Go.Proofs.Ytmolffigeobnnaa
open Go.RowKit
set_option linter.unusedVariables false
set_option linter.unusedSimpArgs false
set_option maxRecDepth 100000
theorem eqL_step {a b : List CL.Ex} {j : Nat} (h1 : j < a.length) (h2 : j < b.length) : CL.eqL (a.drop j) (b.drop j) = (CL.eqE a[j] b[j] && CL.eqL (a.drop (j + 1)) (b.drop (j + 1))) := by
  rw [List.drop_eq_getElem_cons h1, List.drop_eq_getElem_cons h2, CL.eqL]
theorem eqL_end {a b : List CL.Ex} {j : Nat} (h1 : a.length ≤ j) (h2 : b.length ≤ j) : CL.eqL (a.drop j) (b.drop j) = true := by
  rw [List.drop_eq_nil_of_le h1, List.drop_eq_nil_of_le h2, CL.eqL]
theorem eqL_len {a : List CL.Ex} : ∀ {b : List CL.Ex}, a.length ≠ b.length → CL.eqL a b = false := by
  induction a with
  | nil => intro b h; cases b with
    | nil => exact absurd rfl h
    | cons y b => simp [CL.eqL]
  | cons x a ih => intro b h; cases b with
    | nil => simp [CL.eqL]
    | cons y b => rw [CL.eqL, ih (by simpa using h), Bool.and_false]
/-- the contract of equal at one pair -/
def EqAt (a b : CL.Ex) : Prop := ∀ (w : World) (B : Nat) (cs ds : List Value), Rd w B a cs → Rd w B b ds → B ≤ w.heap.size → Calls Try.prog 96 #[.agg cs.toArray, .agg ds.toArray] w fun r w' => r = .returned (.bool (CL.eqE a b)) ∧ Ext w w'
set_option maxHeartbeats 1600000 in
theorem EqualFunc_c (a b : List CL.Ex) (A D : Option Addr) (c d : Nat) (ha : a.length ≤ maxLen) (hb : b.length ≤ maxLen) (heq : ∀ x ∈ a, ∀ y, EqAt x y) (w : World) (B : Nat) (hA : Kids w B A a) (hD : Kids w B D b) (hB : B ≤ w.heap.size) :
    Calls Try.prog 114 #[.slice A a.length c, .slice D b.length d, .func (.func 96) #[] #[]] w fun r w' => r = .returned (.bool (CL.eqL a b)) ∧ Ext w w' := by
  unfold maxLen at ha hb
  have HEQ := Lib.hid heq
  clear heq
  by_cases hl : a.length = b.length
  · have hl' : ((a.length : Int) != (b.length : Int)) = false := by simp [hl]
    have HL := Lib.hid hl
    clear hl
    go_enter Try.func114, Try.ntmps114
    go_wp2
    go_loopw [17] (fun i wr => ∃ j : Nat, j ≤ a.length ∧ i = .int .i64 j ∧ Ext w wr ∧ Hid (CL.eqL a b = CL.eqL (a.drop j) (b.drop j))) (fun i _ => a.length - (intOf i).toNat)
    case atStart => exact ⟨0, by omega, rfl, Ext.rfl', Lib.hid (by simp)⟩
    case round =>
      obtain ⟨j, hj, rfl, hx, HJ⟩ := hrel
      have hzr := hx.size
      by_cases hlt : j < a.length
      · have hlt2 : j < b.length := by rw [← HL.out]; exact hlt
        obtain ⟨b1, o1, k1, s1, m1, u1, A1, l1, x1, rfl, hb1, hR1, c0, c1, c2, c3, c4⟩ := (hA.below (hx.mono hB)).get hlt
        obtain ⟨b2, o2, k2, s2, m2, u2, A2, l2, x2, rfl, hb2, hR2, d0, d1, d2, d3, d4⟩ := (hD.below (hx.mono hB)).get hlt2
        have HS := Lib.hid (eqL_step hlt hlt2)
        have HC := Lib.hid (HEQ.out _ (List.getElem_mem hlt) b[j])
        generalize a[j] = x at *
        generalize b[j] = y at *
        have hji : (j : Int) < (a.length : Int) := by omega
        have hji2 : (j : Int) < (b.length : Int) := by omega
        have hbx1 : b1 ≠ wr.heap.size := by omega
        have hbx2 : b2 ≠ wr.heap.size := by omega
        obtain ⟨bP, bQ, hx2⟩ := boxE2 wr #[.int .i64 k1, .string s1, .int .i64 m1, .int .i64 u1, .slice A1 l1 x1] 28 #[.int .i64 k2, .string s2, .int .i64 m2, .int .i64 u2, .slice A2 l2 x2] 28
        have HCC := Lib.hid (HC.out _ B _ _ (hR1.ext hx2 (by omega)) (hR2.ext hx2 (by omega)) (by have := hx2.size; omega))
        have hy1 := Ext.new wr (.cells #[.int .i64 k1, .string s1, .int .i64 m1, .int .i64 u1, .slice A1 l1 x1] 28)
        have p0 := hy1.cell d0
        have p1 := hy1.cell d1
        have p2 := hy1.cell d2
        have p3 := hy1.cell d3
        have p4 := hy1.cell d4
        clear HC bP bQ hy1
        cases hxy : CL.eqE x y
        · rw [hxy] at HCC
          have HE := Lib.hid (show CL.eqL a b = false by rw [HJ.out, HS.out, hxy]; rfl)
          clear hxy
          go_wp2_with (go_at_call 96; (with_reducible refine HCC.out.mono ?_); rintro r w' ⟨rfl, hx3⟩)
          go_ret
          exact ⟨ret_bool HE.out.symm, hx.tr (hx2.tr hx3)⟩
        · rw [hxy] at HCC
          have HE := Lib.hid (show CL.eqL a b = CL.eqL (a.drop (j + 1)) (b.drop (j + 1)) by rw [HJ.out, HS.out, hxy, Bool.true_and])
          clear hxy
          go_wp2_with (go_at_call 96; (with_reducible refine HCC.out.mono ?_); rintro r w' ⟨rfl, hx3⟩)
          exact ⟨⟨j + 1, by omega, by go_num, hx.tr (hx2.tr hx3), HE⟩, by simp [intOf]; omega⟩
      · have HE := Lib.hid (show CL.eqL a b = true by rw [HJ.out, eqL_end (by omega) (by rw [← HL.out]; omega)])
        go_wp2
        go_ret
        exact ⟨ret_bool HE.out.symm, hx⟩
  · have hl' : ((a.length : Int) != (b.length : Int)) = true := by simp; omega
    have HE := Lib.hid (eqL_len hl)
    clear hl
    go_enter Try.func114, Try.ntmps114
    go_wp2
    go_ret
    exact ⟨ret_bool HE.out.symm, Ext.rfl'⟩
set_option maxHeartbeats 1600000 in
theorem equal_c (a : CL.Ex) : ∀ b, EqAt a b := by
  induction a using CL.Ex.ind with
  | h k at' kids ih =>
    intro b w B cs ds hR hS hB
    cases b with
    | mk k' bt kids' =>
      obtain ⟨A, c, rfl, hnm, hkl, hkc, hK⟩ := hR.inv
      obtain ⟨A', c', rfl, hnm', hkl', hkc', hK'⟩ := hS.inv
      obtain ⟨nm, m, u⟩ := at'
      obtain ⟨nm', m', u'⟩ := bt
      obtain ⟨bE, bF, hx0⟩ := boxE2 w #[.int .i64 k, .string ⟨nm.toArray⟩, .int .i64 m, .int .i64 u, .slice A kids.length c] 28 #[.int .i64 k', .string ⟨nm'.toArray⟩, .int .i64 m', .int .i64 u', .slice A' kids'.length c'] 28
      have HEF := Lib.hid (EqualFunc_c kids kids' A A' c c' hkl hkl' ih _ B (hK.below (hx0.mono hB)) (hK'.below (hx0.mono hB)) (by have := hx0.size; omega))
      have hg := at_guard
      have hq := at_eql nm nm' m u m' u'
      have HV := Lib.hid (show CL.eqE (.mk k ⟨nm, ⟨m, u⟩⟩ kids) (.mk k' ⟨nm', ⟨m', u'⟩⟩ kids') = (decide (k = k') && decide ((⟨nm, ⟨m, u⟩⟩ : CL.At) = ⟨nm', ⟨m', u'⟩⟩) && CL.eqL kids kids') by simp [CL.eqE])
      clear hR hS hK hK' ih hkl hkl' hnm hnm' hkc hkc'
      by_cases h1 : k = k'
      · have h1' : (k == k') = true := by simpa using h1
        by_cases h2 : (⟨nm, ⟨m, u⟩⟩ : CL.At) = ⟨nm', ⟨m', u'⟩⟩
        · have HE := Lib.hid (show CL.eqE (.mk k ⟨nm, ⟨m, u⟩⟩ kids) (.mk k' ⟨nm', ⟨m', u'⟩⟩ kids') = CL.eqL kids kids' by rw [HV.out, decide_eq_true h1, decide_eq_true h2]; rfl)
          rw [decide_eq_true h2] at hq
          clear h1 h2
          go_enter Try.func96, Try.ntmps96
          go_wp2_with (go_at_call 114; (with_reducible refine HEF.out.mono ?_); rintro r w' ⟨rfl, hx⟩)
          go_ret
          exact ⟨ret_bool HE.out.symm, hx0.tr hx⟩
        · have HE := Lib.hid (show CL.eqE (.mk k ⟨nm, ⟨m, u⟩⟩ kids) (.mk k' ⟨nm', ⟨m', u'⟩⟩ kids') = false by rw [HV.out, decide_eq_false h2]; simp)
          rw [decide_eq_false h2] at hq
          clear h1 h2 HEF
          go_enter Try.func96, Try.ntmps96
          go_wp2
          go_ret
          exact ⟨ret_bool HE.out.symm, hx0⟩
      · have h1' : (k == k') = false := by simpa using h1
        have HE := Lib.hid (show CL.eqE (.mk k ⟨nm, ⟨m, u⟩⟩ kids) (.mk k' ⟨nm', ⟨m', u'⟩⟩ kids') = false by rw [HV.out, decide_eq_false h1]; simp)
        clear h1 HEF
        go_enter Try.func96, Try.ntmps96
        go_wp2
        go_ret
        exact ⟨ret_bool HE.out.symm, hx0⟩
end Go.Proofs.Ytmolffigeobnnaa


/- The statements about expressions (chapter 8): the walks of Resolve and of FormulaResolves. -/
import Derived.Test.YtmboojbhnmdnkaaLaw08
import Derived.Test.YtmboojbhnmdnkaaCx
namespace Go.Proofs.Ytmboojbhnmdnkaa
open Go.RowKit
set_option linter.unusedVariables false
noncomputable def frs (l : List CL.Re) : List CL.At → Int
  | [] => 0
  | a :: r => if CL.cres l a = 0 then frs l r else CL.cres l a
noncomputable def fres (l : List CL.Re) (e : CL.Ex) : Int := if CL.valid e = true then frs l (CL.atoms e) else 1
theorem frs_ok {l : List CL.Re} {L : List CL.At} {j : Nat} (hj : j < L.length) (h : CL.cres l L[j] = 0) : frs l (L.drop j) = frs l (L.drop (j + 1)) := by
  rw [List.drop_eq_getElem_cons hj]; simp only [frs]; rw [if_pos h]
theorem frs_bad {l : List CL.Re} {L : List CL.At} {j : Nat} (hj : j < L.length) (h : ¬ CL.cres l L[j] = 0) : frs l (L.drop j) = CL.cres l L[j] := by
  rw [List.drop_eq_getElem_cons hj]; simp only [frs]; rw [if_neg h]
theorem frs_end {l : List CL.Re} {L : List CL.At} {j : Nat} (hj : L.length ≤ j) : frs l (L.drop j) = 0 := by
  rw [List.drop_eq_nil_of_le hj]; rfl
set_option maxHeartbeats 1600000 in
theorem formula.Resolve_c (l : List CL.Re) (e : CL.Ex) (A : Option Addr) (c : Nat) (w : World) (B : Nat) (cs : List Value) (hl : l.length ≤ maxLen) (hn : ∀ r ∈ l, r.n.length ≤ maxLen) (hr : Sits w A (recs l)) (hR : Rd w B e cs) (hB : B ≤ w.heap.size) :
    Calls Try.prog 30 #[.slice A l.length c, .agg cs.toArray] w fun r w' => r = .returned (.int .i64 (fres l e)) ∧ Ext w w' := by
  obtain ⟨k, s, m, u, A1, l1, c1, rfl⟩ := hR.shape
  have hx0 := Ext.new w (.cells #[.int .i64 k, .string s, .int .i64 m, .int .i64 u, .slice A1 l1 c1] 28)
  have hz0 := hx0.size
  have hl8 := atoms_len e
  have HAT := Lib.hid (formula.Atoms_c e _ B _ (hR.ext hx0 hB) (by omega))
  have HNE := Lib.hid (fun (h : CL.valid e = true) => atoms_ne h)
  have HNI := Lib.hid (fun (h : CL.valid e = false) => atoms_nil h)
  cases hv : CL.valid e
  · have HF := Lib.hid (show fres l e = 1 by simp [fres, hv])
    rw [HNI.out hv] at HAT
    go_enter Try.func30, Try.ntmps30
    go_wp2_with (go_at_call 13; (with_reducible refine HAT.out.mono ?_); intro r w' hp; obtain ⟨A2, c2, rfl, hr2, hx⟩ := hp.get)
    go_ret
    exact ⟨ret_int HF.out.symm, hx0.tr hx⟩
  · have HF := Lib.hid (show fres l e = frs l (CL.atoms e) by simp [fres, hv])
    have hn0 : 0 < (CL.atoms e).length := List.length_pos_iff.2 (HNE.out hv)
    generalize CL.atoms e = L0 at *
    have hn1 : ((L0.length : Int) == 0) = false := beq_eq_false_iff_ne.2 (by omega)
    go_enter Try.func30, Try.ntmps30
    go_wp2_with (go_at_call 13; (with_reducible refine HAT.out.mono ?_); intro r w' hp; obtain ⟨A2, c2, rfl, hr2, hx⟩ := hp.get)
    have hxw : Ext w w' := hx0.tr hx
    go_loopw [16] (fun i wr => ∃ j : Nat, j ≤ L0.length ∧ i = .int .i64 j ∧ Ext w' wr ∧ Hid (frs l L0 = frs l (L0.drop j))) (fun i _ => L0.length - (intOf i).toNat)
    case atStart => exact ⟨0, by omega, rfl, Ext.rfl', Lib.hid (by simp)⟩
    case round =>
      obtain ⟨j, hj, rfl, hy, HJ⟩ := hrel
      by_cases hlt : j < L0.length
      · obtain ⟨b, o, rfl, d0, d1, d2⟩ := (hr2.ext hy).atoms hlt
        have H1 := Lib.hid (fun h => frs_ok (l := l) hlt h)
        have H2 := Lib.hid (fun h => frs_bad (l := l) hlt h)
        have hbb := World.block_lt_of_cell? _ _ d0
        simp only at hbb
        have hbx : b ≠ wr.heap.size := by omega
        have hxr := Ext.tr hxw (hy.tr (Ext.new wr (.cells #[.string ⟨L0[j].n.toArray⟩, .int .i64 L0[j].a.m, .int .i64 L0[j].a.u] 25)))
        have HC := Lib.hid (catalog.Resolve_c l L0[j] A c _ hl hn (hr.ext hxr))
        by_cases hc0 : CL.cres l L0[j] = 0
        · have H3 := Lib.hid (H1.out hc0)
          go_wp2_with (go_at_call 40; (with_reducible refine HC.out.mono ?_); rintro r w3 ⟨rfl, hx3⟩)
          exact ⟨⟨j + 1, by omega, by go_num, hy.tr ((Ext.new _ _).tr hx3), Lib.hid (HJ.out.trans H3.out)⟩, by simp [intOf]; omega⟩
        · have H3 := Lib.hid (H2.out hc0)
          have hc1 : (CL.cres l L0[j] == 0) = false := beq_eq_false_iff_ne.2 hc0
          have hc2 : (CL.cres l L0[j] != 0) = true := by simp [hc0]
          go_wp2_with (go_at_call 40; (with_reducible refine HC.out.mono ?_); rintro r w3 ⟨rfl, hx3⟩)
          go_ret
          exact ⟨ret_int (by rw [HF.out, HJ.out, H3.out]), hxr.tr hx3⟩
      · go_wp2
        go_ret
        exact ⟨ret_int (by rw [HF.out, HJ.out, frs_end (by omega)]), hxw.tr hy⟩
set_option maxHeartbeats 1600000 in
theorem clusterlocksref08.Resolve_c (l : List CL.Re) (e : CL.Ex) (A : Option Addr) (c : Nat) (w : World) (B : Nat) (cs : List Value) (hl : l.length ≤ maxLen) (hn : ∀ r ∈ l, r.n.length ≤ maxLen) (hr : Sits w A (recs l)) (hR : Rd w B e cs) (hB : B ≤ w.heap.size) :
    Calls Try.prog 31 #[.slice A l.length c, .agg cs.toArray] w fun r w' => r = .returned (.int .i64 (fres l e)) ∧ Ext w w' := by
  obtain ⟨k, s, m, u, A1, l1, c1, rfl⟩ := hR.shape
  have hx0 := Ext.new w (.cells #[.int .i64 k, .string s, .int .i64 m, .int .i64 u, .slice A1 l1 c1] 28)
  have hz0 := hx0.size
  have hl8 := atoms_len e
  have HAT := Lib.hid (clusterlocksref07.Atoms_c e _ B _ (hR.ext hx0 hB) (by omega))
  have HAT2 := Lib.hid (show ∀ r w', RAts e (w.alloc (.cells #[.int .i64 k, .string s, .int .i64 m, .int .i64 u, .slice A1 l1 c1] 28)) r w' → ∃ A c, r = .returned (.tuple #[.slice A (CL.atoms e).length c, .bool (CL.valid e)]) ∧ Sits w' A (ats (CL.atoms e)) ∧ Ext (w.alloc (.cells #[.int .i64 k, .string s, .int .i64 m, .int .i64 u, .slice A1 l1 c1] 28)) w' from fun r w' hp => hp.get)
  cases hv : CL.valid e
  · have HF := Lib.hid (show fres l e = 1 by simp [fres, hv])
    go_enter Try.func31, Try.ntmps31
    go_wp2_with (go_at_call 34; (with_reducible refine HAT.out.mono ?_); intro r w' hp; obtain ⟨A2, c2, rfl, hr2, hx⟩ := HAT2.out _ _ hp)
    go_ret
    exact ⟨ret_int HF.out.symm, hx0.tr hx⟩
  · have HF := Lib.hid (show fres l e = frs l (CL.atoms e) by simp [fres, hv])
    generalize CL.atoms e = L0 at *
    go_enter Try.func31, Try.ntmps31
    go_wp2_with (go_at_call 34; (with_reducible refine HAT.out.mono ?_); intro r w' hp; obtain ⟨A2, c2, rfl, hr2, hx⟩ := HAT2.out _ _ hp)
    have hxw : Ext w w' := hx0.tr hx
    clear hv
    go_loopw [7] (fun i wr => ∃ j : Nat, j ≤ L0.length ∧ i = .int .i64 j ∧ Ext w' wr ∧ Hid (frs l L0 = frs l (L0.drop j))) (fun i _ => L0.length - (intOf i).toNat)
    case atStart => exact ⟨0, by omega, rfl, Ext.rfl', Lib.hid (by simp)⟩
    case round =>
      obtain ⟨j, hj, rfl, hy, HJ⟩ := hrel
      by_cases hlt : j < L0.length
      · obtain ⟨b, o, rfl, d0, d1, d2⟩ := (hr2.ext hy).atoms hlt
        have H1 := Lib.hid (fun h => frs_ok (l := l) hlt h)
        have H2 := Lib.hid (fun h => frs_bad (l := l) hlt h)
        have hxr := Ext.tr hxw hy
        have HC := Lib.hid (clusterlocksref05.Resolve_c l L0[j] A c _ hl hn (hr.ext hxr))
        by_cases hc0 : CL.cres l L0[j] = 0
        · have H3 := Lib.hid (H1.out hc0)
          go_wp2_with (go_at_call 41; (with_reducible refine HC.out.mono ?_); rintro r w3 ⟨rfl, hx3⟩)
          exact ⟨⟨j + 1, by omega, by go_num, hy.tr hx3, Lib.hid (HJ.out.trans H3.out)⟩, by simp [intOf]; omega⟩
        · have H3 := Lib.hid (H2.out hc0)
          have hc1 : (CL.cres l L0[j] == 0) = false := beq_eq_false_iff_ne.2 hc0
          have hc2 : (CL.cres l L0[j] != 0) = true := by simp [hc0]
          go_wp2_with (go_at_call 41; (with_reducible refine HC.out.mono ?_); rintro r w3 ⟨rfl, hx3⟩)
          go_ret
          exact ⟨ret_int (by rw [HF.out, HJ.out, H3.out]), hxr.tr hx3⟩
      · go_wp2
        go_ret
        exact ⟨ret_int (by rw [HF.out, HJ.out, frs_end (by omega)]), hxw.tr hy⟩
set_option maxHeartbeats 1600000 in
theorem FormulaResolves_w (l : List CL.Re) (A : Option Addr) (c : Nat) (e : CL.Ex) (cs : List Value) (w : World) (hl : l.length ≤ maxLen) (hn : ∀ r ∈ l, r.n.length ≤ maxLen) (hr : Sits w A (recs l)) (hR : Rd w w.heap.size e cs) :
    Calls Try.prog 11 #[.slice A l.length c, .agg cs.toArray] w fun r w' => r = .returned (.bool true) ∧ Ext w w' := by
  obtain ⟨k, s, m, u, A1, l1, c1, rfl⟩ := hR.shape
  obtain ⟨bE, hx0⟩ := box1 w #[.int .i64 k, .string s, .int .i64 m, .int .i64 u, .slice A1 l1 c1] 28
  have hz0 := hx0.size
  go_enter Try.func11, Try.ntmps11
  go_wp2_with fail
  generalize (w.alloc (.cells #[.int .i64 k, .string s, .int .i64 m, .int .i64 u, .slice A1 l1 c1] 28)) = W at *
  obtain ⟨e0, e1, e2, e3, e4⟩ := bE.c5
  have q0 := ExtOf.cell e0
  have q1 := ExtOf.cell e1
  have q2 := ExtOf.cell e2
  have q3 := ExtOf.cell e3
  have q4 := ExtOf.cell e4
  have HR := Lib.hid (fun x : ExtOf W => (hR.ext hx0 (Nat.le_refl _)).ext x.ext hz0)
  have HZ := Lib.hid (fun x : ExtOf W => Nat.le_trans hz0 x.ext.size)
  have HS := Lib.hid (fun x : ExtOf W => (hr.ext hx0).ext x.ext)
  refine wp_region_ext_lit (by kernel_rfl) (by kernel_rfl) ?_
  repeat (go_big_quiet_step ((first
    | (go_at_call 15; exact xqX (awake8_c _))
    | (go_at_call 30; exact xqX (formula.Resolve_c l e _ _ _ _ _ hl hn (HS.out _) (HR.out _) (HZ.out _)))
    | (go_at_call 31; exact xqX (clusterlocksref08.Resolve_c l e _ _ _ _ _ hl hn (HS.out _) (HR.out _) (HZ.out _))))))
  refine wpQuiet_nil ?_
  intro wq hw'
  obtain ⟨⟨wq', hxq⟩, hw''⟩ := hw'
  subst hw''
  go_wp2
  go_ret
  exact ⟨rfl, hx0.tr hxq⟩
end Go.Proofs.Ytmboojbhnmdnkaa


/- The walks of the reference's index, Implies, Equivalent, and of normal's Equivalent. -/
import Derived.Test.YtmolffigeobnnaaNip
import Derived.Deep.DrawnRows
namespace Go.Proofs.Ytmolffigeobnnaa
open Go.RowKit
set_option linter.unusedVariables false
set_option linter.unusedSimpArgs false
set_option maxRecDepth 100000
attribute [local go_sem ↓] Go.wp_at_zero Go.wp_at_succ
set_option maxHeartbeats 800000 in
theorem rIndex_c (l : List CL.At) (n : Nat) (hn : l.length = n) (hl : n ≤ 8) (a : CL.At) (A : Option Addr) (c : Nat) (w : World) (hr : Sits w A (ats l)) :
    Calls Try.prog 56 #[.slice A n c, .agg #[.string ⟨a.n.toArray⟩, .int .i64 a.a.m, .int .i64 a.a.u]] w fun r w' => r = .returned (.int .i64 (ixi l a)) ∧ Ext w w' := by
  subst hn
  obtain ⟨nm, m, u⟩ := a
  have hg := at_guard
  have HN : Hid ((⟨nm, ⟨m, u⟩⟩ : CL.At) ∉ l.take 0) := Lib.hid (by simp)
  obtain ⟨bE, hx0⟩ := box1 w #[.string ⟨nm.toArray⟩, .int .i64 m, .int .i64 u] 25
  go_enter Try.func56, Try.ntmps56
  go_wp2
  generalize (w.alloc (.cells #[.string ⟨nm.toArray⟩, .int .i64 m, .int .i64 u] 25)) = w1 at *
  go_loopw [5] (fun i wr => ∃ j : Nat, j ≤ l.length ∧ i = .int .i64 j ∧ Ext w1 wr ∧ Hid ((⟨nm, ⟨m, u⟩⟩ : CL.At) ∉ l.take j)) (fun i _ => l.length - (intOf i).toNat)
  case atStart => exact ⟨0, by omega, rfl, Ext.rfl', HN⟩
  case round =>
    obtain ⟨j, hj, rfl, hx, HJ⟩ := hrel
    have hx2 := hx0.tr hx
    by_cases hlt : j < l.length
    · obtain ⟨b, o, rfl, c0, c1, c2⟩ := (hr.ext hx2).atoms hlt
      have H1 := Lib.hid (ixi_hit HJ.out hlt)
      have H3 := Lib.hid (out_step HJ.out hlt)
      have bEr := bE.ext hx
      have q0 := ExtOf.cell (bEr.cell 0)
      have q1 := ExtOf.cell (bEr.cell 1)
      have q2 := ExtOf.cell (bEr.cell 2)
      have hji : (j : Int) < (l.length : Int) := by omega
      generalize l[j] = x at *
      obtain ⟨xn, xm, xu⟩ := x
      simp only at c0 c1 c2
      have q3 := ExtOf.cell c0
      have q4 := ExtOf.cell c1
      have q5 := ExtOf.cell c2
      have hq := at_eql xn nm xm xu m u
      by_cases heq : (⟨nm, ⟨m, u⟩⟩ : CL.At) = ⟨xn, ⟨xm, xu⟩⟩
      · have H4 := Lib.hid (H1.out heq)
        rw [decide_eq_true heq.symm] at hq
        clear heq c0 c1 c2
        go_wp2_with fail
        refine wp_region_ext_lit (by kernel_rfl) (by kernel_rfl) ?_
        repeat (go_big_quiet_step (fail))
        refine wpQuiet_nil ?_
        intro wq hw'
        obtain ⟨⟨wq', hxq⟩, hw''⟩ := hw'
        subst hw''
        go_wp2
        go_ret
        exact ⟨ret_int H4.out.symm, hx2.tr hxq⟩
      · have H4 := Lib.hid (H3.out heq)
        rw [decide_eq_false (Ne.symm heq)] at hq
        clear heq c0 c1 c2
        go_wp2_with fail
        refine wp_region_ext_lit (by kernel_rfl) (by kernel_rfl) ?_
        repeat (go_big_quiet_step (fail))
        refine wpQuiet_nil ?_
        intro wq hw'
        obtain ⟨⟨wq', hxq⟩, hw''⟩ := hw'
        subst hw''
        go_wp2
        exact ⟨⟨j + 1, by omega, by go_num, hx.tr hxq, H4⟩, by simp [intOf]; omega⟩
    · have H4 := Lib.hid (ixi_none HJ.out (by omega))
      go_wp2
      go_ret
      exact ⟨ret_int H4.out.symm, hx2⟩
/-- the reference's look at a set through another's atoms -/
def othF (l m : List CL.At) (s : List Bool) (i : Nat) : Bool := match m[i]? with | some a => hasA l s a | none => false
theorem othF_all (l m : List CL.At) (s : List Bool) : (List.range m.length).map (othF l m s) = oth l m s := by
  apply List.ext_getElem
  · simp [oth]
  · intro i h1 h2
    have hi : i < m.length := by simpa using h1
    simp [oth, othF, hi]
theorem oth_len (l m : List CL.At) (s : List Bool) : (oth l m s).length = m.length := by simp [oth]
def implB (a b : CL.Ex) (k : Nat) : Bool := !holdsE a (bsOf (CL.atoms a).length k) || holdsE b (oth (CL.atoms a) (CL.atoms b) (bsOf (CL.atoms a).length k))
theorem range_all_succ (p : Nat → Bool) (k : Nat) : (List.range (k + 1)).all p = ((List.range k).all p && p k) := by simp [List.range_succ]
theorem range_all_false {p : Nat → Bool} {k M : Nat} (hk : k < M) (h : p k = false) : (List.range M).all p = false := by
  rw [List.all_eq_false]; exact ⟨k, by simpa using hk, by simp [h]⟩
set_option maxHeartbeats 6400000 in
theorem clusterlocksref09.Implies_c (a b : CL.Ex) (w : World) (B : Nat) (cs ds : List Value) (hR : Rd w B a cs) (hS : Rd w B b ds) (hB : B ≤ w.heap.size) : Calls Try.prog 25 #[.agg cs.toArray, .agg ds.toArray] w fun r w' => r = .returned (.bool (implR a b)) ∧ Ext w w' := by
  obtain ⟨k0, s0, m0, u0, A0, l0, c0, rfl⟩ := hR.shape
  obtain ⟨k1, s1, m1, u1, A1, l1, c1, rfl⟩ := hS.shape
  obtain ⟨bE, bF, hx0⟩ := boxE2 w #[.int .i64 k0, .string s0, .int .i64 m0, .int .i64 u0, .slice A0 l0 c0] 28 #[.int .i64 k1, .string s1, .int .i64 m1, .int .i64 u1, .slice A1 l1 c1] 28
  have hz0 := hx0.size
  have HRA := Lib.hid (hR.ext hx0 hB)
  have HRB := Lib.hid (hS.ext hx0 hB)
  clear hR hS
  go_enter Try.func25, Try.ntmps25
  go_wp2_with fail
  have hzz : ((w.alloc (.cells #[.int .i64 k0, .string s0, .int .i64 m0, .int .i64 u0, .slice A0 l0 c0] 28)).alloc (.cells #[.int .i64 k1, .string s1, .int .i64 m1, .int .i64 u1, .slice A1 l1 c1] 28)).heap.size = w.heap.size + 2 := by simp
  generalize ((w.alloc (.cells #[.int .i64 k0, .string s0, .int .i64 m0, .int .i64 u0, .slice A0 l0 c0] 28)).alloc (.cells #[.int .i64 k1, .string s1, .int .i64 m1, .int .i64 u1, .slice A1 l1 c1] 28)) = W at *
  refine (clusterlocksref07.Atoms_c a W B _ HRA.out (by omega)).mono ?_
  intro r w1 hp1
  obtain ⟨A2, c2, rfl, hr2, hx1⟩ := hp1.get
  have hz1 := hx1.size
  obtain ⟨f0, f1, f2, f3, f4⟩ := (bF.ext hx1).c5
  clear hp1
  go_wp2_with fail
  refine (clusterlocksref07.Atoms_c b w1 B _ (HRB.out.ext hx1 (by omega)) (by omega)).mono ?_
  intro r w2 hp2
  obtain ⟨A3, c3, rfl, hr3, hx2⟩ := hp2.get
  have hz2 := hx2.size
  have HX2 := Lib.hid ((hx0.tr hx1).tr hx2)
  clear hp2
  cases hva : CL.valid a
  · have HV := Lib.hid (show implR a b = false by simp [implR, hva])
    go_wp2
    go_ret
    exact ⟨ret_bool HV.out.symm, HX2.out⟩
  · cases hvb : CL.valid b
    · have HV := Lib.hid (show implR a b = false by simp [implR, hvb])
      go_wp2
      go_ret
      exact ⟨ret_bool HV.out.symm, HX2.out⟩
    · have HV := Lib.hid (show implR a b = (List.range (2 ^ (CL.atoms a).length)).all (implB a b) by simp only [implR, hva, hvb, Bool.true_and]; rfl)
      have HBB := Lib.hid (show ∀ k, implB a b k = (!holdsE a (bsOf (CL.atoms a).length k) || holdsE b (oth (CL.atoms a) (CL.atoms b) (bsOf (CL.atoms a).length k))) from fun k => rfl)
      have hbE := (bE.ext hx1).ext hx2
      have hbF := (bF.ext hx1).ext hx2
      have HR2 := Lib.hid ((HRA.out.ext hx1 (by omega)).ext hx2 (by omega))
      have HS2 := Lib.hid ((HRB.out.ext hx1 (by omega)).ext hx2 (by omega))
      have HAA := Lib.hid (hr2.ext hx2)
      have HAB := Lib.hid hr3
      have hnA := atoms_len a
      have hnB := atoms_len b
      clear f0 f1 f2 f3 f4 hr2 hr3 hx1 hx2 HRA HRB bE bF hva hvb
      generalize hLA : CL.atoms a = LA at *
      generalize hLB : CL.atoms b = LB at *
      clear hLA hLB
      obtain ⟨hp1, hp2⟩ := pow_le LA.length hnA
      have HP := Lib.hid hp2
      clear hp2
      generalize hM : 2 ^ LA.length = M at *
      have HMM := Lib.hid hM
      clear hM
      have hmk := mk_bools LB.length (by omega)
      go_wp2
      go_loopw [9] (fun i wr => ∃ k : Nat, k ≤ M ∧ i = .int .i64 k ∧ Ext w2 wr ∧ Hid ((List.range k).all (implB a b) = true)) (fun i _ => M - (intOf i).toNat)
      case atStart => exact ⟨0, by omega, rfl, Ext.rfl', Lib.hid (by simp)⟩
      case round =>
        obtain ⟨k, hk, rfl, hx, HJ⟩ := hrel
        obtain ⟨wo, rfl⟩ : ∃ wo : World, wo = wr := ⟨_, rfl⟩
        have hzo := hx.size
        by_cases hlt : k < M
        · have hd : decide ((k : Int) < wrap64 (2 ^ LA.length)) = true := by rw [HP.out]; simp; omega
          go_wp2_with fail
          refine (clusterlocksref09.Set_c LA.length k hnA (by omega) wo).mono ?_
          rintro r w3 ⟨rfl, hS3, hx3⟩
          have hz3 := hx3.size
          obtain ⟨e0, e1, e2, e3, e4⟩ := ((hbE.ext hx).ext hx3).c5
          have hH := rHolds_n a (bsOf LA.length k) LA.length (bsOf_len _ k) hnA (some ⟨wo.heap.size, 0, none⟩) LA.length w3 B _ (HR2.out.ext (hx.tr hx3) (by omega)) (by omega) hS3.sits
          cases hh : holdsE a (bsOf LA.length k)
          · rw [hh] at hH
            have HH := Lib.hid hH
            have HE := Lib.hid (show (List.range (k + 1)).all (implB a b) = true by rw [range_all_succ, HJ.out, HBB.out, hh]; rfl)
            clear hH hh
            go_wp2_with (go_at_call 22; (with_reducible refine HH.out.mono ?_); rintro r w4 ⟨rfl, hx4⟩)
            exact ⟨⟨k + 1, by omega, by go_num, (hx.tr hx3).tr hx4, HE⟩, by simp [intOf]; omega⟩
          · rw [hh] at hH
            have HH := Lib.hid hH
            have HBE := Lib.hid (show implB a b k = holdsE b (oth LA LB (bsOf LA.length k)) by rw [HBB.out, hh]; rfl)
            clear hH hh
            go_wp2_with (go_at_call 22; (with_reducible refine HH.out.mono ?_); rintro r w4 ⟨rfl, hx4⟩)
            have hx34 := (hx.tr hx3).tr hx4
            have hz4 := hx4.size
            have HSet := Lib.hid (hS3.ext hx4)
            have HAA4 := Lib.hid (HAA.out.ext hx34)
            have HAB4 := Lib.hid (HAB.out.ext hx34)
            have hbF4 := hbF.ext hx34
            have HS4 := Lib.hid (HS2.out.ext hx34 (by omega))
            clear hS3 hx3 hx4 e0 e1 e2 e3 e4
            have hgS := HSet.out.lt
            have hbS := Blk.new w4 4 (bls (List.replicate LB.length false)).toArray
            have hxS := Ext.new w4 (.cells (bls (List.replicate LB.length false)).toArray 4)
            have hzS : (w4.alloc (.cells (bls (List.replicate LB.length false)).toArray 4)).heap.size = w4.heap.size + 1 := by simp
            generalize (w4.alloc (.cells (bls (List.replicate LB.length false)).toArray 4)) = w5 at *
            go_loopw [12] (fun i wr => ∃ (q : Nat) (L : List Bool), q ≤ LB.length ∧ i = .int .i64 q ∧ Below w4.heap.size w5 wr ∧ Blk wr w4.heap.size 4 (bls L).toArray ∧ Hid (Filled (othF LA LB (bsOf LA.length k)) L LB.length q)) (fun i _ => LB.length - (intOf i).toNat)
            case atStart => exact ⟨0, _, by omega, rfl, Below.refl _ _, hbS, Lib.hid (Filled.zero _ _)⟩
            case round =>
              obtain ⟨q, L, hq, rfl, hbw, hbL, HF⟩ := hrel
              have hzr := hbw.size
              have hxo : Ext w4 wr := hxS.trans hbw
              have hlen := HF.out.1
              by_cases hlt2 : q < LB.length
              · obtain ⟨b3, o3, rfl, d0, d1, d2⟩ := (HAB4.out.ext hxo).atoms hlt2
                have hqi : (q : Int) < (LB.length : Int) := by omega
                have HFS := Lib.hid HF.out.step
                have HOF := Lib.hid (show othF LA LB (bsOf LA.length k) q = hasA LA (bsOf LA.length k) LB[q] by simp [othF, hlt2])
                have hidx := fun W h => rIndex_c LA LA.length rfl hnA LB[q] A2 c2 W h
                generalize LB[q] = x at *
                obtain ⟨xn, xm, xu⟩ := x
                simp only at d0 d1 d2 hidx
                have HID := Lib.hid (hidx wr (HAA4.out.ext hxo))
                clear hidx
                cases hix : ixo LA ⟨xn, ⟨xm, xu⟩⟩ with
                | none =>
                  have hiv : ixi LA ⟨xn, ⟨xm, xu⟩⟩ = -1 := by simp [ixi, hix]
                  have HO := Lib.hid (HOF.out.trans (hasA_none hix))
                  rw [hiv] at HID
                  rw [HO.out] at HFS
                  clear hix hiv
                  go_wp2_with (go_at_call 56; (with_reducible refine HID.out.mono ?_); rintro r w' ⟨rfl, hxi⟩; have hb' := hbL.ext hxi; have t0 : w'.cell? ⟨w4.heap.size, q, none⟩ = some (.bool (L[q]'(by omega))) := (by rw [hb'.cell]; simp [bls, show q < L.length by omega]); have z0 := hb'.frozen q)
                  have hset := hb'.set q (.bool false)
                  rw [bls_set] at hset
                  exact ⟨⟨q + 1, _, by omega, by go_num, below_only (hbw.trans (hxi.mono (by omega))) (Only.rf.set q _) (Nat.le_refl _) (by have := hxi.size; omega), hset, HFS⟩, by simp [intOf]; omega⟩
                | some jj =>
                  have hjj := ixo_lt hix
                  have hiv : ixi LA ⟨xn, ⟨xm, xu⟩⟩ = (jj : Int) := by simp [ixi, hix]
                  have HO := Lib.hid (HOF.out.trans (hasA_some hix))
                  have HG := Lib.hid (show (bsOf LA.length k).getD jj false = k.testBit jj by rw [bsOf_get]; simp [hjj])
                  rw [hiv] at HID
                  rw [HO.out, HG.out] at HFS
                  clear hix hiv
                  have hjji : (jj : Int) < (LA.length : Int) := by omega
                  go_wp2_with (go_at_call 56; (with_reducible refine HID.out.mono ?_); rintro r w' ⟨rfl, hxi⟩; have hb' := hbL.ext hxi; have t0 : w'.cell? ⟨w4.heap.size, q, none⟩ = some (.bool (L[q]'(by omega))) := (by rw [hb'.cell]; simp [bls, show q < L.length by omega]); have z0 := hb'.frozen q; have y0 : w'.cell? ⟨wo.heap.size, jj, none⟩ = some (.bool (k.testBit jj)) := (by rw [((HSet.out.ext hxo).ext hxi).cell]; simp [bls, bsOf, hjj]))
                  have hset := hb'.set q (.bool (k.testBit jj))
                  rw [bls_set] at hset
                  exact ⟨⟨q + 1, _, by omega, by go_num, below_only (hbw.trans (hxi.mono (by omega))) (Only.rf.set q _) (Nat.le_refl _) (by have := hxi.size; omega), hset, HFS⟩, by simp [intOf]; omega⟩
              · have hL := HF.out.done (by omega)
                rw [othF_all] at hL
                obtain ⟨f0, f1, f2, f3, f4⟩ := (hbF4.ext hxo).c5
                subst hL
                have hcall := rHolds_n b (oth LA LB (bsOf LA.length k)) LB.length (oth_len _ _ _) hnB (some ⟨w4.heap.size, 0, none⟩) LB.length wr B _ (HS4.out.ext hxo (by omega)) (by have := hxo.size; omega) hbL.sits
                cases hh : holdsE b (oth LA LB (bsOf LA.length k))
                · rw [hh] at hcall
                  have HCALL := Lib.hid hcall
                  have HE := Lib.hid (show implR a b = false by rw [HV.out]; exact range_all_false hlt (by rw [HBE.out, hh]))
                  clear hcall hh hlen
                  go_wp2_with (go_at_call 22; (with_reducible refine HCALL.out.mono ?_); rintro r w' ⟨rfl, hxi⟩)
                  go_ret
                  exact ⟨ret_bool HE.out.symm, HX2.out.tr (hx34.tr (hxo.tr hxi))⟩
                · rw [hh] at hcall
                  have HCALL := Lib.hid hcall
                  have HE := Lib.hid (show (List.range (k + 1)).all (implB a b) = true by rw [range_all_succ, HJ.out, HBE.out, hh]; rfl)
                  clear hcall hh hlen
                  go_wp2_with (go_at_call 22; (with_reducible refine HCALL.out.mono ?_); rintro r w' ⟨rfl, hxi⟩)
                  exact ⟨⟨k + 1, by omega, by go_num, hx34.tr (hxo.tr hxi), HE⟩, by simp [intOf]; omega⟩
        · obtain rfl : k = M := by omega
          have hd : decide ((k : Int) < wrap64 (2 ^ LA.length)) = false := by rw [HP.out]; simp
          have HE := Lib.hid (show implR a b = true by rw [HV.out, HJ.out])
          go_wp2
          go_ret
          exact ⟨ret_bool HE.out.symm, HX2.out.tr hx⟩
def eqvR (a b : CL.Ex) : Bool := implR a b && implR b a
theorem eqv_eq (a b : CL.Ex) : eqvE a b = eqvR a b := by simp [eqvE, eqvR, impl_eq]
set_option maxHeartbeats 800000 in
theorem normal.Equivalent_c (a b : CL.Ex) (w : World) (B : Nat) (cs ds : List Value) (hR : Rd w B a cs) (hS : Rd w B b ds) (hB : B ≤ w.heap.size) : Calls Try.prog 26 #[.agg cs.toArray, .agg ds.toArray] w fun r w' => r = .returned (.bool (eqvE a b)) ∧ Ext w w' := by
  obtain ⟨k0, s0, m0, u0, A0, l0, c0, rfl⟩ := hR.shape
  obtain ⟨k1, s1, m1, u1, A1, l1, c1, rfl⟩ := hS.shape
  obtain ⟨bE, bF, hx0⟩ := boxE2 w #[.int .i64 k0, .string s0, .int .i64 m0, .int .i64 u0, .slice A0 l0 c0] 28 #[.int .i64 k1, .string s1, .int .i64 m1, .int .i64 u1, .slice A1 l1 c1] 28
  have hz0 := hx0.size
  have H1 := Lib.hid (normal.Implies_c a b _ B _ _ (hR.ext hx0 hB) (hS.ext hx0 hB) (by omega))
  have HRA := Lib.hid (hR.ext hx0 hB)
  have HRB := Lib.hid (hS.ext hx0 hB)
  clear hR hS
  cases hi : implE a b
  · have HV := Lib.hid (show eqvE a b = false by simp [eqvE, hi])
    rw [hi] at H1
    go_enter Try.func26, Try.ntmps26
    go_wp2_with (go_at_call 24; (with_reducible refine H1.out.mono ?_); rintro r w1 ⟨rfl, hx1⟩)
    go_ret
    exact ⟨ret_bool HV.out.symm, hx0.tr hx1⟩
  · have HV := Lib.hid (show eqvE a b = implE b a by simp [eqvE, hi])
    rw [hi] at H1
    go_enter Try.func26, Try.ntmps26
    go_wp2_with fail
    refine H1.out.mono ?_
    rintro r w1 ⟨rfl, hx1⟩
    obtain ⟨e0, e1, e2, e3, e4⟩ := (bE.ext hx1).c5
    obtain ⟨f0, f1, f2, f3, f4⟩ := (bF.ext hx1).c5
    have hz1 := hx1.size
    have H2 := Lib.hid (normal.Implies_c b a _ B _ _ (HRB.out.ext hx1 (by omega)) (HRA.out.ext hx1 (by omega)) (by omega))
    clear H1
    go_wp2_with (go_at_call 24; (with_reducible refine H2.out.mono ?_); rintro r w2 ⟨rfl, hx2⟩)
    go_ret
    exact ⟨ret_bool HV.out.symm, (hx0.tr hx1).tr hx2⟩
set_option maxHeartbeats 800000 in
theorem clusterlocksref09.Equivalent_c (a b : CL.Ex) (w : World) (B : Nat) (cs ds : List Value) (hR : Rd w B a cs) (hS : Rd w B b ds) (hB : B ≤ w.heap.size) : Calls Try.prog 27 #[.agg cs.toArray, .agg ds.toArray] w fun r w' => r = .returned (.bool (eqvR a b)) ∧ Ext w w' := by
  obtain ⟨k0, s0, m0, u0, A0, l0, c0, rfl⟩ := hR.shape
  obtain ⟨k1, s1, m1, u1, A1, l1, c1, rfl⟩ := hS.shape
  obtain ⟨bE, bF, hx0⟩ := boxE2 w #[.int .i64 k0, .string s0, .int .i64 m0, .int .i64 u0, .slice A0 l0 c0] 28 #[.int .i64 k1, .string s1, .int .i64 m1, .int .i64 u1, .slice A1 l1 c1] 28
  have hz0 := hx0.size
  have H1 := Lib.hid (clusterlocksref09.Implies_c a b _ B _ _ (hR.ext hx0 hB) (hS.ext hx0 hB) (by omega))
  have HRA := Lib.hid (hR.ext hx0 hB)
  have HRB := Lib.hid (hS.ext hx0 hB)
  clear hR hS
  cases hi : implR a b
  · have HV := Lib.hid (show eqvR a b = false by simp [eqvR, hi])
    rw [hi] at H1
    go_enter Try.func27, Try.ntmps27
    go_wp2_with (go_at_call 25; (with_reducible refine H1.out.mono ?_); rintro r w1 ⟨rfl, hx1⟩)
    go_ret
    exact ⟨ret_bool HV.out.symm, hx0.tr hx1⟩
  · have HV := Lib.hid (show eqvR a b = implR b a by simp [eqvR, hi])
    rw [hi] at H1
    go_enter Try.func27, Try.ntmps27
    go_wp2_with fail
    refine H1.out.mono ?_
    rintro r w1 ⟨rfl, hx1⟩
    obtain ⟨e0, e1, e2, e3, e4⟩ := (bE.ext hx1).c5
    obtain ⟨f0, f1, f2, f3, f4⟩ := (bF.ext hx1).c5
    have hz1 := hx1.size
    have H2 := Lib.hid (clusterlocksref09.Implies_c b a _ B _ _ (HRB.out.ext hx1 (by omega)) (HRA.out.ext hx1 (by omega)) (by omega))
    clear H1
    go_wp2_with (go_at_call 25; (with_reducible refine H2.out.mono ?_); rintro r w2 ⟨rfl, hx2⟩)
    go_ret
    exact ⟨ret_bool HV.out.symm, (hx0.tr hx1).tr hx2⟩
end Go.Proofs.Ytmolffigeobnnaa

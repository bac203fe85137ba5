
/- The walks of normal's Implies and Equivalent. -/
import Derived.Test.YtmolffigeobnnaaNd2
import Derived.Deep.DrawnRows
import Derived.Deep.RegionHeld3
namespace Go.Proofs.Ytmolffigeobnnaa
open Go.RowKit
set_option linter.unusedVariables false
set_option linter.unusedSimpArgs false
set_option maxRecDepth 100000
attribute [local go_sem ↓] Go.wp_at_zero Go.wp_at_succ
theorem trS_nil (l m : List CL.At) : trS l m [] = List.replicate m.length false := by
  apply List.ext_getElem
  · simp [trS]
  · intro i h1 h2; simp [trS]
theorem trS_none {l m : List CL.At} {zs : List Int} {i : Nat} (hi : i < l.length) (h : ixo m l[i] = none) : trS l m (zs ++ [(i : Int)]) = trS l m zs := by
  unfold trS
  apply List.map_congr_left
  intro j hj
  rw [List.any_append]
  simp [hi, h]
theorem trS_some {l m : List CL.At} {zs : List Int} {i j : Nat} (hi : i < l.length) (h : ixo m l[i] = some j) : trS l m (zs ++ [(i : Int)]) = (trS l m zs).set j true := by
  have hj := ixo_lt h
  apply List.ext_getElem
  · simp [trS]
  · intro q h1 h2
    rw [List.getElem_set]
    have hq : q < m.length := by simpa [trS] using h1
    simp only [trS, List.getElem_map, List.getElem_range, List.any_append, List.any_cons, List.any_nil, Bool.or_false, Int.toNat_natCast, List.getElem?_eq_getElem hi, h]
    split
    · rename_i e; subst e; simp
    · rename_i e; simp [e]
theorem minsE_idx {e : CL.Ex} {l : List Int} (h : l ∈ minsE e) : ∀ q (hq : q < l.length), ∃ i : Nat, i < (CL.atoms e).length ∧ l[q] = (i : Int) := by
  intro q hq
  unfold minsE at h
  split at h
  · obtain ⟨b, hb, hm, rfl⟩ := mem_minsN.1 h
    obtain ⟨i, h1, h2, h3⟩ := mem_lsOf.1 (List.getElem_mem hq)
    exact ⟨i, h1, h3⟩
  · simp at h
theorem all_step {α : Type} {p : α → Bool} {l : List α} {j : Nat} (hj : j < l.length) : (l.drop j).all p = (p l[j] && (l.drop (j + 1)).all p) := by
  rw [List.drop_eq_getElem_cons hj, List.all_cons]
theorem all_end {α : Type} {p : α → Bool} {l : List α} {j : Nat} (hj : l.length ≤ j) : (l.drop j).all p = true := by
  rw [List.drop_eq_nil_of_le hj]; rfl
theorem mins_le {e : CL.Ex} : (minsE e).length ≤ 256 := by
  unfold minsE
  split
  · rw [minsN, srt_len]
    exact Nat.le_trans (rawM_len _ _ _) (pow_le _ (atoms_len e)).1
  · simp
theorem fHolds_n (e : CL.Ex) (set : List Bool) (n : Nat) (hl : set.length = n) (hn : n ≤ 8) (S : Option Addr) (d : Nat) (w : World) (B : Nat) (cs : List Value) (hR : Rd w B e cs) (hB : B ≤ w.heap.size) (hrs : Sits w S (bls set)) :
    Calls Try.prog 48 #[.agg cs.toArray, .slice S n d] w fun r w' => r = .returned (.bool (holdsE e set)) ∧ Ext w w' := by
  subst hl; exact formula.Holds_c e set S d (by unfold maxLen; omega) w B cs hR hB hrs
theorem atIndex_n (l : List CL.At) (n : Nat) (hl : l.length = n) (hn : n ≤ 8) (a : CL.At) (A : Option Addr) (c : Nat) (w : World) (hr : Sits w A (ats l)) :
    Calls Try.prog 55 #[.slice A n c, .agg #[.string ⟨a.n.toArray⟩, .int .i64 a.a.m, .int .i64 a.a.u]] w fun r w' => r = .returned (.int .i64 (ixi l a)) ∧ Ext w w' := by
  subst hl; exact atIndex_c l a A c w (by unfold maxLen; omega) hr
set_option maxHeartbeats 6400000 in
theorem normal.Implies_c (a b : CL.Ex) (w : World) (B : Nat) (cs ds : List Value) (hR : Rd w B a cs) (hS : Rd w B b ds) (hB : B ≤ w.heap.size) : Calls Try.prog 24 #[.agg cs.toArray, .agg ds.toArray] w fun r w' => r = .returned (.bool (implE a b)) ∧ Ext w w' := by
  obtain ⟨k0, s0, m0, u0, A0, l0, c0, rfl⟩ := hR.shape
  obtain ⟨k1, s1, m1, u1, A1, l1, c1, rfl⟩ := hS.shape
  obtain ⟨bE, bF, hx0⟩ := boxE2 w #[.int .i64 k0, .string s0, .int .i64 m0, .int .i64 u0, .slice A0 l0 c0] 28 #[.int .i64 k1, .string s1, .int .i64 m1, .int .i64 u1, .slice A1 l1 c1] 28
  have hz0 := hx0.size
  have HRA := Lib.hid (hR.ext hx0 hB)
  have HRB := Lib.hid (hS.ext hx0 hB)
  clear hR hS
  go_enter Try.func24, Try.ntmps24
  go_wp2_with fail
  have hzz : ((w.alloc (.cells #[.int .i64 k0, .string s0, .int .i64 m0, .int .i64 u0, .slice A0 l0 c0] 28)).alloc (.cells #[.int .i64 k1, .string s1, .int .i64 m1, .int .i64 u1, .slice A1 l1 c1] 28)).heap.size = w.heap.size + 2 := by simp
  generalize ((w.alloc (.cells #[.int .i64 k0, .string s0, .int .i64 m0, .int .i64 u0, .slice A0 l0 c0] 28)).alloc (.cells #[.int .i64 k1, .string s1, .int .i64 m1, .int .i64 u1, .slice A1 l1 c1] 28)) = W at *
  refine (request.ValidExpr_c a W B _ HRA.out (by omega)).mono ?_
  rintro r w1 ⟨rfl, hx1⟩
  have hz1 := hx1.size
  obtain ⟨e0, e1, e2, e3, e4⟩ := (bE.ext hx1).c5
  obtain ⟨f0, f1, f2, f3, f4⟩ := (bF.ext hx1).c5
  cases hva : CL.valid a
  · have HV := Lib.hid (show implE a b = false by simp [implE, hva])
    go_wp2
    go_ret
    exact ⟨ret_bool HV.out.symm, hx0.tr hx1⟩
  · go_wp2_with fail
    refine (request.ValidExpr_c b w1 B _ (HRB.out.ext hx1 (by omega)) (by omega)).mono ?_
    rintro r w2 ⟨rfl, hx2⟩
    have hz2 := hx2.size
    have hbE := (bE.ext hx1).ext hx2
    have hbF := (bF.ext hx1).ext hx2
    have HR2 := Lib.hid ((HRA.out.ext hx1 (by omega)).ext hx2 (by omega))
    have HS2 := Lib.hid ((HRB.out.ext hx1 (by omega)).ext hx2 (by omega))
    have HX2 := Lib.hid ((hx0.tr hx1).tr hx2)
    clear e0 e1 e2 e3 e4 f0 f1 f2 f3 f4 bE bF HRA HRB
    cases hvb : CL.valid b
    · have HV := Lib.hid (show implE a b = false by simp [implE, hvb])
      go_wp2
      go_ret
      exact ⟨ret_bool HV.out.symm, HX2.out⟩
    · have HV := Lib.hid (show implE a b = (minsE a).all fun l => holdsE b (trS (CL.atoms a) (CL.atoms b) l) by simp [implE, hva, hvb])
      go_wp2_with fail
      have HCE := Lib.hid hbE.c5
      have HCF := Lib.hid hbF.c5
      obtain ⟨e0, e1, e2, e3, e4⟩ := hbE.c5
      obtain ⟨f0, f1, f2, f3, f4⟩ := hbF.c5
      have hy : Ext w2 w2.drew := Ext.drawn w2
      go_region_held3 (fun w' => (w'.cell? ⟨w.heap.size, 0, none⟩ = some (.int .i64 k0) ∧ w'.cell? ⟨w.heap.size, 1, none⟩ = some (.string s0) ∧ w'.cell? ⟨w.heap.size, 2, none⟩ = some (.int .i64 m0) ∧ w'.cell? ⟨w.heap.size, 3, none⟩ = some (.int .i64 u0) ∧ w'.cell? ⟨w.heap.size, 4, none⟩ = some (.slice A0 l0 c0)) ∧ (w'.cell? ⟨w.heap.size + 1, 0, none⟩ = some (.int .i64 k1) ∧ w'.cell? ⟨w.heap.size + 1, 1, none⟩ = some (.string s1) ∧ w'.cell? ⟨w.heap.size + 1, 2, none⟩ = some (.int .i64 m1) ∧ w'.cell? ⟨w.heap.size + 1, 3, none⟩ = some (.int .i64 u1) ∧ w'.cell? ⟨w.heap.size + 1, 4, none⟩ = some (.slice A1 l1 c1)))
        (first | go_keep | exact ⟨cells5' HCE.out hy, cells5' HCF.out hy⟩)
        (first
          | (go_at_call 46; (with_reducible refine (formula.Atoms_c a _ B _ (HR2.out.ext hy (by omega)) (by have := hy.size; omega)).mono ?_); intro r w3 hp; obtain ⟨A2, c2, rfl, hr2, hy2⟩ := hp.get; replace hy := Ext.tr hy hy2; first | (have hr3' := hr3.ext hy2) | skip)
          | (go_at_call 46; (with_reducible refine (formula.Atoms_c b _ B _ (HS2.out.ext hy (by omega)) (by have := hy.size; omega)).mono ?_); intro r w3 hp; obtain ⟨A3, c3, rfl, hr3, hy3⟩ := hp.get; replace hy := Ext.tr hy hy3; first | (have hr2' := hr2.ext hy3) | skip))
      have hnA := atoms_len a
      have hnB := atoms_len b
      have HAA := Lib.hid hr2'
      have HAB := Lib.hid hr3
      have hbE3 := hbE.ext hy
      have hbF3 := hbF.ext hy
      have hzy := hy.size
      have HR3 := Lib.hid (HR2.out.ext hy (by omega))
      have HS3 := Lib.hid (HS2.out.ext hy (by omega))
      have HX3 := Lib.hid (HX2.out.tr hy)
      clear hr2' hr3 hr2 hy2 hy3 hp hy e0 e1 e2 e3 e4 f0 f1 f2 f3 f4 HCE HCF HR2 HS2 HX2 hbE hbF
      obtain ⟨e0, e1, e2, e3, e4⟩ := hbE3.c5
      go_wp2_with fail
      refine (normal.Minimal_c a w3 B _ HR3.out (by omega)).mono ?_
      intro r w4 hp4
      obtain ⟨AM, cM, rfl, hM, hx4⟩ := hp4.mat
      have hz4 := hx4.size
      have hbF4 := hbF3.ext hx4
      have HAA4 := Lib.hid (HAA.out.ext hx4)
      have HAB4 := Lib.hid (HAB.out.ext hx4)
      have HS4 := Lib.hid (HS3.out.ext hx4 (by omega))
      have HX4 := Lib.hid (HX3.out.tr hx4)
      have HMM := Lib.hid hM
      have hml := mins_le (e := a)
      have HIX := Lib.hid (fun l (h : l ∈ minsE a) => minsE_idx h)
      clear hp4 hM hx4 HAA HAB HS3 HX3 hbF3 hbE3 e0 e1 e2 e3 e4 HR3
      generalize hLA : CL.atoms a = LA at *
      generalize hLB : CL.atoms b = LB at *
      generalize hLS : minsE a = ls at *
      have HLB := Lib.hid hLB
      clear hLA hLB hLS
      have hmk := mk_bools LB.length (by omega)
      go_wp2
      go_loopw [28] (fun i wr => ∃ j : Nat, j ≤ ls.length ∧ i = .int .i64 j ∧ Ext w4 wr ∧ Hid ((ls.all fun l => holdsE b (trS LA LB l)) = ((ls.drop j).all fun l => holdsE b (trS LA LB l)))) (fun i _ => ls.length - (intOf i).toNat)
      case atStart => exact ⟨0, by omega, rfl, Ext.rfl', Lib.hid (by simp)⟩
      case round =>
        obtain ⟨j, hj, rfl, hx, HJ⟩ := hrel
        obtain ⟨wo, rfl⟩ : ∃ wo : World, wo = wr := ⟨_, rfl⟩
        have hzo := hx.size
        by_cases hlt : j < ls.length
        · obtain ⟨b1, o1, Aj, cj, rfl, k1', hlm, sj⟩ := (HMM.out.ext hx).get hlt
          have HSTEP := Lib.hid (all_step (p := fun l => holdsE b (trS LA LB l)) hlt)
          have HIJ := Lib.hid (HIX.out _ (List.getElem_mem hlt))
          have hji : (j : Int) < (ls.length : Int) := by omega
          generalize ls[j] = l at *
          unfold maxLen at hlm
          have HAAo := Lib.hid (HAA4.out.ext hx)
          have HABo := Lib.hid (HAB4.out.ext hx)
          have hbFo := hbF4.ext hx
          have HSo := Lib.hid (HS4.out.ext hx (by omega))
          go_wp2
          have hbS := Blk.new wo 4 (bls (List.replicate LB.length false)).toArray
          have hxS := Ext.new wo (.cells (bls (List.replicate LB.length false)).toArray 4)
          have hzS : (wo.alloc (.cells (bls (List.replicate LB.length false)).toArray 4)).heap.size = wo.heap.size + 1 := by simp
          have hgw := hbS.lt
          generalize (wo.alloc (.cells (bls (List.replicate LB.length false)).toArray 4)) = w5 at *
          rw [← trS_nil LA LB] at hbS
          have HBS := Lib.hid hbS
          clear hbS
          go_loopw [37] (fun i wr => ∃ q : Nat, q ≤ l.length ∧ i = .int .i64 q ∧ Below wo.heap.size w5 wr ∧ Hid (Blk wr wo.heap.size 4 (bls (trS LA LB (l.take q))).toArray)) (fun i _ => l.length - (intOf i).toNat)
          case atStart => exact ⟨0, by omega, rfl, Below.refl _ _, Lib.hid (by simpa using HBS.out)⟩
          case round =>
            obtain ⟨q, hq, rfl, hbw, HB⟩ := hrel
            have hzr := hbw.size
            have hxo : Ext wo wr := hxS.trans hbw
            by_cases hlt2 : q < l.length
            · obtain ⟨b2, o2, rfl, k2⟩ := (sj.ext hxo).int hlt2
              obtain ⟨i, hi, ei⟩ := HIJ.out q hlt2
              have HTS := Lib.hid (show l.take (q + 1) = l.take q ++ [(i : Int)] by rw [List.take_succ_eq_append_getElem hlt2, ei])
              rw [ei] at k2
              clear ei
              obtain ⟨b3, o3, rfl, d0, d1, d2⟩ := (HAAo.out.ext hxo).atoms hi
              have hqi : (q : Int) < (l.length : Int) := by omega
              have hii : (i : Int) < (LA.length : Int) := by omega
              have HTN := Lib.hid (fun h => trS_none (l := LA) (m := LB) (zs := l.take q) hi h)
              have HTO := Lib.hid (fun jj h => trS_some (l := LA) (m := LB) (zs := l.take q) (j := jj) hi h)
              have hidx := fun W h => atIndex_n LB LB.length rfl hnB LA[i] A3 c3 W h
              generalize LA[i] = x at *
              obtain ⟨xn, xm, xu⟩ := x
              simp only at d0 d1 d2 hidx
              have HID := Lib.hid (hidx wr (HABo.out.ext hxo))
              clear hidx
              cases hix : ixo LB ⟨xn, ⟨xm, xu⟩⟩ with
              | none =>
                have hiv : ixi LB ⟨xn, ⟨xm, xu⟩⟩ = -1 := by simp [ixi, hix]
                have HT := Lib.hid (HTN.out hix)
                rw [hiv] at HID
                clear hix hiv
                go_wp2_with (go_at_call 55; (with_reducible refine HID.out.mono ?_); rintro r w' ⟨rfl, hxi⟩)
                exact ⟨⟨q + 1, by omega, by go_num, hbw.trans (hxi.mono (by omega)), Lib.hid (by rw [HTS.out, HT.out]; exact HB.out.ext hxi)⟩, by simp [intOf]; omega⟩
              | some jj =>
                have hjj := ixo_lt hix
                have hiv : ixi LB ⟨xn, ⟨xm, xu⟩⟩ = (jj : Int) := by simp [ixi, hix]
                have HT := Lib.hid (HTO.out jj hix)
                rw [hiv] at HID
                clear hix hiv
                have hjji : (jj : Int) < (LB.length : Int) := by omega
                go_wp2_with (go_at_call 55; (with_reducible refine HID.out.mono ?_); rintro r w' ⟨rfl, hxi⟩; have hb' := HB.out.ext hxi; have hzl := trS_len LA LB (l.take q); have t0 : w'.cell? ⟨wo.heap.size, jj, none⟩ = some (.bool ((trS LA LB (l.take q))[jj]'(by omega))) := (by rw [hb'.cell]; simp [bls, show jj < (trS LA LB (l.take q)).length by omega]); have z0 := hb'.frozen jj)
                have hset := hb'.set jj (.bool true)
                rw [bls_set, ← HT.out, ← HTS.out] at hset
                exact ⟨⟨q + 1, by omega, by go_num, below_only (hbw.trans (hxi.mono (by omega))) (Only.rf.set jj _) (Nat.le_refl _) (by have := hxi.size; omega), Lib.hid hset⟩, by simp [intOf]; omega⟩
            · obtain rfl : q = l.length := by omega
              have HBf := HB.out
              rw [List.take_length] at HBf
              have hzt := trS_len LA LB l
              have HTL := Lib.hid (trS_len LA LB l)
              obtain ⟨f0, f1, f2, f3, f4⟩ := (hbFo.ext hxo).c5
              have hcall := fHolds_n b (trS LA LB l) LB.length hzt hnB (some ⟨wo.heap.size, 0, none⟩) LB.length wr B _ (HSo.out.ext hxo (by omega)) (by have := hxo.size; omega) HBf.sits
              cases hh : holdsE b (trS LA LB l)
              · rw [hh] at hcall
                have HCALL := Lib.hid hcall
                have HE := Lib.hid (show implE a b = false by rw [HV.out, HJ.out, HSTEP.out, hh]; rfl)
                clear hcall hh hzt
                go_wp2_with (go_at_call 48; (with_reducible refine HCALL.out.mono ?_); rintro r w' ⟨rfl, hxi⟩)
                go_ret
                exact ⟨ret_bool HE.out.symm, (HX4.out.tr hx).tr (hxo.tr hxi)⟩
              · rw [hh] at hcall
                have HCALL := Lib.hid hcall
                have HE := Lib.hid (HJ.out.trans (by rw [HSTEP.out, hh, Bool.true_and] : _ = _))
                clear hcall hh hzt
                go_wp2_with (go_at_call 48; (with_reducible refine HCALL.out.mono ?_); rintro r w' ⟨rfl, hxi⟩)
                exact ⟨⟨j + 1, by omega, by go_num, hx.tr (hxo.tr hxi), HE⟩, by simp [intOf]; omega⟩
        · have HE := Lib.hid (show implE a b = true by rw [HV.out, HJ.out, all_end (by omega)])
          go_wp2
          go_ret
          exact ⟨ret_bool HE.out.symm, HX4.out.tr hx⟩
end Go.Proofs.Ytmolffigeobnnaa

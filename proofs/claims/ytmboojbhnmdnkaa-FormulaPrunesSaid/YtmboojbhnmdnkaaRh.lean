
/- The walks of the reference of chapter 8: Prune. -/
import Derived.Test.YtmboojbhnmdnkaaRg
namespace Go.Proofs.Ytmboojbhnmdnkaa
open Go.RowKit
set_option linter.unusedVariables false
set_option maxHeartbeats 3200000 in
theorem clusterlocksref08.Prune_c (e : CL.Ex) (set : List Bool) (S : Option Addr) (d : Nat) (hs : set.length ≤ maxLen) (w : World) (B : Nat) (cs : List Value) (hR : Rd w B e cs) (hB : B ≤ w.heap.size) (hrs : Sits w S (bls set)) :
    Calls Try.prog 26 #[.agg cs.toArray, .slice S set.length d] w (OwnBls (prn e set) w) := by
  obtain ⟨k, s, m, u, A1, l1, c1, rfl⟩ := hR.shape
  obtain ⟨bE, hx0⟩ := box1 w #[.int .i64 k, .string s, .int .i64 m, .int .i64 u, .slice A1 l1 c1] 28
  have hz0 := hx0.size
  have hl8 := atoms_len e
  unfold maxLen at hs
  have HAT := Lib.hid (clusterlocksref07.Atoms_c e _ B _ (hR.ext hx0 hB) (by omega))
  have HV := Lib.hid (fun (h : CL.valid e = false) => atoms_nil h)
  have HNE := Lib.hid (fun (h : CL.valid e = true) => atoms_ne h)
  have HPR := Lib.hid (show prn e set = if CL.valid e = true ∧ ev (hasA (CL.atoms e) set) e = true then pgo (fun s => ev (hasA (CL.atoms e) s) e) (CL.atoms e).length (takeOf (CL.atoms e).length set) else List.replicate (CL.atoms e).length false from rfl)
  have HAT2 := Lib.hid (show ∀ r w', RAts e (w.alloc (.cells #[.int .i64 k, .string s, .int .i64 m, .int .i64 u, .slice A1 l1 c1] 28)) r w' → ∃ A c, r = .returned (.tuple #[.slice A (CL.atoms e).length c, .bool (CL.valid e)]) ∧ Sits w' A (ats (CL.atoms e)) ∧ Ext (w.alloc (.cells #[.int .i64 k, .string s, .int .i64 m, .int .i64 u, .slice A1 l1 c1] 28)) w' from fun r w' hp => hp.get)
  generalize CL.atoms e = L0 at *
  have hmk := mk_bools L0.length (by omega)
  cases hv : CL.valid e
  · obtain rfl := HV.out hv
    have hmk0 : ∀ W : World, (Instr.makeSlice 33 (.int .i64 0) (.int .i64 0)).run Try.prog W = .ok (.slice (some ⟨W.heap.size, 0, none⟩) 0 0) (W.alloc (.cells #[] 4)) := mk_bools 0 (by decide)
    clear hmk
    have HP := Lib.hid (show prn e set = [] by rw [HPR.out, hv]; simp)
    go_enter Try.func26, Try.ntmps26
    go_wp2_with (go_at_call 34; (with_reducible refine HAT.out.mono ?_); intro r w' hp; obtain ⟨A2, c2, rfl, hr2, hx⟩ := HAT2.out _ _ hp)
    go_ret
    rw [HP.out]
    exact ⟨w'.heap.size, rfl, Blk.new _ _ _, by have := hx.size; omega, (hx0.tr hx).tr (Ext.new _ _)⟩
  · have hn : 0 < L0.length := List.length_pos_iff.2 (HNE.out hv)
    have HVV := Lib.hid hv
    clear HV HNE
    cases hev : ev (hasA L0 set) e
    · have HP := Lib.hid (show prn e set = List.replicate L0.length false by rw [HPR.out, hv, hev]; simp)
      go_enter Try.func26, Try.ntmps26
      go_wp2_with (first
        | (go_at_call 34; (with_reducible refine HAT.out.mono ?_); intro r w' hp; obtain ⟨A2, c2, rfl, hr2, hx⟩ := HAT2.out _ _ hp; obtain ⟨e0, e1, e2, e3, e4⟩ := ((bE.ext hx).alloc (.cells (bls (List.replicate L0.length false)).toArray 4)).c5; have hz1 := hx.size; have hx2 := Ext.tr hx (Ext.new w' (.cells (bls (List.replicate L0.length false)).toArray 4)))
        | (go_at_call 36; (with_reducible refine (rholds_c L0 set _ S _ d (by unfold maxLen; omega) (by unfold maxLen; omega) e HVV.out _ B _ ((hR.ext hx0 hB).ext hx2 (by omega)) (by simp; omega) (hr2.ext (Ext.new _ _)) ((hrs.ext hx0).ext hx2)).mono ?_); rintro r w'' ⟨rfl, hx1⟩))
      go_ret
      rw [HP.out]
      refine ⟨w'.heap.size, by simp, (Blk.new w' _ _).ext hx1, by omega, hx0.tr (Ext.tr hx2 hx1)⟩
    · have HP := Lib.hid (show prn e set = pgo (fun s => ev (hasA L0 s) e) L0.length (takeOf L0.length set) by rw [HPR.out, hv, hev]; simp)
      go_enter Try.func26, Try.ntmps26
      go_wp2_with (first
        | (go_at_call 34; (with_reducible refine HAT.out.mono ?_); intro r w' hp; obtain ⟨A2, c2, rfl, hr2, hx⟩ := HAT2.out _ _ hp; obtain ⟨e0, e1, e2, e3, e4⟩ := ((bE.ext hx).alloc (.cells (bls (List.replicate L0.length false)).toArray 4)).c5; have hz1 := hx.size; have hx2 := Ext.tr hx (Ext.new w' (.cells (bls (List.replicate L0.length false)).toArray 4)))
        | (go_at_call 36; (with_reducible refine (rholds_c L0 set _ S _ d (by unfold maxLen; omega) (by unfold maxLen; omega) e HVV.out _ B _ ((hR.ext hx0 hB).ext hx2 (by omega)) (by simp; omega) (hr2.ext (Ext.new _ _)) ((hrs.ext hx0).ext hx2)).mono ?_); rintro r w3 ⟨rfl, hx1⟩))
      have hgE := (bE.ext hx).lt
      have hbE := bE.ext hx
      have hRw := (hR.ext hx0 hB).ext hx (by omega)
      have hr2w := SitsB.of hr2
      have hrsw := SitsB.of ((hrs.ext hx0).ext hx)
      have hbw : Below w'.heap.size w' w3 := (Below.trans (Ext.new w' (.cells (bls (List.replicate L0.length false)).toArray 4)) (hx1.mono (by simp)))
      have hw3 : Blk w3 w'.heap.size 4 (bls (List.replicate L0.length false)).toArray := (Blk.new w' _ _).ext hx1
      have hxw : Ext w w' := hx0.tr hx
      have hBg : B ≤ w'.heap.size := by omega
      have htl := takeOf_len L0.length set
      clear hx1 hx2 hx hx0 bE e0 e1 e2 e3 e4 HAT HAT2 hmk hev hr2 hrs hz1 hv
      have hxz := hxw.size
      generalize hG : w'.heap.size = g at *
      have HH := Lib.hid (show ∀ (W : World) (c : Nat) (L : List Bool), L.length = L0.length → Below g w' W → Blk W g 4 (bls L).toArray → Calls Try.prog 36 #[.agg #[.int .i64 k, .string s, .int .i64 m, .int .i64 u, .slice A1 l1 c1], .slice A2 L0.length c, .slice (some ⟨g, 0, none⟩) L0.length L0.length] W fun r w' => r = .returned (.bool (ev (hasA L0 L) e)) ∧ Ext W w' by
        intro W c L hL hb hB2
        have h := rholds_c L0 L A2 (some ⟨g, 0, none⟩) c L0.length (by unfold maxLen; omega) (by unfold maxLen; omega) e HVV.out W B _ (hRw.kept (hb.mono hBg)) (by have := hb.size; omega) (hr2w.below hb).sits hB2.sits
        rw [hL] at h
        exact h)
      generalize hn2 : L0.length = n at *
      have HTL := Lib.hid htl
      clear htl hG hn2
      go_loopw [8] (fun i wr => ∃ (j : Nat) (L : List Bool), j ≤ n ∧ i = .int .i64 j ∧ Below g w' wr ∧ Blk wr g 4 (bls L).toArray ∧ Hid (Filled (fun i => set.getD i false) L n j)) (fun i _ => n - (intOf i).toNat)
      case atStart => exact ⟨0, _, by omega, rfl, hbw, hw3, Filled.zero _ _⟩
      case round =>
        obtain ⟨j, L, hj, rfl, ho, hb, HF⟩ := hrel
        have hL1 : L.length ≤ n := by rw [HF.out.1]; exact Nat.le_refl _
        have hL2 : n ≤ L.length := by rw [HF.out.1]; exact Nat.le_refl _
        have hsz := ho.size
        by_cases hlt : j < n
        · have hbs := hb.set j (.bool (set.getD j false))
          rw [bls_set] at hbs
          have s0 : wr.cell? ⟨g, j, none⟩ = some (.bool (L[j]'(by omega))) := by rw [hb.cell]; simp [bls, show j < L.length by omega]
          have z0 := hb.frozen j
          have hji : (j : Int) < (n : Int) := by omega
          by_cases hd : j < set.length
          · have hgd : set.getD j false = set[j] := by simp [List.getD, hd]
            rw [hgd] at hbs
            obtain ⟨b, o, rfl, hc2⟩ := (hrsw.below ho).sits.bool hd
            have HF2 := Lib.hid HF.out.step
            rw [hgd] at HF2
            clear hgd
            go_wp2
            exact ⟨⟨j + 1, _, by omega, by go_num, ho.setCell (p := ⟨g, j, none⟩) (Nat.le_refl _) _, hbs, HF2⟩, by simp [intOf]; omega⟩
          · have hgd : set.getD j false = false := by simp [List.getD, List.getElem?_eq_none (show set.length ≤ j by omega)]
            rw [hgd] at hbs
            have HF2 := Lib.hid HF.out.step
            rw [hgd] at HF2
            clear hgd
            go_wp2
            exact ⟨⟨j + 1, _, by omega, by go_num, ho.setCell (p := ⟨g, j, none⟩) (Nat.le_refl _) _, hbs, HF2⟩, by simp [intOf]; omega⟩
        · have hL := HF.out.done (by omega)
          have hL' : L = takeOf n set := hL
          subst hL'
          clear hL HF hL1 hL2
          go_wp2
          go_loopw [9] (fun i wr => ∃ (j : Nat) (z : Int) (L : List Bool), j ≤ n ∧ z = (j : Int) - 1 ∧ i = .int .i64 z ∧ L.length = n ∧ Below g w' wr ∧ Blk wr g 4 (bls L).toArray ∧ Hid (pgo (fun s => ev (hasA L0 s) e) n (takeOf n set) = pgo (fun s => ev (hasA L0 s) e) j L)) (fun i _ => (intOf i + 1).toNat)
          case atStart => exact ⟨n, _, _, by omega, rfl, rfl, HTL.out, ho, hb, Lib.hid rfl⟩
          case round =>
            obtain ⟨j, z, L, hj, hz, rfl, hL, hbl, hbk, HL⟩ := hrel
            have hszr := hbl.size
            have hgw2 := hbk.lt
            have hL1 : L.length ≤ n := by omega
            have hL2 : n ≤ L.length := by omega
            have HLn := Lib.hid hL
            clear hL
            rcases Nat.eq_zero_or_pos j with hj0 | hj0
            · obtain rfl : z = -1 := by omega
              subst hj0
              clear hz
              go_wp2
              go_ret
              rw [HP.out, HL.out]
              refine ⟨g, by rw [pgo_len, HLn.out]; rfl, hbk, by omega, ?_⟩
              exact hxw.trans (hbl.mono (by omega))
            · obtain ⟨q, rfl⟩ : ∃ q, j = q + 1 := ⟨j - 1, by omega⟩
              obtain rfl : z = (q : Int) := by omega
              clear hz
              have hql : q < L.length := by omega
              have s0 : wr.cell? ⟨g, q, none⟩ = some (.bool L[q]) := by rw [hbk.cell]; simp [bls, hql]
              have z0 := hbk.frozen q
              have hqi : (q : Int) < (n : Int) := by omega
              cases hlq : L[q]
              · have HF := Lib.hid (pgo_f (f := fun s => ev (hasA L0 s) e) hql hlq)
                rw [hlq] at s0
                go_wp2
                exact ⟨⟨q, _, L, by omega, rfl, rfl, HLn.out, hbl, hbk, Lib.hid (HL.out.trans HF.out)⟩, by simp [intOf]⟩
              · have HB := Lib.hid (set_back hql hlq)
                have HT := Lib.hid (fun h => pgo_t (f := fun s => ev (hasA L0 s) e) hql hlq h)
                have HB2 := Lib.hid (fun h => pgo_b (f := fun s => ev (hasA L0 s) e) (q := q) (L := L) h)
                rw [hlq] at s0
                have hb1 := hbk.set q (.bool false)
                rw [bls_set] at hb1
                have hbl1 := hbl.setCell (p := ⟨g, q, none⟩) (Nat.le_refl _) (.bool false)
                obtain ⟨e0, e1, e2, e3, e4⟩ := (hbE.below hbl1 (by omega)).c5
                have hsf : (L.set q false).set q false = L.set q false := by rw [List.set_set]
                have HSF := Lib.hid hsf
                clear hlq hsf
                cases hev : ev (hasA L0 (L.set q false)) e
                all_goals
                  go_wp2_with (go_at_call 36; (with_reducible refine (HH.out _ _ (L.set q false) (by simp [HLn.out]) hbl1 hb1).mono ?_); rintro r w4 ⟨rfl, hx1⟩; have s1 : w4.cell? ⟨g, q, none⟩ = some (.bool false) := hx1.cell (by rw [hb1.cell]; simp [bls, hql]); have z1 := (hb1.ext hx1).frozen q)
                  first
                    | exact ⟨⟨q, _, L.set q false, by omega, rfl, rfl, by simp [HLn.out], (hbl1.trans (hx1.mono (by simp; omega))).setCell (p := ⟨g, q, none⟩) (Nat.le_refl _) _, by have := (hb1.ext hx1).set q (.bool false); rw [bls_set, HSF.out] at this; exact this, Lib.hid (HL.out.trans (HT.out hev))⟩, by simp [intOf]⟩
                    | exact ⟨⟨q, _, L, by omega, rfl, rfl, HLn.out, (hbl1.trans (hx1.mono (by simp; omega))).setCell (p := ⟨g, q, none⟩) (Nat.le_refl _) _, by have := (hb1.ext hx1).set q (.bool true); rw [bls_set, HB.out] at this; exact this, Lib.hid (HL.out.trans (HB2.out hev))⟩, by simp [intOf]⟩
end Go.Proofs.Ytmboojbhnmdnkaa

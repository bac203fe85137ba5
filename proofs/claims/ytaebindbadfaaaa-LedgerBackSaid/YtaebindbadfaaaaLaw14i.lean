
/- Ledger: the walk of LedgerBack. -/
import Derived.Test.YtaebindbadfaaaaLaw14h
import Derived.Test.YtaebindbadfaaaaRc
import Derived.Laws.Cover1
namespace Go.Proofs.Ytaebindbadfaaaa
open Go.RowKit
set_option linter.unusedVariables false
set_option linter.unusedSimpArgs false
theorem cnt_back {x y : CL.Lg} {lb : Int} (h : CL.und y lb = (x, CL.says x.es (y.es.drop x.es.length), 0)) : CL.cnt y lb = (y.es.length : Int) - (x.es.length : Int) := by
  unfold CL.cnt
  rw [h]
  simp
set_option maxHeartbeats 12800000 in
set_option maxRecDepth 100000 in
theorem LedgerBack_w (l : List Int) (A : Option Addr) (c : Nat) (m : List Int) (M : Option Addr) (d : Nat) (lb : Int) (w : World) (hl : l.length ≤ maxLen) (hr : Sits w A (ints l)) (hm : m.length ≤ maxLen) (hrm : Sits w M (ints m)) :
    Calls Try.prog 7 #[.slice A l.length c, .slice M m.length d, .int .i64 lb] w fun r w' => r = .returned (.bool true) ∧ Ext w w' := by
  have LX := Lib.hid (fun W => clusterlocksmill.Light_c l A c W)
  have LM := Lib.hid (fun W => clusterlocksmill.Light_c m M d W)
  by_cases h300 : l.length ≤ 300
  · rw [decide_eq_true h300] at LX
    by_cases m300 : m.length ≤ 300
    · rw [decide_eq_true m300] at LM
      have MX := Lib.hid (fun W (h : Ext w W) => made_k l A c w W hl hr h)
      have hv := CL.mde_valid l
      have hf := fine_of hv
      have SX := Lib.hid (fun W v (h : LgV W v (CL.mde l)) => ledger.Save_c (CL.mde l) lb v W h hf)
      generalize CL.mde l = q at *
      by_cases hs : (CL.sav q lb).2 = 0
      · have HBL := Lib.hid (fun y hp hy => CL.back_law (x := q) (y := y) (lb := lb) hs hp hy)
        have hv1 := CL.sav_valid hs
        have hf1 := fine_of hv1
        generalize CL.sav q lb = s at *
        obtain ⟨x1, s2⟩ := s
        simp only at hs hv1 hf1 HBL
        subst hs
        clear hv hf
        go_enter Try.func7, Try.ntmps7
        go_wp2_with (first
          | (go_at_call 28; (with_reducible refine (LX.out _).mono ?_); rintro r w2 ⟨rfl, rfl⟩)
          | (go_at_call 28; (with_reducible refine (LM.out _).mono ?_); rintro r w2 ⟨rfl, rfl⟩)
          | (go_at_call 34; (with_reducible refine (MX.out _ Ext.rfl').mono ?_); rintro r w3 ⟨v3, rfl, l3, hx3⟩; (obtain ⟨A3, c3, B3, d3, rfl⟩ := l3.lits))
          | (go_at_call 20; (with_reducible refine (SX.out _ _ l3.view).mono ?_); rintro r w4 ⟨v4, rfl, lx, hx4⟩; (obtain ⟨A4, c4, B4, d4, rfl⟩ := lx.lits); (have bX := Blk.new w4 31 #[.slice A4 x1.es.length c4, .slice B4 x1.ss.length d4]); (have hx4n := Ext.new w4 (.cells #[.slice A4 x1.es.length c4, .slice B4 x1.ss.length d4] 31)); (have hx4w := hx3.tr (show Ext _ w4 from hx4)); (replace hx4 := hx4w.tr hx4n); (replace lx := lx.ext hx4n); (obtain ⟨x0, x0'⟩ := bX.c2))
          | go_in)
        have bX2 := bX.alloc (.cells #[.slice A4 x1.es.length c4, .slice B4 x1.ss.length d4] 31)
        have bY := Blk.new (w4.alloc (.cells #[.slice A4 x1.es.length c4, .slice B4 x1.ss.length d4] 31)) 31 #[.slice A4 x1.es.length c4, .slice B4 x1.ss.length d4]
        rw [World.size_alloc] at bY
        have hxn := Ext.new (w4.alloc (.cells #[.slice A4 x1.es.length c4, .slice B4 x1.ss.length d4] 31)) (.cells #[.slice A4 x1.es.length c4, .slice B4 x1.ss.length d4] 31)
        replace lx := lx.ext hxn
        have hx := Ext.tr hx4 hxn
        have h4w : w.heap.size ≤ w4.heap.size := hx4w.size
        clear bX hx4 hx4n hxn x0 x0' l3 hx3
        generalize ((w4.alloc (.cells #[.slice A4 x1.es.length c4, .slice B4 x1.ss.length d4] 31)).alloc (.cells #[.slice A4 x1.es.length c4, .slice B4 x1.ss.length d4] 31)) = W at *
        have HV1 := Lib.hid hv1
        clear hv1
        go_loopw [10] (fun i wr => ∃ (j : Nat) (A2 : Option Addr) (c2 : Nat) (B2 : Option Addr) (d2 : Nat) (n2 m2 : Nat), j ≤ m.length ∧ i = .int .i64 j ∧ Blk wr w4.heap.size 31 #[.slice A4 x1.es.length c4, .slice B4 x1.ss.length d4] ∧ Blk wr (w4.heap.size + 1) 31 #[.slice A2 n2 c2, .slice B2 m2 d2] ∧ Hid (LgOwn wr 0 (.agg #[.slice A4 x1.es.length c4, .slice B4 x1.ss.length d4]) x1) ∧ Hid (LgOwn wr 0 (.agg #[.slice A2 n2 c2, .slice B2 m2 d2]) (CL.mdl x1 (m.take j))) ∧ Ext w wr) (fun i _ => m.length - (intOf i).toNat)
        case atStart => exact ⟨0, A4, c4, B4, d4, _, _, by omega, rfl, bX2, bY, Lib.hid lx, Lib.hid lx, hx⟩
        case round =>
          clear bX2 bY lx hx
          obtain ⟨j, A2, c2, B2, d2, n2, m2, hj, rfl, bX, bY, HLX, HLY, hx⟩ := hrel
          obtain ⟨y0, y1⟩ := bY.c2
          by_cases hlt : j < m.length
          · obtain ⟨b, o, rfl, hc⟩ := (hrm.ext hx).get (by rw [ints_len]; omega)
            have dk := hc j _ (ints_get hlt)
            have hst := Lib.hid (CL.mdl_step (x := x1) hlt)
            have hvj := CL.mdl_valid HV1.out (m.take j)
            generalize m[j] = k at *
            have MO := fun W v (h : LgOwn W 0 v (CL.mdl x1 (m.take j))) => more_c (CL.mdl x1 (m.take j)) k v W h hvj
            rw [← hst.out] at MO
            replace MO := Lib.hid MO
            have hlti : (j : Int) < (m.length : Int) := by omega
            clear hc
            go_wp2_with fail
            go_region_law
              (first
                | (go_simp; go_at_call 30; refine (MO.out _ _ (HLY.out.ext (Ext.drawn _))).mono ?_; rintro r w2 ⟨v2, rfl, hl2, hx2⟩; (have hxe : Ext wr w2 := Ext.tr (Ext.drawn _) hx2); (obtain ⟨A7, c7, B7, d7, rfl⟩ := hl2.lits); (have bY2 := bY.ext hxe); (obtain ⟨s0', s1'⟩ := bY2.c2); (have f0 := bY2.frozen 0); (have f1 := bY2.frozen 1)))
            all_goals
              have hon := (Only.rf (g := w4.heap.size + 1) (w := w2)).set2 (.slice A7 (CL.mdl x1 (m.take (j + 1))).es.length c7) (.slice B7 (CL.mdl x1 (m.take (j + 1))).ss.length d7)
              have hl3 := Lib.hid (hl2.only bY2 hon (by decide) (by decide))
              have hlx3 := Lib.hid ((HLX.out.ext hxe).only bY2 hon (by decide) (by decide))
              have bY3 := bY2.set2 (.slice A7 (CL.mdl x1 (m.take (j + 1))).es.length c7) (.slice B7 (CL.mdl x1 (m.take (j + 1))).ss.length d7)
              have bX3 := (bX.ext hxe).only hon (by omega)
              have hx3 : Ext w _ := ((hx.tr hxe).setCell (p := ⟨w4.heap.size + 1, 0, none⟩) (by simp only; omega) (.slice A7 (CL.mdl x1 (m.take (j + 1))).es.length c7)).setCell (p := ⟨w4.heap.size + 1, 1, none⟩) (by simp only; omega) (.slice B7 (CL.mdl x1 (m.take (j + 1))).ss.length d7)
              go_wp2_with fail
              exact ⟨⟨j + 1, A7, c7, B7, d7, _, _, by omega, by go_num, bX3, bY3, hlx3, hl3, hx3⟩, by simp [intOf]; omega⟩
          · obtain rfl : j = m.length := by omega
            have lx := HLX.out.view
            have ly := HLY.out.view
            rw [List.take_length] at ly
            have hvY := CL.mdl_valid HV1.out m
            obtain ⟨hu, hle, hne⟩ := HBL.out _ (CL.mdl_pre x1 m) hvY
            have hfY := fine_of hvY
            generalize CL.mdl x1 m = Y at *
            have UX := fun W v (h : LgV W v Y) => ledger.Undo_c Y lb v W h hfY
            rw [hu] at UX
            unfold UndoPost at UX
            have CX := fun W v (h : LgV W v Y) => ledger.Count_c Y lb v W h hfY
            rw [cnt_back hu] at CX
            replace CX := Lib.hid CX
            have SM := fun W v1 v2 (h1 : LgV W v1 x1) (h2 : LgV W v2 x1) => Same14_c x1 x1 v1 v2 W ⟨by have := hf1.1; omega, by have := hf1.2.1; omega⟩ ⟨by have := hf1.1; omega, by have := hf1.2.1; omega⟩ h1 h2
            simp only [decide_true] at SM
            replace SM := Lib.hid SM
            have RX := Lib.hid (fun t W A c B d (h : LgV W (.agg #[.slice A x1.es.length c, .slice B x1.ss.length d]) x1) => RHeld_v x1 t _ W A c h ⟨_, _, rfl⟩ hf1)
            have RY := Lib.hid (fun t W A c B d (h : LgV W (.agg #[.slice A Y.es.length c, .slice B Y.ss.length d]) Y) => RHeld_v Y t _ W A c h ⟨_, _, rfl⟩ hfY)
            have hya : n2 = Y.es.length ∧ m2 = Y.ss.length := by
              obtain ⟨_, _, _, _, e, _⟩ := ly
              simp only [Value.agg.injEq, Array.mk.injEq, List.cons.injEq, Value.slice.injEq, and_true] at e
              exact ⟨e.1.2.1, e.2.2.1⟩
            obtain ⟨rfl, rfl⟩ := hya
            have hY1 := hfY.1
            have hsub : IntKind.i64.wrap ((Y.es.length : Int) - (x1.es.length : Int)) = (Y.es.length : Int) - (x1.es.length : Int) := IntWalk.i64_in _ (by omega)
            have hdl : (CL.says x1.es (Y.es.drop x1.es.length)).length ≤ (Y.es.drop x1.es.length).length := by rw [CL.says, List.length_map, CL.snm_len]; exact CL.dn_le _
            have hasc := CL.snm_asc (Y.es.drop x1.es.length)
            have hsay : CL.says x1.es (Y.es.drop x1.es.length) = (CL.snm (Y.es.drop x1.es.length)).map (fun s => ⟨s, CL.held x1.es s⟩) := rfl
            rw [hsay] at UX hdl
            rw [List.length_map] at hdl
            generalize CL.snm (Y.es.drop x1.es.length) = D at *
            have hdl2 : D.length ≤ 100 := by rw [List.length_drop] at hdl; omega
            replace hasc := Lib.hid hasc
            replace hne := Lib.hid hne
            clear hu hsay hdl HBL SX MX LX LM HLX HLY
            dsimp only at UX
            simp only [List.length_map] at UX
            replace UX := Lib.hid UX
            go_wp2_with (first
              | (go_at_call 23; (with_reducible refine (UX.out _ _ ly).mono ?_); rintro r w5 ⟨v5, E5, e5, rfl, l5, S5, _, hx5⟩; (obtain ⟨A5, c5, B5, d5, rfl⟩ := l5.litV); (have b5 := Blk.new w5 31 #[.slice A5 x1.es.length c5, .slice B5 x1.ss.length d5]); (have hx5n := Ext.new w5 (.cells #[.slice A5 x1.es.length c5, .slice B5 x1.ss.length d5] 31)); (replace hx5 := (show Ext _ w5 from hx5).tr hx5n); (replace l5 := l5.ext hx5n); (replace S5 := S5.ext hx5n); (replace bX := bX.ext hx5); (replace bY := bY.ext hx5); (replace lx := lx.ext hx5); (replace ly := ly.ext hx5); (replace hx := hx.tr hx5))
              | go_in)
            obtain ⟨z0, z1⟩ := b5.c2
            obtain ⟨x0, x1'⟩ := bX.c2
            obtain ⟨y0, y1⟩ := bY.c2
            generalize (w5.alloc (.cells #[.slice A5 x1.es.length c5, .slice B5 x1.ss.length d5] 31)) = w6 at *
            have r0 := ExtOf.cell z0
            have r1 := ExtOf.cell z1
            have r2 := ExtOf.cell x0
            have r3 := ExtOf.cell x1'
            have r4 := ExtOf.cell y0
            have r5 := ExtOf.cell y1
            refine wp_region_ext_lit (by kernel_rfl) (Rc.lexB_of (by kernel_rfl)) ?_
            repeat (go_big_quiet_step (first
              | (go_at_call 12; exact xqX (awake14_c _))
              | (go_at_call 22; exact xqX (SM.out _ _ _ (l5.ext (ExtOf.ext _)) (lx.ext (ExtOf.ext _))))
              | (go_at_call 26; exact xqX (CX.out _ _ (ly.ext (ExtOf.ext _))))))
            refine wpQuiet_nil ?_
            intro wq hw'
            obtain ⟨⟨wq', hxq⟩, hw''⟩ := hw'
            subst hw''
            replace bX := bX.ext hxq
            replace bY := bY.ext hxq
            replace lx := lx.ext hxq
            replace ly := ly.ext hxq
            replace S5 := S5.ext hxq
            replace hx := hx.tr hxq
            clear r0 r1 r2 r3 r4 r5 z0 z1 x0 x1' y0 y1 b5 l5 CX SM UX hxq
            go_wp2_with fail
            go_loopw [14] (fun i wr => ∃ j : Nat, j ≤ D.length ∧ i = .int .i64 j ∧ Ext wq wr) (fun i _ => D.length - (intOf i).toNat)
            case atStart => exact ⟨0, by omega, rfl, Ext.rfl'⟩
            case round =>
              obtain ⟨j, hj, rfl, hyy⟩ := hrel
              by_cases hlt : j < D.length
              · have hlt2 : j < (D.map fun s => (⟨s, CL.held x1.es s⟩ : CL.At)).length := by rw [List.length_map]; exact hlt
                have hS := S5.ext hyy
                obtain ⟨b, o, rfl, a0, a1, a2⟩ := hS.atoms hlt2
                simp only [List.getElem_map] at a0 a1 a2
                have hdn := hne.out D[j] (List.getElem_mem hlt)
                obtain ⟨x0, _⟩ := (bX.ext hyy).c2
                obtain ⟨y0, _⟩ := (bY.ext hyy).c2
                have lxy := lx.ext hyy
                have lyy := ly.ext hyy
                have HX := RX.out D[j]
                have HY := RY.out D[j]
                have e0 := ExtOf.cell a0
                have e1 := ExtOf.cell a1
                have e2 := ExtOf.cell a2
                have e3 := ExtOf.cell x0
                have e4 := ExtOf.cell y0
                have hgd := am_guard
                rcases Nat.eq_zero_or_pos j with h0 | h0
                · have hlti : (j : Int) < (D.length : Int) := by omega
                  have hj0 : (decide ((0 : Int) < (j : Int))) = false := decide_eq_false (by omega)
                  have hj1 : (decide (0 < j)) = false := decide_eq_false (by omega)
                  clear h0
                  generalize D[j] = s at *
                  generalize CL.held x1.es s = am1 at *
                  generalize CL.held Y.es s = am2 at *
                  have hq1 := am_neq am1.m am1.u am1.m am1.u
                  rw [decide_eq_true ⟨rfl, rfl⟩] at hq1
                  have hq2 := am_eql am1.m am1.u am2.m am2.u
                  rw [decide_eq_false (fun h => hdn (by cases am1; cases am2; simp only at h; rw [h.1, h.2]))] at hq2
                  replace HX := Lib.hid HX
                  replace HY := Lib.hid HY
                  clear RX RY hdn
                  go_wp2_with fail
                  refine wp_region_ext_lit (by kernel_rfl) (Rc.lexB_of (by kernel_rfl)) ?_
                  repeat (go_big_quiet_step (first
                    | (go_at_call 35; with_reducible exact xqX (HX.out _ _ _ _ _ (lxy.ext (ExtOf.ext _))))
                    | (go_at_call 35; with_reducible exact xqX (HY.out _ _ _ _ _ (lyy.ext (ExtOf.ext _))))))
                  refine wpQuiet_nil ?_
                  intro wz hw'
                  obtain ⟨⟨wz', hxz⟩, hw''⟩ := hw'
                  subst hw''
                  go_wp2
                  exact ⟨⟨j + 1, by omega, by go_num, hyy.tr hxz⟩, by simp [intOf]; omega⟩
                · obtain ⟨k, rfl⟩ : ∃ k, j = k + 1 := ⟨j - 1, by omega⟩
                  have hlk : k < (D.map fun s => (⟨s, CL.held x1.es s⟩ : CL.At)).length := by rw [List.length_map]; omega
                  obtain ⟨b', o', hbo, d0, _, _⟩ := hS.atoms hlk
                  injection hbo with hbo
                  injection hbo with hb1 hb2
                  subst hb1 hb2
                  simp only [List.getElem_map] at d0
                  have hbl : Go.Op.bytesLess D[k] D[k + 1] = true := List.pairwise_iff_getElem.1 hasc.out _ _ _ _ (by omega)
                  have e5 := ExtOf.cell d0
                  have hlti : (k : Int) + 1 < (D.length : Int) := by omega
                  have hltk : (k : Int) < (D.length : Int) := by omega
                  have g1 : ((k : Int) + 1).toNat = k + 1 := by omega
                  have g4 : 0 ≤ (k : Int) + 1 := by omega
                  have g5 : IntKind.i64.wrap ((k : Int) + 1 - 1) = (k : Int) := by rw [IntWalk.i64_in _ (by omega)]; omega
                  have g6 : (decide ((0 : Int) < (k : Int) + 1)) = true := decide_eq_true (by omega)
                  generalize D[k + 1] = s at *
                  generalize D[k] = s' at *
                  generalize CL.held x1.es s = am1 at *
                  generalize CL.held Y.es s = am2 at *
                  have hq1 := am_neq am1.m am1.u am1.m am1.u
                  rw [decide_eq_true ⟨rfl, rfl⟩] at hq1
                  have hq2 := am_eql am1.m am1.u am2.m am2.u
                  rw [decide_eq_false (fun h => hdn (by cases am1; cases am2; simp only at h; rw [h.1, h.2]))] at hq2
                  replace HX := Lib.hid HX
                  replace HY := Lib.hid HY
                  clear RX RY hdn
                  go_wp2_with fail
                  refine wp_region_ext_lit (by kernel_rfl) (Rc.lexB_of (by kernel_rfl)) ?_
                  repeat (go_big_quiet_step (first
                    | (go_at_call 35; with_reducible exact xqX (HX.out _ _ _ _ _ (lxy.ext (ExtOf.ext _))))
                    | (go_at_call 35; with_reducible exact xqX (HY.out _ _ _ _ _ (lyy.ext (ExtOf.ext _))))))
                  refine wpQuiet_nil ?_
                  intro wz hw'
                  obtain ⟨⟨wz', hxz⟩, hw''⟩ := hw'
                  subst hw''
                  go_wp2
                  exact ⟨⟨k + 1 + 1, by omega, by go_num, hyy.tr hxz⟩, by simp [intOf]; omega⟩
              · go_wp2
                go_ret
                exact ⟨rfl, hx.tr hyy⟩
      · have hno := CL.sav_no hs
        generalize CL.sav q lb = s at *
        obtain ⟨x1, s2⟩ := s
        simp only at hs hno
        subst hno
        have hs' : (s2 != 0) = true := by simpa using hs
        clear hs
        go_enter Try.func7, Try.ntmps7
        go_wp2_with (first
          | (go_at_call 28; (with_reducible refine (LX.out _).mono ?_); rintro r w2 ⟨rfl, rfl⟩)
          | (go_at_call 28; (with_reducible refine (LM.out _).mono ?_); rintro r w2 ⟨rfl, rfl⟩)
          | (go_at_call 34; (with_reducible refine (MX.out _ Ext.rfl').mono ?_); rintro r w3 ⟨v3, rfl, l3, hx3⟩; (obtain ⟨A3, c3, B3, d3, rfl⟩ := l3.lits))
          | (go_at_call 20; (with_reducible refine (SX.out _ _ l3.view).mono ?_); rintro r w4 ⟨v4, rfl, lx, hx4⟩; (obtain ⟨A4, c4, B4, d4, rfl⟩ := lx.lits); (simp only [show CL.noLg.es.length = 0 from rfl, show CL.noLg.ss.length = 0 from rfl]); (have bX := Blk.new w4 31 #[.slice A4 0 c4, .slice B4 0 d4]); (have hx4n := Ext.new w4 (.cells #[.slice A4 0 c4, .slice B4 0 d4] 31)); (replace hx4 := (hx3.tr (show Ext _ w4 from hx4)).tr hx4n))
          | (go_at_call 12; (with_reducible refine (awake14_c _).mono ?_); rintro r w6 ⟨rfl, hx6⟩; (replace hx4 := hx4.tr hx6); (obtain ⟨x0, x0'⟩ := (bX.ext hx6).c2))
          | go_in)
        go_ret
        exact ⟨by first | rfl | simp, hx4⟩
    · rw [decide_eq_false m300] at LM
      go_enter Try.func7, Try.ntmps7
      go_wp2_with (first
        | (go_at_call 28; (with_reducible refine (LX.out _).mono ?_); rintro r w2 ⟨rfl, rfl⟩)
        | (go_at_call 28; (with_reducible refine (LM.out _).mono ?_); rintro r w2 ⟨rfl, rfl⟩)
        | (go_at_call 12; (with_reducible refine (awake14_c _).mono ?_); rintro r w6 ⟨rfl, hx6⟩))
      go_ret
      exact ⟨rfl, hx6⟩
  · rw [decide_eq_false h300] at LX
    go_enter Try.func7, Try.ntmps7
    go_wp2_with (first
      | (go_at_call 28; (with_reducible refine (LX.out _).mono ?_); rintro r w2 ⟨rfl, rfl⟩)
      | (go_at_call 12; (with_reducible refine (awake14_c _).mono ?_); rintro r w6 ⟨rfl, hx6⟩))
    go_ret
    exact ⟨rfl, hx6⟩
end Go.Proofs.Ytaebindbadfaaaa

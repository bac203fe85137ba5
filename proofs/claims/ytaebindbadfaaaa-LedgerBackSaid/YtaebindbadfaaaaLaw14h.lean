
/- Ledger: the walk of LedgerForgets. -/
import Derived.Test.YtaebindbadfaaaaLmd
import Derived.Test.YtaebindbadfaaaaLx14
import Derived.Test.YtaebindbadfaaaaLda
import Derived.Test.YtaebindbadfaaaaLma
import Derived.Test.YtaebindbadfaaaaRc
namespace Go.Proofs.Ytaebindbadfaaaa
open Go.RowKit
set_option linter.unusedVariables false
set_option linter.unusedSimpArgs false
def NM : List (List UInt8) := [[97], [98], [99], [112], [113]]
theorem NM_len {i : Nat} (h : i < NM.length) : NM[i].length = 1 := by
  have : ∀ s ∈ NM, s.length = 1 := by decide
  exact this _ (List.getElem_mem h)
theorem fine_und {x : CL.Lg} (h : Fine x) (lb : Int) : Fine (CL.und x lb).1 := by
  obtain ⟨h1, h2, h3⟩ := h
  unfold CL.und
  split
  · split
    · exact ⟨by simp [CL.noLg], by simp [CL.noLg], by simp [CL.noLg]⟩
    · rename_i p _
      refine ⟨?_, ?_, fun e he => h3 e (List.take_subset _ _ he)⟩
      · simp [CL.cutL, List.length_take]; omega
      · simp [CL.cutL, List.length_take]; omega
  · exact ⟨by simp [CL.noLg], by simp [CL.noLg], by simp [CL.noLg]⟩
theorem drp_held {x : CL.Lg} {s : List UInt8} (hv : CL.lval x = true) (h : (CL.drp x s).2 = false) : CL.held x.es s = ⟨0, 0⟩ := by
  have h1 := CL.drp_no hv h
  refine CL.held_out fun e he hn => ?_
  rw [← h1] at he
  have := (List.mem_filter.1 he).2
  simp [hn] at this
theorem made_k (l : List Int) (A : Option Addr) (c : Nat) (w w' : World) (hl : l.length ≤ maxLen) (hr : Sits w A (ints l)) (hx : Ext w w') :
    Calls Try.prog 34 #[.slice A l.length c] w' fun r w'' => ∃ v', r = .returned v' ∧ LgOwn w'' 0 v' (CL.mde l) ∧ Ext w' w'' := made_c l A c w' hl (hr.ext hx)
theorem LgV.litV {w : World} {v : Value} {x : CL.Lg} (h : LgV w v x) : ∃ A c A' c', v = .agg #[.slice A x.es.length c, .slice A' x.ss.length c'] := by
  obtain ⟨A, c, A', c', rfl, _⟩ := h; exact ⟨A, c, A', c', rfl⟩
theorem RHeld_v (q : CL.Lg) (t : List UInt8) (v : Value) (W : World) (A : Option Addr) (c : Nat) (h : LgV W v q) (he : ∃ B d, v = .agg #[.slice A q.es.length c, .slice B q.ss.length d]) (hf : Fine q) :
    Calls Try.prog 35 #[.slice A q.es.length c, .string ⟨t.toArray⟩] W fun r w' => r = .returned (.agg #[.int .i64 (CL.held q.es t).m, .int .i64 (CL.held q.es t).u]) ∧ Ext W w' := by
  obtain ⟨A0, c0, B0, d0, e, h1, _⟩ := h
  obtain ⟨B, d, rfl⟩ := he
  simp only [Value.agg.injEq, Array.mk.injEq, List.cons.injEq, Value.slice.injEq, and_true, true_and] at e
  obtain ⟨⟨rfl, rfl⟩, _⟩ := e
  exact clusterlocksref14.Held_c q.es t A c W (by have := hf.1; unfold maxLen; omega) h1
set_option maxHeartbeats 12800000 in
set_option maxRecDepth 100000 in
theorem LedgerForgets_w (l : List Int) (A : Option Addr) (c : Nat) (which lb : Int) (w : World) (hl : l.length ≤ maxLen) (hr : Sits w A (ints l)) :
    Calls Try.prog 11 #[.slice A l.length c, .int .i64 which, .int .i64 lb] w fun r w' => r = .returned (.bool true) ∧ Ext w w' := by
  have LX := Lib.hid (fun W => clusterlocksmill.Light_c l A c W)
  by_cases h300 : l.length ≤ 300
  · rw [decide_eq_true h300] at LX
    have MX := Lib.hid (fun W (h : Ext w W) => made_k l A c w W hl hr h)
    have hv := CL.mde_valid l
    have hf := fine_of hv
    have q1 : which.tmod 5 < 5 := Int.tmod_lt_of_pos which (by omega)
    have q2 : -5 < which.tmod 5 := Int.lt_tmod_of_pos which (by omega)
    have DX := fun W => clusterlocksmill.Mod_c which 5 W (by omega) (by omega)
    obtain ⟨k, hk⟩ : ∃ k : Nat, (if which.tmod 5 < 0 then which.tmod 5 + 5 else which.tmod 5) = (k : Int) := ⟨(if which.tmod 5 < 0 then which.tmod 5 + 5 else which.tmod 5).toNat, by split <;> omega⟩
    have hk5 : k < 5 := by split at hk <;> omega
    rw [hk] at DX
    replace DX := Lib.hid DX
    clear hk q1 q2
    generalize CL.mde l = q at *
    go_enter Try.func11, Try.ntmps11
    go_wp2_with (first
      | (go_at_call 28; (with_reducible refine (LX.out _).mono ?_); rintro r w2 ⟨rfl, rfl⟩)
      | (go_at_call 34; (with_reducible refine (MX.out _ Ext.rfl').mono ?_); rintro r w3 ⟨v3, rfl, hl3, hx3⟩; (obtain ⟨A3, c3, B3, d3, rfl⟩ := hl3.lits)))
    have bX := (Blk.new w3 31 #[.slice A3 q.es.length c3, .slice B3 q.ss.length d3]).alloc (.cells (strs NM).toArray 9)
    have hxn := (Ext.new w3 (.cells #[.slice A3 q.es.length c3, .slice B3 q.ss.length d3] 31)).tr (Ext.new _ (.cells (strs NM).toArray 9))
    have sN := Sits.new (w3.alloc (.cells #[.slice A3 q.es.length c3, .slice B3 q.ss.length d3] 31)) (strs NM) 9
    rw [World.size_alloc] at sN
    have lx := hl3.view.ext hxn
    have hx := Ext.tr hx3 hxn
    have h3w := hx3.size
    change Sits ((w3.alloc (.cells #[.slice A3 q.es.length c3, .slice B3 q.ss.length d3] 31)).alloc (.cells #[.string ⟨#[97]⟩, .string ⟨#[98]⟩, .string ⟨#[99]⟩, .string ⟨#[112]⟩, .string ⟨#[113]⟩] 9)) _ _ at sN
    change LgV ((w3.alloc (.cells #[.slice A3 q.es.length c3, .slice B3 q.ss.length d3] 31)).alloc (.cells #[.string ⟨#[97]⟩, .string ⟨#[98]⟩, .string ⟨#[99]⟩, .string ⟨#[112]⟩, .string ⟨#[113]⟩] 9)) _ _ at lx
    change Ext w ((w3.alloc (.cells #[.slice A3 q.es.length c3, .slice B3 q.ss.length d3] 31)).alloc (.cells #[.string ⟨#[97]⟩, .string ⟨#[98]⟩, .string ⟨#[99]⟩, .string ⟨#[112]⟩, .string ⟨#[113]⟩] 9)) at hx
    change Blk ((w3.alloc (.cells #[.slice A3 q.es.length c3, .slice B3 q.ss.length d3] 31)).alloc (.cells #[.string ⟨#[97]⟩, .string ⟨#[98]⟩, .string ⟨#[99]⟩, .string ⟨#[112]⟩, .string ⟨#[113]⟩] 9)) _ _ _ at bX
    clear hxn hl3 hx3
    generalize ((w3.alloc (.cells #[.slice A3 q.es.length c3, .slice B3 q.ss.length d3] 31)).alloc (.cells #[.string ⟨#[97]⟩, .string ⟨#[98]⟩, .string ⟨#[99]⟩, .string ⟨#[112]⟩, .string ⟨#[113]⟩] 9)) = W at *
    have hkl : k < NM.length := hk5
    obtain ⟨bn, on, hbo, dk⟩ := sN.strs hkl
    injection hbo with hbo
    injection hbo with hb1 hb2
    subst hb1 hb2
    rw [Nat.zero_add] at dk
    have hsl := NM_len hkl
    generalize NM[k] = s at *
    have hki : (k : Int) < 5 := by omega
    obtain ⟨x0, x1⟩ := bX.c2
    have PX := Lib.hid (fun W v (h : LgV W v q) => ledger.Drop_c q s v W h hf (by unfold maxLen; omega))
    have hslm : s.length ≤ maxLen := by unfold maxLen; omega
    have hgd := am_guard
    cases hd : (CL.drp q s).2
    · have hh := drp_held hv hd
      have HX := fun W (h : LgV W (.agg #[.slice A3 q.es.length c3, .slice B3 q.ss.length d3]) q) => RHeld_v q s _ W A3 c3 h ⟨_, _, rfl⟩ hf
      rw [hh] at HX
      replace HX := Lib.hid HX
      generalize CL.drp q s = y at *
      obtain ⟨y1, y2⟩ := y
      simp only at hd
      subst hd
      have hq := am_eql 0 0 0 0
      rw [decide_eq_true ⟨rfl, rfl⟩] at hq
      go_wp2_with (first
        | (go_at_call 29; (with_reducible refine (DX.out _).mono ?_); rintro r w2 ⟨rfl, rfl⟩)
        | (go_at_call 39; (with_reducible refine (PX.out _ _ lx).mono ?_); rintro r w4 ⟨v4, rfl, l4, hx4⟩; (obtain ⟨A4, c4, B4, d4, rfl⟩ := l4.lits); (have b4 := Blk.new w4 31 #[.slice A4 y1.es.length c4, .slice B4 y1.ss.length d4]); (have hx4n := Ext.new w4 (.cells #[.slice A4 y1.es.length c4, .slice B4 y1.ss.length d4] 31)); (replace hx4 := (show Ext _ w4 from hx4).tr hx4n); (replace l4 := l4.ext hx4n); (replace bX := bX.ext hx4); (replace lx := lx.ext hx4); (replace hx := hx.tr hx4))
        | (go_at_call 12; (with_reducible refine (awake14_c _).mono ?_); rintro r w5 ⟨rfl, hx5⟩; (replace bX := bX.ext hx5); (replace lx := lx.ext hx5); (replace hx := hx.tr hx5); (obtain ⟨x0, x1⟩ := bX.c2))
        | (go_at_call 35; (with_reducible refine (HX.out _ lx).mono ?_); rintro r w6 ⟨rfl, hx6⟩; (replace hx := hx.tr hx6))
        | go_in)
      go_ret
      exact ⟨by first | rfl | simp, hx⟩
    · have hv2 := CL.drp_valid hd
      obtain ⟨g1, g2, g3, g4⟩ := CL.forget_law (lb := lb) hd
      have hfu := fine_und hf lb
      have hf2 := fine_of hv2
      have hfv := fine_und hf2 lb
      have VX := fun W v (h : LgV W v (CL.drp q s).1) => clusterlocksref14.Valid_c (CL.drp q s).1 v W h hf2
      rw [hv2] at VX
      replace VX := Lib.hid VX
      have UX := Lib.hid (fun W v (h : LgV W v q) => ledger.Undo_c q lb v W h hf)
      have UY := Lib.hid (fun W v (h : LgV W v (CL.drp q s).1) => ledger.Undo_c (CL.drp q s).1 lb v W h hf2)
      have HYx := Lib.hid (fun t ht W v (h : LgV W v (CL.drp q s).1) => ledger.Held_c (CL.drp q s).1 t v W h hf2 ht)
      have HVx := Lib.hid (fun t ht W v (h : LgV W v (CL.und (CL.drp q s).1 lb).1) => ledger.Held_c (CL.und (CL.drp q s).1 lb).1 t v W h hfv ht)
      have RX := Lib.hid (fun t W A c B d (h : LgV W (.agg #[.slice A q.es.length c, .slice B q.ss.length d]) q) => RHeld_v q t _ W A c h ⟨_, _, rfl⟩ hf)
      have RU := Lib.hid (fun t W A c B d (h : LgV W (.agg #[.slice A (CL.und q lb).1.es.length c, .slice B (CL.und q lb).1.ss.length d]) (CL.und q lb).1) => RHeld_v (CL.und q lb).1 t _ W A c h ⟨_, _, rfl⟩ hfu)
      unfold UndoPost at UX UY
      clear hv2 hf2 hfu hfv
      generalize CL.und (CL.drp q s).1 lb = z at *
      generalize CL.und q lb = u at *
      generalize CL.drp q s = y at *
      obtain ⟨y1, y2⟩ := y
      obtain ⟨u1, u2, u3⟩ := u
      obtain ⟨z1, z2, z3⟩ := z
      simp only at hd g1 g2 g3 g4
      subst hd g1
      have g2' : ((q.ss.length : Int) != (y1.ss.length : Int)) = false := by simp [g2]
      replace g3 := Lib.hid g3
      replace g4 := Lib.hid g4
      clear g2
      go_wp2_with (first
        | (go_at_call 29; (with_reducible refine (DX.out _).mono ?_); rintro r w2 ⟨rfl, rfl⟩)
        | (go_at_call 39; (with_reducible refine (PX.out _ _ lx).mono ?_); rintro r w4 ⟨v4, rfl, l4, hx4⟩; (obtain ⟨A4, c4, B4, d4, rfl⟩ := l4.lits); (replace l4 := l4.view); (have b4 := Blk.new w4 31 #[.slice A4 y1.es.length c4, .slice B4 y1.ss.length d4]); (have hx4n := Ext.new w4 (.cells #[.slice A4 y1.es.length c4, .slice B4 y1.ss.length d4] 31)); (replace hx4 := (show Ext _ w4 from hx4).tr hx4n); (replace l4 := l4.ext hx4n); (replace bX := bX.ext hx4); (replace lx := lx.ext hx4); (replace sN := sN.ext hx4); (replace hx := hx.tr hx4); (obtain ⟨x0, x1⟩ := bX.c2))
        | (go_at_call 23; (with_reducible refine (UX.out _ _ lx).mono ?_); rintro r w5 ⟨v5, E5, e5, rfl, l5, _, _, hx5⟩; (obtain ⟨A5, c5, B5, d5, rfl⟩ := l5.litV); (have b5 := Blk.new w5 31 #[.slice A5 u1.es.length c5, .slice B5 u1.ss.length d5]); (have hx5n := Ext.new w5 (.cells #[.slice A5 u1.es.length c5, .slice B5 u1.ss.length d5] 31)); (replace hx5 := (show Ext _ w5 from hx5).tr hx5n); (replace l5 := l5.ext hx5n); (replace bX := bX.ext hx5); (replace b4 := b4.ext hx5); (replace lx := lx.ext hx5); (replace sN := sN.ext hx5); (replace l4 := l4.ext hx5); (replace hx := hx.tr hx5); (obtain ⟨y0, y1'⟩ := b4.c2))
        | (go_at_call 23; (with_reducible refine (UY.out _ _ l4).mono ?_); rintro r w6 ⟨v6, E6, e6, rfl, l6, _, _, hx6⟩; (obtain ⟨A6, c6, B6, d6, rfl⟩ := l6.litV); (have b6 := Blk.new w6 31 #[.slice A6 z1.es.length c6, .slice B6 z1.ss.length d6]); (have hx6n := Ext.new w6 (.cells #[.slice A6 z1.es.length c6, .slice B6 z1.ss.length d6] 31)); (replace hx6 := (show Ext _ w6 from hx6).tr hx6n); (replace l6 := l6.ext hx6n); (replace bX := bX.ext hx6); (replace b4 := b4.ext hx6); (replace b5 := b5.ext hx6); (replace lx := lx.ext hx6); (replace sN := sN.ext hx6); (replace l4 := l4.ext hx6); (replace l5 := l5.ext hx6); (replace hx := hx.tr hx6))
        | (go_at_call 12; (with_reducible refine (awake14_c _).mono ?_); rintro r w7 ⟨rfl, hx7⟩; (replace bX := bX.ext hx7); (replace b4 := b4.ext hx7); (replace b5 := b5.ext hx7); (replace b6 := b6.ext hx7); (replace lx := lx.ext hx7); (replace sN := sN.ext hx7); (replace l4 := l4.ext hx7); (replace l5 := l5.ext hx7); (replace l6 := l6.ext hx7); (replace hx := hx.tr hx7); (obtain ⟨y0, y1'⟩ := b4.c2))
        | (go_at_call 33; (with_reducible refine (VX.out _ _ l4).mono ?_); rintro r w8 ⟨rfl, hx8⟩; (replace bX := bX.ext hx8); (replace b4 := b4.ext hx8); (replace b5 := b5.ext hx8); (replace b6 := b6.ext hx8); (replace lx := lx.ext hx8); (replace sN := sN.ext hx8); (replace l4 := l4.ext hx8); (replace l5 := l5.ext hx8); (replace l6 := l6.ext hx8); (replace hx := hx.tr hx8); (obtain ⟨x0, x1⟩ := bX.c2); (obtain ⟨y0, y1'⟩ := b4.c2))
        | go_in)
      clear UX UY VX PX MX LX DX
      go_loopw [18] (fun i wr => ∃ j : Nat, j ≤ 5 ∧ i = .int .i64 j ∧ Ext w8 wr) (fun i _ => 5 - (intOf i).toNat)
      case atStart => exact ⟨0, by omega, rfl, Ext.rfl'⟩
      case round =>
        obtain ⟨j, hj, rfl, hyy⟩ := hrel
        by_cases hlt : j < 5
        · have hjl : j < NM.length := hlt
          obtain ⟨bn, on, hbo, dj⟩ := (sN.ext hyy).strs hjl
          injection hbo with hbo
          injection hbo with hb1 hb2
          subst hb1 hb2
          rw [Nat.zero_add] at dj
          have htl := NM_len hjl
          generalize NM[j] = t at *
          have htm : t.length ≤ maxLen := by unfold maxLen; omega
          have hji : (j : Int) < 5 := by omega
          by_cases hts : t = s
          · subst hts
            have ha := g3.out t
            have hb := g4.out t
            rw [if_pos rfl] at ha hb
            have HY := HYx.out t htm
            have HZ := HVx.out t htm
            (try simp only at HY HZ)
            rw [ha] at HY
            rw [hb] at HZ
            replace HY := Lib.hid HY
            replace HZ := Lib.hid HZ
            have hq := am_neq 0 0 0 0
            rw [decide_eq_true ⟨rfl, rfl⟩] at hq
            have l4y := l4.ext hyy
            have l6y := l6.ext hyy
            obtain ⟨y0, y1'⟩ := (b4.ext hyy).c2
            clear RX RU HYx HVx ha hb
            go_wp2_with (first
              | (go_at_call 31; (with_reducible refine (HY.out _ _ l4y).mono ?_); rintro r w9 ⟨rfl, hx9⟩; (replace hyy := hyy.tr hx9); (replace l6y := l6y.ext hx9); (obtain ⟨z0, z1'⟩ := (b6.ext hyy).c2))
              | (go_at_call 31; (with_reducible refine (HZ.out _ _ l6y).mono ?_); rintro r w10 ⟨rfl, hx10⟩; (replace hyy := hyy.tr hx10))
              | go_in)
            exact ⟨⟨j + 1, by omega, by go_num, hyy⟩, by simp [intOf]; omega⟩
          · have hnq : (t == s) = false := beq_eq_false_iff_ne.2 hts
            have ha := g3.out t
            have hb := g4.out t
            rw [if_neg hts] at ha hb
            have HY := HYx.out t htm
            have HZ := HVx.out t htm
            have HX := RX.out t
            have HU := RU.out t
            (try simp only at HY HZ HU)
            rw [ha] at HY
            rw [hb] at HZ
            clear RX RU HYx HVx ha hb
            generalize CL.held q.es t = am1 at *
            generalize CL.held u1.es t = am2 at *
            replace HY := Lib.hid HY
            replace HZ := Lib.hid HZ
            replace HX := Lib.hid HX
            replace HU := Lib.hid HU
            have hq1 := am_neq am1.m am1.u am1.m am1.u
            rw [decide_eq_true ⟨rfl, rfl⟩] at hq1
            have hq2 := am_neq am2.m am2.u am2.m am2.u
            rw [decide_eq_true ⟨rfl, rfl⟩] at hq2
            obtain ⟨y0, y1'⟩ := (b4.ext hyy).c2
            obtain ⟨z0, z1'⟩ := (b6.ext hyy).c2
            obtain ⟨x0', _⟩ := (bX.ext hyy).c2
            obtain ⟨u0, _⟩ := (b5.ext hyy).c2
            have l4y := l4.ext hyy
            have l6y := l6.ext hyy
            have lxy := lx.ext hyy
            have l5y := l5.ext hyy
            go_wp2_with fail
            have e0 := ExtOf.cell y0
            have e1 := ExtOf.cell y1'
            have e2 := ExtOf.cell z0
            have e3 := ExtOf.cell z1'
            have e4 := ExtOf.cell x0'
            have e5 := ExtOf.cell u0
            have e6 := ExtOf.cell dj
            refine wp_region_ext_lit (by kernel_rfl) (Rc.lexB_of (by kernel_rfl)) ?_
            repeat (go_big_quiet_step (first
              | (go_at_call 31; with_reducible exact xqX (HY.out _ _ (l4y.ext (ExtOf.ext _))))
              | (go_at_call 31; with_reducible exact xqX (HZ.out _ _ (l6y.ext (ExtOf.ext _))))
              | (go_at_call 35; with_reducible exact xqX (HX.out _ _ _ _ _ (lxy.ext (ExtOf.ext _))))
              | (go_at_call 35; with_reducible exact xqX (HU.out _ _ _ _ _ (l5y.ext (ExtOf.ext _))))))
            refine wpQuiet_nil ?_
            intro wq hw'
            obtain ⟨⟨wq', hxq⟩, hw''⟩ := hw'
            subst hw''
            go_wp2
            exact ⟨⟨j + 1, by omega, by go_num, hyy.tr hxq⟩, by simp [intOf]; omega⟩
        · obtain rfl : j = 5 := by omega
          go_wp2
          go_ret
          exact ⟨rfl, hx.tr hyy⟩
  · rw [decide_eq_false h300] at LX
    go_enter Try.func11, Try.ntmps11
    go_wp2_with (first
      | (go_at_call 28; (with_reducible refine (LX.out _).mono ?_); rintro r w2 ⟨rfl, rfl⟩)
      | (go_at_call 12; (with_reducible refine (awake14_c _).mono ?_); rintro r w6 ⟨rfl, hx6⟩))
    go_ret
    exact ⟨rfl, hx6⟩
end Go.Proofs.Ytaebindbadfaaaa

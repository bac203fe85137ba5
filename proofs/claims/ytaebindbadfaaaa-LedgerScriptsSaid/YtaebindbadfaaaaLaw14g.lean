
/- Ledger: the walk of LedgerScripts. -/
import Derived.Test.YtaebindbadfaaaaLmd
import Derived.Test.YtaebindbadfaaaaLx14
import Derived.Test.YtaebindbadfaaaaLma
namespace Go.Proofs.Ytaebindbadfaaaa
open Go.RowKit
set_option linter.unusedVariables false
set_option linter.unusedSimpArgs false
theorem mdm_idem (n : Int) : CL.mdm (CL.mdm n) = CL.mdm n := by
  obtain ⟨h0, h1⟩ := CL.mdm_lt n
  generalize CL.mdm n = N at *
  unfold CL.mdm
  rw [Int.tmod_eq_of_lt h0 h1, if_neg (by omega)]
theorem rcd_held {x : CL.Lg} {n a b : _} (h : (CL.rcd x ⟨n, a, b⟩).2 = 0) : CL.held (CL.rcd x ⟨n, a, b⟩).1.es n = b := by
  obtain ⟨_, h2, _⟩ := CL.rcd_ok h
  rw [h2, CL.held_snoc]; simp
set_option maxHeartbeats 25600000 in
set_option maxRecDepth 100000 in
theorem LedgerScripts_w (l : List Int) (A : Option Addr) (c : Nat) (w : World) (hl : l.length ≤ maxLen) (hr : Sits w A (ints l)) :
    Calls Try.prog 6 #[.slice A l.length c] w fun r w' => r = .returned (.bool true) ∧ Ext w w' := by
  have LX := Lib.hid (fun W => clusterlocksmill.Light_c l A c W)
  by_cases h300 : l.length ≤ 300
  · rw [decide_eq_true h300] at LX
    go_enter Try.func6, Try.ntmps6
    go_wp2_with (go_at_call 28; (with_reducible refine (LX.out _).mono ?_); rintro r w2 ⟨rfl, rfl⟩)
    obtain ⟨bX, bY, hx0⟩ := two_rows w #[.slice none 0 0, .slice none 0 0] 31 #[.slice none 0 0, .slice none 0 0] 31
    have hz := hx0.size
    have bXl := bX.lt
    have bYl := bY.lt
    generalize ((w.alloc (.cells #[.slice none 0 0, .slice none 0 0] 31)).alloc (.cells #[.slice none 0 0, .slice none 0 0] 31)) = W at *
    go_loopw [5] (fun i wr => ∃ (j : Nat) (A1 : Option Addr) (c1 : Nat) (B1 : Option Addr) (d1 : Nat) (n1 m1 : Nat) (A2 : Option Addr) (c2 : Nat) (B2 : Option Addr) (d2 : Nat) (n2 m2 : Nat), j ≤ l.length ∧ i = .int .i64 j ∧ Blk wr w.heap.size 31 #[.slice A1 n1 c1, .slice B1 m1 d1] ∧ Blk wr (w.heap.size + 1) 31 #[.slice A2 n2 c2, .slice B2 m2 d2] ∧ Hid (LgOwn wr 0 (.agg #[.slice A1 n1 c1, .slice B1 m1 d1]) (CL.mde (l.take j))) ∧ Hid (LgOwn wr 0 (.agg #[.slice A2 n2 c2, .slice B2 m2 d2]) (CL.mde (l.take j))) ∧ Ext w wr) (fun i _ => l.length - (intOf i).toNat)
    case atStart => exact ⟨0, none, 0, none, 0, 0, 0, none, 0, none, 0, 0, 0, by omega, rfl, bX, bY, Lib.hid (LgOwn.zero _), Lib.hid (LgOwn.zero _), hx0⟩
    case round =>
      clear bX bY
      obtain ⟨j, A1, c1, B1, d1, n1, m1, A2, c2, B2, d2, n2, m2, hj, rfl, bX, bY, HLX, HLY, hx⟩ := hrel
      obtain ⟨x0, x1⟩ := bX.c2
      obtain ⟨y0, y1⟩ := bY.c2
      have f0 := bY.frozen 0
      have f1 := bY.frozen 1
      by_cases hlt : j < l.length
      · obtain ⟨b, o, rfl, hc⟩ := (hr.ext hx).get (by rw [ints_len]; omega)
        have dk := hc j _ (ints_get hlt)
        have hst := Lib.hid (CL.mde_step hlt)
        have hv := CL.mde_valid (l.take j)
        generalize l[j] = k at *
        have lx := HLX.out
        have ly := HLY.out
        obtain ⟨N0, N1⟩ := CL.mdm_lt k
        have MX := Lib.hid (fun W => clusterlocksmill.Mod_c k 1048576 W (by omega) (by omega))
        rw [show (if k.tmod 1048576 < 0 then k.tmod 1048576 + 1048576 else k.tmod 1048576) = CL.mdm k from rfl] at MX
        have hid := mdm_idem k
        generalize CL.mde (l.take j) = q at *
        generalize CL.mdm k = N at *
        have MO := fun W v (h : LgOwn W 0 v q) => more_c q N v W h hv
        rw [hid] at MO
        replace MO := Lib.hid MO
        have hv1 := CL.mre_valid hv N
        have hf := fine_of hv
        have hf1 := fine_of hv1
        have hen := (CL.lval_get hv).1.1
        obtain ⟨t0, t1⟩ := tmod_in (m := 5) N0 (by omega)
        obtain ⟨q0, q1⟩ := tdiv_in (m := 7) N0 N1 (by omega)
        obtain ⟨r0, r1⟩ := tmod_in (m := 9) q0 (by omega)
        obtain ⟨p0, p1⟩ := tdiv_in (m := 5) N0 N1 (by omega)
        have hw1 : IntKind.i64.wrap (N.tdiv 7) = N.tdiv 7 := IntWalk.i64_in _ (by omega)
        have hw2 : IntKind.i64.wrap (1 + (N.tdiv 7) % 9) = 1 + (N.tdiv 7) % 9 := IntWalk.i64_in _ (by omega)
        have hw3 : IntKind.i64.wrap (N.tdiv 5) = N.tdiv 5 := IntWalk.i64_in _ (by omega)
        have hlti : (j : Int) < (l.length : Int) := by omega
        have hF7 := Lib.hid (fun h7 : N.tmod 7 = 0 => (show CL.mre q N = if (CL.sav q (1 + (N.tdiv 7).tmod 9)).2 = 0 then (CL.sav q (1 + (N.tdiv 7).tmod 9)).1 else q by unfold CL.mre; rw [if_pos h7]))
        have hFN := Lib.hid (fun h7 : ¬ N.tmod 7 = 0 => (show CL.mre q N = if (CL.rcd q (CL.enOf q N)).2 = 0 then (CL.rcd q (CL.enOf q N)).1 else q by unfold CL.mre; rw [if_neg h7]))
        have VX := fun W v (h : LgV W v (CL.mre q N)) => clusterlocksref14.Valid_c (CL.mre q N) v W h hf1
        rw [hv1] at VX
        replace VX := Lib.hid VX
        have h641 := CL.lval_len hv1
        have h41 := hf1.2.1
        have SX := fun W v1 v2 (h1 : LgV W v1 (CL.mre q N)) (h2 : LgV W v2 (CL.mre q N)) => Same14_c (CL.mre q N) (CL.mre q N) v1 v2 W ⟨by omega, by omega⟩ ⟨by omega, by omega⟩ h1 h2
        simp only [decide_true] at SX
        replace SX := Lib.hid SX
        generalize CL.mre q N = qn at *
        clear hc HLX HLY h641 h41 hid
        by_cases h7 : N.tmod 7 = 0
        · have HF := hF7.out h7
          rw [Int.tmod_eq_emod_of_nonneg q0] at HF
          have VS := Lib.hid (fun W v (h : LgV W v q) => ledger.Save_c q (1 + (N.tdiv 7) % 9) v W h hf)
          generalize CL.sav q (1 + (N.tdiv 7) % 9) = s at *
          obtain ⟨s1, s2⟩ := s
          replace HF := Lib.hid HF
          go_wp2_with (first
            | (go_at_call 29; (with_reducible refine (MX.out _).mono ?_); rintro r w2 ⟨rfl, rfl⟩)
            | (go_at_call 30; (with_reducible refine (MO.out _ _ ly).mono ?_); rintro r w2 ⟨v2, rfl, ly2, hx2⟩; (obtain ⟨A3, c3, B3, d3, rfl⟩ := ly2.lits); (replace bX := bX.ext hx2); (replace bY := bY.ext hx2); (replace lx := lx.ext hx2); (obtain ⟨x0, x1⟩ := bX.c2); (obtain ⟨y0, y1⟩ := bY.c2); (have f0 := bY.frozen 0); (have f1 := bY.frozen 1); (have bXl2 := bX.lt)))
          have hon := (Only.rf (g := w.heap.size + 1) (w := w2)).set2 (.slice A3 qn.es.length c3) (.slice B3 qn.ss.length d3)
          replace ly := ly2.only bY hon (by decide) (by decide)
          replace lx := lx.only bY hon (by decide) (by decide)
          replace bX := bX.only hon (by omega)
          replace bY := bY.set2 (.slice A3 qn.es.length c3) (.slice B3 qn.ss.length d3)
          replace hx : Ext w _ := ((hx.tr hx2).setCell (p := ⟨w.heap.size + 1, 0, none⟩) (by simp only; omega) (.slice A3 qn.es.length c3)).setCell (p := ⟨w.heap.size + 1, 1, none⟩) (by simp only; omega) (.slice B3 qn.ss.length d3)
          clear hon ly2 hx2 x0 x1 y0 y1 f0 f1
          generalize (w2.setCell ⟨w.heap.size + 1, 0, none⟩ (.slice A3 qn.es.length c3)).setCell ⟨w.heap.size + 1, 1, none⟩ (.slice B3 qn.ss.length d3) = w3 at *
          obtain ⟨x0, x1⟩ := bX.c2
          have bXl3 := bX.lt
          replace HF := HF.out
          by_cases hs2 : s2 = 0
          · rw [if_pos hs2] at HF
            (try simp only at HF)
            subst HF
            subst hs2
            go_wp2_with (first
              | (go_at_call 20; (with_reducible refine (VS.out _ _ lx.view).mono ?_); rintro r w6 ⟨v6, rfl, lz, hx6⟩; (obtain ⟨A6, c6, B6, d6, rfl⟩ := lz.lits); (have bZ := Blk.new w6 31 #[.slice A6 qn.es.length c6, .slice B6 qn.ss.length d6]); (have hx6n := Ext.new w6 (.cells #[.slice A6 qn.es.length c6, .slice B6 qn.ss.length d6] 31)); (replace hx6 := (show Ext _ w6 from hx6).tr hx6n); (replace lz := lz.ext hx6n); (replace bX := bX.ext hx6); (replace bY := bY.ext hx6); (replace ly := ly.ext hx6); (replace hx := hx.tr hx6); (obtain ⟨x0, x1⟩ := bX.c2); (obtain ⟨y0, y1⟩ := bY.c2); (obtain ⟨z0, z1⟩ := bZ.c2); (have m0 := bX.frozen 0); (have m1 := bX.frozen 1)))
            have hon := (Only.rf (g := w.heap.size) (w := w6.alloc (.cells #[.slice A6 qn.es.length c6, .slice B6 qn.ss.length d6] 31))).set2 (.slice A6 qn.es.length c6) (.slice B6 qn.ss.length d6)
            have lx := lz.only bX hon (by decide) (by decide)
            replace ly := ly.only bX hon (by decide) (by decide)
            replace bY := bY.only hon (by omega)
            replace bX := bX.set2 (.slice A6 qn.es.length c6) (.slice B6 qn.ss.length d6)
            replace hx : Ext w _ := (hx.setCell (p := ⟨w.heap.size, 0, none⟩) (by simp only; omega) (.slice A6 qn.es.length c6)).setCell (p := ⟨w.heap.size, 1, none⟩) (by simp only; omega) (.slice B6 qn.ss.length d6)
            clear hon lz x0 x1 y0 y1 z0 z1 m0 m1
            generalize ((w6.alloc (.cells #[.slice A6 qn.es.length c6, .slice B6 qn.ss.length d6] 31)).setCell ⟨w.heap.size, 0, none⟩ (.slice A6 qn.es.length c6)).setCell ⟨w.heap.size, 1, none⟩ (.slice B6 qn.ss.length d6) = w7 at *
            obtain ⟨x0, x1⟩ := bX.c2
            obtain ⟨y0, y1⟩ := bY.c2
            go_wp2_with (first
              | (go_at_call 33; (with_reducible refine (VX.out _ _ lx.view).mono ?_); rintro r w6 ⟨rfl, hx6⟩; (replace bX := bX.ext hx6); (replace bY := bY.ext hx6); (replace lx := lx.ext hx6); (replace ly := ly.ext hx6); (replace hx := hx.tr hx6); (obtain ⟨x0, x1⟩ := bX.c2); (obtain ⟨y0, y1⟩ := bY.c2))
              | (go_at_call 22; (with_reducible refine (SX.out _ _ _ lx.view ly.view).mono ?_); rintro r w7 ⟨rfl, hx7⟩; (replace bX := bX.ext hx7); (replace bY := bY.ext hx7); (replace lx := Lib.hid (lx.ext hx7)); (replace ly := Lib.hid (ly.ext hx7)); (replace hx := hx.tr hx7))
              | go_in)
            have hstt := hst.out
            exact ⟨⟨j + 1, _, _, _, _, _, _, _, _, _, _, _, _, by omega, by go_num, bX, bY, by rw [hstt]; exact lx, by rw [hstt]; exact ly, hx⟩, by simp [intOf]; omega⟩
          · rw [if_neg hs2] at HF
            subst HF
            have hs3 : (s2 == 0) = false := beq_eq_false_iff_ne.2 hs2
            clear hs2
            go_wp2_with (first
              | (go_at_call 20; (with_reducible refine (VS.out _ _ lx.view).mono ?_); rintro r w6 ⟨v6, rfl, lz, hx6⟩; (obtain ⟨A6, c6, B6, d6, rfl⟩ := lz.lits); (have hx6n := Ext.new w6 (.cells #[.slice A6 s1.es.length c6, .slice B6 s1.ss.length d6] 31)); (replace hx6 := (show Ext _ w6 from hx6).tr hx6n); (replace bX := bX.ext hx6); (replace bY := bY.ext hx6); (replace lx := lx.ext hx6); (replace ly := ly.ext hx6); (replace hx := hx.tr hx6); (obtain ⟨x0, x1⟩ := bX.c2); (obtain ⟨y0, y1⟩ := bY.c2)))
            generalize (w6.alloc (.cells #[.slice A6 s1.es.length c6, .slice B6 s1.ss.length d6] 31)) = w7 at *
            go_wp2_with (first
              | (go_at_call 33; (with_reducible refine (VX.out _ _ lx.view).mono ?_); rintro r w6 ⟨rfl, hx6⟩; (replace bX := bX.ext hx6); (replace bY := bY.ext hx6); (replace lx := lx.ext hx6); (replace ly := ly.ext hx6); (replace hx := hx.tr hx6); (obtain ⟨x0, x1⟩ := bX.c2); (obtain ⟨y0, y1⟩ := bY.c2))
              | (go_at_call 22; (with_reducible refine (SX.out _ _ _ lx.view ly.view).mono ?_); rintro r w7 ⟨rfl, hx7⟩; (replace bX := bX.ext hx7); (replace bY := bY.ext hx7); (replace lx := Lib.hid (lx.ext hx7)); (replace ly := Lib.hid (ly.ext hx7)); (replace hx := hx.tr hx7))
              | go_in)
            have hstt := hst.out
            exact ⟨⟨j + 1, _, _, _, _, _, _, _, _, _, _, _, _, by omega, by go_num, bX, bY, by rw [hstt]; exact lx, by rw [hstt]; exact ly, hx⟩, by simp [intOf]; omega⟩
        · have HF := hFN.out h7
          unfold CL.enOf at HF
          have hs7 : (N % 7 == 0) = false := by rw [← Int.tmod_eq_emod_of_nonneg N0]; exact beq_eq_false_iff_ne.2 h7
          have h5 : N.tmod 5 = 0 ∨ N.tmod 5 = 1 ∨ N.tmod 5 = 2 ∨ N.tmod 5 = 3 ∨ N.tmod 5 = 4 := by omega
          have hem := Int.tmod_eq_emod_of_nonneg (b := 5) N0
          clear hF7 hFN h7 t0 t1 r0 r1 q0 q1 hw1 hw2
          replace HF := Lib.hid HF
          rcases h5 with h5 | h5 | h5 | h5 | h5
          · skip
            rw [h5] at hem
            replace hem := hem.symm
            have HX := Lib.hid (fun W v (h : LgV W v q) => ledger.Held_c q [97] v W h hf (by unfold maxLen; simp))
            have hin := held_in hen [97]
            replace HF := HF.out
            rw [h5] at HF
            rw [show CL.nmOf _ = [97] from rfl] at HF
            generalize CL.held q.es [97] = bf at *
            have GX := Lib.hid (fun W' => grown_c bf (N.tdiv 5) W' hin p0 p1)
            generalize CL.grownF bf (N.tdiv 5) = af at *
            have RX := Lib.hid (fun W v (h : LgV W v q) => ledger.Record_c q ⟨[97], bf, af⟩ v W h hf (by unfold maxLen; simp))
            have hrh := Lib.hid (fun h => rcd_held (x := q) (n := [97]) (a := bf) (b := af) h)
            have HXn := Lib.hid (fun W v (h : LgV W v qn) => ledger.Held_c qn [97] v W h hf1 (by unfold maxLen; simp))
            clear hin h5
            generalize CL.rcd q ⟨[97], bf, af⟩ = s at *
            obtain ⟨s1, s2⟩ := s
            replace HF := Lib.hid HF
            go_wp2_with (first
              | (go_at_call 29; (with_reducible refine (MX.out _).mono ?_); rintro r w2 ⟨rfl, rfl⟩)
              | (go_at_call 30; (with_reducible refine (MO.out _ _ ly).mono ?_); rintro r w2 ⟨v2, rfl, ly2, hx2⟩; (obtain ⟨A3, c3, B3, d3, rfl⟩ := ly2.lits); (replace bX := bX.ext hx2); (replace bY := bY.ext hx2); (replace lx := lx.ext hx2); (obtain ⟨x0, x1⟩ := bX.c2); (obtain ⟨y0, y1⟩ := bY.c2); (have f0 := bY.frozen 0); (have f1 := bY.frozen 1); (have bXl2 := bX.lt)))
            have hon := (Only.rf (g := w.heap.size + 1) (w := w2)).set2 (.slice A3 qn.es.length c3) (.slice B3 qn.ss.length d3)
            replace ly := ly2.only bY hon (by decide) (by decide)
            replace lx := lx.only bY hon (by decide) (by decide)
            replace bX := bX.only hon (by omega)
            replace bY := bY.set2 (.slice A3 qn.es.length c3) (.slice B3 qn.ss.length d3)
            replace hx : Ext w _ := ((hx.tr hx2).setCell (p := ⟨w.heap.size + 1, 0, none⟩) (by simp only; omega) (.slice A3 qn.es.length c3)).setCell (p := ⟨w.heap.size + 1, 1, none⟩) (by simp only; omega) (.slice B3 qn.ss.length d3)
            clear hon ly2 hx2 x0 x1 y0 y1 f0 f1
            generalize (w2.setCell ⟨w.heap.size + 1, 0, none⟩ (.slice A3 qn.es.length c3)).setCell ⟨w.heap.size + 1, 1, none⟩ (.slice B3 qn.ss.length d3) = w3 at *
            obtain ⟨x0, x1⟩ := bX.c2
            have bXl3 := bX.lt
            replace HF := HF.out
            have hq := am_neq af.m af.u af.m af.u
            rw [decide_eq_true ⟨rfl, rfl⟩] at hq
            have hgd := am_guard
            by_cases hs2 : s2 = 0
            · rw [if_pos hs2] at HF
              (try simp only at HF)
              have hh := hrh.out hs2
              (try simp only at hh)
              subst HF
              subst hs2
              have HXm := HXn.out
              rw [hh] at HXm
              replace HXm := Lib.hid HXm
              clear hh HXn hrh
              go_wp2_with (first
                | (go_at_call 31; (with_reducible refine (HX.out _ _ (lx.view.ext (Ext.new _ _))).mono ?_); rintro r w4 ⟨rfl, hx4⟩; (replace hx4 := (Ext.tr (Ext.new w3 _) hx4).tr (Ext.new w4 (.cells #[.int .i64 bf.m, .int .i64 bf.u] 23))); (have bF := Blk.new w4 23 #[.int .i64 bf.m, .int .i64 bf.u]); (replace bX := bX.ext hx4); (replace bY := bY.ext hx4); (replace lx := lx.ext hx4); (replace ly := ly.ext hx4); (replace hx := hx.tr hx4))
                | (go_at_call 32; (with_reducible refine (GX.out _).mono ?_); rintro r w5 ⟨rfl, hx5⟩; (have bXl5 := (bX.ext hx5).lt); (replace bF := bF.ext hx5); (have bG := Blk.new w5 23 #[.int .i64 af.m, .int .i64 af.u]); (have hx5n := Ext.new w5 (.cells #[.int .i64 af.m, .int .i64 af.u] 23)); (replace bF := bF.ext hx5n); (replace hx5 := Ext.tr hx5 hx5n); (replace bX := bX.ext hx5); (replace bY := bY.ext hx5); (replace lx := lx.ext hx5); (replace ly := ly.ext hx5); (replace hx := hx.tr hx5); (obtain ⟨x0, x1⟩ := bX.c2); (obtain ⟨f0, f1⟩ := bF.c2); (obtain ⟨g0, g1⟩ := bG.c2))
                | (go_at_call 18; (with_reducible refine (RX.out _ _ lx.view).mono ?_); rintro r w6 ⟨v6, rfl, lz, hx6⟩; (obtain ⟨A6, c6, B6, d6, rfl⟩ := lz.lits); (have bZ := Blk.new w6 31 #[.slice A6 qn.es.length c6, .slice B6 qn.ss.length d6]); (have hx6n := Ext.new w6 (.cells #[.slice A6 qn.es.length c6, .slice B6 qn.ss.length d6] 31)); (replace hx6 := (show Ext _ w6 from hx6).tr hx6n); (replace lz := lz.ext hx6n); (replace bG := bG.ext hx6); (replace bX := bX.ext hx6); (replace bY := bY.ext hx6); (replace lx := lx.ext hx6); (replace ly := ly.ext hx6); (replace hx := hx.tr hx6); (obtain ⟨x0, x1⟩ := bX.c2); (obtain ⟨y0, y1⟩ := bY.c2); (obtain ⟨z0, z1⟩ := bZ.c2); (have m0 := bX.frozen 0); (have m1 := bX.frozen 1)))
              have bGl := bG.lt
              have w5l : w.heap.size < w5.heap.size := by omega
              replace bG := bG.only ((Only.rf (g := w.heap.size) (w := w6.alloc (.cells #[.slice A6 qn.es.length c6, .slice B6 qn.ss.length d6] 31))).set2 (.slice A6 qn.es.length c6) (.slice B6 qn.ss.length d6)) (by omega)
              have hon := (Only.rf (g := w.heap.size) (w := w6.alloc (.cells #[.slice A6 qn.es.length c6, .slice B6 qn.ss.length d6] 31))).set2 (.slice A6 qn.es.length c6) (.slice B6 qn.ss.length d6)
              have lx := lz.only bX hon (by decide) (by decide)
              replace ly := ly.only bX hon (by decide) (by decide)
              replace bY := bY.only hon (by omega)
              replace bX := bX.set2 (.slice A6 qn.es.length c6) (.slice B6 qn.ss.length d6)
              replace hx : Ext w _ := (hx.setCell (p := ⟨w.heap.size, 0, none⟩) (by simp only; omega) (.slice A6 qn.es.length c6)).setCell (p := ⟨w.heap.size, 1, none⟩) (by simp only; omega) (.slice B6 qn.ss.length d6)
              clear hon lz x0 x1 y0 y1 z0 z1 m0 m1
              generalize ((w6.alloc (.cells #[.slice A6 qn.es.length c6, .slice B6 qn.ss.length d6] 31)).setCell ⟨w.heap.size, 0, none⟩ (.slice A6 qn.es.length c6)).setCell ⟨w.heap.size, 1, none⟩ (.slice B6 qn.ss.length d6) = w7 at *
              obtain ⟨x0, x1⟩ := bX.c2
              obtain ⟨y0, y1⟩ := bY.c2
              obtain ⟨g0, g1⟩ := bG.c2
              have r0 := ExtOf.cell x0
              have r1 := ExtOf.cell x1
              have r2 := ExtOf.cell g0
              have r3 := ExtOf.cell g1
              refine wp_region_ext_lit (by kernel_rfl) (by kernel_rfl) ?_
              repeat (go_big_quiet_step ((go_at_call 31; exact xqX (HXm.out _ _ (lx.view.ext (ExtOf.ext _))))))
              refine wpQuiet_nil ?_
              intro wq hw'
              obtain ⟨⟨wq', hxq⟩, hw''⟩ := hw'
              subst hw''
              replace bX := bX.ext hxq
              replace bY := bY.ext hxq
              replace lx := lx.ext hxq
              replace ly := ly.ext hxq
              replace hx := hx.tr hxq
              clear r0 r1 r2 r3 x0 x1 y0 y1 g0 g1
              obtain ⟨x0, x1⟩ := bX.c2
              obtain ⟨y0, y1⟩ := bY.c2
              go_wp2_with (first
                | (go_at_call 33; (with_reducible refine (VX.out _ _ lx.view).mono ?_); rintro r w6 ⟨rfl, hx6⟩; (replace bX := bX.ext hx6); (replace bY := bY.ext hx6); (replace lx := lx.ext hx6); (replace ly := ly.ext hx6); (replace hx := hx.tr hx6); (obtain ⟨x0, x1⟩ := bX.c2); (obtain ⟨y0, y1⟩ := bY.c2))
                | (go_at_call 22; (with_reducible refine (SX.out _ _ _ lx.view ly.view).mono ?_); rintro r w7 ⟨rfl, hx7⟩; (replace bX := bX.ext hx7); (replace bY := bY.ext hx7); (replace lx := Lib.hid (lx.ext hx7)); (replace ly := Lib.hid (ly.ext hx7)); (replace hx := hx.tr hx7))
                | go_in)
              have hstt := hst.out
              exact ⟨⟨j + 1, _, _, _, _, _, _, _, _, _, _, _, _, by omega, by go_num, bX, bY, by rw [hstt]; exact lx, by rw [hstt]; exact ly, hx⟩, by simp [intOf]; omega⟩
            · rw [if_neg hs2] at HF
              subst HF
              have hs3 : (s2 == 0) = false := beq_eq_false_iff_ne.2 hs2
              clear hs2
              go_wp2_with (first
                | (go_at_call 31; (with_reducible refine (HX.out _ _ (lx.view.ext (Ext.new _ _))).mono ?_); rintro r w4 ⟨rfl, hx4⟩; (replace hx4 := (Ext.tr (Ext.new w3 _) hx4).tr (Ext.new w4 (.cells #[.int .i64 bf.m, .int .i64 bf.u] 23))); (have bF := Blk.new w4 23 #[.int .i64 bf.m, .int .i64 bf.u]); (replace bX := bX.ext hx4); (replace bY := bY.ext hx4); (replace lx := lx.ext hx4); (replace ly := ly.ext hx4); (replace hx := hx.tr hx4))
                | (go_at_call 32; (with_reducible refine (GX.out _).mono ?_); rintro r w5 ⟨rfl, hx5⟩; (have bXl5 := (bX.ext hx5).lt); (replace bF := bF.ext hx5); (have bG := Blk.new w5 23 #[.int .i64 af.m, .int .i64 af.u]); (have hx5n := Ext.new w5 (.cells #[.int .i64 af.m, .int .i64 af.u] 23)); (replace bF := bF.ext hx5n); (replace hx5 := Ext.tr hx5 hx5n); (replace bX := bX.ext hx5); (replace bY := bY.ext hx5); (replace lx := lx.ext hx5); (replace ly := ly.ext hx5); (replace hx := hx.tr hx5); (obtain ⟨x0, x1⟩ := bX.c2); (obtain ⟨f0, f1⟩ := bF.c2); (obtain ⟨g0, g1⟩ := bG.c2))
                | (go_at_call 18; (with_reducible refine (RX.out _ _ lx.view).mono ?_); rintro r w6 ⟨v6, rfl, lz, hx6⟩; (obtain ⟨A6, c6, B6, d6, rfl⟩ := lz.lits); (have hx6n := Ext.new w6 (.cells #[.slice A6 s1.es.length c6, .slice B6 s1.ss.length d6] 31)); (replace hx6 := (show Ext _ w6 from hx6).tr hx6n); (replace bX := bX.ext hx6); (replace bY := bY.ext hx6); (replace lx := lx.ext hx6); (replace ly := ly.ext hx6); (replace hx := hx.tr hx6); (obtain ⟨x0, x1⟩ := bX.c2); (obtain ⟨y0, y1⟩ := bY.c2)))
              generalize (w6.alloc (.cells #[.slice A6 s1.es.length c6, .slice B6 s1.ss.length d6] 31)) = w7 at *
              go_wp2_with (first
                | (go_at_call 33; (with_reducible refine (VX.out _ _ lx.view).mono ?_); rintro r w6 ⟨rfl, hx6⟩; (replace bX := bX.ext hx6); (replace bY := bY.ext hx6); (replace lx := lx.ext hx6); (replace ly := ly.ext hx6); (replace hx := hx.tr hx6); (obtain ⟨x0, x1⟩ := bX.c2); (obtain ⟨y0, y1⟩ := bY.c2))
                | (go_at_call 22; (with_reducible refine (SX.out _ _ _ lx.view ly.view).mono ?_); rintro r w7 ⟨rfl, hx7⟩; (replace bX := bX.ext hx7); (replace bY := bY.ext hx7); (replace lx := Lib.hid (lx.ext hx7)); (replace ly := Lib.hid (ly.ext hx7)); (replace hx := hx.tr hx7))
                | go_in)
              have hstt := hst.out
              exact ⟨⟨j + 1, _, _, _, _, _, _, _, _, _, _, _, _, by omega, by go_num, bX, bY, by rw [hstt]; exact lx, by rw [hstt]; exact ly, hx⟩, by simp [intOf]; omega⟩
          · skip
            rw [h5] at hem
            replace hem := hem.symm
            have HX := Lib.hid (fun W v (h : LgV W v q) => ledger.Held_c q [98] v W h hf (by unfold maxLen; simp))
            have hin := held_in hen [98]
            replace HF := HF.out
            rw [h5] at HF
            rw [show CL.nmOf _ = [98] from rfl] at HF
            generalize CL.held q.es [98] = bf at *
            have GX := Lib.hid (fun W' => grown_c bf (N.tdiv 5) W' hin p0 p1)
            generalize CL.grownF bf (N.tdiv 5) = af at *
            have RX := Lib.hid (fun W v (h : LgV W v q) => ledger.Record_c q ⟨[98], bf, af⟩ v W h hf (by unfold maxLen; simp))
            have hrh := Lib.hid (fun h => rcd_held (x := q) (n := [98]) (a := bf) (b := af) h)
            have HXn := Lib.hid (fun W v (h : LgV W v qn) => ledger.Held_c qn [98] v W h hf1 (by unfold maxLen; simp))
            clear hin h5
            generalize CL.rcd q ⟨[98], bf, af⟩ = s at *
            obtain ⟨s1, s2⟩ := s
            replace HF := Lib.hid HF
            go_wp2_with (first
              | (go_at_call 29; (with_reducible refine (MX.out _).mono ?_); rintro r w2 ⟨rfl, rfl⟩)
              | (go_at_call 30; (with_reducible refine (MO.out _ _ ly).mono ?_); rintro r w2 ⟨v2, rfl, ly2, hx2⟩; (obtain ⟨A3, c3, B3, d3, rfl⟩ := ly2.lits); (replace bX := bX.ext hx2); (replace bY := bY.ext hx2); (replace lx := lx.ext hx2); (obtain ⟨x0, x1⟩ := bX.c2); (obtain ⟨y0, y1⟩ := bY.c2); (have f0 := bY.frozen 0); (have f1 := bY.frozen 1); (have bXl2 := bX.lt)))
            have hon := (Only.rf (g := w.heap.size + 1) (w := w2)).set2 (.slice A3 qn.es.length c3) (.slice B3 qn.ss.length d3)
            replace ly := ly2.only bY hon (by decide) (by decide)
            replace lx := lx.only bY hon (by decide) (by decide)
            replace bX := bX.only hon (by omega)
            replace bY := bY.set2 (.slice A3 qn.es.length c3) (.slice B3 qn.ss.length d3)
            replace hx : Ext w _ := ((hx.tr hx2).setCell (p := ⟨w.heap.size + 1, 0, none⟩) (by simp only; omega) (.slice A3 qn.es.length c3)).setCell (p := ⟨w.heap.size + 1, 1, none⟩) (by simp only; omega) (.slice B3 qn.ss.length d3)
            clear hon ly2 hx2 x0 x1 y0 y1 f0 f1
            generalize (w2.setCell ⟨w.heap.size + 1, 0, none⟩ (.slice A3 qn.es.length c3)).setCell ⟨w.heap.size + 1, 1, none⟩ (.slice B3 qn.ss.length d3) = w3 at *
            obtain ⟨x0, x1⟩ := bX.c2
            have bXl3 := bX.lt
            replace HF := HF.out
            have hq := am_neq af.m af.u af.m af.u
            rw [decide_eq_true ⟨rfl, rfl⟩] at hq
            have hgd := am_guard
            by_cases hs2 : s2 = 0
            · rw [if_pos hs2] at HF
              (try simp only at HF)
              have hh := hrh.out hs2
              (try simp only at hh)
              subst HF
              subst hs2
              have HXm := HXn.out
              rw [hh] at HXm
              replace HXm := Lib.hid HXm
              clear hh HXn hrh
              go_wp2_with (first
                | (go_at_call 31; (with_reducible refine (HX.out _ _ (lx.view.ext (Ext.new _ _))).mono ?_); rintro r w4 ⟨rfl, hx4⟩; (replace hx4 := (Ext.tr (Ext.new w3 _) hx4).tr (Ext.new w4 (.cells #[.int .i64 bf.m, .int .i64 bf.u] 23))); (have bF := Blk.new w4 23 #[.int .i64 bf.m, .int .i64 bf.u]); (replace bX := bX.ext hx4); (replace bY := bY.ext hx4); (replace lx := lx.ext hx4); (replace ly := ly.ext hx4); (replace hx := hx.tr hx4))
                | (go_at_call 32; (with_reducible refine (GX.out _).mono ?_); rintro r w5 ⟨rfl, hx5⟩; (have bXl5 := (bX.ext hx5).lt); (replace bF := bF.ext hx5); (have bG := Blk.new w5 23 #[.int .i64 af.m, .int .i64 af.u]); (have hx5n := Ext.new w5 (.cells #[.int .i64 af.m, .int .i64 af.u] 23)); (replace bF := bF.ext hx5n); (replace hx5 := Ext.tr hx5 hx5n); (replace bX := bX.ext hx5); (replace bY := bY.ext hx5); (replace lx := lx.ext hx5); (replace ly := ly.ext hx5); (replace hx := hx.tr hx5); (obtain ⟨x0, x1⟩ := bX.c2); (obtain ⟨f0, f1⟩ := bF.c2); (obtain ⟨g0, g1⟩ := bG.c2))
                | (go_at_call 18; (with_reducible refine (RX.out _ _ lx.view).mono ?_); rintro r w6 ⟨v6, rfl, lz, hx6⟩; (obtain ⟨A6, c6, B6, d6, rfl⟩ := lz.lits); (have bZ := Blk.new w6 31 #[.slice A6 qn.es.length c6, .slice B6 qn.ss.length d6]); (have hx6n := Ext.new w6 (.cells #[.slice A6 qn.es.length c6, .slice B6 qn.ss.length d6] 31)); (replace hx6 := (show Ext _ w6 from hx6).tr hx6n); (replace lz := lz.ext hx6n); (replace bG := bG.ext hx6); (replace bX := bX.ext hx6); (replace bY := bY.ext hx6); (replace lx := lx.ext hx6); (replace ly := ly.ext hx6); (replace hx := hx.tr hx6); (obtain ⟨x0, x1⟩ := bX.c2); (obtain ⟨y0, y1⟩ := bY.c2); (obtain ⟨z0, z1⟩ := bZ.c2); (have m0 := bX.frozen 0); (have m1 := bX.frozen 1)))
              have bGl := bG.lt
              have w5l : w.heap.size < w5.heap.size := by omega
              replace bG := bG.only ((Only.rf (g := w.heap.size) (w := w6.alloc (.cells #[.slice A6 qn.es.length c6, .slice B6 qn.ss.length d6] 31))).set2 (.slice A6 qn.es.length c6) (.slice B6 qn.ss.length d6)) (by omega)
              have hon := (Only.rf (g := w.heap.size) (w := w6.alloc (.cells #[.slice A6 qn.es.length c6, .slice B6 qn.ss.length d6] 31))).set2 (.slice A6 qn.es.length c6) (.slice B6 qn.ss.length d6)
              have lx := lz.only bX hon (by decide) (by decide)
              replace ly := ly.only bX hon (by decide) (by decide)
              replace bY := bY.only hon (by omega)
              replace bX := bX.set2 (.slice A6 qn.es.length c6) (.slice B6 qn.ss.length d6)
              replace hx : Ext w _ := (hx.setCell (p := ⟨w.heap.size, 0, none⟩) (by simp only; omega) (.slice A6 qn.es.length c6)).setCell (p := ⟨w.heap.size, 1, none⟩) (by simp only; omega) (.slice B6 qn.ss.length d6)
              clear hon lz x0 x1 y0 y1 z0 z1 m0 m1
              generalize ((w6.alloc (.cells #[.slice A6 qn.es.length c6, .slice B6 qn.ss.length d6] 31)).setCell ⟨w.heap.size, 0, none⟩ (.slice A6 qn.es.length c6)).setCell ⟨w.heap.size, 1, none⟩ (.slice B6 qn.ss.length d6) = w7 at *
              obtain ⟨x0, x1⟩ := bX.c2
              obtain ⟨y0, y1⟩ := bY.c2
              obtain ⟨g0, g1⟩ := bG.c2
              have r0 := ExtOf.cell x0
              have r1 := ExtOf.cell x1
              have r2 := ExtOf.cell g0
              have r3 := ExtOf.cell g1
              refine wp_region_ext_lit (by kernel_rfl) (by kernel_rfl) ?_
              repeat (go_big_quiet_step ((go_at_call 31; exact xqX (HXm.out _ _ (lx.view.ext (ExtOf.ext _))))))
              refine wpQuiet_nil ?_
              intro wq hw'
              obtain ⟨⟨wq', hxq⟩, hw''⟩ := hw'
              subst hw''
              replace bX := bX.ext hxq
              replace bY := bY.ext hxq
              replace lx := lx.ext hxq
              replace ly := ly.ext hxq
              replace hx := hx.tr hxq
              clear r0 r1 r2 r3 x0 x1 y0 y1 g0 g1
              obtain ⟨x0, x1⟩ := bX.c2
              obtain ⟨y0, y1⟩ := bY.c2
              go_wp2_with (first
                | (go_at_call 33; (with_reducible refine (VX.out _ _ lx.view).mono ?_); rintro r w6 ⟨rfl, hx6⟩; (replace bX := bX.ext hx6); (replace bY := bY.ext hx6); (replace lx := lx.ext hx6); (replace ly := ly.ext hx6); (replace hx := hx.tr hx6); (obtain ⟨x0, x1⟩ := bX.c2); (obtain ⟨y0, y1⟩ := bY.c2))
                | (go_at_call 22; (with_reducible refine (SX.out _ _ _ lx.view ly.view).mono ?_); rintro r w7 ⟨rfl, hx7⟩; (replace bX := bX.ext hx7); (replace bY := bY.ext hx7); (replace lx := Lib.hid (lx.ext hx7)); (replace ly := Lib.hid (ly.ext hx7)); (replace hx := hx.tr hx7))
                | go_in)
              have hstt := hst.out
              exact ⟨⟨j + 1, _, _, _, _, _, _, _, _, _, _, _, _, by omega, by go_num, bX, bY, by rw [hstt]; exact lx, by rw [hstt]; exact ly, hx⟩, by simp [intOf]; omega⟩
            · rw [if_neg hs2] at HF
              subst HF
              have hs3 : (s2 == 0) = false := beq_eq_false_iff_ne.2 hs2
              clear hs2
              go_wp2_with (first
                | (go_at_call 31; (with_reducible refine (HX.out _ _ (lx.view.ext (Ext.new _ _))).mono ?_); rintro r w4 ⟨rfl, hx4⟩; (replace hx4 := (Ext.tr (Ext.new w3 _) hx4).tr (Ext.new w4 (.cells #[.int .i64 bf.m, .int .i64 bf.u] 23))); (have bF := Blk.new w4 23 #[.int .i64 bf.m, .int .i64 bf.u]); (replace bX := bX.ext hx4); (replace bY := bY.ext hx4); (replace lx := lx.ext hx4); (replace ly := ly.ext hx4); (replace hx := hx.tr hx4))
                | (go_at_call 32; (with_reducible refine (GX.out _).mono ?_); rintro r w5 ⟨rfl, hx5⟩; (have bXl5 := (bX.ext hx5).lt); (replace bF := bF.ext hx5); (have bG := Blk.new w5 23 #[.int .i64 af.m, .int .i64 af.u]); (have hx5n := Ext.new w5 (.cells #[.int .i64 af.m, .int .i64 af.u] 23)); (replace bF := bF.ext hx5n); (replace hx5 := Ext.tr hx5 hx5n); (replace bX := bX.ext hx5); (replace bY := bY.ext hx5); (replace lx := lx.ext hx5); (replace ly := ly.ext hx5); (replace hx := hx.tr hx5); (obtain ⟨x0, x1⟩ := bX.c2); (obtain ⟨f0, f1⟩ := bF.c2); (obtain ⟨g0, g1⟩ := bG.c2))
                | (go_at_call 18; (with_reducible refine (RX.out _ _ lx.view).mono ?_); rintro r w6 ⟨v6, rfl, lz, hx6⟩; (obtain ⟨A6, c6, B6, d6, rfl⟩ := lz.lits); (have hx6n := Ext.new w6 (.cells #[.slice A6 s1.es.length c6, .slice B6 s1.ss.length d6] 31)); (replace hx6 := (show Ext _ w6 from hx6).tr hx6n); (replace bX := bX.ext hx6); (replace bY := bY.ext hx6); (replace lx := lx.ext hx6); (replace ly := ly.ext hx6); (replace hx := hx.tr hx6); (obtain ⟨x0, x1⟩ := bX.c2); (obtain ⟨y0, y1⟩ := bY.c2)))
              generalize (w6.alloc (.cells #[.slice A6 s1.es.length c6, .slice B6 s1.ss.length d6] 31)) = w7 at *
              go_wp2_with (first
                | (go_at_call 33; (with_reducible refine (VX.out _ _ lx.view).mono ?_); rintro r w6 ⟨rfl, hx6⟩; (replace bX := bX.ext hx6); (replace bY := bY.ext hx6); (replace lx := lx.ext hx6); (replace ly := ly.ext hx6); (replace hx := hx.tr hx6); (obtain ⟨x0, x1⟩ := bX.c2); (obtain ⟨y0, y1⟩ := bY.c2))
                | (go_at_call 22; (with_reducible refine (SX.out _ _ _ lx.view ly.view).mono ?_); rintro r w7 ⟨rfl, hx7⟩; (replace bX := bX.ext hx7); (replace bY := bY.ext hx7); (replace lx := Lib.hid (lx.ext hx7)); (replace ly := Lib.hid (ly.ext hx7)); (replace hx := hx.tr hx7))
                | go_in)
              have hstt := hst.out
              exact ⟨⟨j + 1, _, _, _, _, _, _, _, _, _, _, _, _, by omega, by go_num, bX, bY, by rw [hstt]; exact lx, by rw [hstt]; exact ly, hx⟩, by simp [intOf]; omega⟩
          · skip
            rw [h5] at hem
            replace hem := hem.symm
            have HX := Lib.hid (fun W v (h : LgV W v q) => ledger.Held_c q [99] v W h hf (by unfold maxLen; simp))
            have hin := held_in hen [99]
            replace HF := HF.out
            rw [h5] at HF
            rw [show CL.nmOf _ = [99] from rfl] at HF
            generalize CL.held q.es [99] = bf at *
            have GX := Lib.hid (fun W' => grown_c bf (N.tdiv 5) W' hin p0 p1)
            generalize CL.grownF bf (N.tdiv 5) = af at *
            have RX := Lib.hid (fun W v (h : LgV W v q) => ledger.Record_c q ⟨[99], bf, af⟩ v W h hf (by unfold maxLen; simp))
            have hrh := Lib.hid (fun h => rcd_held (x := q) (n := [99]) (a := bf) (b := af) h)
            have HXn := Lib.hid (fun W v (h : LgV W v qn) => ledger.Held_c qn [99] v W h hf1 (by unfold maxLen; simp))
            clear hin h5
            generalize CL.rcd q ⟨[99], bf, af⟩ = s at *
            obtain ⟨s1, s2⟩ := s
            replace HF := Lib.hid HF
            go_wp2_with (first
              | (go_at_call 29; (with_reducible refine (MX.out _).mono ?_); rintro r w2 ⟨rfl, rfl⟩)
              | (go_at_call 30; (with_reducible refine (MO.out _ _ ly).mono ?_); rintro r w2 ⟨v2, rfl, ly2, hx2⟩; (obtain ⟨A3, c3, B3, d3, rfl⟩ := ly2.lits); (replace bX := bX.ext hx2); (replace bY := bY.ext hx2); (replace lx := lx.ext hx2); (obtain ⟨x0, x1⟩ := bX.c2); (obtain ⟨y0, y1⟩ := bY.c2); (have f0 := bY.frozen 0); (have f1 := bY.frozen 1); (have bXl2 := bX.lt)))
            have hon := (Only.rf (g := w.heap.size + 1) (w := w2)).set2 (.slice A3 qn.es.length c3) (.slice B3 qn.ss.length d3)
            replace ly := ly2.only bY hon (by decide) (by decide)
            replace lx := lx.only bY hon (by decide) (by decide)
            replace bX := bX.only hon (by omega)
            replace bY := bY.set2 (.slice A3 qn.es.length c3) (.slice B3 qn.ss.length d3)
            replace hx : Ext w _ := ((hx.tr hx2).setCell (p := ⟨w.heap.size + 1, 0, none⟩) (by simp only; omega) (.slice A3 qn.es.length c3)).setCell (p := ⟨w.heap.size + 1, 1, none⟩) (by simp only; omega) (.slice B3 qn.ss.length d3)
            clear hon ly2 hx2 x0 x1 y0 y1 f0 f1
            generalize (w2.setCell ⟨w.heap.size + 1, 0, none⟩ (.slice A3 qn.es.length c3)).setCell ⟨w.heap.size + 1, 1, none⟩ (.slice B3 qn.ss.length d3) = w3 at *
            obtain ⟨x0, x1⟩ := bX.c2
            have bXl3 := bX.lt
            replace HF := HF.out
            have hq := am_neq af.m af.u af.m af.u
            rw [decide_eq_true ⟨rfl, rfl⟩] at hq
            have hgd := am_guard
            by_cases hs2 : s2 = 0
            · rw [if_pos hs2] at HF
              (try simp only at HF)
              have hh := hrh.out hs2
              (try simp only at hh)
              subst HF
              subst hs2
              have HXm := HXn.out
              rw [hh] at HXm
              replace HXm := Lib.hid HXm
              clear hh HXn hrh
              go_wp2_with (first
                | (go_at_call 31; (with_reducible refine (HX.out _ _ (lx.view.ext (Ext.new _ _))).mono ?_); rintro r w4 ⟨rfl, hx4⟩; (replace hx4 := (Ext.tr (Ext.new w3 _) hx4).tr (Ext.new w4 (.cells #[.int .i64 bf.m, .int .i64 bf.u] 23))); (have bF := Blk.new w4 23 #[.int .i64 bf.m, .int .i64 bf.u]); (replace bX := bX.ext hx4); (replace bY := bY.ext hx4); (replace lx := lx.ext hx4); (replace ly := ly.ext hx4); (replace hx := hx.tr hx4))
                | (go_at_call 32; (with_reducible refine (GX.out _).mono ?_); rintro r w5 ⟨rfl, hx5⟩; (have bXl5 := (bX.ext hx5).lt); (replace bF := bF.ext hx5); (have bG := Blk.new w5 23 #[.int .i64 af.m, .int .i64 af.u]); (have hx5n := Ext.new w5 (.cells #[.int .i64 af.m, .int .i64 af.u] 23)); (replace bF := bF.ext hx5n); (replace hx5 := Ext.tr hx5 hx5n); (replace bX := bX.ext hx5); (replace bY := bY.ext hx5); (replace lx := lx.ext hx5); (replace ly := ly.ext hx5); (replace hx := hx.tr hx5); (obtain ⟨x0, x1⟩ := bX.c2); (obtain ⟨f0, f1⟩ := bF.c2); (obtain ⟨g0, g1⟩ := bG.c2))
                | (go_at_call 18; (with_reducible refine (RX.out _ _ lx.view).mono ?_); rintro r w6 ⟨v6, rfl, lz, hx6⟩; (obtain ⟨A6, c6, B6, d6, rfl⟩ := lz.lits); (have bZ := Blk.new w6 31 #[.slice A6 qn.es.length c6, .slice B6 qn.ss.length d6]); (have hx6n := Ext.new w6 (.cells #[.slice A6 qn.es.length c6, .slice B6 qn.ss.length d6] 31)); (replace hx6 := (show Ext _ w6 from hx6).tr hx6n); (replace lz := lz.ext hx6n); (replace bG := bG.ext hx6); (replace bX := bX.ext hx6); (replace bY := bY.ext hx6); (replace lx := lx.ext hx6); (replace ly := ly.ext hx6); (replace hx := hx.tr hx6); (obtain ⟨x0, x1⟩ := bX.c2); (obtain ⟨y0, y1⟩ := bY.c2); (obtain ⟨z0, z1⟩ := bZ.c2); (have m0 := bX.frozen 0); (have m1 := bX.frozen 1)))
              have bGl := bG.lt
              have w5l : w.heap.size < w5.heap.size := by omega
              replace bG := bG.only ((Only.rf (g := w.heap.size) (w := w6.alloc (.cells #[.slice A6 qn.es.length c6, .slice B6 qn.ss.length d6] 31))).set2 (.slice A6 qn.es.length c6) (.slice B6 qn.ss.length d6)) (by omega)
              have hon := (Only.rf (g := w.heap.size) (w := w6.alloc (.cells #[.slice A6 qn.es.length c6, .slice B6 qn.ss.length d6] 31))).set2 (.slice A6 qn.es.length c6) (.slice B6 qn.ss.length d6)
              have lx := lz.only bX hon (by decide) (by decide)
              replace ly := ly.only bX hon (by decide) (by decide)
              replace bY := bY.only hon (by omega)
              replace bX := bX.set2 (.slice A6 qn.es.length c6) (.slice B6 qn.ss.length d6)
              replace hx : Ext w _ := (hx.setCell (p := ⟨w.heap.size, 0, none⟩) (by simp only; omega) (.slice A6 qn.es.length c6)).setCell (p := ⟨w.heap.size, 1, none⟩) (by simp only; omega) (.slice B6 qn.ss.length d6)
              clear hon lz x0 x1 y0 y1 z0 z1 m0 m1
              generalize ((w6.alloc (.cells #[.slice A6 qn.es.length c6, .slice B6 qn.ss.length d6] 31)).setCell ⟨w.heap.size, 0, none⟩ (.slice A6 qn.es.length c6)).setCell ⟨w.heap.size, 1, none⟩ (.slice B6 qn.ss.length d6) = w7 at *
              obtain ⟨x0, x1⟩ := bX.c2
              obtain ⟨y0, y1⟩ := bY.c2
              obtain ⟨g0, g1⟩ := bG.c2
              have r0 := ExtOf.cell x0
              have r1 := ExtOf.cell x1
              have r2 := ExtOf.cell g0
              have r3 := ExtOf.cell g1
              refine wp_region_ext_lit (by kernel_rfl) (by kernel_rfl) ?_
              repeat (go_big_quiet_step ((go_at_call 31; exact xqX (HXm.out _ _ (lx.view.ext (ExtOf.ext _))))))
              refine wpQuiet_nil ?_
              intro wq hw'
              obtain ⟨⟨wq', hxq⟩, hw''⟩ := hw'
              subst hw''
              replace bX := bX.ext hxq
              replace bY := bY.ext hxq
              replace lx := lx.ext hxq
              replace ly := ly.ext hxq
              replace hx := hx.tr hxq
              clear r0 r1 r2 r3 x0 x1 y0 y1 g0 g1
              obtain ⟨x0, x1⟩ := bX.c2
              obtain ⟨y0, y1⟩ := bY.c2
              go_wp2_with (first
                | (go_at_call 33; (with_reducible refine (VX.out _ _ lx.view).mono ?_); rintro r w6 ⟨rfl, hx6⟩; (replace bX := bX.ext hx6); (replace bY := bY.ext hx6); (replace lx := lx.ext hx6); (replace ly := ly.ext hx6); (replace hx := hx.tr hx6); (obtain ⟨x0, x1⟩ := bX.c2); (obtain ⟨y0, y1⟩ := bY.c2))
                | (go_at_call 22; (with_reducible refine (SX.out _ _ _ lx.view ly.view).mono ?_); rintro r w7 ⟨rfl, hx7⟩; (replace bX := bX.ext hx7); (replace bY := bY.ext hx7); (replace lx := Lib.hid (lx.ext hx7)); (replace ly := Lib.hid (ly.ext hx7)); (replace hx := hx.tr hx7))
                | go_in)
              have hstt := hst.out
              exact ⟨⟨j + 1, _, _, _, _, _, _, _, _, _, _, _, _, by omega, by go_num, bX, bY, by rw [hstt]; exact lx, by rw [hstt]; exact ly, hx⟩, by simp [intOf]; omega⟩
            · rw [if_neg hs2] at HF
              subst HF
              have hs3 : (s2 == 0) = false := beq_eq_false_iff_ne.2 hs2
              clear hs2
              go_wp2_with (first
                | (go_at_call 31; (with_reducible refine (HX.out _ _ (lx.view.ext (Ext.new _ _))).mono ?_); rintro r w4 ⟨rfl, hx4⟩; (replace hx4 := (Ext.tr (Ext.new w3 _) hx4).tr (Ext.new w4 (.cells #[.int .i64 bf.m, .int .i64 bf.u] 23))); (have bF := Blk.new w4 23 #[.int .i64 bf.m, .int .i64 bf.u]); (replace bX := bX.ext hx4); (replace bY := bY.ext hx4); (replace lx := lx.ext hx4); (replace ly := ly.ext hx4); (replace hx := hx.tr hx4))
                | (go_at_call 32; (with_reducible refine (GX.out _).mono ?_); rintro r w5 ⟨rfl, hx5⟩; (have bXl5 := (bX.ext hx5).lt); (replace bF := bF.ext hx5); (have bG := Blk.new w5 23 #[.int .i64 af.m, .int .i64 af.u]); (have hx5n := Ext.new w5 (.cells #[.int .i64 af.m, .int .i64 af.u] 23)); (replace bF := bF.ext hx5n); (replace hx5 := Ext.tr hx5 hx5n); (replace bX := bX.ext hx5); (replace bY := bY.ext hx5); (replace lx := lx.ext hx5); (replace ly := ly.ext hx5); (replace hx := hx.tr hx5); (obtain ⟨x0, x1⟩ := bX.c2); (obtain ⟨f0, f1⟩ := bF.c2); (obtain ⟨g0, g1⟩ := bG.c2))
                | (go_at_call 18; (with_reducible refine (RX.out _ _ lx.view).mono ?_); rintro r w6 ⟨v6, rfl, lz, hx6⟩; (obtain ⟨A6, c6, B6, d6, rfl⟩ := lz.lits); (have hx6n := Ext.new w6 (.cells #[.slice A6 s1.es.length c6, .slice B6 s1.ss.length d6] 31)); (replace hx6 := (show Ext _ w6 from hx6).tr hx6n); (replace bX := bX.ext hx6); (replace bY := bY.ext hx6); (replace lx := lx.ext hx6); (replace ly := ly.ext hx6); (replace hx := hx.tr hx6); (obtain ⟨x0, x1⟩ := bX.c2); (obtain ⟨y0, y1⟩ := bY.c2)))
              generalize (w6.alloc (.cells #[.slice A6 s1.es.length c6, .slice B6 s1.ss.length d6] 31)) = w7 at *
              go_wp2_with (first
                | (go_at_call 33; (with_reducible refine (VX.out _ _ lx.view).mono ?_); rintro r w6 ⟨rfl, hx6⟩; (replace bX := bX.ext hx6); (replace bY := bY.ext hx6); (replace lx := lx.ext hx6); (replace ly := ly.ext hx6); (replace hx := hx.tr hx6); (obtain ⟨x0, x1⟩ := bX.c2); (obtain ⟨y0, y1⟩ := bY.c2))
                | (go_at_call 22; (with_reducible refine (SX.out _ _ _ lx.view ly.view).mono ?_); rintro r w7 ⟨rfl, hx7⟩; (replace bX := bX.ext hx7); (replace bY := bY.ext hx7); (replace lx := Lib.hid (lx.ext hx7)); (replace ly := Lib.hid (ly.ext hx7)); (replace hx := hx.tr hx7))
                | go_in)
              have hstt := hst.out
              exact ⟨⟨j + 1, _, _, _, _, _, _, _, _, _, _, _, _, by omega, by go_num, bX, bY, by rw [hstt]; exact lx, by rw [hstt]; exact ly, hx⟩, by simp [intOf]; omega⟩
          · skip
            rw [h5] at hem
            replace hem := hem.symm
            have HX := Lib.hid (fun W v (h : LgV W v q) => ledger.Held_c q [112] v W h hf (by unfold maxLen; simp))
            have hin := held_in hen [112]
            replace HF := HF.out
            rw [h5] at HF
            rw [show CL.nmOf _ = [112] from rfl] at HF
            generalize CL.held q.es [112] = bf at *
            have GX := Lib.hid (fun W' => grown_c bf (N.tdiv 5) W' hin p0 p1)
            generalize CL.grownF bf (N.tdiv 5) = af at *
            have RX := Lib.hid (fun W v (h : LgV W v q) => ledger.Record_c q ⟨[112], bf, af⟩ v W h hf (by unfold maxLen; simp))
            have hrh := Lib.hid (fun h => rcd_held (x := q) (n := [112]) (a := bf) (b := af) h)
            have HXn := Lib.hid (fun W v (h : LgV W v qn) => ledger.Held_c qn [112] v W h hf1 (by unfold maxLen; simp))
            clear hin h5
            generalize CL.rcd q ⟨[112], bf, af⟩ = s at *
            obtain ⟨s1, s2⟩ := s
            replace HF := Lib.hid HF
            go_wp2_with (first
              | (go_at_call 29; (with_reducible refine (MX.out _).mono ?_); rintro r w2 ⟨rfl, rfl⟩)
              | (go_at_call 30; (with_reducible refine (MO.out _ _ ly).mono ?_); rintro r w2 ⟨v2, rfl, ly2, hx2⟩; (obtain ⟨A3, c3, B3, d3, rfl⟩ := ly2.lits); (replace bX := bX.ext hx2); (replace bY := bY.ext hx2); (replace lx := lx.ext hx2); (obtain ⟨x0, x1⟩ := bX.c2); (obtain ⟨y0, y1⟩ := bY.c2); (have f0 := bY.frozen 0); (have f1 := bY.frozen 1); (have bXl2 := bX.lt)))
            have hon := (Only.rf (g := w.heap.size + 1) (w := w2)).set2 (.slice A3 qn.es.length c3) (.slice B3 qn.ss.length d3)
            replace ly := ly2.only bY hon (by decide) (by decide)
            replace lx := lx.only bY hon (by decide) (by decide)
            replace bX := bX.only hon (by omega)
            replace bY := bY.set2 (.slice A3 qn.es.length c3) (.slice B3 qn.ss.length d3)
            replace hx : Ext w _ := ((hx.tr hx2).setCell (p := ⟨w.heap.size + 1, 0, none⟩) (by simp only; omega) (.slice A3 qn.es.length c3)).setCell (p := ⟨w.heap.size + 1, 1, none⟩) (by simp only; omega) (.slice B3 qn.ss.length d3)
            clear hon ly2 hx2 x0 x1 y0 y1 f0 f1
            generalize (w2.setCell ⟨w.heap.size + 1, 0, none⟩ (.slice A3 qn.es.length c3)).setCell ⟨w.heap.size + 1, 1, none⟩ (.slice B3 qn.ss.length d3) = w3 at *
            obtain ⟨x0, x1⟩ := bX.c2
            have bXl3 := bX.lt
            replace HF := HF.out
            have hq := am_neq af.m af.u af.m af.u
            rw [decide_eq_true ⟨rfl, rfl⟩] at hq
            have hgd := am_guard
            by_cases hs2 : s2 = 0
            · rw [if_pos hs2] at HF
              (try simp only at HF)
              have hh := hrh.out hs2
              (try simp only at hh)
              subst HF
              subst hs2
              have HXm := HXn.out
              rw [hh] at HXm
              replace HXm := Lib.hid HXm
              clear hh HXn hrh
              go_wp2_with (first
                | (go_at_call 31; (with_reducible refine (HX.out _ _ (lx.view.ext (Ext.new _ _))).mono ?_); rintro r w4 ⟨rfl, hx4⟩; (replace hx4 := (Ext.tr (Ext.new w3 _) hx4).tr (Ext.new w4 (.cells #[.int .i64 bf.m, .int .i64 bf.u] 23))); (have bF := Blk.new w4 23 #[.int .i64 bf.m, .int .i64 bf.u]); (replace bX := bX.ext hx4); (replace bY := bY.ext hx4); (replace lx := lx.ext hx4); (replace ly := ly.ext hx4); (replace hx := hx.tr hx4))
                | (go_at_call 32; (with_reducible refine (GX.out _).mono ?_); rintro r w5 ⟨rfl, hx5⟩; (have bXl5 := (bX.ext hx5).lt); (replace bF := bF.ext hx5); (have bG := Blk.new w5 23 #[.int .i64 af.m, .int .i64 af.u]); (have hx5n := Ext.new w5 (.cells #[.int .i64 af.m, .int .i64 af.u] 23)); (replace bF := bF.ext hx5n); (replace hx5 := Ext.tr hx5 hx5n); (replace bX := bX.ext hx5); (replace bY := bY.ext hx5); (replace lx := lx.ext hx5); (replace ly := ly.ext hx5); (replace hx := hx.tr hx5); (obtain ⟨x0, x1⟩ := bX.c2); (obtain ⟨f0, f1⟩ := bF.c2); (obtain ⟨g0, g1⟩ := bG.c2))
                | (go_at_call 18; (with_reducible refine (RX.out _ _ lx.view).mono ?_); rintro r w6 ⟨v6, rfl, lz, hx6⟩; (obtain ⟨A6, c6, B6, d6, rfl⟩ := lz.lits); (have bZ := Blk.new w6 31 #[.slice A6 qn.es.length c6, .slice B6 qn.ss.length d6]); (have hx6n := Ext.new w6 (.cells #[.slice A6 qn.es.length c6, .slice B6 qn.ss.length d6] 31)); (replace hx6 := (show Ext _ w6 from hx6).tr hx6n); (replace lz := lz.ext hx6n); (replace bG := bG.ext hx6); (replace bX := bX.ext hx6); (replace bY := bY.ext hx6); (replace lx := lx.ext hx6); (replace ly := ly.ext hx6); (replace hx := hx.tr hx6); (obtain ⟨x0, x1⟩ := bX.c2); (obtain ⟨y0, y1⟩ := bY.c2); (obtain ⟨z0, z1⟩ := bZ.c2); (have m0 := bX.frozen 0); (have m1 := bX.frozen 1)))
              have bGl := bG.lt
              have w5l : w.heap.size < w5.heap.size := by omega
              replace bG := bG.only ((Only.rf (g := w.heap.size) (w := w6.alloc (.cells #[.slice A6 qn.es.length c6, .slice B6 qn.ss.length d6] 31))).set2 (.slice A6 qn.es.length c6) (.slice B6 qn.ss.length d6)) (by omega)
              have hon := (Only.rf (g := w.heap.size) (w := w6.alloc (.cells #[.slice A6 qn.es.length c6, .slice B6 qn.ss.length d6] 31))).set2 (.slice A6 qn.es.length c6) (.slice B6 qn.ss.length d6)
              have lx := lz.only bX hon (by decide) (by decide)
              replace ly := ly.only bX hon (by decide) (by decide)
              replace bY := bY.only hon (by omega)
              replace bX := bX.set2 (.slice A6 qn.es.length c6) (.slice B6 qn.ss.length d6)
              replace hx : Ext w _ := (hx.setCell (p := ⟨w.heap.size, 0, none⟩) (by simp only; omega) (.slice A6 qn.es.length c6)).setCell (p := ⟨w.heap.size, 1, none⟩) (by simp only; omega) (.slice B6 qn.ss.length d6)
              clear hon lz x0 x1 y0 y1 z0 z1 m0 m1
              generalize ((w6.alloc (.cells #[.slice A6 qn.es.length c6, .slice B6 qn.ss.length d6] 31)).setCell ⟨w.heap.size, 0, none⟩ (.slice A6 qn.es.length c6)).setCell ⟨w.heap.size, 1, none⟩ (.slice B6 qn.ss.length d6) = w7 at *
              obtain ⟨x0, x1⟩ := bX.c2
              obtain ⟨y0, y1⟩ := bY.c2
              obtain ⟨g0, g1⟩ := bG.c2
              have r0 := ExtOf.cell x0
              have r1 := ExtOf.cell x1
              have r2 := ExtOf.cell g0
              have r3 := ExtOf.cell g1
              refine wp_region_ext_lit (by kernel_rfl) (by kernel_rfl) ?_
              repeat (go_big_quiet_step ((go_at_call 31; exact xqX (HXm.out _ _ (lx.view.ext (ExtOf.ext _))))))
              refine wpQuiet_nil ?_
              intro wq hw'
              obtain ⟨⟨wq', hxq⟩, hw''⟩ := hw'
              subst hw''
              replace bX := bX.ext hxq
              replace bY := bY.ext hxq
              replace lx := lx.ext hxq
              replace ly := ly.ext hxq
              replace hx := hx.tr hxq
              clear r0 r1 r2 r3 x0 x1 y0 y1 g0 g1
              obtain ⟨x0, x1⟩ := bX.c2
              obtain ⟨y0, y1⟩ := bY.c2
              go_wp2_with (first
                | (go_at_call 33; (with_reducible refine (VX.out _ _ lx.view).mono ?_); rintro r w6 ⟨rfl, hx6⟩; (replace bX := bX.ext hx6); (replace bY := bY.ext hx6); (replace lx := lx.ext hx6); (replace ly := ly.ext hx6); (replace hx := hx.tr hx6); (obtain ⟨x0, x1⟩ := bX.c2); (obtain ⟨y0, y1⟩ := bY.c2))
                | (go_at_call 22; (with_reducible refine (SX.out _ _ _ lx.view ly.view).mono ?_); rintro r w7 ⟨rfl, hx7⟩; (replace bX := bX.ext hx7); (replace bY := bY.ext hx7); (replace lx := Lib.hid (lx.ext hx7)); (replace ly := Lib.hid (ly.ext hx7)); (replace hx := hx.tr hx7))
                | go_in)
              have hstt := hst.out
              exact ⟨⟨j + 1, _, _, _, _, _, _, _, _, _, _, _, _, by omega, by go_num, bX, bY, by rw [hstt]; exact lx, by rw [hstt]; exact ly, hx⟩, by simp [intOf]; omega⟩
            · rw [if_neg hs2] at HF
              subst HF
              have hs3 : (s2 == 0) = false := beq_eq_false_iff_ne.2 hs2
              clear hs2
              go_wp2_with (first
                | (go_at_call 31; (with_reducible refine (HX.out _ _ (lx.view.ext (Ext.new _ _))).mono ?_); rintro r w4 ⟨rfl, hx4⟩; (replace hx4 := (Ext.tr (Ext.new w3 _) hx4).tr (Ext.new w4 (.cells #[.int .i64 bf.m, .int .i64 bf.u] 23))); (have bF := Blk.new w4 23 #[.int .i64 bf.m, .int .i64 bf.u]); (replace bX := bX.ext hx4); (replace bY := bY.ext hx4); (replace lx := lx.ext hx4); (replace ly := ly.ext hx4); (replace hx := hx.tr hx4))
                | (go_at_call 32; (with_reducible refine (GX.out _).mono ?_); rintro r w5 ⟨rfl, hx5⟩; (have bXl5 := (bX.ext hx5).lt); (replace bF := bF.ext hx5); (have bG := Blk.new w5 23 #[.int .i64 af.m, .int .i64 af.u]); (have hx5n := Ext.new w5 (.cells #[.int .i64 af.m, .int .i64 af.u] 23)); (replace bF := bF.ext hx5n); (replace hx5 := Ext.tr hx5 hx5n); (replace bX := bX.ext hx5); (replace bY := bY.ext hx5); (replace lx := lx.ext hx5); (replace ly := ly.ext hx5); (replace hx := hx.tr hx5); (obtain ⟨x0, x1⟩ := bX.c2); (obtain ⟨f0, f1⟩ := bF.c2); (obtain ⟨g0, g1⟩ := bG.c2))
                | (go_at_call 18; (with_reducible refine (RX.out _ _ lx.view).mono ?_); rintro r w6 ⟨v6, rfl, lz, hx6⟩; (obtain ⟨A6, c6, B6, d6, rfl⟩ := lz.lits); (have hx6n := Ext.new w6 (.cells #[.slice A6 s1.es.length c6, .slice B6 s1.ss.length d6] 31)); (replace hx6 := (show Ext _ w6 from hx6).tr hx6n); (replace bX := bX.ext hx6); (replace bY := bY.ext hx6); (replace lx := lx.ext hx6); (replace ly := ly.ext hx6); (replace hx := hx.tr hx6); (obtain ⟨x0, x1⟩ := bX.c2); (obtain ⟨y0, y1⟩ := bY.c2)))
              generalize (w6.alloc (.cells #[.slice A6 s1.es.length c6, .slice B6 s1.ss.length d6] 31)) = w7 at *
              go_wp2_with (first
                | (go_at_call 33; (with_reducible refine (VX.out _ _ lx.view).mono ?_); rintro r w6 ⟨rfl, hx6⟩; (replace bX := bX.ext hx6); (replace bY := bY.ext hx6); (replace lx := lx.ext hx6); (replace ly := ly.ext hx6); (replace hx := hx.tr hx6); (obtain ⟨x0, x1⟩ := bX.c2); (obtain ⟨y0, y1⟩ := bY.c2))
                | (go_at_call 22; (with_reducible refine (SX.out _ _ _ lx.view ly.view).mono ?_); rintro r w7 ⟨rfl, hx7⟩; (replace bX := bX.ext hx7); (replace bY := bY.ext hx7); (replace lx := Lib.hid (lx.ext hx7)); (replace ly := Lib.hid (ly.ext hx7)); (replace hx := hx.tr hx7))
                | go_in)
              have hstt := hst.out
              exact ⟨⟨j + 1, _, _, _, _, _, _, _, _, _, _, _, _, by omega, by go_num, bX, bY, by rw [hstt]; exact lx, by rw [hstt]; exact ly, hx⟩, by simp [intOf]; omega⟩
          · skip
            rw [h5] at hem
            replace hem := hem.symm
            have HX := Lib.hid (fun W v (h : LgV W v q) => ledger.Held_c q [113] v W h hf (by unfold maxLen; simp))
            have hin := held_in hen [113]
            replace HF := HF.out
            rw [h5] at HF
            rw [show CL.nmOf _ = [113] from rfl] at HF
            generalize CL.held q.es [113] = bf at *
            have GX := Lib.hid (fun W' => grown_c bf (N.tdiv 5) W' hin p0 p1)
            generalize CL.grownF bf (N.tdiv 5) = af at *
            have RX := Lib.hid (fun W v (h : LgV W v q) => ledger.Record_c q ⟨[113], bf, af⟩ v W h hf (by unfold maxLen; simp))
            have hrh := Lib.hid (fun h => rcd_held (x := q) (n := [113]) (a := bf) (b := af) h)
            have HXn := Lib.hid (fun W v (h : LgV W v qn) => ledger.Held_c qn [113] v W h hf1 (by unfold maxLen; simp))
            clear hin h5
            generalize CL.rcd q ⟨[113], bf, af⟩ = s at *
            obtain ⟨s1, s2⟩ := s
            replace HF := Lib.hid HF
            go_wp2_with (first
              | (go_at_call 29; (with_reducible refine (MX.out _).mono ?_); rintro r w2 ⟨rfl, rfl⟩)
              | (go_at_call 30; (with_reducible refine (MO.out _ _ ly).mono ?_); rintro r w2 ⟨v2, rfl, ly2, hx2⟩; (obtain ⟨A3, c3, B3, d3, rfl⟩ := ly2.lits); (replace bX := bX.ext hx2); (replace bY := bY.ext hx2); (replace lx := lx.ext hx2); (obtain ⟨x0, x1⟩ := bX.c2); (obtain ⟨y0, y1⟩ := bY.c2); (have f0 := bY.frozen 0); (have f1 := bY.frozen 1); (have bXl2 := bX.lt)))
            have hon := (Only.rf (g := w.heap.size + 1) (w := w2)).set2 (.slice A3 qn.es.length c3) (.slice B3 qn.ss.length d3)
            replace ly := ly2.only bY hon (by decide) (by decide)
            replace lx := lx.only bY hon (by decide) (by decide)
            replace bX := bX.only hon (by omega)
            replace bY := bY.set2 (.slice A3 qn.es.length c3) (.slice B3 qn.ss.length d3)
            replace hx : Ext w _ := ((hx.tr hx2).setCell (p := ⟨w.heap.size + 1, 0, none⟩) (by simp only; omega) (.slice A3 qn.es.length c3)).setCell (p := ⟨w.heap.size + 1, 1, none⟩) (by simp only; omega) (.slice B3 qn.ss.length d3)
            clear hon ly2 hx2 x0 x1 y0 y1 f0 f1
            generalize (w2.setCell ⟨w.heap.size + 1, 0, none⟩ (.slice A3 qn.es.length c3)).setCell ⟨w.heap.size + 1, 1, none⟩ (.slice B3 qn.ss.length d3) = w3 at *
            obtain ⟨x0, x1⟩ := bX.c2
            have bXl3 := bX.lt
            replace HF := HF.out
            have hq := am_neq af.m af.u af.m af.u
            rw [decide_eq_true ⟨rfl, rfl⟩] at hq
            have hgd := am_guard
            by_cases hs2 : s2 = 0
            · rw [if_pos hs2] at HF
              (try simp only at HF)
              have hh := hrh.out hs2
              (try simp only at hh)
              subst HF
              subst hs2
              have HXm := HXn.out
              rw [hh] at HXm
              replace HXm := Lib.hid HXm
              clear hh HXn hrh
              go_wp2_with (first
                | (go_at_call 31; (with_reducible refine (HX.out _ _ (lx.view.ext (Ext.new _ _))).mono ?_); rintro r w4 ⟨rfl, hx4⟩; (replace hx4 := (Ext.tr (Ext.new w3 _) hx4).tr (Ext.new w4 (.cells #[.int .i64 bf.m, .int .i64 bf.u] 23))); (have bF := Blk.new w4 23 #[.int .i64 bf.m, .int .i64 bf.u]); (replace bX := bX.ext hx4); (replace bY := bY.ext hx4); (replace lx := lx.ext hx4); (replace ly := ly.ext hx4); (replace hx := hx.tr hx4))
                | (go_at_call 32; (with_reducible refine (GX.out _).mono ?_); rintro r w5 ⟨rfl, hx5⟩; (have bXl5 := (bX.ext hx5).lt); (replace bF := bF.ext hx5); (have bG := Blk.new w5 23 #[.int .i64 af.m, .int .i64 af.u]); (have hx5n := Ext.new w5 (.cells #[.int .i64 af.m, .int .i64 af.u] 23)); (replace bF := bF.ext hx5n); (replace hx5 := Ext.tr hx5 hx5n); (replace bX := bX.ext hx5); (replace bY := bY.ext hx5); (replace lx := lx.ext hx5); (replace ly := ly.ext hx5); (replace hx := hx.tr hx5); (obtain ⟨x0, x1⟩ := bX.c2); (obtain ⟨f0, f1⟩ := bF.c2); (obtain ⟨g0, g1⟩ := bG.c2))
                | (go_at_call 18; (with_reducible refine (RX.out _ _ lx.view).mono ?_); rintro r w6 ⟨v6, rfl, lz, hx6⟩; (obtain ⟨A6, c6, B6, d6, rfl⟩ := lz.lits); (have bZ := Blk.new w6 31 #[.slice A6 qn.es.length c6, .slice B6 qn.ss.length d6]); (have hx6n := Ext.new w6 (.cells #[.slice A6 qn.es.length c6, .slice B6 qn.ss.length d6] 31)); (replace hx6 := (show Ext _ w6 from hx6).tr hx6n); (replace lz := lz.ext hx6n); (replace bG := bG.ext hx6); (replace bX := bX.ext hx6); (replace bY := bY.ext hx6); (replace lx := lx.ext hx6); (replace ly := ly.ext hx6); (replace hx := hx.tr hx6); (obtain ⟨x0, x1⟩ := bX.c2); (obtain ⟨y0, y1⟩ := bY.c2); (obtain ⟨z0, z1⟩ := bZ.c2); (have m0 := bX.frozen 0); (have m1 := bX.frozen 1)))
              have bGl := bG.lt
              have w5l : w.heap.size < w5.heap.size := by omega
              replace bG := bG.only ((Only.rf (g := w.heap.size) (w := w6.alloc (.cells #[.slice A6 qn.es.length c6, .slice B6 qn.ss.length d6] 31))).set2 (.slice A6 qn.es.length c6) (.slice B6 qn.ss.length d6)) (by omega)
              have hon := (Only.rf (g := w.heap.size) (w := w6.alloc (.cells #[.slice A6 qn.es.length c6, .slice B6 qn.ss.length d6] 31))).set2 (.slice A6 qn.es.length c6) (.slice B6 qn.ss.length d6)
              have lx := lz.only bX hon (by decide) (by decide)
              replace ly := ly.only bX hon (by decide) (by decide)
              replace bY := bY.only hon (by omega)
              replace bX := bX.set2 (.slice A6 qn.es.length c6) (.slice B6 qn.ss.length d6)
              replace hx : Ext w _ := (hx.setCell (p := ⟨w.heap.size, 0, none⟩) (by simp only; omega) (.slice A6 qn.es.length c6)).setCell (p := ⟨w.heap.size, 1, none⟩) (by simp only; omega) (.slice B6 qn.ss.length d6)
              clear hon lz x0 x1 y0 y1 z0 z1 m0 m1
              generalize ((w6.alloc (.cells #[.slice A6 qn.es.length c6, .slice B6 qn.ss.length d6] 31)).setCell ⟨w.heap.size, 0, none⟩ (.slice A6 qn.es.length c6)).setCell ⟨w.heap.size, 1, none⟩ (.slice B6 qn.ss.length d6) = w7 at *
              obtain ⟨x0, x1⟩ := bX.c2
              obtain ⟨y0, y1⟩ := bY.c2
              obtain ⟨g0, g1⟩ := bG.c2
              have r0 := ExtOf.cell x0
              have r1 := ExtOf.cell x1
              have r2 := ExtOf.cell g0
              have r3 := ExtOf.cell g1
              refine wp_region_ext_lit (by kernel_rfl) (by kernel_rfl) ?_
              repeat (go_big_quiet_step ((go_at_call 31; exact xqX (HXm.out _ _ (lx.view.ext (ExtOf.ext _))))))
              refine wpQuiet_nil ?_
              intro wq hw'
              obtain ⟨⟨wq', hxq⟩, hw''⟩ := hw'
              subst hw''
              replace bX := bX.ext hxq
              replace bY := bY.ext hxq
              replace lx := lx.ext hxq
              replace ly := ly.ext hxq
              replace hx := hx.tr hxq
              clear r0 r1 r2 r3 x0 x1 y0 y1 g0 g1
              obtain ⟨x0, x1⟩ := bX.c2
              obtain ⟨y0, y1⟩ := bY.c2
              go_wp2_with (first
                | (go_at_call 33; (with_reducible refine (VX.out _ _ lx.view).mono ?_); rintro r w6 ⟨rfl, hx6⟩; (replace bX := bX.ext hx6); (replace bY := bY.ext hx6); (replace lx := lx.ext hx6); (replace ly := ly.ext hx6); (replace hx := hx.tr hx6); (obtain ⟨x0, x1⟩ := bX.c2); (obtain ⟨y0, y1⟩ := bY.c2))
                | (go_at_call 22; (with_reducible refine (SX.out _ _ _ lx.view ly.view).mono ?_); rintro r w7 ⟨rfl, hx7⟩; (replace bX := bX.ext hx7); (replace bY := bY.ext hx7); (replace lx := Lib.hid (lx.ext hx7)); (replace ly := Lib.hid (ly.ext hx7)); (replace hx := hx.tr hx7))
                | go_in)
              have hstt := hst.out
              exact ⟨⟨j + 1, _, _, _, _, _, _, _, _, _, _, _, _, by omega, by go_num, bX, bY, by rw [hstt]; exact lx, by rw [hstt]; exact ly, hx⟩, by simp [intOf]; omega⟩
            · rw [if_neg hs2] at HF
              subst HF
              have hs3 : (s2 == 0) = false := beq_eq_false_iff_ne.2 hs2
              clear hs2
              go_wp2_with (first
                | (go_at_call 31; (with_reducible refine (HX.out _ _ (lx.view.ext (Ext.new _ _))).mono ?_); rintro r w4 ⟨rfl, hx4⟩; (replace hx4 := (Ext.tr (Ext.new w3 _) hx4).tr (Ext.new w4 (.cells #[.int .i64 bf.m, .int .i64 bf.u] 23))); (have bF := Blk.new w4 23 #[.int .i64 bf.m, .int .i64 bf.u]); (replace bX := bX.ext hx4); (replace bY := bY.ext hx4); (replace lx := lx.ext hx4); (replace ly := ly.ext hx4); (replace hx := hx.tr hx4))
                | (go_at_call 32; (with_reducible refine (GX.out _).mono ?_); rintro r w5 ⟨rfl, hx5⟩; (have bXl5 := (bX.ext hx5).lt); (replace bF := bF.ext hx5); (have bG := Blk.new w5 23 #[.int .i64 af.m, .int .i64 af.u]); (have hx5n := Ext.new w5 (.cells #[.int .i64 af.m, .int .i64 af.u] 23)); (replace bF := bF.ext hx5n); (replace hx5 := Ext.tr hx5 hx5n); (replace bX := bX.ext hx5); (replace bY := bY.ext hx5); (replace lx := lx.ext hx5); (replace ly := ly.ext hx5); (replace hx := hx.tr hx5); (obtain ⟨x0, x1⟩ := bX.c2); (obtain ⟨f0, f1⟩ := bF.c2); (obtain ⟨g0, g1⟩ := bG.c2))
                | (go_at_call 18; (with_reducible refine (RX.out _ _ lx.view).mono ?_); rintro r w6 ⟨v6, rfl, lz, hx6⟩; (obtain ⟨A6, c6, B6, d6, rfl⟩ := lz.lits); (have hx6n := Ext.new w6 (.cells #[.slice A6 s1.es.length c6, .slice B6 s1.ss.length d6] 31)); (replace hx6 := (show Ext _ w6 from hx6).tr hx6n); (replace bX := bX.ext hx6); (replace bY := bY.ext hx6); (replace lx := lx.ext hx6); (replace ly := ly.ext hx6); (replace hx := hx.tr hx6); (obtain ⟨x0, x1⟩ := bX.c2); (obtain ⟨y0, y1⟩ := bY.c2)))
              generalize (w6.alloc (.cells #[.slice A6 s1.es.length c6, .slice B6 s1.ss.length d6] 31)) = w7 at *
              go_wp2_with (first
                | (go_at_call 33; (with_reducible refine (VX.out _ _ lx.view).mono ?_); rintro r w6 ⟨rfl, hx6⟩; (replace bX := bX.ext hx6); (replace bY := bY.ext hx6); (replace lx := lx.ext hx6); (replace ly := ly.ext hx6); (replace hx := hx.tr hx6); (obtain ⟨x0, x1⟩ := bX.c2); (obtain ⟨y0, y1⟩ := bY.c2))
                | (go_at_call 22; (with_reducible refine (SX.out _ _ _ lx.view ly.view).mono ?_); rintro r w7 ⟨rfl, hx7⟩; (replace bX := bX.ext hx7); (replace bY := bY.ext hx7); (replace lx := Lib.hid (lx.ext hx7)); (replace ly := Lib.hid (ly.ext hx7)); (replace hx := hx.tr hx7))
                | go_in)
              have hstt := hst.out
              exact ⟨⟨j + 1, _, _, _, _, _, _, _, _, _, _, _, _, by omega, by go_num, bX, bY, by rw [hstt]; exact lx, by rw [hstt]; exact ly, hx⟩, by simp [intOf]; omega⟩
      · obtain rfl : j = l.length := by omega
        go_wp2_with (go_at_call 12; (with_reducible refine (awake14_c _).mono ?_); rintro r w6 ⟨rfl, hx6⟩)
        go_ret
        exact ⟨rfl, hx.tr hx6⟩
  · rw [decide_eq_false h300] at LX
    go_enter Try.func6, Try.ntmps6
    go_wp2_with (first
      | (go_at_call 28; (with_reducible refine (LX.out _).mono ?_); rintro r w2 ⟨rfl, rfl⟩)
      | (go_at_call 12; (with_reducible refine (awake14_c _).mono ?_); rintro r w6 ⟨rfl, hx6⟩))
    go_ret
    exact ⟨rfl, hx6⟩
end Go.Proofs.Ytaebindbadfaaaa

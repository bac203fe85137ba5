
/- Ledger: the walks of LedgerRecords and LedgerUndoes. -/
import Derived.Test.YtaebindbadfaaaaLaw14b
import Derived.Test.YtaebindbadfaaaaLry
namespace Go.Proofs.Ytaebindbadfaaaa
open Go.RowKit
set_option linter.unusedVariables false
set_option linter.unusedSimpArgs false
theorem rcd_le (x : CL.Lg) (e : CL.En) : (CL.rcd x e).1.es.length ≤ x.es.length + 1 ∧ (CL.rcd x e).1.ss.length ≤ x.ss.length := by
  unfold CL.rcd
  split
  · split <;> simp [CL.noLg]
  · simp [CL.noLg]
theorem sav_le (x : CL.Lg) (lb : Int) : (CL.sav x lb).1.es.length ≤ x.es.length ∧ (CL.sav x lb).1.ss.length ≤ x.ss.length + 1 := by
  unfold CL.sav
  split
  · split
    · simp [CL.noLg]
    · split
      · simp [CL.noLg]
      · split <;> simp [CL.noLg]
  · simp [CL.noLg]
set_option maxHeartbeats 6400000 in
set_option maxRecDepth 100000 in
theorem LedgerRecords_w (x : CL.Lg) (v : Value) (e : CL.En) (lb : Int) (w : World) (hv : LgV w v x) (hn : ∀ e ∈ x.es, e.n.length ≤ maxLen) (hs : e.n.length ≤ maxLen) :
    Calls Try.prog 4 #[v, .agg #[.string ⟨e.n.toArray⟩, .int .i64 e.b.m, .int .i64 e.b.u, .int .i64 e.a.m, .int .i64 e.a.u], .int .i64 lb] w fun r w' => r = .returned (.bool true) ∧ Ext w w' := by
  have SM := Lib.hid (fun W (h : Ext w W) => small_c x v W (hv.ext h))
  by_cases hsm : x.es.length ≤ 100 ∧ x.ss.length ≤ 100
  · have hf : Fine x := ⟨hsm.1, hsm.2, hn⟩
    have D1 := Lib.hid (fun W (h : Ext w W) => ledger.Record_c x e v W (hv.ext h) hf hs)
    have D2 := Lib.hid (fun W (h : Ext w W) => clusterlocksref14.Record_c x e v W (hv.ext h) hf hs)
    have D3 := Lib.hid (fun W (h : Ext w W) => ledger.Save_c x lb v W (hv.ext h) hf)
    have D4 := Lib.hid (fun W (h : Ext w W) => clusterlocksref14.Save_c x lb v W (hv.ext h) hf)
    have hdl := rcd_le x e
    have hdl' := sav_le x lb
    rw [decide_eq_true hsm] at SM
    generalize CL.rcd x e = y at *
    generalize CL.sav x lb = z at *
    obtain ⟨y1, y2⟩ := y
    obtain ⟨z1, z2⟩ := z
    have hdl2 : y1.es.length ≤ 2048 ∧ y1.ss.length ≤ 2048 := by simp only at hdl; omega
    have hdl3 : z1.es.length ≤ 2048 ∧ z1.ss.length ≤ 2048 := by simp only at hdl'; omega
    obtain ⟨A, c, A', c', rfl⟩ := hv.lit
    have SX := Lib.hid (fun W v1 v2 (h1 : LgOwn W 0 v1 y1) (h2 : LgOwn W 0 v2 y1) => Same14_c y1 y1 v1 v2 W hdl2 hdl2 h1.view h2.view)
    rw [show decide (y1 = y1) = true by simp] at SX
    have SY := Lib.hid (fun W v1 v2 (h1 : LgOwn W 0 v1 z1) (h2 : LgOwn W 0 v2 z1) => Same14_c z1 z1 v1 v2 W hdl3 hdl3 h1.view h2.view)
    rw [show decide (z1 = z1) = true by simp] at SY
    clear hdl hdl2 hdl' hdl3
    go_enter Try.func4, Try.ntmps4
    go_wp2_with fail
    obtain ⟨b1, be, hx0⟩ := two_rows w #[.slice A x.es.length c, .slice A' x.ss.length c'] 31 #[.string ⟨e.n.toArray⟩, .int .i64 e.b.m, .int .i64 e.b.u, .int .i64 e.a.m, .int .i64 e.a.u] 33
    generalize ((w.alloc (.cells #[.slice A x.es.length c, .slice A' x.ss.length c'] 31)).alloc (.cells #[.string ⟨e.n.toArray⟩, .int .i64 e.b.m, .int .i64 e.b.u, .int .i64 e.a.m, .int .i64 e.a.u] 33)) = W at *
    obtain ⟨e0, e1⟩ := b1.c2
    go_wp2_with (first
      | (go_at_call 17; (with_reducible refine (SM.out _ hx0).mono ?_); rintro r w2 ⟨rfl, hx2⟩; (have b2 := b1.ext hx2); (replace be := be.ext hx2); (obtain ⟨f0, f1⟩ := b2.c2); (obtain ⟨g0, g1, g2, g3, g4⟩ := be.c5); (have hxx := hx0.tr hx2))
      | (go_at_call 18; (with_reducible refine (D1.out _ hxx).mono ?_); rintro r w3 ⟨v3, rfl, hl3, hx3⟩; (obtain ⟨A3, c3, B3, d3, rfl⟩ := hl3.view.lit); (have bP := Blk.new w3 31 #[.slice A3 y1.es.length c3, .slice B3 y1.ss.length d3]); (replace hx3 := (show Ext _ w3 from hx3).tr (Ext.new w3 (.cells #[.slice A3 y1.es.length c3, .slice B3 y1.ss.length d3] 31))); (replace hl3 := hl3.ext (Ext.new w3 (.cells #[.slice A3 y1.es.length c3, .slice B3 y1.ss.length d3] 31))); (replace b2 := b2.ext hx3); (replace be := be.ext hx3); (obtain ⟨f0, f1⟩ := b2.c2); (obtain ⟨g0, g1, g2, g3, g4⟩ := be.c5); (replace hxx := hxx.tr hx3))
      | (go_at_call 19; (with_reducible refine (D2.out _ hxx).mono ?_); rintro r w4 ⟨v4, rfl, hl4, hx4⟩; (obtain ⟨A4, c4, B4, d4, rfl⟩ := hl4.view.lit); (have bQ := Blk.new w4 31 #[.slice A4 y1.es.length c4, .slice B4 y1.ss.length d4]); (replace hx4 := (show Ext _ w4 from hx4).tr (Ext.new w4 (.cells #[.slice A4 y1.es.length c4, .slice B4 y1.ss.length d4] 31))); (replace hl4 := hl4.ext (Ext.new w4 (.cells #[.slice A4 y1.es.length c4, .slice B4 y1.ss.length d4] 31))); (replace b2 := b2.ext hx4); (replace be := be.ext hx4); (replace bP := bP.ext hx4); (replace hl3 := hl3.ext hx4);(obtain ⟨f0, f1⟩ := b2.c2); (obtain ⟨g0, g1, g2, g3, g4⟩ := be.c5); (replace hxx := hxx.tr hx4))
      | (go_at_call 20; (with_reducible refine (D3.out _ hxx).mono ?_); rintro r w5 ⟨v5, rfl, hl5, hx5⟩; (obtain ⟨A5, c5, B5, d5, rfl⟩ := hl5.view.lit); (have bR := Blk.new w5 31 #[.slice A5 z1.es.length c5, .slice B5 z1.ss.length d5]); (replace hx5 := (show Ext _ w5 from hx5).tr (Ext.new w5 (.cells #[.slice A5 z1.es.length c5, .slice B5 z1.ss.length d5] 31))); (replace hl5 := hl5.ext (Ext.new w5 (.cells #[.slice A5 z1.es.length c5, .slice B5 z1.ss.length d5] 31))); (replace b2 := b2.ext hx5); (replace be := be.ext hx5); (replace bP := bP.ext hx5); (replace bQ := bQ.ext hx5); (replace hl3 := hl3.ext hx5); (replace hl4 := hl4.ext hx5);(obtain ⟨f0, f1⟩ := b2.c2); (obtain ⟨g0, g1, g2, g3, g4⟩ := be.c5); (replace hxx := hxx.tr hx5))
      | (go_at_call 21; (with_reducible refine (D4.out _ hxx).mono ?_); rintro r w6 ⟨v6, rfl, hl6, hx6⟩; (obtain ⟨A6, c6, B6, d6, rfl⟩ := hl6.view.lit); (have bT := Blk.new w6 31 #[.slice A6 z1.es.length c6, .slice B6 z1.ss.length d6]); (replace hx6 := (show Ext _ w6 from hx6).tr (Ext.new w6 (.cells #[.slice A6 z1.es.length c6, .slice B6 z1.ss.length d6] 31))); (replace hl6 := hl6.ext (Ext.new w6 (.cells #[.slice A6 z1.es.length c6, .slice B6 z1.ss.length d6] 31))); (replace bP := bP.ext hx6); (replace bQ := bQ.ext hx6); (replace bR := bR.ext hx6); (replace hl3 := hl3.ext hx6); (replace hl4 := hl4.ext hx6); (replace hl5 := hl5.ext hx6); (replace hxx := hxx.tr hx6))
      | (go_at_call 12; (with_reducible refine (awake14_c _).mono ?_); rintro r w7 ⟨rfl, hx7⟩; (replace bP := bP.ext hx7); (replace bQ := bQ.ext hx7); (replace bR := bR.ext hx7); (replace bT := bT.ext hx7); (replace hl3 := hl3.ext hx7); (replace hl4 := hl4.ext hx7); (replace hl5 := hl5.ext hx7); (replace hl6 := hl6.ext hx7); (obtain ⟨p0, p1⟩ := bP.c2); (obtain ⟨q0, q1⟩ := bQ.c2); (replace hxx := hxx.tr hx7))
      | (go_at_call 22; (with_reducible refine (SX.out _ _ _ hl3 hl4).mono ?_); rintro r w8 ⟨rfl, hx8⟩; (replace bR := bR.ext hx8); (replace bT := bT.ext hx8); (replace hl5 := hl5.ext hx8); (replace hl6 := hl6.ext hx8); (obtain ⟨p0, p1⟩ := bR.c2); (obtain ⟨q0, q1⟩ := bT.c2); (replace hxx := hxx.tr hx8))
      | (go_at_call 22; (with_reducible refine (SY.out _ _ _ hl5 hl6).mono ?_); rintro r w9 ⟨rfl, hx9⟩; (replace hxx := hxx.tr hx9))
      | go_in)
    all_goals (go_ret; exact ⟨by first | rfl | simp, hxx⟩)
  · rw [decide_eq_false hsm] at SM
    obtain ⟨A, c, A', c', rfl⟩ := hv.lit
    go_enter Try.func4, Try.ntmps4
    go_wp2_with fail
    obtain ⟨b1, be, hx0⟩ := two_rows w #[.slice A x.es.length c, .slice A' x.ss.length c'] 31 #[.string ⟨e.n.toArray⟩, .int .i64 e.b.m, .int .i64 e.b.u, .int .i64 e.a.m, .int .i64 e.a.u] 33
    generalize ((w.alloc (.cells #[.slice A x.es.length c, .slice A' x.ss.length c'] 31)).alloc (.cells #[.string ⟨e.n.toArray⟩, .int .i64 e.b.m, .int .i64 e.b.u, .int .i64 e.a.m, .int .i64 e.a.u] 33)) = W at *
    obtain ⟨e0, e1⟩ := b1.c2
    go_wp2_with (first
      | (go_at_call 17; (with_reducible refine (SM.out _ hx0).mono ?_); rintro r w2 ⟨rfl, hx2⟩; (have hxx := hx0.tr hx2))
      | (go_at_call 12; (with_reducible refine (awake14_c _).mono ?_); rintro r w5 ⟨rfl, hx5⟩; (replace hxx := hxx.tr hx5))
      | go_in)
    go_ret
    exact ⟨rfl, hxx⟩
end Go.Proofs.Ytaebindbadfaaaa


/- Ledger: the walk of LedgerDrops. -/
import Derived.Test.YtaebindbadfaaaaLx14
import Derived.Test.YtaebindbadfaaaaLdb
namespace Go.Proofs.Ytaebindbadfaaaa
open Go.RowKit
set_option linter.unusedVariables false
set_option linter.unusedSimpArgs false
set_option maxHeartbeats 1600000 in
theorem small_c (x : CL.Lg) (v : Value) (w : World) (hv : LgV w v x) : Calls Try.prog 17 #[v] w fun r w' => r = .returned (.bool (decide (x.es.length ≤ 100 ∧ x.ss.length ≤ 100))) ∧ Ext w w' := by
  obtain ⟨A, c, A', c', rfl, h1, h2, h3, h4⟩ := hv
  by_cases k1 : x.es.length ≤ 100
  · by_cases k2 : x.ss.length ≤ 100
    · have e1 : (x.es.length : Int) ≤ 100 := by omega
      have e2 : (x.ss.length : Int) ≤ 100 := by omega
      have HF := Lib.hid (show decide (x.es.length ≤ 100 ∧ x.ss.length ≤ 100) = true by simp [k1, k2])
      go_enter Try.func17, Try.ntmps17
      go_wp2
      go_ret
      exact ⟨ret_bool HF.out.symm, by go_grown⟩
    · have e1 : (x.es.length : Int) ≤ 100 := by omega
      have e2 : (decide ((x.ss.length : Int) ≤ 100)) = false := decide_eq_false (by omega)
      have HF := Lib.hid (show decide (x.es.length ≤ 100 ∧ x.ss.length ≤ 100) = false by simp [k2])
      clear k2
      go_enter Try.func17, Try.ntmps17
      go_wp2
      go_ret
      exact ⟨ret_bool HF.out.symm, by go_grown⟩
  · have e1 : (decide ((x.es.length : Int) ≤ 100)) = false := decide_eq_false (by omega)
    have HF := Lib.hid (show decide (x.es.length ≤ 100 ∧ x.ss.length ≤ 100) = false by simp [k1])
    clear k1
    go_enter Try.func17, Try.ntmps17
    go_wp2
    go_ret
    exact ⟨ret_bool HF.out.symm, by go_grown⟩
theorem LgV.lit {w : World} {v : Value} {x : CL.Lg} (h : LgV w v x) : ∃ A c A' c', v = .agg #[.slice A x.es.length c, .slice A' x.ss.length c'] := by
  obtain ⟨A, c, A', c', rfl, _⟩ := h; exact ⟨A, c, A', c', rfl⟩
theorem drp_len (x : CL.Lg) (nm : List UInt8) : (CL.drp x nm).1.es.length ≤ x.es.length ∧ (CL.drp x nm).1.ss.length ≤ x.ss.length := by
  unfold CL.drp
  split
  · split
    · simp [CL.noLg]
    · simp [CL.others_le]
  · simp [CL.noLg]
set_option maxHeartbeats 3200000 in
set_option maxRecDepth 100000 in
theorem LedgerDrops_w (x : CL.Lg) (v : Value) (nm : List UInt8) (w : World) (hv : LgV w v x) (hn : ∀ e ∈ x.es, e.n.length ≤ maxLen) (hs : nm.length ≤ maxLen) :
    Calls Try.prog 10 #[v, .string ⟨nm.toArray⟩] w fun r w' => r = .returned (.bool true) ∧ Ext w w' := by
  have SM := Lib.hid (fun W (h : Ext w W) => small_c x v W (hv.ext h))
  by_cases hsm : x.es.length ≤ 100 ∧ x.ss.length ≤ 100
  · have hf : Fine x := ⟨hsm.1, hsm.2, hn⟩
    have D1 := Lib.hid (fun W (h : Ext w W) => ledger.Drop_c x nm v W (hv.ext h) hf hs)
    have D2 := Lib.hid (fun W (h : Ext w W) => clusterlocksref14.Drop_c x nm v W (hv.ext h) hf hs)
    have hdl := drp_len x nm
    rw [decide_eq_true hsm] at SM
    generalize CL.drp x nm = y at *
    obtain ⟨y1, y2⟩ := y
    have hdl2 : y1.es.length ≤ 2048 ∧ y1.ss.length ≤ 2048 := by simp only at hdl; omega
    obtain ⟨A, c, A', c', rfl⟩ := hv.lit
    have SX := Lib.hid (fun W v1 v2 (h1 : LgOwn W 0 v1 y1) (h2 : LgOwn W 0 v2 y1) => Same14_c y1 y1 v1 v2 W hdl2 hdl2 h1.view h2.view)
    rw [show decide (y1 = y1) = true by simp] at SX
    clear hdl hdl2
    go_enter Try.func10, Try.ntmps10
    go_wp2_with fail
    obtain ⟨b1, hx0⟩ := box1 w #[.slice A x.es.length c, .slice A' x.ss.length c'] 31
    generalize (w.alloc (.cells #[.slice A x.es.length c, .slice A' x.ss.length c'] 31)) = W at *
    obtain ⟨e0, e1⟩ := b1.c2
    go_wp2_with (first
      | (go_at_call 17; (with_reducible refine (SM.out _ hx0).mono ?_); rintro r w2 ⟨rfl, hx2⟩; (have b2 := b1.ext hx2); (obtain ⟨f0, f1⟩ := b2.c2); (have hxx := hx0.tr hx2))
      | (go_at_call 39; (with_reducible refine (D1.out _ hxx).mono ?_); rintro r w3 ⟨v1, rfl, hl1, hx3⟩; (obtain ⟨A1, c1, A2, c2, rfl⟩ := hl1.view.lit); (have bP := Blk.new w3 31 #[.slice A1 y1.es.length c1, .slice A2 y1.ss.length c2]); (replace hx3 := (show Ext _ w3 from hx3).tr (Ext.new w3 (.cells #[.slice A1 y1.es.length c1, .slice A2 y1.ss.length c2] 31))); (replace hl1 := hl1.ext (Ext.new w3 (.cells #[.slice A1 y1.es.length c1, .slice A2 y1.ss.length c2] 31))); (replace b2 := b2.ext hx3); (obtain ⟨f0, f1⟩ := b2.c2); (replace hxx := hxx.tr hx3))
      | (go_at_call 40; (with_reducible refine (D2.out _ hxx).mono ?_); rintro r w4 ⟨v2, rfl, hl2, hx4⟩; (obtain ⟨B1, d1, B2, d2, rfl⟩ := hl2.view.lit); (have bQ := Blk.new w4 31 #[.slice B1 y1.es.length d1, .slice B2 y1.ss.length d2]); (replace hx4 := (show Ext _ w4 from hx4).tr (Ext.new w4 (.cells #[.slice B1 y1.es.length d1, .slice B2 y1.ss.length d2] 31))); (replace hl2 := hl2.ext (Ext.new w4 (.cells #[.slice B1 y1.es.length d1, .slice B2 y1.ss.length d2] 31))); (replace hl1 := hl1.ext hx4); (replace bP := bP.ext hx4); (replace hxx := hxx.tr hx4))
      | (go_at_call 12; (with_reducible refine (awake14_c _).mono ?_); rintro r w5 ⟨rfl, hx5⟩; (obtain ⟨p0, p1⟩ := (bP.ext hx5).c2); (obtain ⟨q0, q1⟩ := (bQ.ext hx5).c2); (replace hxx := hxx.tr hx5))
      | (go_at_call 22; (with_reducible refine (SX.out _ _ _ (hl1.ext hx5) (hl2.ext hx5)).mono ?_); rintro r w6 ⟨rfl, hx6⟩; (replace hxx := hxx.tr hx6))
      | go_in)
    all_goals (go_ret; exact ⟨by first | rfl | simp, hxx⟩)
  · rw [decide_eq_false hsm] at SM
    obtain ⟨A, c, A', c', rfl⟩ := hv.lit
    go_enter Try.func10, Try.ntmps10
    go_wp2_with fail
    obtain ⟨b1, hx0⟩ := box1 w #[.slice A x.es.length c, .slice A' x.ss.length c'] 31
    generalize (w.alloc (.cells #[.slice A x.es.length c, .slice A' x.ss.length c'] 31)) = W at *
    obtain ⟨e0, e1⟩ := b1.c2
    go_wp2_with (first
      | (go_at_call 17; (with_reducible refine (SM.out _ hx0).mono ?_); rintro r w2 ⟨rfl, hx2⟩; (have hxx := hx0.tr hx2))
      | (go_at_call 12; (with_reducible refine (awake14_c _).mono ?_); rintro r w5 ⟨rfl, hx5⟩; (replace hxx := hxx.tr hx5))
      | go_in)
    go_ret
    exact ⟨rfl, hxx⟩
end Go.Proofs.Ytaebindbadfaaaa

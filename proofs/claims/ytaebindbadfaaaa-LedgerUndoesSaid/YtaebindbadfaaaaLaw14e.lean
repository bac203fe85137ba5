
/- Ledger: the walk of LedgerUndoes. -/
import Derived.Test.YtaebindbadfaaaaLaw14d
namespace Go.Proofs.Ytaebindbadfaaaa
open Go.RowKit
set_option linter.unusedVariables false
set_option linter.unusedSimpArgs false
theorem says_len (p q : List CL.En) : (CL.says p q).length ≤ q.length := by
  rw [CL.says, List.length_map, CL.snm_len]; exact CL.dn_le q
theorem und_le (x : CL.Lg) (lb : Int) : (CL.und x lb).1.es.length ≤ x.es.length ∧ (CL.und x lb).1.ss.length ≤ x.ss.length ∧ (CL.und x lb).2.1.length ≤ x.es.length := by
  unfold CL.und
  split
  · split
    · simp [CL.noLg]
    · rename_i p _
      have := says_len (x.es.take p.1) (x.es.drop p.1)
      simp [CL.cutL, List.length_take] at *
      omega
  · simp [CL.noLg]
set_option maxHeartbeats 6400000 in
set_option maxRecDepth 100000 in
theorem LedgerUndoes_w (x : CL.Lg) (v : Value) (lb : Int) (w : World) (hv : LgV w v x) (hn : ∀ e ∈ x.es, e.n.length ≤ maxLen) :
    Calls Try.prog 5 #[v, .int .i64 lb] w fun r w' => r = .returned (.bool true) ∧ Ext w w' := by
  have SM := Lib.hid (fun W (h : Ext w W) => small_c x v W (hv.ext h))
  by_cases hsm : x.es.length ≤ 100 ∧ x.ss.length ≤ 100
  · have hf : Fine x := ⟨hsm.1, hsm.2, hn⟩
    have D1 := Lib.hid (fun W (h : Ext w W) => ledger.Undo_c x lb v W (hv.ext h) hf)
    have D2 := Lib.hid (fun W (h : Ext w W) => clusterlocksref14.Undo_c x lb v W (hv.ext h) hf)
    have C1 := Lib.hid (fun W (h : Ext w W) => ledger.Count_c x lb v W (hv.ext h) hf)
    have C2 := Lib.hid (fun W (h : Ext w W) => clusterlocksref14.Count_c x lb v W (hv.ext h) hf)
    have hdl := und_le x lb
    rw [decide_eq_true hsm] at SM
    generalize CL.und x lb = y at *
    generalize CL.cnt x lb = z at *
    obtain ⟨y1, y2, y3⟩ := y
    have hdl2 : y1.es.length ≤ 2048 ∧ y1.ss.length ≤ 2048 := by simp only at hdl; omega
    have hdl3 : y2.length ≤ 2048 := by simp only at hdl; omega
    obtain ⟨A, c, A', c', rfl⟩ := hv.lit
    have SX := Lib.hid (fun W v1 v2 (h1 : LgV W v1 y1) (h2 : LgV W v2 y1) => Same14_c y1 y1 v1 v2 W hdl2 hdl2 h1 h2)
    rw [show decide (y1 = y1) = true by simp] at SX
    have SA := Lib.hid (fun W A1 c1 A2 c2 h1 h2 => SameAtoms_c y2 y2 A1 A2 c1 c2 W hdl3 hdl3 h1 h2)
    rw [show decide (y2 = y2) = true by simp] at SA
    clear hdl hdl2 hdl3
    unfold UndoPost at D1 D2
    simp only at D1 D2
    go_enter Try.func5, Try.ntmps5
    go_wp2_with fail
    obtain ⟨b1, hx0⟩ := box1 w #[.slice A x.es.length c, .slice A' x.ss.length c'] 31
    generalize (w.alloc (.cells #[.slice A x.es.length c, .slice A' x.ss.length c'] 31)) = W at *
    obtain ⟨e0, e1⟩ := b1.c2
    go_wp2_with (first
      | (go_at_call 17; (with_reducible refine (SM.out _ hx0).mono ?_); rintro r w2 ⟨rfl, hx2⟩; (have b2 := b1.ext hx2); (obtain ⟨f0, f1⟩ := b2.c2); (have hxx := hx0.tr hx2))
      | (go_at_call 23; (with_reducible refine (D1.out _ hxx).mono ?_); rintro r w3 ⟨v3, S3, k3, rfl, hl3, hS3, hk3, hx3⟩; (obtain ⟨A3, c3, B3, d3, rfl⟩ := hl3.lit); (have bP := Blk.new w3 31 #[.slice A3 y1.es.length c3, .slice B3 y1.ss.length d3]); (replace hx3 := (show Ext _ w3 from hx3).tr (Ext.new w3 (.cells #[.slice A3 y1.es.length c3, .slice B3 y1.ss.length d3] 31))); (replace hl3 := hl3.ext (Ext.new w3 (.cells #[.slice A3 y1.es.length c3, .slice B3 y1.ss.length d3] 31))); (replace hS3 := hS3.ext (Ext.new w3 (.cells #[.slice A3 y1.es.length c3, .slice B3 y1.ss.length d3] 31))); (replace b2 := b2.ext hx3); (obtain ⟨f0, f1⟩ := b2.c2); (replace hxx := hxx.tr hx3))
      | (go_at_call 24; (with_reducible refine (D2.out _ hxx).mono ?_); rintro r w4 ⟨v4, S4, k4, rfl, hl4, hS4, hk4, hx4⟩; (obtain ⟨A4, c4, B4, d4, rfl⟩ := hl4.lit); (have bQ := Blk.new w4 31 #[.slice A4 y1.es.length c4, .slice B4 y1.ss.length d4]); (replace hx4 := (show Ext _ w4 from hx4).tr (Ext.new w4 (.cells #[.slice A4 y1.es.length c4, .slice B4 y1.ss.length d4] 31))); (replace hl4 := hl4.ext (Ext.new w4 (.cells #[.slice A4 y1.es.length c4, .slice B4 y1.ss.length d4] 31))); (replace hS4 := hS4.ext (Ext.new w4 (.cells #[.slice A4 y1.es.length c4, .slice B4 y1.ss.length d4] 31))); (replace b2 := b2.ext hx4); (replace bP := bP.ext hx4); (replace hl3 := hl3.ext hx4); (replace hS3 := hS3.ext hx4); (replace hxx := hxx.tr hx4))
      | go_in)
    generalize (w4.alloc (.cells #[.slice A4 y1.es.length c4, .slice B4 y1.ss.length d4] 31)) = w5 at *
    obtain ⟨f0, f1⟩ := b2.c2
    obtain ⟨p0, p1⟩ := bP.c2
    obtain ⟨q0, q1⟩ := bQ.c2
    have r0 := ExtOf.cell f0
    have r1 := ExtOf.cell f1
    have r2 := ExtOf.cell p0
    have r3 := ExtOf.cell p1
    have r4 := ExtOf.cell q0
    have r5 := ExtOf.cell q1
    refine wp_region_ext_lit (by kernel_rfl) (by kernel_rfl) ?_
    repeat (go_big_quiet_step (first
      | (go_at_call 12; exact xqX (awake14_c _))
      | (go_at_call 22; exact xqX (SX.out _ _ _ (hl3.ext (ExtOf.ext _)) (hl4.ext (ExtOf.ext _))))
      | (go_at_call 25; exact xqX (SA.out _ _ _ _ _ (hS3.ext (ExtOf.ext _)) (hS4.ext (ExtOf.ext _))))
      | (go_at_call 26; exact xqX (C1.out _ (hxx.tr (ExtOf.ext _))))
      | (go_at_call 27; exact xqX (C2.out _ (hxx.tr (ExtOf.ext _))))))
    refine wpQuiet_nil ?_
    intro wq hw'
    obtain ⟨⟨wq', hxq⟩, hw''⟩ := hw'
    subst hw''
    go_wp2
    go_ret
    exact ⟨rfl, hxx.tr hxq⟩
  · rw [decide_eq_false hsm] at SM
    obtain ⟨A, c, A', c', rfl⟩ := hv.lit
    go_enter Try.func5, Try.ntmps5
    go_wp2_with fail
    obtain ⟨b1, hx0⟩ := box1 w #[.slice A x.es.length c, .slice A' x.ss.length c'] 31
    generalize (w.alloc (.cells #[.slice A x.es.length c, .slice A' x.ss.length c'] 31)) = W at *
    obtain ⟨e0, e1⟩ := b1.c2
    go_wp2_with (first
      | (go_at_call 17; (with_reducible refine (SM.out _ hx0).mono ?_); rintro r w2 ⟨rfl, hx2⟩; (have hxx := hx0.tr hx2))
      | (go_at_call 12; (with_reducible refine (awake14_c _).mono ?_); rintro r w5 ⟨rfl, hx5⟩; (replace hxx := hxx.tr hx5))
      | go_in)
    go_ret
    exact ⟨rfl, hxx⟩
end Go.Proofs.Ytaebindbadfaaaa

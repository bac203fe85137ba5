
/- Ledger: the walk of LedgerAll. -/
import Derived.Test.YtaebindbadfaaaaLmd
import Derived.Test.YtaebindbadfaaaaLho
import Derived.Test.YtaebindbadfaaaaLx14
namespace Go.Proofs.Ytaebindbadfaaaa
open Go.RowKit
set_option linter.unusedVariables false
set_option linter.unusedSimpArgs false
theorem hold_lenA (l : List CL.En) : (CL.hold l).length ≤ l.length := by
  unfold CL.hold CL.says
  refine Nat.le_trans (List.length_filter_le _ _) ?_
  rw [List.length_map]
  have h1 := CL.snm_len l
  have h2 := CL.dn_le l
  omega
theorem made_l (l : List Int) (A : Option Addr) (c : Nat) (w w' : World) (hl : l.length ≤ maxLen) (hr : Sits w A (ints l)) (hx : Ext w w') :
    Calls Try.prog 34 #[.slice A l.length c] w' fun r w'' => ∃ v', r = .returned v' ∧ LgOwn w'' 0 v' (CL.mde l) ∧ Ext w' w'' := made_c l A c w' hl (hr.ext hx)
set_option maxHeartbeats 6400000 in
set_option maxRecDepth 100000 in
theorem LedgerAll_w (l : List Int) (A : Option Addr) (c : Nat) (w : World) (hl : l.length ≤ maxLen) (hr : Sits w A (ints l)) :
    Calls Try.prog 9 #[.slice A l.length c] w fun r w' => r = .returned (.bool true) ∧ Ext w w' := by
  have LX := Lib.hid (fun W => clusterlocksmill.Light_c l A c W)
  by_cases h300 : l.length ≤ 300
  · rw [decide_eq_true h300] at LX
    have MX := Lib.hid (fun W (h : Ext w W) => made_l l A c w W hl hr h)
    have hv := CL.mde_valid l
    have hf := fine_of hv
    have UX := fun W v (h : LgV W v (CL.mde l)) => ledger.Undo_c (CL.mde l) 0 v W h hf
    have HX := Lib.hid (fun W v (h : LgV W v (CL.mde l)) => ledger.Holdings_c (CL.mde l) v W h hf)
    rw [CL.all_law hv] at UX
    unfold UndoPost at UX
    unfold HoldPost at HX
    have hhl := hold_lenA (CL.mde l).es
    have h64 := CL.lval_len hv
    generalize CL.mde l = q at *
    generalize CL.hold q.es = H at *
    dsimp only at UX
    simp only [List.length_map] at UX
    replace UX := Lib.hid UX
    go_enter Try.func9, Try.ntmps9
    go_wp2_with (first
      | (go_at_call 28; (with_reducible refine (LX.out _).mono ?_); rintro r w2 ⟨rfl, rfl⟩)
      | (go_at_call 34; (with_reducible refine (MX.out _ Ext.rfl').mono ?_); rintro r w3 ⟨v3, rfl, hl3, hx3⟩; (obtain ⟨A3, c3, B3, d3, rfl⟩ := hl3.lits); (have bX := Blk.new w3 31 #[.slice A3 q.es.length c3, .slice B3 q.ss.length d3]); (replace hx3 := (show Ext _ w3 from hx3).tr (Ext.new w3 (.cells #[.slice A3 q.es.length c3, .slice B3 q.ss.length d3] 31))); (have hv3 := hl3.view.ext (Ext.new w3 (.cells #[.slice A3 q.es.length c3, .slice B3 q.ss.length d3] 31))))
      | (go_at_call 23; (with_reducible refine (UX.out _ _ hv3).mono ?_); rintro r w4 ⟨v4, A4, c4, rfl, hl4, S4, hc4, hx4⟩; (obtain ⟨A5, c5, B5, d5, rfl, _⟩ := hl4); (simp only [show CL.noLg.es.length = 0 from rfl, show CL.noLg.ss.length = 0 from rfl]); (have bY := Blk.new w4 31 #[.slice A5 0 c5, .slice B5 0 d5]); (replace hx4 := (show Ext _ w4 from hx4).tr (Ext.new w4 (.cells #[.slice A5 0 c5, .slice B5 0 d5] 31))); (replace S4 := S4.ext (Ext.new w4 (.cells #[.slice A5 0 c5, .slice B5 0 d5] 31))); (replace bX := bX.ext hx4); (replace hv3 := hv3.ext hx4); (obtain ⟨x0, x1⟩ := bX.c2); (replace hx3 := hx3.tr hx4))
      | (go_at_call 37; (with_reducible refine (HX.out _ _ hv3).mono ?_); rintro r w5 ⟨A6, c6, rfl, S6, hc6, hx5⟩; (replace bY := bY.ext hx5); (replace S4 := S4.ext hx5); (replace hx3 := hx3.tr hx5))
      | (go_at_call 12; (with_reducible refine (awake14_c _).mono ?_); rintro r w6 ⟨rfl, hx6⟩; (replace bY := bY.ext hx6); (replace S4 := S4.ext hx6); (replace S6 := S6.ext hx6); (replace hx3 := hx3.tr hx6); (obtain ⟨y0, y1⟩ := bY.c2))
      | go_in)
    clear bX bY x0 x1 y0 y1
    go_loopw [8] (fun i wr => ∃ j : Nat, j ≤ H.length ∧ i = .int .i64 j ∧ Ext w6 wr) (fun i _ => H.length - (intOf i).toNat)
    case atStart => exact ⟨0, by omega, rfl, Ext.rfl'⟩
    case round =>
      obtain ⟨j, hj, rfl, hy⟩ := hrel
      have hxy := hx3.tr hy
      by_cases hlt : j < H.length
      · have hlt2 : j < (H.map (fun a => (⟨a.n, ⟨0, 0⟩⟩ : CL.At))).length := by rw [List.length_map]; exact hlt
        obtain ⟨p, o, rfl, a0, a1, a2⟩ := (S6.ext hy).atoms hlt
        obtain ⟨p', o', rfl, b0, b1, b2⟩ := (S4.ext hy).atoms hlt2
        simp only [List.getElem_map] at b0 b1 b2
        generalize H[j] = y at *
        have hq := at_neq y.n y.n 0 0 0 0
        rw [decide_eq_true rfl] at hq
        have hgd := at_guard
        have hlti : (j : Int) < (H.length : Int) := by omega
        clear S4 S6 UX HX MX
        go_wp2_with fail
        go_quiet (fail)
        go_wp2
        exact ⟨⟨j + 1, by omega, by go_num, hy.drewN _⟩, by simp [intOf]; omega⟩
      · go_wp2
        go_ret
        exact ⟨rfl, hxy⟩
  · rw [decide_eq_false h300] at LX
    go_enter Try.func9, Try.ntmps9
    go_wp2_with (first
      | (go_at_call 28; (with_reducible refine (LX.out _).mono ?_); rintro r w2 ⟨rfl, rfl⟩)
      | (go_at_call 12; (with_reducible refine (awake14_c _).mono ?_); rintro r w6 ⟨rfl, hx6⟩))
    go_ret
    exact ⟨rfl, hx6⟩
end Go.Proofs.Ytaebindbadfaaaa

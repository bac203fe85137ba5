
/- Ledger: the walk of LedgerValid. -/
import Derived.Test.YtaebindbadfaaaaLaw14b
import Derived.Test.YtaebindbadfaaaaLhr
namespace Go.Proofs.Ytaebindbadfaaaa
open Go.RowKit
set_option linter.unusedVariables false
set_option linter.unusedSimpArgs false
theorem hold_len (l : List CL.En) : (CL.hold l).length ≤ l.length := by
  unfold CL.hold CL.says
  refine Nat.le_trans (List.length_filter_le _ _) ?_
  rw [List.length_map]
  have h1 := CL.snm_len l
  have h2 := CL.dn_le l
  omega
set_option maxHeartbeats 12800000 in
set_option maxRecDepth 100000 in
theorem LedgerValid_w (x : CL.Lg) (v : Value) (nm : List UInt8) (w : World) (hv : LgV w v x) (hn : ∀ e ∈ x.es, e.n.length ≤ maxLen) (hs : nm.length ≤ maxLen) :
    Calls Try.prog 8 #[v, .string ⟨nm.toArray⟩] w fun r w' => r = .returned (.bool true) ∧ Ext w w' := by
  have SM := Lib.hid (fun W (h : Ext w W) => small_c x v W (hv.ext h))
  by_cases hsm : x.es.length ≤ 100 ∧ x.ss.length ≤ 100
  · have hf : Fine x := ⟨hsm.1, hsm.2, hn⟩
    have V1 := Lib.hid (fun W (h : Ext w W) => ledger.Valid_c x v W (hv.ext h) hf)
    have V2 := Lib.hid (fun W (h : Ext w W) => clusterlocksref14.Valid_c x v W (hv.ext h) hf)
    have H1 := Lib.hid (fun W (h : Ext w W) => ledger.Held_c x nm v W (hv.ext h) hf hs)
    have D1 := Lib.hid (fun W (h : Ext w W) => ledger.Holdings_c x v W (hv.ext h) hf)
    have D2 := Lib.hid (fun W (h : Ext w W) => clusterlocksref14.Holdings_c x v W (hv.ext h) hf)
    rw [decide_eq_true hsm] at SM
    have hl := hold_len x.es
    have SX := Lib.hid (fun W A1 c1 A2 c2 h1 h2 => SameAtoms_c (CL.hold x.es) (CL.hold x.es) A1 A2 c1 c2 W (by omega) (by omega) h1 h2)
    rw [show decide (CL.hold x.es = CL.hold x.es) = true by simp] at SX
    obtain ⟨A, c, A', c', rfl, h1, h2, h3, h4⟩ := hv
    have H2 := Lib.hid (fun W (h : Ext w W) => clusterlocksref14.Held_c x.es nm A c W (by unfold maxLen; omega) (h1.ext h))
    unfold HoldPost at D1 D2
    clear h1 h2 h3 h4 hl hf hn
    generalize CL.hold x.es = hd at *
    generalize CL.lval x = lv at *
    have hq := am_eql (CL.held x.es nm).m (CL.held x.es nm).u (CL.held x.es nm).m (CL.held x.es nm).u
    generalize (CL.held x.es nm).m = hm at *
    generalize (CL.held x.es nm).u = hu at *
    generalize x.es.length = n at *
    generalize x.ss.length = n' at *
    rw [decide_eq_true (show hm = hm ∧ hu = hu from ⟨rfl, rfl⟩)] at hq
    go_enter Try.func8, Try.ntmps8
    go_wp2_with fail
    obtain ⟨b1, hx0⟩ := box1 w #[.slice A n c, .slice A' n' c'] 31
    generalize (w.alloc (.cells #[.slice A n c, .slice A' n' c'] 31)) = W at *
    obtain ⟨e0, e1⟩ := b1.c2
    go_wp2_with (first
      | (go_at_call 17; (with_reducible refine (SM.out _ hx0).mono ?_); rintro r w2 ⟨rfl, hx2⟩; (have b2 := b1.ext hx2); (obtain ⟨f0, f1⟩ := b2.c2); (have hx := hx0.tr hx2))
      | go_in)
    go_region_held3 (fun w' => w'.cell? ⟨w.heap.size, 0, none⟩ = some (.slice A n c) ∧ w'.cell? ⟨w.heap.size, 1, none⟩ = some (.slice A' n' c'))
      (first | go_keep | exact ⟨Ext.cell E f0, Ext.cell E f1⟩)
      (first
        | (go_at_call 12; (refine (awake14_c _).mono ?_); rintro r w3 ⟨rfl, hx3⟩; (have E : Ext w2 w3 := (Ext.drawn _).tr hx3); (replace hx := hx.tr E))
        | (go_at_call 36; (refine (V1.out _ hx).mono ?_); rintro r w3 ⟨rfl, hx3⟩; (replace E := E.tr hx3); (replace hx := hx.tr hx3))
        | (go_at_call 33; (refine (V2.out _ hx).mono ?_); rintro r w3 ⟨rfl, hx3⟩; (replace E := E.tr hx3); (replace hx := hx.tr hx3))
        | (go_at_call 31; (refine (H1.out _ hx).mono ?_); rintro r w3 ⟨rfl, hx3⟩; (replace E := E.tr hx3); (replace hx := hx.tr hx3))
        | (go_at_call 35; (refine (H2.out _ hx).mono ?_); rintro r w3 ⟨rfl, hx3⟩; (replace E := E.tr hx3); (replace hx := hx.tr hx3))
        | (go_at_call 37; (refine (D1.out _ hx).mono ?_); rintro r w3 ⟨A1, c1, rfl, S1, hc1, hx3⟩; (replace E := E.tr hx3); (replace hx := hx.tr hx3); (try replace S2 := S2.ext hx3))
        | (go_at_call 38; (refine (D2.out _ hx).mono ?_); rintro r w3 ⟨A2, c2, rfl, S2, hc2, hx3⟩; (replace E := E.tr hx3); (replace hx := hx.tr hx3); (try replace S1 := S1.ext hx3))
        | (go_at_call 25; (refine (SX.out _ _ _ _ _ S1 S2).mono ?_); rintro r w3 ⟨rfl, hx3⟩; (replace E := E.tr hx3); (replace hx := hx.tr hx3)))
    all_goals (go_wp2; go_ret; exact ⟨by first | rfl | simp, hx⟩)
  · rw [decide_eq_false hsm] at SM
    obtain ⟨A, c, A', c', rfl⟩ := hv.lit
    go_enter Try.func8, Try.ntmps8
    go_wp2_with fail
    obtain ⟨b1, hx0⟩ := box1 w #[.slice A x.es.length c, .slice A' x.ss.length c'] 31
    generalize (w.alloc (.cells #[.slice A x.es.length c, .slice A' x.ss.length c'] 31)) = W at *
    obtain ⟨e0, e1⟩ := b1.c2
    go_wp2_with (first
      | (go_at_call 17; (with_reducible refine (SM.out _ hx0).mono ?_); rintro r w2 ⟨rfl, hx2⟩; (have hxx := hx0.tr hx2))
      | (go_at_call 12; (with_reducible refine (awake14_c _).mono ?_); rintro r w5 ⟨rfl, hx5⟩; (replace hxx := hxx.tr hx5))
      | go_in)
    go_ret
    exact ⟨rfl, hxx⟩
end Go.Proofs.Ytaebindbadfaaaa

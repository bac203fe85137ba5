
/- The walk of RequestBack. -/
import Derived.Test.YtlfnpkjfnafeaaaDoorSm
import Derived.Test.YtlfnpkjfnafeaaaDoorZ3
namespace Go.Proofs.YtlfnpkjfnafeaaaDoor
open Go.RowKit
set_option linter.unusedVariables false
set_option linter.unusedSimpArgs false
set_option maxRecDepth 100000
theorem fmtE_pos (e : CL.Ex) (h : CL.Wf e) : 0 < (CL.fmtE e).length := by
  cases h with
  | atom a ha => simp only [CL.fmtE, if_true, CL.atxt]; split <;> simp <;> omega
  | group k kids hne h1 h2 h3 hk => simp only [CL.fmtE, if_neg hne]; simp; omega
theorem fmtQ_pos (q : CL.Rq) (h : CL.validQ q = true) : 0 < (CL.fmtQ q).length := by
  simp only [CL.validQ, Bool.and_eq_true] at h
  have := fmtE_pos q.e (CL.valid_wf h.1)
  simp only [CL.fmtQ, List.length_append]; omega
set_option maxHeartbeats 3200000 in
theorem RequestBack_w (q : CL.Rq) (cs : List Value) (w : World) (hT : T10 w) (hR : Rd w w.heap.size q.e cs) :
    Calls Tryd.prog 5 #[.agg (cs ++ [Value.int .i64 q.p, Value.int .i64 q.m]).toArray] w fun r w' => r = .returned (.bool true) ∧ Ext w w' := by
  have HFx := fun w' (hx : Ext w w') => request.Format_c q w' _ cs (hR.ext hx (Nat.le_refl _)) hx.size (hT.ext hx)
  have HVx := fun w' (hx : Ext w w') => clusterlocksref07.Valid_c q w' _ cs (hR.ext hx (Nat.le_refl _)) hx.size
  have HAx := fun w' (hx : Ext w w') => awake7_c w' (hT.ext hx)
  have HPx := fun w' (hs : (CL.fmtQ q).length ≤ maxLen) => request.Parse_c (CL.fmtQ q) w' hs
  have hRx := fun w' (hx : Ext w w') => (hR.ext hx (Nat.le_refl _)).le hx.size
  have HSx := fun w' ds (hx : Ext w w') (hS : Rd w' w'.heap.size q.e ds) => clusterlocksref07.SameRequest_c q w' ds cs hS (hRx w' hx)
  clear hRx
  obtain ⟨k, s, m, u, A1, l1, c1, rfl⟩ := hR.shape
  obtain ⟨bE, hx0⟩ := box1 w #[.int .i64 k, .string s, .int .i64 m, .int .i64 u, .slice A1 l1 c1, .int .i64 q.p, .int .i64 q.m] 30
  simp only [List.cons_append, List.nil_append] at *
  obtain ⟨e0, e1, e2, e3, e4, e5, e6⟩ := bE.c7
  cases hv : CL.validQ q
  · have hf : CL.fmt? q = [] := by unfold CL.fmt?; rw [hv]; rfl
    rw [hf] at HFx
    rw [hv] at HVx
    clear HPx HSx
    go_enter Tryd.func5, Tryd.ntmps5
    go_wp2_with (first
      | (go_at_call 20; refine (HFx _ hx0).mono ?_; rintro r w1 ⟨rfl, hx1⟩; have b1 := bE.ext hx1; replace hx1 := hx0.tr hx1; clear HFx e0 e1 e2 e3 e4 e5 e6; obtain ⟨e0, e1, e2, e3, e4, e5, e6⟩ := b1.c7)
      | (go_at_call 16; refine (HVx _ hx1).mono ?_; rintro r w2 ⟨rfl, hx2⟩; have b2 := b1.ext hx2; replace hx2 := hx1.tr hx2; clear hx1 b1 e0 e1 e2 e3 e4 e5 e6)
      | (go_at_call 12; refine (HAx _ hx2).mono ?_; rintro r w3 ⟨rfl, hx3⟩; have b3 := b2.ext hx3; replace hx3 := hx2.tr hx3; obtain ⟨e0, e1, e2, e3, e4, e5, e6⟩ := b3.c7)
      | (go_at_call 16; refine (HVx _ hx3).mono ?_; rintro r w4 ⟨rfl, hx4⟩; replace hx4 := hx3.tr hx4))
    go_ret
    exact ⟨rfl, hx4⟩
  · have hf : CL.fmt? q = CL.fmtQ q := by unfold CL.fmt?; rw [hv]; rfl
    have hlen := CL.fmtQ_len hv
    have hpos := fmtQ_pos q hv
    have hpb := CL.parse_back hv
    rw [hf] at HFx
    rw [hv] at HVx
    unfold ParsePost at HPx
    rw [hpb] at HPx
    generalize CL.fmtQ q = t at *
    have hlg : decide (1024 < t.length) = false := by simp; omega
    go_enter Tryd.func5, Tryd.ntmps5
    go_wp2_with (first
      | (go_at_call 20; refine (HFx _ hx0).mono ?_; rintro r w1 ⟨rfl, hx1⟩; have b1 := bE.ext hx1; replace hx1 := hx0.tr hx1; clear HFx e0 e1 e2 e3 e4 e5 e6; obtain ⟨e0, e1, e2, e3, e4, e5, e6⟩ := b1.c7)
      | (go_at_call 16; refine (HVx _ hx1).mono ?_; rintro r w2 ⟨rfl, hx2⟩; have b2 := b1.ext hx2; replace hx2 := hx1.tr hx2; clear hx1 b1 e0 e1 e2 e3 e4 e5 e6))
    refine (HPx _ (by unfold maxLen; omega)).mono ?_
    rintro r w3 ⟨ds, rfl, hS, hx3⟩
    have b3 := b2.ext hx3
    replace hx3 := hx2.tr hx3
    have hS := hS.rd
    have hSx := fun w' (hx : Ext w3 w') => (hS.ext hx (Nat.le_refl _)).le hx.size
    have HSx := fun w' (hx : Ext w3 w') => HSx w' ds (hx3.tr hx) (hSx w' hx)
    clear HPx HVx b2
    obtain ⟨k', s', m', u', A2, l2, c2, rfl⟩ := hS.shape
    have bR := Blk.new w3 30 #[.int .i64 k', .string s', .int .i64 m', .int .i64 u', .slice A2 l2 c2, .int .i64 q.p, .int .i64 q.m]
    have hxn := Ext.new w3 (.cells #[.int .i64 k', .string s', .int .i64 m', .int .i64 u', .slice A2 l2 c2, .int .i64 q.p, .int .i64 q.m] 30)
    simp only [List.cons_append, List.nil_append] at *
    go_wp2_with fail
    generalize w3.alloc (.cells #[.int .i64 k', .string s', .int .i64 m', .int .i64 u', .slice A2 l2 c2, .int .i64 q.p, .int .i64 q.m] 30) = W3 at *
    have b3' := b3.ext hxn
    refine (HAx W3 (hx3.tr hxn)).mono ?_
    rintro r w4 ⟨rfl, hx4⟩
    obtain ⟨e0, e1, e2, e3, e4, e5, e6⟩ := (b3'.ext hx4).c7
    obtain ⟨f0, f1, f2, f3, f4, f5, f6⟩ := (bR.ext hx4).c7
    have HS4 := HSx w4 (hxn.tr hx4)
    go_wp2_with (go_at_call 19; refine HS4.mono ?_; rintro r w5 ⟨rfl, hx5⟩; replace hx5 := hx3.tr (hxn.tr (hx4.tr hx5)))
    go_ret
    exact ⟨rfl, hx5⟩
end Go.Proofs.YtlfnpkjfnafeaaaDoor

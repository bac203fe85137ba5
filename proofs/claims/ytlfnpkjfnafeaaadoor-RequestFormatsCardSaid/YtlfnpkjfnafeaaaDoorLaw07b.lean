
/- The walk of RequestFormats. -/
import Derived.Test.YtlfnpkjfnafeaaaDoorTx2
namespace Go.Proofs.YtlfnpkjfnafeaaaDoor
open Go.RowKit
set_option linter.unusedVariables false
set_option linter.unusedSimpArgs false
set_option maxRecDepth 100000
set_option maxHeartbeats 1600000 in
theorem RequestFormats_w (q : CL.Rq) (cs : List Value) (w : World) (hT : T10 w) (hR : Rd w w.heap.size q.e cs) :
    Calls Tryd.prog 11 #[.agg (cs ++ [Value.int .i64 q.p, Value.int .i64 q.m]).toArray] w fun r w' => r = .returned (.bool true) ∧ Ext w w' := by
  obtain ⟨k, s, m, u, A1, l1, c1, rfl⟩ := hR.shape
  obtain ⟨bE, hx0⟩ := box1 w #[.int .i64 k, .string s, .int .i64 m, .int .i64 u, .slice A1 l1 c1, .int .i64 q.p, .int .i64 q.m] 30
  have hz0 := hx0.size
  simp only [List.cons_append, List.nil_append]
  go_enter Tryd.func11, Tryd.ntmps11
  go_wp2_with fail
  generalize (w.alloc (.cells #[.int .i64 k, .string s, .int .i64 m, .int .i64 u, .slice A1 l1 c1, .int .i64 q.p, .int .i64 q.m] 30)) = W at *
  obtain ⟨e0, e1, e2, e3, e4, e5, e6⟩ := bE.c7
  have q0 := ExtOf.cell e0
  have q1 := ExtOf.cell e1
  have q2 := ExtOf.cell e2
  have q3 := ExtOf.cell e3
  have q4 := ExtOf.cell e4
  have q5 := ExtOf.cell e5
  have q6 := ExtOf.cell e6
  have hRx := fun x : ExtOf W => (hR.ext hx0 (Nat.le_refl _)).ext x.ext hz0
  have hZx := fun x : ExtOf W => Nat.le_trans hz0 x.ext.size
  have HA := Lib.hid (fun x : ExtOf W => awake7_c x.val ((hT.ext hx0).ext x.ext))
  have HE := Lib.hid (fun x : ExtOf W => request.FormatExpr_c q.e _ _ _ (hRx x) (hZx x))
  have HE2 := Lib.hid (fun x : ExtOf W => clusterlocksref07.FormatExpr_c q.e _ _ _ (hRx x) (hZx x))
  have HV := Lib.hid (fun x : ExtOf W => request.Format_c q _ _ _ (hRx x) (hZx x) ((hT.ext hx0).ext x.ext))
  have HV2 := Lib.hid (fun x : ExtOf W => clusterlocksref07.Format_c q _ _ _ (hRx x) (hZx x))
  refine wp_region_ext_lit (by kernel_rfl) (by kernel_rfl) ?_
  repeat (go_big_quiet_step ((first
    | (go_at_call 12; exact xqX (HA.out _))
    | (go_at_call 29; exact xqX (HE.out _))
    | (go_at_call 30; exact xqX (HE2.out _))
    | (go_at_call 20; exact xqX (HV.out _))
    | (go_at_call 24; exact xqX (HV2.out _)))))
  refine wpQuiet_nil ?_
  intro wq hw'
  obtain ⟨⟨wq', hxq⟩, hw''⟩ := hw'
  subst hw''
  go_wp2
  go_ret
  exact ⟨rfl, hx0.tr hxq⟩
end Go.Proofs.YtlfnpkjfnafeaaaDoor

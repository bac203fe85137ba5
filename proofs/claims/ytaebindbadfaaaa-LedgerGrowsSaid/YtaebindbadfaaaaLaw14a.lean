
/- Ledger: the walk of LedgerGrows. -/
import Derived.Test.YtaebindbadfaaaaLx14
namespace Go.Proofs.Ytaebindbadfaaaa
open Go.RowKit
set_option linter.unusedVariables false
set_option linter.unusedSimpArgs false
set_option maxHeartbeats 6400000 in
set_option maxRecDepth 100000 in
theorem LedgerGrows_w (a b c : CL.Am) (w : World) : Calls Try.prog 3 #[.agg #[.int .i64 a.m, .int .i64 a.u], .agg #[.int .i64 b.m, .int .i64 b.u], .agg #[.int .i64 c.m, .int .i64 c.u]] w fun r w' => r = .returned (.bool true) ∧ Ext w w' := by
  have GAB := Lib.hid (fun W => ledger.Grows_c a.m a.u b.m b.u W)
  have GBC := Lib.hid (fun W => ledger.Grows_c b.m b.u c.m c.u W)
  have GAC := Lib.hid (fun W => ledger.Grows_c a.m a.u c.m c.u W)
  have GBA := Lib.hid (fun W => ledger.Grows_c b.m b.u a.m a.u W)
  have RAB := Lib.hid (fun W => clusterlocksref14.Grows_c a.m a.u b.m b.u W)
  have FA := Lib.hid (fun W => ledger.Fits_c a.m a.u W)
  have UA := Lib.hid (fun W => clusterlocksref07.Usable_c a.m a.u W)
  have H1 := Lib.hid (fun h1 h2 => CL.grows_trans (a := ⟨a.m, a.u⟩) (b := ⟨b.m, b.u⟩) (c := ⟨c.m, c.u⟩) h1 h2)
  have H2 := Lib.hid (fun h => CL.grows_asym (a := ⟨a.m, a.u⟩) (b := ⟨b.m, b.u⟩) h)
  generalize CL.grows ⟨a.m, a.u⟩ ⟨b.m, b.u⟩ = g1 at *
  generalize CL.grows ⟨b.m, b.u⟩ ⟨c.m, c.u⟩ = g2 at *
  generalize CL.grows ⟨a.m, a.u⟩ ⟨c.m, c.u⟩ = g3 at *
  generalize CL.grows ⟨b.m, b.u⟩ ⟨a.m, a.u⟩ = g4 at *
  generalize CL.usable ⟨a.m, a.u⟩ = u1 at *
  go_enter Try.func3, Try.ntmps3
  go_wp2_with fail
  obtain ⟨b1, b2, b3, hx0⟩ := box3 w #[.int .i64 a.m, .int .i64 a.u] 23 #[.int .i64 b.m, .int .i64 b.u] 23 #[.int .i64 c.m, .int .i64 c.u] 23
  generalize (((w.alloc (.cells #[.int .i64 a.m, .int .i64 a.u] 23)).alloc (.cells #[.int .i64 b.m, .int .i64 b.u] 23)).alloc (.cells #[.int .i64 c.m, .int .i64 c.u] 23)) = W at *
  obtain ⟨s0, s1⟩ := b1.c2
  obtain ⟨x0, x1⟩ := b2.c2
  obtain ⟨l0, l1⟩ := b3.c2
  have q1 := ExtOf.cell s0
  have q2 := ExtOf.cell s1
  have q3 := ExtOf.cell x0
  have q4 := ExtOf.cell x1
  have q5 := ExtOf.cell l0
  have q6 := ExtOf.cell l1
  clear b1 b2 b3 s0 s1 x0 x1 l0 l1
  cases g1
  · refine wp_region_ext_lit (by kernel_rfl) (by kernel_rfl) ?_
    repeat (go_big_quiet_step (first
      | (go_at_call 12; exact xqX (awake14_c _))
      | (go_at_call 13; exact xqX (FA.out _))
      | (go_at_call 14; exact xqX (UA.out _))
      | (go_at_call 16; exact xqX (RAB.out _))
      | (go_at_call 15; with_reducible exact xqX (GAB.out _))
      | (go_at_call 15; with_reducible exact xqX (GBC.out _))
      | (go_at_call 15; with_reducible exact xqX (GAC.out _))
      | (go_at_call 15; with_reducible exact xqX (GBA.out _))))
    refine wpQuiet_nil ?_
    intro wq hw'
    obtain ⟨⟨wq', hxq⟩, hw''⟩ := hw'
    subst hw''
    go_wp2
    go_ret
    exact ⟨rfl, hx0.tr hxq⟩
  · have h4 := H2.out rfl
    subst h4
    cases g2
    · refine wp_region_ext_lit (by kernel_rfl) (by kernel_rfl) ?_
      repeat (go_big_quiet_step (first
        | (go_at_call 12; exact xqX (awake14_c _))
        | (go_at_call 13; exact xqX (FA.out _))
        | (go_at_call 14; exact xqX (UA.out _))
        | (go_at_call 16; exact xqX (RAB.out _))
        | (go_at_call 15; with_reducible exact xqX (GAB.out _))
        | (go_at_call 15; with_reducible exact xqX (GBC.out _))
        | (go_at_call 15; with_reducible exact xqX (GAC.out _))
        | (go_at_call 15; with_reducible exact xqX (GBA.out _))))
      refine wpQuiet_nil ?_
      intro wq hw'
      obtain ⟨⟨wq', hxq⟩, hw''⟩ := hw'
      subst hw''
      go_wp2
      go_ret
      exact ⟨rfl, hx0.tr hxq⟩
    · have h3 := H1.out rfl rfl
      subst h3
      refine wp_region_ext_lit (by kernel_rfl) (by kernel_rfl) ?_
      repeat (go_big_quiet_step (first
        | (go_at_call 12; exact xqX (awake14_c _))
        | (go_at_call 13; exact xqX (FA.out _))
        | (go_at_call 14; exact xqX (UA.out _))
        | (go_at_call 16; exact xqX (RAB.out _))
        | (go_at_call 15; with_reducible exact xqX (GAB.out _))
        | (go_at_call 15; with_reducible exact xqX (GBC.out _))
        | (go_at_call 15; with_reducible exact xqX (GAC.out _))
        | (go_at_call 15; with_reducible exact xqX (GBA.out _))))
      refine wpQuiet_nil ?_
      intro wq hw'
      obtain ⟨⟨wq', hxq⟩, hw''⟩ := hw'
      subst hw''
      go_wp2
      go_ret
      exact ⟨rfl, hx0.tr hxq⟩
end Go.Proofs.Ytaebindbadfaaaa

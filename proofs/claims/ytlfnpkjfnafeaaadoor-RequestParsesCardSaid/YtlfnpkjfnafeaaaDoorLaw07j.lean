
/- The walk of RequestParses. -/
import Derived.Test.YtlfnpkjfnafeaaaDoorRp
import Derived.Test.YtlfnpkjfnafeaaaDoorLw6
import Derived.Test.YtlfnpkjfnafeaaaDoorSm
import Derived.Test.YtlfnpkjfnafeaaaDoorZ10
namespace Go.Proofs.YtlfnpkjfnafeaaaDoor
open Go.RowKit
set_option linter.unusedVariables false
set_option linter.unusedSimpArgs false
set_option maxRecDepth 100000
theorem clusterlocksref07.Parse_c (s : List UInt8) (w : World) (hs : s.length ≤ maxLen) : Calls Tryd.prog 18 #[.string ⟨s.toArray⟩] w (ParsePost s w) := by
  by_cases he : (CL.tokens s).2.2 = 0
  · exact rParse_ok s w (fun w => RTokens_c s w hs) he
  · exact rParse_lex s w (fun w => RTokens_c s w hs) he
set_option maxHeartbeats 3200000 in
theorem RequestParses_w (t : List UInt8) (w : World) (hT : T10 w) (hs : t.length ≤ maxLen) :
    Calls Tryd.prog 4 #[.string ⟨t.toArray⟩] w fun r w' => r = .returned (.bool true) ∧ Ext w w' := by
  have HP1 := fun w' => request.Parse_c t w' hs
  have HP2 := fun w' => clusterlocksref07.Parse_c t w' hs
  have HAx := fun w' (hx : Ext w w') => awake7_c w' (hT.ext hx)
  unfold ParsePost at HP1 HP2
  generalize CL.parseS t = pr at HP1 HP2
  obtain ⟨q, p0, e0⟩ := pr
  dsimp only at HP1 HP2
  replace HP1 := Lib.hid HP1
  replace HP2 := Lib.hid HP2
  replace HAx := Lib.hid HAx
  go_enter Tryd.func4, Tryd.ntmps4
  go_wp2_with fail
  refine (HP1.out w).mono ?_
  rintro r w1 ⟨ds, rfl, hS, hx1⟩
  have hS := hS.rd
  obtain ⟨k', s', m', u', A2, l2, c2, rfl⟩ := hS.shape
  simp only [List.cons_append, List.nil_append]
  have bR := Blk.new w1 30 #[.int .i64 k', .string s', .int .i64 m', .int .i64 u', .slice A2 l2 c2, .int .i64 q.p, .int .i64 q.m]
  have hxn := Ext.new w1 (.cells #[.int .i64 k', .string s', .int .i64 m', .int .i64 u', .slice A2 l2 c2, .int .i64 q.p, .int .i64 q.m] 30)
  have hS1 := hS.ext hxn (Nat.le_refl _)
  have hzn := hxn.size
  replace hxn := hx1.tr hxn
  clear hS hx1
  go_wp2_with fail
  generalize hg1 : w1.heap.size = g1 at *
  generalize w1.alloc (.cells #[.int .i64 k', .string s', .int .i64 m', .int .i64 u', .slice A2 l2 c2, .int .i64 q.p, .int .i64 q.m] 30) = W1 at *
  refine (HP2.out W1).mono ?_
  rintro r w2 ⟨cs, rfl, hS2, hx2⟩
  have hS2 := hS2.rd
  obtain ⟨k3, s3, m3, u3, A3, l3, c3, rfl⟩ := hS2.shape
  simp only [List.cons_append, List.nil_append]
  have bQ := Blk.new w2 30 #[.int .i64 k3, .string s3, .int .i64 m3, .int .i64 u3, .slice A3 l3 c3, .int .i64 q.p, .int .i64 q.m]
  have hxn2 := Ext.new w2 (.cells #[.int .i64 k3, .string s3, .int .i64 m3, .int .i64 u3, .slice A3 l3 c3, .int .i64 q.p, .int .i64 q.m] 30)
  have hz2 := hx2.size
  have hzn2 := hxn2.size
  have hS3 := (hS1.ext hx2 hzn).ext hxn2 (by omega)
  have hS4 := hS2.ext hxn2 (Nat.le_refl _)
  have bR2 := (bR.ext hx2).ext hxn2
  have hxf := (hxn.tr hx2).tr hxn2
  clear hS1 hS2 bR hxn hx2 hxn2
  go_wp2_with fail
  generalize hg2 : w2.heap.size = g2 at *
  generalize w2.alloc (.cells #[.int .i64 k3, .string s3, .int .i64 m3, .int .i64 u3, .slice A3 l3 c3, .int .i64 q.p, .int .i64 q.m] 30) = W2 at *
  have hee : (e0 == e0) = true := by simp
  have hpp : (p0 == p0) = true := by simp
  have HSx := fun w' (h1 : Rd w' w'.heap.size q.e [.int .i64 k', .string s', .int .i64 m', .int .i64 u', .slice A2 l2 c2]) (h2 : Rd w' w'.heap.size q.e [.int .i64 k3, .string s3, .int .i64 m3, .int .i64 u3, .slice A3 l3 c3]) => clusterlocksref07.SameRequest_c q w' _ _ h1 h2
  simp only [List.cons_append, List.nil_append] at HSx
  replace HSx := Lib.hid HSx
  have hS3 := Lib.hid hS3
  have hS4 := Lib.hid hS4
  go_wp2_with (first
    | (go_at_call 12; refine (HAx.out _ hxf).mono ?_; rintro r w5 ⟨rfl, hx5⟩; obtain ⟨e0, e1, e2, e3, e4, e5, e6⟩ := (bR2.ext hx5).c7; obtain ⟨f0, f1, f2, f3, f4, f5, f6⟩ := (bQ.ext hx5).c7; have hz5 := hx5.size)
    | (go_at_call 19; refine (HSx.out _ ((hS3.out.ext hx5 (by omega)).le (by omega)) ((hS4.out.ext hx5 (by omega)).le (by omega))).mono ?_; rintro r w6 ⟨rfl, hx6⟩))
  go_ret
  exact ⟨rfl, (hxf.tr hx5).tr hx6⟩
end Go.Proofs.YtlfnpkjfnafeaaaDoor

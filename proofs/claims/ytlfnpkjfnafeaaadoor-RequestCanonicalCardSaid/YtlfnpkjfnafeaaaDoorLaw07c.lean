
/- The walk of RequestCanonical. -/
import Derived.Test.YtlfnpkjfnafeaaaDoorTx2
import Derived.Test.YtlfnpkjfnafeaaaDoorLaw07a
import Derived.Test.YtlfnpkjfnafeaaaDoorZ3
namespace Go.Proofs.YtlfnpkjfnafeaaaDoor
open Go.RowKit
set_option linter.unusedVariables false
set_option linter.unusedSimpArgs false
set_option maxRecDepth 100000
set_option maxHeartbeats 3200000 in
theorem RequestCanonical_w (t : List UInt8) (w : World) (hT : T10 w) (hs : t.length ≤ maxLen) :
    Calls Tryd.prog 7 #[.string ⟨t.toArray⟩] w fun r w' => r = .returned (.bool true) ∧ Ext w w' := by
  have HP0 := request.Parse_c t w hs
  have HAx := fun w' (hx : Ext w w') => awake7_c w' (hT.ext hx)
  unfold ParsePost at HP0
  by_cases he : (CL.parseS t).2.2 = 0
  · have hval := CL.parseS_validQ he
    generalize hpq : CL.parseS t = pr at *
    obtain ⟨q, p0, e0⟩ := pr
    simp only at *
    subst he
    have hpb := CL.parse_back hval
    have hlen := CL.fmtQ_len hval
    have hf : CL.fmt? q = CL.fmtQ q := by unfold CL.fmt?; rw [hval]; rfl
    have hlg : decide (1024 < (CL.fmtQ q).length) = false := by simp; omega
    have HPx := fun w' (hs : (CL.fmtQ q).length ≤ maxLen) => request.Parse_c (CL.fmtQ q) w' hs
    unfold ParsePost at HPx
    rw [hpb] at HPx
    have HFx := fun w' cs (hx : Ext w w') (h : Rd w' w'.heap.size q.e cs) => request.Format_c q w' _ cs h (Nat.le_refl _) (hT.ext hx)
    rw [hf] at HFx
    generalize CL.fmtQ q = tx at *
    go_enter Tryd.func7, Tryd.ntmps7
    go_wp2_with fail
    refine HP0.mono ?_
    rintro r w1 ⟨ds, rfl, hS, hx1⟩
    have hS := hS.rd
    have hSx := fun w' (hx : Ext w1 w') => (hS.ext hx (Nat.le_refl _)).le hx.size
    have HFx1 := fun w' (hx : Ext w1 w') => HFx w' ds (hx1.tr hx) (hSx w' hx)
    have HVx1 := fun w' (hx : Ext w1 w') => request.Valid_c q w' _ ds (hSx w' hx) (Nat.le_refl _)
    rw [hval] at HVx1
    have HSx := fun w' cs (hx : Ext w1 w') (h : Rd w' w'.heap.size q.e cs) => clusterlocksref07.SameRequest_c q w' cs ds h (hSx w' hx)
    obtain ⟨k', s', m', u', A2, l2, c2, rfl⟩ := hS.shape
    have bR := Blk.new w1 30 #[.int .i64 k', .string s', .int .i64 m', .int .i64 u', .slice A2 l2 c2, .int .i64 q.p, .int .i64 q.m]
    have hxn := Ext.new w1 (.cells #[.int .i64 k', .string s', .int .i64 m', .int .i64 u', .slice A2 l2 c2, .int .i64 q.p, .int .i64 q.m] 30)
    simp only [List.cons_append, List.nil_append] at *
    go_wp2_with fail
    generalize w1.alloc (.cells #[.int .i64 k', .string s', .int .i64 m', .int .i64 u', .slice A2 l2 c2, .int .i64 q.p, .int .i64 q.m] 30) = W1 at *
    refine (HFx1 W1 hxn).mono ?_
    rintro r w2 ⟨rfl, hx2⟩
    have b2 := bR.ext hx2
    replace hx2 := hxn.tr hx2
    go_wp2_with fail
    refine (HPx _ (by unfold maxLen; omega)).mono ?_
    rintro r w3 ⟨cs, rfl, hS3, hx3⟩
    have b3 := b2.ext hx3
    replace hx3 := hx2.tr hx3
    have hS3 := hS3.rd
    have hSx3 := fun w' (hx : Ext w3 w') => (hS3.ext hx (Nat.le_refl _)).le hx.size
    have HFx3 := fun w' (hx : Ext w3 w') => HFx w' cs (hx1.tr (hx3.tr hx)) (hSx3 w' hx)
    have HSx3 := fun w' (hx : Ext w3 w') => HSx w' cs (hx3.tr hx) (hSx3 w' hx)
    obtain ⟨k3, s3, m3, u3, A3, l3, c3, rfl⟩ := hS3.shape
    have bR3 := Blk.new w3 30 #[.int .i64 k3, .string s3, .int .i64 m3, .int .i64 u3, .slice A3 l3 c3, .int .i64 q.p, .int .i64 q.m]
    have hxn3 := Ext.new w3 (.cells #[.int .i64 k3, .string s3, .int .i64 m3, .int .i64 u3, .slice A3 l3 c3, .int .i64 q.p, .int .i64 q.m] 30)
    simp only [List.cons_append, List.nil_append] at *
    go_wp2_with fail
    generalize w3.alloc (.cells #[.int .i64 k3, .string s3, .int .i64 m3, .int .i64 u3, .slice A3 l3 c3, .int .i64 q.p, .int .i64 q.m] 30) = W3 at *
    have b4 := b3.ext hxn3
    refine (HAx W3 (hx1.tr (hx3.tr hxn3))).mono ?_
    rintro r w4 ⟨rfl, hx4⟩
    replace b4 := b4.ext hx4
    have d4 := bR3.ext hx4
    replace hx4 := hxn3.tr hx4
    obtain ⟨e0, e1, e2, e3, e4, e5, e6⟩ := b4.c7
    have HV4 := HVx1 w4 (hx3.tr hx4)
    go_wp2_with fail
    refine HV4.mono ?_
    rintro r w5 ⟨rfl, hx5⟩
    replace b4 := b4.ext hx5
    replace d4 := d4.ext hx5
    replace hx5 := hx4.tr hx5
    clear e0 e1 e2 e3 e4 e5 e6
    obtain ⟨e0, e1, e2, e3, e4, e5, e6⟩ := b4.c7
    obtain ⟨f0, f1, f2, f3, f4, f5, f6⟩ := d4.c7
    have HS5 := HSx3 w5 hx5
    go_wp2_with fail
    refine HS5.mono ?_
    rintro r w6 ⟨rfl, hx6⟩
    replace d4 := d4.ext hx6
    replace hx6 := hx5.tr hx6
    clear e0 e1 e2 e3 e4 e5 e6 f0 f1 f2 f3 f4 f5 f6
    obtain ⟨f0, f1, f2, f3, f4, f5, f6⟩ := d4.c7
    have HF6 := HFx3 w6 hx6
    go_wp2_with fail
    refine HF6.mono ?_
    rintro r w7 ⟨rfl, hx7⟩
    replace hx7 := hx1.tr (hx3.tr (hx6.tr hx7))
    go_wp2_with fail
    go_ret
    exact ⟨rfl, hx7⟩
  · have hpe := CL.parseS_err he
    generalize hpq : CL.parseS t = pr at *
    obtain ⟨q, p0, e0⟩ := pr
    simp only at *
    subst hpe
    have hed : (e0 == 0) = false := by simpa using he
    go_enter Tryd.func7, Tryd.ntmps7
    go_wp2_with fail
    refine HP0.mono ?_
    rintro r w1 ⟨ds, rfl, hS, hx1⟩
    have hS := hS.rd
    have hSx := fun w' (hx : Ext w1 w') => (hS.ext hx (Nat.le_refl _)).le hx.size
    have HSx := fun w' (hx : Ext w1 w') => clusterlocksref07.SameRequest_c CL.noRq w' ds _ (hSx w' hx) (RdF.leaf w' 0 w'.heap.size [] 0 CL.noAt (by simp [CL.noAt])).rd
    obtain ⟨k', s', m', u', A2, l2, c2, rfl⟩ := hS.shape
    have bR := Blk.new w1 30 #[.int .i64 k', .string s', .int .i64 m', .int .i64 u', .slice A2 l2 c2, .int .i64 CL.noRq.p, .int .i64 CL.noRq.m]
    have hxn := Ext.new w1 (.cells #[.int .i64 k', .string s', .int .i64 m', .int .i64 u', .slice A2 l2 c2, .int .i64 CL.noRq.p, .int .i64 CL.noRq.m] 30)
    simp only [List.cons_append, List.nil_append] at *
    go_wp2_with fail
    generalize w1.alloc (.cells #[.int .i64 k', .string s', .int .i64 m', .int .i64 u', .slice A2 l2 c2, .int .i64 CL.noRq.p, .int .i64 CL.noRq.m] 30) = W1 at *
    refine (HAx W1 (hx1.tr hxn)).mono ?_
    rintro r w2 ⟨rfl, hx2⟩
    have b2 := bR.ext hx2
    replace hx2 := hxn.tr hx2
    obtain ⟨e0, e1, e2, e3, e4, e5, e6⟩ := b2.c7
    have HS2 := HSx w2 hx2
    go_wp2_with fail
    refine HS2.mono ?_
    rintro r w3 ⟨rfl, hx3⟩
    replace hx3 := hx1.tr (hx2.tr hx3)
    go_wp2_with fail
    go_ret
    exact ⟨rfl, hx3⟩
end Go.Proofs.YtlfnpkjfnafeaaaDoor

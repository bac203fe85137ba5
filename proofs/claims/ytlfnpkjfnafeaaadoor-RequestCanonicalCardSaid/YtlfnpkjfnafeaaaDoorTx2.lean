
/- The walks of the reference's FormatExpr and Format, and of RequestFormats. -/
import Derived.Test.YtlfnpkjfnafeaaaDoorTx
namespace Go.Proofs.YtlfnpkjfnafeaaaDoor
open Go.RowKit
set_option linter.unusedVariables false
set_option linter.unusedSimpArgs false
set_option maxRecDepth 100000
set_option maxHeartbeats 1600000 in
theorem clusterlocksref07.FormatExpr_c (e : CL.Ex) (w : World) (B : Nat) (cs : List Value) (hR : Rd w B e cs) (hB : B ≤ w.heap.size) :
    Calls Tryd.prog 30 #[.agg cs.toArray] w fun r w' => r = .returned (.string ⟨(CL.fmtX? e).toArray⟩) ∧ Ext w w' := by
  have hRx := fun w' (hx : Ext w w') => hR.ext hx hB
  obtain ⟨k, s, m, u, A, l, c, rfl⟩ := hR.shape
  have hx0 := Ext.new w (.cells #[.int .i64 k, .string s, .int .i64 m, .int .i64 u, .slice A l c] 28)
  have bE := Blk.new w 28 #[.int .i64 k, .string s, .int .i64 m, .int .i64 u, .slice A l c]
  have H := clusterlocksref07.ValidExpr_c e _ B _ (hRx _ hx0) (by simp only [World.size_alloc]; omega)
  have hX : CL.fmtX? e = if CL.valid e then CL.fmtE e else [] := rfl
  cases hv : CL.valid e
  · rw [hv] at hX H
    have hX := Lib.hid hX
    go_enter Tryd.func30, Tryd.ntmps30
    go_wp2_with (go_at_call 14; refine H.mono ?_; rintro r w1 ⟨rfl, hx1⟩)
    go_ret
    refine ⟨?_, hx0.tr hx1⟩
    rw [hX.out]; simp
  · have hz := fmtX_size hv
    have hwf := CL.valid_wf hv
    rw [hv] at hX H
    have hX := Lib.hid hX
    have HX := fun w' (hx : Ext w w') => clusterlocksref07.text_c e hwf w' B _ (hRx w' hx) (by have := hx.size; omega) (by omega)
    clear hRx hR
    go_enter Tryd.func30, Tryd.ntmps30
    go_wp2_with (first
      | (go_at_call 14; refine H.mono ?_; rintro r w1 ⟨rfl, hx1⟩; obtain ⟨e0, e1, e2, e3, e4⟩ := (bE.ext hx1).c5; replace hx1 := hx0.tr hx1)
      | (go_at_call 48; refine (HX _ hx1).mono ?_; rintro r w2 ⟨rfl, hx2⟩; replace hx2 := hx1.tr hx2))
    go_ret
    refine ⟨?_, hx2⟩
    rw [hX.out]; simp
set_option maxHeartbeats 3200000 in
theorem clusterlocksref07.Format_c (q : CL.Rq) (w : World) (B : Nat) (cs : List Value) (hR : Rd w B q.e cs) (hB : B ≤ w.heap.size) :
    Calls Tryd.prog 24 #[.agg (cs ++ [Value.int .i64 q.p, Value.int .i64 q.m]).toArray] w fun r w' => r = .returned (.string ⟨(CL.fmt? q).toArray⟩) ∧ Ext w w' := by
  obtain ⟨e, p, m0⟩ := q
  have Hq := fun w' hx => clusterlocksref07.Valid_c ⟨e, p, m0⟩ w' B cs (hR.ext (w' := w') hx hB)
  simp only at *
  have hRx := fun w' (hx : Ext w w') => hR.ext hx hB
  obtain ⟨k, s, m, u, A, l, c, rfl⟩ := hR.shape
  have hx0 := Ext.new w (.cells #[.int .i64 k, .string s, .int .i64 m, .int .i64 u, .slice A l c, .int .i64 p, .int .i64 m0] 30)
  have bE := Blk.new w 30 #[.int .i64 k, .string s, .int .i64 m, .int .i64 u, .slice A l c, .int .i64 p, .int .i64 m0]
  have H := Hq _ hx0 (by simp only [World.size_alloc]; omega)
  clear Hq
  simp only [List.cons_append, List.nil_append] at H
  obtain ⟨e0, e1, e2, e3, e4, e5, e6⟩ := bE.c7
  cases hv : CL.validQ ⟨e, p, m0⟩
  · have hX : CL.fmt? ⟨e, p, m0⟩ = [] := by unfold CL.fmt?; rw [hv]; rfl
    rw [hv] at H
    go_enter Tryd.func24, Tryd.ntmps24
    go_wp2_with (go_at_call 16; refine H.mono ?_; rintro r w1 ⟨rfl, hx1⟩)
    go_ret
    refine ⟨?_, hx0.tr hx1⟩
    rw [hX]; simp
  · have hX : CL.fmt? ⟨e, p, m0⟩ = CL.fmtE e ++ CL.numTxt CL.wPrio p ++ CL.numTxt CL.wLimit m0 := by unfold CL.fmt?; rw [hv]; rfl
    rw [hv] at H
    simp only [CL.validQ, Bool.and_eq_true, decide_eq_true_eq] at hv
    obtain ⟨hve, hp1, hp2, hm1, hm2⟩ := hv
    have hz := fmtX_size hve
    have hwf := CL.valid_wf hve
    have hlen := CL.fmtE_len hwf
    have HX := fun w' (hx : Ext w w') => clusterlocksref07.text_c e hwf w' B _ (hRx w' hx) (by have := hx.size; omega) (by omega)
    clear hRx hR
    have hX := Lib.hid hX
    have hd1 := digits_len hp1 (by omega)
    have hd2 := digits_len hm1 hm2
    have hD1 := fun w' => clusterlocksref02.Decimal_c p hp1 (by omega) w'
    have hD2 := fun w' => clusterlocksref02.Decimal_c m0 hm1 (by omega) w'
    generalize CL.fmtE e = te at *
    by_cases hp : p = 0
    · by_cases hm : m0 = 0
      · subst hp
        have Q1 : CL.numTxt CL.wPrio 0 = [] := rfl
        subst hm
        have Q2 : CL.numTxt CL.wLimit 0 = [] := rfl
        have Q := Lib.hid (And.intro Q1 Q2)
        clear Q1 Q2
        go_enter Tryd.func24, Tryd.ntmps24
        go_wp2_with (first
          | (go_at_call 16; refine H.mono ?_; rintro r w1 ⟨rfl, hx1⟩; have b1 := bE.ext hx1; replace hx1 := hx0.tr hx1; clear e0 e1 e2 e3 e4 e5 e6; obtain ⟨e0, e1, e2, e3, e4, e5, e6⟩ := b1.c7)
          | (go_at_call 48; refine (HX _ hx1).mono ?_; rintro r w2 ⟨rfl, hx2⟩; have b2 := b1.ext hx2; replace hx2 := hx1.tr hx2; clear e0 e1 e2 e3 e4 e5 e6 b1 hx1; obtain ⟨e0, e1, e2, e3, e4, e5, e6⟩ := b2.c7))
        go_ret
        refine ⟨?_, hx2⟩
        rw [hX.out, Q.out.1, Q.out.2]
        simp
      · subst hp
        have Q1 : CL.numTxt CL.wPrio 0 = [] := rfl
        have hmb : (m0 == 0) = false := by simpa using hm
        have Q2 : CL.numTxt CL.wLimit m0 = [32, 108, 105, 109, 105, 116, 32] ++ CL.digits m0.toNat := if_neg hm
        have g3 : ¬ (9223372036854775807 < te.length + 7) := by omega
        have g4 : ¬ (9223372036854775807 < te.length + 7 + (CL.digits m0.toNat).length) := by omega
        have a3 : (⟨te.toArray⟩ : ByteArray) ++ ⟨#[32, 108, 105, 109, 105, 116, 32]⟩ = ⟨(te ++ [32, 108, 105, 109, 105, 116, 32]).toArray⟩ := bytes_add _ [32, 108, 105, 109, 105, 116, 32]
        have a4 : (⟨(te ++ [32, 108, 105, 109, 105, 116, 32]).toArray⟩ : ByteArray) ++ ⟨(CL.digits m0.toNat).toArray⟩ = ⟨(te ++ ([32, 108, 105, 109, 105, 116, 32] ++ CL.digits m0.toNat)).toArray⟩ := by rw [bytes_add, List.append_assoc]
        have Q := Lib.hid (And.intro Q1 Q2)
        clear Q1 Q2
        go_enter Tryd.func24, Tryd.ntmps24
        go_wp2_with (first
          | (go_at_call 16; refine H.mono ?_; rintro r w1 ⟨rfl, hx1⟩; have b1 := bE.ext hx1; replace hx1 := hx0.tr hx1; clear e0 e1 e2 e3 e4 e5 e6; obtain ⟨e0, e1, e2, e3, e4, e5, e6⟩ := b1.c7)
          | (go_at_call 48; refine (HX _ hx1).mono ?_; rintro r w2 ⟨rfl, hx2⟩; have b2 := b1.ext hx2; replace hx2 := hx1.tr hx2; clear e0 e1 e2 e3 e4 e5 e6 b1 hx1; obtain ⟨e0, e1, e2, e3, e4, e5, e6⟩ := b2.c7)
          | (go_at_call 49; refine (hD2 _).mono ?_; rintro r w3 ⟨rfl, hx3⟩; replace hx3 := hx2.tr hx3; clear e0 e1 e2 e3 e4 e5 e6 b2 hx2))
        go_ret
        refine ⟨?_, hx3⟩
        rw [hX.out, Q.out.1, Q.out.2]
        simp
    · by_cases hm : m0 = 0
      · have hpb : (p == 0) = false := by simpa using hp
        have Q1 : CL.numTxt CL.wPrio p = [32, 112, 114, 105, 111, 32] ++ CL.digits p.toNat := if_neg hp
        have g1 : ¬ (9223372036854775807 < te.length + 6) := by omega
        have g2 : ¬ (9223372036854775807 < te.length + 6 + (CL.digits p.toNat).length) := by omega
        have a1 : (⟨te.toArray⟩ : ByteArray) ++ ⟨#[32, 112, 114, 105, 111, 32]⟩ = ⟨(te ++ [32, 112, 114, 105, 111, 32]).toArray⟩ := bytes_add _ [32, 112, 114, 105, 111, 32]
        have a2 : (⟨(te ++ [32, 112, 114, 105, 111, 32]).toArray⟩ : ByteArray) ++ ⟨(CL.digits p.toNat).toArray⟩ = ⟨(te ++ ([32, 112, 114, 105, 111, 32] ++ CL.digits p.toNat)).toArray⟩ := by rw [bytes_add, List.append_assoc]
        generalize htp : te ++ ([32, 112, 114, 105, 111, 32] ++ CL.digits p.toNat) = tp at *
        have hlp : tp.length = te.length + 6 + (CL.digits p.toNat).length := by rw [← htp]; simp; omega
        have htp := Lib.hid htp
        subst hm
        have Q2 : CL.numTxt CL.wLimit 0 = [] := rfl
        have Q := Lib.hid (And.intro Q1 Q2)
        clear Q1 Q2
        go_enter Tryd.func24, Tryd.ntmps24
        go_wp2_with (first
          | (go_at_call 16; refine H.mono ?_; rintro r w1 ⟨rfl, hx1⟩; have b1 := bE.ext hx1; replace hx1 := hx0.tr hx1; clear e0 e1 e2 e3 e4 e5 e6; obtain ⟨e0, e1, e2, e3, e4, e5, e6⟩ := b1.c7)
          | (go_at_call 48; refine (HX _ hx1).mono ?_; rintro r w2 ⟨rfl, hx2⟩; have b2 := b1.ext hx2; replace hx2 := hx1.tr hx2; clear e0 e1 e2 e3 e4 e5 e6 b1 hx1; obtain ⟨e0, e1, e2, e3, e4, e5, e6⟩ := b2.c7)
          | (go_at_call 49; refine (hD1 _).mono ?_; rintro r w3 ⟨rfl, hx3⟩; have b3 := b2.ext hx3; replace hx3 := hx2.tr hx3; clear e0 e1 e2 e3 e4 e5 e6 b2 hx2 hD1; obtain ⟨e0, e1, e2, e3, e4, e5, e6⟩ := b3.c7))
        go_ret
        refine ⟨?_, hx3⟩
        rw [hX.out, Q.out.1, Q.out.2]
        simp only [List.append_assoc, List.append_nil, ← htp.out]; first | rfl | simp
      · have hpb : (p == 0) = false := by simpa using hp
        have Q1 : CL.numTxt CL.wPrio p = [32, 112, 114, 105, 111, 32] ++ CL.digits p.toNat := if_neg hp
        have g1 : ¬ (9223372036854775807 < te.length + 6) := by omega
        have g2 : ¬ (9223372036854775807 < te.length + 6 + (CL.digits p.toNat).length) := by omega
        have a1 : (⟨te.toArray⟩ : ByteArray) ++ ⟨#[32, 112, 114, 105, 111, 32]⟩ = ⟨(te ++ [32, 112, 114, 105, 111, 32]).toArray⟩ := bytes_add _ [32, 112, 114, 105, 111, 32]
        have a2 : (⟨(te ++ [32, 112, 114, 105, 111, 32]).toArray⟩ : ByteArray) ++ ⟨(CL.digits p.toNat).toArray⟩ = ⟨(te ++ ([32, 112, 114, 105, 111, 32] ++ CL.digits p.toNat)).toArray⟩ := by rw [bytes_add, List.append_assoc]
        generalize htp : te ++ ([32, 112, 114, 105, 111, 32] ++ CL.digits p.toNat) = tp at *
        have hlp : tp.length = te.length + 6 + (CL.digits p.toNat).length := by rw [← htp]; simp; omega
        have htp := Lib.hid htp
        have hmb : (m0 == 0) = false := by simpa using hm
        have Q2 : CL.numTxt CL.wLimit m0 = [32, 108, 105, 109, 105, 116, 32] ++ CL.digits m0.toNat := if_neg hm
        have g3 : ¬ (9223372036854775807 < tp.length + 7) := by omega
        have g4 : ¬ (9223372036854775807 < tp.length + 7 + (CL.digits m0.toNat).length) := by omega
        have a3 : (⟨tp.toArray⟩ : ByteArray) ++ ⟨#[32, 108, 105, 109, 105, 116, 32]⟩ = ⟨(tp ++ [32, 108, 105, 109, 105, 116, 32]).toArray⟩ := bytes_add _ [32, 108, 105, 109, 105, 116, 32]
        have a4 : (⟨(tp ++ [32, 108, 105, 109, 105, 116, 32]).toArray⟩ : ByteArray) ++ ⟨(CL.digits m0.toNat).toArray⟩ = ⟨(tp ++ ([32, 108, 105, 109, 105, 116, 32] ++ CL.digits m0.toNat)).toArray⟩ := by rw [bytes_add, List.append_assoc]
        have Q := Lib.hid (And.intro Q1 Q2)
        clear Q1 Q2
        go_enter Tryd.func24, Tryd.ntmps24
        go_wp2_with (first
          | (go_at_call 16; refine H.mono ?_; rintro r w1 ⟨rfl, hx1⟩; have b1 := bE.ext hx1; replace hx1 := hx0.tr hx1; clear e0 e1 e2 e3 e4 e5 e6; obtain ⟨e0, e1, e2, e3, e4, e5, e6⟩ := b1.c7)
          | (go_at_call 48; refine (HX _ hx1).mono ?_; rintro r w2 ⟨rfl, hx2⟩; have b2 := b1.ext hx2; replace hx2 := hx1.tr hx2; clear e0 e1 e2 e3 e4 e5 e6 b1 hx1; obtain ⟨e0, e1, e2, e3, e4, e5, e6⟩ := b2.c7)
          | (go_at_call 49; refine (hD1 _).mono ?_; rintro r w3 ⟨rfl, hx3⟩; have b3 := b2.ext hx3; replace hx3 := hx2.tr hx3; clear e0 e1 e2 e3 e4 e5 e6 b2 hx2 hD1; obtain ⟨e0, e1, e2, e3, e4, e5, e6⟩ := b3.c7)
          | (go_at_call 49; refine (hD2 _).mono ?_; rintro r w4 ⟨rfl, hx4⟩; replace hx4 := hx3.tr hx4; clear e0 e1 e2 e3 e4 e5 e6 b3 hx3))
        go_ret
        refine ⟨?_, hx4⟩
        rw [hX.out, Q.out.1, Q.out.2]
        simp only [List.append_assoc, List.append_nil, ← htp.out]; first | rfl | simp
end Go.Proofs.YtlfnpkjfnafeaaaDoor

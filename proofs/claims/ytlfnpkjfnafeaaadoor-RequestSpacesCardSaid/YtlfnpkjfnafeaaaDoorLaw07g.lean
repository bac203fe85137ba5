
/- The walk of RequestSpaces (the contract of the reference's Tokens as a premise HTok: RTokens_c of Lw6 gives it). -/
import Derived.Test.YtlfnpkjfnafeaaaDoorPs
import Derived.Test.YtlfnpkjfnafeaaaDoorSm
import Derived.Test.YtlfnpkjfnafeaaaDoorTx
namespace Go.Proofs.YtlfnpkjfnafeaaaDoor
open Go.RowKit
set_option linter.unusedVariables false
set_option linter.unusedSimpArgs false
set_option maxRecDepth 100000
set_option maxHeartbeats 3200000 in
theorem RequestSpaces_h (HTok : ∀ (s : List UInt8) (w : World), s.length ≤ maxLen → Calls Tryd.prog 25 #[.string ⟨s.toArray⟩] w (TokPost s w))
    (s : List UInt8) (n : Int) (w : World) (hT : T10 w) (hs : s.length ≤ maxLen) :
    Calls Tryd.prog 8 #[.string ⟨s.toArray⟩, .int .i64 n] w fun r w' => r = .returned (.bool true) ∧ Ext w w' := by
  have HAx := fun w' (hx : Ext w w') => awake7_c w' (hT.ext hx)
  have HK := HTok s w hs
  unfold TokPost at HK
  by_cases he : (CL.tokens s).2.2 = 0
  · by_cases hn : 1 ≤ n ∧ n ≤ 3
    · obtain ⟨hn1, hn3⟩ := hn
      obtain ⟨i0, hch, hs1⟩ := CL.tokens_chain he
      rw [he] at HK
      obtain ⟨k, rfl⟩ := Int.eq_ofNat_of_zero_le (show 0 ≤ n by omega)
      have hk1 : 1 ≤ k := by omega
      have hk3 : k ≤ 3 := by omega
      have hd1 : decide ((k : Int) < 1) = false := by simp; omega
      have hd2 : decide ((3 : Int) < (k : Int)) = false := by simp; omega
      have hwl := hch.wid_len (n := k)
      have hll := hch.len
      have hsame := CL.wid_same (n := k) hk1 he
      generalize (CL.tokens s).1 = l at *
      generalize (CL.tokens s).2.1 = at0 at *
      go_enter Tryd.func8, Tryd.ntmps8
      go_wp2_with fail
      refine HK.mono ?_
      rintro r w1 ⟨v, rfl, hown, hx1⟩
      obtain ⟨A, c, rfl, hc1, hc2⟩ := own_form hown
      have hS := Sits.of_own hown
      clear hown
      go_wp2_with fail
      go_loopw [8, 9, 10] (fun t i u wr => ∃ (j : Nat) (acc : List UInt8), j + 1 ≤ l.length + 1 ∧ i = .int .i64 j ∧ t = .string ⟨acc.toArray⟩ ∧ Hid (acc ++ CL.wid s k (l.drop j) = CL.wid s k l) ∧ Ext w wr ∧ Sits wr A (tks l)) (fun _ i _ _ => l.length - (intOf i).toNat)
      case atStart => exact ⟨0, [], by omega, rfl, rfl, Lib.hid (by simp), hx1, hS⟩
      case round =>
        obtain ⟨j, acc, hj, rfl, rfl, HW, hx, hSw⟩ := hrel
        have hj1 : IntKind.i64.wrap ((j : Int) + 1) = (j : Int) + 1 := IntWalk.i64_in _ (by omega)
        by_cases hlt : j + 1 < l.length
        · have hjl : j < l.length := by omega
          obtain ⟨a, b, ha, hb, hab, hbs⟩ := hch.get j hjl hlt
          obtain ⟨p, o, rfl, hc⟩ := hSw.get (by rw [tks_len]; omega)
          have c1 : wr.cell? ⟨p, o + j * 4 + 3, none⟩ = some (.int .i64 (a : Int)) := by
            rw [← ha, show o + j * 4 + 3 = o + (j * 4 + 3) from by omega]
            exact hc (j * 4 + 3) _ ((tks_get hjl 3 (by omega)).trans rfl)
          have c2 : wr.cell? ⟨p, o + (j + 1) * 4 + 3, none⟩ = some (.int .i64 (b : Int)) := by
            rw [← hb, show o + (j + 1) * 4 + 3 = o + ((j + 1) * 4 + 3) from by omega]
            exact hc ((j + 1) * 4 + 3) _ ((tks_get hlt 3 (by omega)).trans rfl)
          have q1 := ExtOf.cell c1
          have q2 := ExtOf.cell c2
          have hlts : (j : Int) + 1 < (l.length : Int) := by omega
          have hlt0 : (j : Int) < (l.length : Int) := by omega
          have hnn : (0 : Int) ≤ (j : Int) + 1 := by omega
          have htn : ((j : Int) + 1).toNat = j + 1 := by omega
          go_wp2_with fail
          refine wp_region_ext_lit (by kernel_rfl) (by kernel_rfl) ?_
          repeat (go_big_quiet_step (fail))
          refine wpQuiet_nil ?_
          intro wq hw'
          obtain ⟨⟨wq', hxq⟩, hw''⟩ := hw'
          subst hw''
          have hex : (⟨s.toArray⟩ : ByteArray).extract a b = ⟨((s.drop a).take (b - a)).toArray⟩ := bytes_extract s a b
          have h3s : (⟨#[32, 32, 32]⟩ : ByteArray).extract 0 k = ⟨(List.replicate k 32).toArray⟩ := by
            have : k = 1 ∨ k = 2 ∨ k = 3 := by omega
            rcases this with rfl | rfl | rfl <;> rfl
          have hws := CL.wid_step (S := s) (n := k) hjl hlt ha hb
          have hW := HW.out
          rw [hws] at hW
          have hal := congrArg List.length hW
          simp only [List.length_append, List.length_replicate] at hal
          rw [hex]
          generalize (s.drop a).take (b - a) = part at *
          have hkl : k * l.length ≤ 3 * l.length := Nat.mul_le_mul_right _ hk3
          have g1 : ¬ (9223372036854775807 < acc.length + part.length) := by omega
          have g2 : ¬ (9223372036854775807 < acc.length + part.length + k) := by omega
          have a1 : (⟨acc.toArray⟩ : ByteArray) ++ ⟨part.toArray⟩ = ⟨(acc ++ part).toArray⟩ := bytes_add _ _
          have a2 : (⟨(acc ++ part).toArray⟩ : ByteArray) ++ ⟨(List.replicate k 32).toArray⟩ = ⟨(acc ++ part ++ List.replicate k 32).toArray⟩ := bytes_add _ _
          have hk3i : (k : Int) ≤ 3 := by omega
          have hW := Lib.hid hW
          clear q1 q2 c1 c2 hal hws HW
          go_wp2_with fail
          refine ⟨⟨j + 1, acc ++ part ++ List.replicate k 32, by omega, by simp, ?_, Lib.hid (by rw [← hW.out]; simp only [List.append_assoc]), hx.tr hxq, hSw.ext hxq⟩, by simp [intOf]; omega⟩
          rw [show (⟨Array.replicate k 32⟩ : ByteArray) = ⟨(List.replicate k 32).toArray⟩ from by simp, bytes_add]
        · have hlts : decide ((j : Int) + 1 < (l.length : Int)) = false := by simp; omega
          have hacc := HW.out
          rw [CL.wid_end (by omega), List.append_nil] at hacc
          subst hacc
          generalize CL.wid s k l = tx at *
          by_cases hlen : tx.length ≤ 1024
          · have hlg : decide (1024 < tx.length) = false := by simp; omega
            obtain ⟨hs1', hs2'⟩ := hsame hlen
            have HP1 := request.Parse_c s wr hs
            have HP2 := fun w' => request.Parse_c tx w' (by unfold maxLen; omega)
            unfold ParsePost at HP1 HP2
            rw [← hs1', ← hs2'] at HP2
            clear hs1' hs2' hsame
            generalize CL.parseS s = pr at *
            obtain ⟨q, p1, e1⟩ := pr
            simp only at HP1 HP2
            generalize (CL.parseS tx).2.1 = p2 at *
            go_wp2_with fail
            refine HP1.mono ?_
            rintro r w2 ⟨ds, rfl, hS2, hx2⟩
            have hS2 := hS2.rd
            have hSx := fun w' (hx : Ext w2 w') => (hS2.ext hx (Nat.le_refl _)).le hx.size
            have HSx := fun w' cs (hx : Ext w2 w') (h : Rd w' w'.heap.size q.e cs) => clusterlocksref07.SameRequest_c q w' ds cs (hSx w' hx) h
            obtain ⟨k', s', m', u', A2, l2, c2, rfl⟩ := hS2.shape
            have bR := Blk.new w2 30 #[.int .i64 k', .string s', .int .i64 m', .int .i64 u', .slice A2 l2 c2, .int .i64 q.p, .int .i64 q.m]
            have hxn := Ext.new w2 (.cells #[.int .i64 k', .string s', .int .i64 m', .int .i64 u', .slice A2 l2 c2, .int .i64 q.p, .int .i64 q.m] 30)
            simp only [List.cons_append, List.nil_append] at *
            go_wp2_with fail
            generalize w2.alloc (.cells #[.int .i64 k', .string s', .int .i64 m', .int .i64 u', .slice A2 l2 c2, .int .i64 q.p, .int .i64 q.m] 30) = W2 at *
            refine (HP2 W2).mono ?_
            rintro r w3 ⟨cs, rfl, hS3, hx3⟩
            have b3 := bR.ext hx3
            replace hx3 := hxn.tr hx3
            have hS3 := hS3.rd
            have hSx3 := fun w' (hx : Ext w3 w') => (hS3.ext hx (Nat.le_refl _)).le hx.size
            have HSx3 := fun w' (hx : Ext w3 w') => HSx w' cs (hx3.tr hx) (hSx3 w' hx)
            obtain ⟨k3, s3, m3, u3, A3, l3, c3, rfl⟩ := hS3.shape
            have bR3 := Blk.new w3 30 #[.int .i64 k3, .string s3, .int .i64 m3, .int .i64 u3, .slice A3 l3 c3, .int .i64 q.p, .int .i64 q.m]
            have hxn3 := Ext.new w3 (.cells #[.int .i64 k3, .string s3, .int .i64 m3, .int .i64 u3, .slice A3 l3 c3, .int .i64 q.p, .int .i64 q.m] 30)
            simp only [List.cons_append, List.nil_append] at HSx3 ⊢
            go_wp2_with fail
            generalize w3.alloc (.cells #[.int .i64 k3, .string s3, .int .i64 m3, .int .i64 u3, .slice A3 l3 c3, .int .i64 q.p, .int .i64 q.m] 30) = W3 at *
            have b4 := b3.ext hxn3
            refine (HAx W3 (hx.tr (hx2.tr (hx3.tr hxn3)))).mono ?_
            rintro r w4 ⟨rfl, hx4⟩
            replace b4 := b4.ext hx4
            have d4 := bR3.ext hx4
            replace hx4 := hxn3.tr hx4
            obtain ⟨e0, e1, e2, e3, e4, e5, e6⟩ := b4.c7
            obtain ⟨f0, f1, f2, f3, f4, f5, f6⟩ := d4.c7
            have HS4 := HSx3 w4 hx4
            go_wp2_with fail
            refine HS4.mono ?_
            rintro r w5 ⟨rfl, hx5⟩
            go_wp2_with fail
            go_ret
            exact ⟨rfl, hx.tr (hx2.tr (hx3.tr (hx4.tr hx5)))⟩
          · have hlg : decide (1024 < tx.length) = true := by simp; omega
            go_wp2_with fail
            refine (HAx wr hx).mono ?_
            rintro r w2 ⟨rfl, hx2⟩
            go_wp2_with fail
            go_ret
            exact ⟨rfl, hx.tr hx2⟩
    · rw [he] at HK
      by_cases hlo : n < 1
      · go_enter Tryd.func8, Tryd.ntmps8
        go_wp2_with fail
        refine HK.mono ?_
        rintro r w1 ⟨v, rfl, hown, hx1⟩
        go_wp2_with fail
        refine (HAx w1 hx1).mono ?_
        rintro r w2 ⟨rfl, hx2⟩
        go_wp2_with fail
        go_ret
        exact ⟨rfl, hx1.tr hx2⟩
      · have hd1 : decide (n < 1) = false := by simp; omega
        have hd2 : decide (3 < n) = true := by simp; omega
        go_enter Tryd.func8, Tryd.ntmps8
        go_wp2_with fail
        refine HK.mono ?_
        rintro r w1 ⟨v, rfl, hown, hx1⟩
        go_wp2_with fail
        refine (HAx w1 hx1).mono ?_
        rintro r w2 ⟨rfl, hx2⟩
        go_wp2_with fail
        go_ret
        exact ⟨rfl, hx1.tr hx2⟩
  · have hed : ((CL.tokens s).2.2 == 0) = false := by simpa using he
    generalize (CL.tokens s).2.2 = ee at *
    go_enter Tryd.func8, Tryd.ntmps8
    go_wp2_with fail
    refine HK.mono ?_
    rintro r w1 ⟨v, rfl, hown, hx1⟩
    go_wp2_with fail
    refine (HAx w1 hx1).mono ?_
    rintro r w2 ⟨rfl, hx2⟩
    go_wp2_with fail
    go_ret
    exact ⟨rfl, hx1.tr hx2⟩
end Go.Proofs.YtlfnpkjfnafeaaaDoor

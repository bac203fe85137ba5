
/- The walk of RequestNests. -/
import Derived.Test.YtlfnpkjfnafeaaaDoorZ10
import Derived.Test.YtlfnpkjfnafeaaaDoorTx
namespace Go.Proofs.YtlfnpkjfnafeaaaDoor
open Go.RowKit
set_option linter.unusedVariables false
set_option linter.unusedSimpArgs false
set_option maxRecDepth 100000
/-- n groups in each other -/
def nst : Nat → List UInt8
  | 0 => [97, 58, 83]
  | n + 1 => [97, 108, 108, 40] ++ nst n ++ [41]
theorem nst_len : ∀ n, (nst n).length = 3 + 5 * n
  | 0 => rfl
  | n + 1 => by simp only [nst, List.length_append, nst_len n, List.length_cons, List.length_nil]; omega
theorem nst_deep : ∀ n : Nat, n < 41 → 4 ≤ n → (CL.parseS (nst n)).2 = (16, 4) := by decide +kernel
theorem nst_flat : ∀ n : Nat, n < 4 → (CL.parseS (nst n)).2 = (0, 0) ∧ CL.dep (CL.parseS (nst n)).1.e = n + 1 ∧ CL.nod (CL.parseS (nst n)).1.e = n + 1 := by decide +kernel
set_option maxHeartbeats 1600000 in
theorem RequestNests_w (n : Int) (w : World) (hT : T10 w) :
    Calls Tryd.prog 9 #[.int .i64 n] w fun r w' => r = .returned (.bool true) ∧ Ext w w' := by
  have HAx := fun w' (hx : Ext w w') => awake7_c w' (hT.ext hx)
  by_cases hn : 0 ≤ n ∧ n ≤ 40
  · obtain ⟨h0, h40⟩ := hn
    obtain ⟨k, rfl⟩ := Int.eq_ofNat_of_zero_le h0
    have hk : k ≤ 40 := by omega
    go_enter Tryd.func9, Tryd.ntmps9
    go_wp2_with fail
    go_loopw [3, 4] (fun s i wr => ∃ j : Nat, j ≤ k ∧ i = .int .i64 j ∧ s = .string ⟨(nst j).toArray⟩ ∧ Ext w wr) (fun _ i _ => k - (intOf i).toNat)
    case atStart => exact ⟨0, by omega, rfl, rfl, Ext.rfl'⟩
    case round =>
      obtain ⟨j, hj, rfl, rfl, hx⟩ := hrel
      have hl := nst_len j
      by_cases hlt : j < k
      · have hlts : (j : Int) < (k : Int) := by omega
        have hS := Lib.hid (show nst (j + 1) = [97, 108, 108, 40] ++ nst j ++ [41] from rfl)
        generalize nst j = t at *
        have g1 : ¬ (9223372036854775807 < 4 + t.length) := by omega
        have g2 : ¬ (9223372036854775807 < 4 + t.length + 1) := by omega
        have a1 : (⟨#[97, 108, 108, 40]⟩ : ByteArray) ++ ⟨t.toArray⟩ = ⟨([97, 108, 108, 40] ++ t).toArray⟩ := bytes_add [97, 108, 108, 40] _
        have a2 : (⟨([97, 108, 108, 40] ++ t).toArray⟩ : ByteArray) ++ ⟨#[41]⟩ = ⟨([97, 108, 108, 40] ++ t ++ [41]).toArray⟩ := bytes_add _ [41]
        have a3 : (⟨(97 :: 108 :: 108 :: 40 :: t).toArray⟩ : ByteArray) ++ ⟨#[41]⟩ = ⟨(97 :: 108 :: 108 :: 40 :: (t ++ [41])).toArray⟩ := bytes_add (97 :: 108 :: 108 :: 40 :: t) [41]
        go_wp2_with fail
        go_roundw
        case rel => exact ⟨j + 1, by omega, by simp, by rw [hS.out]; simp [a3], hx⟩
        case measure => simp [intOf]; omega
      · have hlts : decide ((j : Int) < (k : Int)) = false := by simp; omega
        obtain rfl : j = k := by omega
        have HP := request.Parse_c (nst j) wr (by unfold maxLen; omega)
        by_cases h4 : 4 ≤ j
        · have hd := nst_deep j (by omega) h4
          have hge : decide ((4 : Int) ≤ (j : Int)) = true := by simp; omega
          unfold ParsePost at HP
          generalize CL.parseS (nst j) = pr at *
          obtain ⟨q, pp, ee⟩ := pr
          simp only [Prod.mk.injEq] at hd
          obtain ⟨rfl, rfl⟩ := hd
          generalize nst j = t at *
          go_wp2_with fail
          refine HP.mono ?_
          rintro r w1 ⟨ds, rfl, hS, hx1⟩
          have hS := hS.rd
          obtain ⟨k', s', m', u', A2, l2, c2, rfl⟩ := hS.shape
          simp only [List.cons_append, List.nil_append] at *
          have hxn := Ext.new w1 (.cells #[.int .i64 k', .string s', .int .i64 m', .int .i64 u', .slice A2 l2 c2, .int .i64 q.p, .int .i64 q.m] 30)
          go_wp2_with fail
          refine (HAx _ (hx.tr (hx1.tr hxn))).mono ?_
          rintro r w2 ⟨rfl, hx2⟩
          go_wp2_with fail
          go_ret
          exact ⟨rfl, hx.tr (hx1.tr (hxn.tr hx2))⟩
        · obtain ⟨hd, hdp, hnd⟩ := nst_flat j (by omega)
          have hge : decide ((4 : Int) ≤ (j : Int)) = false := by simp; omega
          have hw1 : IntKind.i64.wrap ((j : Int) + 1) = (j : Int) + 1 := IntWalk.i64_in _ (by omega)
          unfold ParsePost at HP
          generalize CL.parseS (nst j) = pr at *
          obtain ⟨q, pp, ee⟩ := pr
          simp only [Prod.mk.injEq] at hd
          obtain ⟨rfl, rfl⟩ := hd
          simp only at *
          generalize nst j = t at *
          go_wp2_with fail
          refine HP.mono ?_
          rintro r w1 ⟨ds, rfl, hS, hx1⟩
          have hS := hS.rd
          have HDx := fun w' (hx : Ext w1 w') => request.Depth_c q.e w' _ ds (hS.ext hx (Nat.le_refl _)) hx.size
          have HNx := fun w' (hx : Ext w1 w') => request.Nodes_c q.e w' _ ds (hS.ext hx (Nat.le_refl _)) hx.size
          rw [hdp] at HDx
          rw [hnd] at HNx
          obtain ⟨k', s', m', u', A2, l2, c2, rfl⟩ := hS.shape
          simp only [List.cons_append, List.nil_append] at *
          have bR := Blk.new w1 30 #[.int .i64 k', .string s', .int .i64 m', .int .i64 u', .slice A2 l2 c2, .int .i64 q.p, .int .i64 q.m]
          have hxn := Ext.new w1 (.cells #[.int .i64 k', .string s', .int .i64 m', .int .i64 u', .slice A2 l2 c2, .int .i64 q.p, .int .i64 q.m] 30)
          go_wp2_with fail
          generalize w1.alloc (.cells #[.int .i64 k', .string s', .int .i64 m', .int .i64 u', .slice A2 l2 c2, .int .i64 q.p, .int .i64 q.m] 30) = W1 at *
          refine (HAx W1 (hx.tr (hx1.tr hxn))).mono ?_
          rintro r w2 ⟨rfl, hx2⟩
          have b2 := bR.ext hx2
          replace hx2 := hxn.tr hx2
          obtain ⟨e0, e1, e2, e3, e4, e5, e6⟩ := b2.c7
          have HD2 := HDx w2 hx2
          go_wp2_with fail
          refine HD2.mono ?_
          rintro r w3 ⟨rfl, hx3⟩
          have b3 := b2.ext hx3
          replace hx3 := hx2.tr hx3
          clear e0 e1 e2 e3 e4 e5 e6
          obtain ⟨e0, e1, e2, e3, e4, e5, e6⟩ := b3.c7
          have HN3 := HNx w3 hx3
          go_wp2_with fail
          refine HN3.mono ?_
          rintro r w4 ⟨rfl, hx4⟩
          go_wp2_with fail
          go_ret
          refine ⟨ret_bool ?_, hx.tr (hx1.tr (hx3.tr hx4))⟩
          first | rfl | simp
  · have HA := HAx w Ext.rfl'
    by_cases hneg : n < 0
    · go_enter Tryd.func9, Tryd.ntmps9
      go_wp2_with (go_at_call 12; refine HA.mono ?_; rintro r w1 ⟨rfl, hx1⟩)
      go_ret
      exact ⟨rfl, hx1⟩
    · have h1 : decide (n < 0) = false := by simp; omega
      have h2 : decide (40 < n) = true := by simp; omega
      go_enter Tryd.func9, Tryd.ntmps9
      go_wp2_with (go_at_call 12; refine HA.mono ?_; rintro r w1 ⟨rfl, hx1⟩)
      go_ret
      exact ⟨rfl, hx1⟩
end Go.Proofs.YtlfnpkjfnafeaaaDoor

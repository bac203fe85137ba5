
/- The walk of RequestConflicts. -/
import Derived.Test.YtlfnpkjfnafeaaaDoorZ10
import Derived.Test.YtlfnpkjfnafeaaaDoorTx
namespace Go.Proofs.YtlfnpkjfnafeaaaDoor
open Go.RowKit
set_option linter.unusedVariables false
set_option linter.unusedSimpArgs false
set_option maxRecDepth 100000
theorem mod5_c (n : Int) : ∃ i : Nat, i < 5 ∧ ∀ w, Calls Tryd.prog 28 #[.int .i64 n, .int .i64 5] w fun e w' => e = .returned (.int .i64 (i : Int)) ∧ w = w' := by
  have q1 : n.tmod 5 < 5 := Int.tmod_lt_of_pos n (by omega)
  have q2 : -5 < n.tmod 5 := Int.lt_tmod_of_pos n (by omega)
  have q3 : wrap64 (n.tmod 5 + 5) = n.tmod 5 + 5 := by unfold wrap64; omega
  refine ⟨(if n.tmod 5 < 0 then n.tmod 5 + 5 else n.tmod 5).toNat, by split <;> omega, fun w => ?_⟩
  go_enter Tryd.func28, Tryd.ntmps28
  go_wp2
  all_goals (go_ret; exact ⟨ret_int (by go_tidy; first | omega | (rw [if_pos (by omega)]; omega) | (rw [if_neg (by omega)]; omega)), rfl⟩)
/-- the names of the modes -/
def nm5 : Nat → List UInt8
  | 0 => [73, 83]
  | 1 => [73, 88]
  | 2 => [83]
  | 3 => [83, 73, 88]
  | _ => [88]
def cfl (x y : List UInt8) : List UInt8 := [97, 110, 121, 40, 97, 58] ++ x ++ [44, 32, 98, 58, 83, 44, 32, 97, 58] ++ y ++ [41]
theorem cfl_ne : ∀ i : Nat, i < 5 → ∀ j : Nat, j < 5 → i ≠ j → (CL.parseS (cfl (nm5 i) (nm5 j))).2 = (((13 + (nm5 i).length : Nat) : Int), 13) ∧ nm5 i ≠ nm5 j := by decide +kernel
theorem cfl_eq : ∀ i : Nat, i < 5 → (CL.parseS (cfl (nm5 i) (nm5 i))).2 = (0, 0) ∧ CL.nod (CL.parseS (cfl (nm5 i) (nm5 i))).1.e = 4 := by decide +kernel
theorem nm5_len (i : Nat) : (nm5 i).length ≤ 3 := by unfold nm5; split <;> simp
theorem names_cell (w : World) (t : TypeId) : ∀ i : Nat, i < 5 → (w.alloc (.cells #[.string ⟨#[73, 83]⟩, .string ⟨#[73, 88]⟩, .string ⟨#[83]⟩, .string ⟨#[83, 73, 88]⟩, .string ⟨#[88]⟩] t)).cell? ⟨w.heap.size, i, none⟩ = some (.string ⟨(nm5 i).toArray⟩) := by
  intro i hi
  have hb := Blk.new w t #[.string ⟨#[73, 83]⟩, .string ⟨#[73, 88]⟩, .string ⟨#[83]⟩, .string ⟨#[83, 73, 88]⟩, .string ⟨#[88]⟩]
  have : i = 0 ∨ i = 1 ∨ i = 2 ∨ i = 3 ∨ i = 4 := by omega
  rcases this with rfl | rfl | rfl | rfl | rfl <;> exact hb.cell _
set_option maxHeartbeats 1600000 in
theorem RequestConflicts_w (m n : Int) (w : World) (hT : T10 w) :
    Calls Tryd.prog 10 #[.int .i64 m, .int .i64 n] w fun r w' => r = .returned (.bool true) ∧ Ext w w' := by
  have HAx := fun w' (hx : Ext w w') => awake7_c w' (hT.ext hx)
  obtain ⟨i, hi, HM⟩ := mod5_c m
  obtain ⟨j, hj, HN⟩ := mod5_c n
  have hx0 := Ext.new w (.cells #[.string ⟨#[73, 83]⟩, .string ⟨#[73, 88]⟩, .string ⟨#[83]⟩, .string ⟨#[83, 73, 88]⟩, .string ⟨#[88]⟩] 9)
  have ci := names_cell w 9 i hi
  have cj := names_cell w 9 j hj
  have hi5 : (i : Int) < 5 := by omega
  have hj5 : (j : Int) < 5 := by omega
  go_enter Tryd.func10, Tryd.ntmps10
  go_wp2_with fail
  generalize (w.alloc (.cells #[.string ⟨#[73, 83]⟩, .string ⟨#[73, 88]⟩, .string ⟨#[83]⟩, .string ⟨#[83, 73, 88]⟩, .string ⟨#[88]⟩] 9)) = W at *
  have q1 := ExtOf.cell ci
  have q2 := ExtOf.cell cj
  have HM := Lib.hid (fun x : ExtOf W => HM x.val)
  have HN := Lib.hid (fun x : ExtOf W => HN x.val)
  refine wp_region_ext_lit (by kernel_rfl) (by kernel_rfl) ?_
  repeat (go_big_quiet_step ((first
    | (go_at_call 28; with_reducible exact xqP (HM.out _))
    | (go_at_call 28; with_reducible exact xqP (HN.out _)))))
  refine wpQuiet_nil ?_
  intro wq hw'
  obtain ⟨⟨wq', hxq⟩, hw''⟩ := hw'
  subst hw''
  have hx1 := hx0.tr hxq
  clear q1 q2 ci cj HM HN
  have hx0 := hx1
  have li := nm5_len i
  have lj := nm5_len j
  have hce := cfl_eq i hi
  have hcn := cfl_ne i hi j hj
  have hij : i = j → nm5 i = nm5 j := fun h => by rw [h]
  generalize hX : nm5 i = X at *
  generalize hY : nm5 j = Y at *
  obtain ⟨T1, hT1⟩ : ∃ T, T = [97, 110, 121, 40, 97, 58] ++ X := ⟨_, rfl⟩
  obtain ⟨T2, hT2⟩ : ∃ T, T = T1 ++ [44, 32, 98, 58, 83, 44, 32, 97, 58] := ⟨_, rfl⟩
  obtain ⟨T3, hT3⟩ : ∃ T, T = T2 ++ Y := ⟨_, rfl⟩
  obtain ⟨T4, hT4⟩ : ∃ T, T = T3 ++ [41] := ⟨_, rfl⟩
  obtain ⟨T5, hT5⟩ : ∃ T, T = T1 ++ [44, 32, 98, 58, 83, 44, 32] := ⟨_, rfl⟩
  have n1 : T1.length = 6 + X.length := by rw [hT1]; simp; omega
  have n2 : T2.length = 15 + X.length := by rw [hT2]; simp; omega
  have n3 : T3.length = 15 + X.length + Y.length := by rw [hT3]; simp; omega
  have n4 : T4.length = 16 + X.length + Y.length := by rw [hT4]; simp; omega
  have n5 : T5.length = 13 + X.length := by rw [hT5]; simp; omega
  have a1 : (⟨#[97, 110, 121, 40, 97, 58]⟩ : ByteArray) ++ ⟨X.toArray⟩ = ⟨T1.toArray⟩ := by rw [hT1]; exact bytes_add [97, 110, 121, 40, 97, 58] X
  have a2 : (⟨T1.toArray⟩ : ByteArray) ++ ⟨#[44, 32, 98, 58, 83, 44, 32, 97, 58]⟩ = ⟨T2.toArray⟩ := by rw [hT2]; exact bytes_add T1 [44, 32, 98, 58, 83, 44, 32, 97, 58]
  have a3 : (⟨T2.toArray⟩ : ByteArray) ++ ⟨Y.toArray⟩ = ⟨T3.toArray⟩ := by rw [hT3]; exact bytes_add _ _
  have a4 : (⟨T3.toArray⟩ : ByteArray) ++ ⟨#[41]⟩ = ⟨T4.toArray⟩ := by rw [hT4]; exact bytes_add T3 [41]
  have a5 : (⟨T1.toArray⟩ : ByteArray) ++ ⟨#[44, 32, 98, 58, 83, 44, 32]⟩ = ⟨T5.toArray⟩ := by rw [hT5]; exact bytes_add T1 [44, 32, 98, 58, 83, 44, 32]
  have g1 : ¬ (9223372036854775807 < 6 + X.length) := by omega
  have g2 : ¬ (9223372036854775807 < T1.length + 9) := by omega
  have g3 : ¬ (9223372036854775807 < T2.length + Y.length) := by omega
  have g4 : ¬ (9223372036854775807 < T3.length + 1) := by omega
  have g5 : ¬ (9223372036854775807 < T1.length + 7) := by omega
  have hc : cfl X Y = T4 := by unfold cfl; rw [hT4, hT3, hT2, hT1]
  have HP := request.Parse_c T4 wq (by unfold maxLen; omega)
  unfold ParsePost at HP
  have h5 := Lib.hid n5
  clear hT1 hT2 hT3 hT4 hT5 n1 n2 n3 n4 n5
  go_wp2_with fail
  refine HP.mono ?_
  rintro r w1 ⟨ds, rfl, hS, hx1⟩
  have hS := hS.rd
  have HNx := fun w' (hx : Ext w1 w') => request.Nodes_c (CL.parseS T4).1.e w' _ ds (hS.ext hx (Nat.le_refl _)) hx.size
  by_cases hij' : i = j
  · subst hij'
    obtain rfl := hX.symm.trans hY
    rw [hc] at hce
    obtain ⟨he, hnd⟩ := hce
    rw [hnd] at HNx
    generalize CL.parseS T4 = pr at *
    obtain ⟨q, pp, ee⟩ := pr
    simp only [Prod.mk.injEq] at he
    obtain ⟨rfl, rfl⟩ := he
    obtain ⟨k', s', m', u', A2, l2, c2, rfl⟩ := hS.shape
    simp only [List.cons_append, List.nil_append] at *
    have bR := Blk.new w1 30 #[.int .i64 k', .string s', .int .i64 m', .int .i64 u', .slice A2 l2 c2, .int .i64 q.p, .int .i64 q.m]
    have hxn := Ext.new w1 (.cells #[.int .i64 k', .string s', .int .i64 m', .int .i64 u', .slice A2 l2 c2, .int .i64 q.p, .int .i64 q.m] 30)
    go_wp2_with fail
    generalize w1.alloc (.cells #[.int .i64 k', .string s', .int .i64 m', .int .i64 u', .slice A2 l2 c2, .int .i64 q.p, .int .i64 q.m] 30) = W1 at *
    refine (HAx W1 (hx0.tr (hx1.tr hxn))).mono ?_
    rintro r w2 ⟨rfl, hx2⟩
    have b2 := bR.ext hx2
    replace hx2 := hxn.tr hx2
    obtain ⟨e0, e1, e2, e3, e4, e5, e6⟩ := b2.c7
    have HN2 := HNx w2 hx2
    go_wp2_with fail
    refine HN2.mono ?_
    rintro r w3 ⟨rfl, hx3⟩
    go_wp2_with fail
    go_ret
    exact ⟨rfl, hx0.tr (hx1.tr (hx2.tr hx3))⟩
  · obtain ⟨he, hne⟩ := hcn hij'
    rw [hc] at he
    have hneb : (X == Y) = false := by simpa using hne
    clear HNx
    generalize CL.parseS T4 = pr at *
    obtain ⟨q, pp, ee⟩ := pr
    simp only [Prod.mk.injEq] at he
    obtain ⟨rfl, rfl⟩ := he
    obtain ⟨k', s', m', u', A2, l2, c2, rfl⟩ := hS.shape
    simp only [List.cons_append, List.nil_append] at *
    have hxn := Ext.new w1 (.cells #[.int .i64 k', .string s', .int .i64 m', .int .i64 u', .slice A2 l2 c2, .int .i64 q.p, .int .i64 q.m] 30)
    go_wp2_with fail
    refine (HAx _ (hx0.tr (hx1.tr hxn))).mono ?_
    rintro r w2 ⟨rfl, hx2⟩
    go_wp2_with fail
    go_ret
    refine ⟨ret_bool ?_, hx0.tr (hx1.tr (hxn.tr hx2))⟩
    have := h5.out
    simp [this]
end Go.Proofs.YtlfnpkjfnafeaaaDoor


/- The walk of RequestTapes. -/
import Derived.Test.YtlfnpkjfnafeaaaDoorRqm
import Derived.Test.YtlfnpkjfnafeaaaDoorSm
import Derived.Test.YtlfnpkjfnafeaaaDoorZ3
namespace Go.Proofs.YtlfnpkjfnafeaaaDoor
open Go.RowKit
set_option linter.unusedVariables false
set_option linter.unusedSimpArgs false
set_option maxRecDepth 100000
theorem TapeAt.new {w : World} {A : Option Addr} {l : List Int} {c : Nat} (hl : l.length ≤ maxLen) (hr : Sits w A (ints l)) : TapeAt (w.alloc (.cells #[.slice A l.length c, .int .i64 0] 44)) w.heap.size :=
  ⟨A, l, c, 0, Blk.new _ _ _, hr.ext (Ext.new _ _), by omega, hl, fun b o hn e => by
    obtain ⟨b', o', e', hc⟩ := hr.get (by rw [ints_len]; exact List.length_pos_iff.2 hn)
    rw [e] at e'; injection e' with e'; injection e' with e1 e2; subst e1
    have hp := List.length_pos_iff.2 hn
    have := World.block_lt_of_cell? _ _ (hc 0 _ (ints_get hp))
    simpa using this⟩
set_option maxHeartbeats 3200000 in
theorem RequestTapes_w (l : List Int) (A : Option Addr) (c : Nat) (w : World) (hT : T10 w) (hl : l.length ≤ maxLen) (hr : Sits w A (ints l)) :
    Calls Tryd.prog 6 #[.slice A l.length c] w fun r w' => r = .returned (.bool true) ∧ Ext w w' := by
  have HAx := fun w' (hx : Ext w w') => awake7_c w' (hT.ext hx)
  have HL := clusterlocksmill.Light_c l A c w
  by_cases h3 : l.length ≤ 300
  · rw [decide_eq_true h3] at HL
    have hT0 := TapeAt.new (c := c) hl hr
    have hx0 := Ext.new w (.cells #[.slice A l.length c, .int .i64 0] 44)
    have hgl := hT0.lt
    go_enter Tryd.func6, Tryd.ntmps6
    go_wp2_with (first
      | (go_at_call 21; refine HL.mono ?_; rintro r w' ⟨rfl, rfl⟩)
      | (go_at_call 23; (with_reducible refine (clusterlocksmill.Catalog_c _ _ hT0).mono ?_); rintro r w2 ⟨A1, c1, L, rfl, hG, hS, hAb, hO, hT2⟩)
      | (go_at_call 22; (with_reducible refine (clusterlocksmill.Request_c L _ _ _ _ hT2 hG hS (fun b o e => by have := hAb b o e; simp at this; omega)).mono ?_); rintro r w3 ⟨q, cs, rfl, hval, hR, hO3⟩; have hRk := Lib.hid hR; obtain ⟨k', s', m', u', A2, l2, c2, rfl⟩ := hR.shape))
    have hx3 : Ext w w3 := (hx0.only hO (Nat.le_refl _)).only hO3 (Nat.le_refl _)
    have hS := hRk.out
    clear hR hRk HL
    have hpb := CL.parse_back hval
    have hlen := CL.fmtQ_len hval
    have hf : CL.fmt? q = CL.fmtQ q := by unfold CL.fmt?; rw [hval]; rfl
    have HPx := fun w' (hs : (CL.fmtQ q).length ≤ maxLen) => request.Parse_c (CL.fmtQ q) w' hs
    unfold ParsePost at HPx
    rw [hpb] at HPx
    have hSx := fun w' (hx : Ext w3 w') => (hS.ext hx (Nat.le_refl _)).le hx.size
    have HFx := fun w' (hx : Ext w3 w') => request.Format_c q w' _ _ (hSx w' hx) (Nat.le_refl _) (hT.ext (hx3.tr hx))
    have HVx := fun w' (hx : Ext w3 w') => request.Valid_c q w' _ _ (hSx w' hx) (Nat.le_refl _)
    have HSx := fun w' ds (hx : Ext w3 w') (h : Rd w' w'.heap.size q.e ds) => clusterlocksref07.SameRequest_c q w' ds _ h (hSx w' hx)
    rw [hf] at HFx
    rw [hval] at HVx
    generalize CL.fmtQ q = tx at *
    have bR := Blk.new w3 30 #[.int .i64 k', .string s', .int .i64 m', .int .i64 u', .slice A2 l2 c2, .int .i64 q.p, .int .i64 q.m]
    have hxn := Ext.new w3 (.cells #[.int .i64 k', .string s', .int .i64 m', .int .i64 u', .slice A2 l2 c2, .int .i64 q.p, .int .i64 q.m] 30)
    simp only [List.cons_append, List.nil_append] at HFx HVx HSx HPx
    generalize w3.alloc (.cells #[.int .i64 k', .string s', .int .i64 m', .int .i64 u', .slice A2 l2 c2, .int .i64 q.p, .int .i64 q.m] 30) = W3 at *
    refine (HFx W3 hxn).mono ?_
    rintro r w4 ⟨rfl, hx4⟩
    have b4 := bR.ext hx4
    replace hx4 := hxn.tr hx4
    go_wp2_with fail
    refine (HPx _ (by unfold maxLen; omega)).mono ?_
    rintro r w5 ⟨ds, rfl, hS5, hx5⟩
    have b5 := b4.ext hx5
    replace hx5 := hx4.tr hx5
    have hS5 := hS5.rd
    have hSx5 := fun w' (hx : Ext w5 w') => (hS5.ext hx (Nat.le_refl _)).le hx.size
    have HSx5 := fun w' (hx : Ext w5 w') => HSx w' ds (hx5.tr hx) (hSx5 w' hx)
    obtain ⟨k5, s5, m5, u5, A5, l5, c5, rfl⟩ := hS5.shape
    have bR5 := Blk.new w5 30 #[.int .i64 k5, .string s5, .int .i64 m5, .int .i64 u5, .slice A5 l5 c5, .int .i64 q.p, .int .i64 q.m]
    have hxn5 := Ext.new w5 (.cells #[.int .i64 k5, .string s5, .int .i64 m5, .int .i64 u5, .slice A5 l5 c5, .int .i64 q.p, .int .i64 q.m] 30)
    simp only [List.cons_append, List.nil_append] at HSx5 ⊢
    go_wp2_with fail
    generalize w5.alloc (.cells #[.int .i64 k5, .string s5, .int .i64 m5, .int .i64 u5, .slice A5 l5 c5, .int .i64 q.p, .int .i64 q.m] 30) = W5 at *
    have b6 := b5.ext hxn5
    refine (HAx W5 (hx3.tr (hx5.tr hxn5))).mono ?_
    rintro r w6 ⟨rfl, hx6⟩
    replace b6 := b6.ext hx6
    have d6 := bR5.ext hx6
    replace hx6 := hxn5.tr hx6
    obtain ⟨e0, e1, e2, e3, e4, e5, e6⟩ := b6.c7
    have HV6 := HVx w6 (hx5.tr hx6)
    go_wp2_with fail
    refine HV6.mono ?_
    rintro r w7 ⟨rfl, hx7⟩
    replace b6 := b6.ext hx7
    replace d6 := d6.ext hx7
    replace hx7 := hx6.tr hx7
    clear e0 e1 e2 e3 e4 e5 e6
    obtain ⟨e0, e1, e2, e3, e4, e5, e6⟩ := b6.c7
    obtain ⟨f0, f1, f2, f3, f4, f5, f6⟩ := d6.c7
    have HS7 := HSx5 w7 hx7
    go_wp2_with fail
    refine HS7.mono ?_
    rintro r w8 ⟨rfl, hx8⟩
    replace hx8 := hx3.tr (hx5.tr (hx7.tr hx8))
    go_wp2_with fail
    go_ret
    exact ⟨rfl, hx8⟩
  · rw [decide_eq_false h3] at HL
    have HA := HAx w Ext.rfl'
    go_enter Tryd.func6, Tryd.ntmps6
    go_wp2_with (first
      | (go_at_call 21; refine HL.mono ?_; rintro r w' ⟨rfl, rfl⟩)
      | (go_at_call 12; refine HA.mono ?_; rintro r w1 ⟨rfl, hx1⟩))
    go_ret
    exact ⟨rfl, hx1⟩
end Go.Proofs.YtlfnpkjfnafeaaaDoor

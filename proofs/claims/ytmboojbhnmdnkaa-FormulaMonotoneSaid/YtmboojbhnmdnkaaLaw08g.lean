
/- FormulaCatalogs: the walk of the law. -/
import Derived.Test.YtmboojbhnmdnkaaGp
namespace Go.Proofs.Ytmboojbhnmdnkaa
open Go.RowKit
set_option linter.unusedVariables false
set_option linter.unusedSimpArgs false
theorem TapeAt.new {w : World} {A : Option Addr} {l : List Int} {c : Nat} (hl : l.length ≤ maxLen) (hr : Sits w A (ints l)) : TapeAt (w.alloc (.cells #[.slice A l.length c, .int .i64 0] 39)) w.heap.size :=
  ⟨A, l, c, 0, Blk.new _ _ _, hr.ext (Ext.new _ _), by omega, hl, fun b o hn e => by
    obtain ⟨b', o', e', hc⟩ := hr.get (by rw [ints_len]; exact List.length_pos_iff.2 hn)
    rw [e] at e'; injection e' with e'; injection e' with e1 e2; subst e1
    have hp := List.length_pos_iff.2 hn
    have := World.block_lt_of_cell? _ _ (hc 0 _ (ints_get hp))
    simpa using this⟩
set_option maxHeartbeats 1600000 in
theorem FormulaCatalogs_w (l : List Int) (A : Option Addr) (c : Nat) (w : World) (hl : l.length ≤ maxLen) (hr : Sits w A (ints l)) :
    Calls Try.prog 12 #[.slice A l.length c] w fun r w' => r = .returned (.bool true) ∧ Ext w w' := by
  by_cases h3 : l.length ≤ 300
  · have HL := Lib.hid (fun w => (clusterlocksmill.Light_c l A c w))
    rw [decide_eq_true h3] at HL
    have hT := TapeAt.new (c := c) hl hr
    have hx0 := Ext.new w (.cells #[.slice A l.length c, .int .i64 0] 39)
    have hgl := hT.lt
    go_enter Try.func12, Try.ntmps12
    go_wp2_with (first
      | (go_at_call 20; (with_reducible refine (HL.out _).mono ?_); rintro r w' ⟨rfl, rfl⟩)
      | (go_at_call 22; (with_reducible refine (clusterlocksmill.Catalog_c _ _ hT).mono ?_); rintro r w2 ⟨A1, c1, L, rfl, hG, hS, hAb, hO, hT2⟩)
      | (go_at_call 21; (with_reducible refine (clusterlocksmill.Expr_c L _ _ _ _ hT2 hG hS (fun b o e => by have := hAb b o e; simp at this; omega)).mono ?_); rintro r w3 ⟨la, hGA, hp⟩; obtain ⟨ek, k', n', m', u', A2, l2, c2, rfl, hGr, hR, hO3, hT3⟩ := hp.get))
    have hA1 : ∀ b o, A1 = some ⟨b, o, none⟩ → w.heap.size < b := fun b o e => by have := hAb b o e; simp at this; omega
    obtain ⟨hv, hd, hc0, hc10⟩ := hGA.facts hG
    obtain ⟨hval, hsub, hpos⟩ := hGr.valid hv hGA.1 hd
    obtain ⟨hl6, hmem⟩ := hG.mem
    have hfr : fres L ek = 0 := by unfold fres; rw [if_pos hval]; exact frs_all (fun a ha => hc0 a (hsub a ha))
    have hfn : fres [] ek = 10 := by unfold fres; rw [if_pos hval]; exact frs_nil hc10 hpos
    have hx4 := Ext.new w3 (.cells #[.int .i64 k', .string n', .int .i64 m', .int .i64 u', .slice A2 l2 c2] 28)
    have bE := Blk.new w3 28 #[.int .i64 k', .string n', .int .i64 m', .int .i64 u', .slice A2 l2 c2]
    have hz4 := hx4.size
    have hS4 := (hS.only hO3 hA1).ext hx4
    have hR4 := hR.rd.ext hx4 (Nat.le_refl _)
    have hxW := ((hx0.only hO (Nat.le_refl _)).only hO3 (Nat.le_refl _)).tr hx4
    generalize (w3.alloc (.cells #[.int .i64 k', .string n', .int .i64 m', .int .i64 u', .slice A2 l2 c2] 28)) = W at *
    have HRS : Hid (∀ w', Ext W w' → Calls Try.prog 30 #[.slice A1 6 c1, .agg #[.int .i64 k', .string n', .int .i64 m', .int .i64 u', .slice A2 l2 c2]] w' fun r w'' => r = .returned (.int .i64 0) ∧ Ext w' w'') := Lib.hid (fun w' x => by
      have := formula.Resolve_c L ek A1 c1 w' w3.heap.size _ (by rw [hl6]; simp [maxLen]) (fun r hr => by rw [(hmem r hr).1]; simp [maxLen]) (hS4.ext x) (hR4.ext x hz4) (Nat.le_trans hz4 x.size)
      rw [hl6, hfr] at this
      exact this)
    have HRN : Hid (∀ w', Ext W w' → Calls Try.prog 30 #[.slice none 0 0, .agg #[.int .i64 k', .string n', .int .i64 m', .int .i64 u', .slice A2 l2 c2]] w' fun r w'' => r = .returned (.int .i64 10) ∧ Ext w' w'') := Lib.hid (fun w' x => by
      have := formula.Resolve_c [] ek none 0 w' w3.heap.size _ (by simp) (by simp) Sits.nil (hR4.ext x hz4) (Nat.le_trans hz4 x.size)
      rw [hfn] at this
      exact this)
    have HP := Lib.hid hpos
    have hp1 : decide (0 < (CL.atoms ek).length) = true := decide_eq_true hpos
    refine (formula.Atoms_c ek W w3.heap.size _ hR4 hz4).mono ?_
    intro r w5 hq
    obtain ⟨A5, c5, rfl, _, hx⟩ := hq.get
    clear hq hS4 hR4 hv hd hc0 hc10 hsub hmem hfr hfn hGA hGr hR hS hl6 hp
    generalize CL.atoms ek = at5 at *
    have hx5 : Ext W w5 := hx
    clear hx
    go_wp2_with (first
      | (go_at_call 15; (with_reducible refine (awake8_c _).mono ?_); rintro r w6 ⟨rfl, hxb⟩; have hx6 := Ext.tr hx5 hxb; clear hx5; have hx5 := hx6; obtain ⟨e0, e1, e2, e3, e4⟩ := (bE.ext hx5).c5)
      | (go_at_call 30; (with_reducible refine (HRS.out _ hx5).mono ?_); rintro r w6 ⟨rfl, hxb⟩; have hx6 := Ext.tr hx5 hxb; clear hx5; have hx5 := hx6; obtain ⟨e0, e1, e2, e3, e4⟩ := (bE.ext hx5).c5)
      | (go_at_call 30; (with_reducible refine (HRN.out _ hx5).mono ?_); rintro r w6 ⟨rfl, hxb⟩; have hx6 := Ext.tr hx5 hxb; clear hx5; have hx5 := hx6; obtain ⟨e0, e1, e2, e3, e4⟩ := (bE.ext hx5).c5))
    go_ret
    exact ⟨rfl, hxW.tr hx5⟩
  · have HL := Lib.hid (fun w => (clusterlocksmill.Light_c l A c w))
    rw [decide_eq_false h3] at HL
    go_enter Try.func12, Try.ntmps12
    go_wp2_with (first
      | (go_at_call 20; (with_reducible refine (HL.out _).mono ?_); rintro r w' ⟨rfl, rfl⟩)
      | (go_at_call 15; (with_reducible refine (awake8_c _).mono ?_); rintro r w6 ⟨rfl, hxb⟩))
    go_ret
    exact ⟨rfl, hxb⟩
end Go.Proofs.Ytmboojbhnmdnkaa

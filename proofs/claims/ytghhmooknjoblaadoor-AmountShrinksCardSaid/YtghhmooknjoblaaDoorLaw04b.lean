
/- The statements about amounts (chapter 4): the walks of the laws, second part. -/
import Derived.Test.YtghhmooknjoblaaDoorLaw04
import Derived.Test.YtghhmooknjoblaaDoorSl
namespace Go.Proofs.YtghhmooknjoblaaDoor
open Go.RowKit
set_option linter.unusedVariables false
theorem am_low (b o len cap k : Nat) (hk : k ≤ len) (W : World) : (Instr.slice 30 (.slice (some ⟨b, o, none⟩) len cap) (some (.int .i64 (k : Int))) none none).run Tryd.prog W = .ok (.slice (some (if k = cap then ⟨b, o, none⟩ else ⟨b, o + k * 2, none⟩)) (len - k) (cap - k)) W := by
  obtain ⟨i, hi, _, hsize, _⟩ := info_parts am_info
  have h := run_slice_low (P := Tryd.prog) 30 25 i Tryd.underlying30 hi b o len cap k hk W
  rwa [hsize] at h
theorem am_high (b o len cap k : Nat) (hk : k ≤ cap) (W : World) : (Instr.slice 30 (.slice (some ⟨b, o, none⟩) len cap) none (some (.int .i64 (k : Int))) none).run Tryd.prog W = .ok (.slice (some ⟨b, o, none⟩) k cap) W := by
  obtain ⟨i, hi, _, hsize, _⟩ := info_parts am_info
  exact run_slice_high (P := Tryd.prog) 30 25 i Tryd.underlying30 hi b o len cap k hk W
/-- the part behind k -/
theorem sits_low {w : World} {b o cap k : Nat} {l : List CL.Am} (h : Sits w (some ⟨b, o, none⟩) (ams l)) (hk : k ≤ l.length) (hc : l.length ≤ cap) : Sits w (some (if k = cap then ⟨b, o, none⟩ else ⟨b, o + k * 2, none⟩)) (ams (l.drop k)) := by
  by_cases e : k = cap
  · have : l.drop k = [] := List.drop_eq_nil_of_le (by omega)
    rw [this]; exact Sits.nil
  · rw [if_neg e]
    rw [← List.take_append_drop k l, ams_append] at h
    have h2 := Sits.right h
    rwa [ams_len, List.length_take, Nat.min_eq_left hk] at h2
theorem sits_high {w : World} {b o k : Nat} {l : List CL.Am} (h : Sits w (some ⟨b, o, none⟩) (ams l)) : Sits w (some ⟨b, o, none⟩) (ams (l.take k)) := by
  rw [← List.take_append_drop k l, ams_append] at h
  exact Sits.left h
theorem AmountTurns_w (n : ByteArray) (k u h : Int) (l : List CL.Am) (A : Option Addr) (c : Nat) (z : Int) (w : World) (hT : Tab w) (hl : l.length ≤ maxLen) (hc : l.length ≤ c) (hr : Sits w A (ams l)) : Calls Tryd.prog 4 #[.agg #[.string n, .int .i64 k, .int .i64 u, .int .i64 h], .slice A l.length c, .int .i64 z] w fun e w' => e = .returned (.bool true) ∧ Ext w w' := by
  unfold maxLen at hl
  by_cases h60 : l.length ≤ 60 ∧ 0 < l.length
  · obtain ⟨h60, h0⟩ := h60
    have hl0 : ((l.length : Int) == 0) = false := beq_eq_false_iff_ne.2 (by omega)
    obtain ⟨b, o, rfl, hcell⟩ := hr.get (by rw [ams_len]; omega)
    have hr2 : Sits w (some ⟨b, o, none⟩) (ams l) := hr
    clear hcell hr
    have hm : ∃ q : Nat, q < l.length ∧ (z.tmod (l.length : Int) = (q : Int) ∨ z.tmod (l.length : Int) = (q : Int) - (l.length : Int)) := by
      have p1 := Int.tmod_lt_of_pos z (show (0 : Int) < (l.length : Int) by omega)
      have p2 := Int.tmod_lt_of_pos (-z) (show (0 : Int) < (l.length : Int) by omega)
      rw [Int.neg_tmod] at p2
      by_cases hs : 0 ≤ z.tmod (l.length : Int)
      · exact ⟨(z.tmod (l.length : Int)).toNat, by omega, .inl (by omega)⟩
      · exact ⟨(z.tmod (l.length : Int) + l.length).toNat, by omega, .inr (by omega)⟩
    obtain ⟨q, hq, hm⟩ := hm
    have hs1 := am_low b o l.length c q (by omega)
    rw [if_neg (show ¬ q = c by omega)] at hs1
    have hs2 := am_high b o l.length c q (by omega)
    have hq2 : (q : Int) - (l.length : Int) + (l.length : Int) = (q : Int) := by omega
    have hneg : (q : Int) - (l.length : Int) < 0 := by omega
    have hpm := CL.compat_perm (k := k) (u := u) (show (l.drop q ++ l.take q).Perm l from List.perm_append_comm.trans (by rw [List.take_append_drop]))
    rcases hm with hm | hm
    all_goals
      go_enter Tryd.func4, Tryd.ntmps4
      go_wp2_with fail
      obtain ⟨bR, hxW⟩ := box1 w #[.string n, .int .i64 k, .int .i64 u, .int .i64 h] 23
      have hz := Nat.le_of_eq (World.size_alloc w (.cells #[.string n, .int .i64 k, .int .i64 u, .int .i64 h] 23)).symm
      have hz' := Nat.le_of_eq (World.size_alloc w (.cells #[.string n, .int .i64 k, .int .i64 u, .int .i64 h] 23))
      generalize (w.alloc (.cells #[.string n, .int .i64 k, .int .i64 u, .int .i64 h] 23)) = W at *
      have hrW := hr2.ext hxW
      have hlo := sits_low (k := q) hrW (by omega) hc
      rw [if_neg (show ¬ q = c by omega)] at hlo
      have hhi := sits_high (k := q) hrW
      obtain ⟨e0, e1, e2, e3⟩ := bR.c4
      have tok1 : True := trivial
      clear hm
      go_region_held3 (fun w' => w'.cell? ⟨w.heap.size, 0, none⟩ = some (.string n) ∧ w'.cell? ⟨w.heap.size, 1, none⟩ = some (.int .i64 k) ∧ w'.cell? ⟨w.heap.size, 2, none⟩ = some (.int .i64 u) ∧ w'.cell? ⟨w.heap.size, 3, none⟩ = some (.int .i64 h))
        (first | go_keep | (refine ⟨?_, ?_, ?_, ?_⟩ <;> first | (rw [bcellB hb2 _ _ (by omega)]; first | go_keep | (refine Ext.cell (a := W) hfW ?_; assumption)) | (rw [bcellB hb1 _ _ (by omega)]; first | go_keep | (refine Ext.cell (a := W) (by go_grown) ?_; assumption)) | go_keep))
        (first
          | (have _t := tok1; clear _t tok1; refine step_append_sits _ (by rfl) (.tmp 28) (.tmp 31) _ (by rfl) (w.heap.size + 1) 25 2 16 _ Tryd.underlying30 am_info rfl (by omega) _ 0 [] (by rfl) (by first | exact own_empty _ _ _ (by (try simp); omega) | exact (own_empty _ _ _ (by (try simp); omega)).drew) _ _ _ (ams (l.drop q)) (by rfl) (by rw [ams_len]; (try simp); (try omega)) (by exact hlo.ext (by go_grown)) (ams_one _) (by simp only [maxLen]; omega) (by omega) (by (try simp); omega) ?_; intro v1 w1 hown1 hb1 hg1; obtain ⟨A1, c1, rfl, _, _⟩ := own_form hown1; have hf1 : Ext W w1 := Below.trans (by go_grown) (hb1.mono (by omega)))
          | (refine step_append_sits _ (by rfl) (.tmp 32) (.tmp 35) _ (by rfl) (w.heap.size + 1) 25 2 16 _ Tryd.underlying30 am_info rfl (by omega) _ _ _ (by rfl) (by first | exact hown1 | exact (by simpa only [Nat.zero_add] using hown1)) _ _ _ (ams (l.take q)) (by rfl) (by rw [ams_len]; (try simp); (try omega)) (by exact hhi.ext hf1) (ams_one _) (by simp only [maxLen]; omega) (by omega) (by have := hb1.size; (try simp at this); (try simp); omega) ?_; intro v2 w2 hown2 hb2 hg2; obtain ⟨A2, c2, rfl, _, _⟩ := own_form hown2))
      all_goals
        have hf2 : Ext W w2 := hf1.trans (hb2.mono (by omega))
        have hxW2 := hxW.tr hf2
        have hS2 : Sits w2 A2 (ams (l.drop q ++ l.take q)) := by rw [ams_append]; exact Sits.of_own hown2
        have q0 := ExtOf.cell (hf2.cell e0)
        have q1 := ExtOf.cell (hf2.cell e1)
        have q2 := ExtOf.cell (hf2.cell e2)
        have q3 := ExtOf.cell (hf2.cell e3)
        have hTx := fun x : ExtOf w2 => (hT.ext hxW2).ext x.ext
        have HTX := Lib.hid hTx
        have hSx := fun x : ExtOf w2 => (hr2.ext hxW2).ext x.ext
        have HSX := Lib.hid hSx
        have hUx := fun x : ExtOf w2 => hS2.ext x.ext
        have HUX := Lib.hid hUx
        clear hTx hSx hUx hown1 hown2 hb1 hb2 hg1 hg2 hs1 hs2 hq2
        go_wp2_with fail
        refine wp_region_ext_lit (by kernel_rfl) (by kernel_rfl) ?_
        repeat (go_big_quiet_step ((first
          | (go_at_call 12; exact xqX (awake4_c _ (HTX.out _)))
          | (go_at_call 18; exact xqX (amount.Compatible_n _ _ _ _ (l.drop q ++ l.take q) _ _ _ (by simp; omega) _ (HTX.out _) (by simp; omega) (HUX.out _)))
          | (go_at_call 18; exact xqX (amount.Compatible_n _ _ _ _ l _ _ _ rfl _ (HTX.out _) (by omega) (HSX.out _))))))
        refine wpQuiet_nil ?_
        intro wq hw'
        obtain ⟨⟨wq', hxq⟩, hw''⟩ := hw'
        subst hw''
        go_wp2
        go_ret
        exact ⟨rfl, hxW2.tr hxq⟩
  · have h2 : 60 < l.length ∨ l = [] := by
      by_cases h : 60 < l.length
      · exact .inl h
      · exact .inr (List.eq_nil_of_length_eq_zero (by omega))
    clear h60
    rcases h2 with h2 | rfl
    all_goals
      go_enter Tryd.func4, Tryd.ntmps4
      go_wp2_with fail
      obtain ⟨bR, hxW⟩ := box1 w #[.string n, .int .i64 k, .int .i64 u, .int .i64 h] 23
      have hTW := hT.ext hxW
      generalize (w.alloc (.cells #[.string n, .int .i64 k, .int .i64 u, .int .i64 h] 23)) = W at *
      go_wp2_with (go_at_call 12; refine (awake4_c _ hTW).mono ?_; rintro e w' ⟨rfl, hx1⟩)
      go_ret
      exact ⟨rfl, hxW.tr hx1⟩
end Go.Proofs.YtghhmooknjoblaaDoor

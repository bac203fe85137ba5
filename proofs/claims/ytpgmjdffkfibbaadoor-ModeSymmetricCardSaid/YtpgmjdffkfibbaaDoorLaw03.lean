/- The seven statements about lock modes (chapter 3), each for every input: the walks of the laws. -/
import Derived.Test.YtpgmjdffkfibbaaDoorMw3
namespace Go.Proofs.YtpgmjdffkfibbaaDoor
open Go.RowKit
theorem awake_c (w : World) (hT : Tab w) : Calls Tryd.prog 10 #[] w fun e w' => e = .returned (.bool true) ∧ Ext w w' := by
  have hx := Ext.rfl' (a := w)
  go_enter Tryd.func10, Tryd.ntmps10
  go_wp2_with (first
    | (go_at_call 21; refine (Parse_c [83, 73, 88] _).mono ?_; rintro e w' ⟨rfl, rfl⟩)
    | (go_at_call 17; refine (Sup_c _ _ _).mono ?_; rintro e w' ⟨rfl, hx1⟩; replace hx := hx.tr hx1; clear hx1)
    | (go_at_call 13; refine (Compatible_c _ _ _ (hT.ext hx)).mono ?_; rintro e w' ⟨rfl, rfl⟩)
    | (go_at_call 19; refine (Conflicts_c _ _ (hT.ext hx)).mono ?_; rintro e w1 ⟨v, rfl, hown, hx1⟩; obtain ⟨A, c, rfl, hc1, hc2⟩ := own_form hown; replace hx := hx.tr hx1; clear hx1))
  go_ret
  exact ⟨ret_bool (by decide), hx⟩
theorem ModeTable_w (a b : Int) (w : World) (hT : Tab w) : Calls Tryd.prog 3 #[.int .i64 a, .int .i64 b] w fun e w' => e = .returned (.bool true) ∧ Ext w w' := by
  have hx := Ext.rfl' (a := w)
  go_enter Tryd.func3, Tryd.ntmps3
  go_wp2_with (first
        | (go_at_call 10; refine (awake_c _ (hT.ext hx)).mono ?_; rintro e w' ⟨rfl, hx1⟩; replace hx := hx.tr hx1; clear hx1)
        | (go_at_call 11; refine (Valid_c _ _).mono ?_; rintro e w' ⟨rfl, rfl⟩)
        | (go_at_call 12; refine (RValid_c _ _).mono ?_; rintro e w' ⟨rfl, rfl⟩)
        | (go_at_call 13; refine (Compatible_c _ _ _ (hT.ext hx)).mono ?_; rintro e w' ⟨rfl, rfl⟩)
        | (go_at_call 14; refine (RCompatible_c _ _ _).mono ?_; rintro e w' ⟨rfl, rfl⟩)
        | (go_at_call 15; refine (Covers_c _ _ _).mono ?_; rintro e w' ⟨rfl, hx1⟩; replace hx := hx.tr hx1; clear hx1)
        | (go_at_call 16; refine (RCovers_c _ _ _).mono ?_; rintro e w' ⟨rfl, rfl⟩))
  go_ret
  exact ⟨rfl, hx⟩
theorem ModeSymmetric_w (a b c : Int) (w : World) (hT : Tab w) : Calls Tryd.prog 4 #[.int .i64 a, .int .i64 b, .int .i64 c] w fun e w' => e = .returned (.bool true) ∧ Ext w w' := by
  have hx := Ext.rfl' (a := w)
  have h1 := CL.cmp_comm b a
  have h2 := CL.cov_self a
  go_enter Tryd.func4, Tryd.ntmps4
  go_wp2_with (first
        | (go_at_call 10; refine (awake_c _ (hT.ext hx)).mono ?_; rintro e w' ⟨rfl, hx1⟩; replace hx := hx.tr hx1; clear hx1)
        | (go_at_call 11; refine (Valid_c _ _).mono ?_; rintro e w' ⟨rfl, rfl⟩)
        | (go_at_call 13; refine (Compatible_c _ _ _ (hT.ext hx)).mono ?_; rintro e w' ⟨rfl, rfl⟩)
        | (go_at_call 15; refine (Covers_c _ _ _).mono ?_; rintro e w' ⟨rfl, hx1⟩; replace hx := hx.tr hx1; clear hx1))
  all_goals (go_ret; refine ⟨ret_bool ?_, hx⟩; go_tidy; first | (with_reducible rfl) | (grind [CL.cov_anti, CL.cov_trans]))
theorem ModeWeakens_w (a b c : Int) (w : World) (hT : Tab w) : Calls Tryd.prog 6 #[.int .i64 a, .int .i64 b, .int .i64 c] w fun e w' => e = .returned (.bool true) ∧ Ext w w' := by
  have hx := Ext.rfl' (a := w)
  go_enter Tryd.func6, Tryd.ntmps6
  go_wp2_with (first
        | (go_at_call 10; refine (awake_c _ (hT.ext hx)).mono ?_; rintro e w' ⟨rfl, hx1⟩; replace hx := hx.tr hx1; clear hx1)
        | (go_at_call 13; refine (Compatible_c _ _ _ (hT.ext hx)).mono ?_; rintro e w' ⟨rfl, rfl⟩)
        | (go_at_call 15; refine (Covers_c _ _ _).mono ?_; rintro e w' ⟨rfl, hx1⟩; replace hx := hx.tr hx1; clear hx1))
  all_goals (go_ret; refine ⟨ret_bool ?_, hx⟩; go_tidy; first | (with_reducible rfl) | (grind [CL.cov_weak]))
theorem ModeSup_w (a b c : Int) (w : World) (hT : Tab w) : Calls Tryd.prog 5 #[.int .i64 a, .int .i64 b, .int .i64 c] w fun e w' => e = .returned (.bool true) ∧ Ext w w' := by
  have hx := Ext.rfl' (a := w)
  have h1 := CL.sup_comm b a
  go_enter Tryd.func5, Tryd.ntmps5
  go_wp2_with (first
        | (go_at_call 10; refine (awake_c _ (hT.ext hx)).mono ?_; rintro e w' ⟨rfl, hx1⟩; replace hx := hx.tr hx1; clear hx1)
        | (go_at_call 11; refine (Valid_c _ _).mono ?_; rintro e w' ⟨rfl, rfl⟩)
        | (go_at_call 17; refine (Sup_c _ _ _).mono ?_; rintro e w' ⟨rfl, hx1⟩; replace hx := hx.tr hx1; clear hx1)
        | (go_at_call 18; refine (RSup_c _ _ _).mono ?_; rintro e w' ⟨rfl, rfl⟩)
        | (go_at_call 15; refine (Covers_c _ _ _).mono ?_; rintro e w' ⟨rfl, hx1⟩; replace hx := hx.tr hx1; clear hx1))
  all_goals (go_ret; refine ⟨ret_bool ?_, hx⟩; go_tidy; first | (with_reducible rfl) | (grind [CL.sup_nl, CL.sup_nr, CL.sup_l, CL.sup_r, CL.sup_least, CL.sup_assoc]))
theorem ModeNames_w (m : Int) (s : List UInt8) (w : World) (hT : Tab w) : Calls Tryd.prog 8 #[.int .i64 m, .string ⟨s.toArray⟩] w fun e w' => e = .returned (.bool true) ∧ Ext w w' := by
  have hx := Ext.rfl' (a := w)
  go_enter Tryd.func8, Tryd.ntmps8
  go_wp2_with (first
        | (go_at_call 10; refine (awake_c _ (hT.ext hx)).mono ?_; rintro e w' ⟨rfl, hx1⟩; replace hx := hx.tr hx1; clear hx1)
        | (go_at_call 12; refine (RValid_c _ _).mono ?_; rintro e w' ⟨rfl, rfl⟩)
        | (go_at_call 20; refine (Format_c _ _).mono ?_; rintro e w' ⟨rfl, rfl⟩)
        | (go_at_call 23; refine (RFormat_c _ _).mono ?_; rintro e w' ⟨rfl, rfl⟩)
        | (go_at_call 21; refine (Parse_c _ _).mono ?_; rintro e w' ⟨rfl, rfl⟩)
        | (go_at_call 22; refine (RParse_c _ _).mono ?_; rintro e w' ⟨rfl, rfl⟩))
  all_goals (go_ret; refine ⟨ret_bool ?_, hx⟩; go_tidy; first | (with_reducible rfl) | (grind [CL.nm_prs, CL.prs_nm, CL.nm_bad, CL.prs_nil, CL.vld_zero]))
def confB (l : List Int) (m : Int) : Bool := l.all (fun x => CL.cmp m x)
theorem conf_take {m : Int} {l : List Int} {k : Nat} (h : k < l.length) : confB (l.take (k + 1)) m = (confB (l.take k) m && CL.cmp m l[k]) := by
  unfold confB
  rw [List.take_succ_eq_append_getElem h, List.all_append]; simp
theorem grp_conf {m : Int} : ∀ (l : List Int), CL.grp l ≠ 0 → CL.cmp m (CL.grp l) = confB l m
  | [], h => absurd rfl h
  | z :: l, h => by
    have : ∀ (l : List Int) (r : Int), CL.vld r = true → l.foldl CL.sup r ≠ 0 → CL.cmp m (l.foldl CL.sup r) = (CL.cmp m r && confB l m) := by
      intro l
      induction l with
      | nil => intro r _ _; simp [confB]
      | cons y l ih =>
        intro r hr h
        simp only [List.foldl_cons] at h ⊢
        by_cases hy : CL.vld y = true
        · rw [ih _ (CL.sup_vld hr hy) h, CL.sup_cmp hr hy]; simp [confB, Bool.and_assoc]
        · rw [CL.sup_nr (by simpa using hy), CL.foldl_zero] at h; exact absurd rfl h
    simp only [CL.grp] at h ⊢
    by_cases hz : CL.vld z = true
    · rw [CL.sup_self hz] at h ⊢
      rw [this l z hz h]; simp [confB]
    · rw [CL.sup_nl (by simpa using hz), CL.foldl_zero] at h; exact absurd rfl h
theorem ModeGroup_w (zs : List Int) (A : Option Addr) (c : Nat) (m : Int) (w : World) (hT : Tab w) (hl : zs.length ≤ maxLen) (hr : Sits w A (ints zs)) : Calls Tryd.prog 9 #[.slice A zs.length c, .int .i64 m] w fun e w' => e = .returned (.bool true) ∧ Ext w w' := by
  have hx := Ext.rfl' (a := w)
  have hl' := hl
  unfold maxLen at hl'
  by_cases hg : CL.grp zs = 0
  · have hz : (CL.grp zs == 0) = true := by simp [hg]
    clear hg
    go_enter Tryd.func9, Tryd.ntmps9
    go_wp2_with (first
        | (go_at_call 10; refine (awake_c _ (hT.ext hx)).mono ?_; rintro e w' ⟨rfl, hx1⟩; replace hx := hx.tr hx1; clear hx1)
        | (go_at_call 24; refine (Group_c _ _ _ _ hl (hr.ext hx)).mono ?_; rintro e w' ⟨rfl, hx1⟩; replace hx := hx.tr hx1; clear hx1)
        | (go_at_call 25; refine (RGroup_c _ _ _ _ hl (hr.ext hx)).mono ?_; rintro e w' ⟨rfl, hx1⟩; replace hx := hx.tr hx1; clear hx1))
    go_ret
    exact ⟨rfl, hx⟩
  · have hz : (CL.grp zs == 0) = false := by simpa using hg
    have HG := Lib.hid (grp_conf (m := m) zs hg)
    clear hg
    go_enter Tryd.func9, Tryd.ntmps9
    go_wp2_with (first
        | (go_at_call 10; refine (awake_c _ (hT.ext hx)).mono ?_; rintro e w' ⟨rfl, hx1⟩; replace hx := hx.tr hx1; clear hx1)
        | (go_at_call 24; refine (Group_c _ _ _ _ hl (hr.ext hx)).mono ?_; rintro e w' ⟨rfl, hx1⟩; replace hx := hx.tr hx1; clear hx1)
        | (go_at_call 25; refine (RGroup_c _ _ _ _ hl (hr.ext hx)).mono ?_; rintro e w' ⟨rfl, hx1⟩; replace hx := hx.tr hx1; clear hx1))
    go_loopw [6, 7] (fun r i wr => ∃ k : Nat, k ≤ zs.length ∧ i = .int .i64 k ∧ r = .bool (confB (zs.take k) m) ∧ Ext w wr) (fun _ i _ => zs.length - (intOf i).toNat)
    case atStart => exact ⟨0, by omega, rfl, rfl, hx⟩
    case round =>
      clear hx
      obtain ⟨k, hk, rfl, rfl, hx⟩ := hrel
      obtain ⟨wo, rfl⟩ : ∃ wo : World, wo = wr := ⟨_, rfl⟩
      by_cases hlt : k < zs.length
      · obtain ⟨b, o, rfl, hc⟩ := (hr.ext hx).get (by rw [ints_len]; omega)
        have hck : wo.cell? ⟨b, o + k, none⟩ = some (.int .i64 zs[k]) := hc k _ (ints_get hlt)
        have HS := Lib.hid (conf_take (m := m) hlt)
        clear hc
        cases hb : confB (zs.take k) m
        all_goals
          have HB := Lib.hid hb; clear hb
          go_wp2_with (first
        | (go_at_call 13; refine (Compatible_c _ _ _ (hT.ext hx)).mono ?_; rintro e w' ⟨rfl, rfl⟩))
          go_roundw
          case rel => exact ⟨k + 1, by omega, by go_num, by rw [HS.out, HB.out]; rfl, hx⟩
          case measure => simp [intOf]; omega
      · have HB := Lib.hid (show confB (zs.take k) m = confB zs m by rw [List.take_of_length_le (by omega)])
        go_wp2_with (first
        | (go_at_call 11; refine (Valid_c _ _).mono ?_; rintro e w' ⟨rfl, rfl⟩)
        | (go_at_call 13; refine (Compatible_c _ _ _ (hT.ext hx)).mono ?_; rintro e w' ⟨rfl, rfl⟩))
        all_goals (go_ret; refine ⟨ret_bool ?_, hx⟩; go_tidy; first | (with_reducible rfl) | (rw [HB.out, HG.out]; simp))
theorem cnf_has (m n : Int) : (cnf m).contains n = (CL.vld m && (CL.vld n && !CL.cmp m n)) := by
  by_cases hm : CL.vld m = true
  · by_cases hn : CL.vld n = true
    · exact of_decide_eq_true (CL.by2 (p := fun m n => decide ((cnf m).contains n = (CL.vld m && (CL.vld n && !CL.cmp m n)))) (by decide) hm hn)
    · have : n ∉ cnf m := by
        intro h
        simp only [cnf, hm, if_true, List.mem_filter] at h
        simp [CL.vld] at hn
        simp at h; omega
      simp [this, hn]
  · simp [cnf, hm]
def asc (L : List Int) : Bool := (List.range L.length).all fun k => CL.vld (L.getD k 0) && (k == 0 || decide (L.getD (k - 1) 0 < L.getD k 0))
theorem asc_at {L : List Int} (h : asc L = true) {k : Nat} (hk : k < L.length) : CL.vld L[k] = true ∧ (0 < k → ∀ h1 : k - 1 < L.length, L[k - 1] < L[k]) := by
  simp only [asc, List.all_eq_true, List.mem_range] at h
  have := h k hk
  simp [List.getD, hk] at this
  refine ⟨this.1, fun h0 h1 => ?_⟩
  rcases this.2 with h2 | h2
  · omega
  · simpa [h1] using h2
theorem asc_cnf (m : Int) : asc (cnf m) = true := by
  by_cases hm : CL.vld m = true
  · exact CL.by1 (p := fun m => asc (cnf m)) (by decide) hm
  · simp [cnf, hm, asc]
def hasB (L : List Int) (n : Int) : Bool := L.any fun x => x == n
theorem hasB_eq (L : List Int) (n : Int) : hasB L n = L.contains n := by
  rw [Bool.eq_iff_iff, List.contains_iff_mem, hasB, List.any_eq_true]
  exact ⟨fun ⟨x, h1, h2⟩ => (beq_iff_eq.1 h2) ▸ h1, fun h => ⟨n, h, by simp⟩⟩
theorem has_step {L : List Int} {n : Int} {k : Nat} (hk : k < L.length) : hasB (L.take (k + 1)) n = (hasB (L.take k) n || L[k] == n) := by
  unfold hasB
  rw [List.take_succ_eq_append_getElem hk, List.any_append]
  simp
theorem cnf_len (m : Int) : (cnf m).length ≤ 5 := by
  unfold cnf
  split
  · exact List.length_filter_le _ _
  · simp
set_option maxHeartbeats 400000 in
theorem ModeConflicts_w (m n : Int) (w : World) (hT : Tab w) : Calls Tryd.prog 7 #[.int .i64 m, .int .i64 n] w fun e w' => e = .returned (.bool true) ∧ Ext w w' := by
  have hx := Ext.rfl' (a := w)
  go_enter Tryd.func7, Tryd.ntmps7
  go_wp2_with (first
        | (go_at_call 19; refine (Conflicts_c _ _ (hT.ext hx)).mono ?_; rintro e w1 ⟨v, rfl, hown, hx1⟩; obtain ⟨A, c, rfl, hc1, hc2⟩ := own_form hown; replace hx := hx.tr hx1; clear hx1))
  have HH := Lib.hid ((hasB_eq (cnf m) n).trans (cnf_has m n))
  have HA := Lib.hid (asc_cnf m)
  have hl := cnf_len m
  have hS := Sits.of_own hown
  generalize hL : cnf m = L at *
  clear hL hown
  go_loopw [6, 7] (fun r i wr => ∃ k : Nat, k ≤ L.length ∧ i = .int .i64 k ∧ r = .bool (hasB (L.take k) n) ∧ Ext w1 wr) (fun _ i _ => L.length - (intOf i).toNat)
  case atStart => exact ⟨0, by omega, rfl, rfl, Ext.rfl'⟩
  case round =>
    obtain ⟨k, hk, rfl, rfl, hy⟩ := hrel
    obtain ⟨wo, rfl⟩ : ∃ wo : World, wo = wr := ⟨_, rfl⟩
    by_cases hlt : k < L.length
    · obtain ⟨b, o, rfl, hc⟩ := (hS.ext hy).get (by rw [ints_len]; omega)
      have hck : wo.cell? ⟨b, o + k, none⟩ = some (.int .i64 L[k]) := hc k _ (ints_get hlt)
      have hck1 : wo.cell? ⟨b, o + (k - 1), none⟩ = some (.int .i64 (L[k - 1]'(by omega))) := hc (k - 1) _ (ints_get (by omega))
      have HS := Lib.hid (has_step (n := n) hlt)
      obtain ⟨hv, ha⟩ := asc_at HA.out hlt
      clear hc
      rcases Nat.eq_zero_or_pos k with h0 | h0
      · subst h0
        have g1 : decide ((((0 : Nat) : Int)) > 0) = false := rfl
        have hck' : wo.cell? ⟨b, o, none⟩ = some (.int .i64 L[0]) := hck
        clear ha hck hck1 hk
        go_wp2_with fail
        go_quiet ((go_at_call 11; first | exact quietL (Valid_c _ _) | exact quietR (Valid_c _ _)))
        cases hb : hasB (L.take 0) n
        all_goals
          have HB := Lib.hid hb; clear hb
          go_wp2
          refine ⟨⟨1, by omega, rfl, ?_, hy.drewN _⟩, by simp [intOf]; omega⟩
          rw [show L.take 1 = L.take (0 + 1) from rfl, HS.out, HB.out]; rfl
      · have ha' := ha h0 (by omega)
        clear ha
        have g1 : IntKind.i64.wrap ((k : Int) - 1) = (k : Int) - 1 := IntWalk.i64_in _ (by omega)
        have g2 : (1 : Int) ≤ (k : Int) := by omega
        have g3 : ((k : Int) - 1).toNat = k - 1 := by omega
        have g4 : (k : Int) - 1 < (L.length : Int) := by omega
        have g5 : 0 ≤ (k : Int) - 1 := by omega
        go_wp2_with fail
        go_quiet ((go_at_call 11; first | exact quietL (Valid_c _ _) | exact quietR (Valid_c _ _)))
        cases hb : hasB (L.take k) n
        all_goals
          have HB := Lib.hid hb; clear hb
          go_wp2
          go_roundw
          case rel => exact ⟨k + 1, by omega, by go_num, by rw [HS.out, HB.out]; rfl, hy.drewN _⟩
          case measure => simp [intOf]; omega
    · have hx := hx.tr hy
      have HB := Lib.hid (show hasB (L.take k) n = hasB L n by rw [List.take_of_length_le (by omega)])
      go_wp2_with (first
        | (go_at_call 10; refine (awake_c _ (hT.ext hx)).mono ?_; rintro e w' ⟨rfl, hx1⟩; replace hx := hx.tr hx1; clear hx1)
        | (go_at_call 12; refine (RValid_c _ _).mono ?_; rintro e w' ⟨rfl, rfl⟩)
        | (go_at_call 14; refine (RCompatible_c _ _ _).mono ?_; rintro e w' ⟨rfl, rfl⟩))
      all_goals (go_ret; refine ⟨ret_bool ?_, hx⟩; go_tidy; rw [HB.out, HH.out]; simp [*])
end Go.Proofs.YtpgmjdffkfibbaaDoor

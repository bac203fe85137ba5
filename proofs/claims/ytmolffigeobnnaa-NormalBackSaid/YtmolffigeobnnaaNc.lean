
/- The walks of the comparison by which normal's least sorts. -/
import Derived.Test.YtmolffigeobnnaaNm
namespace Go.Proofs.Ytmolffigeobnnaa
open Go.RowKit
set_option linter.unusedVariables false
set_option linter.unusedSimpArgs false
set_option maxRecDepth 100000
def cmpI (x y : Int) : Int := if x < y then -1 else if y < x then 1 else 0
def scmp : List Int → List Int → Int
  | [], [] => 0
  | [], _ :: _ => -1
  | _ :: _, [] => 1
  | x :: a, y :: b => if cmpI x y = 0 then scmp a b else cmpI x y
def orI (x y : Int) : Int := if x = 0 then y else x
def cfS (a b : List Int) : Int := orI (cmpI a.length b.length) (scmp a b)
theorem cmpI_zero {x y : Int} : cmpI x y = 0 ↔ x = y := by
  unfold cmpI; split
  · omega
  · split <;> omega
theorem cmpI_neg {x y : Int} : cmpI x y < 0 ↔ x < y := by
  unfold cmpI; split
  · omega
  · split <;> omega
theorem cfS_slt (a b : List Int) : decide (cfS a b < 0) = slt a b := by
  have h : ∀ a b : List Int, a.length = b.length → decide (scmp a b < 0) = lxl a b := by
    intro a
    induction a with
    | nil => intro b hl; cases b with
      | nil => simp [scmp, lxl]
      | cons y b => simp at hl
    | cons x a ih =>
      intro b hl
      cases b with
      | nil => simp at hl
      | cons y b =>
        simp only [scmp, lxl, cmpI_zero]
        split
        · exact ih b (by simpa using hl)
        · rw [Bool.eq_iff_iff]; simp only [decide_eq_true_eq, cmpI_neg]
  unfold cfS orI slt
  by_cases e : a.length = b.length
  · rw [if_pos (cmpI_zero.2 (by omega)), if_pos e]; exact h a b e
  · rw [if_neg (fun h => e (by have := cmpI_zero.1 h; omega)), if_neg e, Bool.eq_iff_iff]
    simp only [decide_eq_true_eq, cmpI_neg]; omega
theorem isNaN_c (x : Int) (w : World) : Calls Try.prog 86 #[.int .i64 x] w fun r w' => r = .returned (.bool false) ∧ w = w' := by
  go_enter Try.func86, Try.ntmps86
  go_wp2
  go_ret
  exact ⟨ret_bool (by simp), rfl⟩
theorem cmpI_c (x y : Int) (w : World) : Calls Try.prog 70 #[.int .i64 x, .int .i64 y] w fun r w' => r = .returned (.int .i64 (cmpI x y)) ∧ w = w' := by
  rcases Int.lt_trichotomy x y with h | h | h
  · have HE := Lib.hid (show cmpI x y = -1 by unfold cmpI; rw [if_pos h])
    go_enter Try.func70, Try.ntmps70
    go_wp2_with (go_at_call 86; refine (isNaN_c _ _).mono ?_; rintro r w' ⟨rfl, rfl⟩)
    go_ret
    exact ⟨ret_int HE.out.symm, rfl⟩
  · subst h
    have HE := Lib.hid (show cmpI x x = 0 by unfold cmpI; rw [if_neg (by omega), if_neg (by omega)])
    go_enter Try.func70, Try.ntmps70
    go_wp2_with (go_at_call 86; refine (isNaN_c _ _).mono ?_; rintro r w' ⟨rfl, rfl⟩)
    go_ret
    exact ⟨ret_int HE.out.symm, rfl⟩
  · have HE := Lib.hid (show cmpI x y = 1 by unfold cmpI; rw [if_neg (by omega), if_pos h])
    have h2 : ¬ x < y := by omega
    go_enter Try.func70, Try.ntmps70
    go_wp2_with (go_at_call 86; refine (isNaN_c _ _).mono ?_; rintro r w' ⟨rfl, rfl⟩)
    go_ret
    exact ⟨ret_int HE.out.symm, rfl⟩
theorem scmp_step {a b : List Int} {j : Nat} (h1 : j < a.length) (h2 : j < b.length) : scmp (a.drop j) (b.drop j) = if cmpI a[j] b[j] = 0 then scmp (a.drop (j + 1)) (b.drop (j + 1)) else cmpI a[j] b[j] := by
  rw [List.drop_eq_getElem_cons h1, List.drop_eq_getElem_cons h2, scmp]
theorem scmp_gt {a b : List Int} {j : Nat} (h1 : j < a.length) (h2 : b.length ≤ j) : scmp (a.drop j) (b.drop j) = 1 := by
  rw [List.drop_eq_getElem_cons h1, List.drop_eq_nil_of_le h2, scmp]
theorem scmp_lt {a b : List Int} {j : Nat} (h1 : a.length ≤ j) (h2 : j < b.length) : scmp (a.drop j) (b.drop j) = -1 := by
  rw [List.drop_eq_getElem_cons h2, List.drop_eq_nil_of_le h1, scmp]
theorem scmp_eq {a b : List Int} {j : Nat} (h1 : a.length ≤ j) (h2 : b.length ≤ j) : scmp (a.drop j) (b.drop j) = 0 := by
  rw [List.drop_eq_nil_of_le h2, List.drop_eq_nil_of_le h1, scmp]
set_option maxHeartbeats 1600000 in
theorem sCompare_c (a b : List Int) (A D : Option Addr) (c d : Nat) (ha : a.length ≤ maxLen) (hb : b.length ≤ maxLen) (w : World) (hA : Sits w A (ints a)) (hD : Sits w D (ints b)) :
    Calls Try.prog 71 #[.slice A a.length c, .slice D b.length d] w fun r w' => r = .returned (.int .i64 (scmp a b)) ∧ w = w' := by
  unfold maxLen at ha hb
  go_enter Try.func71, Try.ntmps71
  go_wp2
  go_loopw [11] (fun i wr => ∃ j : Nat, j ≤ a.length ∧ j ≤ b.length ∧ i = .int .i64 j ∧ w = wr ∧ Hid (scmp a b = scmp (a.drop j) (b.drop j))) (fun i _ => a.length - (intOf i).toNat)
  case atStart => exact ⟨0, by omega, by omega, rfl, rfl, Lib.hid (by simp)⟩
  case round =>
    obtain ⟨j, hj, hj2, rfl, rfl, HJ⟩ := hrel
    by_cases h1 : j < a.length
    · obtain ⟨b1, o1, rfl, c1⟩ := hA.int h1
      by_cases h2 : j < b.length
      · obtain ⟨b2, o2, rfl, c2⟩ := hD.int h2
        have HS := Lib.hid (scmp_step h1 h2)
        have h2' : ¬ (b.length : Int) ≤ (j : Int) := by omega
        generalize a[j] = x at *
        generalize b[j] = y at *
        by_cases hz : cmpI x y = 0
        · have HS2 := Lib.hid (HS.out.trans (if_pos hz))
          have hz' : (cmpI x y != 0) = false := by simp [hz]
          clear hz
          go_wp2_with (go_at_call 70; refine (cmpI_c _ _ _).mono ?_; rintro r w' ⟨rfl, rfl⟩)
          exact ⟨⟨j + 1, by omega, by omega, by go_num, by simp, Lib.hid (HJ.out.trans HS2.out)⟩, by simp [intOf]; omega⟩
        · have HS2 := Lib.hid (HS.out.trans (if_neg hz))
          have hz' : (cmpI x y != 0) = true := by simp [hz]
          clear hz
          go_wp2_with (go_at_call 70; refine (cmpI_c _ _ _).mono ?_; rintro r w' ⟨rfl, rfl⟩)
          go_ret
          exact ⟨ret_int (HJ.out.trans HS2.out).symm, rfl⟩
      · have HS := Lib.hid (HJ.out.trans (scmp_gt h1 (by omega)))
        have h2' : (b.length : Int) ≤ (j : Int) := by omega
        go_wp2
        go_ret
        exact ⟨ret_int HS.out.symm, rfl⟩
    · by_cases h2 : j < b.length
      · have HS := Lib.hid (HJ.out.trans (scmp_lt (by omega) h2))
        have h3 : decide (a.length < b.length) = true := decide_eq_true (by omega)
        go_wp2
        go_ret
        exact ⟨ret_int HS.out.symm, rfl⟩
      · have HS := Lib.hid (HJ.out.trans (scmp_eq (by omega) (by omega)))
        have h3 : decide (a.length < b.length) = false := decide_eq_false (by omega)
        go_wp2
        go_ret
        exact ⟨ret_int HS.out.symm, rfl⟩
set_option maxHeartbeats 1600000 in
theorem cmpOr_c (x y : Int) (b : Nat) (w : World) (h0 : w.cell? ⟨b, 0, none⟩ = some (.int .i64 x)) (h1 : w.cell? ⟨b, 1, none⟩ = some (.int .i64 y)) :
    Calls Try.prog 69 #[.slice (some ⟨b, 0, none⟩) 2 2] w fun r w' => r = .returned (.int .i64 (orI x y)) ∧ w = w' := by
  by_cases hx : x = 0
  · have HE := Lib.hid (show orI x y = y from if_pos hx)
    subst hx
    by_cases hy : y = 0
    · subst hy
      go_enter Try.func69, Try.ntmps69
      go_wp2
      refine wp_loop_rounds 3 ?_
      iterate 3 (rw [rounds_succ]; go_wp2)
      go_ret
      exact ⟨ret_int HE.out.symm, rfl⟩
    · have hy' : (y != 0) = true := by simpa using hy
      clear hy
      go_enter Try.func69, Try.ntmps69
      go_wp2
      refine wp_loop_rounds 2 ?_
      iterate 2 (rw [rounds_succ]; go_wp2)
      go_ret
      exact ⟨ret_int HE.out.symm, rfl⟩
  · have hx' : (x != 0) = true := by simpa using hx
    have HE := Lib.hid (show orI x y = x from if_neg hx)
    clear hx
    go_enter Try.func69, Try.ntmps69
    go_wp2
    refine wp_loop_rounds 1 ?_
    rw [rounds_succ]
    go_wp2
    go_ret
    exact ⟨ret_int HE.out.symm, rfl⟩
set_option maxHeartbeats 800000 in
theorem least1_c (a b : List Int) (A D : Option Addr) (c d : Nat) (ha : a.length ≤ maxLen) (hb : b.length ≤ maxLen) (w : World) (hA : Sits w A (ints a)) (hD : Sits w D (ints b)) :
    Calls Try.prog 68 #[.slice A a.length c, .slice D b.length d] w fun r w' => r = .returned (.int .i64 (cfS a b)) ∧ w' = w.alloc (.cells #[.int .i64 (cmpI a.length b.length), .int .i64 (scmp a b)] 3) := by
  have HC := Lib.hid (show cfS a b = orI (cmpI a.length b.length) (scmp a b) from rfl)
  have hcc := sCompare_c a b A D c d ha hb w hA hD
  have HCC := Lib.hid hcc
  have hbk := Blk.new w 3 #[.int .i64 (cmpI a.length b.length), .int .i64 (scmp a b)]
  have HOO := Lib.hid (cmpOr_c (cmpI a.length b.length) (scmp a b) w.heap.size _ (hbk.cell 0) (hbk.cell 1))
  clear hcc hA hD hbk
  go_enter Try.func68, Try.ntmps68
  go_wp2_with (first
    | (go_at_call 70; (with_reducible refine (cmpI_c _ _ _).mono ?_); rintro r w' ⟨rfl, rfl⟩)
    | (go_at_call 71; (with_reducible refine HCC.out.mono ?_); rintro r w' ⟨rfl, rfl⟩)
    | (go_at_call 69; (with_reducible refine HOO.out.mono ?_); rintro r w' ⟨rfl, rfl⟩))
  go_ret
  exact ⟨ret_int HC.out.symm, rfl⟩
end Go.Proofs.Ytmolffigeobnnaa

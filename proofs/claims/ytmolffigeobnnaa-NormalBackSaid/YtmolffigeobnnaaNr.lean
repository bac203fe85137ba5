
/- The walks of the reference of chapter 9: less, SameSets, Minimal. -/
import Derived.Test.YtmolffigeobnnaaNn
import Derived.Deep.DrawnRows
namespace Go.Proofs.Ytmolffigeobnnaa
open Go.RowKit
set_option linter.unusedVariables false
set_option linter.unusedSimpArgs false
set_option maxRecDepth 100000
attribute [local go_sem ↓] Go.wp_at_zero Go.wp_at_succ
theorem lxl_step {a b : List Int} {j : Nat} (h1 : j < a.length) (h2 : j < b.length) : lxl (a.drop j) (b.drop j) = if a[j] = b[j] then lxl (a.drop (j + 1)) (b.drop (j + 1)) else decide (a[j] < b[j]) := by
  rw [List.drop_eq_getElem_cons h1, List.drop_eq_getElem_cons h2, lxl]
theorem lxl_end {a b : List Int} {j : Nat} (h1 : a.length ≤ j) : lxl (a.drop j) (b.drop j) = false := by
  rw [List.drop_eq_nil_of_le h1, lxl]
set_option maxHeartbeats 1600000 in
theorem less_c (a b : List Int) (A D : Option Addr) (c d : Nat) (ha : a.length ≤ maxLen) (hb : b.length ≤ maxLen) (w : World) (hA : Sits w A (ints a)) (hD : Sits w D (ints b)) :
    Calls Try.prog 50 #[.slice A a.length c, .slice D b.length d] w fun r w' => r = .returned (.bool (slt a b)) ∧ Ext w w' := by
  unfold maxLen at ha hb
  by_cases hl : a.length = b.length
  · have HS0 := Lib.hid (show slt a b = lxl a b by unfold slt; rw [if_pos hl])
    have hl' : (a.length != b.length) = false := by simp [hl]
    have HL := Lib.hid hl
    clear hl
    go_enter Try.func50, Try.ntmps50
    go_wp2
    go_loopw [5] (fun i wr => ∃ j : Nat, j ≤ a.length ∧ i = .int .i64 j ∧ Ext w wr ∧ Hid (lxl a b = lxl (a.drop j) (b.drop j))) (fun i _ => a.length - (intOf i).toNat)
    case atStart => exact ⟨0, by omega, rfl, Ext.rfl', Lib.hid (by simp)⟩
    case round =>
      obtain ⟨j, hj, rfl, hx, HJ⟩ := hrel
      by_cases hlt : j < a.length
      · have hlt2 : j < b.length := by rw [← HL.out]; exact hlt
        obtain ⟨b1, o1, rfl, c1⟩ := (hA.ext hx).int hlt
        obtain ⟨b2, o2, rfl, c2⟩ := (hD.ext hx).int hlt2
        have HS := Lib.hid (lxl_step hlt hlt2)
        have q1 := ExtOf.cell c1
        have q2 := ExtOf.cell c2
        have i1 : (j : Int) < (a.length : Int) := by omega
        have i2 : (j : Int) < (b.length : Int) := by omega
        generalize a[j] = x at *
        generalize b[j] = y at *
        by_cases hxy : x = y
        · have HS2 := Lib.hid (HS.out.trans (if_pos hxy))
          have hxy' : (x != y) = false := by simpa using hxy
          clear hxy c1 c2
          go_wp2_with fail
          refine wp_region_ext_lit (by kernel_rfl) (by kernel_rfl) ?_
          repeat (go_big_quiet_step (fail))
          refine wpQuiet_nil ?_
          intro wq hw'
          obtain ⟨⟨wq', hxq⟩, hw''⟩ := hw'
          subst hw''
          go_wp2
          exact ⟨⟨j + 1, by omega, by go_num, hx.tr hxq, Lib.hid (HJ.out.trans HS2.out)⟩, by simp [intOf]; omega⟩
        · have HS2 := Lib.hid (HS.out.trans (if_neg hxy))
          have hxy' : (x != y) = true := by simpa using hxy
          clear hxy
          go_wp2_with fail
          refine wp_region_ext_lit (by kernel_rfl) (by kernel_rfl) ?_
          repeat (go_big_quiet_step (fail))
          refine wpQuiet_nil ?_
          intro wq hw'
          obtain ⟨⟨wq', hxq⟩, hw''⟩ := hw'
          subst hw''
          go_wp2_with fail
          have q1 := ExtOf.cell (hxq.cell c1)
          have q2 := ExtOf.cell (hxq.cell c2)
          have hxx := hx.tr hxq
          clear c1 c2 hxq
          refine wp_region_ext_lit (by kernel_rfl) (by kernel_rfl) ?_
          repeat (go_big_quiet_step (fail))
          refine wpQuiet_nil ?_
          intro wq hw'
          obtain ⟨⟨wq', hxq⟩, hw''⟩ := hw'
          subst hw''
          go_wp2
          go_ret
          exact ⟨ret_bool (by rw [HS0.out, HJ.out, HS2.out]), hxx.tr hxq⟩
      · have HS := Lib.hid (HJ.out.trans (lxl_end (by omega)))
        go_wp2
        go_ret
        exact ⟨ret_bool (by rw [HS0.out, HS.out]), hx⟩
  · have HS0 := Lib.hid (show slt a b = decide (a.length < b.length) by unfold slt; rw [if_neg hl])
    have hl' : (a.length != b.length) = true := by simp [hl]
    clear hl
    go_enter Try.func50, Try.ntmps50
    go_wp2
    all_goals
      go_ret
      exact ⟨ret_bool (by rw [HS0.out]), Ext.rfl'⟩
/-- lists of numbers behind slices behind a slice -/
def MatAt (w : World) (A : Option Addr) (ls : List (List Int)) : Prop := ∃ vs, Sits w A vs ∧ Mats w 0 none vs ls
theorem RowS.weak {w : World} {base : Nat} {u : Option Nat} {v : Value} {l : List Int} (h : RowS w base u v l) : RowS w 0 none v l :=
  let ⟨A, c, e, h1, h2, h3⟩ := h
  ⟨A, c, e, h1, h2, fun b o e => ⟨Nat.zero_le _, (h3 b o e).2.1, by simp⟩⟩
theorem Mats.weak {w : World} {base : Nat} {u : Option Nat} {vs : List Value} {ls : List (List Int)} (h : Mats w base u vs ls) : Mats w 0 none vs ls := ⟨h.1, fun i p q => (h.2 i p q).weak⟩
theorem MatAt.ext {w w' : World} {A : Option Addr} {ls : List (List Int)} (h : MatAt w A ls) (hx : Ext w w') : MatAt w' A ls :=
  let ⟨vs, h1, h2⟩ := h
  ⟨vs, h1.ext hx, h2.ext hx⟩
theorem MatAt.get {w : World} {A : Option Addr} {ls : List (List Int)} (h : MatAt w A ls) {i : Nat} (hi : i < ls.length) :
    ∃ b o Ai ci, A = some ⟨b, o, none⟩ ∧ w.cell? ⟨b, o + i, none⟩ = some (.slice Ai ls[i].length ci) ∧ ls[i].length ≤ maxLen ∧ Sits w Ai (ints ls[i]) := by
  obtain ⟨vs, h1, h2, h3⟩ := h
  obtain ⟨b, o, e, hc⟩ := h1.get (by omega)
  obtain ⟨Ai, ci, e2, h4, h5, _⟩ := h3 i hi (by omega)
  exact ⟨b, o, Ai, ci, e, by rw [← e2]; exact hc i _ (List.getElem?_eq_getElem _), h4, h5⟩
theorem SetsAt.mat {ls : List (List Int)} {w w' : World} {r : Ending} (h : SetsAt ls w r w') : ∃ A c, r = .returned (.slice A ls.length c) ∧ MatAt w' A ls ∧ Ext w w' :=
  let ⟨A, c, vs, e, h1, h2, h3⟩ := h
  ⟨A, c, e, ⟨vs, h1, h2.weak⟩, h3⟩
set_option maxHeartbeats 1600000 in
theorem SameSets_c (ls : List (List Int)) (A D : Option Addr) (c d : Nat) (hl : ls.length ≤ maxLen) (w : World) (hA : MatAt w A ls) (hD : MatAt w D ls) :
    Calls Try.prog 15 #[.slice A ls.length c, .slice D ls.length d] w fun r w' => r = .returned (.bool true) ∧ Ext w w' := by
  unfold maxLen at hl
  go_enter Try.func15, Try.ntmps15
  go_wp2
  go_loopw [5] (fun i wr => ∃ j : Nat, j ≤ ls.length ∧ i = .int .i64 j ∧ Ext w wr) (fun i _ => ls.length - (intOf i).toNat)
  case atStart => exact ⟨0, by omega, rfl, Ext.rfl'⟩
  case round =>
    obtain ⟨j, hj, rfl, hx⟩ := hrel
    obtain ⟨wo, rfl⟩ : ∃ wo : World, wo = wr := ⟨_, rfl⟩
    by_cases hlt : j < ls.length
    · obtain ⟨b1, o1, A1, c1, rfl, k1, hlm, s1⟩ := (hA.ext hx).get hlt
      obtain ⟨b2, o2, A2, c2, rfl, k2, _, s2⟩ := (hD.ext hx).get hlt
      have q1 := ExtOf.cell k1
      have q2 := ExtOf.cell k2
      have i1 : (j : Int) < (ls.length : Int) := by omega
      generalize ls[j] = l at *
      unfold maxLen at hlm
      clear hA hD
      go_wp2_with fail
      refine wp_region_ext_lit (by kernel_rfl) (by kernel_rfl) ?_
      repeat (go_big_quiet_step (fail))
      refine wpQuiet_nil ?_
      intro wq hw'
      obtain ⟨⟨wq', hxq⟩, hw''⟩ := hw'
      subst hw''
      have hy0 := hxq
      clear q1 q2
      go_wp2
      go_loopw [6] (fun i wr => ∃ m : Nat, m ≤ l.length ∧ i = .int .i64 m ∧ Ext wo wr) (fun i _ => l.length - (intOf i).toNat)
      case atStart => exact ⟨0, by omega, rfl, hy0⟩
      case round =>
        obtain ⟨m, hm, rfl, hy⟩ := hrel
        have g1 := hy.cell k1
        by_cases hlt2 : m < l.length
        · obtain ⟨b3, o3, rfl, k3⟩ := (s1.ext hy).int hlt2
          obtain ⟨b4, o4, rfl, k4⟩ := (s2.ext hy).int hlt2
          have q1 := ExtOf.cell g1
          have q2 := ExtOf.cell (hy.cell k2)
          have q3 := ExtOf.cell k3
          have q4 := ExtOf.cell k4
          have i2 : (m : Int) < (l.length : Int) := by omega
          generalize l[m] = x at *
          have hxx : (x != x) = false := by simp
          clear k3 k4
          go_wp2_with fail
          clear g1 k1 k2
          refine wp_region_ext_lit (by kernel_rfl) (by kernel_rfl) ?_
          repeat (go_big_quiet_step (fail))
          refine wpQuiet_nil ?_
          intro wq hw'
          obtain ⟨⟨wq', hxq⟩, hw''⟩ := hw'
          subst hw''
          go_wp2
          exact ⟨⟨m + 1, by omega, by go_num, hy.tr hxq⟩, by simp [intOf]; omega⟩
        · go_wp2
          exact ⟨⟨j + 1, by omega, by go_num, hx.tr hy⟩, by simp [intOf]; omega⟩
    · go_wp2
      go_ret
      exact ⟨rfl, hx⟩
end Go.Proofs.Ytmolffigeobnnaa


/- The statements about normal forms (chapter 9): the walk of NormalCovers. -/
import Derived.Test.YtmolffigeobnnaaLaw09d
import Derived.Deep.DrawnRows
import Derived.Deep.RegionHeld3
namespace Go.Proofs.Ytmolffigeobnnaa
open Go.RowKit
set_option linter.unusedVariables false
set_option linter.unusedSimpArgs false
set_option maxRecDepth 100000
attribute [local go_sem ↓] Go.wp_at_zero Go.wp_at_succ
theorem sits_blk9 {w : World} {g : Nat} {t : TypeId} {cs : Array Value} (h : Blk w g t cs) : Sits w (some ⟨g, 0, none⟩) cs.toList := fun _ =>
  ⟨g, 0, rfl, fun j u hu => by rw [Nat.zero_add, h.cell]; simpa using hu⟩
def inz (s : List Bool) (z : Int) : Bool := decide (0 ≤ z) && s.getD z.toNat false
theorem inS_eq (s : List Bool) (l : List Int) : inS s l = l.all (inz s) := rfl
theorem all_take {α : Type} {p : α → Bool} {l : List α} {j : Nat} (hj : j < l.length) : (l.take (j + 1)).all p = ((l.take j).all p && p l[j]) := by
  rw [List.take_add_one, List.getElem?_eq_getElem hj, List.all_append]; simp only [Option.toList, List.all_cons, List.all_nil, Bool.and_true]
set_option maxHeartbeats 1600000 in
theorem within_c (ls : List (List Int)) (s : List Bool) (A D : Option Addr) (c d : Nat) (hl : ls.length ≤ maxLen) (hs : s.length ≤ maxLen) (w : World) (hA : MatAt w A ls) (hD : Sits w D (bls s)) :
    Calls Try.prog 40 #[.slice A ls.length c, .slice D s.length d] w fun r w' => r = .returned (.bool (wth ls s)) ∧ Ext w w' := by
  unfold maxLen at hl hs
  have HC := Lib.hid (show wth ls s = ls.any (inS s) from rfl)
  go_enter Try.func40, Try.ntmps40
  go_wp2
  go_loopw [5] (fun i wr => ∃ j : Nat, j ≤ ls.length ∧ i = .int .i64 j ∧ Ext w wr ∧ Hid (wth ls s = (ls.drop j).any (inS s))) (fun i _ => ls.length - (intOf i).toNat)
  case atStart => exact ⟨0, by omega, rfl, Ext.rfl', Lib.hid (by rw [HC.out]; simp)⟩
  case round =>
    obtain ⟨j, hj, rfl, hx, HJ⟩ := hrel
    obtain ⟨wo, rfl⟩ : ∃ wo : World, wo = wr := ⟨_, rfl⟩
    by_cases hlt : j < ls.length
    · obtain ⟨b1, o1, P1, d1, rfl, k1, hlm, s1⟩ := (hA.ext hx).get hlt
      have HS := Lib.hid (any_step (p := inS s) hlt)
      have hji : (j : Int) < (ls.length : Int) := by omega
      generalize ls[j] = a at *
      have hDo := hD.ext hx
      unfold maxLen at hlm
      go_wp2
      go_loopw [6, 7] (fun v i wr => ∃ (m : Nat) (t : Bool), m ≤ a.length ∧ v = .bool t ∧ i = .int .i64 m ∧ Ext wo wr ∧ Hid (t = (a.take m).all (inz s))) (fun _ i _ => a.length - (intOf i).toNat)
      case atStart => exact ⟨0, true, by omega, rfl, rfl, Ext.rfl', Lib.hid (by simp)⟩
      case round =>
        obtain ⟨m, t, hm, rfl, rfl, hy, HK⟩ := hrel
        obtain ⟨wi, rfl⟩ : ∃ wi : World, wi = wr := ⟨_, rfl⟩
        have g1 := hy.cell k1
        by_cases hlt2 : m < a.length
        · obtain ⟨b2, o2, rfl, c2⟩ := (s1.ext hy).int hlt2
          have hmi : (m : Int) < (a.length : Int) := by omega
          have HT := Lib.hid (all_take (p := inz s) hlt2)
          rw [← HK.out] at HT
          generalize a[m] = z at *
          cases t
          · go_wp2
            exact ⟨⟨m + 1, false, by omega, rfl, by go_num, hy, Lib.hid (by rw [HT.out]; rfl)⟩, by simp [intOf]; omega⟩
          · by_cases hz : 0 ≤ z
            · obtain ⟨q, rfl⟩ := Int.eq_ofNat_of_zero_le hz
              by_cases hq : q < s.length
              · obtain ⟨b3, o3, rfl, c3⟩ := (hDo.ext hy).bool hq
                have hqi : (q : Int) < (s.length : Int) := by omega
                have HQ := Lib.hid (show inz s (q : Int) = s[q] by simp [inz, List.getD, hq])
                generalize s[q] = u at *
                go_wp2
                exact ⟨⟨m + 1, u, by omega, rfl, by go_num, hy, Lib.hid (by rw [HT.out, HQ.out, Bool.true_and])⟩, by simp [intOf]; omega⟩
              · have hqi : ¬ (q : Int) < (s.length : Int) := by omega
                have HQ := Lib.hid (show inz s (q : Int) = false by simp [inz, List.getD, List.getElem?_eq_none (show s.length ≤ q by omega)])
                go_wp2
                exact ⟨⟨m + 1, false, by omega, rfl, by go_num, hy, Lib.hid (by rw [HT.out, HQ.out, Bool.true_and])⟩, by simp [intOf]; omega⟩
            · have HQ := Lib.hid (show inz s z = false by simp [inz, hz])
              go_wp2
              exact ⟨⟨m + 1, false, by omega, rfl, by go_num, hy, Lib.hid (by rw [HT.out, HQ.out, Bool.true_and])⟩, by simp [intOf]; omega⟩
        · have HE := Lib.hid (show inS s a = t by rw [HK.out, inS_eq, List.take_of_length_le (by omega)])
          cases t
          · go_wp2
            exact ⟨⟨j + 1, by omega, by go_num, hx.tr hy, Lib.hid (by rw [HJ.out, HS.out, HE.out, Bool.false_or])⟩, by simp [intOf]; omega⟩
          · go_wp2
            go_ret
            exact ⟨ret_bool (by rw [HJ.out, HS.out, HE.out, Bool.true_or]), hx.tr hy⟩
    · have HE := Lib.hid (show wth ls s = false by rw [HJ.out, any_end (by omega)])
      go_wp2
      go_ret
      exact ⟨ret_bool HE.out.symm, hx⟩
set_option maxHeartbeats 3200000 in
theorem NormalCovers_w (l : List Int) (A : Option Addr) (c : Nat) (x : Int) (w : World) (hl : l.length ≤ maxLen) (hr : Sits w A (ints l)) : Calls Try.prog 11 #[.slice A l.length c, .int .i64 x] w fun r w' => r = .returned (.bool true) ∧ Ext w w' := by
  have HL := Lib.hid (fun w => (clusterlocksmill.Light_c l A c w))
  have HAW := Lib.hid (fun w => awake9_c w)
  by_cases h3 : l.length ≤ 300
  · rw [decide_eq_true h3] at HL
    go_enter Try.func11, Try.ntmps11
    go_wp2_with (first
      | (go_at_call 28; (with_reducible refine (HL.out _).mono ?_); rintro r w' ⟨rfl, rfl⟩)
      | (go_at_call 29; (with_reducible refine (made_c l A c _ hl hr).mono ?_); rintro r w1 ⟨e, k, n, m, u, A1, l1, c1, rfl, hv, hR, hx1⟩))
    obtain ⟨bE, hxb⟩ := box1 w1 #[.int .i64 k, .string n, .int .i64 m, .int .i64 u, .slice A1 l1 c1] 28
    have hz1 := hx1.size
    have hzb := hxb.size
    have HRW := Lib.hid (hR.ext hxb (Nat.le_refl _))
    have HX := Lib.hid (hx1.tr hxb)
    clear hR
    generalize hg : w1.heap.size = g at *
    generalize (w1.alloc (.cells #[.int .i64 k, .string n, .int .i64 m, .int .i64 u, .slice A1 l1 c1] 28)) = W at *
    refine (clusterlocksref08.Atoms_c e W g _ HRW.out hzb).mono ?_
    intro r w2 hp
    obtain ⟨A3, c3, rfl, _, hx2⟩ := hp.get
    have hn8 := atoms_len e
    have HM1 : Hid (∀ s : List Bool, s.length = (CL.atoms e).length → wth (minsE e) s = holdsE e s) := Lib.hid fun s hs => mins_covers hv hs
    have HM2 : Hid (∀ s : List Bool, s.length = (CL.atoms e).length → wth (blksE e) s = hpl e s) := Lib.hid fun s hs => blks_covers hv hs
    have hm1 := mins_le (e := e)
    have hm2 := blks_le (e := e)
    clear hp hv
    generalize (CL.atoms e).length = q at *
    obtain ⟨hp1, hp2⟩ := pow_le q hn8
    have hu1 : IntKind.u64.wrap (q : Int) = (q : Int) := IntWalk.u64_in _ (by omega)
    have hu2 : min q 64 = q := by omega
    go_wp2_with fail
    have hN1 : 1 ≤ 2 ^ q := Nat.two_pow_pos q
    have hq0 : (2 : Int) ^ q = ((2 ^ q : Nat) : Int) := by simp
    rw [hq0]
    clear hq0 hp2
    generalize 2 ^ q = N at *
    have hq1 : (1 : Int) ≤ (N : Int) := by omega
    have hq2 : (N : Int) ≤ 1048576 := by omega
    refine (clusterlocksmill.Mod_c x (N : Int) w2 hq1 hq2).mono ?_
    rintro r w' ⟨rfl, rfl⟩
    obtain ⟨hb0, hb1⟩ := mdv_in x hq1
    obtain ⟨b, hb⟩ := Int.eq_ofNat_of_zero_le hb0
    rw [hb] at hb1 ⊢
    have hb256 : b < 256 := by omega
    clear hb hb0 hb1 hq1 hq2 hp1 hN1 hu1 hu2
    go_wp2_with fail
    refine (clusterlocksref09.Set_c q b hn8 hb256 w2).mono ?_
    rintro r w3 ⟨rfl, hbS, hx3⟩
    have hsS : Sits w3 _ (bls (bsOf q b)) := sits_blk9 hbS
    have hlen := bsOf_len q b
    generalize bsOf q b = s at *
    subst hlen
    go_wp2_with fail
    have hx23 : Ext W w3 := Ext.tr (show Ext W w2 from hx2) hx3
    have bE3 := bE.ext hx23
    have HS := Lib.hid hsS
    have HRW3 := Lib.hid (HRW.out.ext hx23 hzb)
    have HX3 := Lib.hid (HX.out.tr hx23)
    have hz3 : g ≤ w3.heap.size := by have := hx23.size; omega
    have HW1 := Lib.hid (HM1.out s rfl)
    have HW2 := Lib.hid (HM2.out s rfl)
    have hsl : s.length ≤ maxLen := by unfold maxLen; omega
    have HCE := Lib.hid bE3.c5
    clear hsS hbS bE HRW HM1 HM2
    obtain ⟨e0, e1, e2, e3, e4⟩ := bE3.c5
    have hy : Ext w3 w3.drew := Ext.drawn w3
    go_region_held3 (fun w' => w'.cell? ⟨g, 0, none⟩ = some (.int .i64 k) ∧ w'.cell? ⟨g, 1, none⟩ = some (.string n) ∧ w'.cell? ⟨g, 2, none⟩ = some (.int .i64 m) ∧ w'.cell? ⟨g, 3, none⟩ = some (.int .i64 u) ∧ w'.cell? ⟨g, 4, none⟩ = some (.slice A1 l1 c1))
      (first | go_keep | exact cells5' HCE.out hy)
      (first
        | (go_at_call 14; (with_reducible refine (HAW.out _).mono ?_); rintro r wv ⟨rfl, hxa⟩; replace hy := Ext.tr hy hxa)
        | (go_at_call 16; (with_reducible refine (normal.Minimal_c e _ g _ (HRW3.out.ext hy hz3) (by have := hy.size; omega)).mono ?_); intro r wv hp; obtain ⟨A5, c5, rfl, hr5, hx9⟩ := hp.mat; replace hy := Ext.tr hy hx9)
        | (go_at_call 40; (with_reducible refine (within_c (minsE e) s _ _ _ _ (by unfold maxLen; omega) hsl _ hr5 (HS.out.ext hy)).mono ?_); intro r wv hp; obtain ⟨hr9, hx9⟩ := hp; rw [HW1.out] at hr9; subst hr9; replace hy := Ext.tr hy hx9)
        | (go_at_call 22; (with_reducible refine (clusterlocksref08.Holds_c e s _ _ hsl _ g _ (HRW3.out.ext hy hz3) (by have := hy.size; omega) (HS.out.ext hy)).mono ?_); intro r wv hp; obtain ⟨hr9, hx9⟩ := hp; subst hr9; replace hy := Ext.tr hy hx9)
        | (go_at_call 34; (with_reducible refine (normal.Blocking_c e _ g _ (HRW3.out.ext hy hz3) (by have := hy.size; omega)).mono ?_); intro r wv hp; obtain ⟨A6, c6, rfl, hr6, hx9⟩ := hp.mat; replace hy := Ext.tr hy hx9)
        | (go_at_call 40; (with_reducible refine (within_c (blksE e) s _ _ _ _ (by unfold maxLen; omega) hsl _ hr6 (HS.out.ext hy)).mono ?_); intro r wv hp; obtain ⟨hr9, hx9⟩ := hp; rw [HW2.out] at hr9; subst hr9; replace hy := Ext.tr hy hx9)
        | (go_at_call 23; (with_reducible refine (clusterlocksref08.Hopeless_c e s _ _ hsl _ g _ (HRW3.out.ext hy hz3) (by have := hy.size; omega) (HS.out.ext hy)).mono ?_); intro r wv hp; obtain ⟨hr9, hx9⟩ := hp; subst hr9; replace hy := Ext.tr hy hx9))
    all_goals
      go_wp2
      go_ret
      exact ⟨rfl, HX3.out.tr hy⟩
  · rw [decide_eq_false h3] at HL
    go_enter Try.func11, Try.ntmps11
    go_wp2_with (first
      | (go_at_call 28; (with_reducible refine (HL.out _).mono ?_); rintro r w' ⟨rfl, rfl⟩)
      | (go_at_call 14; (with_reducible refine (HAW.out _).mono ?_); rintro r w2 ⟨rfl, hxa⟩))
    go_ret
    exact ⟨rfl, hxa⟩
end Go.Proofs.Ytmolffigeobnnaa

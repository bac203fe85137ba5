
/- The statements about normal forms (chapter 9): expressions that the mill makes; the walk of NormalMeets. -/
import Derived.Test.YtmolffigeobnnaaLaw09
import Derived.Test.YtmolffigeobnnaaNz
import Derived.Test.YtmolffigeobnnaaZ12
import Derived.Deep.DrawnRows
import Derived.Deep.RegionHeld3
namespace Go.Proofs.Ytmolffigeobnnaa
open Go.RowKit
set_option linter.unusedVariables false
set_option linter.unusedSimpArgs false
set_option maxRecDepth 100000
attribute [local go_sem ↓] Go.wp_at_zero Go.wp_at_succ
theorem TapeAt.new9 {w : World} {A : Option Addr} {l : List Int} {c : Nat} (hl : l.length ≤ maxLen) (hr : Sits w A (ints l)) : TapeAt (w.alloc (.cells #[.slice A l.length c, .int .i64 0] 64)) w.heap.size :=
  ⟨A, l, c, 0, Blk.new _ _ _, hr.ext (Ext.new _ _), by omega, hl, fun b o hn e => by
    obtain ⟨b', o', e', hc⟩ := hr.get (by rw [ints_len]; exact List.length_pos_iff.2 hn)
    rw [e] at e'; injection e' with e'; injection e' with e1 e2; subst e1
    have hp := List.length_pos_iff.2 hn
    have := World.block_lt_of_cell? _ _ (hc 0 _ (ints_get hp))
    simpa using this⟩
/-- a valid expression that a call makes -/
def MadeV (w : World) (r : Ending) (w' : World) : Prop := ∃ (e : CL.Ex) (k : Int) (n : ByteArray) (m u : Int) (A : Option Addr) (l c : Nat), r = .returned (.agg #[.int .i64 k, .string n, .int .i64 m, .int .i64 u, .slice A l c]) ∧ CL.valid e = true ∧ Rd w' w'.heap.size e [.int .i64 k, .string n, .int .i64 m, .int .i64 u, .slice A l c] ∧ Ext w w'
set_option maxHeartbeats 1600000 in
theorem made_c (l : List Int) (A : Option Addr) (c : Nat) (w : World) (hl : l.length ≤ maxLen) (hr : Sits w A (ints l)) : Calls Try.prog 29 #[.slice A l.length c] w (MadeV w) := by
  have hbR := Blk.new w 28 #[.int .i64 0, .string ⟨#[]⟩, .int .i64 0, .int .i64 0, .slice none 0 0]
  have hx0 := Ext.new w (.cells #[.int .i64 0, .string ⟨#[]⟩, .int .i64 0, .int .i64 0, .slice none 0 0] 28)
  have hz0 : (w.alloc (.cells #[.int .i64 0, .string ⟨#[]⟩, .int .i64 0, .int .i64 0, .slice none 0 0] 28)).heap.size = w.heap.size + 1 := by simp
  have hT := TapeAt.new9 (c := c) hl (hr.ext hx0)
  have hx1 := Ext.new (w.alloc (.cells #[.int .i64 0, .string ⟨#[]⟩, .int .i64 0, .int .i64 0, .slice none 0 0] 28)) (.cells #[.slice A l.length c, .int .i64 0] 64)
  have hbR1 := hbR.ext hx1
  rw [hz0] at hT
  have hz1 : ((w.alloc (.cells #[.int .i64 0, .string ⟨#[]⟩, .int .i64 0, .int .i64 0, .slice none 0 0] 28)).alloc (.cells #[.slice A l.length c, .int .i64 0] 64)).heap.size = w.heap.size + 2 := by simp
  go_enter Try.func29, Try.ntmps29
  go_wp2_with fail
  have hxw := hx0.tr hx1
  clear hx0 hx1 hbR hr
  generalize ((w.alloc (.cells #[.int .i64 0, .string ⟨#[]⟩, .int .i64 0, .int .i64 0, .slice none 0 0] 28)).alloc (.cells #[.slice A l.length c, .int .i64 0] 64)) = W at *
  refine (clusterlocksmill.Catalog_c _ _ hT).mono ?_
  rintro r w2 ⟨A1, c1, L, rfl, hG, hS, hAb, hO, hT2⟩
  have hz2 := hO.size
  have hA1 : ∀ b o, A1 = some ⟨b, o, none⟩ → w.heap.size + 1 < b := fun b o e => by have := hAb b o e; omega
  go_wp2_with fail
  refine (clusterlocksmill.Expr_c L _ _ _ _ hT2 hG hS hA1).mono ?_
  rintro r w3 ⟨la, hGA, hp⟩
  obtain ⟨ek, k', n', m', u', A2, l2, c2, rfl, hGr, hR, hO3, hT3⟩ := hp.get
  obtain ⟨hv, hd, hc0, hc10⟩ := hGA.facts hG
  obtain ⟨hval, hsub, hpos⟩ := hGr.valid hv hGA.1 hd
  have hz3 := hO3.size
  have hb3 := (hbR1.only hO (by omega)).only hO3 (by omega)
  obtain ⟨q0, q1, q2, q3, q4⟩ := hb3.c5
  have f0 := hb3.frozen 0
  have f1 := hb3.frozen 1
  have f2 := hb3.frozen 2
  have f3 := hb3.frozen 3
  have f4 := hb3.frozen 4
  have hxe : Ext w w3 := (hxw.only hO (by omega)).only hO3 (by omega)
  have HP := Lib.hid (show MadeV w (.returned (.agg #[.int .i64 k', .string n', .int .i64 m', .int .i64 u', .slice A2 l2 c2])) (((((w3.setCell ⟨w.heap.size, 0, none⟩ (.int .i64 k')).setCell ⟨w.heap.size, 1, none⟩ (.string n')).setCell ⟨w.heap.size, 2, none⟩ (.int .i64 m')).setCell ⟨w.heap.size, 3, none⟩ (.int .i64 u')).setCell ⟨w.heap.size, 4, none⟩ (.slice A2 l2 c2)) from
    ⟨ek, k', n', m', u', A2, l2, c2, rfl, hval, ((hR.same (Same.set5 (.inl (by omega)) (Nat.le_refl _))).rd.le (by simp)), below_only hxe (((((Only.rf.set 0 _).set 1 _).set 2 _).set 3 _).set 4 _) (Nat.le_refl _) hxe.size⟩)
  clear hG hS hAb hO hT2 hGA hp hGr hR hO3 hT3 hv hd hc0 hc10 hval hsub hpos hb3 hA1 hT hbR1
  go_wp2
  (try simp only [Exit.inBlock, Exit.then])
  refine bodyPost_ret (by simp [results, Try.results29, go_sem, *]; try rfl) rfl ?_
  exact HP.out
theorem blks_le {e : CL.Ex} : (blksE e).length ≤ 256 := by rw [blks_dual]; exact mins_le
theorem any_step {α : Type} {p : α → Bool} {l : List α} {j : Nat} (hj : j < l.length) : (l.drop j).any p = (p l[j] || (l.drop (j + 1)).any p) := by
  rw [List.drop_eq_getElem_cons hj, List.any_cons]
theorem any_end {α : Type} {p : α → Bool} {l : List α} {j : Nat} (hj : l.length ≤ j) : (l.drop j).any p = false := by
  rw [List.drop_eq_nil_of_le hj]; rfl
theorem cmn_def (a b : List Int) : cmn a b = a.any fun x => b.any fun y => decide (x = y) := rfl
set_option maxHeartbeats 1600000 in
theorem common_c (a b : List Int) (A D : Option Addr) (c d : Nat) (ha : a.length ≤ maxLen) (hb : b.length ≤ maxLen) (w : World) (hA : Sits w A (ints a)) (hD : Sits w D (ints b)) :
    Calls Try.prog 36 #[.slice A a.length c, .slice D b.length d] w fun r w' => r = .returned (.bool (cmn a b)) ∧ Ext w w' := by
  unfold maxLen at ha hb
  have HC := Lib.hid (cmn_def a b)
  go_enter Try.func36, Try.ntmps36
  go_wp2
  go_loopw [5] (fun i wr => ∃ j : Nat, j ≤ a.length ∧ i = .int .i64 j ∧ Ext w wr ∧ Hid (cmn a b = (a.drop j).any fun x => b.any fun y => decide (x = y))) (fun i _ => a.length - (intOf i).toNat)
  case atStart => exact ⟨0, by omega, rfl, Ext.rfl', Lib.hid (by rw [HC.out]; simp)⟩
  case round =>
    obtain ⟨j, hj, rfl, hx, HJ⟩ := hrel
    obtain ⟨wo, rfl⟩ : ∃ wo : World, wo = wr := ⟨_, rfl⟩
    by_cases hlt : j < a.length
    · obtain ⟨b1, o1, rfl, c1⟩ := (hA.ext hx).int hlt
      have HS := Lib.hid (any_step (p := fun x => b.any fun y => decide (x = y)) hlt)
      have hji : (j : Int) < (a.length : Int) := by omega
      generalize a[j] = x at *
      go_wp2
      go_loopw [6] (fun i wr => ∃ m : Nat, m ≤ b.length ∧ i = .int .i64 m ∧ Ext wo wr ∧ Hid ((b.any fun y => decide (x = y)) = (b.drop m).any fun y => decide (x = y))) (fun i _ => b.length - (intOf i).toNat)
      case atStart => exact ⟨0, by omega, rfl, Ext.rfl', Lib.hid (by simp)⟩
      case round =>
        obtain ⟨m, hm, rfl, hy, HK⟩ := hrel
        by_cases hlt2 : m < b.length
        · obtain ⟨b2, o2, rfl, c2⟩ := (hD.ext (hx.tr hy)).int hlt2
          have q1 := ExtOf.cell (hy.cell c1)
          have q2 := ExtOf.cell c2
          have HT := Lib.hid (any_step (p := fun y => decide (x = y)) hlt2)
          have hmi : (m : Int) < (b.length : Int) := by omega
          generalize b[m] = y at *
          clear c2
          by_cases hxy : x = y
          · have HE := Lib.hid (show cmn a b = true by rw [HJ.out, HS.out, HK.out, HT.out, decide_eq_true hxy]; simp)
            have hxy' : (x == y) = true := by simpa using hxy
            clear hxy
            go_wp2_with fail
            clear c1
            refine wp_region_ext_lit (by kernel_rfl) (by kernel_rfl) ?_
            repeat (go_big_quiet_step (fail))
            refine wpQuiet_nil ?_
            intro wq hw'
            obtain ⟨⟨wq', hxq⟩, hw''⟩ := hw'
            subst hw''
            go_wp2
            go_ret
            exact ⟨ret_bool HE.out.symm, hx.tr (hy.tr hxq)⟩
          · have HE := Lib.hid (show (b.any fun y => decide (x = y)) = (b.drop (m + 1)).any fun y => decide (x = y) by rw [HK.out, HT.out, decide_eq_false hxy, Bool.false_or])
            have hxy' : (x == y) = false := by simpa using hxy
            clear hxy
            go_wp2_with fail
            clear c1
            refine wp_region_ext_lit (by kernel_rfl) (by kernel_rfl) ?_
            repeat (go_big_quiet_step (fail))
            refine wpQuiet_nil ?_
            intro wq hw'
            obtain ⟨⟨wq', hxq⟩, hw''⟩ := hw'
            subst hw''
            go_wp2
            exact ⟨⟨m + 1, by omega, by go_num, hy.tr hxq, HE⟩, by simp [intOf]; omega⟩
        · have HE := Lib.hid (show cmn a b = (a.drop (j + 1)).any fun x => b.any fun y => decide (x = y) by rw [HJ.out, HS.out, HK.out, any_end (by omega), Bool.false_or])
          go_wp2
          exact ⟨⟨j + 1, by omega, by go_num, hx.tr hy, HE⟩, by simp [intOf]; omega⟩
    · have HE := Lib.hid (show cmn a b = false by rw [HJ.out, any_end (by omega)])
      go_wp2
      go_ret
      exact ⟨ret_bool HE.out.symm, hx⟩
set_option maxHeartbeats 3200000 in
theorem NormalMeets_w (l : List Int) (A : Option Addr) (c : Nat) (w : World) (hl : l.length ≤ maxLen) (hr : Sits w A (ints l)) : Calls Try.prog 10 #[.slice A l.length c] w fun r w' => r = .returned (.bool true) ∧ Ext w w' := by
  have HL := Lib.hid (fun w => (clusterlocksmill.Light_c l A c w))
  by_cases h3 : l.length ≤ 300
  · rw [decide_eq_true h3] at HL
    go_enter Try.func10, Try.ntmps10
    go_wp2_with (first
      | (go_at_call 28; (with_reducible refine (HL.out _).mono ?_); rintro r w' ⟨rfl, rfl⟩)
      | (go_at_call 29; (with_reducible refine (made_c l A c _ hl hr).mono ?_); rintro r w1 ⟨e, k, n, m, u, A1, l1, c1, rfl, hv, hR, hx1⟩))
    obtain ⟨bE, hxb⟩ := box1 w1 #[.int .i64 k, .string n, .int .i64 m, .int .i64 u, .slice A1 l1 c1] 28
    have hz1 := hx1.size
    have hzb := hxb.size
    have HRW := Lib.hid (hR.ext hxb (Nat.le_refl _))
    have HX := Lib.hid (hx1.tr hxb)
    have HME : Hid (∀ (a b : List Int), a ∈ minsE e → b ∈ blksE e → cmn a b = true) := Lib.hid fun a b h1 h2 => meets hv h1 h2
    have hn1 := mins_ne hv
    have hn2 := blks_ne hv
    have hm1 := mins_le (e := e)
    have hm2 := blks_le (e := e)
    clear hR hv
    generalize hg : w1.heap.size = g at *
    generalize (w1.alloc (.cells #[.int .i64 k, .string n, .int .i64 m, .int .i64 u, .slice A1 l1 c1] 28)) = W at *
    have HC := Lib.hid bE.c5
    obtain ⟨e0, e1, e2, e3, e4⟩ := bE.c5
    have hy : Ext W W.drew := Ext.drawn W
    go_region_held3 (fun w' => w'.cell? ⟨g, 0, none⟩ = some (.int .i64 k) ∧ w'.cell? ⟨g, 1, none⟩ = some (.string n) ∧ w'.cell? ⟨g, 2, none⟩ = some (.int .i64 m) ∧ w'.cell? ⟨g, 3, none⟩ = some (.int .i64 u) ∧ w'.cell? ⟨g, 4, none⟩ = some (.slice A1 l1 c1))
      (first | go_keep | exact cells5' HC.out hy)
      (first
        | (go_at_call 16; (with_reducible refine (normal.Minimal_c e _ g _ (HRW.out.ext hy hzb) (by have := hy.size; omega)).mono ?_); intro r w3 hp; obtain ⟨A2, c2, rfl, hr2, hy2⟩ := hp.mat; replace hy := Ext.tr hy hy2; first | (have hr3' := hr3.ext hy2) | skip)
        | (go_at_call 34; (with_reducible refine (normal.Blocking_c e _ g _ (HRW.out.ext hy hzb) (by have := hy.size; omega)).mono ?_); intro r w4 hp; obtain ⟨A3, c3, rfl, hr3, hy3⟩ := hp.mat; replace hy := Ext.tr hy hy3; first | (have hr2' := hr2.ext hy3) | skip))
    all_goals
      have HR2 := Lib.hid (by first | exact hr2' | exact hr2 : MatAt _ A2 (minsE e))
      have HR3 := Lib.hid (by first | exact hr3' | exact hr3 : MatAt _ A3 (blksE e))
      have HXY := Lib.hid (HX.out.tr hy)
      clear hp hy e0 e1 e2 e3 e4 HC bE
      generalize minsE e = ls at *
      generalize blksE e = ms at *
      go_wp2
      go_loopw [6] (fun i wr => ∃ j : Nat, j ≤ ls.length ∧ i = .int .i64 j ∧ Ext w wr ∧ MatAt wr A2 ls ∧ MatAt wr A3 ms) (fun i _ => ls.length - (intOf i).toNat)
      case atStart => exact ⟨0, by omega, rfl, HXY.out, HR2.out, HR3.out⟩
      case round =>
        obtain ⟨j, hj, rfl, hx, hA, hD⟩ := hrel
        obtain ⟨wo, rfl⟩ : ∃ wo : World, wo = wr := ⟨_, rfl⟩
        by_cases hlt : j < ls.length
        · obtain ⟨b1, o1, P1, d1, rfl, k1, hlm, s1⟩ := hA.get hlt
          have i1 : (j : Int) < (ls.length : Int) := by omega
          have HMJ := Lib.hid (fun b hb => HME.out ls[j] b (List.getElem_mem _) hb)
          generalize ls[j] = a at *
          go_wp2
          go_loopw [7] (fun i wr => ∃ m : Nat, m ≤ ms.length ∧ i = .int .i64 m ∧ Ext wo wr) (fun i _ => ms.length - (intOf i).toNat)
          case atStart => exact ⟨0, by omega, rfl, Ext.rfl'⟩
          case round =>
            obtain ⟨m, hm, rfl, hy⟩ := hrel
            obtain ⟨wi, rfl⟩ : ∃ wi : World, wi = wr := ⟨_, rfl⟩
            by_cases hlt2 : m < ms.length
            · obtain ⟨b2, o2, P2, d2, rfl, k2, hmm, s2⟩ := (hD.ext hy).get hlt2
              have g1 := hy.cell k1
              have i2 : (m : Int) < (ms.length : Int) := by omega
              have HB := Lib.hid (HMJ.out ms[m] (List.getElem_mem _))
              generalize ms[m] = b at *
              have hs1 := s1.ext hy
              have HK := Lib.hid (And.intro g1 k2)
              have hz : Ext wi wi.drew := Ext.drawn wi
              go_wp2_with fail
              go_region_held3 (fun w' => w'.cell? ⟨b1, o1 + j, none⟩ = some (.slice P1 a.length d1) ∧ w'.cell? ⟨b2, o2 + m, none⟩ = some (.slice P2 b.length d2))
                (first | go_keep | exact ⟨hz.cell HK.out.1, hz.cell HK.out.2⟩)
                (first
                  | (go_at_call 36; (with_reducible refine (common_c a b P1 P2 d1 d2 hlm hmm _ (hs1.ext hz) (s2.ext hz)).mono ?_); intro r w5 hp; obtain ⟨hr5, hz5⟩ := hp; rw [HB.out] at hr5; subst hr5; replace hz := Ext.tr hz hz5))
              all_goals
                go_wp2
                exact ⟨⟨m + 1, by omega, by go_num, hy.tr hz⟩, by simp [intOf]; omega⟩
            · go_wp2
              exact ⟨⟨j + 1, by omega, by go_num, hx.tr hy, hA.ext hy, hD.ext hy⟩, by simp [intOf]; omega⟩
        · have g1 : decide ((ls.length : Int) > 0) = true := by simp; omega
          have g2 : decide ((ms.length : Int) > 0) = true := by simp; omega
          go_wp2_with (go_at_call 14; (with_reducible refine (awake9_c _).mono ?_); rintro r w6 ⟨rfl, hxa⟩)
          go_ret
          exact ⟨rfl, hx.tr hxa⟩
  · rw [decide_eq_false h3] at HL
    have HAW := Lib.hid (fun w => awake9_c w)
    go_enter Try.func10, Try.ntmps10
    go_wp2_with (first
      | (go_at_call 28; (with_reducible refine (HL.out _).mono ?_); rintro r w' ⟨rfl, rfl⟩)
      | (go_at_call 14; (with_reducible refine (HAW.out _).mono ?_); rintro r w2 ⟨rfl, hxa⟩))
    go_ret
    exact ⟨rfl, hxa⟩
end Go.Proofs.Ytmolffigeobnnaa

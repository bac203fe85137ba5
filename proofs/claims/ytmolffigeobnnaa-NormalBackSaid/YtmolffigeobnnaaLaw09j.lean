
/- The statements about normal forms (chapter 9): the walk of NormalBack. -/
import Derived.Test.YtmolffigeobnnaaLaw09d
import Derived.Test.YtmolffigeobnnaaLaw09b
import Derived.Test.YtmolffigeobnnaaNfw
import Derived.Deep.DrawnRows
import Derived.Deep.RegionHeld3
import Derived.Deep.DeepCutAuto
namespace CL
theorem atoms_names {e : Ex} (hv : valid e = true) : ∀ a ∈ atoms e, a.n.length ≤ 12 := by
  intro a ha
  unfold atoms at ha
  rw [if_pos hv] at ha
  have hi := ((coll_mem e [] a).1 ha).resolve_left (by simp)
  have hw := Wf.of_radd _ [] _ (valid_coll hv).1
  clear ha hv
  induction hw with
  | leaf b hb =>
    cases hi with
    | leaf k =>
      refine Decidable.byContradiction fun hlen => ?_
      unfold vatom at hb
      rw [vname_len (.inr (by omega))] at hb
      cases hb
    | node k b' kids e h h' => cases h
  | node k kids h0 h1 h2 hk ih =>
    cases hi with
    | leaf k => exact absurd rfl h0
    | node k b' kids' e h h' => exact ih e h h'
end CL
namespace Go.Proofs.Ytmolffigeobnnaa
open Go.RowKit
set_option linter.unusedVariables false
set_option linter.unusedSimpArgs false
set_option maxRecDepth 100000
attribute [local go_sem ↓] Go.wp_at_zero Go.wp_at_succ
theorem cells5S {W w : World} {g fb : Nat} {v0 v1 v2 v3 v4 x0 x1 x2 x3 x4 : Value} (h : W.cell? ⟨g, 0, none⟩ = some v0 ∧ W.cell? ⟨g, 1, none⟩ = some v1 ∧ W.cell? ⟨g, 2, none⟩ = some v2 ∧ W.cell? ⟨g, 3, none⟩ = some v3 ∧ W.cell? ⟨g, 4, none⟩ = some v4) (hy : Ext W w) (hfb : W.heap.size ≤ fb) :
    (((((w.setCell ⟨fb, 0, none⟩ x0).setCell ⟨fb, 1, none⟩ x1).setCell ⟨fb, 2, none⟩ x2).setCell ⟨fb, 3, none⟩ x3).setCell ⟨fb, 4, none⟩ x4).cell? ⟨g, 0, none⟩ = some v0 ∧ (((((w.setCell ⟨fb, 0, none⟩ x0).setCell ⟨fb, 1, none⟩ x1).setCell ⟨fb, 2, none⟩ x2).setCell ⟨fb, 3, none⟩ x3).setCell ⟨fb, 4, none⟩ x4).cell? ⟨g, 1, none⟩ = some v1 ∧
    (((((w.setCell ⟨fb, 0, none⟩ x0).setCell ⟨fb, 1, none⟩ x1).setCell ⟨fb, 2, none⟩ x2).setCell ⟨fb, 3, none⟩ x3).setCell ⟨fb, 4, none⟩ x4).cell? ⟨g, 2, none⟩ = some v2 ∧ (((((w.setCell ⟨fb, 0, none⟩ x0).setCell ⟨fb, 1, none⟩ x1).setCell ⟨fb, 2, none⟩ x2).setCell ⟨fb, 3, none⟩ x3).setCell ⟨fb, 4, none⟩ x4).cell? ⟨g, 3, none⟩ = some v3 ∧
    (((((w.setCell ⟨fb, 0, none⟩ x0).setCell ⟨fb, 1, none⟩ x1).setCell ⟨fb, 2, none⟩ x2).setCell ⟨fb, 3, none⟩ x3).setCell ⟨fb, 4, none⟩ x4).cell? ⟨g, 4, none⟩ = some v4 :=
  cells5' h (below_only hy (((((Only.rf.set 0 x0).set 1 x1).set 2 x2).set 3 x3).set 4 x4) hfb hy.size)
theorem backExt {W w4 : World} {fb : Nat} {v0 v1 v2 v3 v4 : Value} (hy : Ext W w4) (hfb : W.heap.size ≤ fb) : Ext W (((((w4.setCell ⟨fb, 0, none⟩ v0).setCell ⟨fb, 1, none⟩ v1).setCell ⟨fb, 2, none⟩ v2).setCell ⟨fb, 3, none⟩ v3).setCell ⟨fb, 4, none⟩ v4) := below_only hy (((((Only.rf.set 0 _).set 1 _).set 2 _).set 3 _).set 4 _) hfb hy.size
theorem backBox {W w4 : World} {lo fb : Nat} {E : CL.Ex} {v0 v1 v2 v3 v4 : Value} (hy : Ext W w4) (hfb : W.heap.size ≤ fb) (bF : Blk w4 fb 28 #[.int .i64 0, .string ⟨#[]⟩, .int .i64 0, .int .i64 0, .slice none 0 0]) (hR : RdI w4 lo w4.heap.size E [v0, v1, v2, v3, v4]) (hfl : fb < lo) :
    Ext W (((((w4.setCell ⟨fb, 0, none⟩ v0).setCell ⟨fb, 1, none⟩ v1).setCell ⟨fb, 2, none⟩ v2).setCell ⟨fb, 3, none⟩ v3).setCell ⟨fb, 4, none⟩ v4) ∧ Blk (((((w4.setCell ⟨fb, 0, none⟩ v0).setCell ⟨fb, 1, none⟩ v1).setCell ⟨fb, 2, none⟩ v2).setCell ⟨fb, 3, none⟩ v3).setCell ⟨fb, 4, none⟩ v4) fb 28 #[v0, v1, v2, v3, v4] ∧ Rd (((((w4.setCell ⟨fb, 0, none⟩ v0).setCell ⟨fb, 1, none⟩ v1).setCell ⟨fb, 2, none⟩ v2).setCell ⟨fb, 3, none⟩ v3).setCell ⟨fb, 4, none⟩ v4) (((((w4.setCell ⟨fb, 0, none⟩ v0).setCell ⟨fb, 1, none⟩ v1).setCell ⟨fb, 2, none⟩ v2).setCell ⟨fb, 3, none⟩ v3).setCell ⟨fb, 4, none⟩ v4).heap.size E [v0, v1, v2, v3, v4] :=
  ⟨backExt hy hfb, (by simpa using ((((bF.set 0 v0).set 1 v1).set 2 v2).set 3 v3).set 4 v4), (hR.same (Same.set5 (.inl hfl) (Nat.le_refl _))).rd.le (by simp)⟩
theorem backBox2 {W w4 : World} {lo : Nat} {E : CL.Ex} {v0 v1 v2 v3 v4 : Value} (hy : Ext W w4) (hR : RdI w4 lo w4.heap.size E [v0, v1, v2, v3, v4]) :
    Ext W (w4.alloc (.cells #[v0, v1, v2, v3, v4] 28)) ∧ Blk (w4.alloc (.cells #[v0, v1, v2, v3, v4] 28)) w4.heap.size 28 #[v0, v1, v2, v3, v4] ∧ Rd (w4.alloc (.cells #[v0, v1, v2, v3, v4] 28)) (w4.alloc (.cells #[v0, v1, v2, v3, v4] 28)).heap.size E [v0, v1, v2, v3, v4] :=
  ⟨Ext.tr hy (Ext.new _ _), Blk.new _ _ _, (hR.rd.ext (Ext.new _ _) (Nat.le_refl _)).le (by simp)⟩
set_option maxHeartbeats 51200000 in
theorem NormalBack_w (l : List Int) (A : Option Addr) (c : Nat) (w : World) (hl : l.length ≤ maxLen) (hr : Sits w A (ints l)) : Calls Try.prog 13 #[.slice A l.length c] w fun r w' => r = .returned (.bool true) ∧ Ext w w' := by
  have HL := Lib.hid (fun w => (clusterlocksmill.Light_c l A c w))
  have HAW := Lib.hid (fun w => awake9_c w)
  by_cases h3 : l.length ≤ 300
  · rw [decide_eq_true h3] at HL
    go_enter Try.func13, Try.ntmps13
    go_wp2_with (first
      | (go_at_call 28; (with_reducible refine (HL.out _).mono ?_); rintro r w' ⟨rfl, rfl⟩)
      | (go_at_call 29; (with_reducible refine (made_c l A c _ hl hr).mono ?_); rintro r w1 ⟨e, k0, s0, m0, u0, A0, l0, c0, rfl, hv, hR, hx1⟩))
    obtain ⟨bE, hxb⟩ := box1 w1 #[.int .i64 k0, .string s0, .int .i64 m0, .int .i64 u0, .slice A0 l0 c0] 28
    have hz1 := hx1.size
    have hzb := hxb.size
    have HRW := Lib.hid (hR.ext hxb (Nat.le_refl _))
    have HX := Lib.hid (hx1.tr hxb)
    have hla : (CL.atoms e).length ≤ maxLen := by have := atoms_len e; unfold maxLen; omega
    have hlm : (minsE e).length ≤ maxLen := by have := mins_le (e := e); unfold maxLen; omega
    have HNA := Lib.hid (fun a (h : a ∈ CL.atoms e) => Nat.le_trans (CL.atoms_names hv a h) (show 12 ≤ maxLen by unfold maxLen; omega))
    have HBK := Lib.hid (fun h => back (e := e) hv h)
    clear hR hv
    generalize hg : w1.heap.size = g at *
    generalize (w1.alloc (.cells #[.int .i64 k0, .string s0, .int .i64 m0, .int .i64 u0, .slice A0 l0 c0] 28)) = W at *
    have HC := Lib.hid bE.c5
    obtain ⟨e0, e1, e2, e3, e4⟩ := bE.c5
    have hy : Ext W W.drew := Ext.drawn W
    go_upto_region 4 with fail
    go_cut [4, 5] (fun s4 s5 wx => ∃ (fb : Nat) (k1 : Int) (s1 : ByteArray) (m1 u1 : Int) (A1 : Option Addr) (l1 c1 : Nat), s4 = .pointer (some ⟨fb, 0, none⟩) ∧ s5 = .bool (CL.fromOK (CL.atoms e) (minsE e)) ∧ Ext W wx ∧ Blk wx fb 28 #[.int .i64 k1, .string s1, .int .i64 m1, .int .i64 u1, .slice A1 l1 c1] ∧ Rd wx wx.heap.size (CL.fromE (CL.atoms e) (minsE e)) [.int .i64 k1, .string s1, .int .i64 m1, .int .i64 u1, .slice A1 l1 c1])
    case first =>
      go_region_held3 (fun w' => (w'.cell? ⟨g, 0, none⟩ = some (.int .i64 k0) ∧ w'.cell? ⟨g, 1, none⟩ = some (.string s0) ∧ w'.cell? ⟨g, 2, none⟩ = some (.int .i64 m0) ∧ w'.cell? ⟨g, 3, none⟩ = some (.int .i64 u0) ∧ w'.cell? ⟨g, 4, none⟩ = some (.slice A0 l0 c0)))
        (first | (with_reducible exact cells5S HC.out hy hfb) | (with_reducible exact cells5' HC.out hy) | (with_reducible exact cells5' HC.out (Ext.tr hy (Ext.new _ _))) | (with_reducible exact cells5' HC.out (Ext.tr (Ext.new _ _) (Ext.drawn _))) | (with_reducible exact cells5S HC.out (Ext.tr hy (Ext.new _ _)) hy.size) | fail "KEEP")
        (first
          | (go_at_call 37; (with_reducible refine (clusterlocksref08.Atoms_c e _ g _ (HRW.out.ext (by first | (with_reducible exact hy) | (with_reducible exact Ext.tr hy (Ext.new _ _)) | (with_reducible exact Ext.tr (Ext.new _ _) (Ext.drawn _))) hzb) (by have := hy.size; first | omega | (simp only [World.size_alloc, World.size_drew]; omega))).mono ?_); rintro r w2 ⟨va, rfl, hown, hxa⟩; obtain ⟨Aa, ca, rfl, _, _⟩ := own_form hown; have hsa := Sits.of_own hown; have hyo := hy; replace hy : Ext W w2 := (by first | (with_reducible exact Ext.tr hy hxa) | (with_reducible exact Ext.tr (Ext.tr hy (Ext.new _ _)) hxa) | (with_reducible exact Ext.tr (Ext.tr (Ext.new _ _) (Ext.drawn _)) hxa)); (first | ((with_reducible have bF := (Blk.new _ 28 #[.int .i64 0, .string ⟨#[]⟩, .int .i64 0, .int .i64 0, .slice none 0 0]).ext hxa); have hfb := hyo.size) | ((with_reducible have bF := ((Blk.new W 28 #[.int .i64 0, .string ⟨#[]⟩, .int .i64 0, .int .i64 0, .slice none 0 0]).ext (Ext.drawn _)).ext hxa); have hfb := Nat.le_refl W.heap.size) | (replace bF := bF.ext hxa) | skip); (first | (with_reducible have hsm' := hsm.ext hxa) | (with_reducible have hsm' := (hsm.ext (Ext.new _ _)).ext hxa) | skip))
          | (go_at_call 16; (with_reducible refine (normal.Minimal_c e _ g _ (HRW.out.ext (by first | (with_reducible exact hy) | (with_reducible exact Ext.tr hy (Ext.new _ _)) | (with_reducible exact Ext.tr (Ext.new _ _) (Ext.drawn _))) hzb) (by have := hy.size; first | omega | (simp only [World.size_alloc, World.size_drew]; omega))).mono ?_); intro r w3 hp; obtain ⟨Am, cm, rfl, hmm, hxm⟩ := hp.mat; have hsm := hmm.s; have hyo := hy; replace hy : Ext W w3 := (by first | (with_reducible exact Ext.tr hy hxm) | (with_reducible exact Ext.tr (Ext.tr hy (Ext.new _ _)) hxm) | (with_reducible exact Ext.tr (Ext.tr (Ext.new _ _) (Ext.drawn _)) hxm)); (first | ((with_reducible have bF := (Blk.new _ 28 #[.int .i64 0, .string ⟨#[]⟩, .int .i64 0, .int .i64 0, .slice none 0 0]).ext hxm); have hfb := hyo.size) | ((with_reducible have bF := ((Blk.new W 28 #[.int .i64 0, .string ⟨#[]⟩, .int .i64 0, .int .i64 0, .slice none 0 0]).ext (Ext.drawn _)).ext hxm); have hfb := Nat.le_refl W.heap.size) | (replace bF := bF.ext hxm) | skip); (first | (with_reducible have hsa' := hsa.ext hxm) | (with_reducible have hsa' := (hsa.ext (Ext.new _ _)).ext hxm) | skip))
          | (go_at_call 41; (with_reducible refine (FromSets_c (CL.atoms e) (minsE e) _ _ _ _ _ hla hlm HNA.out (by first | (with_reducible exact hsa') | (with_reducible exact hsa'.ext (Ext.new _ _)) | (with_reducible exact hsa) | (with_reducible exact hsa.ext (Ext.new _ _))) (by first | (with_reducible exact hsm') | (with_reducible exact hsm'.ext (Ext.new _ _)) | (with_reducible exact hsm) | (with_reducible exact hsm.ext (Ext.new _ _)))).mono ?_); intro r w4 hp4; obtain ⟨k1, s1, m1, u1, A1, l1, c1, rfl, hR1, hxf⟩ := hp4.get; (first | (have hfl := bF.lt) | skip); have hyo := hy; replace hy : Ext W w4 := (by first | (with_reducible exact Ext.tr hy hxf) | (with_reducible exact Ext.tr (Ext.tr hy (Ext.new _ _)) hxf) | (with_reducible exact Ext.tr (Ext.tr (Ext.new _ _) (Ext.drawn _)) hxf)); (first | ((with_reducible have bF := (Blk.new _ 28 #[.int .i64 0, .string ⟨#[]⟩, .int .i64 0, .int .i64 0, .slice none 0 0]).ext hxf); have hfb := hyo.size) | ((with_reducible have bF := ((Blk.new W 28 #[.int .i64 0, .string ⟨#[]⟩, .int .i64 0, .int .i64 0, .slice none 0 0]).ext (Ext.drawn _)).ext hxf); have hfb := Nat.le_refl W.heap.size) | (replace bF := bF.ext hxf) | skip); (first | (obtain ⟨y0, y1, y2, y3, y4⟩ := bF.c5; have y5 := bF.frozen 0; have y6 := bF.frozen 1; have y7 := bF.frozen 2; have y8 := bF.frozen 3; have y9 := bF.frozen 4) | skip)))
      all_goals
        go_wp2_with fail
        go_meet
        refine ⟨_, k1, s1, m1, u1, A1, l1, c1, rfl, rfl, ?_⟩
        first
          | (with_reducible exact backBox hy hfb bF hR1 (by first | exact hfl | simp))
          | (with_reducible exact backBox2 hy hR1)
    case rest =>
    obtain ⟨fb, k1, s1, m1, u1, A1, l1, c1, rfl, rfl, hx2, bF, hRF⟩ := hcut
    have hzx := hx2.size
    have HRW2 := Lib.hid (HRW.out.ext hx2 hzb)
    have bE2 := bE.ext hx2
    have HX2 := Lib.hid (HX.out.tr hx2)
    have hzb2 : g ≤ wc.heap.size := by omega
    have HF := Lib.hid hRF
    clear hRF hy e0 e1 e2 e3 e4 HC HRW hzb hzx bE HX hx2 hxb hg
    generalize wc = W at *
    have HRW := HRW2
    have hzb := hzb2
    have HC := Lib.hid bE2.c5
    obtain ⟨e0, e1, e2, e3, e4⟩ := bE2.c5
    have hy : Ext W W.drew := Ext.drawn W
    go_upto_region 5 with fail
    go_cut [7] (fun s7 wx => s7 = .bool (CL.fromOK (CL.atoms e) (minsE e)) ∧ Ext W wx)
    case first =>
      go_region_held3 (fun w' => (w'.cell? ⟨g, 0, none⟩ = some (.int .i64 k0) ∧ w'.cell? ⟨g, 1, none⟩ = some (.string s0) ∧ w'.cell? ⟨g, 2, none⟩ = some (.int .i64 m0) ∧ w'.cell? ⟨g, 3, none⟩ = some (.int .i64 u0) ∧ w'.cell? ⟨g, 4, none⟩ = some (.slice A0 l0 c0)))
        (first | (with_reducible exact cells5S HC.out hy hfb) | (with_reducible exact cells5' HC.out hy) | (with_reducible exact cells5' HC.out (Ext.tr hy (Ext.new _ _))) | (with_reducible exact cells5' HC.out (Ext.tr (Ext.new _ _) (Ext.drawn _))) | (with_reducible exact cells5S HC.out (Ext.tr hy (Ext.new _ _)) hy.size) | fail "KEEP")
        (first
          | (go_at_call 37; (with_reducible refine (clusterlocksref08.Atoms_c e _ g _ (HRW.out.ext (by first | (with_reducible exact hy) | (with_reducible exact Ext.tr hy (Ext.new _ _)) | (with_reducible exact Ext.tr (Ext.new _ _) (Ext.drawn _))) hzb) (by have := hy.size; first | omega | (simp only [World.size_alloc, World.size_drew]; omega))).mono ?_); rintro r w2 ⟨va, rfl, hown, hxa⟩; obtain ⟨Aa, ca, rfl, _, _⟩ := own_form hown; have hsa := Sits.of_own hown; have hyo := hy; replace hy : Ext W w2 := (by first | (with_reducible exact Ext.tr hy hxa) | (with_reducible exact Ext.tr (Ext.tr hy (Ext.new _ _)) hxa) | (with_reducible exact Ext.tr (Ext.tr (Ext.new _ _) (Ext.drawn _)) hxa)); (first | ((with_reducible have bG := (Blk.new _ 28 #[.int .i64 0, .string ⟨#[]⟩, .int .i64 0, .int .i64 0, .slice none 0 0]).ext hxa); have hfb := hyo.size) | ((with_reducible have bG := ((Blk.new W 28 #[.int .i64 0, .string ⟨#[]⟩, .int .i64 0, .int .i64 0, .slice none 0 0]).ext (Ext.drawn _)).ext hxa); have hfb := Nat.le_refl W.heap.size) | (replace bG := bG.ext hxa) | skip); (first | (with_reducible have hsm' := hsm.ext hxa) | (with_reducible have hsm' := (hsm.ext (Ext.new _ _)).ext hxa) | skip))
          | (go_at_call 17; (with_reducible refine (clusterlocksref09.Minimal_c e _ g _ (HRW.out.ext (by first | (with_reducible exact hy) | (with_reducible exact Ext.tr hy (Ext.new _ _)) | (with_reducible exact Ext.tr (Ext.new _ _) (Ext.drawn _))) hzb) (by have := hy.size; first | omega | (simp only [World.size_alloc, World.size_drew]; omega))).mono ?_); intro r w3 hp; obtain ⟨Am, cm, rfl, hmm, hxm⟩ := hp.mat; have hsm := hmm.s; have hyo := hy; replace hy : Ext W w3 := (by first | (with_reducible exact Ext.tr hy hxm) | (with_reducible exact Ext.tr (Ext.tr hy (Ext.new _ _)) hxm) | (with_reducible exact Ext.tr (Ext.tr (Ext.new _ _) (Ext.drawn _)) hxm)); (first | ((with_reducible have bG := (Blk.new _ 28 #[.int .i64 0, .string ⟨#[]⟩, .int .i64 0, .int .i64 0, .slice none 0 0]).ext hxm); have hfb := hyo.size) | ((with_reducible have bG := ((Blk.new W 28 #[.int .i64 0, .string ⟨#[]⟩, .int .i64 0, .int .i64 0, .slice none 0 0]).ext (Ext.drawn _)).ext hxm); have hfb := Nat.le_refl W.heap.size) | (replace bG := bG.ext hxm) | skip); (first | (with_reducible have hsa' := hsa.ext hxm) | (with_reducible have hsa' := (hsa.ext (Ext.new _ _)).ext hxm) | skip))
          | (go_at_call 42; (with_reducible refine (RFromSets_c (CL.atoms e) (minsE e) _ _ _ _ _ hla hlm HNA.out (by first | (with_reducible exact hsa') | (with_reducible exact hsa'.ext (Ext.new _ _)) | (with_reducible exact hsa) | (with_reducible exact hsa.ext (Ext.new _ _))) (by first | (with_reducible exact hsm') | (with_reducible exact hsm'.ext (Ext.new _ _)) | (with_reducible exact hsm) | (with_reducible exact hsm.ext (Ext.new _ _)))).mono ?_); intro r w4 hp4; obtain ⟨k2, s2, m2, u2, A2, l2, c2, rfl, hR2, hxf⟩ := hp4.get; (first | (skip) | skip); have hyo := hy; replace hy : Ext W w4 := (by first | (with_reducible exact Ext.tr hy hxf) | (with_reducible exact Ext.tr (Ext.tr hy (Ext.new _ _)) hxf) | (with_reducible exact Ext.tr (Ext.tr (Ext.new _ _) (Ext.drawn _)) hxf)); (first | ((with_reducible have bG := (Blk.new _ 28 #[.int .i64 0, .string ⟨#[]⟩, .int .i64 0, .int .i64 0, .slice none 0 0]).ext hxf); have hfb := hyo.size) | ((with_reducible have bG := ((Blk.new W 28 #[.int .i64 0, .string ⟨#[]⟩, .int .i64 0, .int .i64 0, .slice none 0 0]).ext (Ext.drawn _)).ext hxf); have hfb := Nat.le_refl W.heap.size) | (replace bG := bG.ext hxf) | skip); (first | (obtain ⟨y0, y1, y2, y3, y4⟩ := bG.c5; have y5 := bG.frozen 0; have y6 := bG.frozen 1; have y7 := bG.frozen 2; have y8 := bG.frozen 3; have y9 := bG.frozen 4) | skip)))
      all_goals
        go_wp2_with fail
        go_meet
        refine ⟨rfl, ?_⟩
        first
          | (with_reducible exact backExt hy hfb)
          | (with_reducible exact Ext.tr hy (Ext.new _ _))
    case rest =>
    obtain ⟨rfl, hx3⟩ := hcut
    have HRW3 := Lib.hid (HRW.out.ext hx3 hzb)
    have HF3 := Lib.hid (HF.out.ext hx3 (Nat.le_refl _))
    have bE3 := bE2.ext hx3
    have bF3 := bF.ext hx3
    have HX3 := Lib.hid (HX2.out.tr hx3)
    have hz3 := hx3.size
    clear hy e0 e1 e2 e3 e4 HC HRW HRW2
    generalize hok : CL.fromOK (CL.atoms e) (minsE e) = ok at *
    cases ok
    · go_wp2_with (go_at_call 14; (with_reducible refine (HAW.out _).mono ?_); rintro r w5 ⟨rfl, hx5⟩)
      go_ret
      exact ⟨rfl, HX3.out.tr hx5⟩
    · have HQ := Lib.hid (show eqvE (CL.fromE (CL.atoms e) (minsE e)) e = true by rw [CL.fromE_yes hok]; exact HBK.out rfl)
      go_wp2_with (first
        | (go_at_call 14; (with_reducible refine (HAW.out _).mono ?_); rintro r w5 ⟨rfl, hx5⟩; obtain ⟨e0, e1, e2, e3, e4⟩ := (bE3.ext hx5).c5; obtain ⟨f0, f1, f2, f3, f4⟩ := (bF3.ext hx5).c5; have hz5 := hx5.size)
        | (go_at_call 27; (with_reducible refine (rEquivalent_e (CL.fromE (CL.atoms e) (minsE e)) e _ W.heap.size _ _ ((HF3.out.ext hx5 hz3)) ((HRW3.out.ext hx5 (by omega)).le hzb) (by omega)).mono ?_); intro r wv hp; obtain ⟨hr9, hx9⟩ := hp; rw [HQ.out] at hr9; subst hr9))
      go_ret
      exact ⟨rfl, (HX3.out.tr hx5).tr hx9⟩
  · rw [decide_eq_false h3] at HL
    go_enter Try.func13, Try.ntmps13
    go_wp2_with (first
      | (go_at_call 28; (with_reducible refine (HL.out _).mono ?_); rintro r w' ⟨rfl, rfl⟩)
      | (go_at_call 14; (with_reducible refine (HAW.out _).mono ?_); rintro r w2 ⟨rfl, hxa⟩))
    go_ret
    exact ⟨rfl, hxa⟩
end Go.Proofs.Ytmolffigeobnnaa

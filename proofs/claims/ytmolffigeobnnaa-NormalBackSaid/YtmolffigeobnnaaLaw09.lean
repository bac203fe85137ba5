
/- The example of chapter 9, and what its statements share. -/
import Derived.Test.YtmolffigeobnnaaNsw
import Derived.Test.YtmolffigeobnnaaSe
import Derived.Test.YtmolffigeobnnaaZ11
import Derived.Deep.DrawnRows
import Derived.Deep.RegionHeld3
namespace Go.Proofs.Ytmolffigeobnnaa
open Go.RowKit
set_option linter.unusedVariables false
set_option linter.unusedSimpArgs false
set_option maxRecDepth 100000
attribute [local go_sem ↓] Go.wp_at_zero Go.wp_at_succ
set_option maxHeartbeats 800000 in
theorem normal.Simplify_c (e : CL.Ex) (w : World) (B : Nat) (cs : List Value) (hR : Rd w B e cs) (hB : B ≤ w.heap.size) : Calls Try.prog 30 #[.agg cs.toArray] w (MadeE (CL.smpE e) w) := by
  obtain ⟨k, s, m, u, A, l, c, rfl⟩ := hR.shape
  obtain ⟨bE, bF, hx0⟩ := boxE2 w #[.int .i64 k, .string s, .int .i64 m, .int .i64 u, .slice A l c] 28 #[.int .i64 0, .string ⟨#[]⟩, .int .i64 0, .int .i64 0, .slice none 0 0] 28
  have hz0 := hx0.size
  have hvc := request.ValidExpr_c e ((w.alloc (.cells #[.int .i64 k, .string s, .int .i64 m, .int .i64 u, .slice A l c] 28)).alloc (.cells #[.int .i64 0, .string ⟨#[]⟩, .int .i64 0, .int .i64 0, .slice none 0 0] 28)) B _ (hR.ext hx0 hB) (by omega)
  have hzz : ((w.alloc (.cells #[.int .i64 k, .string s, .int .i64 m, .int .i64 u, .slice A l c] 28)).alloc (.cells #[.int .i64 0, .string ⟨#[]⟩, .int .i64 0, .int .i64 0, .slice none 0 0] 28)).heap.size = w.heap.size + 2 := by simp
  cases hv : CL.valid e
  · have HA := Lib.hid (show CL.smpE e = CL.noEx by simp [CL.smpE, hv])
    rw [hv] at hvc
    have HVC := Lib.hid hvc
    clear hvc
    go_enter Try.func30, Try.ntmps30
    go_wp2_with (go_at_call 44; (with_reducible refine HVC.out.mono ?_); rintro r w' ⟨rfl, hx⟩; have hbF := bF.ext hx; obtain ⟨q0, q1, q2, q3, q4⟩ := hbF.c5; have f0 := hbF.frozen 0; have f1 := hbF.frozen 1; have f2 := hbF.frozen 2; have f3 := hbF.frozen 3; have f4 := hbF.frozen 4)
    (try simp only [Exit.inBlock, Exit.then])
    refine bodyPost_ret (by simp [results, Try.results30, go_sem, *]; try rfl) rfl ?_
    rw [HA.out]
    exact noEx_made (below_only (hx0.tr hx) (((((Only.rf.set 0 _).set 1 _).set 2 _).set 3 _).set 4 _) (by omega) (by have := hx.size; omega))
  · have HA := Lib.hid (show CL.smpE e = CL.smp e by simp [CL.smpE, hv])
    rw [hv] at hvc
    have HVC := Lib.hid hvc
    have HW := Lib.hid (normal.simplify_c e (valid_wf hv) (valid_size hv))
    clear hvc
    go_enter Try.func30, Try.ntmps30
    go_wp2_with (first
      | (go_at_call 44; (with_reducible refine HVC.out.mono ?_); rintro r w' ⟨rfl, hx⟩; obtain ⟨e0, e1, e2, e3, e4⟩ := (bE.ext hx).c5; have hz1 := hx.size)
      | (go_at_call 59; (with_reducible refine (HW.out _ B _ ((hR.ext hx0 hB).ext hx (by omega)) (by omega)).mono ?_); intro r wc hp; obtain ⟨k', n', m', u', A2, l2, c2, rfl, hR2, hxc⟩ := hp.get; have hbF := (bF.ext hx).ext hxc; obtain ⟨q0, q1, q2, q3, q4⟩ := hbF.c5; have f0 := hbF.frozen 0; have f1 := hbF.frozen 1; have f2 := hbF.frozen 2; have f3 := hbF.frozen 3; have f4 := hbF.frozen 4))
    have HP := Lib.hid (MadeE.put (w := w) (p := w.heap.size + 1) (v0 := .int .i64 k') (v1 := .string n') (v2 := .int .i64 m') (v3 := .int .i64 u') (v4 := .slice A2 l2 c2) hR2 (by omega) (by omega) ((hx0.tr hx).tr hxc))
    (try simp only [Exit.inBlock, Exit.then])
    refine bodyPost_ret (by simp [results, Try.results30, go_sem, *]; try rfl) rfl ?_
    rw [HA.out]
    exact HP.out
theorem clusterlockslaw09.atom_c (s : List UInt8) (w : World) : Calls Try.prog 43 #[.string ⟨s.toArray⟩] w fun r w' => r = .returned (.agg #[.int .i64 0, .string ⟨s.toArray⟩, .int .i64 3, .int .i64 0, .slice none 0 0]) ∧ Ext w w' := by
  go_enter Try.func43, Try.ntmps43
  go_wp2
  exact bodyPost_ret (by simp [results, Try.results43, go_sem]; try rfl) rfl ⟨rfl, by go_grown⟩
theorem exA_raw : rawM 3 (holdsE exA) 8 = [[0, 1], [0, 2], [1, 2]] := by decide +kernel
theorem exA_mins : minsE exA = [[0, 1], [0, 2], [1, 2]] := by
  have hv := exA_valid
  unfold minsE
  rw [if_pos hv, exA_atoms]
  show srt (rawM 3 (holdsE exA) 8) = _
  rw [exA_raw]
  exact (asc_srt (l := [[0, 1], [0, 2], [1, 2]]) (by unfold Asc; decide) (List.Perm.refl _)).symm
theorem exA_eqv : eqvE exA (CL.dual exA) = true := by rw [eqv_eq]; decide +kernel
theorem exA_smp : CL.smpE (.mk 1 CL.noAt [exA]) = exA := by decide +kernel
theorem min_exA (w : World) (B : Nat) (cs : List Value) (hR : Rd w B exA cs) (hB : B ≤ w.heap.size) : Calls Try.prog 16 #[.agg cs.toArray] w fun r w' => ∃ b o c A c2, r = .returned (.slice (some ⟨b, o, none⟩) 3 c) ∧ w'.cell? ⟨b, o, none⟩ = some (.slice A 2 c2) ∧ Ext w w' := by
  refine (normal.Minimal_c exA w B cs hR hB).mono ?_
  intro r w' hp
  obtain ⟨A, c, rfl, hM, hx⟩ := hp.mat
  rw [exA_mins] at *
  obtain ⟨b, o, Ai, ci, rfl, hc, _⟩ := hM.get (i := 0) (by simp)
  exact ⟨b, o, c, Ai, ci, rfl, hc, hx⟩
theorem eqv_exA (w : World) (B : Nat) (cs ds : List Value) (hR : Rd w B exA cs) (hS : Rd w B (CL.dual exA) ds) (hB : B ≤ w.heap.size) : Calls Try.prog 26 #[.agg cs.toArray, .agg ds.toArray] w fun r w' => r = .returned (.bool true) ∧ Ext w w' := by
  have h := normal.Equivalent_c exA (CL.dual exA) w B cs ds hR hS hB
  rw [exA_eqv] at h; exact h
theorem dual_exA (w : World) (B : Nat) (cs : List Value) (hR : Rd w B exA cs) (hB : B ≤ w.heap.size) : Calls Try.prog 18 #[.agg cs.toArray] w (MadeE (CL.dual exA) w) := by
  have h := normal.Dual_c exA w B cs hR hB
  rw [show CL.dualE exA = CL.dual exA by simp [CL.dualE, exA_valid]] at h; exact h
theorem smp_exA (w : World) (B : Nat) (cs : List Value) (hR : Rd w B (.mk 1 CL.noAt [exA]) cs) (hB : B ≤ w.heap.size) : Calls Try.prog 30 #[.agg cs.toArray] w (MadeE exA w) := by
  have h := normal.Simplify_c _ w B cs hR hB
  rw [exA_smp] at h; exact h
theorem rd_one {w : World} {B g : Nat} {t : TypeId} {e : CL.Ex} {k : Int} {n : ByteArray} {m u : Int} {A : Option Addr} {l c : Nat} (h : Rd w B e [.int .i64 k, .string n, .int .i64 m, .int .i64 u, .slice A l c]) (hg : g < B) (hb : Blk w g t #[.int .i64 k, .string n, .int .i64 m, .int .i64 u, .slice A l c]) :
    Rd w B (.mk 1 CL.noAt [e]) [.int .i64 1, .string ⟨#[]⟩, .int .i64 0, .int .i64 0, .slice (some ⟨g, 0, none⟩) 1 1] :=
  .mk 1 [] 0 0 [e] (some ⟨g, 0, none⟩) 1 [[.int .i64 k, .string n, .int .i64 m, .int .i64 u, .slice A l c]] (by simp [maxLen]) (by simp [maxLen]) (by simp) rfl (by simp)
    (fun _ => ⟨g, 0, rfl, hg, fun j x hx => by rw [Nat.zero_add, hb.cell]; simpa using hx⟩)
    (fun i h1 h2 => by
      obtain rfl : i = 0 := by simp at h1; omega
      exact h)
set_option maxHeartbeats 3200000 in
theorem awake9_c (w : World) : Calls Try.prog 14 #[] w fun r w' => r = .returned (.bool true) ∧ Ext w w' := by
  go_enter Try.func14, Try.ntmps14
  go_wp2_with (first
    | (go_at_call 43; (with_reducible refine (clusterlockslaw09.atom_c [97] _).mono ?_); rintro r w1 ⟨rfl, hx1⟩)
    | (go_at_call 43; (with_reducible refine (clusterlockslaw09.atom_c [98] _).mono ?_); rintro r w2 ⟨rfl, hx2⟩)
    | (go_at_call 43; (with_reducible refine (clusterlockslaw09.atom_c [99] _).mono ?_); rintro r w3 ⟨rfl, hx3⟩; have hx := hx1.tr (hx2.tr hx3); clear hx1 hx2 hx3))
  obtain ⟨b0, b1⟩ := two_rows w3 #[.int .i64 0, .string ⟨#[97]⟩, .int .i64 3, .int .i64 0, .slice none 0 0, .int .i64 0, .string ⟨#[98]⟩, .int .i64 3, .int .i64 0, .slice none 0 0, .int .i64 0, .string ⟨#[99]⟩, .int .i64 3, .int .i64 0, .slice none 0 0] 28 #[.int .i64 2, .string ⟨#[]⟩, .int .i64 0, .int .i64 0, .slice (some ⟨w3.heap.size, 0, none⟩) 3 3] 28
  have hz2 : w3.heap.size + 1 + 1 = ((w3.alloc (.cells #[.int .i64 0, .string ⟨#[97]⟩, .int .i64 3, .int .i64 0, .slice none 0 0, .int .i64 0, .string ⟨#[98]⟩, .int .i64 3, .int .i64 0, .slice none 0 0, .int .i64 0, .string ⟨#[99]⟩, .int .i64 3, .int .i64 0, .slice none 0 0] 28)).alloc (.cells #[.int .i64 2, .string ⟨#[]⟩, .int .i64 0, .int .i64 0, .slice (some ⟨w3.heap.size, 0, none⟩) 3 3] 28)).heap.size := by rw [World.size_alloc, World.size_alloc]
  have hx4 : Ext w3 ((w3.alloc (.cells #[.int .i64 0, .string ⟨#[97]⟩, .int .i64 3, .int .i64 0, .slice none 0 0, .int .i64 0, .string ⟨#[98]⟩, .int .i64 3, .int .i64 0, .slice none 0 0, .int .i64 0, .string ⟨#[99]⟩, .int .i64 3, .int .i64 0, .slice none 0 0] 28)).alloc (.cells #[.int .i64 2, .string ⟨#[]⟩, .int .i64 0, .int .i64 0, .slice (some ⟨w3.heap.size, 0, none⟩) 3 3] 28)) := by go_grown
  generalize ((w3.alloc (.cells #[.int .i64 0, .string ⟨#[97]⟩, .int .i64 3, .int .i64 0, .slice none 0 0, .int .i64 0, .string ⟨#[98]⟩, .int .i64 3, .int .i64 0, .slice none 0 0, .int .i64 0, .string ⟨#[99]⟩, .int .i64 3, .int .i64 0, .slice none 0 0] 28)).alloc (.cells #[.int .i64 2, .string ⟨#[]⟩, .int .i64 0, .int .i64 0, .slice (some ⟨w3.heap.size, 0, none⟩) 3 3] 28)) = W at *
  have hR : Rd W (w3.heap.size + 1 + 1) exA [.int .i64 2, .string ⟨#[]⟩, .int .i64 0, .int .i64 0, .slice (some ⟨w3.heap.size, 0, none⟩) 3 3] := rd_exA W _ _ _ (by omega) b0
  have hBW : w3.heap.size + 1 + 1 ≤ W.heap.size := by omega
  clear hz2
  obtain ⟨e0, e1, e2, e3, e4⟩ := b1.c5
  go_wp2_with fail
  refine (min_exA W _ _ hR hBW).mono ?_
  rintro r w4 ⟨b, o, c, A, c2, rfl, hcell, hx5⟩
  have hz5 := hx5.size
  have b14 := b1.ext hx5
  have HR := Lib.hid (hR.ext hx5 hBW)
  have HX := Lib.hid (hx.tr (hx4.tr hx5))
  clear hR e0 e1 e2 e3 e4
  obtain ⟨e0, e1, e2, e3, e4⟩ := b14.c5
  have HC5 := Lib.hid b14.c5
  have HCL := Lib.hid hcell
  have hy : Ext w4 w4.drew := Ext.drawn w4
  go_wp2_with fail
  go_region_held3 (fun w' => (w'.cell? ⟨w3.heap.size + 1, 0, none⟩ = some (.int .i64 2) ∧ w'.cell? ⟨w3.heap.size + 1, 1, none⟩ = some (.string ⟨#[]⟩) ∧ w'.cell? ⟨w3.heap.size + 1, 2, none⟩ = some (.int .i64 0) ∧ w'.cell? ⟨w3.heap.size + 1, 3, none⟩ = some (.int .i64 0) ∧ w'.cell? ⟨w3.heap.size + 1, 4, none⟩ = some (.slice (some ⟨w3.heap.size, 0, none⟩) 3 3)) ∧ w'.cell? ⟨b, o, none⟩ = some (.slice A 2 c2))
    (first | go_keep | exact ⟨cells5' HC5.out hy, hy.cell HCL.out⟩ | exact ⟨cells5' HC5.out (Ext.tr hy (Ext.new _ _)), (Ext.tr hy (Ext.new _ _)).cell HCL.out⟩)
    (first
      | (go_at_call 18; (with_reducible refine (dual_exA _ _ _ (HR.out.ext hy (by omega)) (by have := hy.size; omega)).mono ?_); intro r w6 hp; obtain ⟨k', n', m', u', A2, l2, x2, rfl, hR2, hx6⟩ := hp.get; replace hy := Ext.tr hy hx6)
      | (go_at_call 26; (with_reducible refine (eqv_exA _ _ _ _ ((HR.out.ext hy (by omega)).le (by have := hy.size; omega)) hR2.rd (Nat.le_refl _)).mono ?_); rintro r w7 ⟨rfl, hx7⟩; replace hy := Ext.tr hy hx7)
      | (go_at_call 30; have hya : Ext w4 (w7.alloc (.cells #[.int .i64 2, .string ⟨#[]⟩, .int .i64 0, .int .i64 0, .slice (some ⟨w3.heap.size, 0, none⟩) 3 3] 28)) := Ext.tr hy (Ext.new _ _); have hzya := hya.size; have hRa := (HR.out.ext hya (by omega)).le (Nat.le_trans (show w3.heap.size + 1 + 1 ≤ w4.heap.size by omega) hzya); have hR1 := rd_one hRa (show w7.heap.size < _ by simp) (Blk.new w7 28 _); (with_reducible refine (smp_exA _ _ _ hR1 (Nat.le_refl _)).mono ?_); intro r w8 hp8; obtain ⟨k8, n8, m8, u8, A8, l8, x8, rfl, hR8, hx8⟩ := hp8.get; clear hy; have hy := Ext.tr hya hx8)
      | (go_at_call 19; (with_reducible refine (clusterlocksref07.SameExpr_c exA _ _ _ hR8.rd ((HR.out.ext hy (by omega)).le (by have := hy.size; omega))).mono ?_); rintro r w9 ⟨rfl, hx9⟩; replace hy := Ext.tr hy hx9))
  go_wp2
  go_ret
  exact ⟨rfl, HX.out.tr hy⟩
end Go.Proofs.Ytmolffigeobnnaa

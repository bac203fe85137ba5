
/- The reference's reader: atom. -/
import Derived.Test.YtlfnpkjfnafeaaaDoorRr3
namespace Go.Proofs.YtlfnpkjfnafeaaaDoor
open Go.RowKit
set_option linter.unusedVariables false
set_option linter.unusedSimpArgs false
set_option maxRecDepth 100000
variable {w : World} {g B base : Nat} {A : Option Addr} {c : Nat} {all : List CL.Tk} {v : Value} {k : Nat} {s : CL.PS}
set_option maxHeartbeats 6400000 in
theorem reader.atom_c (h : RSt w g B base A c all v k s) (nm : CL.Tk) (hn : nm.text.length ≤ maxLen) :
    Calls Tryd.prog 71 #[.pointer (some ⟨g, 0, none⟩), tkv nm] w (RxPost w g B base A c all v (CL.atomP nm s)) := by
  obtain ⟨b, o, rfl, hbB, -⟩ := h.cells
  obtain ⟨nk, nt, nn, np⟩ := nm
  have hx0 : Ext w (((w.alloc (.cells #[.int .i64 nk, .string ⟨nt.toArray⟩, .int .i64 nn, .int .i64 np] 52)).alloc (.cells #[.int .i64 0, .string ⟨#[]⟩, .int .i64 0, .int .i64 0, .slice none 0 0] 28)).alloc (.cells #[.string ⟨nt.toArray⟩, .int .i64 0, .int .i64 0] 25)) := (Ext.new _ _).tr ((Ext.new _ _).tr (Ext.new _ _))
  have bN := (Blk.new w 52 #[.int .i64 nk, .string ⟨nt.toArray⟩, .int .i64 nn, .int .i64 np]).alloc (.cells #[.int .i64 0, .string ⟨#[]⟩, .int .i64 0, .int .i64 0, .slice none 0 0] 28) |>.alloc (.cells #[.string ⟨nt.toArray⟩, .int .i64 0, .int .i64 0] 25)
  have bR := (Blk.new (w.alloc (.cells #[.int .i64 nk, .string ⟨nt.toArray⟩, .int .i64 nn, .int .i64 np] 52)) 28 #[.int .i64 0, .string ⟨#[]⟩, .int .i64 0, .int .i64 0, .slice none 0 0]).alloc (.cells #[.string ⟨nt.toArray⟩, .int .i64 0, .int .i64 0] 25)
  have bA := Blk.new ((w.alloc (.cells #[.int .i64 nk, .string ⟨nt.toArray⟩, .int .i64 nn, .int .i64 np] 52)).alloc (.cells #[.int .i64 0, .string ⟨#[]⟩, .int .i64 0, .int .i64 0, .slice none 0 0] 28)) 25 #[.string ⟨nt.toArray⟩, .int .i64 0, .int .i64 0]
  simp only [World.size_alloc] at bR bA
  have hlt := h.blk.lt
  have hBg := h.Bg
  have hBb := h.Bb
  have hbs := h.bs
  have hlen := h.len
  have HY := fun p (hp : w.heap.size ≤ p) => h.young hp
  have hz : (((w.alloc (.cells #[.int .i64 nk, .string ⟨nt.toArray⟩, .int .i64 nn, .int .i64 np] 52)).alloc (.cells #[.int .i64 0, .string ⟨#[]⟩, .int .i64 0, .int .i64 0, .slice none 0 0] 28)).alloc (.cells #[.string ⟨nt.toArray⟩, .int .i64 0, .int .i64 0] 25)).heap.size = w.heap.size + 1 + 1 + 1 := by simp [World.size_alloc]
  have HS := h.ext hx0
  have hM : Mv g v v w _ := Mv.of_ext hx0
  obtain ⟨R, hR⟩ : ∃ R, CL.atomP ⟨nk, nt, nn, np⟩ s = R := ⟨_, rfl⟩
  rw [hR]
  have hR := Lib.hid hR
  unfold tkv
  clear h hx0
  go_enter Tryd.func71, Tryd.ntmps71
  go_wp2_with fail
  generalize (((w.alloc (.cells #[.int .i64 nk, .string ⟨nt.toArray⟩, .int .i64 nn, .int .i64 np] 52)).alloc (.cells #[.int .i64 0, .string ⟨#[]⟩, .int .i64 0, .int .i64 0, .slice none 0 0] 28)).alloc (.cells #[.string ⟨nt.toArray⟩, .int .i64 0, .int .i64 0] 25)) = w1 at *
  obtain ⟨tk, tt, tn, tp, hT⟩ : ∃ tk tt tn tp, s.hd = (⟨tk, tt, tn, tp⟩ : CL.Tk) := ⟨_, _, _, _, rfl⟩
  obtain ⟨hb1, c0, c1, c2, c3⟩ := HS.cellsAt
  rw [hT] at c0 c1 c2 c3
  simp only at c0 c1 c2 c3
  have e0 : w1.cell? ⟨g, 0, none⟩ = some (.slice (some ⟨b, o, none⟩) all.length c) := HS.blk.cell 0
  have e1 : w1.cell? ⟨g, 1, none⟩ = some (.int .i64 (k : Int)) := HS.blk.cell 1
  have hkl1 := HS.hk
  have hne : g ≠ w1.heap.size := (by have := HS.blk.lt; omega)
  have hne2 : b ≠ w1.heap.size := (by have := HS.blk.lt; have := HS.Bg; omega)
  have hki : (k : Int) < (all.length : Int) := by omega
  have hx1 := (Ext.new w1 (.cells #[.int .i64 tk, .string ⟨tt.toArray⟩, .int .i64 tn, .int .i64 tp] 52)).tr (Ext.drawn _)
  have bT1 := (Blk.new w1 52 #[.int .i64 tk, .string ⟨tt.toArray⟩, .int .i64 tn, .int .i64 tp]).ext (Ext.drawn _)
  have y0 := fun ob => (Ext.new w1 ob).cell c0
  have y1 := fun ob => (Ext.new w1 ob).cell c1
  have y2 := fun ob => (Ext.new w1 ob).cell c2
  have y3 := fun ob => (Ext.new w1 ob).cell c3
  have z0 := fun ob => (Ext.new w1 ob).cell e0
  have z1 := fun ob => (Ext.new w1 ob).cell e1
  replace HS := Lib.hid (HS.ext hx1)
  replace bN := bN.ext hx1
  replace bR := bR.ext hx1
  replace bA := bA.ext hx1
  replace hM := Lib.hid (hM.tr (Mv.of_ext hx1))
  have bN := Lib.hid bN
  have bR := Lib.hid bR
  have bA := Lib.hid bA
  have bT1 := Lib.hid bT1
  skip
  go_region
  skip
  replace HS := HS.out
  replace bN := bN.out
  replace bR := bR.out
  replace bA := bA.out
  replace bT1 := bT1.out
  replace hM := hM.out
  clear y0 y1 y2 y3 z0 z1 c0 c1 c2 c3 e0 e1 hx1 hne hne2 hki
  generalize (w1.alloc (.cells #[.int .i64 tk, .string ⟨tt.toArray⟩, .int .i64 tn, .int .i64 tp] 52)).drew = w2 at *
  generalize w1.heap.size = q1 at *

  subst hz
  have HI := reader.is_c HS 4 [58]
  have HI2 := fun w' (hx : Ext w2 w') => reader.is_c (HS.ext hx) 4 [42]
  have g1 : IntKind.i64.wrap ((k : Int) + 1) = (k : Int) + 1 := IntWalk.i64_in _ (by omega)
  have hS5 : ∀ {kd tx}, CL.sees kd tx s = true → kd ≠ 5 → s.hd.kind ≠ 5 := fun h1 h2 => by rw [rsees_kind h1]; exact h2
  cases hs : CL.sees 4 [58] s with
  | true =>
    as_aux_lemma =>
    have hk5 : s.hd.kind ≠ 5 := hS5 hs (by decide)
    have htx : tt = [58] := by simp only [CL.sees, decide_eq_true_eq, hT] at hs; exact hs.2
    subst htx
    rw [hs] at HI
    clear HI2 hS5
    go_wp2_with (go_at_call 73; refine HI.mono ?_; rintro r w3 ⟨rfl, hx3⟩; have HS3 := HS.ext hx3; have e1 : w3.cell? ⟨g, 1, none⟩ = some (.int .i64 k) := HS3.blk.cell 1; have f1 := HS3.blk.frozen 1; have HS3 := Lib.hid HS3; clear HI)
    obtain ⟨hN, hMN⟩ := HS3.out.next_of hk5
    replace hMN := (Mv.of_ext (g := g) (v := v) hx3).tr hMN
    replace bN := bN.mv hMN (by omega) (HY _ (by omega))
    replace bR := bR.mv hMN (by omega) (HY _ (by omega))
    replace bA := bA.mv hMN (by omega) (HY _ (by omega))
    replace bT1 := bT1.mv hMN (by omega) (HY _ (by omega))
    replace hM := hM.tr hMN
    clear HS3 e1 f1 HS hx3 hMN g1
    generalize w3.setCell ⟨g, 1, none⟩ (.int .i64 ((k : Int) + 1)) = w4 at *
    obtain ⟨k1, hk1⟩ : ∃ k1, k + 1 = k1 := ⟨_, rfl⟩
    rw [hk1] at hN
    obtain ⟨uk, ut, un, up, hU⟩ : ∃ uk ut un up, s.next.hd = (⟨uk, ut, un, up⟩ : CL.Tk) := ⟨_, _, _, _, rfl⟩
    have hq12 := bT1.lt
    obtain ⟨hb2, c0, c1, c2, c3⟩ := hN.cellsAt
    rw [hU] at c0 c1 c2 c3
    simp only at c0 c1 c2 c3
    have e0 : w4.cell? ⟨g, 0, none⟩ = some (.slice (some ⟨b, o, none⟩) all.length c) := hN.blk.cell 0
    have e1 : w4.cell? ⟨g, 1, none⟩ = some (.int .i64 (k1 : Int)) := hN.blk.cell 1
    have hkl2 := hN.hk
    have hne : g ≠ w4.heap.size := (by have := hN.blk.lt; omega)
    have hne2 : b ≠ w4.heap.size := (by have := hN.blk.lt; have := hN.Bg; omega)
    have hki : (k1 : Int) < (all.length : Int) := by omega
    have hx2 := (Ext.new w4 (.cells #[.int .i64 uk, .string ⟨ut.toArray⟩, .int .i64 un, .int .i64 up] 52)).tr (Ext.drawn _)
    have bT2 := (Blk.new w4 52 #[.int .i64 uk, .string ⟨ut.toArray⟩, .int .i64 un, .int .i64 up]).ext (Ext.drawn _)
    have y0 := fun ob => (Ext.new w4 ob).cell c0
    have y1 := fun ob => (Ext.new w4 ob).cell c1
    have y2 := fun ob => (Ext.new w4 ob).cell c2
    have y3 := fun ob => (Ext.new w4 ob).cell c3
    have z0 := fun ob => (Ext.new w4 ob).cell e0
    have z1 := fun ob => (Ext.new w4 ob).cell e1
    replace hN := Lib.hid (hN.ext hx2)
    replace bN := bN.ext hx2
    replace bR := bR.ext hx2
    replace bA := bA.ext hx2
    replace hM := Lib.hid (hM.tr (Mv.of_ext hx2))
    have bN := Lib.hid bN
    have bR := Lib.hid bR
    have bA := Lib.hid bA
    have bT2 := Lib.hid bT2
    replace bT1 := Lib.hid (bT1.ext hx2)
    go_region
    replace bT1 := bT1.out
    replace hN := hN.out
    replace bN := bN.out
    replace bR := bR.out
    replace bA := bA.out
    replace bT2 := bT2.out
    replace hM := hM.out
    clear y0 y1 y2 y3 z0 z1 c0 c1 c2 c3 e0 e1 hx2 hne hne2 hki
    generalize (w4.alloc (.cells #[.int .i64 uk, .string ⟨ut.toArray⟩, .int .i64 un, .int .i64 up] 52)).drew = w5 at *
    generalize w4.heap.size = q2 at *

    have t1 := bT1.cell 1
    have u0 := bT2.cell 0
    have u2 := bT2.cell 2
    have u3 := bT2.cell 3
    simp only [List.getElem?_toArray, List.getElem?_cons_succ, List.getElem?_cons_zero] at t1 u0 u2 u3
    by_cases h2 : uk = 2
    · as_aux_lemma =>
      have hE : R = CL.addA ⟨nk, nt, nn, np⟩ ⟨nt, ⟨un, 0⟩⟩ s.next.next := by rw [← hR.out]; unfold CL.atomP; rw [hs, hU]; simp only [if_true]; exact if_pos h2
      replace hE := Lib.hid hE
      subst h2
      have n1 : q2 ≠ g := (by omega)
      have n2 : w.heap.size + 1 + 1 + 1 ≠ g := (by omega)
      have n3 : w.heap.size + 1 + 1 ≠ g := (by omega)
      have n4 : q2 ≠ w.heap.size + 1 + 1 := (by omega)
      have n5 : g ≠ w.heap.size + 1 + 1 := (by omega)
      have n6 : g ≠ q2 := (by omega)
      have e1 : w5.cell? ⟨g, 1, none⟩ = some (.int .i64 k1) := hN.blk.cell 1
      have f1 := hN.blk.frozen 1
      have g2 : IntKind.i64.wrap ((k1 : Int) + 1) = (k1 : Int) + 1 := IntWalk.i64_in _ (by omega)
      have a0 := bA.cell 0
      have a1 := bA.cell 1
      have a2 := bA.cell 2
      have af1 := bA.frozen 1
      have af2 := bA.frozen 2
      simp only [List.getElem?_toArray, List.getElem?_cons_succ, List.getElem?_cons_zero] at a0 a1 a2
      obtain ⟨hN2, hM2⟩ := hN.next_of (by rw [hU]; simp)
      replace hM2 := hM.tr hM2
      go_wp2_with fail
      have hp3 := hN2.only (p := w.heap.size + 1 + 1) (HY _ (by omega)) (by omega) (by omega) (Only.rf.set (g := w.heap.size + 1 + 1) 1 (.int .i64 un))
      have hM3 := hM2.only (p := w.heap.size + 1 + 1) (Only.rf.set (g := w.heap.size + 1 + 1) 1 (.int .i64 un)) (by omega)
      have bA3 := (bA.setNe (q := g) (by omega) 1 (.int .i64 ((k1 : Int) + 1))).set 1 (.int .i64 un)
      have bR3 := (bR.setNe (q := g) (by omega) 1 (.int .i64 ((k1 : Int) + 1))).setNe (q := w.heap.size + 1 + 1) (by omega) 1 (.int .i64 un)
      have bN3 := (bN.setNe (q := g) (by omega) 1 (.int .i64 ((k1 : Int) + 1))).setNe (q := w.heap.size + 1 + 1) (by omega) 1 (.int .i64 un)
      clear n1 n2 n3 n4 n5 n6 hN hN2 hM hM2 bA bR bN bT1 bT2 t1 u0 u2 u3 e1 f1 a0 a1 a2 af1 af2 g2
      generalize ((w5.setCell ⟨g, 1, none⟩ (.int .i64 ((k1 : Int) + 1))).setCell ⟨w.heap.size + 1 + 1, 1, none⟩ (.int .i64 un)) = w6 at *
      generalize s.next.next = s2 at *
      have HOWN := Lib.hid hp3.own
      have hown := hp3.own
      obtain ⟨A1, c1, rfl, hc1, hc2⟩ := own_form hown
      have hr := Sits.of_own hown
      have hq := at_eql
      have hgd := at_guard
      have HZ := Lib.hid (NoteTo.zero s2.l ⟨nt, ⟨un, 0⟩⟩)
      have hl8 := hp3.l8
      have hng := hp3.ne
      clear hc1 hc2 hs hT hU hR
      as_aux_lemma =>
      go_loopw [8] (fun i wr => ∃ j : Nat, j ≤ s2.l.length ∧ i = .int .i64 j ∧ Ext w6 wr ∧ Hid (NoteTo s2.l ⟨nt, ⟨un, 0⟩⟩ j)) (fun i _ => s2.l.length - (intOf i).toNat)
      case atStart => exact ⟨0, by omega, rfl, Ext.rfl', HZ⟩
      case round =>
        obtain ⟨j, hj, rfl, hx, HJ⟩ := hrel
        have bAr := bA3.ext hx
        have bNr := bN3.ext hx
        have bRr := bR3.ext hx
        have HSr := hp3.ext hx
        replace hx := Lib.hid hx
        have a0 := bAr.cell 0
        have a1 := bAr.cell 1
        have a2 := bAr.cell 2
        have n3 := bNr.cell 3
        simp at a0 a1 a2
        simp only [List.getElem?_toArray, List.getElem?_cons_succ, List.getElem?_cons_zero] at n3
        have x3 : wr.cell? ⟨g, 3, none⟩ = some (.slice A1 s2.l.length c1) := HSr.blk.cell 3
        by_cases hlt2 : j < s2.l.length
        · obtain ⟨b2, p2, rfl, d0, d1, d2⟩ := (hr.ext hx.out).atoms hlt2
          have H1 := Lib.hid (HJ.out.hit hlt2)
          have H2 := Lib.hid (HJ.out.name hlt2)
          have H3 := Lib.hid (HJ.out.step hlt2)
          have hji : (j : Int) < (s2.l.length : Int) := by omega
          generalize s2.l[j] = x at *
          obtain ⟨xn, xm, xu⟩ := x
          simp only at d0 d1 d2
          by_cases heq : xn = nt ∧ xm = un ∧ xu = 0
          · as_aux_lemma =>
            have hq1 := fun W => (at_eql xn nt xm xu un 0 W).trans (by rw [show decide ((⟨xn, ⟨xm, xu⟩⟩ : CL.At) = ⟨nt, ⟨un, 0⟩⟩) = true by simpa using heq])
            have hnote := H1.out (by simpa using ⟨heq.1.symm, heq.2.1.symm, heq.2.2.symm⟩)
            have hE2 : R = .ok (.mk 0 ⟨nt, ⟨un, 0⟩⟩ [], s2) := by rw [hE.out]; unfold CL.addA; rw [hnote]; exact if_pos rfl
            replace hE2 := Lib.hid hE2
            clear heq hq H1 H2 H3 hnote
            have bRr := Lib.hid (bRr.ext (Ext.drawn _))
            go_wp2_with fail
            go_region
            go_wp2_with (with_reducible refine is_store 28 (.tmp 4) (.tmp 125) rfl ?_; refine wpList_store_blk rfl rfl 28 (.tmp 4) (.tmp 125) rfl (w.heap.size + 1) #[.int .i64 0, .string ⟨nt.toArray⟩, .int .i64 un, .int .i64 0, .slice none 0 0] (by kernel_rfl) (by kernel_rfl) _ _ bRr.out 5 ex_isz rfl rfl (by simp [Value.oneCell']) ?_; intro w8 hB8 ho8; have r0 := hB8.cell 0; have r1 := hB8.cell 1; have r2 := hB8.cell 2; have r3 := hB8.cell 3; have r4 := hB8.cell 4; clear hB8; refine wpList_hide 4 ?_; intro a8 ha8 hd8; replace ha8 : a8.tmps[4]? = some (.pointer (some ⟨w.heap.size + 1, 0, none⟩)) := ha8.trans (by kernel_rfl))
            refine bodyPost_ret (by simp [results, Tryd.results71, go_sem, ha8, r0, r1, r2, r3, r4]; try rfl) (hd8.trans rfl) ?_
            rw [hE2.out]
            have HSd := HSr.ext (Ext.drawn wr)
            have hMd := hM3.tr (Mv.of_ext (hx.out.tr (Ext.drawn wr)))
            have HS8 := HSd.only (HY (w.heap.size + 1) (by omega)) (by omega) (by omega) ho8
            have hM8 := hMd.only ho8 (by omega)
            exact ⟨[.int .i64 0, .string ⟨nt.toArray⟩, .int .i64 un, .int .i64 0, .slice none 0 0], _, k1 + 1, rfl, HS8, hM8, RdF.leaf w8 w.heap.size w8.heap.size _ 0 ⟨nt, ⟨un, 0⟩⟩ hn⟩
          · as_aux_lemma =>
            have hq1 := fun W => (at_eql xn nt xm xu un 0 W).trans (by rw [show decide ((⟨xn, ⟨xm, xu⟩⟩ : CL.At) = ⟨nt, ⟨un, 0⟩⟩) = false by simpa using heq])
            have hne2 : ¬ ((⟨nt, ⟨un, 0⟩⟩ : CL.At) = ⟨xn, ⟨xm, xu⟩⟩) := by
              intro h; apply heq; injection h with h1 h2; injection h2 with h2 h3; exact ⟨h1.symm, h2.symm, h3.symm⟩
            by_cases hnm : xn = nt
            · have hnote := H2.out hne2 hnm.symm
              have hE2 : R = .error (np, 13) := by rw [hE.out]; unfold CL.addA; rw [hnote]; exact if_neg (by simp)
              replace hE2 := Lib.hid hE2
              subst hnm
              clear heq hq H1 H2 H3 hnote hne2
              have HF := reader.fail_c wr.drew.drew g _ _ _ _ np 13 (HSr.ext ((Ext.drawn wr).tr (Ext.drawn _))).blk
              replace HF := Lib.hid HF
              replace bRr := Lib.hid (bRr.ext ((Ext.drawn wr).tr (Ext.drawn _)))
              go_wp2_with fail
              go_region
              go_wp2_with fail
              go_region
              go_wp2_with fail
              refine HF.out.mono ?_
              rintro r w7 ⟨rfl, hb7, ho7⟩
              have bR7 := Lib.hid (bRr.out.only ho7 (by omega))
              go_wp2_with (with_reducible refine is_store 28 (.tmp 4) (.tmp 141) rfl ?_; refine wpList_store_blk rfl rfl 28 (.tmp 4) (.tmp 141) rfl (w.heap.size + 1) #[.int .i64 0, .string ⟨#[]⟩, .int .i64 0, .int .i64 0, .slice none 0 0] (by kernel_rfl) (by kernel_rfl) _ _ bR7.out 5 ex_isz rfl rfl (by simp [Value.oneCell']) ?_; intro w8 hB8 ho8; have r0 := hB8.cell 0; have r1 := hB8.cell 1; have r2 := hB8.cell 2; have r3 := hB8.cell 3; have r4 := hB8.cell 4; clear hB8; refine wpList_hide 4 ?_; intro a8 ha8 hd8; replace ha8 : a8.tmps[4]? = some (.pointer (some ⟨w.heap.size + 1, 0, none⟩)) := ha8.trans (by kernel_rfl))
              refine bodyPost_ret (by simp [results, Tryd.results71, go_sem, ha8, r0, r1, r2, r3, r4]; try rfl) (hd8.trans rfl) ?_
              exact RxPost.err hE2.out ShEx.zero (by decide) ⟨_, _, _, _, hb7.only ho8 (by omega)⟩ (((hM3.tr (Mv.of_ext (hx.out.tr ((Ext.drawn wr).tr (Ext.drawn _))))).tr (Mv.set ho7)).only ho8 (by omega)).chg
            · have hnm1 : (xn == nt) = false := by simpa using hnm
              have HJ3 := Lib.hid (H3.out hne2 (fun e => hnm e.symm))
              clear heq hq H1 H2 H3 hne2 hnm
              go_wp2_with fail
              go_region
              go_wp2_with fail
              go_region
              go_wp2_with fail
              exact ⟨⟨j + 1, by omega, by go_num, hx.out.tr ((Ext.drawn wr).tr (Ext.drawn _)), HJ3⟩, by simp [intOf]; omega⟩
        · as_aux_lemma =>
          have HD := Lib.hid (HJ.out.done (by omega))
          have hji : ¬ ((j : Int) < (s2.l.length : Int)) := by omega
          clear HJ
          by_cases h8 : s2.l.length = 8
          · as_aux_lemma =>
            have hE2 : R = .error (np, 4) := by rw [hE.out]; unfold CL.addA; rw [HD.out, if_pos h8]; exact if_neg (by simp)
            replace hE2 := Lib.hid hE2
            have h8' : ((s2.l.length : Int) == 8) = true := by simp [h8]
            have HF := reader.fail_c wr g _ _ _ _ np 4 HSr.blk
            replace HF := Lib.hid HF
            replace bRr := Lib.hid bRr
            clear HD h8 hq
            go_wp2_with (first
              | (go_at_call 40; refine HF.out.mono ?_; rintro r w7 ⟨rfl, hb7, ho7⟩; have bR7 := Lib.hid (bRr.out.only ho7 (by omega)))
              | (with_reducible refine is_store 28 (.tmp 4) (.tmp 152) rfl ?_; refine wpList_store_blk rfl rfl 28 (.tmp 4) (.tmp 152) rfl (w.heap.size + 1) #[.int .i64 0, .string ⟨#[]⟩, .int .i64 0, .int .i64 0, .slice none 0 0] (by kernel_rfl) (by kernel_rfl) _ _ bR7.out 5 ex_isz rfl rfl (by simp [Value.oneCell']) ?_; intro w8 hB8 ho8; have r0 := hB8.cell 0; have r1 := hB8.cell 1; have r2 := hB8.cell 2; have r3 := hB8.cell 3; have r4 := hB8.cell 4; clear hB8; refine wpList_hide 4 ?_; intro a8 ha8 hd8; replace ha8 : a8.tmps[4]? = some (.pointer (some ⟨w.heap.size + 1, 0, none⟩)) := ha8.trans (by kernel_rfl)))
            refine bodyPost_ret (by simp [results, Tryd.results71, go_sem, ha8, r0, r1, r2, r3, r4]; try rfl) (hd8.trans rfl) ?_
            exact RxPost.err hE2.out ShEx.zero (by decide) ⟨_, _, _, _, hb7.only ho8 (by omega)⟩ (((hM3.tr (Mv.of_ext hx.out)).tr (Mv.set ho7)).only ho8 (by omega)).chg
          · as_aux_lemma =>
            have hE2 : R = .ok (.mk 0 ⟨nt, ⟨un, 0⟩⟩ [], ⟨s2.n, (CL.note s2.l ⟨nt, ⟨un, 0⟩⟩).2, s2.r⟩) := by rw [hE.out]; unfold CL.addA; rw [HD.out, if_neg h8]; exact if_pos rfl
            replace hE2 := Lib.hid hE2
            have hn2 := Lib.hid (HD.out.trans (if_neg h8))
            have h8' : ((s2.l.length : Int) == 8) = false := beq_eq_false_iff_ne.2 (by omega)
            clear HD h8 hq
            go_wp2_with fail
            have hownr := HSr.own
            have f1 := HSr.blk.frozen 3
            have hzr := HSr.bs
            have n1 : some g ≠ (Value.slice A1 s2.l.length c1).ownBlock := hng
            have nR : some (w.heap.size + 1) ≠ (Value.slice A1 s2.l.length c1).ownBlock := fun e => HY _ (by omega) e.symm
            have nA : some (w.heap.size + 1 + 1) ≠ (Value.slice A1 s2.l.length c1).ownBlock := fun e => HY _ (by omega) e.symm
            have hne3 : g ≠ wr.heap.size := by have := HSr.blk.lt; omega
            have x1 : (wr.alloc (.cells #[.string ⟨nt.toArray⟩, .int .i64 un, .int .i64 0] 25)).cell? ⟨g, 3, none⟩ = some (.slice A1 s2.l.length c1) := (HSr.blk.alloc _).cell 3
            have HRB := Lib.hid HSr.blk
            replace HSr := Lib.hid HSr
            replace bRr := Lib.hid bRr
            replace bAr := Lib.hid bAr
            go_region_law
              ((refine step_append_row _ (by rfl) _ _ _ (by rfl) base 25 3 32 _ Tryd.underlying60 at_info rfl (by omega) (.slice A1 s2.l.length c1) s2.l.length (ats s2.l) (by rfl) ((hownr.alloc _).drew) _ _ _ [.string ⟨nt.toArray⟩, .int .i64 un, .int .i64 0] (by rfl) (by rfl) (Sits.drew (Sits.new _ _ _)) (by simp [Value.oneCell']) (by simp only [maxLen]; omega) (by omega) (by simp; omega) ?_; intro v3 w3 hown3 hb3 hg3 hrow3; obtain ⟨A3, c3, rfl, hc3, hc4⟩ := own_form hown3; have e3 : w3.cell? ⟨g, 3, none⟩ = some (.slice A1 s2.l.length c1) := hg3.cell x1 n1; have f3 : w3.frozen? ⟨g, 3, none⟩ = false := hg3.frozenB (HRB.out.alloc _) n1 3))
            all_goals as_aux_lemma =>
              have hb4 := hg3.blk (HRB.out.alloc _) n1
              have bR4 := hg3.blk (bRr.out.alloc _) nR
              have bA4 := hg3.blk (bAr.out.alloc _) nA
              have a0 := bA4.cell 0
              have a1 := bA4.cell 1
              have a2 := bA4.cell 2
              simp at a0 a1 a2
              have bR5 := Lib.hid (bR4.setNe (q := g) (by omega) 3 (.slice A3 (s2.l.length + 1) c3))
              have n3 : w.heap.size + 1 + 1 ≠ g := (by omega)
              have n5 : g ≠ w.heap.size + 1 + 1 := (by omega)
              replace hb4 := Lib.hid hb4
              replace hg3 := Lib.hid hg3
              replace hown3 := Lib.hid hown3
              replace hrow3 := Lib.hid hrow3
              clear hb3 bR4 bA4
              go_wp2_with (with_reducible refine is_store 28 (.tmp 4) (.tmp 164) rfl ?_; refine wpList_store_blk rfl rfl 28 (.tmp 4) (.tmp 164) rfl (w.heap.size + 1) #[.int .i64 0, .string ⟨nt.toArray⟩, .int .i64 un, .int .i64 0, .slice none 0 0] (by kernel_rfl) (by kernel_rfl) _ _ bR5.out 5 ex_isz rfl rfl (by simp [Value.oneCell']) ?_; intro w8 hB8 ho8; have r0 := hB8.cell 0; have r1 := hB8.cell 1; have r2 := hB8.cell 2; have r3 := hB8.cell 3; have r4 := hB8.cell 4; clear hB8; refine wpList_hide 4 ?_; intro a8 ha8 hd8; replace ha8 : a8.tmps[4]? = some (.pointer (some ⟨w.heap.size + 1, 0, none⟩)) := ha8.trans (by kernel_rfl))
              refine bodyPost_ret (by simp [results, Tryd.results71, go_sem, ha8, r0, r1, r2, r3, r4]; try rfl) (hd8.trans rfl) ?_
              have hp : NotePost ⟨nt, ⟨un, 0⟩⟩ s2.l w6 g 3 base 76 #[.slice (some ⟨b, o, none⟩) all.length c, .int .i64 ((k1 + 1 : Nat) : Int), .int .i64 s2.n, .slice A1 s2.l.length c1, .int .i64 0, .int .i64 0] (.slice A1 s2.l.length c1) (.returned (.int .i64 (CL.note s2.l ⟨nt, ⟨un, 0⟩⟩).1)) (w3.setCell ⟨g, 3, none⟩ (.slice A3 (s2.l.length + 1) c3)) := by
                refine ⟨rfl, .slice A3 (s2.l.length + 1) c3, hb4.out.set 3 _, ?_, ?_, ?_⟩
                · rw [hn2.out, ats_snoc, List.length_append]
                  exact own_only hown3.out (Only.rf.set 3 _) (own_ne hown3.out hb4.out (by decide))
                · have k1 : Rl.Chg (fun b => b = g ∨ (Value.slice A1 s2.l.length c1).ownBlock = some b) w6 w3 := Chg.tr (Rl.Chg.of_ext (hx.out.tr ((Ext.new _ _).tr (Ext.drawn _)))) (Rl.Chg.of_grown (E := fun b => b = g ∨ (Value.slice A1 s2.l.length c1).ownBlock = some b) hg3.out (fun x e => Or.inr e)) (fun i hi => Or.inl hi)
                  exact Chg.tr k1 (Rl.Chg.of_grown (E := fun b => b = g) (r := some g) (Only.rf.set 3 _) (fun x e => by injection e with e; exact e.symm)) (fun i hi => Or.inl (Or.inl hi))
                · rcases hrow3.out with e | e
                  · exact Or.inl e
                  · refine Or.inr ⟨_, e, ?_⟩
                    have := hx.out.size
                    simp; omega
              obtain ⟨_, v5, HS5, hM5⟩ := hp3.note hp
              have HS8 := HS5.only (own_ne HS5.own bR5.out (by decide)) (by omega) (by omega) ho8
              have hM8 := (hM3.tr hM5).only ho8 (by omega)
              rw [hE2.out]
              exact ⟨[.int .i64 0, .string ⟨nt.toArray⟩, .int .i64 un, .int .i64 0, .slice none 0 0], v5, k1 + 1, rfl, HS8, hM8, RdF.leaf w8 w.heap.size w8.heap.size _ 0 ⟨nt, ⟨un, 0⟩⟩ hn⟩
    · as_aux_lemma =>
      have hE : R = .error (up, 8) := by rw [← hR.out]; unfold CL.atomP; rw [hs, hU]; simp only [if_true]; exact if_neg h2
      replace hE := Lib.hid hE
      have hk2 : (uk == 2) = false := by simpa using h2
      have HF := reader.fail_c w5 g _ _ _ _ up 8 hN.blk
      go_wp2_with (first
        | (go_at_call 40; refine HF.mono ?_; rintro r w6 ⟨rfl, hb6, ho6⟩; have bR6 := Lib.hid (bR.only ho6 (by omega)))
        | (with_reducible refine is_store 28 (.tmp 4) (.tmp 74) rfl ?_; refine wpList_store_blk rfl rfl 28 (.tmp 4) (.tmp 74) rfl (w.heap.size + 1) #[.int .i64 0, .string ⟨#[]⟩, .int .i64 0, .int .i64 0, .slice none 0 0] (by kernel_rfl) (by kernel_rfl) _ _ bR6.out 5 ex_isz rfl rfl (by simp [Value.oneCell']) ?_; intro w8 hB8 ho8; have r0 := hB8.cell 0; have r1 := hB8.cell 1; have r2 := hB8.cell 2; have r3 := hB8.cell 3; have r4 := hB8.cell 4; clear hB8; refine wpList_hide 4 ?_; intro a8 ha8 hd8; replace ha8 : a8.tmps[4]? = some (.pointer (some ⟨w.heap.size + 1, 0, none⟩)) := ha8.trans (by kernel_rfl)))
      refine bodyPost_ret (by simp [results, Tryd.results71, go_sem, ha8, r0, r1, r2, r3, r4]; try rfl) (hd8.trans rfl) ?_
      exact RxPost.err hE.out ShEx.zero (by decide) ⟨_, _, _, _, hb6.only ho8 (by omega)⟩ ((hM.tr (Mv.set ho6)).only ho8 (by omega)).chg
  | false =>
    cases hs2 : CL.sees 4 [42] s with
    | false =>
      as_aux_lemma =>
      have hE : R = .error (tp, 8) := by rw [← hR.out]; unfold CL.atomP; rw [hs, hs2, hT]; rfl
      replace hE := Lib.hid hE
      have HF := fun w' (hx : Ext w2 w') => reader.fail_c w' g _ _ _ _ tp 8 (HS.ext hx).blk
      rw [hs] at HI
      rw [hs2] at HI2
      go_wp2_with (first
        | (go_at_call 73; refine HI.mono ?_; rintro r w3 ⟨rfl, hx3⟩; clear HI)
        | (go_at_call 73; refine (HI2 _ hx3).mono ?_; rintro r w4 ⟨rfl, hx4⟩; have t3 := (bT1.ext (hx3.tr hx4)).cell 3; simp only [List.getElem?_toArray, List.getElem?_cons_succ, List.getElem?_cons_zero] at t3)
        | (go_at_call 40; refine (HF _ (hx3.tr hx4)).mono ?_; rintro r w6 ⟨rfl, hb6, ho6⟩; have bR6 := Lib.hid ((bR.ext (hx3.tr hx4)).only ho6 (by omega)))
        | (with_reducible refine is_store 28 (.tmp 4) (.tmp 34) rfl ?_; refine wpList_store_blk rfl rfl 28 (.tmp 4) (.tmp 34) rfl (w.heap.size + 1) #[.int .i64 0, .string ⟨#[]⟩, .int .i64 0, .int .i64 0, .slice none 0 0] (by kernel_rfl) (by kernel_rfl) _ _ bR6.out 5 ex_isz rfl rfl (by simp [Value.oneCell']) ?_; intro w8 hB8 ho8; have r0 := hB8.cell 0; have r1 := hB8.cell 1; have r2 := hB8.cell 2; have r3 := hB8.cell 3; have r4 := hB8.cell 4; clear hB8; refine wpList_hide 4 ?_; intro a8 ha8 hd8; replace ha8 : a8.tmps[4]? = some (.pointer (some ⟨w.heap.size + 1, 0, none⟩)) := ha8.trans (by kernel_rfl)))
      refine bodyPost_ret (by simp [results, Tryd.results71, go_sem, ha8, r0, r1, r2, r3, r4]; try rfl) (hd8.trans rfl) ?_
      exact RxPost.err hE.out ShEx.zero (by decide) ⟨_, _, _, _, hb6.only ho8 (by omega)⟩ (((hM.tr (Mv.of_ext (hx3.tr hx4))).tr (Mv.set ho6)).only ho8 (by omega)).chg
    | true =>
      as_aux_lemma =>
      have hk5 : s.hd.kind ≠ 5 := hS5 hs2 (by decide)
      have htx : tt = [42] := by simp only [CL.sees, decide_eq_true_eq, hT] at hs2; exact hs2.2
      subst htx
      rw [hs] at HI
      rw [hs2] at HI2
      clear hS5
      go_wp2_with (first
        | (go_at_call 73; refine HI.mono ?_; rintro r w0 ⟨rfl, hx0⟩; clear HI)
        | (go_at_call 73; refine (HI2 _ hx0).mono ?_; rintro r w3 ⟨rfl, hx3⟩; replace hx3 := hx0.tr hx3; clear hx0 HI2; have HS3 := HS.ext hx3; have e1 : w3.cell? ⟨g, 1, none⟩ = some (.int .i64 k) := HS3.blk.cell 1; have f1 := HS3.blk.frozen 1; have HS3 := Lib.hid HS3))
      obtain ⟨hN, hMN⟩ := HS3.out.next_of hk5
      replace hMN := (Mv.of_ext (g := g) (v := v) hx3).tr hMN
      replace bN := bN.mv hMN (by omega) (HY _ (by omega))
      replace bR := bR.mv hMN (by omega) (HY _ (by omega))
      replace bA := bA.mv hMN (by omega) (HY _ (by omega))
      replace bT1 := bT1.mv hMN (by omega) (HY _ (by omega))
      replace hM := hM.tr hMN
      clear HS3 e1 f1 HS hx3 hMN g1
      generalize w3.setCell ⟨g, 1, none⟩ (.int .i64 ((k : Int) + 1)) = w4 at *
      obtain ⟨k1, hk1⟩ : ∃ k1, k + 1 = k1 := ⟨_, rfl⟩
      rw [hk1] at hN
      obtain ⟨uk, ut, un, up, hU⟩ : ∃ uk ut un up, s.next.hd = (⟨uk, ut, un, up⟩ : CL.Tk) := ⟨_, _, _, _, rfl⟩
      have hq12 := bT1.lt
      obtain ⟨hb2, c0, c1, c2, c3⟩ := hN.cellsAt
      rw [hU] at c0 c1 c2 c3
      simp only at c0 c1 c2 c3
      have e0 : w4.cell? ⟨g, 0, none⟩ = some (.slice (some ⟨b, o, none⟩) all.length c) := hN.blk.cell 0
      have e1 : w4.cell? ⟨g, 1, none⟩ = some (.int .i64 (k1 : Int)) := hN.blk.cell 1
      have hkl2 := hN.hk
      have hne : g ≠ w4.heap.size := (by have := hN.blk.lt; omega)
      have hne2 : b ≠ w4.heap.size := (by have := hN.blk.lt; have := hN.Bg; omega)
      have hki : (k1 : Int) < (all.length : Int) := by omega
      have hx2 := (Ext.new w4 (.cells #[.int .i64 uk, .string ⟨ut.toArray⟩, .int .i64 un, .int .i64 up] 52)).tr (Ext.drawn _)
      have bT2 := (Blk.new w4 52 #[.int .i64 uk, .string ⟨ut.toArray⟩, .int .i64 un, .int .i64 up]).ext (Ext.drawn _)
      have y0 := fun ob => (Ext.new w4 ob).cell c0
      have y1 := fun ob => (Ext.new w4 ob).cell c1
      have y2 := fun ob => (Ext.new w4 ob).cell c2
      have y3 := fun ob => (Ext.new w4 ob).cell c3
      have z0 := fun ob => (Ext.new w4 ob).cell e0
      have z1 := fun ob => (Ext.new w4 ob).cell e1
      replace hN := Lib.hid (hN.ext hx2)
      replace bN := bN.ext hx2
      replace bR := bR.ext hx2
      replace bA := bA.ext hx2
      replace hM := Lib.hid (hM.tr (Mv.of_ext hx2))
      have bN := Lib.hid bN
      have bR := Lib.hid bR
      have bA := Lib.hid bA
      have bT2 := Lib.hid bT2
      replace bT1 := Lib.hid (bT1.ext hx2)
      go_region
      replace bT1 := bT1.out
      replace hN := hN.out
      replace bN := bN.out
      replace bR := bR.out
      replace bA := bA.out
      replace bT2 := bT2.out
      replace hM := hM.out
      clear y0 y1 y2 y3 z0 z1 c0 c1 c2 c3 e0 e1 hx2 hne hne2 hki
      generalize (w4.alloc (.cells #[.int .i64 uk, .string ⟨ut.toArray⟩, .int .i64 un, .int .i64 up] 52)).drew = w5 at *
      generalize w4.heap.size = q2 at *

      have t1 := bT1.cell 1
      have u0 := bT2.cell 0
      have u2 := bT2.cell 2
      have u3 := bT2.cell 3
      simp only [List.getElem?_toArray, List.getElem?_cons_succ, List.getElem?_cons_zero] at t1 u0 u2 u3
      by_cases h2 : uk = 3
      · subst h2
        as_aux_lemma =>
        by_cases h3 : un < 1 ∨ 8 < un
        · as_aux_lemma =>
          have hE : R = .error (up, 12) := by rw [← hR.out]; unfold CL.atomP; rw [hs, hs2, hU]; simp only [if_true, Bool.false_eq_true, if_false]; exact if_pos h3
          replace hE := Lib.hid hE
          have hc : un < 1 ∨ (decide (un < 1) = false ∧ 8 < un) := by
            by_cases h1 : un < 1
            · exact .inl h1
            · exact .inr ⟨by simpa using h1, by omega⟩
          have n1 : q2 ≠ g := (by omega)
          have n2 : w.heap.size + 1 + 1 + 1 ≠ g := (by omega)
          have n3 : w.heap.size + 1 + 1 ≠ g := (by omega)
          have n4 : q2 ≠ w.heap.size + 1 + 1 := (by omega)
          have n5 : g ≠ w.heap.size + 1 + 1 := (by omega)
          have n6 : g ≠ q2 := (by omega)
          have e1 : w5.cell? ⟨g, 1, none⟩ = some (.int .i64 k1) := hN.blk.cell 1
          have f1 := hN.blk.frozen 1
          have g2 : IntKind.i64.wrap ((k1 : Int) + 1) = (k1 : Int) + 1 := IntWalk.i64_in _ (by omega)
          have a0 := bA.cell 0
          have a1 := bA.cell 1
          have a2 := bA.cell 2
          have af1 := bA.frozen 1
          have af2 := bA.frozen 2
          simp only [List.getElem?_toArray, List.getElem?_cons_succ, List.getElem?_cons_zero] at a0 a1 a2
          obtain ⟨hN2, hM2⟩ := hN.next_of (by rw [hU]; simp)
          replace hM2 := hM.tr hM2
          have HF := reader.fail_c _ g _ _ _ _ up 12 (hN2.blk.setNe (q := w.heap.size + 1 + 1) (by omega) 2 (.int .i64 un))
          have hM3 := hM2.only (Only.rf.set (g := w.heap.size + 1 + 1) 2 (.int .i64 un)) (by omega)
          have bR3 := (bR.setNe (q := g) (by omega) 1 (.int .i64 ((k1 : Int) + 1))).setNe (q := w.heap.size + 1 + 1) (by omega) 2 (.int .i64 un)
          have hM3 := Lib.hid hM3
          clear h3 hN hN2 hM2 hM bR
          rcases hc with hc | ⟨hc1, hc2⟩
          all_goals
            go_wp2_with (first
              | (go_at_call 40; refine HF.mono ?_; rintro r w6 ⟨rfl, hb6, ho6⟩; have bR6 := Lib.hid (bR3.only ho6 (by omega)))
              | (with_reducible refine is_store 28 (.tmp 4) (.tmp 105) rfl ?_; refine wpList_store_blk rfl rfl 28 (.tmp 4) (.tmp 105) rfl (w.heap.size + 1) #[.int .i64 0, .string ⟨#[]⟩, .int .i64 0, .int .i64 0, .slice none 0 0] (by kernel_rfl) (by kernel_rfl) _ _ bR6.out 5 ex_isz rfl rfl (by simp [Value.oneCell']) ?_; intro w8 hB8 ho8; have r0 := hB8.cell 0; have r1 := hB8.cell 1; have r2 := hB8.cell 2; have r3 := hB8.cell 3; have r4 := hB8.cell 4; clear hB8; refine wpList_hide 4 ?_; intro a8 ha8 hd8; replace ha8 : a8.tmps[4]? = some (.pointer (some ⟨w.heap.size + 1, 0, none⟩)) := ha8.trans (by kernel_rfl)))
            refine bodyPost_ret (by simp [results, Tryd.results71, go_sem, ha8, r0, r1, r2, r3, r4]; try rfl) (hd8.trans rfl) ?_
            exact RxPost.err hE.out ShEx.zero (by decide) ⟨_, _, _, _, hb6.only ho8 (by omega)⟩ ((hM3.out.tr (Mv.set ho6)).only ho8 (by omega)).chg
        · as_aux_lemma =>
          have hE : R = CL.addA ⟨nk, nt, nn, np⟩ ⟨nt, ⟨0, un⟩⟩ s.next.next := by rw [← hR.out]; unfold CL.atomP; rw [hs, hs2, hU]; simp only [if_true, Bool.false_eq_true, if_false]; exact if_neg h3
          replace hE := Lib.hid hE
          have h3a : decide (un < 1) = false := by simp; omega
          have h3b : decide (8 < un) = false := by simp; omega
          clear h3
          have n1 : q2 ≠ g := (by omega)
          have n2 : w.heap.size + 1 + 1 + 1 ≠ g := (by omega)
          have n3 : w.heap.size + 1 + 1 ≠ g := (by omega)
          have n4 : q2 ≠ w.heap.size + 1 + 1 := (by omega)
          have n5 : g ≠ w.heap.size + 1 + 1 := (by omega)
          have n6 : g ≠ q2 := (by omega)
          have e1 : w5.cell? ⟨g, 1, none⟩ = some (.int .i64 k1) := hN.blk.cell 1
          have f1 := hN.blk.frozen 1
          have g2 : IntKind.i64.wrap ((k1 : Int) + 1) = (k1 : Int) + 1 := IntWalk.i64_in _ (by omega)
          have a0 := bA.cell 0
          have a1 := bA.cell 1
          have a2 := bA.cell 2
          have af1 := bA.frozen 1
          have af2 := bA.frozen 2
          simp only [List.getElem?_toArray, List.getElem?_cons_succ, List.getElem?_cons_zero] at a0 a1 a2
          obtain ⟨hN2, hM2⟩ := hN.next_of (by rw [hU]; simp)
          replace hM2 := hM.tr hM2
          go_wp2_with fail
          have hp3 := hN2.only (p := w.heap.size + 1 + 1) (HY _ (by omega)) (by omega) (by omega) (Only.rf.set (g := w.heap.size + 1 + 1) 2 (.int .i64 un))
          have hM3 := hM2.only (p := w.heap.size + 1 + 1) (Only.rf.set (g := w.heap.size + 1 + 1) 2 (.int .i64 un)) (by omega)
          have bA3 := (bA.setNe (q := g) (by omega) 1 (.int .i64 ((k1 : Int) + 1))).set 2 (.int .i64 un)
          have bR3 := (bR.setNe (q := g) (by omega) 1 (.int .i64 ((k1 : Int) + 1))).setNe (q := w.heap.size + 1 + 1) (by omega) 2 (.int .i64 un)
          have bN3 := (bN.setNe (q := g) (by omega) 1 (.int .i64 ((k1 : Int) + 1))).setNe (q := w.heap.size + 1 + 1) (by omega) 2 (.int .i64 un)
          clear n1 n2 n3 n4 n5 n6 hN hN2 hM hM2 bA bR bN bT1 bT2 t1 u0 u2 u3 e1 f1 a0 a1 a2 af1 af2 g2
          generalize ((w5.setCell ⟨g, 1, none⟩ (.int .i64 ((k1 : Int) + 1))).setCell ⟨w.heap.size + 1 + 1, 2, none⟩ (.int .i64 un)) = w6 at *
          generalize s.next.next = s2 at *
          have HOWN := Lib.hid hp3.own
          have hown := hp3.own
          obtain ⟨A1, c1, rfl, hc1, hc2⟩ := own_form hown
          have hr := Sits.of_own hown
          have hq := at_eql
          have hgd := at_guard
          have HZ := Lib.hid (NoteTo.zero s2.l ⟨nt, ⟨0, un⟩⟩)
          have hl8 := hp3.l8
          have hng := hp3.ne
          clear hc1 hc2 hs hT hU hR
          as_aux_lemma =>
          go_loopw [8] (fun i wr => ∃ j : Nat, j ≤ s2.l.length ∧ i = .int .i64 j ∧ Ext w6 wr ∧ Hid (NoteTo s2.l ⟨nt, ⟨0, un⟩⟩ j)) (fun i _ => s2.l.length - (intOf i).toNat)
          case atStart => exact ⟨0, by omega, rfl, Ext.rfl', HZ⟩
          case round =>
            obtain ⟨j, hj, rfl, hx, HJ⟩ := hrel
            have bAr := bA3.ext hx
            have bNr := bN3.ext hx
            have bRr := bR3.ext hx
            have HSr := hp3.ext hx
            replace hx := Lib.hid hx
            have a0 := bAr.cell 0
            have a1 := bAr.cell 1
            have a2 := bAr.cell 2
            have n3 := bNr.cell 3
            simp at a0 a1 a2
            simp only [List.getElem?_toArray, List.getElem?_cons_succ, List.getElem?_cons_zero] at n3
            have x3 : wr.cell? ⟨g, 3, none⟩ = some (.slice A1 s2.l.length c1) := HSr.blk.cell 3
            by_cases hlt2 : j < s2.l.length
            · obtain ⟨b2, p2, rfl, d0, d1, d2⟩ := (hr.ext hx.out).atoms hlt2
              have H1 := Lib.hid (HJ.out.hit hlt2)
              have H2 := Lib.hid (HJ.out.name hlt2)
              have H3 := Lib.hid (HJ.out.step hlt2)
              have hji : (j : Int) < (s2.l.length : Int) := by omega
              generalize s2.l[j] = x at *
              obtain ⟨xn, xm, xu⟩ := x
              simp only at d0 d1 d2
              by_cases heq : xn = nt ∧ xm = 0 ∧ xu = un
              · as_aux_lemma =>
                have hq1 := fun W => (at_eql xn nt xm xu 0 un W).trans (by rw [show decide ((⟨xn, ⟨xm, xu⟩⟩ : CL.At) = ⟨nt, ⟨0, un⟩⟩) = true by simpa using heq])
                have hnote := H1.out (by simpa using ⟨heq.1.symm, heq.2.1.symm, heq.2.2.symm⟩)
                have hE2 : R = .ok (.mk 0 ⟨nt, ⟨0, un⟩⟩ [], s2) := by rw [hE.out]; unfold CL.addA; rw [hnote]; exact if_pos rfl
                replace hE2 := Lib.hid hE2
                clear heq hq H1 H2 H3 hnote
                have bRr := Lib.hid (bRr.ext (Ext.drawn _))
                go_wp2_with fail
                go_region
                go_wp2_with (with_reducible refine is_store 28 (.tmp 4) (.tmp 125) rfl ?_; refine wpList_store_blk rfl rfl 28 (.tmp 4) (.tmp 125) rfl (w.heap.size + 1) #[.int .i64 0, .string ⟨nt.toArray⟩, .int .i64 0, .int .i64 un, .slice none 0 0] (by kernel_rfl) (by kernel_rfl) _ _ bRr.out 5 ex_isz rfl rfl (by simp [Value.oneCell']) ?_; intro w8 hB8 ho8; have r0 := hB8.cell 0; have r1 := hB8.cell 1; have r2 := hB8.cell 2; have r3 := hB8.cell 3; have r4 := hB8.cell 4; clear hB8; refine wpList_hide 4 ?_; intro a8 ha8 hd8; replace ha8 : a8.tmps[4]? = some (.pointer (some ⟨w.heap.size + 1, 0, none⟩)) := ha8.trans (by kernel_rfl))
                refine bodyPost_ret (by simp [results, Tryd.results71, go_sem, ha8, r0, r1, r2, r3, r4]; try rfl) (hd8.trans rfl) ?_
                rw [hE2.out]
                have HSd := HSr.ext (Ext.drawn wr)
                have hMd := hM3.tr (Mv.of_ext (hx.out.tr (Ext.drawn wr)))
                have HS8 := HSd.only (HY (w.heap.size + 1) (by omega)) (by omega) (by omega) ho8
                have hM8 := hMd.only ho8 (by omega)
                exact ⟨[.int .i64 0, .string ⟨nt.toArray⟩, .int .i64 0, .int .i64 un, .slice none 0 0], _, k1 + 1, rfl, HS8, hM8, RdF.leaf w8 w.heap.size w8.heap.size _ 0 ⟨nt, ⟨0, un⟩⟩ hn⟩
              · as_aux_lemma =>
                have hq1 := fun W => (at_eql xn nt xm xu 0 un W).trans (by rw [show decide ((⟨xn, ⟨xm, xu⟩⟩ : CL.At) = ⟨nt, ⟨0, un⟩⟩) = false by simpa using heq])
                have hne2 : ¬ ((⟨nt, ⟨0, un⟩⟩ : CL.At) = ⟨xn, ⟨xm, xu⟩⟩) := by
                  intro h; apply heq; injection h with h1 h2; injection h2 with h2 h3; exact ⟨h1.symm, h2.symm, h3.symm⟩
                by_cases hnm : xn = nt
                · have hnote := H2.out hne2 hnm.symm
                  have hE2 : R = .error (np, 13) := by rw [hE.out]; unfold CL.addA; rw [hnote]; exact if_neg (by simp)
                  replace hE2 := Lib.hid hE2
                  subst hnm
                  clear heq hq H1 H2 H3 hnote hne2
                  have HF := reader.fail_c wr.drew.drew g _ _ _ _ np 13 (HSr.ext ((Ext.drawn wr).tr (Ext.drawn _))).blk
                  replace HF := Lib.hid HF
                  replace bRr := Lib.hid (bRr.ext ((Ext.drawn wr).tr (Ext.drawn _)))
                  go_wp2_with fail
                  go_region
                  go_wp2_with fail
                  go_region
                  go_wp2_with fail
                  refine HF.out.mono ?_
                  rintro r w7 ⟨rfl, hb7, ho7⟩
                  have bR7 := Lib.hid (bRr.out.only ho7 (by omega))
                  go_wp2_with (with_reducible refine is_store 28 (.tmp 4) (.tmp 141) rfl ?_; refine wpList_store_blk rfl rfl 28 (.tmp 4) (.tmp 141) rfl (w.heap.size + 1) #[.int .i64 0, .string ⟨#[]⟩, .int .i64 0, .int .i64 0, .slice none 0 0] (by kernel_rfl) (by kernel_rfl) _ _ bR7.out 5 ex_isz rfl rfl (by simp [Value.oneCell']) ?_; intro w8 hB8 ho8; have r0 := hB8.cell 0; have r1 := hB8.cell 1; have r2 := hB8.cell 2; have r3 := hB8.cell 3; have r4 := hB8.cell 4; clear hB8; refine wpList_hide 4 ?_; intro a8 ha8 hd8; replace ha8 : a8.tmps[4]? = some (.pointer (some ⟨w.heap.size + 1, 0, none⟩)) := ha8.trans (by kernel_rfl))
                  refine bodyPost_ret (by simp [results, Tryd.results71, go_sem, ha8, r0, r1, r2, r3, r4]; try rfl) (hd8.trans rfl) ?_
                  exact RxPost.err hE2.out ShEx.zero (by decide) ⟨_, _, _, _, hb7.only ho8 (by omega)⟩ (((hM3.tr (Mv.of_ext (hx.out.tr ((Ext.drawn wr).tr (Ext.drawn _))))).tr (Mv.set ho7)).only ho8 (by omega)).chg
                · have hnm1 : (xn == nt) = false := by simpa using hnm
                  have HJ3 := Lib.hid (H3.out hne2 (fun e => hnm e.symm))
                  clear heq hq H1 H2 H3 hne2 hnm
                  go_wp2_with fail
                  go_region
                  go_wp2_with fail
                  go_region
                  go_wp2_with fail
                  exact ⟨⟨j + 1, by omega, by go_num, hx.out.tr ((Ext.drawn wr).tr (Ext.drawn _)), HJ3⟩, by simp [intOf]; omega⟩
            · as_aux_lemma =>
              have HD := Lib.hid (HJ.out.done (by omega))
              have hji : ¬ ((j : Int) < (s2.l.length : Int)) := by omega
              clear HJ
              by_cases h8 : s2.l.length = 8
              · as_aux_lemma =>
                have hE2 : R = .error (np, 4) := by rw [hE.out]; unfold CL.addA; rw [HD.out, if_pos h8]; exact if_neg (by simp)
                replace hE2 := Lib.hid hE2
                have h8' : ((s2.l.length : Int) == 8) = true := by simp [h8]
                have HF := reader.fail_c wr g _ _ _ _ np 4 HSr.blk
                replace HF := Lib.hid HF
                replace bRr := Lib.hid bRr
                clear HD h8 hq
                go_wp2_with (first
                  | (go_at_call 40; refine HF.out.mono ?_; rintro r w7 ⟨rfl, hb7, ho7⟩; have bR7 := Lib.hid (bRr.out.only ho7 (by omega)))
                  | (with_reducible refine is_store 28 (.tmp 4) (.tmp 152) rfl ?_; refine wpList_store_blk rfl rfl 28 (.tmp 4) (.tmp 152) rfl (w.heap.size + 1) #[.int .i64 0, .string ⟨#[]⟩, .int .i64 0, .int .i64 0, .slice none 0 0] (by kernel_rfl) (by kernel_rfl) _ _ bR7.out 5 ex_isz rfl rfl (by simp [Value.oneCell']) ?_; intro w8 hB8 ho8; have r0 := hB8.cell 0; have r1 := hB8.cell 1; have r2 := hB8.cell 2; have r3 := hB8.cell 3; have r4 := hB8.cell 4; clear hB8; refine wpList_hide 4 ?_; intro a8 ha8 hd8; replace ha8 : a8.tmps[4]? = some (.pointer (some ⟨w.heap.size + 1, 0, none⟩)) := ha8.trans (by kernel_rfl)))
                refine bodyPost_ret (by simp [results, Tryd.results71, go_sem, ha8, r0, r1, r2, r3, r4]; try rfl) (hd8.trans rfl) ?_
                exact RxPost.err hE2.out ShEx.zero (by decide) ⟨_, _, _, _, hb7.only ho8 (by omega)⟩ (((hM3.tr (Mv.of_ext hx.out)).tr (Mv.set ho7)).only ho8 (by omega)).chg
              · as_aux_lemma =>
                have hE2 : R = .ok (.mk 0 ⟨nt, ⟨0, un⟩⟩ [], ⟨s2.n, (CL.note s2.l ⟨nt, ⟨0, un⟩⟩).2, s2.r⟩) := by rw [hE.out]; unfold CL.addA; rw [HD.out, if_neg h8]; exact if_pos rfl
                replace hE2 := Lib.hid hE2
                have hn2 := Lib.hid (HD.out.trans (if_neg h8))
                have h8' : ((s2.l.length : Int) == 8) = false := beq_eq_false_iff_ne.2 (by omega)
                clear HD h8 hq
                go_wp2_with fail
                have hownr := HSr.own
                have f1 := HSr.blk.frozen 3
                have hzr := HSr.bs
                have n1 : some g ≠ (Value.slice A1 s2.l.length c1).ownBlock := hng
                have nR : some (w.heap.size + 1) ≠ (Value.slice A1 s2.l.length c1).ownBlock := fun e => HY _ (by omega) e.symm
                have nA : some (w.heap.size + 1 + 1) ≠ (Value.slice A1 s2.l.length c1).ownBlock := fun e => HY _ (by omega) e.symm
                have hne3 : g ≠ wr.heap.size := by have := HSr.blk.lt; omega
                have x1 : (wr.alloc (.cells #[.string ⟨nt.toArray⟩, .int .i64 0, .int .i64 un] 25)).cell? ⟨g, 3, none⟩ = some (.slice A1 s2.l.length c1) := (HSr.blk.alloc _).cell 3
                have HRB := Lib.hid HSr.blk
                replace HSr := Lib.hid HSr
                replace bRr := Lib.hid bRr
                replace bAr := Lib.hid bAr
                go_region_law
                  ((refine step_append_row _ (by rfl) _ _ _ (by rfl) base 25 3 32 _ Tryd.underlying60 at_info rfl (by omega) (.slice A1 s2.l.length c1) s2.l.length (ats s2.l) (by rfl) ((hownr.alloc _).drew) _ _ _ [.string ⟨nt.toArray⟩, .int .i64 0, .int .i64 un] (by rfl) (by rfl) (Sits.drew (Sits.new _ _ _)) (by simp [Value.oneCell']) (by simp only [maxLen]; omega) (by omega) (by simp; omega) ?_; intro v3 w3 hown3 hb3 hg3 hrow3; obtain ⟨A3, c3, rfl, hc3, hc4⟩ := own_form hown3; have e3 : w3.cell? ⟨g, 3, none⟩ = some (.slice A1 s2.l.length c1) := hg3.cell x1 n1; have f3 : w3.frozen? ⟨g, 3, none⟩ = false := hg3.frozenB (HRB.out.alloc _) n1 3))
                all_goals as_aux_lemma =>
                  have hb4 := hg3.blk (HRB.out.alloc _) n1
                  have bR4 := hg3.blk (bRr.out.alloc _) nR
                  have bA4 := hg3.blk (bAr.out.alloc _) nA
                  have a0 := bA4.cell 0
                  have a1 := bA4.cell 1
                  have a2 := bA4.cell 2
                  simp at a0 a1 a2
                  have bR5 := Lib.hid (bR4.setNe (q := g) (by omega) 3 (.slice A3 (s2.l.length + 1) c3))
                  have n3 : w.heap.size + 1 + 1 ≠ g := (by omega)
                  have n5 : g ≠ w.heap.size + 1 + 1 := (by omega)
                  replace hb4 := Lib.hid hb4
                  replace hg3 := Lib.hid hg3
                  replace hown3 := Lib.hid hown3
                  replace hrow3 := Lib.hid hrow3
                  clear hb3 bR4 bA4
                  go_wp2_with (with_reducible refine is_store 28 (.tmp 4) (.tmp 164) rfl ?_; refine wpList_store_blk rfl rfl 28 (.tmp 4) (.tmp 164) rfl (w.heap.size + 1) #[.int .i64 0, .string ⟨nt.toArray⟩, .int .i64 0, .int .i64 un, .slice none 0 0] (by kernel_rfl) (by kernel_rfl) _ _ bR5.out 5 ex_isz rfl rfl (by simp [Value.oneCell']) ?_; intro w8 hB8 ho8; have r0 := hB8.cell 0; have r1 := hB8.cell 1; have r2 := hB8.cell 2; have r3 := hB8.cell 3; have r4 := hB8.cell 4; clear hB8; refine wpList_hide 4 ?_; intro a8 ha8 hd8; replace ha8 : a8.tmps[4]? = some (.pointer (some ⟨w.heap.size + 1, 0, none⟩)) := ha8.trans (by kernel_rfl))
                  refine bodyPost_ret (by simp [results, Tryd.results71, go_sem, ha8, r0, r1, r2, r3, r4]; try rfl) (hd8.trans rfl) ?_
                  have hp : NotePost ⟨nt, ⟨0, un⟩⟩ s2.l w6 g 3 base 76 #[.slice (some ⟨b, o, none⟩) all.length c, .int .i64 ((k1 + 1 : Nat) : Int), .int .i64 s2.n, .slice A1 s2.l.length c1, .int .i64 0, .int .i64 0] (.slice A1 s2.l.length c1) (.returned (.int .i64 (CL.note s2.l ⟨nt, ⟨0, un⟩⟩).1)) (w3.setCell ⟨g, 3, none⟩ (.slice A3 (s2.l.length + 1) c3)) := by
                    refine ⟨rfl, .slice A3 (s2.l.length + 1) c3, hb4.out.set 3 _, ?_, ?_, ?_⟩
                    · rw [hn2.out, ats_snoc, List.length_append]
                      exact own_only hown3.out (Only.rf.set 3 _) (own_ne hown3.out hb4.out (by decide))
                    · have k1 : Rl.Chg (fun b => b = g ∨ (Value.slice A1 s2.l.length c1).ownBlock = some b) w6 w3 := Chg.tr (Rl.Chg.of_ext (hx.out.tr ((Ext.new _ _).tr (Ext.drawn _)))) (Rl.Chg.of_grown (E := fun b => b = g ∨ (Value.slice A1 s2.l.length c1).ownBlock = some b) hg3.out (fun x e => Or.inr e)) (fun i hi => Or.inl hi)
                      exact Chg.tr k1 (Rl.Chg.of_grown (E := fun b => b = g) (r := some g) (Only.rf.set 3 _) (fun x e => by injection e with e; exact e.symm)) (fun i hi => Or.inl (Or.inl hi))
                    · rcases hrow3.out with e | e
                      · exact Or.inl e
                      · refine Or.inr ⟨_, e, ?_⟩
                        have := hx.out.size
                        simp; omega
                  obtain ⟨_, v5, HS5, hM5⟩ := hp3.note hp
                  have HS8 := HS5.only (own_ne HS5.own bR5.out (by decide)) (by omega) (by omega) ho8
                  have hM8 := (hM3.tr hM5).only ho8 (by omega)
                  rw [hE2.out]
                  exact ⟨[.int .i64 0, .string ⟨nt.toArray⟩, .int .i64 0, .int .i64 un, .slice none 0 0], v5, k1 + 1, rfl, HS8, hM8, RdF.leaf w8 w.heap.size w8.heap.size _ 0 ⟨nt, ⟨0, un⟩⟩ hn⟩
      · as_aux_lemma =>
        have hE : R = .error (up, 8) := by rw [← hR.out]; unfold CL.atomP; rw [hs, hs2, hU]; simp only [if_true, Bool.false_eq_true, if_false]; exact if_neg h2
        replace hE := Lib.hid hE
        have hk2 : (uk == 3) = false := by simpa using h2
        have HF := reader.fail_c w5 g _ _ _ _ up 8 hN.blk
        go_wp2_with (first
          | (go_at_call 40; refine HF.mono ?_; rintro r w6 ⟨rfl, hb6, ho6⟩; have bR6 := Lib.hid (bR.only ho6 (by omega)))
          | (with_reducible refine is_store 28 (.tmp 4) (.tmp 74) rfl ?_; refine wpList_store_blk rfl rfl 28 (.tmp 4) (.tmp 74) rfl (w.heap.size + 1) #[.int .i64 0, .string ⟨#[]⟩, .int .i64 0, .int .i64 0, .slice none 0 0] (by kernel_rfl) (by kernel_rfl) _ _ bR6.out 5 ex_isz rfl rfl (by simp [Value.oneCell']) ?_; intro w8 hB8 ho8; have r0 := hB8.cell 0; have r1 := hB8.cell 1; have r2 := hB8.cell 2; have r3 := hB8.cell 3; have r4 := hB8.cell 4; clear hB8; refine wpList_hide 4 ?_; intro a8 ha8 hd8; replace ha8 : a8.tmps[4]? = some (.pointer (some ⟨w.heap.size + 1, 0, none⟩)) := ha8.trans (by kernel_rfl)))
        refine bodyPost_ret (by simp [results, Tryd.results71, go_sem, ha8, r0, r1, r2, r3, r4]; try rfl) (hd8.trans rfl) ?_
        exact RxPost.err hE.out ShEx.zero (by decide) ⟨_, _, _, _, hb6.only ho8 (by omega)⟩ ((hM.tr (Mv.set ho6)).only ho8 (by omega)).chg
end Go.Proofs.YtlfnpkjfnafeaaaDoor

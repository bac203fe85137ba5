
/- The statements about expressions (chapter 8): the walks of FormulaAtoms, FormulaHopeless. -/
import Derived.Test.YtmboojbhnmdnkaaLaw08
import Derived.Deep.DrawnRows
namespace Go.Proofs.Ytmboojbhnmdnkaa
open Go.RowKit
set_option linter.unusedVariables false
attribute [local go_sem ↓] Go.wp_at_zero Go.wp_at_succ
theorem cells5 {w w' : World} {g : Nat} {v0 v1 v2 v3 v4 : Value} (h : w.cell? ⟨g, 0, none⟩ = some v0 ∧ w.cell? ⟨g, 1, none⟩ = some v1 ∧ w.cell? ⟨g, 2, none⟩ = some v2 ∧ w.cell? ⟨g, 3, none⟩ = some v3 ∧ w.cell? ⟨g, 4, none⟩ = some v4) (hx : Ext w w') :
    w'.cell? ⟨g, 0, none⟩ = some v0 ∧ w'.cell? ⟨g, 1, none⟩ = some v1 ∧ w'.cell? ⟨g, 2, none⟩ = some v2 ∧ w'.cell? ⟨g, 3, none⟩ = some v3 ∧ w'.cell? ⟨g, 4, none⟩ = some v4 :=
  ⟨hx.cell h.1, hx.cell h.2.1, hx.cell h.2.2.1, hx.cell h.2.2.2.1, hx.cell h.2.2.2.2⟩
set_option maxHeartbeats 1600000 in
theorem FormulaAtoms_w (e : CL.Ex) (cs : List Value) (w : World) (hR : Rd w w.heap.size e cs) :
    Calls Try.prog 3 #[.agg cs.toArray] w fun r w' => r = .returned (.bool true) ∧ Ext w w' := by
  obtain ⟨k, s, m, u, A1, l1, c1, rfl⟩ := hR.shape
  obtain ⟨bE, hx0⟩ := box1 w #[.int .i64 k, .string s, .int .i64 m, .int .i64 u, .slice A1 l1 c1] 28
  have hz0 := hx0.size
  have hl8 := atoms_len e
  have hg := at_guard
  go_enter Try.func3, Try.ntmps3
  go_wp2_with fail
  generalize (w.alloc (.cells #[.int .i64 k, .string s, .int .i64 m, .int .i64 u, .slice A1 l1 c1] 28)) = W at *
  have hc := bE.c5
  have HC := Lib.hid hc
  obtain ⟨e0, e1, e2, e3, e4⟩ := hc
  have HRW := Lib.hid (hR.ext hx0 (Nat.le_refl _))
  have hx1 : Ext W W.drew := Ext.drawn W
  go_region_held3 (fun w' => w'.cell? ⟨w.heap.size, 0, none⟩ = some (.int .i64 k) ∧ w'.cell? ⟨w.heap.size, 1, none⟩ = some (.string s) ∧ w'.cell? ⟨w.heap.size, 2, none⟩ = some (.int .i64 m) ∧ w'.cell? ⟨w.heap.size, 3, none⟩ = some (.int .i64 u) ∧ w'.cell? ⟨w.heap.size, 4, none⟩ = some (.slice A1 l1 c1))
    (first | go_keep | exact cells5 HC.out hx1)
    (first
      | (go_at_call 13; refine (formula.Atoms_c e _ w.heap.size _ (HRW.out.ext hx1 hz0) (by have := hx1.size; omega)).mono ?_; intro r w1 hp; obtain ⟨A2, c2, rfl, hr2, hy2⟩ := hp.get; replace hx1 := Ext.tr hx1 hy2; first | (have hr3' := hr3.ext hy2) | skip)
      | (go_at_call 14; refine (clusterlocksref08.Atoms_c e _ w.heap.size _ (HRW.out.ext hx1 hz0) (by have := hx1.size; omega)).mono ?_; intro r w1 hp; obtain ⟨A3, c3, rfl, hr3, hy3⟩ := hp.get; replace hx1 := Ext.tr hx1 hy3; first | (have hr2' := hr2.ext hy3) | skip))
  have HR2 := Lib.hid hr2'
  have HR3 := Lib.hid hr3
  have hxw := hx0.tr hx1
  clear hr2' hr3 hr2 hy2 hy3 hp
  go_wp2_with (go_at_call 15; (with_reducible refine (awake8_c _).mono ?_); rintro r w3 ⟨rfl, hxa⟩)
  generalize CL.atoms e = L0 at *
  go_loopw [5] (fun i wr => ∃ j : Nat, j ≤ L0.length ∧ i = .int .i64 j ∧ Ext w1 wr) (fun i _ => L0.length - (intOf i).toNat)
  case atStart => exact ⟨0, by omega, rfl, hxa⟩
  case round =>
    obtain ⟨j, hj, rfl, hy⟩ := hrel
    by_cases hlt : j < L0.length
    · obtain ⟨b, o, rfl, c0, c1, c2⟩ := (HR2.out.ext hy).atoms hlt
      obtain ⟨b', o', rfl, d0, d1, d2⟩ := (HR3.out.ext hy).atoms hlt
      generalize L0[j] = x at *
      obtain ⟨xn, xm, xu⟩ := x
      simp only at c0 c1 c2 d0 d1 d2
      have q0 := ExtOf.cell c0
      have q1 := ExtOf.cell c1
      have q2 := ExtOf.cell c2
      have q3 := ExtOf.cell d0
      have q4 := ExtOf.cell d1
      have q5 := ExtOf.cell d2
      have hq := at_neq xn xn xm xu xm xu
      rw [decide_eq_true rfl] at hq
      clear c0 c1 c2 d0 d1 d2
      go_wp2_with fail
      refine wp_region_ext_lit (by kernel_rfl) (by kernel_rfl) ?_
      repeat (go_big_quiet_step (fail))
      refine wpQuiet_nil ?_
      intro wq hw'
      obtain ⟨⟨wq', hxq⟩, hw''⟩ := hw'
      subst hw''
      go_wp2
      exact ⟨⟨j + 1, by omega, by go_num, hy.tr hxq⟩, by simp [intOf]; omega⟩
    · go_wp2
      go_ret
      exact ⟨rfl, hxw.tr hy⟩
set_option maxHeartbeats 1600000 in
theorem FormulaHopeless_w (e : CL.Ex) (cs : List Value) (dead : List Bool) (S : Option Addr) (d : Nat) (w : World) (hR : Rd w w.heap.size e cs) (hs : dead.length ≤ maxLen) (hrs : Sits w S (bls dead)) :
    Calls Try.prog 6 #[.agg cs.toArray, .slice S dead.length d] w fun r w' => r = .returned (.bool true) ∧ Ext w w' := by
  obtain ⟨k, s, m, u, A1, l1, c1, rfl⟩ := hR.shape
  obtain ⟨bE, hx0⟩ := box1 w #[.int .i64 k, .string s, .int .i64 m, .int .i64 u, .slice A1 l1 c1] 28
  have hz0 := hx0.size
  have hl8 := atoms_len e
  have hs2 := hs
  unfold maxLen at hs2
  cases hv : CL.valid e
  · have HP := Lib.hid (show hpl e dead = false by simp [hpl, hv])
    have hpc := fun W B (h1 : Rd W B e [.int .i64 k, .string s, .int .i64 m, .int .i64 u, .slice A1 l1 c1]) (h2 : B ≤ W.heap.size) (h3 : Sits W S (bls dead)) => formula.Hopeless_c e dead S d hs W B _ h1 h2 h3
    rw [HP.out] at hpc
    have HPC := Lib.hid hpc
    clear hpc
    go_enter Try.func6, Try.ntmps6
    go_wp2_with (first
      | (go_at_call 23; (with_reducible refine (clusterlocksref07.ValidExpr_c e _ w.heap.size _ (hR.ext hx0 (Nat.le_refl _)) hz0).mono ?_); rintro r w1 ⟨rfl, hx⟩; have hz1 := hx.size)
      | (go_at_call 15; (with_reducible refine (awake8_c _).mono ?_); rintro r w2 ⟨rfl, hxa⟩; have hx2 := hx.tr hxa; obtain ⟨e0, e1, e2, e3, e4⟩ := (bE.ext hx2).c5; have hz2 := hx2.size)
      | (go_at_call 18; (with_reducible refine (HPC.out _ w.heap.size ((hR.ext hx0 (Nat.le_refl _)).ext hx2 hz0) (by omega) ((hrs.ext hx0).ext hx2)).mono ?_); rintro r w3 ⟨rfl, hx3⟩))
    go_ret
    exact ⟨rfl, hx0.tr (hx2.tr hx3)⟩
  · have HP := Lib.hid (show hpl e dead = !holdsE e (restOf (CL.atoms e).length dead) by simp [hpl, holdsE, hv])
    generalize hN : CL.atoms e = L0 at *
    have HN := Lib.hid hN
    clear hN
    have hmk := mk_bools L0.length (by omega)
    go_enter Try.func6, Try.ntmps6
    go_wp2_with (first
      | (go_at_call 23; (with_reducible refine (clusterlocksref07.ValidExpr_c e _ w.heap.size _ (hR.ext hx0 (Nat.le_refl _)) hz0).mono ?_); rintro r w1 ⟨rfl, hx⟩; have hz1 := hx.size; obtain ⟨e0, e1, e2, e3, e4⟩ := (bE.ext hx).c5)
      | (go_at_call 14; (with_reducible refine (clusterlocksref08.Atoms_c e _ w.heap.size _ ((hR.ext hx0 (Nat.le_refl _)).ext hx hz0) (by omega)).mono ?_); intro r w2 hp; rw [HN.out] at hp; obtain ⟨A3, c3, rfl, hr3, hy3⟩ := hp.get))
    have hxw' := Ext.tr hx hy3
    have hRw := (hR.ext hx0 (Nat.le_refl _)).ext hxw' hz0
    have hbE := bE.ext hxw'
    have hxw := hx0.tr hxw'
    have hrw := hrs.ext hxw
    have hgw : w.heap.size < w2.heap.size := hbE.lt
    clear hx hy3 hp hr3 hz1 e0 e1 e2 e3 e4 hx0 bE hmk
    generalize hn2 : L0.length = n at *
    have hbS := Blk.new w2 4 (bls (List.replicate n false)).toArray
    have hxS := Ext.new w2 (.cells (bls (List.replicate n false)).toArray 4)
    generalize hG : w2.heap.size = g at *
    generalize (w2.alloc (.cells (bls (List.replicate n false)).toArray 4)) = w3 at *
    have hrs3 := SitsB.of hrw
    rw [hG] at hrs3
    have hb3 : Below g w2 w3 := by have h := hxS; rw [← hG]; exact h
    clear hG hxS hrw
    go_loopw [7] (fun i wr => ∃ (j : Nat) (L : List Bool), j ≤ n ∧ i = .int .i64 j ∧ Below g w2 wr ∧ Blk wr g 4 (bls L).toArray ∧ Hid (Filled (fun i => !(dead.getD i false)) L n j)) (fun i _ => n - (intOf i).toNat)
    case atStart => exact ⟨0, _, by omega, rfl, hb3, hbS, Filled.zero _ _⟩
    case round =>
      obtain ⟨j, L, hj, rfl, ho, hb, HF⟩ := hrel
      have hL1 : L.length ≤ n := by rw [HF.out.1]; exact Nat.le_refl _
      have hL2 : n ≤ L.length := by rw [HF.out.1]; exact Nat.le_refl _
      have hsz := ho.size
      have hlt3 := hb.lt
      by_cases hlt : j < n
      · have hbs := hb.set j (.bool (!(dead.getD j false)))
        rw [bls_set] at hbs
        have s0 : wr.cell? ⟨g, j, none⟩ = some (.bool (L[j]'(by omega))) := by rw [hb.cell]; simp [bls, show j < L.length by omega]
        have z0 := hb.frozen j
        have hji : (j : Int) < (n : Int) := by omega
        by_cases hd : j < dead.length
        · have hgd : dead.getD j false = dead[j] := by simp [List.getD, hd]
          rw [hgd] at hbs
          obtain ⟨b, o, rfl, hc2⟩ := (hrs3.below ho).sits.bool hd
          have hjd : ¬ (dead.length : Int) ≤ (j : Int) := by omega
          have HF2 := Lib.hid HF.out.step
          rw [hgd] at HF2
          clear hgd
          go_wp2
          exact ⟨⟨j + 1, _, by omega, by go_num, ho.setCell (p := ⟨g, j, none⟩) (Nat.le_refl _) _, hbs, HF2⟩, by simp [intOf]; omega⟩
        · have hgd : dead.getD j false = false := by simp [List.getD, List.getElem?_eq_none (show dead.length ≤ j by omega)]
          rw [hgd] at hbs
          have hjd : (dead.length : Int) ≤ (j : Int) := by omega
          have HF2 := Lib.hid HF.out.step
          rw [hgd] at HF2
          clear hgd
          go_wp2
          exact ⟨⟨j + 1, _, by omega, by go_num, ho.setCell (p := ⟨g, j, none⟩) (Nat.le_refl _) _, hbs, HF2⟩, by simp [intOf]; omega⟩
      · have hL : L = restOf n dead := HF.out.done (by omega)
        have HLen := Lib.hid HF.out.1
        subst hL
        obtain ⟨e0, e1, e2, e3, e4⟩ := (hbE.below ho (by omega)).c5
        have q0 := ExtOf.cell e0
        have q1 := ExtOf.cell e1
        have q2 := ExtOf.cell e2
        have q3 := ExtOf.cell e3
        have q4 := ExtOf.cell e4
        have hBw : w.heap.size ≤ g := by omega
        have hbr : Ext w wr := hxw.trans (ho.mono hBw)
        have HR := Lib.hid (fun x : ExtOf wr => (hRw.kept (ho.mono hBw)).ext x.ext (by omega))
        have HZ := Lib.hid (fun x : ExtOf wr => Nat.le_trans (show w.heap.size ≤ wr.heap.size by omega) x.ext.size)
        have HS := Lib.hid (fun x : ExtOf wr => ((hrs3.below ho).sits).ext x.ext)
        have hsl : Sits wr (some ⟨g, 0, none⟩) (bls (restOf n dead)) := hb.sits
        have HL := Lib.hid (fun x : ExtOf wr => hsl.ext x.ext)
        have HHO := Lib.hid (show ∀ x : ExtOf wr, Calls Try.prog 16 #[.agg #[.int .i64 k, .string s, .int .i64 m, .int .i64 u, .slice A1 l1 c1], .slice (some ⟨g, 0, none⟩) n n] x.val fun r w' => r = .returned (.bool (holdsE e (restOf n dead))) ∧ Ext x.val w' by
          intro x
          have h := formula.Holds_c e (restOf n dead) (some ⟨g, 0, none⟩) n (by rw [HLen.out]; unfold maxLen; omega) x.val _ _ (HR.out x) (HZ.out x) (HL.out x)
          rw [HLen.out] at h
          exact h)
        have hpp : hpl e dead = !holdsE e (restOf n dead) := HP.out
        clear hsl hb hL1 hL2 e0 e1 e2 e3 e4
        go_wp2_with fail
        refine wp_region_ext_lit (by kernel_rfl) (by kernel_rfl) ?_
        repeat (go_big_quiet_step ((first
          | (go_at_call 15; exact xqX (awake8_c _))
          | (go_at_call 16; exact xqX (HHO.out _))
          | (go_at_call 18; exact xqX (formula.Hopeless_c e dead _ _ hs _ _ _ (HR.out _) (HZ.out _) (HS.out _))))))
        refine wpQuiet_nil ?_
        intro wq hw'
        obtain ⟨⟨wq', hxq⟩, hw''⟩ := hw'
        subst hw''
        go_wp2
        go_ret
        exact ⟨ret_bool (by cases holdsE e (restOf n dead) <;> rfl), hbr.tr hxq⟩
end Go.Proofs.Ytmboojbhnmdnkaa


/- FormulaMonotone: the walk of the law. -/
import Derived.Test.YtmboojbhnmdnkaaLaw08g
import Derived.Test.YtmboojbhnmdnkaaGq
namespace Go.Proofs.Ytmboojbhnmdnkaa
open Go.RowKit
set_option linter.unusedVariables false
set_option linter.unusedSimpArgs false
set_option maxHeartbeats 1600000 in
theorem FormulaMonotone_w (l : List Int) (A : Option Addr) (c : Nat) (w : World) (hl : l.length ≤ maxLen) (hr : Sits w A (ints l)) (set more : List Bool) (S1 S2 : Option Addr) (d1 d2 : Nat) (hs1 : set.length ≤ maxLen) (hs2 : more.length ≤ maxLen) (hr1 : Sits w S1 (bls set)) (hr2 : Sits w S2 (bls more)) :
    Calls Try.prog 5 #[.slice A l.length c, .slice S1 set.length d1, .slice S2 more.length d2] w fun r w' => r = .returned (.bool true) ∧ Ext w w' := by
  by_cases h3 : l.length ≤ 300
  · have HL := Lib.hid (fun w => (clusterlocksmill.Light_c l A c w))
    rw [decide_eq_true h3] at HL
    have hT := TapeAt.new (c := c) hl hr
    have hx0 := Ext.new w (.cells #[.slice A l.length c, .int .i64 0] 39)
    have hgl := hT.lt
    go_enter Try.func5, Try.ntmps5
    go_wp2_with (first
      | (go_at_call 20; (with_reducible refine (HL.out _).mono ?_); rintro r w' ⟨rfl, rfl⟩)
      | (go_at_call 22; (with_reducible refine (clusterlocksmill.Catalog_c _ _ hT).mono ?_); rintro r w2 ⟨A1, c1, L, rfl, hG, hS, hAb, hO, hT2⟩)
      | (go_at_call 21; (with_reducible refine (clusterlocksmill.Expr_c L _ _ _ _ hT2 hG hS (fun b o e => by have := hAb b o e; simp at this; omega)).mono ?_); rintro r w3 ⟨la, hGA, hp⟩; obtain ⟨ek, k', n', m', u', A2, l2, c2, rfl, hGr, hR, hO3, hT3⟩ := hp.get))
    have hA1 : ∀ b o, A1 = some ⟨b, o, none⟩ → w.heap.size < b := fun b o e => by have := hAb b o e; simp at this; omega
    obtain ⟨hv, hd, hc0, hc10⟩ := hGA.facts hG
    obtain ⟨hval, hsub, hpos⟩ := hGr.valid hv hGA.1 hd
    obtain ⟨hl6, hmem⟩ := hG.mem
    have hfr : fres L ek = 0 := by unfold fres; rw [if_pos hval]; exact frs_all (fun a ha => hc0 a (hsub a ha))
    have hfn : fres [] ek = 10 := by unfold fres; rw [if_pos hval]; exact frs_nil hc10 hpos
    have hx4 := Ext.new w3 (.cells #[.int .i64 k', .string n', .int .i64 m', .int .i64 u', .slice A2 l2 c2] 28)
    have bE := Blk.new w3 28 #[.int .i64 k', .string n', .int .i64 m', .int .i64 u', .slice A2 l2 c2]
    have hz4 := hx4.size
    have hS4 := (hS.only hO3 hA1).ext hx4
    have hR4 := hR.rd.ext hx4 (Nat.le_refl _)
    have hxW := ((hx0.only hO (Nat.le_refl _)).only hO3 (Nat.le_refl _)).tr hx4
    generalize (w3.alloc (.cells #[.int .i64 k', .string n', .int .i64 m', .int .i64 u', .slice A2 l2 c2] 28)) = W at *
    have HP := Lib.hid hpos
    have hp1 : decide (0 < (CL.atoms ek).length) = true := decide_eq_true hpos
    refine (formula.Atoms_c ek W w3.heap.size _ hR4 hz4).mono ?_
    intro r w5 hq
    obtain ⟨A5, c5, rfl, _, hx⟩ := hq.get
    have hn8 := atoms_len ek
    clear hq hS4 hv hc0 hc10 hmem hfr hfn hl6 hp HP hp1 hd
    generalize hL0 : CL.atoms ek = L0 at *
    have HL0 := Lib.hid hL0
    clear hL0
    generalize hn2 : L0.length = n at *
    have hmk := mk_bools n (by omega)
    go_wp2
    have hx5 : Ext W w5 := hx
    have hb1 := Blk.new w5 4 (bls (List.replicate n false)).toArray
    have hxa := Ext.new w5 (.cells (bls (List.replicate n false)).toArray 4)
    have hz5 : (w5.alloc (.cells (bls (List.replicate n false)).toArray 4)).heap.size = w5.heap.size + 1 := by simp
    generalize (w5.alloc (.cells (bls (List.replicate n false)).toArray 4)) = w6 at *
    have hb2 := Blk.new w6 4 (bls (List.replicate n false)).toArray
    have hxb := Ext.new w6 (.cells (bls (List.replicate n false)).toArray 4)
    generalize (w6.alloc (.cells (bls (List.replicate n false)).toArray 4)) = w7 at *
    have hb1 := hb1.ext hxb
    rw [hz5] at hb2
    clear hx hmk
    have hx57 := hxa.tr hxb
    have hWw5 := hx5.size
    have hwW := hxW.size
    have hr15 := (hr1.ext hxW).ext hx5
    have hr25 := (hr2.ext hxW).ext hx5
    generalize hG : w5.heap.size = g1 at *
    go_loopw [12] (fun i wr => ∃ (j : Nat) (B1 B2 : List Bool), j ≤ n ∧ i = .int .i64 j ∧ Ext w5 wr ∧ Blk wr g1 4 (bls B1).toArray ∧ Blk wr (g1 + 1) 4 (bls B2).toArray ∧ Hid (Filled (fun i => set.getD i false || more.getD i false) B1 n j) ∧ Hid (Filled (fun _ => true) B2 n j)) (fun i _ => n - (intOf i).toNat)
    case atStart => exact ⟨0, _, _, by omega, rfl, hx57, hb1, hb2, Filled.zero _ _, Filled.zero _ _⟩
    case round =>
      obtain ⟨j, B1, B2, hj, rfl, hy, hb1, hb2, HF1, HF2⟩ := hrel
      have hlen1 := HF1.out.1
      have hlen2 := HF2.out.1
      have hsz := hy.size
      by_cases hlt : j < n
      · have s1 : wr.cell? ⟨g1, j, none⟩ = some (.bool (B1[j]'(by omega))) := by rw [hb1.cell]; simp [bls, show j < B1.length by omega]
        have s2 : wr.cell? ⟨g1 + 1, j, none⟩ = some (.bool (B2[j]'(by omega))) := by rw [hb2.cell]; simp [bls, show j < B2.length by omega]
        have z1 := hb1.frozen j
        have z2 := hb2.frozen j
        have hne : g1 ≠ g1 + 1 := by omega
        have hji : (j : Int) < (n : Int) := by omega
        have HS2 := Lib.hid HF2.out.step
        have HS1 := Lib.hid HF1.out.step
        have hfin : ∀ v : Bool, (set.getD j false || more.getD j false) = v → Ext w5 ((wr.setCell ⟨g1, j, none⟩ (.bool v)).setCell ⟨g1 + 1, j, none⟩ (.bool true)) ∧ Blk ((wr.setCell ⟨g1, j, none⟩ (.bool v)).setCell ⟨g1 + 1, j, none⟩ (.bool true)) g1 4 (bls (B1.set j v)).toArray ∧ Blk ((wr.setCell ⟨g1, j, none⟩ (.bool v)).setCell ⟨g1 + 1, j, none⟩ (.bool true)) (g1 + 1) 4 (bls (B2.set j true)).toArray ∧ Hid (Filled (fun i => set.getD i false || more.getD i false) (B1.set j v) n (j + 1)) ∧ Hid (Filled (fun _ => true) (B2.set j true) n (j + 1)) := fun v hv => by
          have a := hb1.set j (.bool v)
          rw [bls_set] at a
          have b := (hb2.only (Only.rf.set (g := g1) j (.bool v)) (by omega)).set j (.bool true)
          rw [bls_set] at b
          have c := HS1.out
          simp only [hv] at c
          exact ⟨(hy.setCell (p := ⟨g1, j, none⟩) (by simp [hG]) _).setCell (p := ⟨g1 + 1, j, none⟩) (by simp [hG]) _, a.only (Only.rf.set j _) (by omega), b, Lib.hid c, HS2⟩
        have HFIN := Lib.hid hfin
        clear hfin
        by_cases h1 : j < set.length
        · obtain ⟨b1, o1, rfl, hc1⟩ := hr15.bool h1
          have hc1 := hy.cell hc1
          have hm1 : (j : Int) < (set.length : Int) := by omega
          cases hv1 : set[j]
          · have g1' : set.getD j false = false := by simp [List.getD, h1, hv1]
            rw [hv1] at hc1
            by_cases h2 : j < more.length
            · have g2 : more.getD j false = more[j] := by simp [List.getD, h2]
              obtain ⟨b2, o2, rfl, hc2⟩ := hr25.bool h2
              have hc2 := hy.cell hc2
              have hm2 : (j : Int) < (more.length : Int) := by omega
              go_wp2
              all_goals (obtain ⟨k1, k2, k3, k4, k5⟩ := HFIN.out (more[j]) (by rw [g1', g2, Bool.false_or]); exact ⟨⟨j + 1, _, _, by omega, by go_num, k1, k2, k3, k4, k5⟩, by simp [intOf]; omega⟩)
            · have g2 : more.getD j false = false := by simp [List.getD, List.getElem?_eq_none (show more.length ≤ j by omega)]
              have hm2 : ¬ (j : Int) < (more.length : Int) := by omega
              go_wp2
              all_goals (obtain ⟨k1, k2, k3, k4, k5⟩ := HFIN.out (false) (by rw [g1', g2, Bool.false_or]); exact ⟨⟨j + 1, _, _, by omega, by go_num, k1, k2, k3, k4, k5⟩, by simp [intOf]; omega⟩)
          · have g1' : set.getD j false = true := by simp [List.getD, h1, hv1]
            rw [hv1] at hc1
            go_wp2
            all_goals (obtain ⟨k1, k2, k3, k4, k5⟩ := HFIN.out (true) (by rw [g1', Bool.true_or]); exact ⟨⟨j + 1, _, _, by omega, by go_num, k1, k2, k3, k4, k5⟩, by simp [intOf]; omega⟩)
        · have g1' : set.getD j false = false := by simp [List.getD, List.getElem?_eq_none (show set.length ≤ j by omega)]
          have hm1 : ¬ (j : Int) < (set.length : Int) := by omega
          by_cases h2 : j < more.length
          · have g2 : more.getD j false = more[j] := by simp [List.getD, h2]
            obtain ⟨b2, o2, rfl, hc2⟩ := hr25.bool h2
            have hc2 := hy.cell hc2
            have hm2 : (j : Int) < (more.length : Int) := by omega
            go_wp2
            all_goals (obtain ⟨k1, k2, k3, k4, k5⟩ := HFIN.out (more[j]) (by rw [g1', g2, Bool.false_or]); exact ⟨⟨j + 1, _, _, by omega, by go_num, k1, k2, k3, k4, k5⟩, by simp [intOf]; omega⟩)
          · have g2 : more.getD j false = false := by simp [List.getD, List.getElem?_eq_none (show more.length ≤ j by omega)]
            have hm2 : ¬ (j : Int) < (more.length : Int) := by omega
            go_wp2
            all_goals (obtain ⟨k1, k2, k3, k4, k5⟩ := HFIN.out (false) (by rw [g1', g2, Bool.false_or]); exact ⟨⟨j + 1, _, _, by omega, by go_num, k1, k2, k3, k4, k5⟩, by simp [intOf]; omega⟩)
      · have hB1 := HF1.out.done (by omega)
        have hB2 := HF2.out.done (by omega)
        have hM := mono_laws hGr hval set more
        rw [HL0.out, hn2, ← hB1, ← hB2] at hM
        obtain ⟨M1, M2, M3⟩ := hM
        have hx7 := hx5.tr hy
        have HH : Hid (∀ (s : List Bool) (S : Option Addr) (d : Nat) (w' : World), s.length ≤ maxLen → Ext wr w' → Sits wr S (bls s) → Calls Try.prog 16 #[.agg #[.int .i64 k', .string n', .int .i64 m', .int .i64 u', .slice A2 l2 c2], .slice S s.length d] w' fun r w'' => r = .returned (.bool (holdsE ek s)) ∧ Ext w' w'') := Lib.hid (fun s S d w' h1 x h2 =>
          formula.Holds_c ek s S d h1 w' w3.heap.size _ (hR4.ext (hx7.tr x) hz4) (Nat.le_trans hz4 (hx7.tr x).size) (h2.ext x))
        have C1 := Lib.hid (fun w' x => HH.out set S1 d1 w' hs1 x (hr15.ext hy))
        have C2 := Lib.hid (fun w' x => HH.out B1 (some ⟨g1, 0, none⟩) n w' (by unfold maxLen; omega) x hb1.sits)
        have C3 := Lib.hid (fun w' x => HH.out B2 (some ⟨g1 + 1, 0, none⟩) n w' (by unfold maxLen; omega) x hb2.sits)
        have C4 : Hid (∀ (w' : World), Ext wr w' → Calls Try.prog 16 #[.agg #[.int .i64 k', .string n', .int .i64 m', .int .i64 u', .slice A2 l2 c2], .slice none 0 0] w' fun r w'' => r = .returned (.bool (holdsE ek [])) ∧ Ext w' w'') := Lib.hid (fun w' x => HH.out [] none 0 w' (by simp) x Sits.nil)
        rw [hlen1] at C2
        rw [hlen2, M2] at C3
        rw [M3] at C4
        have bE7 := bE.ext hx7
        have hy0 : Ext wr wr := Ext.rfl'
        have hxe := hxW.tr hx7
        have hp1 : decide (0 < n) = true := decide_eq_true hpos
        clear hB1 hB2 HH M2 M3
        cases hv1 : holdsE ek set
        · rw [hv1] at C1
          go_wp2_with (first
            | (go_at_call 15; (with_reducible refine (awake8_c _).mono ?_); rintro r wa ⟨rfl, hxb⟩; have hy1 := Ext.tr hy0 hxb; clear hy0; have hy0 := hy1; obtain ⟨e0, e1, e2, e3, e4⟩ := (bE7.ext hy0).c5)
            | (go_at_call 16; (with_reducible refine (C1.out _ hy0).mono ?_); rintro r wa ⟨rfl, hxb⟩; have hy1 := Ext.tr hy0 hxb; clear hy0; have hy0 := hy1; obtain ⟨e0, e1, e2, e3, e4⟩ := (bE7.ext hy0).c5)
            | (go_at_call 16; (with_reducible refine (C3.out _ hy0).mono ?_); rintro r wa ⟨rfl, hxb⟩; have hy1 := Ext.tr hy0 hxb; clear hy0; have hy0 := hy1; obtain ⟨e0, e1, e2, e3, e4⟩ := (bE7.ext hy0).c5)
            | (go_at_call 16; (with_reducible refine (C4.out _ hy0).mono ?_); rintro r wa ⟨rfl, hxb⟩; have hy1 := Ext.tr hy0 hxb; clear hy0; have hy0 := hy1; obtain ⟨e0, e1, e2, e3, e4⟩ := (bE7.ext hy0).c5))
          go_ret
          exact ⟨rfl, hxe.tr hy0⟩
        · rw [hv1] at C1
          rw [M1 hv1] at C2
          go_wp2_with (first
            | (go_at_call 15; (with_reducible refine (awake8_c _).mono ?_); rintro r wa ⟨rfl, hxb⟩; have hy1 := Ext.tr hy0 hxb; clear hy0; have hy0 := hy1; obtain ⟨e0, e1, e2, e3, e4⟩ := (bE7.ext hy0).c5)
            | (go_at_call 16; (with_reducible refine (C1.out _ hy0).mono ?_); rintro r wa ⟨rfl, hxb⟩; have hy1 := Ext.tr hy0 hxb; clear hy0; have hy0 := hy1; obtain ⟨e0, e1, e2, e3, e4⟩ := (bE7.ext hy0).c5)
            | (go_at_call 16; (with_reducible refine (C2.out _ hy0).mono ?_); rintro r wa ⟨rfl, hxb⟩; have hy1 := Ext.tr hy0 hxb; clear hy0; have hy0 := hy1; obtain ⟨e0, e1, e2, e3, e4⟩ := (bE7.ext hy0).c5)
            | (go_at_call 16; (with_reducible refine (C3.out _ hy0).mono ?_); rintro r wa ⟨rfl, hxb⟩; have hy1 := Ext.tr hy0 hxb; clear hy0; have hy0 := hy1; obtain ⟨e0, e1, e2, e3, e4⟩ := (bE7.ext hy0).c5)
            | (go_at_call 16; (with_reducible refine (C4.out _ hy0).mono ?_); rintro r wa ⟨rfl, hxb⟩; have hy1 := Ext.tr hy0 hxb; clear hy0; have hy0 := hy1; obtain ⟨e0, e1, e2, e3, e4⟩ := (bE7.ext hy0).c5))
          go_ret
          exact ⟨rfl, hxe.tr hy0⟩
  · have HL := Lib.hid (fun w => (clusterlocksmill.Light_c l A c w))
    rw [decide_eq_false h3] at HL
    go_enter Try.func5, Try.ntmps5
    go_wp2_with (first
      | (go_at_call 20; (with_reducible refine (HL.out _).mono ?_); rintro r w' ⟨rfl, rfl⟩)
      | (go_at_call 15; (with_reducible refine (awake8_c _).mono ?_); rintro r w6 ⟨rfl, hxb⟩))
    go_ret
    exact ⟨rfl, hxb⟩
end Go.Proofs.Ytmboojbhnmdnkaa

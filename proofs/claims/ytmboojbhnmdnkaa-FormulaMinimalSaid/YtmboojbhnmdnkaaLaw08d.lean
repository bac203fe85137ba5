
/- The statements about expressions (chapter 8): the walk of FormulaMinimal. -/
import Derived.Test.YtmboojbhnmdnkaaLaw08
import Derived.Test.YtmboojbhnmdnkaaMn
namespace Go.Proofs.Ytmboojbhnmdnkaa
open Go.RowKit
set_option linter.unusedVariables false
theorem bls_one (l : List Bool) : ∀ u ∈ bls l, u.oneCell' = true := by
  intro u hu
  simp only [bls, List.mem_map] at hu
  obtain ⟨b, _, rfl⟩ := hu
  rfl
theorem own_bls0 (W : World) (base : Nat) (hb : base ≤ W.heap.size) : (W.alloc (.cells #[] 4)).ownsRow base 4 1 (.slice (some ⟨W.heap.size, 0, none⟩) 0 0) 0 [] :=
  World.ownsRow_lit W #[] 0 hb (by simp [maxLen]) (by simp)
/-- a row of the call's own in which one truth value is replaced -/
theorem own_putB {w : World} {base : Nat} {v : Value} {l : List Bool} {q : Nat} (h : w.ownsRow base 4 1 v l.length (bls l)) (hq : q < l.length) :
    ∃ g cap cur, v = .slice (some ⟨g, 0, none⟩) l.length cap ∧ base ≤ g ∧ Blk w g 4 cur ∧ q < cur.size ∧
      ∀ b : Bool, Sits (w.setCell ⟨g, q, none⟩ (.bool b)) (some ⟨g, 0, none⟩) (bls (l.set q b)) := by
  rcases h.2 with ⟨_, e⟩ | ⟨g, cap, cur, e, hb, hh, h1, h2, h3, h4⟩
  · omega
  · have hB : Blk w g 4 cur := hh
    refine ⟨g, cap, cur, e, hb, hB, by omega, fun b => ?_⟩
    intro _
    refine ⟨g, 0, rfl, fun j x hx => ?_⟩
    have hj : j < l.length := by
      have := (List.getElem?_eq_some_iff.1 hx).1
      simpa [bls] using this
    rw [Nat.zero_add, (hB.set q (.bool b)).cell j, Array.getElem?_setIfInBounds]
    have hcur : cur[j]? = (bls l)[j]? := by
      rw [← h4, Nat.mul_one, List.getElem?_take_of_lt hj, Array.getElem?_toList]
    simp only [bls, List.getElem?_map, List.getElem?_set] at hx
    split
    · rename_i e0
      rw [if_pos (by omega)]
      simpa [e0, hj] using hx
    · rename_i e0
      rw [if_neg (by omega)] at hx
      rw [hcur]; simpa [bls] using hx
set_option maxHeartbeats 3200000 in
theorem FormulaMinimal_w (e : CL.Ex) (cs : List Value) (set : List Bool) (S : Option Addr) (d : Nat) (w : World) (hR : Rd w w.heap.size e cs) (hs : set.length ≤ maxLen) (hrs : Sits w S (bls set)) :
    Calls Try.prog 8 #[.agg cs.toArray, .slice S set.length d] w fun r w' => r = .returned (.bool true) ∧ Ext w w' := by
  obtain ⟨k, s, m, u, A1, l1, c1, rfl⟩ := hR.shape
  obtain ⟨bE, hx0⟩ := box1 w #[.int .i64 k, .string s, .int .i64 m, .int .i64 u, .slice A1 l1 c1] 28
  have hz0 := hx0.size
  have hs2 := hs
  unfold maxLen at hs2
  have hRW := hR.ext hx0 (Nat.le_refl _)
  have hSW := hrs.ext hx0
  cases hh : holdsE e set
  · go_enter Try.func8, Try.ntmps8
    go_wp2_with (first
      | (go_at_call 16; (with_reducible refine (formula.Holds_c e set _ _ hs _ w.heap.size _ hRW hz0 hSW).mono ?_); rintro r w1 ⟨rfl, hx⟩)
      | (go_at_call 15; (with_reducible refine (awake8_c _).mono ?_); rintro r w2 ⟨rfl, hxa⟩))
    go_ret
    exact ⟨rfl, hx0.tr (hx.tr hxa)⟩
  · have hph := prn_holds hh
    have hpl := prn_len e set
    have hl8 := atoms_len e
    have HMIN := Lib.hid (fun i h1 h2 => prn_min hh (i := i) h1 h2)
    have HPC := Lib.hid (fun W B (h1 : Rd W B e [.int .i64 k, .string s, .int .i64 m, .int .i64 u, .slice A1 l1 c1]) (h2 : B ≤ W.heap.size) (h3 : Sits W S (bls set)) => formula.Prune_c e set S d hs W B _ h1 h2 h3)
    generalize prn e set = P at *
    have hP8 : P.length ≤ 8 := by omega
    clear hpl hl8
    go_enter Try.func8, Try.ntmps8
    go_wp2_with (first
      | (go_at_call 16; (with_reducible refine (formula.Holds_c e set _ _ hs _ w.heap.size _ hRW hz0 hSW).mono ?_); rintro r w1 ⟨rfl, hx⟩; obtain ⟨e0, e1, e2, e3, e4⟩ := (bE.ext hx).c5; have hz1 := hx.size)
      | (go_at_call 25; (with_reducible refine (HPC.out _ w.heap.size (hRW.ext hx hz0) (by omega) (hSW.ext hx)).mono ?_); rintro r w2 ⟨g, rfl, hbg, hgs, hx2⟩; have hxp := hx.tr hx2; have hz2 := hxp.size)
      | (go_at_call 15; (with_reducible refine (awake8_c _).mono ?_); rintro r w3 ⟨rfl, hxa⟩; replace hxp := hxp.tr hxa; replace hbg := hbg.ext hxa; obtain ⟨e0, e1, e2, e3, e4⟩ := (bE.ext hxp).c5; have hz3 := hxp.size)
      | (go_at_call 16; (with_reducible refine (formula.Holds_c e P _ _ (by unfold maxLen; omega) _ w.heap.size _ (hRW.ext hxp hz0) (by omega) hbg.sits).mono ?_); rintro r w4 ⟨rfl, hx4⟩; replace hxp := hxp.tr hx4; replace hbg := hbg.ext hx4))
    have hgw : g < w4.heap.size := hbg.lt
    clear hx hx2 hxa hx4 e0 e1 e2 e3 e4
    go_loopw [6] (fun i wr => ∃ j : Nat, j ≤ P.length ∧ i = .int .i64 j ∧ Ext w4 wr) (fun i _ => P.length - (intOf i).toNat)
    case atStart => exact ⟨0, by omega, rfl, Ext.rfl'⟩
    case round =>
      obtain ⟨j, hj, rfl, hy⟩ := hrel
      have hzr := hy.size
      have hbr := hbg.ext hy
      by_cases hlt : j < P.length
      · have c0 := bls_at hbr hlt
        cases hp : P[j]
        · rw [hp] at c0
          go_wp2
          exact ⟨⟨j + 1, by omega, by go_num, hy⟩, by simp [intOf]; omega⟩
        · obtain ⟨m1, m2, m3⟩ := HMIN.out j hlt hp
          rw [hp] at c0
          have hgd : set.getD j false = set[j] := by simp [List.getD, m1]
          rw [hgd] at m2
          have hxr := hxp.tr hy
          obtain ⟨b, o, rfl, hcs⟩ := (hSW.ext hxr).bool m1
          rw [m2] at hcs
          have M3 := Lib.hid m3
          clear m2 m3 hgd hp
          have hjs : (j : Int) < (set.length : Int) := by omega
          have HHO := Lib.hid (show ∀ (W : World) (B : Nat) (g2 cap : Nat), Rd W B e [.int .i64 k, .string s, .int .i64 m, .int .i64 u, .slice A1 l1 c1] → B ≤ W.heap.size → Sits W (some ⟨g2, 0, none⟩) (bls (P.set j false)) → Calls Try.prog 16 #[.agg #[.int .i64 k, .string s, .int .i64 m, .int .i64 u, .slice A1 l1 c1], .slice (some ⟨g2, 0, none⟩) P.length cap] W fun r w' => r = .returned (.bool false) ∧ Ext W w' by
            intro W B g2 cap h1 h2 h3
            have h := formula.Holds_c e (P.set j false) (some ⟨g2, 0, none⟩) cap (by rw [List.length_set]; unfold maxLen; omega) W B _ h1 h2 h3
            rw [List.length_set, M3.out] at h
            exact h)
          go_wp2_with (first
            | (at_builtin; refine wpList_append_sits _ rfl (.tmp 35) (.tmp 36) _ rfl wr.heap.size 4 1 1 _ Try.underlying33 bool_info rfl (by omega) _ 0 [] rfl (own_bls0 _ _ (Nat.le_refl _)) _ _ _ (bls P) rfl (by simp [bls_len]) ((hbr.alloc _).sits) (bls_one _) (by simp only [maxLen]; omega) (by omega) (by simp) ?_; intro v3 w5 hown3 hb3 hg3; simp only [Nat.zero_add, List.nil_append] at hown3; obtain ⟨g2, cap, cur, rfl, hg2, hB, hcur, hput⟩ := own_putB hown3 hlt; have s0 : w5.cell? ⟨g2, j, none⟩ = some (cur[j]) := (by simp [hB.cell, hcur]); have z0 := hB.frozen j; have hx6 := (Below.trans (Ext.new wr (.cells #[] 4)) hb3).setCell (p := ⟨g2, j, none⟩) hg2 (.bool false); have hcs6 := Ext.cell hx6 hcs; have hxz := hxr.tr hx6; have hzz := hxz.size; obtain ⟨e0, e1, e2, e3, e4⟩ := (bE.ext hxz).c5)
            | (go_at_call 16; (with_reducible refine (HHO.out _ w.heap.size g2 _ (hRW.ext hxz hz0) (by omega) (hput false)).mono ?_); rintro r w7 ⟨rfl, hx7⟩))
          exact ⟨⟨j + 1, by omega, by go_num, hy.tr (Ext.tr hx6 hx7)⟩, by simp [intOf]; omega⟩
      · go_wp2
        go_ret
        exact ⟨rfl, hx0.tr (hxp.tr hy)⟩
end Go.Proofs.Ytmboojbhnmdnkaa


/- Ledger: the walk of made. -/
import Derived.Test.YtaebindbadfaaaaLmo
namespace Go.Proofs.Ytaebindbadfaaaa
open Go.RowKit
set_option linter.unusedVariables false
set_option linter.unusedSimpArgs false
set_option maxHeartbeats 3200000 in
set_option maxRecDepth 100000 in
theorem made_c (l : List Int) (A : Option Addr) (c : Nat) (w : World) (hl : l.length ≤ maxLen) (hr : Sits w A (ints l)) :
    Calls Try.prog 34 #[.slice A l.length c] w fun r w' => ∃ v', r = .returned v' ∧ LgOwn w' 0 v' (CL.mde l) ∧ Ext w w' := by
  unfold maxLen at hl
  go_enter Try.func34, Try.ntmps34
  go_wp2_with fail
  obtain ⟨bR, bX, hx0⟩ := two_rows w #[.slice none 0 0, .slice none 0 0] 31 #[.slice none 0 0, .slice none 0 0] 31
  have hz := hx0.size
  have bRl := bR.lt
  have bXl := bX.lt
  generalize ((w.alloc (.cells #[.slice none 0 0, .slice none 0 0] 31)).alloc (.cells #[.slice none 0 0, .slice none 0 0] 31)) = W at *
  go_loopw [4] (fun i wr => ∃ (j : Nat) (A1 : Option Addr) (c1 : Nat) (B1 : Option Addr) (d1 : Nat) (n1 m1 : Nat), j ≤ l.length ∧ i = .int .i64 j ∧ Blk wr w.heap.size 31 #[.slice none 0 0, .slice none 0 0] ∧ Blk wr (w.heap.size + 1) 31 #[.slice A1 n1 c1, .slice B1 m1 d1] ∧ Hid (LgOwn wr 0 (.agg #[.slice A1 n1 c1, .slice B1 m1 d1]) (CL.mde (l.take j))) ∧ Ext w wr) (fun i _ => l.length - (intOf i).toNat)
  case atStart => exact ⟨0, none, 0, none, 0, 0, 0, by omega, rfl, bR, bX, Lib.hid (LgOwn.zero _), hx0⟩
  case round =>
    clear bR bX
    obtain ⟨j, A1, c1, B1, d1, n1, m1, hj, rfl, bR, bX, HL, hx⟩ := hrel
    obtain ⟨s0, s1⟩ := bX.c2
    by_cases hlt : j < l.length
    · obtain ⟨b, o, rfl, hc⟩ := (hr.ext hx).get (by rw [ints_len]; omega)
      have d0 := hc j _ (ints_get hlt)
      have hst := Lib.hid (CL.mde_step hlt)
      have hv := CL.mde_valid (l.take j)
      generalize l[j] = k at *
      have MO := Lib.hid (fun W' (h : Ext wr W') => more_c (CL.mde (l.take j)) k (.agg #[.slice A1 n1 c1, .slice B1 m1 d1]) W' (HL.out.ext h) hv)
      rw [← hst.out] at MO
      have hlti : (j : Int) < (l.length : Int) := by omega
      clear hc
      go_wp2_with fail
      go_region_law
        (first
          | (go_simp; go_at_call 30; refine (MO.out _ (Ext.drawn _)).mono ?_; rintro r w2 ⟨v2, rfl, hl2, hx2⟩; (have hxe : Ext wr w2 := Ext.tr (Ext.drawn _) hx2); (obtain ⟨A2, c2, B2, d2, rfl⟩ := hl2.lits); (have bX2 := bX.ext hxe); (obtain ⟨s0', s1'⟩ := bX2.c2); (have f0 := bX2.frozen 0); (have f1 := bX2.frozen 1)))
      all_goals
        have hon := (Only.rf (g := w.heap.size + 1) (w := w2)).set2 (.slice A2 (CL.mde (l.take (j + 1))).es.length c2) (.slice B2 (CL.mde (l.take (j + 1))).ss.length d2)
        have hl3 := Lib.hid (hl2.only bX2 hon (by decide) (by decide))
        have bX3 := bX2.set2 (.slice A2 (CL.mde (l.take (j + 1))).es.length c2) (.slice B2 (CL.mde (l.take (j + 1))).ss.length d2)
        have bR3 := (bR.ext hxe).only hon (by omega)
        have hx3 : Ext w _ := ((hx.tr hxe).setCell (p := ⟨w.heap.size + 1, 0, none⟩) (by simp only; omega) (.slice A2 (CL.mde (l.take (j + 1))).es.length c2)).setCell (p := ⟨w.heap.size + 1, 1, none⟩) (by simp only; omega) (.slice B2 (CL.mde (l.take (j + 1))).ss.length d2)
        go_wp2_with fail
        exact ⟨⟨j + 1, A2, c2, B2, d2, _, _, by omega, by go_num, bR3, bX3, hl3, hx3⟩, by simp [intOf]; omega⟩
    · obtain rfl : j = l.length := by omega
      obtain ⟨g0, g1⟩ := bR.c2
      have f0 := bR.frozen 0
      have f1 := bR.frozen 1
      have hL := HL.out
      rw [List.take_length] at hL
      go_wp2_with fail
      obtain ⟨d0, d1'⟩ := (bR.set2 (.slice A1 n1 c1) (.slice B1 m1 d1)).c2
      refine bodyPost_ret (v := .agg #[.slice A1 n1 c1, .slice B1 m1 d1]) (by simp [results, Try.results34, go_sem, d0, d1']) rfl ?_
      exact ⟨_, rfl, hL.only bR (Only.rf.set2 _ _) (by decide) (by decide), (hx.setCell (p := ⟨w.heap.size, 0, none⟩) (by simp only; omega) _).setCell (p := ⟨w.heap.size, 1, none⟩) (by simp only; omega) _⟩
end Go.Proofs.Ytaebindbadfaaaa

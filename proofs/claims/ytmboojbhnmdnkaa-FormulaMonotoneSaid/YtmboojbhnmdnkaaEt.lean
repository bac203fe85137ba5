
/- The walks that count nodes and levels of an expression, by the program and by the reference. -/
import Derived.Test.YtmboojbhnmdnkaaRd
import Derived.Test.YtmboojbhnmdnkaaEw
namespace Go.Proofs.Ytmboojbhnmdnkaa
open Go.RowKit
set_option linter.unusedVariables false
theorem box1 (w : World) (c1 : Array Value) (t1 : TypeId) : Blk (w.alloc (.cells c1 t1)) w.heap.size t1 c1 ∧ Ext w (w.alloc (.cells c1 t1)) := ⟨Blk.new _ _ _, Ext.new _ _⟩
theorem meas_le {e : CL.Ex} {lv n : Nat} (h : (CL.meas e lv n).1 ≠ 0) : (CL.meas e lv n).2 ≤ 24 ∧ (CL.meas e lv n).1 ≤ 24 ∧ n ≤ (CL.meas e lv n).2 := by
  by_cases c : CL.depth e + lv ≤ 5 ∧ n + CL.size e ≤ 24
  · rw [(CL.meas_spec e lv n).1 c]; simp only; omega
  · exact absurd ((CL.meas_spec e lv n).2 c) h
theorem measL_step {kids : List CL.Ex} {j lv n d : Nat} (hj : j < kids.length) : CL.measL (kids.drop j) lv n d = if (CL.meas kids[j] lv n).1 = 0 then (0, (CL.meas kids[j] lv n).2) else CL.measL (kids.drop (j + 1)) lv (CL.meas kids[j] lv n).2 (max d (CL.meas kids[j] lv n).1) := by
  rw [List.drop_eq_getElem_cons hj]; simp only [CL.measL]
theorem measL_end {kids : List CL.Ex} {j lv n d : Nat} (hj : kids.length ≤ j) : CL.measL (kids.drop j) lv n d = (d + 1, n) := by
  rw [List.drop_eq_nil_of_le hj]; simp only [CL.measL]
set_option maxHeartbeats 1600000 in
theorem request.measure_c (e : CL.Ex) : ∀ (w : World) (B : Nat) (cs : List Value) (lv n g : Nat) (L : Int), L = (lv : Int) → Rd w B e cs → B ≤ g → Blk w g 3 #[.int .i64 n] → n ≤ 24 → lv ≤ 5 →
    Calls Try.prog 57 #[.agg cs.toArray, .int .i64 L, .pointer (some ⟨g, 0, none⟩)] w fun r w' =>
      r = .returned (.int .i64 ((CL.meas e lv n).1 : Nat)) ∧ Blk w' g 3 #[.int .i64 ((CL.meas e lv n).2 : Nat)] ∧ Only g w w' := by
  induction e using CL.Ex.ind with
  | h k a kids ih =>
    intro w B cs lv n g L hL hR hBg hb hn hlv
    subst hL
    obtain ⟨A, c, rfl, hnm, hkl, hkc, hK⟩ := hR.inv
    obtain ⟨nm, m, u⟩ := a
    have IH := Lib.hid ih
    clear ih hR
    have h0 : w.cell? ⟨g, 0, none⟩ = some (.int .i64 n) := hb.cell 0
    have f0 := hb.frozen 0
    have hgl := hb.lt
    have hne : g ≠ w.heap.size := by omega
    have hne' : w.heap.size ≠ g := by omega
    unfold maxLen at hkl
    have hb1 := ((hb.set 0 (.int .i64 (n + 1 : Nat))).alloc (.cells #[.int .i64 k, .string ⟨nm.toArray⟩, .int .i64 m, .int .i64 u, .slice A kids.length c] 28))
    have ho1 := (Only.set (Only.rf (g := g) (w := w)) 0 (.int .i64 (n + 1 : Nat))).tr (Only.of_ext (Ext.new _ (.cells #[.int .i64 k, .string ⟨nm.toArray⟩, .int .i64 m, .int .i64 u, .slice A kids.length c] 28)))
    by_cases hc : lv ≤ 4 ∧ n + 1 ≤ 24
    · obtain ⟨hc1, hc2⟩ := hc
      have HM := Lib.hid (show CL.meas (.mk k ⟨nm, ⟨m, u⟩⟩ kids) lv n = CL.measL kids (lv + 1) (n + 1) 0 by simp only [CL.meas]; rw [if_neg (by omega)])
      go_enter Try.func57, Try.ntmps57
      go_wp2
      push_cast at hb1 ho1
      generalize ((w.setCell ⟨g, 0, none⟩ (.int .i64 ((n : Int) + 1))).alloc (.cells #[.int .i64 k, .string ⟨nm.toArray⟩, .int .i64 m, .int .i64 u, .slice A kids.length c] 28)) = w1 at *
      go_loopw [7, 27] (fun d i wr => ∃ (j d' n' : Nat), j ≤ kids.length ∧ i = .int .i64 j ∧ d = .int .i64 d' ∧ Blk wr g 3 #[.int .i64 n'] ∧ Only g w wr ∧ n' ≤ 24 ∧ d' ≤ 24 ∧ Hid (CL.measL kids (lv + 1) (n + 1) 0 = CL.measL (kids.drop j) (lv + 1) n' d')) (fun _ i _ => kids.length - (intOf i).toNat)
      case atStart => exact ⟨0, 0, n + 1, by omega, rfl, rfl, by simpa using hb1, ho1, hc2, by omega, Lib.hid (by simp)⟩
      case round =>
        obtain ⟨j, d, n', hj, rfl, rfl, hbr, hor, hn', hd', HL⟩ := hrel
        have hgr := hbr.lt
        have hner : g ≠ wr.heap.size := by omega
        by_cases hlt : j < kids.length
        · have hKr := hK.below (below_only (Below.refl B w) hor hBg (by omega))
          obtain ⟨b, o, k1, s1, m1, u1, A1, l1, x1, rfl, hbB, hR, c0, c1, c2, c3, c4⟩ := hKr.get hlt
          have HS := Lib.hid (measL_step (lv := lv + 1) (n := n') (d := d) hlt)
          have HE := Lib.hid (meas_le (e := kids[j]) (lv := lv + 1) (n := n'))
          have hm := List.getElem_mem hlt
          generalize kids[j] = e at *
          have hbx : b ≠ wr.heap.size := by omega
          go_wp2_with (go_at_call 57; (with_reducible refine (IH.out e hm _ B _ (lv + 1) n' g _ (by omega) (hR.kept ((Below.refl _ _).alloc (by omega) _)) hBg (hbr.alloc _) hn' (by omega)).mono ?_); rintro r w' ⟨rfl, hb', ho'⟩)
          · rename_i hq
            have hz : (CL.meas e (lv + 1) n').1 = 0 := by simpa using hq
            go_ret
            rw [HM.out, HL.out, HS.out, if_pos hz]
            exact ⟨rfl, hb', (hor.tr (Only.of_ext (Ext.new _ _))).tr ho'⟩
          · rename_i hq
            have hz : (CL.meas e (lv + 1) n').1 ≠ 0 := by simpa using hq
            obtain ⟨q1, q2, q3⟩ := HE.out hz
            refine ⟨⟨j + 1, max d (CL.meas e (lv + 1) n').1, (CL.meas e (lv + 1) n').2, by omega, by go_num, ?_, hb', (hor.tr (Only.of_ext (Ext.new _ _))).tr ho', q1, by omega, Lib.hid (by rw [HL.out, HS.out, if_neg hz])⟩, by simp [intOf]; omega⟩
            split <;> (congr 1; omega)
        · go_wp2
          go_ret
          rw [HM.out, HL.out, measL_end (by omega)]
          exact ⟨rfl, hbr, hor⟩
    · have HM := Lib.hid (show CL.meas (.mk k ⟨nm, ⟨m, u⟩⟩ kids) lv n = (0, n + 1) by simp only [CL.meas]; rw [if_pos (by omega)])
      go_enter Try.func57, Try.ntmps57
      have hc2 : 4 < lv ∨ 24 < n + 1 := by omega
      rcases hc2 with hc2 | hc2
      all_goals
        go_wp2
        all_goals
          go_ret
          rw [HM.out]
          exact ⟨rfl, by simpa using hb1, by simpa using ho1⟩
theorem request.Depth_c (e : CL.Ex) (w : World) (B : Nat) (cs : List Value) (hR : Rd w B e cs) (hB : B ≤ w.heap.size) : Calls Try.prog 42 #[.agg cs.toArray] w fun r w' => r = .returned (.int .i64 (CL.dep e : Nat)) ∧ Ext w w' := by
  obtain ⟨k, s, m, u, A, l, c, rfl⟩ := hR.shape
  go_enter Try.func42, Try.ntmps42
  have hx0 : Ext w ((w.alloc (.cells #[.int .i64 k, .string s, .int .i64 m, .int .i64 u, .slice A l c] 28)).alloc (.cells #[.int .i64 0] 3)) := by go_grown
  have hb0 : Blk ((w.alloc (.cells #[.int .i64 k, .string s, .int .i64 m, .int .i64 u, .slice A l c] 28)).alloc (.cells #[.int .i64 0] 3)) (w.heap.size + 1) 3 #[.int .i64 (0 : Nat)] := by
    have h := Blk.new (w.alloc (.cells #[.int .i64 k, .string s, .int .i64 m, .int .i64 u, .slice A l c] 28)) 3 #[.int .i64 0]
    rw [World.size_alloc] at h; exact h
  go_wp2_with (go_at_call 57; (with_reducible refine (request.measure_c e _ B _ 1 0 (w.heap.size + 1) 1 rfl (hR.ext hx0 hB) (by omega) hb0 (by omega) (by omega)).mono ?_); rintro r w' ⟨rfl, hb', ho'⟩)
  go_ret
  refine ⟨ret_int ?_, hx0.only ho' (by omega)⟩
  unfold CL.dep
  by_cases h : CL.small e = true
  · rw [if_pos h, CL.meas_small h]
  · rw [if_neg h, CL.meas_great (by simpa using h)]
theorem rszL_step {kids : List CL.Ex} {j dp n d : Nat} (hj : j < kids.length) : CL.rszL (kids.drop j) dp n d = if 24 < n + (CL.rsz kids[j] dp).1 then (25, 0) else CL.rszL (kids.drop (j + 1)) dp (n + (CL.rsz kids[j] dp).1) (max d (CL.rsz kids[j] dp).2) := by
  rw [List.drop_eq_getElem_cons hj]; simp only [CL.rszL]
theorem rszL_end {kids : List CL.Ex} {j dp n d : Nat} (hj : kids.length ≤ j) : CL.rszL (kids.drop j) dp n d = (n, d + 1) := by
  rw [List.drop_eq_nil_of_le hj]; simp only [CL.rszL]
theorem rsz_le (e : CL.Ex) (dp : Nat) : (CL.rsz e dp).1 ≤ 25 ∧ ((CL.rsz e dp).1 ≤ 24 → (CL.rsz e dp).2 ≤ 24) := by
  by_cases c : CL.depth e + dp ≤ 5 ∧ CL.size e ≤ 24
  · rw [(CL.rsz_spec e dp).1 c]; simp only; omega
  · have := (CL.rsz_spec e dp).2 c; omega
set_option maxHeartbeats 1600000 in
theorem clusterlocksref07.Size_c (e : CL.Ex) : ∀ (w : World) (B : Nat) (cs : List Value) (dp : Nat) (L : Int), L = (dp : Int) → Rd w B e cs → B ≤ w.heap.size → dp ≤ 5 →
    Calls Try.prog 61 #[.agg cs.toArray, .int .i64 L] w fun r w' =>
      r = .returned (.tuple #[.int .i64 ((CL.rsz e dp).1 : Nat), .int .i64 ((CL.rsz e dp).2 : Nat)]) ∧ Ext w w' := by
  induction e using CL.Ex.ind with
  | h k a kids ih =>
    intro w B cs lv L hL hR hB hlv
    subst hL
    obtain ⟨A, c, rfl, hnm, hkl, hkc, hK⟩ := hR.inv
    obtain ⟨nm, m, u⟩ := a
    have IH := Lib.hid ih
    clear ih hR
    unfold maxLen at hkl
    by_cases hc : lv ≤ 4 ∧ kids.length ≤ 24
    · obtain ⟨hc1, hc2⟩ := hc
      have HM := Lib.hid (show CL.rsz (.mk k ⟨nm, ⟨m, u⟩⟩ kids) lv = CL.rszL kids (lv + 1) 1 0 by simp only [CL.rsz]; rw [if_neg (by omega)])
      obtain ⟨bE, hx0⟩ := box1 w #[.int .i64 k, .string ⟨nm.toArray⟩, .int .i64 m, .int .i64 u, .slice A kids.length c] 28
      go_enter Try.func61, Try.ntmps61
      go_wp2
      generalize (w.alloc (.cells #[.int .i64 k, .string ⟨nm.toArray⟩, .int .i64 m, .int .i64 u, .slice A kids.length c] 28)) = w1 at *
      go_loopw [6, 7, 8] (fun n d i wr => ∃ (j d' n' : Nat), j ≤ kids.length ∧ i = .int .i64 j ∧ d = .int .i64 d' ∧ n = .int .i64 n' ∧ Ext w1 wr ∧ n' ≤ 24 ∧ d' ≤ 24 ∧ Hid (CL.rszL kids (lv + 1) 1 0 = CL.rszL (kids.drop j) (lv + 1) n' d')) (fun _ _ i _ => kids.length - (intOf i).toNat)
      case atStart => exact ⟨0, 0, 1, by omega, rfl, rfl, rfl, Ext.rfl', by omega, by omega, Lib.hid (by simp)⟩
      case round =>
        obtain ⟨j, d, n', hj, rfl, rfl, rfl, hx, hn', hd', HL⟩ := hrel
        have e4 : wr.cell? ⟨w.heap.size, 4, none⟩ = some (.slice A kids.length c) := (bE.ext hx).cell 4
        have hw1 := hx0.size
        have hwr := hx.size
        have hbs := (bE.ext hx).lt
        by_cases hlt : j < kids.length
        · have hKr := hK.below ((hx0.tr hx).mono hB)
          obtain ⟨b, o, k1, s1, m1, u1, A1, l1, x1, rfl, hbB, hR, c0, c1, c2, c3, c4⟩ := hKr.get hlt
          have HS := Lib.hid (rszL_step (dp := lv + 1) (n := n') (d := d) hlt)
          obtain ⟨q1, q2⟩ := rsz_le kids[j] (lv + 1)
          have HE := Lib.hid q2
          clear q2
          have hm := List.getElem_mem hlt
          generalize kids[j] = e at *
          have hbx : b ≠ wr.heap.size := by omega
          by_cases h24 : 24 < n' + (CL.rsz e (lv + 1)).1
          · go_wp2_with (go_at_call 61; (with_reducible refine (IH.out e hm _ B _ (lv + 1) _ (by omega) hR (by omega) (by omega)).mono ?_); rintro r w' ⟨rfl, hx'⟩)
            all_goals
              go_ret2
              rw [HM.out, HL.out, HS.out, if_pos h24]
              exact ⟨rfl, hx0.tr (hx.tr hx')⟩
          · go_wp2_with (go_at_call 61; (with_reducible refine (IH.out e hm _ B _ (lv + 1) _ (by omega) hR (by omega) (by omega)).mono ?_); rintro r w' ⟨rfl, hx'⟩)
            all_goals
              have hd2 := HE.out (by omega)
              refine ⟨⟨j + 1, max d (CL.rsz e (lv + 1)).2, n' + (CL.rsz e (lv + 1)).1, by omega, by go_num, by congr 1; omega, by congr 1, hx.tr hx', by omega, by omega, Lib.hid (by rw [HL.out, HS.out, if_neg h24])⟩, by simp [intOf]; omega⟩
        · go_wp2
          go_ret2
          rw [HM.out, HL.out, rszL_end (by omega)]
          exact ⟨rfl, hx0.tr hx⟩
    · have HM := Lib.hid (show CL.rsz (.mk k ⟨nm, ⟨m, u⟩⟩ kids) lv = (25, 0) by simp only [CL.rsz]; rw [if_pos (by omega)])
      have hc2 : 4 < lv ∨ 24 < kids.length := by omega
      rcases hc2 with hc2 | hc2
      all_goals
        go_enter Try.func61, Try.ntmps61
        go_wp2
        all_goals
          go_ret2
          rw [HM.out]
          exact ⟨rfl, Ext.new _ _⟩
theorem clusterlocksref07.Nodes_c (e : CL.Ex) (w : World) (B : Nat) (cs : List Value) (hR : Rd w B e cs) (hB : B ≤ w.heap.size) : Calls Try.prog 45 #[.agg cs.toArray] w fun r w' => r = .returned (.int .i64 (CL.nod e : Nat)) ∧ Ext w w' := by
  obtain ⟨k, s, m, u, A, l, c, rfl⟩ := hR.shape
  have hn : if CL.small e = true then CL.rsz e 1 = (CL.size e, CL.depth e) ∧ CL.size e ≤ 24 ∧ CL.nod e = CL.size e else (CL.rsz e 1).1 = 25 ∧ CL.nod e = 0 := by
    by_cases h : CL.small e = true
    · rw [if_pos h]; exact ⟨CL.rsz_small h, by simp [CL.small] at h; omega, by simp [CL.nod, h]⟩
    · rw [if_neg h]; exact ⟨CL.rsz_great (by simpa using h), by simp [CL.nod, h]⟩
  split at hn
  · obtain ⟨h1, h2, h3⟩ := hn
    go_enter Try.func45, Try.ntmps45
    go_wp2_with (go_at_call 61; (with_reducible refine (clusterlocksref07.Size_c e _ B _ 1 1 rfl (hR.ext (Ext.new _ _) hB) (by simp; omega) (by omega)).mono ?_); rintro r w' ⟨rfl, hx'⟩)
    go_ret
    exact ⟨ret_int (by rw [h3]), (Ext.new _ _).tr hx'⟩
  · obtain ⟨h1, h2⟩ := hn
    go_enter Try.func45, Try.ntmps45
    go_wp2_with (go_at_call 61; (with_reducible refine (clusterlocksref07.Size_c e _ B _ 1 1 rfl (hR.ext (Ext.new _ _) hB) (by simp; omega) (by omega)).mono ?_); rintro r w' ⟨rfl, hx'⟩)
    go_ret
    exact ⟨ret_int (by rw [h2]; rfl), (Ext.new _ _).tr hx'⟩
theorem clusterlocksref07.Usable_c (a b : Int) (w : World) : Calls Try.prog 63 #[.agg #[.int .i64 a, .int .i64 b]] w fun e w' => e = .returned (.bool (CL.usable ⟨a, b⟩)) ∧ Ext w w' := by
  go_enter Try.func63, Try.ntmps63
  go_wp2_with (first
        | (go_at_call 71; refine (RValid_c _ _).mono ?_; rintro e w' ⟨rfl, rfl⟩))
  all_goals (go_ret; refine ⟨ret_bool ?_, Ext.new _ _⟩; go_tidy; grind [CL.usable])
end Go.Proofs.Ytmboojbhnmdnkaa


/- The walk of clusterlocksref07.Atoms: the atoms of a valid expression, by the reference. -/
import Derived.Test.YtmboojbhnmdnkaaAd
namespace Go.Proofs.Ytmboojbhnmdnkaa
open Go.RowKit
set_option linter.unusedVariables false
def DiTo (x : List CL.At) (j q : Nat) : Prop := ∀ p, (hp : p < x.length) → p < q → (hj : j < x.length) → x[p].n ≠ x[j].n
theorem DiTo.zero {x : List CL.At} {j : Nat} : DiTo x j 0 := fun p _ h => by omega
theorem DiTo.step {x : List CL.At} {j q : Nat} (h : DiTo x j q) (hq : q < x.length) (hj : j < x.length) (hne : ¬ x[j].n = x[q].n) : DiTo x j (q + 1) := by
  intro p hp h1 hj'
  by_cases e : p = q
  · subst e; exact fun e => hne e.symm
  · exact h p hp (by omega) hj'
theorem DiTo.hit {x : List CL.At} {j q : Nat} (hq : q < j) (hj : j < x.length) (he : x[j].n = x[q].n) : ¬ CL.Dist x := by
  intro hd
  exact (List.pairwise_iff_getElem.1 hd) q j (by omega) hj hq he.symm
theorem DiTo.done {x : List CL.At} {j : Nat} (h : DiTo x j j) (hj : j < x.length) (hd : CL.Dist (x.take j)) : CL.Dist (x.take (j + 1)) := by
  unfold CL.Dist at *
  rw [List.take_succ_eq_append_getElem hj, List.pairwise_append]
  refine ⟨hd, by simp, fun a ha b hb => ?_⟩
  simp at hb; subst hb
  rw [List.mem_take_iff_getElem] at ha
  obtain ⟨p, hp, rfl⟩ := ha
  exact h p (by omega) (by omega) hj
/-- what the reference's list of atoms gives back -/
def RAts (e : CL.Ex) (w : World) (r : Ending) (w' : World) : Prop := ∃ v, r = .returned (.tuple #[v, .bool (CL.valid e)]) ∧ w'.ownsRow w.heap.size 25 3 v (CL.atoms e).length (ats (CL.atoms e)) ∧ Ext w w'
theorem RAts.bad {e : CL.Ex} {w w' : World} (h : CL.valid e = false) (hx : Ext w w') : RAts e w (.returned (.tuple #[.slice none 0 0, .bool false])) w' := by
  refine ⟨.slice none 0 0, by rw [h], ?_, hx⟩
  rw [show CL.atoms e = [] by simp [CL.atoms, h]]
  exact ⟨rfl, .inl ⟨rfl, rfl⟩⟩
theorem RAts.good {e : CL.Ex} {w w' : World} {v : Value} {x : List CL.At} (h : CL.valid e = true ∧ CL.atoms e = x) (ho : w'.ownsRow w.heap.size 25 3 v x.length (ats x)) (hx : Ext w w') : RAts e w (.returned (.tuple #[v, .bool true])) w' :=
  ⟨v, by rw [h.1], by rw [h.2]; exact ho, hx⟩
theorem valid_small {e : CL.Ex} (h : CL.small e = false) : CL.valid e = false := by simp [CL.valid, h]
theorem valid_none {e : CL.Ex} (h : CL.radd e [] = none) : CL.valid e = false := by simp [CL.valid, h]
theorem valid_bad {e : CL.Ex} {x : List CL.At} (h : CL.radd e [] = some x) (hg : ¬ CL.Good x) : CL.valid e = false := by simp [CL.valid, h, hg]
theorem valid_good {e : CL.Ex} {x : List CL.At} (hs : CL.small e = true) (h : CL.radd e [] = some x) (hg : CL.Good x) : CL.valid e = true ∧ CL.atoms e = x := by
  have hv : CL.valid e = true := by simp [CL.valid, h, hg, hs]
  exact ⟨hv, by simp [CL.atoms, hv]; exact (CL.radd_coll e [] x h).symm⟩
theorem Add_0 (e : CL.Ex) (w : World) (B : Nat) (cs : List Value) (base : Nat) (hR : Rd w B e cs) (hB : B ≤ base) (hb : base ≤ w.heap.size) (h8 : CL.size e ≤ 900) :
    Calls Try.prog 46 #[.slice none 0 0, .agg cs.toArray] w (AddPost base e [] none w) := clusterlocksref07.Add_c e w B cs [] base none 0 hR hB hb ⟨rfl, .inl ⟨rfl, rfl⟩⟩ (by simp; omega)
set_option maxHeartbeats 1600000 in
theorem clusterlocksref07.Atoms_c (e : CL.Ex) (w : World) (B : Nat) (cs : List Value) (hR : Rd w B e cs) (hB : B ≤ w.heap.size) : Calls Try.prog 34 #[.agg cs.toArray] w (RAts e w) := by
  obtain ⟨k, s, m, u, A, l, c, rfl⟩ := hR.shape
  obtain ⟨bE, hx0⟩ := box1 w #[.int .i64 k, .string s, .int .i64 m, .int .i64 u, .slice A l c] 28
  have hz0 := hx0.size
  cases hs : CL.small e
  · have hn : CL.nod e = 0 := by simp [CL.nod, hs]
    have HV := Lib.hid (valid_small hs)
    go_enter Try.func34, Try.ntmps34
    go_wp2_with (go_at_call 45; (with_reducible refine (clusterlocksref07.Nodes_c e _ B _ (hR.ext hx0 hB) (by omega)).mono ?_); rintro r w' ⟨rfl, hx⟩)
    go_ret2
    exact RAts.bad HV.out (hx0.tr hx)
  · have hsz : CL.size e ≤ 24 := by simp [CL.small] at hs; exact hs.2
    have hn : ((CL.nod e : Int) == 0) = false := by
      have h1 := CL.size_pos e
      have h2 : CL.nod e = CL.size e := by simp [CL.nod, hs]
      exact beq_eq_false_iff_ne.2 (by omega)
    have HS := Lib.hid hs
    clear hs
    cases hr : CL.radd e [] with
    | none =>
      have HV := Lib.hid (valid_none hr)
      go_enter Try.func34, Try.ntmps34
      go_wp2_with (first
        | (go_at_call 45; (with_reducible refine (clusterlocksref07.Nodes_c e _ B _ (hR.ext hx0 hB) (by omega)).mono ?_); rintro r w' ⟨rfl, hx⟩; obtain ⟨e0, e1, e2, e3, e4⟩ := (bE.ext hx).c5; have hz1 := hx.size)
        | (go_at_call 46; (with_reducible refine (Add_0 e _ B _ w.heap.size ((hR.ext hx0 hB).ext hx (by omega)) hB (by omega) (by omega)).mono ?_); intro r w'' hp; obtain ⟨v, rfl, hgp⟩ := hp.un_n hr))
      all_goals
        go_ret2
        exact RAts.bad HV.out ((hx0.tr hx).trans (grown_below hgp (by omega) (fun g h => by cases h)))
    | some x =>
      go_enter Try.func34, Try.ntmps34
      go_wp2_with (first
        | (go_at_call 45; (with_reducible refine (clusterlocksref07.Nodes_c e _ B _ (hR.ext hx0 hB) (by omega)).mono ?_); rintro r w' ⟨rfl, hx⟩; obtain ⟨e0, e1, e2, e3, e4⟩ := (bE.ext hx).c5; have hz1 := hx.size)
        | (go_at_call 46; (with_reducible refine (Add_0 e _ B _ w.heap.size ((hR.ext hx0 hB).ext hx (by omega)) hB (by omega) (by omega)).mono ?_); intro r w'' hp; obtain ⟨v, rfl, hown, hri, hgp⟩ := hp.un_s hr; obtain ⟨A2, c2, rfl, hc1, hc2⟩ := own_form hown))
      all_goals have hxx : Ext w w'' := (hx0.tr hx).trans (grown_below hgp (by omega) (fun g h => by cases h))
      · rename_i h9
        go_ret2
        refine RAts.bad (valid_bad hr (fun hg => ?_)) hxx
        have := hg.1
        omega
      · rename_i h9
        have h8 : x.length ≤ 8 := by omega
        have HD : Hid (CL.Dist (x.take 0)) := Lib.hid (by simp [CL.Dist])
        have HOWN := Lib.hid hown
        have hr2 := Sits.of_own hown
        have HR := Lib.hid hr
        have hz2 := hgp.size
        clear hown hr hri hgp
        go_loopw [6, 7] (fun i q wr => ∃ j : Nat, j ≤ x.length ∧ i = .int .i64 j ∧ Ext w'' wr ∧ Hid (CL.Dist (x.take j))) (fun i _ _ => x.length - (intOf i).toNat)
        case atStart => exact ⟨0, by omega, rfl, Ext.rfl', HD⟩
        case round =>
          obtain ⟨j, hj, rfl, hy, HJ⟩ := hrel
          by_cases hlt : j < x.length
          · go_wp2
            go_loopw [7] (fun i2 wr2 => ∃ q : Nat, q ≤ j ∧ i2 = .int .i64 q ∧ Ext w'' wr2 ∧ Hid (DiTo x j q)) (fun i2 _ => j - (intOf i2).toNat)
            case atStart => exact ⟨0, by omega, rfl, hy, Lib.hid DiTo.zero⟩
            case round =>
              obtain ⟨q, hq, rfl, hy2, HQ⟩ := hrel
              by_cases hlt2 : q < j
              · obtain ⟨b, o, e1, c0, c1, c2⟩ := (hr2.ext hy2).atoms hlt
                obtain ⟨b', o', e2, d0, d1, d2⟩ := (hr2.ext hy2).atoms (show q < x.length by omega)
                obtain rfl := e1
                injection e2 with e2
                injection e2 with e2 e3
                subst e2 e3
                have H1 := Lib.hid (DiTo.hit hlt2 hlt)
                have H2 := Lib.hid (HQ.out.step (by omega) hlt)
                clear c1 c2 d1 d2
                generalize x[j].n = n1 at *
                generalize x[q].n = n2 at *
                have q0 := ExtOf.cell c0
                have q1 := ExtOf.cell d0
                have hqi : (q : Int) < (x.length : Int) := by omega
                by_cases heq : n1 = n2
                · have H3 := Lib.hid (H1.out heq)
                  have H4 := Lib.hid (valid_bad HR.out (fun hg => H3.out hg.2))
                  subst heq
                  go_wp2_with fail
                  refine wp_region_ext_lit (by kernel_rfl) (by kernel_rfl) ?_
                  repeat (go_big_quiet_step (fail))
                  refine wpQuiet_nil ?_
                  intro wq hw'
                  obtain ⟨⟨wq', hxq⟩, hw''⟩ := hw'
                  subst hw''
                  go_wp2
                  go_ret2
                  exact RAts.bad H4.out (hxx.tr (hy2.tr hxq))
                · have H3 := Lib.hid (H2.out heq)
                  have hne : (n1 == n2) = false := beq_eq_false_iff_ne.2 heq
                  clear heq
                  go_wp2_with fail
                  refine wp_region_ext_lit (by kernel_rfl) (by kernel_rfl) ?_
                  repeat (go_big_quiet_step (fail))
                  refine wpQuiet_nil ?_
                  intro wq hw'
                  obtain ⟨⟨wq', hxq⟩, hw''⟩ := hw'
                  subst hw''
                  go_wp2
                  exact ⟨⟨q + 1, by omega, by go_num, hy2.tr hxq, H3⟩, by simp [intOf]; omega⟩
              · obtain rfl : q = j := by omega
                have H3 := Lib.hid (HQ.out.done hlt HJ.out)
                go_wp2
                exact ⟨⟨q + 1, by omega, by go_num, hy2, H3⟩, by simp [intOf]; omega⟩
          · have H3 := Lib.hid (valid_good HS.out HR.out ⟨h8, by have := HJ.out; rwa [List.take_of_length_le (by omega)] at this⟩)
            go_wp2
            go_ret2
            exact RAts.good H3.out (own_ext HOWN.out hy) (hxx.tr hy)
theorem clusterlocksref07.ValidExpr_c (e : CL.Ex) (w : World) (B : Nat) (cs : List Value) (hR : Rd w B e cs) (hB : B ≤ w.heap.size) : Calls Try.prog 23 #[.agg cs.toArray] w fun r w' => r = .returned (.bool (CL.valid e)) ∧ Ext w w' := by
  obtain ⟨k, s, m, u, A, l, c, rfl⟩ := hR.shape
  have hx0 := Ext.new w (.cells #[.int .i64 k, .string s, .int .i64 m, .int .i64 u, .slice A l c] 28)
  have hz0 := hx0.size
  go_enter Try.func23, Try.ntmps23
  go_wp2_with (go_at_call 34; (with_reducible refine (clusterlocksref07.Atoms_c e _ B _ (hR.ext hx0 hB) (by omega)).mono ?_); rintro r w' ⟨v, rfl, hown, hx⟩; obtain ⟨A2, c2, rfl, hc1, hc2⟩ := own_form hown)
  go_ret
  exact ⟨rfl, hx0.tr hx⟩
theorem clusterlocksref08.Atoms_c (e : CL.Ex) (w : World) (B : Nat) (cs : List Value) (hR : Rd w B e cs) (hB : B ≤ w.heap.size) : Calls Try.prog 14 #[.agg cs.toArray] w (OwnAts w.heap.size (CL.atoms e) w) := by
  obtain ⟨k, s, m, u, A, l, c, rfl⟩ := hR.shape
  have hx0 := Ext.new w (.cells #[.int .i64 k, .string s, .int .i64 m, .int .i64 u, .slice A l c] 28)
  have hz0 := hx0.size
  go_enter Try.func14, Try.ntmps14
  go_wp2_with (go_at_call 34; (with_reducible refine (clusterlocksref07.Atoms_c e _ B _ (hR.ext hx0 hB) (by omega)).mono ?_); rintro r w' ⟨v, rfl, hown, hx⟩; obtain ⟨A2, c2, rfl, hc1, hc2⟩ := own_form hown)
  go_ret
  exact ⟨_, rfl, own_le hown hz0, hx0.tr hx⟩
end Go.Proofs.Ytmboojbhnmdnkaa
